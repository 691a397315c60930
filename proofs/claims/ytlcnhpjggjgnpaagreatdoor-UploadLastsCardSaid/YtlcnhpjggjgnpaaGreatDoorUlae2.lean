/- A part of the proof. -/
import Derived.Test.YtlcnhpjggjgnpaaGreatDoorUlab6
import Derived.Test.YtlcnhpjggjgnpaaGreatDoorUlad2
import Derived.Test.YtlcnhpjggjgnpaaGreatDoorUlad5
import Derived.Test.YtlcnhpjggjgnpaaGreatDoorUlad7
import Derived.Test.YtlcnhpjggjgnpaaGreatDoorUlae0
import Derived.Test.YtlcnhpjggjgnpaaGreatDoorUlae1
namespace Go.Proofs.YtlcnhpjggjgnpaaGreatDoor
set_option linter.unusedVariables false
set_option linter.unusedSimpArgs false
open Go.RowKit Go.MapKept
theorem ukey_ext (x : Nat) : (ukeyOf x).extract 2 (ukeyOf x).size = ⟨(hexOf (putOf x 4)).toArray⟩ := by
 have h2 : (⟨(hexOf (putOf x 4)).toArray⟩ : ByteArray).size = 8 := by
  show ((hexOf (putOf x 4)).toArray).size = 8
  rw [List.size_toArray, hexOf_length, putOf_length]
 rw [ukeyOf_size]
 unfold ukeyOf
 have h3 : (⟨#[117, 47]⟩ : ByteArray).size = 2 := rfl
 exact ByteArray.extract_append_eq_right h3.symm (by rw [h3, h2])
theorem owns_form {W : World} {base : Nat} {v : Value} {l : List UInt8} (h : Owns W base v l) (hne : l ≠ []) : ∃ g c, v = .slice (some ⟨g, 0, none⟩) l.length c := by
 rcases h.2 with ⟨h1, _⟩ | ⟨g', cap, cur, e, _⟩
 ·have : l.length = 0 := by omega
  exact absurd (List.length_eq_zero_iff.1 this) hne
 ·exact ⟨g', cap, e⟩
theorem resumeAll_step {nm : ByteArray} {E : List UE} {k : Nat} {x : UE} (hx : E[k]? = some x) (T : TM) (S : List Ses) :
  resumeAll nm (E.drop k) T S = if (resumeOf T nm x).1 = 0 then resumeAll nm (E.drop (k + 1)) (resumeOf T nm x).2.1 (S ++ (resumeOf T nm x).2.2.toList) else ((resumeOf T nm x).1, (resumeOf T nm x).2.1, S) := by
 obtain ⟨hk, rfl⟩ := List.getElem?_eq_some_iff.1 hx
 rw [List.drop_eq_getElem_cons hk, resumeAll]
structure UOk (nm : ByteArray) (E : List UE) (T0 : TM) (n t k : Nat) (T : TM) (S : List Ses) : Prop where
 eq : resumeAll nm E T0 [] = resumeAll nm (E.drop k) T S
 tidy : Tidy T.m (n + 2 * k) (t + 2 * k)
 room : T.m.room = T0.m.room
 ok : TabOk T.fs
 later : ∀ i x, k ≤ i → E[i]? = some x → fget T.fs (ukeyOf x.id) = some (uval x)
 size : T.size ≤ T0.size + k * 1048576
 ids : ∀ s ∈ S, ∃ i x, i < k ∧ E[i]? = some x ∧ s.id = (x.id : Int)
theorem UOk.start {nm : ByteArray} {E : List UE} {T : TM} {nx n t : Nat} (hU : UTab T.fs E nx) (ht : Tidy T.m n t) : UOk nm E T n t 0 T [] :=
 ⟨rfl, ht, rfl, hU.ok, fun i x _ hx => hU.get (List.mem_of_getElem? hx), by omega, fun s hs => by simp at hs⟩
theorem ids_ne {E : List UE} (h : (E.map (·.id)).Nodup) {i j : Nat} {x y : UE} (hi : E[i]? = some x) (hj : E[j]? = some y) (hne : i ≠ j) : x.id ≠ y.id := by
 intro e
 have h1 : (E.map (·.id))[i]? = some x.id := by rw [List.getElem?_map, hi]; rfl
 have h2 : (E.map (·.id))[j]? = some y.id := by rw [List.getElem?_map, hj]; rfl
 rw [e] at h1
 exact hne ((List.getElem?_inj (by have := (List.getElem?_eq_some_iff.1 h1).1; exact this) h).1 (h1.trans h2.symm))
theorem UOk.step {nm : ByteArray} {E : List UE} {T0 T : TM} {n t k : Nat} {S : List Ses} (h : UOk nm E T0 n t k T S) (hE : ∀ x ∈ E, UEok x) (hnd : (E.map (·.id)).Nodup) {x : UE} (hx : E[k]? = some x) (hc : (resumeOf T nm x).1 = 0) :
  UOk nm E T0 n t (k + 1) (resumeOf T nm x).2.1 (S ++ (resumeOf T nm x).2.2.toList) := by
 have hxk := hE x (List.mem_of_getElem? hx)
 refine ⟨?_, (h.tidy.resume nm x).mono (by omega) (by omega), (resume_room T nm x).trans h.room, ?_, fun i y hi hy => ?_, ?_, fun s hs => ?_⟩
 ·rw [h.eq, resumeAll_step hx, if_pos hc]
 ·rcases resume_fs T nm x with e | e
  ·rw [e]; exact h.ok
  ·rw [e]; exact h.ok.fdel _
 ·have h1 := h.later i y (by omega) hy
  rcases resume_fs T nm x with e | e
  ·rw [e]; exact h1
  ·rw [e, fget_fdel_other]
   ·exact h1
   ·intro e2
    have hyk := hE y (List.mem_of_getElem? hy)
    exact ids_ne hnd hx hy (by omega) (ukey_inj (by have := hxk.id1; omega) (by have := hyk.id1; omega) e2)
 ·have h1 := resume_size T nm x
  have h2 := h.size
  rw [Nat.succ_mul]
  refine Nat.le_trans h1 ?_
  rw [← Nat.add_assoc]
  exact Nat.add_le_add_right h2 _
 ·rcases List.mem_append.1 hs with hs | hs
  ·obtain ⟨i, y, h1, h2, h3⟩ := h.ids s hs
   exact ⟨i, y, by omega, h2, h3⟩
  ·refine ⟨k, x, by omega, hx, ?_⟩
   unfold resumeOf at hs
   split at hs
   ·simp at hs
   ·split at hs
    ·simp at hs; rw [hs]
    ·simp at hs
section
variable {w wr : World} {d u st t mp j b : Nat} {nm : ByteArray} {T : TM} {next : Int} {L L1 L2 : UL} {rs : List (Res w.heap.size)}
theorem uget_none {L : UL} {id : Int} (h : ∀ y ∈ L, y.1.id ≠ id) : uget L id = none := by
 unfold uget
 rw [List.find?_eq_none]
 intro y hy
 simpa using h y hy
theorem Own.diskOf {W : World} {A : List (Res w.heap.size)} (h : Own w W (tRes w.heap.size d j t b nm T ++ A)) : Own w W (rDisk w.heap.size d T.m :: A) :=
 (h.perm (rs' := rObj w.heap.size j (jrnObj d nm T.size) :: rObj w.heap.size t (tabObj j b T.down) :: rMap w.heap.size b T.fs :: rDisk w.heap.size d T.m :: A) (by
  show ([rDisk w.heap.size d T.m] ++ ([rObj w.heap.size j (jrnObj d nm T.size), rObj w.heap.size t (tabObj j b T.down), rMap w.heap.size b T.fs] ++ A)).Perm ([rObj w.heap.size j (jrnObj d nm T.size), rObj w.heap.size t (tabObj j b T.down), rMap w.heap.size b T.fs] ++ ([rDisk w.heap.size d T.m] ++ A))
  exact List.perm_append_comm_assoc _ _ _)).drop.drop.drop
theorem Own.dropAll {W : World} {x : Res w.heap.size} : ∀ {A M : List (Res w.heap.size)}, Own w W (x :: (A ++ M)) → Own w W (x :: M)
 | [], M, h => h
 | y :: A, M, h => Own.dropAll (A := A) (M := M) (h.swap.drop)
theorem range_reads {W : World} {g n : Nat} {l : List UInt8} (h : W.rangeAt g 0 (l.map u8v)) (hl : l.length = n) (hn : n ≤ maxLen) : Reads W (.slice (some ⟨g, 0, none⟩) n n) l := by
 subst hl
 refine .inr ⟨⟨g, 0, none⟩, l.length, rfl, Nat.le_refl _, hn, fun k v hv => ?_⟩
 rw [Addr.add_lit]
 exact h k v hv
def UOpPost (w : World) (d j t b st : Nat) (nm : ByteArray) (rs : List (Res w.heap.size)) (nx : Nat) (r : Int × TM × List Ses) (e : Ending) (w' : World) : Prop :=
 (¬ r.1 = 0 ∧ (∃ v : Option Addr, e = .returned (.tuple #[.pointer v, .int .i64 r.1])) ∧ Own w w' (rDisk w.heap.size d r.2.1.m :: rs)) ∨
 (r.1 = 0 ∧ ∃ (u mp : Nat) (L : UL), e = .returned (.tuple #[.pointer (some ⟨u, 0, none⟩), .int .i64 0]) ∧ L.map (·.1) = r.2.2 ∧ Own w w' (tRes w.heap.size d j t b nm r.2.1 ++ (uRes w.heap.size d u st t mp (nx : Int) L ++ rs)))
set_option maxRecDepth 100000 in
set_option maxHeartbeats 2000000 in
theorem uopen_calls {w0 : World} (h : Own w w0 (tRes w.heap.size d j t b nm T ++ (rObj w.heap.size st (stObj1 d) :: rs))) (hgl : GLen w) {E : List UE} {nx : Nat} (hU : UTab T.fs E nx) {n n' : Nat} (ht : Tidy T.m n n') (hn : 2 * n + 2 * n' + 8 * E.length + 200 < 549755813888) (hs : T.size + E.length * 1048576 ≤ 1099511627776) (hroom : T.m.room ≤ 1048576) (hfl : T.fs.length ≤ 1000000) :
  Calls Tryz.prog 20 #[.pointer (some ⟨d, 0, none⟩), .pointer (some ⟨st, 0, none⟩), .pointer (some ⟨t, 0, none⟩)] w0 (UOpPost w d j t b st nm rs nx (uOpenOf T nm E)) := by
 have hmm := @run_makeMap Tryz.prog
 have h1 := h.newPMap
 have h2 := h1.alloc (uObj d st t 1 w0.heap.size)
 change Own w ((w0.alloc (.map #[] 0)).alloc (.cells #[.pointer (some ⟨d, 0, none⟩), .pointer (some ⟨st, 0, none⟩), .pointer (some ⟨t, 0, none⟩), .int .i64 1, .map (some w0.heap.size)] 104)) _ at h2
 rw [World.size_alloc] at h2
 have h3 : Own w _ (tRes w.heap.size d j t b nm T ++ (uRes w.heap.size d (w0.heap.size + 1) st t w0.heap.size 1 [] ++ rs)) := h2.perm (perm_fresh ..)
 obtain ⟨R, hR⟩ : ∃ R, uOpenOf T nm E = R := ⟨_, rfl⟩
 rw [hR]
 unfold uOpenOf at hR
 have H3 := Lib.hid h3
 have HU := Lib.hid hU
 have HT := Lib.hid ht
 have HN := Lib.hid (And.intro hn (And.intro hs (And.intro hroom hfl)))
 have HGL := Lib.hid hgl
 have HR := Lib.hid hR
 have HE := Lib.hid (show E.length ≤ 1000000 from Nat.le_trans hU.len hfl)
 clear h h1 h2 h3 hU ht hn hs hroom hfl hgl hR
 go_enter Tryz.func20, Tryz.ntmps20
 go_wp2_with fail
 generalize (w0.alloc (.map #[] 0)).alloc (.cells #[.pointer (some ⟨d, 0, none⟩), .pointer (some ⟨st, 0, none⟩), .pointer (some ⟨t, 0, none⟩), .int .i64 1, .map (some w0.heap.size)] 104) = w2 at H3 ⊢
 generalize w0.heap.size + 1 = u at *
 generalize w0.heap.size = mp at *
 obtain ⟨F, hb, hm⟩ := H3.out.tab
 have HGET := Lib.hid (tget_calls hb hm ⟨#[117]⟩ (by have := HU.out.ok.val ⟨#[117]⟩; omega))
 clear hb hm hmm
 refine HGET.out.mono ?_
 rintro e w3 ⟨v, rfl, ho, hk3⟩
 have H4 := Lib.hid ((H3.out.addBytes ho hk3).toEnd)
 obtain ⟨va, vc, rfl, -, -⟩ := ho.bytes.form
 have HRD := Lib.hid ho.bytes.reads
 clear ho hk3 H3 HGET
 obtain ⟨bb, hbb⟩ : ∃ bb, bb = (fget T.fs ⟨#[117]⟩).isSome := ⟨_, rfl⟩
 rw [← hbb]
 have HBB := Lib.hid hbb
 obtain ⟨vl, hvl⟩ : ∃ vl, vl = (fget T.fs ⟨#[117]⟩).getD [] := ⟨_, rfl⟩
 rw [← hvl] at H4 HRD ⊢
 have HVL := Lib.hid hvl
 clear hbb hvl
 go_upto_if 46 with fail
 go_cut [11, 12] from 47 to 67 (fun _ _ wx => Own w wx (tRes w.heap.size d j t b nm T ++ (uRes w.heap.size d u st t mp (nx : Int) [] ++ rs)))
 case first =>
  rcases HU.out.next with ⟨hnn, hnx⟩ | ⟨hnn, hnx⟩
  ·have hb2 : bb = false := by
    rw [HBB.out]
    have : fget T.fs ⟨#[117]⟩ = none := hnn
    rw [this]; rfl
   subst hb2
   subst hnx
   clear hnn HBB
   go_wp2_with fail
   go_meet
   exact H4.out.dropEnd
  ·have hf : fget T.fs ⟨#[117]⟩ = some (putOf nx 8) := hnn
   have hb2 : bb = true := by rw [HBB.out, hf]; rfl
   subst hb2
   have hv2 : vl = putOf nx 8 := by rw [HVL.out, hf]; rfl
   subst hv2
   have hgc := get_calls HRD.out (by rw [putOf_length]; exact Nat.le_refl _)
   rw [getOf_putOf 8 nx (by omega)] at hgc
   have HGC := Lib.hid hgc
   have g1 : decide ((nx : Int) < 1) = false := decide_eq_false (by omega)
   have g2 : decide ((4294967296 : Int) < (nx : Int)) = false := decide_eq_false (by omega)
   have g3 : IntKind.i64.wrap (nx : Int) = (nx : Int) := IntWalk.i64_in _ (by omega)
   clear hnn HBB HVL hf hgc HRD hnx
   go_wp2_with fail
   refine HGC.out.mono ?_
   rintro e w4 ⟨rfl, hk4⟩
   have h5 := H4.out.dropEnd.quiet hk4
   have c3 := (u_cells (h5.at (b := u) (o := uObj d st t 1 mp) (by simp [uRes])).1).2.2.2.1
   have f3 := free_at (h5.at (b := u) (o := uObj d st t 1 mp) (by simp [uRes])).1 3
   have h6 := (Own.pull (l₁ := tRes w.heap.size d j t b nm T) h5).store 3 (.int .i64 (nx : Int))
   have h7 : Own w (w4.setCell ⟨u, 3, none⟩ (.int .i64 (nx : Int))) (tRes w.heap.size d j t b nm T ++ (uRes w.heap.size d u st t mp (nx : Int) [] ++ rs)) := h6.perm (List.perm_middle (l₁ := tRes w.heap.size d j t b nm T)).symm
   have H7 := Lib.hid h7
   clear h5 h6 h7 hk4 H4 HGC
   go_wp2_with fail
   go_meet
   exact H7.out
 case rest =>
  have ho := hcut
  have HO := Lib.hid ho
  obtain ⟨F, hb, hm⟩ := ho.tab
  have HLEN := Lib.hid (tlen_runs hb hm)
  have hky := tkeys_calls hb hm HU.out.ok.sorted HU.out.ok.names (by have := HN.out.2.2.2; omega) hdU ⟨#[]⟩ (T.fs.length : Int)
  rw [HU.out.ks] at hky
  unfold hdU at hky
  have HKY := Lib.hid hky
  clear hcut ho hb hm hky H4 HRD HBB HVL
  go_wp2_with fail
  refine HLEN.out.out.mono ?_
  rintro e w' ⟨rfl, rfl⟩
  go_wp2_with fail
  refine HKY.out.mono ?_
  rintro e w4 ⟨v, rfl, hst, hk4⟩
  obtain ⟨ka, kc, rfl⟩ := hst.form
  have H5 := Lib.hid ((HO.out.addStrs hst hk4).toEnd)
  clear hst hk4 HO HLEN HKY
  obtain ⟨ks, hks⟩ : ∃ ks, ks = E.map (fun x => ukeyOf x.id) := ⟨_, rfl⟩
  rw [← hks] at H5 ⊢
  have hkl : ks.length = E.length := by rw [hks, List.length_map]
  have HKS := Lib.hid hks
  clear hks
  rw [hkl] at H5 ⊢
  have HKL := Lib.hid hkl
  clear hkl
  go_wp2_with fail
  go_loopw [14, 15, 16, 17, 18, 19, 20, 21, 22, 23, 24, 72] (fun _ _ _ _ _ _ _ _ _ _ _ iv wx => ∃ (k : Nat) (T' : TM) (Lk : UL), iv = .int .i64 (k : Int) ∧ k ≤ E.length ∧ UOk nm E T n n' k T' (Lk.map (·.1)) ∧ Own w wx (tRes w.heap.size d j t b nm T' ++ (uRes w.heap.size d u st t mp (nx : Int) Lk ++ (rStrs w.heap.size (.slice ka E.length kc) ks :: rs)))) (fun _ _ _ _ _ _ _ _ _ _ _ iv _ => E.length - (intOf iv).toNat)
  case atStart => exact ⟨0, T, [], rfl, Nat.zero_le _, UOk.start HU.out HT.out, H5.out⟩
  case round =>
   obtain ⟨k, T', Lk, rfl, hk, hok, ho⟩ := hrel
   have j0 : (0 : Int) ≤ k := by omega
   have i1 : (E.length : Int) ≤ 1000000 := by have := HE.out; omega
   have HOK := Lib.hid hok
   by_cases hlt : k < E.length
   ·obtain ⟨x, hx⟩ : ∃ x, E[k]? = some x := ⟨E[k], List.getElem?_eq_getElem hlt⟩
    have j2 : (k : Int) < E.length := by omega
    have hxm := List.mem_of_getElem? hx
    have HX := Lib.hid (HU.out.each x hxm)
    have HXK := Lib.hid hx
    obtain ⟨g2, rfl, hc, -, -⟩ := (ho.strs (kv := .slice ka E.length kc) (ks := ks) (by simp)).cell (i := k) (s := ukeyOf x.id) (by rw [HKS.out, List.getElem?_map, hx]; rfl)
    obtain ⟨F, hb, hm⟩ := ho.tab
    have hgf := hok.later k x (Nat.le_refl _) hx
    have hget := tget_calls hb hm (ukeyOf x.id) (by have := hok.ok.val (ukeyOf x.id); omega)
    unfold GetPost at hget
    rw [hgf] at hget
    simp only [Option.isSome_some, Option.getD_some] at hget
    have HGET := Lib.hid hget
    have HO := Lib.hid ho
    have hsz : ((ukeyOf x.id).size : Int) = 10 := by rw [ukeyOf_size]; rfl
    have hext := ukey_ext x.id
    have HUN := Lib.hid (fun W => unhex4_calls W (x := putOf x.id 4) (putOf_length _ _))
    obtain ⟨ky, hky⟩ : ∃ ky, ky = ukeyOf x.id := ⟨_, rfl⟩
    rw [← hky] at hc HGET hsz hext
    obtain ⟨hx4, hhx4⟩ : ∃ y, y = (⟨(hexOf (putOf x.id 4)).toArray⟩ : ByteArray) := ⟨_, rfl⟩
    rw [← hhx4] at hext HUN
    have HLT := Lib.hid hlt
    clear hok ho hk hlt hx hxm hb hm hgf hget hky hhx4 H5
    go_wp2_with fail
    refine HGET.out.mono ?_
    rintro e w5 ⟨v2, rfl, ho5, hk5⟩
    obtain ⟨g5, c5, rfl⟩ := owns_form ho5 (by intro e; have := congrArg List.length e; rw [uval_length] at this; simp at this)
    have h6 := (HO.out.addBytes ho5 hk5).toEnd
    have htk := taken_calls (HGL.out.keep h6.keeps) HX.out ho5.bytes.reads
    have H6 := Lib.hid h6
    obtain ⟨ul, hul⟩ : ∃ ul, ul = (uval x).length := ⟨_, rfl⟩
    rw [← hul] at htk H6 ⊢
    have HTK := Lib.hid htk
    have HUL := Lib.hid hul
    clear ho5 hk5 h6 htk hul HO HGET hc
    go_wp2_with fail
    refine HTK.out.mono ?_
    rintro e w6 ⟨rfl, hk6⟩
    have h7 := (H6.out.quiet hk6).endObj (bxO x.repo x.til 0)
    have H7 := Lib.hid (show Own w (w6.alloc (.cells #[.string x.repo, .int .i64 x.til, .int .i64 0] 43)) _ from h7)
    clear hk6 h7 H6 HTK
    go_wp2_with fail
    refine (HUN.out _).mono ?_
    rintro e w7 ⟨g7, rfl, hrg, hk7⟩
    have H8 := Lib.hid (H7.out.quiet hk7)
    have hgc := get_calls (range_reads hrg (putOf_length _ _) (by unfold maxLen; omega)) (by rw [putOf_length]; omega)
    have hxid := HX.out.id1
    rw [getOf_putOf 4 x.id (by omega)] at hgc
    have HGC := Lib.hid hgc
    have hw := IntWalk.i64_in (x.id : Int) (by omega)
    clear hrg hk7 hgc hxid H7 HUN hsz hext
    go_wp2_with fail
    refine HGC.out.mono ?_
    rintro e w8 ⟨rfl, hk8⟩
    have h9 := H8.out.quiet hk8
    have HBX := Lib.hid (h9.at (b := w6.heap.size) (o := bxO x.repo x.til 0) (by simp)).1
    have H9 := Lib.hid h9
    generalize w6.heap.size = bx at *
    clear hk8 h9 H8 HGC
    have hrs := uresume_calls H9.out HOK.out.tidy.good (by have := HN.out.1; have := HLT.out; omega) (by
     have h1 := HOK.out.size
     have h2 := HN.out.2.1
     have h3 : k * 1048576 ≤ E.length * 1048576 := Nat.mul_le_mul_right _ (Nat.le_of_lt HLT.out)
     omega) HX.out (uget_none (fun y hy e => by
      obtain ⟨i, z, h1, h2, h3⟩ := HOK.out.ids y.1 (List.mem_map.2 ⟨y, hy, rfl⟩)
      exact ids_ne HU.out.ids h2 HXK.out (by omega) (by omega))) (by
      have h1 := cont_room HOK.out.tidy.good (ukeyOf x.id)
      rw [HOK.out.room] at h1
      have := HN.out.2.2.1
      omega) (g := g5) (c := c5 - 1) (fun W M hW => by
      have hb := (hW.bytes (v := .slice (some ⟨g5, 0, none⟩) ul c5) (l := uval x) (by simp)).1
      rw [HUL.out] at hb
      have h1 := hb.form
      obtain ⟨a', c', e', q1, -⟩ := h1
      cases e'
      have hul := uval_length x
      have := hb.off 1 x.e.length (by omega) (by omega)
      rw [Nat.zero_add, (laid_cut x).2.1] at this
      exact this)
    obtain ⟨rr, hrr⟩ : ∃ rr, rr = resumeOf T' nm x := ⟨_, rfl⟩
    rw [← hrr] at hrs
    have HRS := Lib.hid hrs
    have HRR := Lib.hid hrr
    clear hrs hrr H9
    go_wp2_with (refine wpList_load_row rfl 43 _ rfl bx rfl 43 #[.string x.repo, .int .i64 x.til, .int .i64 0] (0, 0) _ HBX.out Tryz.underlying43 rfl (by kernel_rfl) ?_)
    refine HRS.out.mono ?_
    rintro e w9 ⟨rfl, hcs⟩
    obtain ⟨Lk', hL, ho'⟩ : ∃ Lk' : UL, Lk'.map (·.1) = Lk.map (·.1) ++ rr.2.2.toList ∧ Own w w9 (tRes w.heap.size d j t b nm rr.2.1 ++ (uRes w.heap.size d u st t mp (nx : Int) Lk' ++ (rStrs w.heap.size (.slice (some ⟨g2, 0, none⟩) E.length kc) ks :: rs))) := by
     rcases hcs with ⟨e, h1⟩ | ⟨s, sp, q, e, h1⟩
     ·exact ⟨Lk, by rw [e]; simp, h1.dropEnd.dropEnd⟩
     ·exact ⟨Lk ++ [(s, sp, q)], by rw [e]; simp, h1.dropEnd.dropEnd⟩
    have HL := Lib.hid hL
    have HO' := Lib.hid ho'
    clear hcs hL ho' HRS HBX hw
    obtain ⟨c1, T2, so⟩ := rr
    dsimp only at HL HO' ⊢
    by_cases hc : c1 = 0
    ·subst hc
     have hst := HOK.out.step HU.out.each HU.out.ids HXK.out (by rw [← HRR.out])
     rw [← HRR.out] at hst
     have hrel : ∃ (k' : Nat) (T'' : TM) (Lk'' : UL), Value.int .i64 ((k : Int) + 1) = .int .i64 (k' : Int) ∧ k' ≤ E.length ∧ UOk nm E T n n' k' T'' (Lk''.map (·.1)) ∧ Own w w9 (tRes w.heap.size d j t b nm T'' ++ (uRes w.heap.size d u st t mp (nx : Int) Lk'' ++ (rStrs w.heap.size (.slice (some ⟨g2, 0, none⟩) E.length kc) ks :: rs))) :=
      ⟨k + 1, T2, Lk', rfl, HLT.out, by rw [HL.out]; exact hst, HO'.out⟩
     have HREL := Lib.hid hrel
     clear hst hrel HO' HL HRR HOK
     go_wp2_with fail
     go_roundw
     case rel => exact HREL.out
     case measure => have := HLT.out; simp [intOf]; omega
    ·have hcb : (c1 != 0) = true := by simpa using hc
     have hfin : UOpPost w d j t b st nm rs nx R (.returned (.tuple #[.pointer none, .int .i64 c1])) w9 := by
      have h1 := HOK.out.eq
      rw [resumeAll_step HXK.out, ← HRR.out] at h1
      dsimp only at h1
      rw [if_neg hc] at h1
      have h2 := HR.out
      rw [h1] at h2
      dsimp only at h2
      rw [if_neg hc] at h2
      subst h2
      refine .inl ⟨hc, ⟨none, rfl⟩, ?_⟩
      have h3 := HO'.out.diskOf
      have h4 : Own w w9 (rDisk w.heap.size d T2.m :: ((uRes w.heap.size d u st t mp (nx : Int) Lk' ++ [rStrs w.heap.size (.slice (some ⟨g2, 0, none⟩) E.length kc) ks]) ++ rs)) := by
       simpa [List.append_assoc] using h3
      exact h4.dropAll
     have HFIN := Lib.hid hfin
     clear hfin hc HO' HL HRR HOK HR
     go_wp2_with fail
     go_ret2
     exact HFIN.out
   ·obtain rfl : k = E.length := by omega
    have hsw := usweep_calls ho hok.tidy (by have := HN.out.1; omega) (fun f => by have := hok.ok.val f; omega)
    obtain ⟨sr, hsr⟩ : ∃ sr, sr = sweepOf T' := ⟨_, rfl⟩
    rw [← hsr] at hsw
    have h1 := hok.eq
    rw [List.drop_length] at h1
    have h1 : resumeAll nm E T [] = (0, T', Lk.map (·.1)) := h1
    have h2 := HR.out
    rw [h1] at h2
    dsimp only at h2
    rw [if_pos rfl, ← hsr] at h2
    subst h2
    have HSW := Lib.hid hsw
    clear hok ho hk hlt hsw hsr h1 HOK HR H5
    go_wp2_with fail
    refine HSW.out.mono ?_
    rintro e w9 ⟨rfl, h9⟩
    have H9 := Lib.hid h9
    clear h9 HSW
    go_wp2_with fail
    go_ret2
    obtain ⟨c1, T2⟩ := sr
    by_cases hc : c1 = 0
    ·subst hc
     exact .inr ⟨rfl, u, mp, Lk, rfl, rfl, H9.out.dropEnd⟩
    ·refine .inl ⟨hc, ⟨some ⟨u, 0, none⟩, rfl⟩, ?_⟩
     have h3 := H9.out.diskOf
     have h4 : Own w w9 (rDisk w.heap.size d T2.m :: ((uRes w.heap.size d u st t mp (nx : Int) Lk ++ [rStrs w.heap.size (.slice ka E.length kc) ks]) ++ rs)) := by
      simpa [List.append_assoc] using h3
     exact h4.dropAll
end
end Go.Proofs.YtlcnhpjggjgnpaaGreatDoor
namespace Go.Proofs.YtlcnhpjggjgnpaaGreatDoor
set_option linter.unusedVariables false
set_option linter.unusedSimpArgs false
open Go.RowKit Go.MapKept
open Go.ChangeMaps (setBlock)
def yObj (d st t u : Nat) : Obj := .cells #[.pointer (some ⟨d, 0, none⟩), .pointer (some ⟨st, 0, none⟩), .pointer (some ⟨t, 0, none⟩), .pointer (some ⟨u, 0, none⟩)] 35
section
variable {w wr : World} {rs : List (Res w.heap.size)}
theorem oneT_names (R : Int) : namesOf (oneT R []).now hdU = [] := by
 show namesOf [(nmT, [])] hdU = []
 decide +kernel
theorem oneT_sorted (R : Int) : FSorted (oneT R []).now := by
 show FSorted [(nmT, [])]
 simp [FSorted]
set_option maxRecDepth 100000 in
set_option maxHeartbeats 1000000 in
theorem opened13_fresh {w0 : World} {d : Nat} {R : Int} (hR0 : 0 ≤ R) (hR1 : R ≤ 67108864) (h : Own w w0 (rDisk w.heap.size d (newOf R) :: rs)) :
  Calls Tryz.prog 31 #[.pointer (some ⟨d, 0, none⟩)] w0 (fun e w' => ∃ y st j t b u mp, e = .returned (.tuple #[.pointer (some ⟨y, 0, none⟩), .int .i64 0]) ∧ Own w w' (tRes w.heap.size d j t b nmT ⟨oneT R [], 0, [], false⟩ ++ (uRes w.heap.size d u st t mp 1 [] ++ (rObj w.heap.size y (yObj d st t u) :: rs)))) := by
 have hg : Good (newOf R) 0 := Good.new hR0 hR1
 have hb := bnew_calls h hg (by omega)
 rw [show bNewOf (newOf R) = (0, newOf R) by simp [bNewOf, thereOf, newOf, fget]] at hb
 have HB := Lib.hid hb
 have HG := Lib.hid hg
 clear h hb hg hR0 hR1
 go_enter Tryz.func31, Tryz.ntmps31
 go_wp2_with fail
 refine HB.out.mono ?_
 rintro e w1 (⟨hn, -, -⟩ | ⟨-, st, rfl, h1⟩)
 ·exact absurd rfl hn
 have hop := topen_calls h1 HG.out (by omega) nmT
 rw [topen_empty] at hop
 unfold nmT at hop
 have HOP := Lib.hid hop
 clear hop h1 HB HG
 go_wp2_with fail
 refine HOP.out.mono ?_
 rintro e w2 (⟨hn, -, -⟩ | ⟨size, fs, j, t, b, hs, rfl, h2⟩)
 ·cases hn
 simp only [Option.some.injEq, Prod.mk.injEq] at hs
 obtain ⟨rfl, rfl⟩ := hs
 have hup := uopen_none (d := d) (j := j) (t := t) (b := b) (nm := nmT) (m := oneT R []) (size := 0) (dn := false) (st := st) (rs := rs) (w0 := w2) h2 rfl (oneT_sorted R) (fun p hp => by
  have hp : p ∈ [(nmT, ([] : List UInt8))] := hp
  rw [List.mem_singleton] at hp
  rw [hp]; decide) (show [(nmT, ([] : List UInt8))].length ≤ 1099511627775 by decide) (oneT_names R)
 have HUP := Lib.hid hup
 clear hup h2 HOP
 go_wp2_with fail
 refine HUP.out.mono ?_
 rintro e w3 ⟨u, mp, rfl, h3⟩
 have H3 := Lib.hid (h3.endObj (yObj d st t u))
 clear h3 HUP
 go_wp2_with fail
 go_ret2
 exact ⟨_, st, j, t, b, u, mp, rfl, H3.out⟩
theorem y_cells {w : World} {y d st t u : Nat} (h : w.heap[y]? = some (yObj d st t u)) : w.cell? ⟨y, 0, none⟩ = some (.pointer (some ⟨d, 0, none⟩)) ∧ w.cell? ⟨y, 1, none⟩ = some (.pointer (some ⟨st, 0, none⟩)) ∧ w.cell? ⟨y, 2, none⟩ = some (.pointer (some ⟨t, 0, none⟩)) ∧ w.cell? ⟨y, 3, none⟩ = some (.pointer (some ⟨u, 0, none⟩)) :=
 ⟨cell_at h rfl, cell_at h rfl, cell_at h rfl, cell_at h rfl⟩
set_option maxRecDepth 100000 in
set_option maxHeartbeats 1000000 in
theorem yard13_calls {w0 : World} {R : Int} (hR0 : 0 ≤ R) (hR1 : R ≤ 67108864) (h : Own w w0 rs) :
  Calls Tryz.prog 7 #[.int .i64 R] w0 (fun e w' => ∃ y d st j t b u mp, e = .returned (.pointer (some ⟨y, 0, none⟩)) ∧ Own w w' (tRes w.heap.size d j t b nmT ⟨oneT R [], 0, [], false⟩ ++ (uRes w.heap.size d u st t mp 1 [] ++ (rObj w.heap.size y (yObj d st t u) :: rs)))) := by
 obtain ⟨d, w1, hnew, h1⟩ := h.new R hR0 hR1
 have HO := Lib.hid (opened13_fresh hR0 hR1 h1)
 clear h h1 hR0 hR1
 go_enter Tryz.func7, Tryz.ntmps7
 go_wp2_with fail
 refine hnew.out.mono ?_
 rintro e w' ⟨rfl, rfl⟩
 clear hnew
 go_wp2_with fail
 refine HO.out.mono ?_
 rintro e w2 ⟨y, st, j, t, b, u, mp, rfl, h2⟩
 obtain ⟨-, -, -, k3⟩ := y_cells (h2.at (b := y) (o := yObj d st t u) (by simp)).1
 have H2 := Lib.hid h2
 clear h2 HO
 go_wp2_with fail
 go_ret
 exact ⟨y, d, st, j, t, b, u, mp, rfl, H2.out⟩
end
end Go.Proofs.YtlcnhpjggjgnpaaGreatDoor
namespace Go.Proofs.YtlcnhpjggjgnpaaGreatDoor
set_option linter.unusedVariables false
set_option linter.unusedSimpArgs false
open Go.RowKit Go.MapKept
def o13Of (m : DM) (E : List UE) : Int × DM × Option (TM × List Ses) :=
 if (bNewOf m).1 = 0 then
  (match (tOpenOf (bNewOf m).2 nmT).tab with
   | none => ((tOpenOf (bNewOf m).2 nmT).code, (tOpenOf (bNewOf m).2 nmT).m, none)
   | some sf =>
    if (uOpenOf ⟨(tOpenOf (bNewOf m).2 nmT).m, sf.1, sf.2, false⟩ nmT E).1 = 0 then (0, (uOpenOf ⟨(tOpenOf (bNewOf m).2 nmT).m, sf.1, sf.2, false⟩ nmT E).2.1.m, some (uOpenOf ⟨(tOpenOf (bNewOf m).2 nmT).m, sf.1, sf.2, false⟩ nmT E).2)
    else ((uOpenOf ⟨(tOpenOf (bNewOf m).2 nmT).m, sf.1, sf.2, false⟩ nmT E).1, (uOpenOf ⟨(tOpenOf (bNewOf m).2 nmT).m, sf.1, sf.2, false⟩ nmT E).2.1.m, none))
 else ((bNewOf m).1, (bNewOf m).2, none)
section
variable {w wr : World} {d : Nat} {m : DM} {rs : List (Res w.heap.size)}
def O13Post (w : World) (d : Nat) (rs : List (Res w.heap.size)) (nx : Nat) (r : Int × DM × Option (TM × List Ses)) (e : Ending) (w' : World) : Prop :=
 (r.2.2 = none ∧ ¬ r.1 = 0 ∧ e = .returned (.tuple #[.pointer none, .int .i64 r.1]) ∧ Own w w' (rDisk w.heap.size d r.2.1 :: rs)) ∨
 ∃ (T : TM) (S : List Ses) (y st j t b u mp : Nat) (L : UL), r.2.2 = some (T, S) ∧ r.1 = 0 ∧ e = .returned (.tuple #[.pointer (some ⟨y, 0, none⟩), .int .i64 0]) ∧ L.map (·.1) = S ∧
  Own w w' (tRes w.heap.size d j t b nmT T ++ (uRes w.heap.size d u st t mp (nx : Int) L ++ (rObj w.heap.size y (yObj d st t u) :: rs)))
theorem tOpen_code {m : DM} {nm : ByteArray} : ((tOpenOf m nm).tab = none → ¬ (tOpenOf m nm).code = 0) ∧ ∀ sf, (tOpenOf m nm).tab = some sf → (tOpenOf m nm).code = 0 := by
 have h := open_res m nm
 unfold tOpenOf
 cases hr : (openOf m nm).res with
 | none => exact ⟨fun _ => h.1 hr, fun sf e => by cases e⟩
 | some s =>
  cases ht : tabOf s.1 [] with
  | none => simp [ht]
  | some fs => simp [ht]
theorem Tidy.bNew {m : DM} {n t : Nat} (h : Tidy m n t) : Tidy (bNewOf m).2 (n + 1) (t + 1) := by
 have h1 := h.remove tmpB
 unfold bNewOf
 repeat' split
 all_goals first | exact h.mono (Nat.le_succ _) (Nat.le_succ _) | exact h1.sync | exact h1
set_option maxRecDepth 100000 in
set_option maxHeartbeats 1000000 in
theorem opened13_calls {w0 : World} (h : Own w w0 (rDisk w.heap.size d m :: rs)) (hgl : GLen w) {n n' : Nat} (ht : Tidy m n n') (hn : n + 1 < 549755813888) {E : List UE} {nx : Nat}
  (hU : (bNewOf m).1 = 0 → ∀ size fs, (tOpenOf (bNewOf m).2 nmT).tab = some (size, fs) → UTab fs E nx ∧ size + E.length * 1048576 ≤ 1099511627776 ∧ fs.length ≤ 1000000 ∧ (tOpenOf (bNewOf m).2 nmT).m.room ≤ 1048576 ∧ ∃ k k', Tidy (tOpenOf (bNewOf m).2 nmT).m k k' ∧ 2 * k + 2 * k' + 8 * E.length + 200 < 549755813888) :
  Calls Tryz.prog 31 #[.pointer (some ⟨d, 0, none⟩)] w0 (O13Post w d rs nx (o13Of m E)) := by
 have HB := Lib.hid (bnew_calls h ht.good (by omega))
 have hg1 := ht.bNew.good
 obtain ⟨R, hR⟩ : ∃ R, o13Of m E = R := ⟨_, rfl⟩
 rw [hR]
 unfold o13Of at hR
 obtain ⟨br, hbr⟩ : ∃ br, br = bNewOf m := ⟨_, rfl⟩
 rw [← hbr] at hR HB hg1 hU
 have HR := Lib.hid hR
 have HU := Lib.hid hU
 have HG := Lib.hid (And.intro hg1 hn)
 have HGL := Lib.hid hgl
 clear h ht hn hU hgl hR hbr hg1
 obtain ⟨c0, m1⟩ := br
 dsimp only at HR HU HG
 go_enter Tryz.func31, Tryz.ntmps31
 go_wp2_with fail
 refine HB.out.mono ?_
 rintro e w1 (⟨hn, rfl, h1⟩ | ⟨hn, st, rfl, h1⟩)
 ·have hnb : (c0 != 0) = true := by simpa using hn
  have hr := HR.out
  rw [if_neg hn] at hr
  subst hr
  have H1 := Lib.hid h1
  have HN := Lib.hid hn
  clear HB HR HU hn h1
  go_wp2_with fail
  go_ret2
  exact .inl ⟨rfl, HN.out, rfl, H1.out⟩
 dsimp only at hn
 subst hn
 have hr := HR.out
 clear HR
 rw [if_pos rfl] at hr
 have hop := topen_calls h1 HG.out.1 (by have := HG.out.2; omega) nmT
 have HTC := Lib.hid (tOpen_code (m := m1) (nm := nmT))
 have HU2 := Lib.hid (HU.out rfl)
 obtain ⟨tr, htr⟩ : ∃ tr, tr = tOpenOf m1 nmT := ⟨_, rfl⟩
 rw [← htr] at hr hop HTC HU2
 unfold nmT at hop
 have HOP := Lib.hid hop
 have HR := Lib.hid hr
 clear hop h1 HB hr HG htr HU
 go_wp2_with fail
 refine HOP.out.mono ?_
 rintro e w2 (⟨hs, rfl, h2⟩ | ⟨size, fs, j, t, b, hs, rfl, h2⟩)
 ·have hr := HR.out
  rw [hs] at hr
  dsimp only at hr
  subst hr
  have hnc := HTC.out.1 hs
  have hnb : (tr.code != 0) = true := by simpa using hnc
  have H2 := Lib.hid (Own.drop (h2.swap))
  have HN := Lib.hid hnc
  clear hs h2 hnc HOP HR HTC HU2
  go_wp2_with fail
  go_ret2
  exact .inl ⟨rfl, HN.out, rfl, H2.out⟩
 ·have hr := HR.out
  clear HR
  rw [hs] at hr
  dsimp only at hr
  have hc := HTC.out.2 _ hs
  rw [hc]
  obtain ⟨q1, q2, q3, q4, k, k', q5, q6⟩ := HU2.out size fs hs
  obtain ⟨tm, htm⟩ : ∃ tm, tm = tr.m := ⟨_, rfl⟩
  rw [← htm] at hr h2 q4 q5
  have hup := uopen_calls (T := ⟨tm, size, fs, false⟩) (nm := nmT) (j := j) (t := t) (b := b) (st := st) (rs := rs) (d := d) h2 HGL.out q1 q5 q6 q2 q4 q3
  obtain ⟨ur, hur⟩ : ∃ ur, ur = uOpenOf ⟨tm, size, fs, false⟩ nmT E := ⟨_, rfl⟩
  rw [← hur] at hup hr
  have HUP := Lib.hid hup
  have HR := Lib.hid hr
  clear hs h2 hc q1 q2 q3 q4 q5 q6 hup hr hur htm HTC HOP HU2
  go_wp2_with fail
  refine HUP.out.mono ?_
  rintro e w3 (⟨hn, ⟨v, rfl⟩, h3⟩ | ⟨hn, u, mp, L, rfl, hL, h3⟩)
  ·have hr := HR.out
   rw [if_neg hn] at hr
   subst hr
   have hnb : (ur.1 != 0) = true := by simpa using hn
   have H3 := Lib.hid h3
   have HN := Lib.hid hn
   clear hn h3 HUP HR
   go_wp2_with fail
   go_ret2
   exact .inl ⟨rfl, HN.out, rfl, H3.out⟩
  ·have hr := HR.out
   rw [if_pos hn] at hr
   subst hr
   have H3 := Lib.hid (h3.endObj (yObj d st t u))
   have HL := Lib.hid hL
   clear h3 hL hn HUP HR
   go_wp2_with fail
   go_ret2
   exact .inr ⟨_, _, _, st, j, t, b, u, mp, L, rfl, rfl, rfl, HL.out, H3.out⟩
end
theorem Tidy.openU {m : DM} {n t : Nat} (h : Tidy m n t) (nm : ByteArray) : Tidy (openOf m nm).m (n + 67108880) (t + 67108880) := by
 have hb := h.good.get nm
 have hs := scan_frames_le ((fget m.now nm).getD [])
 unfold openOf
 split
 ·split
  ·have hr : runSteps (createSteps nm) m = rthen (createOf m nm) syncOf := by
    unfold createSteps
    simp only [runSteps_fun, rthen_last]
   have h2 : Tidy (rthen (createOf m nm) syncOf).2 (n + 1 + 0) (t + 1 + 0) := (h.create nm).then (h.create nm).sync
   rw [hr]
   split <;> exact h2.mono (by omega) (by omega)
  ·split
   ·split
    ·unfold openLay
     have := h.lay nm (framesOf (scanOf ((fget m.now nm).getD [])).1)
     split <;> exact this.mono (by omega) (by omega)
    ·exact h.mono (by omega) (by omega)
   ·exact h.mono (by omega) (by omega)
 ·exact h.mono (by omega) (by omega)
theorem Calm.jAppend2 {m : DM} (h : Calm m) (nm : ByteArray) (size : Nat) (p : List UInt8) : (jAppendOf m nm size p).1 ≠ 5 ∧ Calm (jAppendOf m nm size p).2.1 := by
 have h1 := h.append2 nm (frameOf p)
 unfold jAppendOf
 split
 ·exact ⟨by simp, h⟩
 ·split
  ·exact ⟨by simp, h1.2⟩
  ·exact h1
theorem Calm.tApp2 {T : TM} (h : Calm T.m) (hd : T.down = false) (nm : ByteArray) (l : List TCh) : (tAppOf T nm l).1 ≠ 5 ∧ Calm (tAppOf T nm l).2.m ∧ (tAppOf T nm l).2.down = false := by
 have h1 := h.jAppend2 nm T.size (encOf l).2
 have h2 := h1.2.sync2
 unfold tAppOf
 rw [hd, if_neg (by simp)]
 split
 ·split
  ·split
   ·exact ⟨by simp, h2.2, rfl⟩
   ·exact ⟨h2.1, h2.2, by simpa using h2.1⟩
  ·exact ⟨h1.1, h1.2, by simpa using h1.1⟩
 ·exact ⟨encOf_code l, h, by simpa using encOf_code l⟩
theorem Calm.adopt2 {m : DM} (h : Calm m) (nm : ByteArray) (dg : List UInt8) : (adoptOf m nm dg).1 ≠ 5 ∧ Calm (adoptOf m nm dg).2 := by
 have hr : ∀ f, (removeOf m f).1 ≠ 5 ∧ Calm (removeOf m f).2 := fun f => by
  unfold removeOf
  split
  ·have := h.does2 ⟨2, f, ⟨#[]⟩, []⟩; exact ⟨by rw [this.1]; omega, this.2⟩
  ·exact ⟨h.thereNe f, h⟩
 unfold adoptOf
 split
 ·split
  ·split
   ·split
    ·exact (hr nm).2.sync2
    ·exact hr nm
   ·split
    ·exact (h.rename2 nm (fileOf dg)).2.sync2
    ·exact h.rename2 nm (fileOf dg)
  ·exact ⟨by simp, h⟩
 ·exact ⟨h.thereNe nm, h⟩
theorem Calm.close2 {T : TM} (h : Calm T.m) (hd : T.down = false) (nm ky : ByteArray) (dg : List UInt8) : (closeOf T nm ky dg).1 ≠ 5 ∧ Calm (closeOf T nm ky dg).2.m ∧ (closeOf T nm ky dg).2.down = false := by
 have h1 := h.adopt2 ky dg
 have h2 := Calm.tApp2 (T := { T with m := (adoptOf T.m ky dg).2 }) h1.2 hd nm [⟨ky, true, []⟩]
 unfold closeOf
 split
 ·exact ⟨h1.1, h1.2, hd⟩
 ·split
  ·exact ⟨by simp, h2.2⟩
  ·exact h2
theorem Calm.remove2 {m : DM} (h : Calm m) (f : ByteArray) : (removeOf m f).1 ≠ 5 ∧ Calm (removeOf m f).2 := by
 unfold removeOf
 split
 ·have := h.does2 ⟨2, f, ⟨#[]⟩, []⟩; exact ⟨by rw [this.1]; omega, this.2⟩
 ·exact ⟨h.thereNe f, h⟩
theorem Calm.sweep2 (fs : FS) : ∀ (l : List ByteArray) {m : DM} {g : Nat}, Calm m → (sweepFrom fs l m g).1 ≠ 5
 | [], m, g, h => by
  unfold sweepFrom
  split
  ·exact h.sync2.1
  ·simp
 | f :: l, m, g, h => by
  have h1 := h.remove2 f
  unfold sweepFrom
  split
  ·exact Calm.sweep2 fs l h
  ·split
   ·exact Calm.sweep2 fs l h1.2
   ·exact h1.1
structure Rs (hv : List Kp) (T : TM) (g : Fn) (rs : List (List UInt8)) (U N B : Nat) (K : Ks) (nx n : Nat) (E : List UE) (S : List Ses) : Prop where
 y : UpY T g rs U N B K nx n
 fit : Fit hv g K
 todo : ∀ x ∈ E, K x.id = some x.e ∧ x.repo = abR ∧ x.til = 5
 all : ∀ id e, K id = some e → (∃ x ∈ E, x.id = id) ∨ (e = [] ∧ ∃ s ∈ S, s.id = (id : Int))
 live : ∀ s ∈ S, ∃ id : Nat, s.id = (id : Int) ∧ K id = some [] ∧ g (ukeyOf id) = some s.b ∧ s.repo = abR ∧ s.til = 5
 ids : (S.map (·.id) ++ E.map (fun x => (x.id : Int))).Nodup
theorem Rs.all_ {hv : List Kp} {nb : Nat} (hnb : nb ≤ 4294967296) {N B : Nat} (hN : N + 2 < 4096) (hR : 4 * B ≤ 1048576) : ∀ (E : List UE) {T : TM} {g : Fn} {rs : List (List UInt8)} {U : Nat} {K : Ks} {nx n : Nat} {S : List Ses}, Rs hv T g rs U N B K nx n E S → nx ≤ nb → (∀ k ∈ hv, k.id < nx) →
  (∃ T2 g2 rs2 K2 S2, resumeAll nmT E T S = (0, T2, S2) ∧ Rs hv T2 g2 rs2 U N B K2 nx (n + 2 * E.length) [] S2) ∨
  (∃ T2 S2, resumeAll nmT E T S = (5, T2, S2) ∧ Dn 1048576 (Im hv nb N B) T2.m (n + 2 * E.length) ∧ ¬ Calm T.m)
 | [], T, g, rs, U, K, nx, n, S, h, _, _ => .inl ⟨T, g, rs, K, S, rfl, h⟩
 | x :: E, T, g, rs, U, K, nx, n, S, h, hb, hi => by
  have hn : nx ≤ 4294967296 := by omega
  obtain ⟨hk, hxr, hxt⟩ := h.todo x (List.mem_cons_self ..)
  have hxe := (h.y.yk.has x.id _ hk).2.2.2
  have hlt := h.y.yk.lt hn hk
  have hids := h.ids
  rw [List.map_cons] at hids
  have hids2 := (List.perm_middle (l₁ := S.map (·.id)) (a := ((x.id : Nat) : Int)) (l₂ := E.map (fun x => ((x.id : Nat) : Int)))).nodup_iff.1 hids
  rw [List.nodup_cons] at hids2
  have hneE : ∀ z ∈ E, z.id ≠ x.id := fun z hz e => hids2.1 (List.mem_append_right _ (List.mem_map.2 ⟨z, hz, by rw [e]⟩))
  have hneS : ∀ s ∈ S, s.id ≠ (x.id : Int) := fun s hs e => hids2.1 (List.mem_append_left _ (List.mem_map.2 ⟨s, hs, e⟩))
  rw [resumeAll, List.length_cons]
  by_cases h32 : x.e.length = 32
  ·have hr : resumeOf T nmT x = ((closeOf T nmT (ukeyOf x.id) x.e).1, (closeOf T nmT (ukeyOf x.id) x.e).2, none) := by
    unfold resumeOf; rw [if_pos h32]
   rw [hr]
   rcases h.y.close hn hk h32 hN hR with ⟨T2, g2, rs2, e2, h2, hf2, -, -, -, ho2⟩ | ⟨T2, e2, es2, hd2⟩
   ·rw [e2]
    dsimp only
    rw [if_pos rfl, Option.toList_none, List.append_nil]
    have hgo : ∀ id, id < 4294967296 → id ≠ x.id → g2 (ukeyOf id) = g (ukeyOf id) := fun id a b => ho2 _ (ukey_ne a hlt b) (uk_file id h32) (uk_nmT id)
    have h3 : Rs hv T2 g2 rs2 U N B (kclr K x.id) nx (n + 2) E S := by
     refine ⟨h2, hf2 hv h.fit, fun z hz => ?_, fun id e he => ?_, fun s hs => ?_, hids2.2⟩
     ·obtain ⟨q1, q2, q3⟩ := h.todo z (List.mem_cons_of_mem _ hz)
      exact ⟨by unfold kclr; rw [if_neg (hneE z hz)]; exact q1, q2, q3⟩
     ·unfold kclr at he
      by_cases e3 : id = x.id
      ·rw [if_pos e3] at he; cases he
      ·rw [if_neg e3] at he
       rcases h.all id e he with ⟨z, hz, q⟩ | q
       ·rcases List.mem_cons.1 hz with rfl | hz
        ·exact absurd q.symm e3
        ·exact .inl ⟨z, hz, q⟩
       ·exact .inr q
     ·obtain ⟨id, q1, q2, q3, q4, q5⟩ := h.live s hs
      have hne : id ≠ x.id := fun e => hneS s hs (by rw [q1, e])
      exact ⟨id, q1, by unfold kclr; rw [if_neg hne]; exact q2, by rw [hgo id (h.y.yk.lt hn q2) hne]; exact q3, q4, q5⟩
    rcases Rs.all_ hnb hN hR E h3 hb hi with ⟨T4, g4, rs4, K4, S4, e4, h4⟩ | ⟨T4, S4, e4, h4, hc4⟩
    ·exact .inl ⟨T4, g4, rs4, K4, S4, e4, by have e : n + 2 * (E.length + 1) = n + 2 + 2 * E.length := by omega
                                             rw [e]; exact h4⟩
    ·refine .inr ⟨T4, S4, e4, h4.mono (fun _ h => h) (by omega), fun hc => hc4 ?_⟩
     have := hc.close2 h.y.on nmT (ukeyOf x.id) x.e
     rw [e2] at this
     exact this.2.1
   ·rw [e2]
    dsimp only
    rw [if_neg (by omega)]
    refine .inr ⟨_, _, rfl, (hd2 hv nb h.fit hb hi).mono (fun _ h => h) (by omega), fun hc => ?_⟩
    have := (hc.close2 h.y.on nmT (ukeyOf x.id) x.e).1
    rw [e2] at this
    exact this rfl
  ·have he0 : x.e = [] := by
    rcases hxe with e | e
    ·exact e
    ·exact absurd e h32
   rw [he0] at hk
   obtain ⟨c, hc⟩ := h.y.yf.open_ x.id hk
   have hr : resumeOf T nmT x = (0, T, some ⟨(x.id : Int), x.repo, x.til, c⟩) := by
    unfold resumeOf
    rw [if_neg h32, show thereOf T.m (ukeyOf x.id) = 0 by rw [h.y.up.there, hc]; rfl, if_pos rfl]
    have : contOf T.m (ukeyOf x.id) = c := by unfold contOf; rw [h.y.up.now, hc]; rfl
    rw [this]
   rw [hr]
   dsimp only
   rw [if_pos rfl, Option.toList_some]
   have h3 : Rs hv T g rs U N B K nx n E (S ++ [⟨(x.id : Int), x.repo, x.til, c⟩]) := by
    refine ⟨h.y, h.fit, fun z hz => h.todo z (List.mem_cons_of_mem _ hz), fun id e he => ?_, fun s hs => ?_, ?_⟩
    ·rcases h.all id e he with ⟨z, hz, q⟩ | ⟨q1, s, hs, q2⟩
     ·rcases List.mem_cons.1 hz with rfl | hz
      ·subst q
       rw [hk] at he
       exact .inr ⟨(Option.some.inj he).symm, _, List.mem_append_right _ (List.mem_singleton.2 rfl), rfl⟩
      ·exact .inl ⟨z, hz, q⟩
     ·exact .inr ⟨q1, s, List.mem_append_left _ hs, q2⟩
    ·rcases List.mem_append.1 hs with hs | hs
     ·exact h.live s hs
     ·rw [List.mem_singleton.1 hs]
      exact ⟨x.id, rfl, hk, hc, hxr, hxt⟩
    ·rw [List.map_append, List.append_assoc]
     exact hids
   rcases Rs.all_ hnb hN hR E h3 hb hi with ⟨T4, g4, rs4, K4, S4, e4, h4⟩ | ⟨T4, S4, e4, h4, hc4⟩
   ·exact .inl ⟨T4, g4, rs4, K4, S4, e4, ⟨h4.y.mono (Nat.le_refl _) (Nat.le_refl _) (by omega), h4.fit, h4.todo, h4.all, h4.live, h4.ids⟩⟩
   ·exact .inr ⟨T4, S4, e4, h4.mono (fun _ h => h) (by omega), hc4⟩
theorem sweep_plain {fs : FS} {K : Ks} {nx : Nat} {hv : List Kp} {nb N B U : Nat} {rs : List (List UInt8)} (hyk : Yk fs K nx) (hb : nx ≤ nb) (hi : ∀ k ∈ hv, k.id < nx) :
  ∀ (l : List ByteArray) {m : DM} {g : Fn} {n c : Nat}, l.Nodup → (∀ f ∈ l, beginsB f hdU = true ∧ (g f).isSome = true) → (∀ f, beginsB f hdU = true → (g f).isSome = true → (fget fs f).isSome = true ∨ f ∈ l) →
  JB g fs rs U N B → Yf g K → Fit hv g K → g nmT = some (framesOf rs) → Up 1048576 (Im hv nb N B) g m n → (c = 0 → Up 1048576 (fun x => x = g) g m n) →
  (∃ m2 g2, sweepFrom fs l m c = (0, m2) ∧ Up 1048576 (fun x => x = g2) g2 m2 (n + l.length) ∧ JB g2 fs rs U N B ∧ Yf g2 K ∧ Fit hv g2 K ∧ g2 nmT = some (framesOf rs) ∧ (∀ f, beginsB f hdU = true → (g2 f).isSome = true → (fget fs f).isSome = true) ∧ (∀ f, (fget fs f).isSome = true → g2 f = g f)) ∨
  (∃ m2, sweepFrom fs l m c = (5, m2) ∧ Dn 1048576 (Im hv nb N B) m2 (n + l.length))
 | [], m, g, n, c, _, _, ho, hj, hf, hfit, hjn, hu, hc => by
  unfold sweepFrom
  have ho2 : ∀ f, beginsB f hdU = true → (g f).isSome = true → (fget fs f).isSome = true := fun f a b => (ho f a b).elim id (fun h => by simp at h)
  by_cases h0 : 0 < c
  ·rw [if_pos h0]
   rcases hu.sync with ⟨c2, hu2⟩ | ⟨c2, hd2⟩
   ·exact .inl ⟨_, g, Prod.ext c2 rfl, hu2, hj, hf, hfit, hjn, ho2, fun _ _ => rfl⟩
   ·exact .inr ⟨_, Prod.ext c2 rfl, hd2⟩
  ·rw [if_neg h0]
   exact .inl ⟨m, g, rfl, hc (by omega), hj, hf, hfit, hjn, ho2, fun _ _ => rfl⟩
 | f :: l, m, g, n, c, hnd, hl, ho, hj, hf, hfit, hjn, hu, hc => by
  obtain ⟨hfl, hnd2⟩ := List.nodup_cons.1 hnd
  obtain ⟨hb1, hs1⟩ := hl f (List.mem_cons_self ..)
  unfold sweepFrom
  rw [List.length_cons]
  by_cases hk : (fget fs f).isSome = true
  ·rw [if_pos hk]
   rcases sweep_plain hyk hb hi l hnd2 (fun x hx => hl x (List.mem_cons_of_mem _ hx)) (fun x a b => by
    rcases ho x a b with h | h
    ·exact .inl h
    ·rcases List.mem_cons.1 h with rfl | h
     ·exact .inl hk
     ·exact .inr h) hj hf hfit hjn hu hc with ⟨m2, g2, e, q1, q2⟩ | ⟨m2, e, q⟩
   ·exact .inl ⟨m2, g2, e, q1.mono (fun _ h => h) (by omega), q2⟩
   ·exact .inr ⟨m2, e, q.mono (fun _ h => h) (by omega)⟩
  ·rw [if_neg hk]
   have hkn : fget fs f = none := by simpa using hk
   obtain ⟨b, hgb⟩ := Option.isSome_iff_exists.1 hs1
   have n1 : f ≠ nmT := fun e => by rw [e] at hb1; revert hb1; decide +kernel
   have n2 : f ≠ tmpT := fun e => by rw [e] at hb1; revert hb1; decide +kernel
   have hj2 : JB (fclr g f) fs rs U N B := hj.other (fclr_other _ (Ne.symm n1)) (fclr_other _ (Ne.symm n2)) (by rw [clr_tmps]; exact hj.holds.clr _) (Nat.le_refl _) hj.sum
   have hf2 := hf.orphan hyk hb1 hkn
   have hfit2 : Fit hv (fclr g f) K := hfit.orphan hyk hkn
   have hjn2 : fclr g f nmT = some (framesOf rs) := by rw [fclr_other _ (Ne.symm n1)]; exact hjn
   have him2 : Im hv nb N B (fclr g f) := ⟨fs, rs, U, K, nx, hj2, hyk, hf2, hfit2, hb, hi⟩
   rcases hu.remove hgb with ⟨c2, hu2⟩ | ⟨c2, hd2⟩
   ·rw [if_pos c2]
    have hu3 : Up 1048576 (Im hv nb N B) (fclr g f) (removeOf m f).2 (n + 1) := hu2.mono (fun x hx => by
     rcases hx with hx | rfl
     ·exact hx
     ·exact him2) (Nat.le_refl _)
    have hne : ∀ x ∈ l, x ≠ f := fun x hx e => hfl (by rw [← e]; exact hx)
    rcases sweep_plain hyk hb hi l (c := c + 1) hnd2 (fun x hx => by
      rw [fclr_other _ (hne x hx)]
      exact hl x (List.mem_cons_of_mem _ hx)) (fun x a b => by
     by_cases e : x = f
     ·rw [e, fclr_same] at b; cases b
     ·rw [fclr_other _ e] at b
      rcases ho x a b with h | h
      ·exact .inl h
      ·rcases List.mem_cons.1 h with h | h
       ·exact absurd h e
       ·exact .inr h) hj2 hf2 hfit2 hjn2 hu3 (fun e => by omega) with ⟨m2, g2, e, q1, q2, q3, q4, q5, q6, q7⟩ | ⟨m2, e, q⟩
    ·refine .inl ⟨m2, g2, e, q1.mono (fun _ h => h) (by omega), q2, q3, q4, q5, q6, fun x hx => ?_⟩
     rw [q7 x hx, fclr_other]
     intro e2
     rw [e2] at hx
     exact hk hx
    ·exact .inr ⟨m2, e, q.mono (fun _ h => h) (by omega)⟩
   ·rw [if_neg (by rw [c2]; omega)]
    exact .inr ⟨_, Prod.ext c2 rfl, hd2.mono (fun _ h => h) (by omega)⟩
theorem ents_of {K : Ks} : ∀ (l : FS), (∀ p ∈ l, ∃ id e, p = (ukeyOf id, laidOf abR 5 e) ∧ K id = some e) → ∃ E : List UE, l = E.map (fun x => (ukeyOf x.id, uval x)) ∧ ∀ x ∈ E, K x.id = some x.e ∧ x.repo = abR ∧ x.til = 5
 | [], _ => ⟨[], rfl, fun x hx => by simp at hx⟩
 | p :: l, h => by
  obtain ⟨E, h1, h2⟩ := ents_of l (fun q hq => h q (List.mem_cons_of_mem _ hq))
  obtain ⟨id, e, h3, h4⟩ := h p (List.mem_cons_self ..)
  refine ⟨⟨id, abR, 5, e⟩ :: E, by rw [List.map_cons, ← h1, h3]; rfl, fun x hx => ?_⟩
  rcases List.mem_cons.1 hx with rfl | hx
  ·exact ⟨h4, rfl, rfl⟩
  ·exact h2 x hx
theorem Yk.ents {fs : FS} {K : Ks} {nx : Nat} (h : Yk fs K nx) (hn : nx ≤ 4294967296) : ∃ E : List UE, UTab fs E nx ∧ (∀ x ∈ E, K x.id = some x.e ∧ x.repo = abR ∧ x.til = 5) ∧ ∀ id e, K id = some e → ∃ x ∈ E, x.id = id := by
 have hnd := h.ok.sorted.nodup
 obtain ⟨E, h1, h2⟩ := ents_of (K := K) (fs.filter (fun p => beginsB p.1 hdU)) (fun p hp => by
  obtain ⟨hp1, hp2⟩ := List.mem_filter.1 hp
  have hg := fget_mem hnd (show (p.1, p.2) ∈ fs from hp1)
  obtain ⟨id, e, h1, h2⟩ := h.keys p.1 p.2 hg hp2
  refine ⟨id, e, ?_, h2⟩
  have := (h.has id e h2).1
  rw [← h1, hg] at this
  exact Prod.ext h1 (Option.some.inj this))
 refine ⟨E, ⟨h.ok, h1, fun x hx => ?_, ?_⟩, h2, fun id e he => ?_⟩
 ·obtain ⟨q1, q2, q3⟩ := h2 x hx
  obtain ⟨-, r1, r2, r3⟩ := h.has x.id x.e q1
  exact ⟨r1, by omega, by rw [q2]; exact abR_repo, by rw [q3]; omega, r3⟩
 ·rcases h.cnt with q | ⟨q, r⟩
  ·exact .inl q
  ·exact .inr ⟨q, r, hn⟩
 ·have q := (h.has id e he).1
  have hm : (ukeyOf id, laidOf abR 5 e) ∈ fs.filter (fun p => beginsB p.1 hdU) := List.mem_filter.2 ⟨mem_of_fget q, uk_begins id⟩
  rw [h1] at hm
  obtain ⟨x, hx, e2⟩ := List.mem_map.1 hm
  refine ⟨x, hx, ?_⟩
  have hxl := h.lt hn (h2 x hx).1
  exact ukey_inj hxl (h.lt hn he) (congrArg Prod.fst e2)
theorem Tidy.resumeAll_ (nm : ByteArray) : ∀ (E : List UE) {T : TM} {S : List Ses} {n t : Nat}, Tidy T.m n t → Tidy (resumeAll nm E T S).2.1.m (n + 2 * E.length) (t + 2 * E.length)
 | [], T, S, n, t, h => h
 | x :: E, T, S, n, t, h => by
  have h1 := h.resume nm x
  have h2 := Tidy.resumeAll_ nm E (S := S ++ (resumeOf T nm x).2.2.toList) h1
  rw [resumeAll, List.length_cons]
  split
  ·exact h2.mono (by omega) (by omega)
  ·exact h1.mono (by omega) (by omega)
theorem Calm.layM {m : DM} (h : Calm m) (nm : ByteArray) (B : List UInt8) : Calm (layOf m nm B).2 := by
 have hr := Calm.run (laySteps nm B) (fun f hf m hm => by
  simp only [laySteps, List.mem_cons, List.not_mem_nil, or_false] at hf
  rcases hf with rfl | rfl | rfl | rfl | rfl | rfl
  ·exact hm.clear2 _
  ·exact hm.create2 _
  ·exact Calm.write2 _ hm
  ·exact hm.sync2
  ·exact hm.rename2 _ _
  ·exact hm.sync2) h
 unfold layOf unfull
 split
 ·have := hr.2.clear2 (tmpOf nm)
  split
  ·exact this.2
  ·exact this.2
 ·exact hr.2
theorem Calm.openM {m : DM} (h : Calm m) (nm : ByteArray) : (openOf m nm).code ≠ 5 ∧ Calm (openOf m nm).m := by
 have hc := Calm.run (createSteps nm) (fun f hf m hm => by
  simp only [createSteps, List.mem_cons, List.not_mem_nil, or_false] at hf
  rcases hf with rfl | rfl
  ·exact hm.create2 _
  ·exact hm.sync2) h
 unfold openOf
 split
 ·split
  ·split
   ·exact ⟨by simp, hc.2⟩
   ·exact hc
  ·split
   ·split
    ·unfold openLay
     split
     ·exact ⟨by simp, h.layM _ _⟩
     ·exact ⟨h.lay2 _ _, h.layM _ _⟩
    ·exact ⟨by simp, h⟩
   ·exact ⟨h.thereNe _, h⟩
 ·exact ⟨by simp, h⟩
theorem Calm.resumeAll_ (nm : ByteArray) : ∀ (E : List UE) {T : TM} {S : List Ses}, Calm T.m → T.down = false → (resumeAll nm E T S).1 ≠ 5 ∧ Calm (resumeAll nm E T S).2.1.m
 | [], T, S, h, _ => ⟨by simp [resumeAll], h⟩
 | x :: E, T, S, h, hd => by
  have h1 : (resumeOf T nm x).1 ≠ 5 ∧ Calm (resumeOf T nm x).2.1.m ∧ (resumeOf T nm x).2.1.down = false := by
   unfold resumeOf
   split
   ·exact h.close2 hd nm _ _
   ·split
    ·exact ⟨by simp, h, hd⟩
    ·exact ⟨by simp, h, hd⟩
  rw [resumeAll]
  split
  ·exact Calm.resumeAll_ nm E h1.2.1 h1.2.2
  ·exact ⟨h1.1, h1.2.1⟩
theorem Calm.uopen {T : TM} (h : Calm T.m) (hd : T.down = false) (nm : ByteArray) (E : List UE) : (uOpenOf T nm E).1 ≠ 5 := by
 have h1 := Calm.resumeAll_ nm E (S := []) h hd
 unfold uOpenOf
 split
 ·unfold sweepOf
  rw [h1.2.down, if_neg (by simp)]
  exact Calm.sweep2 _ _ h1.2
 ·exact h1.1
theorem Up.calm {R : Int} {P : Fn → Prop} {g : Fn} {m : DM} {n : Nat} (h : Up R P g m n) (hf : m.fuse = -1) : Calm m := ⟨h.down, hf⟩
theorem Tidy.uopen_ {T : TM} {n t : Nat} (h : Tidy T.m n t) (nm : ByteArray) (E : List UE) : Tidy (uOpenOf T nm E).2.1.m (n + 2 * E.length + (t + 2 * E.length)) (t + 2 * E.length + (t + 2 * E.length)) := by
 have h1 := Tidy.resumeAll_ nm E (S := []) h
 have h2 := h1.sweep
 unfold uOpenOf
 split
 ·exact h2
 ·exact h1.mono (by omega) (by omega)
theorem Tidy.o13 {m : DM} {n t : Nat} (h : Tidy m n t) (E : List UE) (hE : E.length ≤ 100000) (hb : n + t ≤ 100000000) : Tidy (o13Of m E).2.1 500000000 1000000000 := by
 have h1 := h.bNew
 have h2 := h1.openU nmT
 rw [← tOpen_m] at h2
 unfold o13Of
 split
 ·split
  ·exact h2.mono (by omega) (by omega)
  ·rename_i sf hsf
   have h3 := Tidy.uopen_ (T := ⟨(tOpenOf (bNewOf m).2 nmT).m, sf.1, sf.2, false⟩) h2 nmT E
   split
   ·exact h3.mono (by omega) (by omega)
   ·exact h3.mono (by omega) (by omega)
 ·exact h1.mono (by omega) (by omega)
theorem open_plain {m : DM} {hv : List Kp} {nb N B n0 t0 : Nat} {x : Fn} (hu : Up 1048576 (fun y => y = x) x m n0) (ht : Tidy m n0 t0) (hn0 : n0 + t0 ≤ 100000000) (him : Im hv nb N B x) (hb : nb ≤ 4294967296) (hN : N + 3 < 4096) (hR : 4 * B ≤ 1048576) :
  ∃ (E : List UE) (nx : Nat), ((bNewOf m).1 = 0 → ∀ size fs, (tOpenOf (bNewOf m).2 nmT).tab = some (size, fs) → UTab fs E nx ∧ size + E.length * 1048576 ≤ 1099511627776 ∧ fs.length ≤ 1000000 ∧ (tOpenOf (bNewOf m).2 nmT).m.room ≤ 1048576 ∧ ∃ k k', Tidy (tOpenOf (bNewOf m).2 nmT).m k k' ∧ 2 * k + 2 * k' + 8 * E.length + 200 < 549755813888) ∧
  Tidy (o13Of m E).2.1 500000000 1000000000 ∧
  ((∃ T S g rs U K, o13Of m E = (0, T.m, some (T, S)) ∧ Us T g rs U N B K nx 500000000 S ∧ Fit hv g K ∧ nx ≤ nb ∧ (∀ k ∈ hv, k.id < nx) ∧ Tidy T.m 500000000 1000000000) ∨
   (∃ m2, o13Of m E = (5, m2, none) ∧ Dn 1048576 (Im hv nb N B) m2 500000000 ∧ m.fuse ≠ -1)) := by
 obtain ⟨fs, rs, U, K, nx, hj, hyk, hyf, hfit, hnx, hid⟩ := him
 obtain ⟨b, hb1, hb2, hb3⟩ := hj.file
 have hn : nx ≤ 4294967296 := by omega
 obtain ⟨E, hU, hE1, hE2⟩ := hyk.ents hn
 have hsum := hj.sum
 have hEl := hU.len
 have hbn : bNewOf m = (0, m) := by
  unfold bNewOf
  rw [show thereOf m tmpB = 6 by rw [hu.there, hyf.tmp]; rfl, if_pos rfl]
 have htd := ht.openU nmT
 have hop := hu.openJ nmT_name.1 nmT_name.2 tmpT_ne hb1 hb2 hj.all.1 (by omega) (by omega)
 have hroom : (openOf m nmT).m.room = 1048576 := by
  rcases hop with ⟨-, -, g', -, -, q⟩ | ⟨-, -, q, -⟩
  ·exact q.room
  ·exact q.room
 refine ⟨E, nx, fun _ size fs' htab => ?_, ht.o13 E (by omega) hn0, ?_⟩
 ·rw [hbn] at htab ⊢
  dsimp only at htab ⊢
  rw [tOpen_m]
  have hfs : size = (framesOf rs).length ∧ fs' = fs := by
   unfold tOpenOf at htab
   rcases hop with ⟨-, r, -⟩ | ⟨-, r, -⟩
   ·rw [r] at htab
    simp only at htab
    rw [hj.tab] at htab
    simp at htab
    exact ⟨htab.1.symm, htab.2.symm⟩
   ·rw [r] at htab
    simp at htab
  obtain ⟨rfl, rfl⟩ := hfs
  exact ⟨hU, by omega, by omega, by rw [hroom]; omega, _, _, htd, by omega⟩
 ·have ho13 : o13Of m E = match (tOpenOf m nmT).tab with
    | none => ((tOpenOf m nmT).code, (tOpenOf m nmT).m, none)
    | some sf =>
     if (uOpenOf ⟨(tOpenOf m nmT).m, sf.1, sf.2, false⟩ nmT E).1 = 0 then (0, (uOpenOf ⟨(tOpenOf m nmT).m, sf.1, sf.2, false⟩ nmT E).2.1.m, some (uOpenOf ⟨(tOpenOf m nmT).m, sf.1, sf.2, false⟩ nmT E).2)
     else ((uOpenOf ⟨(tOpenOf m nmT).m, sf.1, sf.2, false⟩ nmT E).1, (uOpenOf ⟨(tOpenOf m nmT).m, sf.1, sf.2, false⟩ nmT E).2.1.m, none) := by
   unfold o13Of
   rw [hbn]
   exact if_pos rfl
  rw [ho13]
  rcases hop with ⟨c, r, g', hg', hj', hu'⟩ | ⟨c, r, hd, hf⟩
  ·have hto : tOpenOf m nmT = ⟨0, (openOf m nmT).m, some ((framesOf rs).length, fs)⟩ := by
    unfold tOpenOf
    rw [r]
    simp only
    rw [hj.tab]
   rw [hto]
   dsimp only
   have hsame : JB g' fs rs U N B ∧ ∀ k, k ≠ nmT → k ≠ tmpT → g' k = x k := by
    rcases hg' with rfl | rfl
    ·exact ⟨hj, fun _ _ _ => rfl⟩
    ·exact hj.lay (.inr (.inr rfl))
   have hu2 : Up 1048576 (fun y => y = g') g' (openOf m nmT).m (n0 + (b.length + 4)) := hu'.mono (fun y hy => by
    rcases hy with ⟨rfl, rfl⟩ | rfl
    ·rfl
    ·rfl) (Nat.le_refl _)
   have hR0 : Rs hv ⟨(openOf m nmT).m, (framesOf rs).length, fs, false⟩ g' rs U N B K nx (n0 + (b.length + 4)) E [] :=
    ⟨⟨⟨rfl, rfl, hsame.1, hj', hyk, hyf.same hsame.2⟩, hu2⟩, hfit.same hsame.2, hE1, fun id e he => .inl (hE2 id e he), fun s hs => by simp at hs, by
     have h1 := hU.ids
     simp only [List.map_nil, List.nil_append]
     have e : E.map (fun x => ((x.id : Nat) : Int)) = (E.map (·.id)).map (fun i : Nat => (i : Int)) := by rw [List.map_map]; rfl
     rw [e]
     exact List.Pairwise.map _ (fun a b h e => h (by omega)) h1⟩
   have hcalm : (uOpenOf ⟨(openOf m nmT).m, (framesOf rs).length, fs, false⟩ nmT E).1 = 5 → m.fuse ≠ -1 := fun h5 hf =>
    Calm.uopen (T := ⟨(openOf m nmT).m, (framesOf rs).length, fs, false⟩) ((hu.calm hf).openM nmT).2 rfl nmT E h5
   have htR := Tidy.resumeAll_ nmT E (T := ⟨(openOf m nmT).m, (framesOf rs).length, fs, false⟩) (S := []) htd
   obtain ⟨uo, huo⟩ : ∃ uo, uo = uOpenOf ⟨(openOf m nmT).m, (framesOf rs).length, fs, false⟩ nmT E := ⟨_, rfl⟩
   have huo2 := huo
   rw [← huo] at hcalm ⊢
   unfold uOpenOf at huo
   rcases Rs.all_ hb (by omega) hR E hR0 hnx hid with ⟨T2, g2, rs2, K2, S2, e2, h2⟩ | ⟨T2, S2, e2, h2, -⟩
   ·rw [e2] at huo htR
    dsimp only at huo htR
    rw [if_pos rfl] at huo
    have hdn2 := h2.y.up.down
    have hnow := h2.y.up.now
    have hnd2 := h2.y.up.good.nnow
    have hnl : (namesOf T2.m.now hdU).length ≤ N + 2 := Nat.le_trans (names_le _ _) (h2.y.up.fits h2.y.jb.all.2).2
    have hsw := sweep_plain (nb := nb) (hv := hv) h2.y.yk hnx hid (namesOf T2.m.now hdU) (m := T2.m) (g := g2) (n := n0 + (b.length + 4) + 2 * E.length) (c := 0) ?_ ?_ ?_ h2.y.jb h2.y.yf h2.fit h2.y.jrn (h2.y.up.mono (fun y hy => by rw [hy]; exact h2.y.toYd.im h2.fit hnx hid) (Nat.le_refl _)) (fun _ => h2.y.up)
    ·have hswo : sweepOf T2 = ((sweepFrom T2.fs (namesOf T2.m.now hdU) T2.m 0).1, { T2 with m := (sweepFrom T2.fs (namesOf T2.m.now hdU) T2.m 0).2 }) := by
      unfold sweepOf
      rw [hdn2]
      rfl
     have htS := Tidy.sweepFrom T2.fs (namesOf T2.m.now hdU) (g := 0) htR
     rcases hsw with ⟨m3, g3, e3, u3, j3, f3, t3, q3, o3, s3⟩ | ⟨m3, e3, d3⟩
     ·rw [e3] at hswo htS
      rw [hswo] at huo
      subst huo
      dsimp only at htS ⊢
      rw [if_pos rfl]
      refine .inl ⟨⟨m3, T2.size, T2.fs, T2.down⟩, S2, g3, rs2, U, K2, rfl, ⟨⟨⟨h2.y.on, h2.y.size, j3, q3, h2.y.yk, f3⟩, u3.mono (fun _ h => h) (by omega)⟩, fun s hs => ?_, fun id e he => ?_, ?_, o3⟩, t3, hnx, hid, htS.mono (by omega) (by omega)⟩
      ·obtain ⟨id, a1, a2, a3, a4, a5⟩ := h2.live s hs
       exact ⟨id, a1, a2, by rw [s3 _ (by rw [(h2.y.yk.has id _ a2).1]; rfl)]; exact a3, a4, a5⟩
      ·rcases h2.all id e he with ⟨z, hz, -⟩ | ⟨-, s, hs, q⟩
       ·simp at hz
       ·exact ⟨s, hs, q⟩
      ·have := h2.ids
       simpa using this
     ·rw [e3] at hswo
      rw [hswo] at huo
      subst huo
      dsimp only at hcalm ⊢
      rw [if_neg (by omega)]
      exact .inr ⟨m3, rfl, d3.mono (fun _ h => h) (by omega), hcalm rfl⟩
    ·unfold namesOf
     exact (List.filter_sublist.map _).nodup hnd2
    ·intro f hf
     unfold namesOf at hf
     obtain ⟨p, hp, rfl⟩ := List.mem_map.1 hf
     obtain ⟨hp1, hp2⟩ := List.mem_filter.1 hp
     refine ⟨hp2, ?_⟩
     rw [← hnow, fget_mem hnd2 (show (p.1, p.2) ∈ T2.m.now from hp1)]
     rfl
    ·intro f hf hs
     right
     rw [← hnow] at hs
     obtain ⟨v, hv2⟩ := Option.isSome_iff_exists.1 hs
     unfold namesOf
     exact List.mem_map.2 ⟨(f, v), List.mem_filter.2 ⟨mem_of_fget hv2, hf⟩, rfl⟩
   ·rw [e2] at huo
    dsimp only at huo
    rw [if_neg (by omega)] at huo
    subst huo
    dsimp only at hcalm ⊢
    rw [if_neg (by omega)]
    exact .inr ⟨_, rfl, h2.mono (fun _ h => h) (by omega), hcalm rfl⟩
  ·have hto : tOpenOf m nmT = ⟨(openOf m nmT).code, (openOf m nmT).m, none⟩ := by
    unfold tOpenOf
    rw [r]
   rw [hto]
   dsimp only
   rw [c]
   refine .inr ⟨_, rfl, hd.mono (fun y hy => ?_) (by omega), hf⟩
   rcases hy with rfl | hy
   ·exact ⟨fs, rs, U, K, nx, hj, hyk, hyf, hfit, hnx, hid⟩
   ·obtain ⟨q1, q2⟩ := hj.lay hy
    exact ⟨fs, rs, U, K, nx, q1, hyk, hyf.same q2, hfit.same q2, hnx, hid⟩
theorem crash_plain {m : DM} {hv : List Kp} {nb N B n t : Nat} (hg : Good m n) (ht : Tidy m n t) (hr : m.room = 1048576) (hI : Img m (fun fs => Im hv nb N B (fget fs))) (keep part : Int) :
  ∃ x, Im hv nb N B x ∧ Up 1048576 (fun y => y = x) x (crashOf m keep part) 0 ∧ (crashOf m keep part).fuse = -1 ∧ Tidy (crashOf m keep part) 0 (N + 2) := by
 obtain ⟨x, h1, h2, h3⟩ := crash_upF (P := Im hv nb N B) hg hr hI keep part
 refine ⟨x, h1, h2, h3, ?_⟩
 have h4 := ht.crash keep part
 obtain ⟨fs, rs, U, K, nx, hj, -⟩ := h1
 have h5 := (h2.fits hj.all.2).2
 refine ⟨h4.good, h4.ssure, ?_, h4.nsure, h4.nloose, h4.may⟩
 have e1 : (crashOf m keep part).loose = [] := rfl
 have e2 : (crashOf m keep part).sure = (crashOf m keep part).now := rfl
 rw [e1, e2]
 simpa using h5
def NN (c : Nat) : Nat := c + 10
def BB (c : Nat) : Nat := 3000 * (c + 1)
def HvUp (hv : List Kp) (L : List Ses) : Prop := ∀ k ∈ hv, k.may = [] ∧ ∃ x ∈ L, x.id = (k.id : Int) ∧ x.b = k.sure
def HvDn (hv : List Kp) (L : List Ses) : Prop := ∀ k ∈ hv, (∃ x ∈ L, x.id = (k.id : Int) ∧ x.b = k.sure) ∨ (k.ends = true ∧ ∀ x ∈ L, x.id ≠ (k.id : Int))
structure LSt (hv : List Kp) (T : TM) (L : List Ses) (nx c : Nat) : Prop where
 tidy : Tidy T.m (500000000 + 10 * c) (1000000000 + 10 * c)
 size : T.size ≤ BB c
 ids : (L.map (·.id)).Nodup
 each : ∀ x ∈ L, ∃ id : Nat, x.id = (id : Int) ∧ 1 ≤ id ∧ id < nx ∧ x.repo = abR ∧ x.til = 5 ∧ x.b.length ≤ BB c
 hids : (hv.map (·.id)).Nodup
 hlt : ∀ k ∈ hv, 1 ≤ k.id ∧ k.id < nx ∧ k.sure.length ≤ BB c
 nx1 : 1 ≤ nx
 nxc : nx ≤ c + 1
 mode : (HvUp hv L ∧ ∃ g rs U K, Us T g rs U (NN c) (BB c) K nx (500000000 + 10 * c) L) ∨
  (HvDn hv L ∧ Dn 1048576 (Im hv (c + 1) (NN c) (BB c)) T.m (500000000 + 10 * c))
theorem HvUp.fit {hv : List Kp} {T : TM} {g : Fn} {rs : List (List UInt8)} {U N B nx n : Nat} {K : Ks} {L : List Ses} (h : HvUp hv L) (hU : Us T g rs U N B K nx n L) : Fit hv g K := fun k hk => by
 obtain ⟨-, x, hx, h1, h2⟩ := h k hk
 obtain ⟨id, q1, q2, q3, -⟩ := hU.live x hx
 have : id = k.id := by rw [q1] at h1; omega
 rw [this] at q2 q3
 exact .inl ⟨q2, 0, by rw [q3, h2]; simp⟩
theorem HvUp.dn {hv : List Kp} {L : List Ses} (h : HvUp hv L) : HvDn hv L := fun k hk => .inl (h k hk).2
theorem LSt.room {hv : List Kp} {T : TM} {L : List Ses} {nx c : Nat} (h : LSt hv T L nx c) : T.m.room = 1048576 := by
 rcases h.mode with ⟨-, g, rs, U, K, q⟩ | ⟨-, q⟩
 ·exact q.up.room
 ·exact q.room
theorem LSt.img {hv : List Kp} {T : TM} {L : List Ses} {nx c : Nat} (h : LSt hv T L nx c) : Img T.m (fun fs => Im hv (c + 1) (NN c) (BB c) (fget fs)) := by
 rcases h.mode with ⟨q0, g, rs, U, K, q⟩ | ⟨-, q⟩
 ·exact q.up.img.mono (fun fs e => by rw [e]; exact q.toYd.im (q0.fit q) h.nxc (fun k hk => (h.hlt k hk).2.1))
 ·exact q.img
theorem LSt.next {hv : List Kp} {T : TM} {L : List Ses} {nx c : Nat} (h : LSt hv T L nx c) : LSt hv T L nx (c + 1) := by
 have hB : BB c ≤ BB (c + 1) := by unfold BB; omega
 have hN : NN c ≤ NN (c + 1) := by unfold NN; omega
 refine ⟨h.tidy.mono (by omega) (by omega), Nat.le_trans h.size hB, h.ids, fun x hx => ?_, h.hids, fun k hk => ?_, h.nx1, by have := h.nxc; omega, ?_⟩
 ·obtain ⟨id, a, b, d, e, f, i⟩ := h.each x hx
  exact ⟨id, a, b, d, e, f, Nat.le_trans i hB⟩
 ·obtain ⟨a, b, d⟩ := h.hlt k hk
  exact ⟨a, b, Nat.le_trans d hB⟩
 ·rcases h.mode with ⟨q0, g, rs, U, K, q⟩ | ⟨q0, q⟩
  ·exact .inl ⟨q0, g, rs, U, K, q.mono hN hB (by omega)⟩
  ·exact .inr ⟨q0, q.mono (fun x hx => hx.mono (by omega) hN hB) (by omega)⟩
theorem tApp_down {T : TM} (h : T.m.down = true) {l : List TCh} (he : (encOf l).1 = 0) : ∃ s, tAppOf T nmT l = (5, ⟨T.m, T.size, T.fs, s⟩) := by
 have hlen := (enc_ok he).2.2.2
 have hj : jAppendOf T.m nmT T.size (encOf l).2 = (5, T.m, T.size) := by
  unfold jAppendOf
  rw [if_neg (by omega), down_append2 h]
  rfl
 unfold tAppOf
 cases hd : T.down with
 | true => exact ⟨true, by rw [if_pos rfl, ← hd]⟩
 | false =>
  rw [if_neg (by simp), if_pos he, hj]
  exact ⟨true, rfl⟩
theorem LSt.start {hv : List Kp} {T : TM} {L : List Ses} {nx c : Nat} (h : LSt hv T L nx c) (hc : c < 60) :
  (∃ T2, startOf T nmT nx abR 5 = ((nx : Int), 0, T2) ∧ LSt (hv ++ [⟨nx, [], [], false⟩]) T2 (L ++ [⟨(nx : Int), abR, 5, []⟩]) (nx + 1) (c + 1)) ∨
  (∃ T2, startOf T nmT nx abR 5 = (0, 5, T2) ∧ LSt hv T2 L nx (c + 1)) := by
 have hB : BB c + 3000 = BB (c + 1) := by unfold BB; omega
 have hB2 : BB (c + 1) ≤ 186000 := by unfold BB; omega
 have hnx := h.nxc
 have ht2 := h.tidy.start nmT nx abR 5
 have hn := h.next
 rcases h.mode with ⟨q0, g, rs, U, K, q⟩ | ⟨q0, q⟩
 ·rcases q.start (by omega) (by unfold NN; omega) (by omega) with ⟨T2, g2, rs2, K2, e, h2, ho⟩ | ⟨T2, e, es, h2⟩
  ·rw [e] at ht2
   refine .inl ⟨T2, e, ht2.mono (by omega) (by omega), ?_, h2.ids, fun x hx => ?_, ?_, fun k hk => ?_, by omega, by omega, .inl ⟨fun k hk => ?_, g2, rs2, U, K2, h2.mono (by unfold NN; omega) (by omega) (by omega)⟩⟩
   ·have := h2.size
    have h3 := h2.jb.sum
    omega
   ·rcases List.mem_append.1 hx with hx | hx
    ·obtain ⟨id, a, b, d, e, f, i⟩ := hn.each x hx
     exact ⟨id, a, b, by omega, e, f, i⟩
    ·rw [List.mem_singleton.1 hx]
     exact ⟨nx, rfl, h.nx1, by omega, rfl, rfl, Nat.zero_le _⟩
   ·rw [List.map_append, List.nodup_append]
    refine ⟨h.hids, by simp, fun a ha b hb => ?_⟩
    obtain ⟨k, hk, rfl⟩ := List.mem_map.1 ha
    have := (h.hlt k hk).2.1
    simp at hb
    omega
   ·rcases List.mem_append.1 hk with hk | hk
    ·obtain ⟨a, b, d⟩ := hn.hlt k hk
     exact ⟨a, by omega, d⟩
    ·rw [List.mem_singleton.1 hk]
     exact ⟨h.nx1, by show nx < nx + 1; omega, Nat.zero_le _⟩
   ·rcases List.mem_append.1 hk with hk | hk
    ·obtain ⟨a, x, hx, b⟩ := q0 k hk
     exact ⟨a, x, List.mem_append_left _ hx, b⟩
    ·rw [List.mem_singleton.1 hk]
     exact ⟨rfl, _, List.mem_append_right _ (List.mem_singleton.2 rfl), rfl, rfl⟩
  ·rw [e] at ht2
   exact .inr ⟨T2, e, ht2.mono (by omega) (by omega), by omega, h.ids, hn.each, h.hids, hn.hlt, h.nx1, by omega, .inr ⟨q0.dn, (h2 hv (q0.fit q) (fun k hk => (h.hlt k hk).2.1)).mono (fun x hx => hx.mono (by omega) (by unfold NN; omega) (by omega)) (by omega)⟩⟩
 ·have e : startOf T nmT nx abR 5 = (0, 5, T) := by
   unfold startOf
   rw [if_pos abR_repo, if_neg (by omega), if_neg (by omega), create_down q.down, if_neg (by simp)]
  exact .inr ⟨T, e, hn⟩
theorem set_mem {hv : List Kp} (hn : (hv.map (·.id)).Nodup) {at_ : Nat} {k k2 : Kp} (hk : hv[at_]? = some k) : ∀ y ∈ hv.set at_ k2, y = k2 ∨ (y ∈ hv ∧ y.id ≠ k.id) := fun y hy => by
 obtain ⟨j, hj, e⟩ := List.mem_iff_getElem.1 hy
 rw [List.getElem_set] at e
 split at e
 ·exact .inl e.symm
 ·rename_i hne
  right
  have hj2 : j < hv.length := by rw [List.length_set] at hj; exact hj
  refine ⟨by rw [← e]; exact List.getElem_mem _, fun e2 => hne ?_⟩
  have h1 : (hv.map (·.id))[at_]? = some k.id := by rw [List.getElem?_map, hk]; rfl
  have h2 : (hv.map (·.id))[j]? = some k.id := by rw [List.getElem?_map, List.getElem?_eq_getElem hj2, e, ← e2]; rfl
  exact (List.getElem?_inj (by rw [List.length_map]; exact (List.getElem?_eq_some_iff.1 hk).1) hn).1 (h1.trans h2.symm)
theorem set_ids {hv : List Kp} {at_ : Nat} {k k2 : Kp} (hk : hv[at_]? = some k) (hi : k2.id = k.id) : (hv.set at_ k2).map (·.id) = hv.map (·.id) := by
 rw [List.map_set, hi]
 obtain ⟨h1, h2⟩ := List.getElem?_eq_some_iff.1 hk
 have : (hv.map (·.id))[at_]'(by rw [List.length_map]; exact h1) = k.id := by rw [List.getElem_map, h2]
 rw [← this, List.set_getElem_self]
theorem erase_mem {hv : List Kp} (hn : (hv.map (·.id)).Nodup) {at_ : Nat} {k : Kp} (hk : hv[at_]? = some k) : ∀ y ∈ hv.eraseIdx at_, y ∈ hv ∧ y.id ≠ k.id := fun y hy => by
 obtain ⟨j, hj, e⟩ := List.mem_eraseIdx_iff_getElem?.1 hy
 refine ⟨List.mem_of_getElem? e, fun e2 => hj ?_⟩
 have h1 : (hv.map (·.id))[at_]? = some k.id := by rw [List.getElem?_map, hk]; rfl
 have h2 : (hv.map (·.id))[j]? = some k.id := by rw [List.getElem?_map, e, ← e2]; rfl
 exact ((List.getElem?_inj (by rw [List.length_map]; exact (List.getElem?_eq_some_iff.1 hk).1) hn).1 (h1.trans h2.symm)).symm
theorem Im.weak {hv hv' : List Kp} {nb N B : Nat} {g : Fn} (h : Im hv nb N B g) (hw : ∀ y ∈ hv', ∃ z ∈ hv, y.id = z.id ∧ y.sure = z.sure ∧ (z.ends = true → y.ends = true) ∧ (y.may = z.may ∨ z.may = [])) : Im hv' nb N B g := by
 obtain ⟨fs, rs, U, K, nx, a, b, c, d, e, f⟩ := h
 refine ⟨fs, rs, U, K, nx, a, b, c, fun y hy => ?_, e, fun y hy => ?_⟩
 ·obtain ⟨z, hz, h1, h2, h3, h4⟩ := hw y hy
  rw [h1, h2]
  rcases d z hz with ⟨q1, i, q2⟩ | q
  ·rcases h4 with h4 | h4
   ·exact .inl ⟨q1, i, by rw [h4]; exact q2⟩
   ·exact .inl ⟨q1, 0, by rw [q2, h4]; simp⟩
  ·exact .inr ⟨h3 q.1, q.2⟩
 ·obtain ⟨z, hz, h1, -⟩ := hw y hy
  rw [h1]; exact f z hz
theorem fit_of {hv : List Kp} {T : TM} {g : Fn} {rs : List (List UInt8)} {U N B nx n : Nat} {K : Ks} {L : List Ses} (h : ∀ k ∈ hv, ∃ x ∈ L, x.id = (k.id : Int) ∧ x.b = k.sure) (hU : Us T g rs U N B K nx n L) : Fit hv g K := fun k hk => by
 obtain ⟨x, hx, h1, h2⟩ := h k hk
 obtain ⟨id, q1, q2, q3, -⟩ := hU.live x hx
 have : id = k.id := by rw [q1] at h1; omega
 rw [this] at q2 q3
 exact .inl ⟨q2, 0, by rw [q3, h2]; simp⟩
theorem LSt.other {hv : List Kp} {T : TM} {L1 L2 : List Ses} {x : Ses} {nx c : Nat} (h : LSt hv T (L1 ++ x :: L2) nx c) : (∀ y ∈ L1 ++ L2, y.id ≠ x.id) ∧ ((L1 ++ L2).map (·.id)).Nodup := nodup_ids h.ids
theorem mid_mem {α : Type} {L1 L2 : List α} {x y : α} : y ∈ L1 ++ x :: L2 ↔ y = x ∨ y ∈ L1 ++ L2 := by
 simp only [List.mem_append, List.mem_cons]
 constructor
 ·rintro (h | h | h)
  ·exact .inr (.inl h)
  ·exact .inl h
  ·exact .inr (.inr h)
 ·rintro (h | h | h)
  ·exact .inr (.inl h)
  ·exact .inl h
  ·exact .inr (.inr h)
theorem LSt.patch {hv : List Kp} {T : TM} {L1 L2 : List Ses} {x : Ses} {nx c : Nat} (h : LSt hv T (L1 ++ x :: L2) nx c) (hc : c < 60) {at_ : Nat} {k : Kp} (hk : hv[at_]? = some k) (hid : x.id = (k.id : Int)) {p : List UInt8} (hp : p.length ≤ 2000) :
  x.b = k.sure ∧
  ((∃ T2, patchOf T (ukeyOf k.id) x (k.sure.length : Int) p = (0, T2, { x with b := k.sure ++ p }) ∧ LSt (hv.set at_ ⟨k.id, k.sure ++ p, [], k.ends⟩) T2 (L1 ++ { x with b := k.sure ++ p } :: L2) nx (c + 1)) ∨
   (∃ T2, patchOf T (ukeyOf k.id) x (k.sure.length : Int) p = (5, T2, x) ∧ LSt (hv.set at_ ⟨k.id, k.sure, if k.may = [] then p else k.may, k.ends⟩) T2 (L1 ++ x :: L2) nx (c + 1))) := by
 have hB : BB c + 3000 = BB (c + 1) := by unfold BB; omega
 have hB2 : BB (c + 1) ≤ 186000 := by unfold BB; omega
 have hkm := List.mem_of_getElem? hk
 have hn := h.next
 obtain ⟨hk1, hk2, hk3⟩ := hn.hlt k hkm
 obtain ⟨n1, n2⟩ := h.other
 have huniq : ∀ y ∈ L1 ++ x :: L2, y.id = (k.id : Int) → y = x := fun y hy e => by
  rcases mid_mem.1 hy with rfl | hy
  ·rfl
  ·exact absurd (e.trans hid.symm) (n1 y hy)
 have hxb : x.b = k.sure := by
  have key : ∀ y ∈ L1 ++ x :: L2, y.id = (k.id : Int) → y.b = k.sure → x.b = k.sure := fun y hy e1 e2 => by rw [← huniq y hy e1]; exact e2
  rcases h.mode with ⟨q0, -⟩ | ⟨q0, -⟩
  ·obtain ⟨-, y, hy, e1, e2⟩ := q0 k hkm
   exact key y hy e1 e2
  ·rcases q0 k hkm with ⟨y, hy, e1, e2⟩ | ⟨-, hne⟩
   ·exact key y hy e1 e2
   ·exact absurd hid (hne x (by simp))
 refine ⟨hxb, ?_⟩
 have hxl : x.b.length ≤ BB c := by
  obtain ⟨id, -, -, -, -, -, q⟩ := h.each x (by simp)
  exact q
 have ht2 := h.tidy.patch (ukeyOf k.id) x (k.sure.length : Int) p
 have hset := fun k2 : Kp => set_mem (k2 := k2) h.hids hk
 have hmay : ∀ y ∈ hv.set at_ ⟨k.id, k.sure, if k.may = [] then p else k.may, k.ends⟩, ∃ z ∈ hv, y.id = z.id ∧ y.sure = z.sure ∧ (z.ends = true → y.ends = true) ∧ (y.may = z.may ∨ z.may = []) := fun y hy => by
  rcases hset _ y hy with rfl | ⟨hy, -⟩
  ·refine ⟨k, hkm, rfl, rfl, fun h => h, ?_⟩
   by_cases e : k.may = []
   ·exact .inr e
   ·exact .inl (by simp [e])
  ·exact ⟨y, hy, rfl, rfl, fun h => h, .inl rfl⟩
 have hlt2 : ∀ y ∈ hv.set at_ ⟨k.id, k.sure, if k.may = [] then p else k.may, k.ends⟩, 1 ≤ y.id ∧ y.id < nx ∧ y.sure.length ≤ BB (c + 1) := fun y hy => by
  rcases hset _ y hy with rfl | ⟨hy, -⟩
  ·exact ⟨hk1, hk2, hk3⟩
  ·exact hn.hlt y hy
 have hdn2 : HvDn hv (L1 ++ x :: L2) → HvDn (hv.set at_ ⟨k.id, k.sure, if k.may = [] then p else k.may, k.ends⟩) (L1 ++ x :: L2) := fun q y hy => by
  rcases hset _ y hy with rfl | ⟨hy, -⟩
  ·exact q k hkm
  ·exact q y hy
 rcases h.mode with ⟨q0, g, rs, U, K, q⟩ | ⟨q0, q⟩
 ·have q0k : ∃ z ∈ L1 ++ x :: L2, z.id = (k.id : Int) ∧ z.b = x.b := by
   obtain ⟨z, hz, a, b⟩ := (q0 k hkm).2
   exact ⟨z, hz, a, b.trans hxb.symm⟩
  rw [← hxb] at *
  rcases q.patch (by have := h.nxc; omega) (by omega) hid hp (by omega) with ⟨T2, g2, U2, e, h2, ho⟩ | ⟨T2, e, es, h2⟩
  ·rw [e] at ht2
   refine .inl ⟨T2, e, ht2.mono (by omega) (by omega), ?_, h2.ids, fun y hy => ?_, by rw [set_ids (k2 := ⟨k.id, x.b ++ p, [], k.ends⟩) hk rfl]; exact h.hids, fun y hy => ?_, h.nx1, by have := h.nxc; omega, .inl ⟨fun y hy => ?_, g2, rs, U2, K, h2.mono (by unfold NN; omega) (by omega) (by omega)⟩⟩
   ·have := h2.size
    have h3 := h2.jb.sum
    omega
   ·rcases mid_mem.1 hy with rfl | hy
    ·obtain ⟨id, a, b, d, e, f, i⟩ := h.each x (by simp)
     exact ⟨id, a, b, d, e, f, by rw [List.length_append]; omega⟩
    ·exact hn.each y (mid_mem.2 (.inr hy))
   ·rcases hset _ y hy with rfl | ⟨hy, -⟩
    ·exact ⟨hk1, hk2, by show (x.b ++ p).length ≤ _; rw [List.length_append]; omega⟩
    ·exact hn.hlt y hy
   ·rcases hset _ y hy with rfl | ⟨hy, hne⟩
    ·exact ⟨rfl, _, mid_mem.2 (.inl rfl), hid, rfl⟩
    ·obtain ⟨a, z, hz, b1, b2⟩ := q0 y hy
     rcases mid_mem.1 hz with rfl | hz
     ·rw [hid] at b1; omega
     ·exact ⟨a, z, mid_mem.2 (.inr hz), b1, b2⟩
  ·rw [e] at ht2
   have hmk := (q0 k hkm).1
   refine .inr ⟨T2, e, ht2.mono (by omega) (by omega), by omega, h.ids, hn.each, by rw [set_ids (k2 := ⟨k.id, x.b, if k.may = [] then p else k.may, k.ends⟩) hk rfl]; exact h.hids, hlt2, h.nx1, by have := h.nxc; omega, .inr ⟨hdn2 q0.dn, ?_⟩⟩
   refine (h2 _ (fit_of (fun y hy => ?_) q) (fun y hy => (hlt2 y hy).2.1) (fun y hy e2 i => ?_)).mono (fun y hy => hy.mono (by have := h.nxc; omega) (by unfold NN; omega) (by omega)) (by omega)
   ·rcases hset _ y hy with rfl | ⟨hy, -⟩
    ·exact q0k
    ·exact (q0 y hy).2
   ·rcases hset _ y hy with rfl | ⟨hy, hne⟩
    ·exact ⟨i, by simp [hmk]⟩
    ·exact absurd e2 hne
 ·have e : patchOf T (ukeyOf k.id) x (k.sure.length : Int) p = (5, T, x) := by
   unfold patchOf
   rw [if_pos (by rw [hxb]), if_neg (by omega), down_append2 q.down, if_neg (by simp)]
  refine .inr ⟨T, e, hn.tidy, hn.size, hn.ids, hn.each, by rw [set_ids (k2 := ⟨k.id, k.sure, if k.may = [] then p else k.may, k.ends⟩) hk rfl]; exact h.hids, hlt2, h.nx1, hn.nxc, .inr ⟨hdn2 q0, ?_⟩⟩
  exact q.mono (fun y hy => (hy.weak hmay).mono (by omega) (by unfold NN; omega) (by omega)) (by omega)
theorem LSt.ended {hv : List Kp} {T : TM} {L : List Ses} {nx c : Nat} (h : LSt hv T L nx c) {k : Kp} (hk : k ∈ hv) (hn : ∀ x ∈ L, x.id ≠ (k.id : Int)) : k.ends = true := by
 rcases h.mode with ⟨q0, -⟩ | ⟨q0, -⟩
 ·obtain ⟨-, x, hx, e, -⟩ := q0 k hk
  exact absurd e (hn x hx)
 ·rcases q0 k hk with ⟨x, hx, e, -⟩ | ⟨q, -⟩
  ·exact absurd e (hn x hx)
  ·exact q
theorem LSt.sure_ {hv : List Kp} {T : TM} {L1 L2 : List Ses} {x : Ses} {nx c : Nat} (h : LSt hv T (L1 ++ x :: L2) nx c) {k : Kp} (hkm : k ∈ hv) (hid : x.id = (k.id : Int)) : x.b = k.sure := by
 obtain ⟨n1, n2⟩ := h.other
 have key : ∀ y ∈ L1 ++ x :: L2, y.id = (k.id : Int) → y.b = k.sure → x.b = k.sure := fun y hy e1 e2 => by
  rcases mid_mem.1 hy with rfl | hy
  ·exact e2
  ·exact absurd (e1.trans hid.symm) (n1 y hy)
 rcases h.mode with ⟨q0, -⟩ | ⟨q0, -⟩
 ·obtain ⟨-, y, hy, e1, e2⟩ := q0 k hkm
  exact key y hy e1 e2
 ·rcases q0 k hkm with ⟨y, hy, e1, e2⟩ | ⟨-, hne⟩
  ·exact key y hy e1 e2
  ·exact absurd hid (hne x (by simp))
theorem LSt.cutEnd {hv : List Kp} {T T2 : TM} {L1 L2 : List Ses} {x : Ses} {nx c n : Nat} (h : LSt hv T (L1 ++ x :: L2) nx c) {at_ : Nat} {k : Kp} (hk : hv[at_]? = some k) (hid : x.id = (k.id : Int)) (gone : Bool) (ht : Tidy T2.m (500000000 + 10 * c + 3) (1000000000 + 10 * c + 3)) (hs : T2.size ≤ BB (c + 1)) (hn : n ≤ 500000000 + 10 * c + 3)
  (hd : Dn 1048576 (Im (hv.set at_ ⟨k.id, k.sure, k.may, true⟩) (c + 2) (NN (c + 1)) (BB (c + 1))) T2.m n) :
  LSt (hv.set at_ ⟨k.id, k.sure, k.may, true⟩) T2 (if gone = true then L1 ++ L2 else L1 ++ x :: L2) nx (c + 1) := by
 have hkm := List.mem_of_getElem? hk
 have hn2 := h.next
 obtain ⟨n1, n2⟩ := h.other
 have hset := fun k2 : Kp => set_mem (k2 := k2) h.hids hk
 have hdn0 : HvDn hv (L1 ++ x :: L2) := by
  rcases h.mode with ⟨q0, -⟩ | ⟨q0, -⟩
  ·exact q0.dn
  ·exact q0
 have hL : ∀ y ∈ (if gone = true then L1 ++ L2 else L1 ++ x :: L2), y ∈ L1 ++ x :: L2 := fun y hy => by
  split at hy
  ·exact mid_mem.2 (.inr hy)
  ·exact hy
 refine ⟨ht.mono (by omega) (by omega), hs, ?_, fun y hy => hn2.each y (hL y hy), by rw [set_ids (k2 := ⟨k.id, k.sure, k.may, true⟩) hk rfl]; exact h.hids, fun y hy => ?_, h.nx1, by have := h.nxc; omega, .inr ⟨fun y hy => ?_, hd.mono (fun _ h => h) (by omega)⟩⟩
 ·split
  ·exact n2
  ·exact h.ids
 ·rcases hset _ y hy with rfl | ⟨hy, -⟩
  ·exact hn2.hlt k hkm
  ·exact hn2.hlt y hy
 ·cases gone with
  | true =>
   rw [if_pos rfl]
   rcases hset _ y hy with rfl | ⟨hy, hne⟩
   ·exact .inr ⟨rfl, fun z hz e => n1 z hz (e.trans hid.symm)⟩
   ·rcases hdn0 y hy with ⟨z, hz, b1, b2⟩ | ⟨a, b⟩
    ·rcases mid_mem.1 hz with rfl | hz
     ·rw [hid] at b1; omega
     ·exact .inl ⟨z, hz, b1, b2⟩
    ·exact .inr ⟨a, fun z hz => b z (mid_mem.2 (.inr hz))⟩
  | false =>
   rw [if_neg (by simp)]
   rcases hset _ y hy with rfl | ⟨hy, hne⟩
   ·rcases hdn0 k hkm with q | ⟨a, b⟩
    ·exact .inl q
    ·exact .inr ⟨rfl, b⟩
   ·exact hdn0 y hy
theorem LSt.goodEnd {hv : List Kp} {T T2 : TM} {L1 L2 : List Ses} {x : Ses} {nx c n : Nat} {g2 : Fn} {rs2 : List (List UInt8)} {U : Nat} {K2 : Ks} (h : LSt hv T (L1 ++ x :: L2) nx c) (q0 : HvUp hv (L1 ++ x :: L2)) {at_ : Nat} {k : Kp} (hk : hv[at_]? = some k) (hid : x.id = (k.id : Int)) (ht : Tidy T2.m (500000000 + 10 * c + 3) (1000000000 + 10 * c + 3)) (hn : n ≤ 500000000 + 10 * c + 3)
  (h2 : Us T2 g2 rs2 U (NN c) (BB (c + 1)) K2 nx n (L1 ++ L2)) : LSt (hv.eraseIdx at_) T2 (L1 ++ L2) nx (c + 1) := by
 have hn2 := h.next
 have her := erase_mem h.hids hk
 refine ⟨ht.mono (by omega) (by omega), ?_, h2.ids, fun y hy => hn2.each y (mid_mem.2 (.inr hy)), ?_, fun y hy => hn2.hlt y (her y hy).1, h.nx1, by have := h.nxc; omega, .inl ⟨fun y hy => ?_, g2, rs2, U, K2, h2.mono (by unfold NN; omega) (Nat.le_refl _) (by omega)⟩⟩
 ·have := h2.size
  have h3 := h2.jb.sum
  omega
 ·exact ((List.eraseIdx_sublist hv at_).map _).nodup h.hids
 ·obtain ⟨hy1, hne⟩ := her y hy
  obtain ⟨a, z, hz, b1, b2⟩ := q0 y hy1
  rcases mid_mem.1 hz with rfl | hz
  ·rw [hid] at b1; omega
  ·exact ⟨a, z, hz, b1, b2⟩
theorem LSt.finish {hv : List Kp} {T : TM} {L1 L2 : List Ses} {x : Ses} {nx c : Nat} (h : LSt hv T (L1 ++ x :: L2) nx c) (hc : c < 60) {at_ : Nat} {k : Kp} (hk : hv[at_]? = some k) (hid : x.id = (k.id : Int)) :
  (∃ T2, finishOf T nmT (ukeyOf k.id) x (sumOf k.sure) = (0, T2, true) ∧ wholeOf T2.m (sumOf k.sure) = true ∧ LSt (hv.eraseIdx at_) T2 (L1 ++ L2) nx (c + 1)) ∨
  (∃ T2 gone, finishOf T nmT (ukeyOf k.id) x (sumOf k.sure) = (5, T2, gone) ∧ LSt (hv.set at_ ⟨k.id, k.sure, k.may, true⟩) T2 (if gone = true then L1 ++ L2 else L1 ++ x :: L2) nx (c + 1)) := by
 have hB : BB c + 3000 = BB (c + 1) := by unfold BB; omega
 have hB2 : BB (c + 1) ≤ 186000 := by unfold BB; omega
 have hkm := List.mem_of_getElem? hk
 have hxb := h.sure_ hkm hid
 have hnx := h.nxc
 have hset := fun k2 : Kp => set_mem (k2 := k2) h.hids hk
 have ht2 := h.tidy.finish nmT (ukeyOf k.id) x (sumOf x.b)
 rw [← hxb]
 rcases h.mode with ⟨q0, g, rs, U, K, q⟩ | ⟨q0, q⟩
 ·rcases q.finish (by omega) (by unfold NN; omega) (by omega) hid with ⟨T2, g2, rs2, e, h2, hw, ho⟩ | ⟨T2, gone, e, es, h2⟩
  ·rw [e] at ht2
   rw [hB] at h2
   exact .inl ⟨T2, e, hw, h.goodEnd q0 hk hid ht2 (Nat.le_refl _) h2⟩
  ·rw [e] at ht2
   rw [hB] at h2
   refine .inr ⟨T2, gone, e, ?_⟩
   rw [hxb]
   refine h.cutEnd hk hid gone ht2 (by omega) (Nat.le_refl _) ((h2 _ (fit_of (fun y hy => ?_) q) (fun y hy => ?_) (fun y hy e2 => ?_)).mono (fun y hy => hy.mono (by omega) (by unfold NN; omega) (Nat.le_refl _)) (Nat.le_refl _))
   ·rcases hset _ y hy with rfl | ⟨hy, -⟩
    ·exact (q0 k hkm).2
    ·exact (q0 y hy).2
   ·rcases hset _ y hy with rfl | ⟨hy, -⟩
    ·exact (h.hlt k hkm).2.1
    ·exact (h.hlt y hy).2.1
   ·rcases hset _ y hy with rfl | ⟨hy, hne⟩
    ·rfl
    ·exact absurd e2 hne
 ·obtain ⟨ge, gl⟩ := end_enc k.id (e := sumOf x.b) (.inr (sumOf_length _))
  obtain ⟨id, a1, a2, a3, a4, a5, a6⟩ := h.each x (by simp)
  obtain ⟨s, hs⟩ := tApp_down q.down ge
  have e : finishOf T nmT (ukeyOf k.id) x (sumOf x.b) = (5, ⟨T.m, T.size, T.fs, s⟩, false) := by
   unfold finishOf
   rw [if_pos rfl, a4, a5]
   have hs2 : tAppOf T nmT [⟨ukeyOf k.id, false, laidOf abR (5 : Int).toNat (sumOf x.b)⟩] = (5, ⟨T.m, T.size, T.fs, s⟩) := hs
   rw [hs2, if_neg (show ¬ (5 : Int) = 0 by omega)]
  rw [e] at ht2
  refine .inr ⟨_, false, e, ?_⟩
  rw [hxb]
  refine h.cutEnd hk hid false ht2 (by have := h.size; dsimp only; omega) (by omega) (q.mono (fun y hy => (hy.weak (fun y hy => ?_)).mono (by omega) (by unfold NN; omega) (by omega)) (Nat.le_refl _))
  rcases hset _ y hy with rfl | ⟨hy, -⟩
  ·exact ⟨k, hkm, rfl, rfl, fun _ => rfl, .inl rfl⟩
  ·exact ⟨y, hy, rfl, rfl, fun h => h, .inl rfl⟩
theorem LSt.cancel {hv : List Kp} {T : TM} {L1 L2 : List Ses} {x : Ses} {nx c : Nat} (h : LSt hv T (L1 ++ x :: L2) nx c) (hc : c < 60) {at_ : Nat} {k : Kp} (hk : hv[at_]? = some k) (hid : x.id = (k.id : Int)) :
  (∃ T2, cancelOf T nmT (ukeyOf k.id) = (0, T2, true) ∧ LSt (hv.eraseIdx at_) T2 (L1 ++ L2) nx (c + 1)) ∨
  (∃ T2 gone, cancelOf T nmT (ukeyOf k.id) = (5, T2, gone) ∧ LSt (hv.set at_ ⟨k.id, k.sure, k.may, true⟩) T2 (if gone = true then L1 ++ L2 else L1 ++ x :: L2) nx (c + 1)) := by
 have hB : BB c + 3000 = BB (c + 1) := by unfold BB; omega
 have hB2 : BB (c + 1) ≤ 186000 := by unfold BB; omega
 have hkm := List.mem_of_getElem? hk
 have hnx := h.nxc
 have hset := fun k2 : Kp => set_mem (k2 := k2) h.hids hk
 have ht2 := (h.tidy.cancel nmT (ukeyOf k.id)).mono (show _ ≤ 500000000 + 10 * c + 3 by omega) (show _ ≤ 1000000000 + 10 * c + 3 by omega)
 rcases h.mode with ⟨q0, g, rs, U, K, q⟩ | ⟨q0, q⟩
 ·rcases q.cancel (by omega) (by omega) hid with ⟨T2, g2, rs2, e, h2, ho⟩ | ⟨T2, gone, e, es, h2⟩
  ·rw [e] at ht2
   rw [hB] at h2
   exact .inl ⟨T2, e, h.goodEnd q0 hk hid ht2 (by omega) h2⟩
  ·rw [e] at ht2
   rw [hB] at h2
   refine .inr ⟨T2, gone, e, ?_⟩
   refine h.cutEnd hk hid gone ht2 (by omega) (by omega) ((h2 _ (fit_of (fun y hy => ?_) q) (fun y hy => ?_) (fun y hy e2 => ?_)).mono (fun y hy => hy.mono (by omega) (by unfold NN; omega) (Nat.le_refl _)) (Nat.le_refl _))
   ·rcases hset _ y hy with rfl | ⟨hy, -⟩
    ·exact (q0 k hkm).2
    ·exact (q0 y hy).2
   ·rcases hset _ y hy with rfl | ⟨hy, -⟩
    ·exact (h.hlt k hkm).2.1
    ·exact (h.hlt y hy).2.1
   ·rcases hset _ y hy with rfl | ⟨hy, hne⟩
    ·rfl
    ·exact absurd e2 hne
 ·obtain ⟨ge, gl⟩ := gone_enc k.id
  obtain ⟨s, hs⟩ := tApp_down q.down ge
  have e : cancelOf T nmT (ukeyOf k.id) = (5, ⟨T.m, T.size, T.fs, s⟩, false) := by
   unfold cancelOf
   rw [hs, if_neg (show ¬ (5 : Int) = 0 by omega)]
  rw [e] at ht2
  refine .inr ⟨_, false, e, ?_⟩
  refine h.cutEnd hk hid false ht2 (by have := h.size; dsimp only; omega) (by omega) (q.mono (fun y hy => (hy.weak (fun y hy => ?_)).mono (by omega) (by unfold NN; omega) (by omega)) (Nat.le_refl _))
  rcases hset _ y hy with rfl | ⟨hy, -⟩
  ·exact ⟨k, hkm, rfl, rfl, fun _ => rfl, .inl rfl⟩
  ·exact ⟨y, hy, rfl, rfl, fun h => h, .inl rfl⟩
theorem LSt.fuse {hv : List Kp} {T : TM} {L : List Ses} {nx c : Nat} (h : LSt hv T L nx c) (k : Int) (hk : k ≤ 9223372036854775807) : LSt hv { T with m := (fuseOf T.m k).2 } L nx c := by
 refine ⟨h.tidy.setFuse k hk, h.size, h.ids, h.each, h.hids, h.hlt, h.nx1, h.nxc, ?_⟩
 rcases h.mode with ⟨q0, g, rs, U, K, q⟩ | ⟨q0, q⟩
 ·exact .inl ⟨q0, g, rs, U, K, ⟨⟨⟨q.on, q.size, q.jb, q.jrn, q.yk, q.yf⟩, q.up.fuse k hk⟩, q.live, q.all, q.ids, q.orph⟩⟩
 ·exact .inr ⟨q0, q.fuse k⟩
end Go.Proofs.YtlcnhpjggjgnpaaGreatDoor
