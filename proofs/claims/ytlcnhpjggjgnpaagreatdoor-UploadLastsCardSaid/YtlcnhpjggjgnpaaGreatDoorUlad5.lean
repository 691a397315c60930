/- A part of the proof. -/
import Derived.Test.YtlcnhpjggjgnpaaGreatDoorUlab4
import Derived.Test.YtlcnhpjggjgnpaaGreatDoorUlad2
import Derived.Test.YtlcnhpjggjgnpaaGreatDoorUlad4
namespace Go.Proofs.YtlcnhpjggjgnpaaGreatDoor
set_option linter.unusedVariables false
open Go.RowKit Go.MapKept
theorem Tidy.jAppend {m : DM} {n t : Nat} (h : Tidy m n t) (nm : ByteArray) (size : Nat) (p : List UInt8) : Tidy (jAppendOf m nm size p).2.1 (n + 1) (t + 1) := by
 have h1 := h.append nm (frameOf p)
 unfold jAppendOf
 split
 ·exact h.mono (Nat.le_succ _) (Nat.le_succ _)
 ·split
  ·exact h1
  ·exact h1
theorem Tidy.tApp {T : TM} {n t : Nat} (h : Tidy T.m n t) (nm : ByteArray) (l : List TCh) : Tidy (tAppOf T nm l).2.m (n + 1) (t + 1) := by
 have h1 := h.jAppend nm T.size (encOf l).2
 unfold tAppOf
 split
 ·exact h.mono (Nat.le_succ _) (Nat.le_succ _)
 ·split
  ·split
   ·split
    ·exact h1.sync
    ·exact h1.sync
   ·exact h1
  ·exact h.mono (Nat.le_succ _) (Nat.le_succ _)
theorem Tidy.adopt {m : DM} {n t : Nat} (h : Tidy m n t) (nm : ByteArray) (dg : List UInt8) : Tidy (adoptOf m nm dg).2 (n + 1) (t + 1) := by
 unfold adoptOf
 split
 ·split
  ·split
   ·split
    ·exact (h.remove nm).sync
    ·exact h.remove nm
   ·split
    ·exact (h.rename nm (fileOf dg)).sync
    ·exact h.rename nm (fileOf dg)
  ·exact h.mono (Nat.le_succ _) (Nat.le_succ _)
 ·exact h.mono (Nat.le_succ _) (Nat.le_succ _)
theorem Tidy.close {T : TM} {n t : Nat} (h : Tidy T.m n t) (nm ky : ByteArray) (dg : List UInt8) : Tidy (closeOf T nm ky dg).2.m (n + 2) (t + 2) := by
 have h1 := h.adopt ky dg
 have h2 := Tidy.tApp (T := { T with m := (adoptOf T.m ky dg).2 }) h1 nm [⟨ky, true, []⟩]
 unfold closeOf
 split
 ·exact h1.mono (by omega) (by omega)
 ·split
  ·exact h2
  ·exact h2
theorem Tidy.resume {T : TM} {n t : Nat} (h : Tidy T.m n t) (nm : ByteArray) (x : UE) : Tidy (resumeOf T nm x).2.1.m (n + 2) (t + 2) := by
 unfold resumeOf
 split
 ·exact h.close nm _ _
 ·split
  ·exact h.mono (by omega) (by omega)
  ·exact h.mono (by omega) (by omega)
theorem Tidy.start {T : TM} {n t : Nat} (h : Tidy T.m n t) (nm : ByteArray) (nx : Nat) (repo : ByteArray) (til : Int) : Tidy (startOf T nm nx repo til).2.2.m (n + 3) (t + 3) := by
 have h1 := h.create (ukeyOf nx)
 have h2 := Tidy.tApp (T := ⟨(createOf T.m (ukeyOf nx)).2, T.size, T.fs, T.down⟩) h1 nm [⟨ukeyOf nx, false, laidOf repo til.toNat []⟩, ⟨uB, false, putOf (nx + 1) 8⟩]
 have h3 := h2.remove (ukeyOf nx)
 unfold startOf
 split
 ·split
  ·exact h.mono (by omega) (by omega)
  ·split
   ·exact h.mono (by omega) (by omega)
   ·split
    ·split
     ·exact h2.mono (by omega) (by omega)
     ·exact h3
    ·exact h1.mono (by omega) (by omega)
 ·exact h.mono (by omega) (by omega)
theorem Tidy.patch {T : TM} {n t : Nat} (h : Tidy T.m n t) (ky : ByteArray) (x : Ses) (at_ : Int) (p : List UInt8) : Tidy (patchOf T ky x at_ p).2.1.m (n + 1) (t + 1) := by
 have h1 := h.append ky p
 unfold patchOf
 split
 ·split
  ·exact h.mono (by omega) (by omega)
  ·split
   ·split
    ·exact h1.sync
    ·exact h1.sync
   ·exact h1
 ·exact h.mono (by omega) (by omega)
theorem Tidy.finish {T : TM} {n t : Nat} (h : Tidy T.m n t) (nm ky : ByteArray) (x : Ses) (dg : List UInt8) : Tidy (finishOf T nm ky x dg).2.1.m (n + 3) (t + 3) := by
 have h1 := h.tApp nm [⟨ky, false, laidOf x.repo x.til.toNat dg⟩]
 have h2 := Tidy.close (T := (tAppOf T nm [⟨ky, false, laidOf x.repo x.til.toNat dg⟩]).2) h1 nm ky dg
 unfold finishOf
 split
 ·split
  ·exact h2
  ·exact h1.mono (by omega) (by omega)
 ·exact h.mono (by omega) (by omega)
theorem Tidy.cancel {T : TM} {n t : Nat} (h : Tidy T.m n t) (nm ky : ByteArray) : Tidy (cancelOf T nm ky).2.1.m (n + 2) (t + 2) := by
 have h1 := h.tApp nm [⟨ky, true, []⟩]
 have h2 := h1.remove ky
 unfold cancelOf
 split
 ·split
  ·exact h2.sync
  ·exact h2
 ·exact h1.mono (by omega) (by omega)
theorem Tidy.sweepFrom (fs : FS) : ∀ (l : List ByteArray) {m : DM} {n t g : Nat}, Tidy m n t → Tidy (sweepFrom fs l m g).2 (n + l.length) (t + l.length)
 | [], m, n, t, g, h => by
  unfold Go.Proofs.YtlcnhpjggjgnpaaGreatDoor.sweepFrom
  split
  ·exact h.sync
  ·exact h
 | f :: l, m, n, t, g, h => by
  have h1 := Tidy.sweepFrom fs l (m := m) (g := g) h
  have h2 := h.remove f
  have h3 := Tidy.sweepFrom fs l (g := g + 1) h2
  rw [List.length_cons]
  unfold Go.Proofs.YtlcnhpjggjgnpaaGreatDoor.sweepFrom
  split
  ·exact h1.mono (by omega) (by omega)
  ·split
   ·exact h3.mono (by omega) (by omega)
   ·exact h2.mono (by omega) (by omega)
theorem names_le (fs : FS) (hd : ByteArray) : (namesOf fs hd).length ≤ fs.length := by
 unfold namesOf
 rw [List.length_map]
 exact List.length_filter_le _ _
theorem Tidy.sweep {T : TM} {n t : Nat} (h : Tidy T.m n t) : Tidy (sweepOf T).2.m (n + t) (t + t) := by
 have hl := Nat.le_trans (names_le T.m.now hdU) h.lnow
 have h1 := Tidy.sweepFrom T.fs (namesOf T.m.now hdU) (g := 0) h
 unfold sweepOf
 split
 ·exact h.mono (by omega) (by omega)
 ·exact h1.mono (by omega) (by omega)
theorem does_room (m : DM) (c : Ch) : (doesOf m c).2.room = m.room := by
 unfold doesOf
 split
 ·rfl
 ·exact spend_room
theorem append_room (m : DM) (f : ByteArray) (p : List UInt8) : (appendOf m f p).2.room = m.room := by
 unfold appendOf
 repeat' split
 all_goals first | rfl | exact does_room _ _
theorem remove_room (m : DM) (f : ByteArray) : (removeOf m f).2.room = m.room := by
 unfold removeOf
 repeat' split
 all_goals first | rfl | exact does_room _ _
theorem rename_room (m : DM) (f g : ByteArray) : (renameOf m f g).2.room = m.room := by
 unfold renameOf
 repeat' split
 all_goals first | rfl | exact does_room _ _
theorem sync_room (m : DM) : (syncOf m).2.room = m.room := by
 unfold syncOf
 repeat' split
 all_goals first | rfl | exact spend_room
theorem jAppend_room (m : DM) (nm : ByteArray) (size : Nat) (p : List UInt8) : (jAppendOf m nm size p).2.1.room = m.room := by
 unfold jAppendOf
 repeat' split
 all_goals first | rfl | exact append_room _ _ _
theorem tApp_room (T : TM) (nm : ByteArray) (l : List TCh) : (tAppOf T nm l).2.m.room = T.m.room := by
 have h1 := jAppend_room T.m nm T.size (encOf l).2
 have h2 := sync_room (jAppendOf T.m nm T.size (encOf l).2).2.1
 unfold tAppOf
 repeat' split
 all_goals first | rfl | exact h2.trans h1 | exact h1
theorem adopt_room (m : DM) (nm : ByteArray) (dg : List UInt8) : (adoptOf m nm dg).2.room = m.room := by
 unfold adoptOf
 repeat' split
 all_goals first | rfl | exact (sync_room _).trans (remove_room _ _) | exact (sync_room _).trans (rename_room _ _ _) | exact remove_room _ _ | exact rename_room _ _ _
theorem close_room (T : TM) (nm ky : ByteArray) (dg : List UInt8) : (closeOf T nm ky dg).2.m.room = T.m.room := by
 have h1 := adopt_room T.m ky dg
 have h2 := tApp_room { T with m := (adoptOf T.m ky dg).2 } nm [⟨ky, true, []⟩]
 unfold closeOf
 repeat' split
 all_goals first | exact h1 | exact h2.trans h1
theorem resume_room (T : TM) (nm : ByteArray) (x : UE) : (resumeOf T nm x).2.1.m.room = T.m.room := by
 unfold resumeOf
 repeat' split
 all_goals first | rfl | exact close_room _ _ _ _
theorem cont_room {m : DM} {n : Nat} (h : Good m n) (f : ByteArray) : ((contOf m f).length : Int) ≤ m.room := by
 have h1 := h.unow
 have h2 : (contOf m f).length ≤ used m.now := used_get h.nnow f
 omega
theorem tApp_fs (T : TM) (nm : ByteArray) (l : List TCh) : (tAppOf T nm l).2.fs = T.fs ∨ ((∀ c ∈ l, badCh c = false) ∧ (tAppOf T nm l).2.fs = tdos T.fs l) := by
 unfold tAppOf
 split
 ·exact .inl rfl
 ·split
  ·rename_i he
   split
   ·split
    ·exact .inr ⟨(enc_ok he).2.2.1, rfl⟩
    ·exact .inl rfl
   ·exact .inl rfl
  ·exact .inl rfl
theorem close_fs (T : TM) (nm ky : ByteArray) (dg : List UInt8) : (closeOf T nm ky dg).2.fs = T.fs ∨ (closeOf T nm ky dg).2.fs = fdel T.fs ky := by
 have h2 := tApp_fs { T with m := (adoptOf T.m ky dg).2 } nm [⟨ky, true, []⟩]
 have h3 : tdos T.fs [⟨ky, true, []⟩] = fdel T.fs ky := by simp [tdos, tdo]
 unfold closeOf
 split
 ·exact .inl rfl
 ·split
  ·exact h2.imp id (fun h => h.2.trans h3)
  ·exact h2.imp id (fun h => h.2.trans h3)
theorem resume_fs (T : TM) (nm : ByteArray) (x : UE) : (resumeOf T nm x).2.1.fs = T.fs ∨ (resumeOf T nm x).2.1.fs = fdel T.fs (ukeyOf x.id) := by
 unfold resumeOf
 split
 ·exact close_fs _ _ _ _
 ·split
  ·exact .inl rfl
  ·exact .inl rfl
theorem close_size (T : TM) (nm ky : ByteArray) (dg : List UInt8) : (closeOf T nm ky dg).2.size ≤ T.size + 1048576 := by
 have h := tApp_size { T with m := (adoptOf T.m ky dg).2 } nm [⟨ky, true, []⟩]
 unfold closeOf
 split
 ·exact Nat.le_add_right _ _
 ·split
  ·exact h
  ·exact h
theorem resume_size (T : TM) (nm : ByteArray) (x : UE) : (resumeOf T nm x).2.1.size ≤ T.size + 1048576 := by
 unfold resumeOf
 split
 ·exact close_size _ _ _ _
 ·split
  ·exact Nat.le_add_right _ _
  ·exact Nat.le_add_right _ _
theorem TabOk.fdel {fs : FS} (h : TabOk fs) (k : ByteArray) : TabOk (fdel fs k) :=
 ⟨h.sorted.filter _, fun p hp => h.each p (List.mem_filter.1 hp).1⟩
theorem TabOk.val {fs : FS} (h : TabOk fs) (k : ByteArray) : ((fget fs k).getD []).length ≤ 262144 := by
 cases hg : fget fs k with
 | none => simp
 | some v => exact (h.each _ (mem_of_fget hg)).2.2
theorem keysFrom_hd (hd : ByteArray) : ∀ (fs : FS) (n : Int) (out : List ByteArray), (∀ p ∈ fs, 0 < p.1.size) → (out.length : Int) + fs.length ≤ n → keysFrom hd ⟨#[]⟩ n fs out = out ++ (fs.filter (fun p => beginsB p.1 hd)).map (·.1)
 | [], n, out, _, _ => by rw [keysFrom]; simp
 | p :: fs, n, out, h, hn => by
  rw [List.length_cons] at hn
  have hb := blt_empty (h p (List.mem_cons_self ..))
  rw [keysFrom, if_neg (by omega), keysFrom_hd hd fs n _ (fun x hx => h x (List.mem_cons_of_mem _ hx)) (by split <;> (try rw [List.length_append, List.length_singleton]) <;> omega), List.filter_cons]
  by_cases hc : beginsB p.1 hd = true
  ·rw [if_pos ⟨hc, hb⟩, if_pos hc]; simp
  ·rw [if_neg (fun h => hc h.1), if_neg hc]
theorem UTab.ks {fs : FS} {E : List UE} {nx : Nat} (h : UTab fs E nx) : keysOf fs hdU ⟨#[]⟩ (fs.length : Int) = E.map (fun x => ukeyOf x.id) := by
 unfold keysOf
 rw [keysFrom_hd hdU fs _ [] (fun p hp => (h.ok.each p hp).1) (by simp), h.keys]
 simp [List.map_map, Function.comp_def]
theorem UTab.get {fs : FS} {E : List UE} {nx : Nat} (h : UTab fs E nx) {x : UE} (hx : x ∈ E) : fget fs (ukeyOf x.id) = some (uval x) := by
 have h1 : (ukeyOf x.id, uval x) ∈ fs.filter (fun p => beginsB p.1 hdU) := by
  rw [h.keys]
  exact List.mem_map.2 ⟨x, hx, rfl⟩
 exact fget_mem h.ok.sorted.nodup (List.mem_filter.1 h1).1
theorem UTab.len {fs : FS} {E : List UE} {nx : Nat} (h : UTab fs E nx) : E.length ≤ fs.length := by
 have h1 := congrArg List.length h.keys
 rw [List.length_map] at h1
 have h2 := List.length_filter_le (fun p => beginsB p.1 hdU) fs
 omega
theorem putOf_inj4 {a b : Nat} (ha : a < 4294967296) (hb : b < 4294967296) (h : putOf a 4 = putOf b 4) : a = b := by
 have h1 := getOf_putOf 4 a (by omega)
 have h2 := getOf_putOf 4 b (by omega)
 rw [h] at h1
 omega
theorem ukey_inj {a b : Nat} (ha : a < 4294967296) (hb : b < 4294967296) (h : ukeyOf a = ukeyOf b) : a = b := by
 have h1 := congrArg (fun s : ByteArray => s.data.toList) h
 unfold ukeyOf at h1
 simp only [ByteArray.data_append, Array.toList_append, List.append_cancel_left_eq] at h1
 exact putOf_inj4 ha hb (hexOf_inj (by rw [putOf_length, putOf_length]) h1)
theorem UTab.ids {fs : FS} {E : List UE} {nx : Nat} (h : UTab fs E nx) : (E.map (·.id)).Nodup := by
 have h1 : ((fs.filter (fun p => beginsB p.1 hdU)).map (·.1)).Nodup := (List.filter_sublist.map _).nodup h.ok.sorted.nodup
 rw [h.keys, List.map_map] at h1
 have h2 : E.map ((fun p : ByteArray × List UInt8 => p.1) ∘ fun x => (ukeyOf x.id, uval x)) = (E.map (·.id)).map ukeyOf := by rw [List.map_map]; rfl
 rw [h2] at h1
 exact List.Pairwise.of_map ukeyOf (fun a b h e => h (by rw [e])) h1
end Go.Proofs.YtlcnhpjggjgnpaaGreatDoor
