/- A part of the proof. -/
import Derived.Test.YtlcnhpjggjgnpaaGreatDoorUlae2
namespace Go.Proofs.YtlcnhpjggjgnpaaGreatDoor
set_option linter.unusedVariables false
open Go.RowKit Go.MapKept
structure CrSt (hv : List Kp) (m : DM) (c : Nat) : Prop where
 ex : ∃ x, Im hv (c + 1) (NN c) (BB c) x ∧ Up 1048576 (fun y => y = x) x m 0
 fuse : m.fuse = -1
 tidy : Tidy m 0 (NN c + 2)
 hids : (hv.map (·.id)).Nodup
 one : ∀ k ∈ hv, 1 ≤ k.id
theorem LSt.crash {hv : List Kp} {T : TM} {L : List Ses} {nx c : Nat} (h : LSt hv T L nx c) (keep part : Int) : CrSt hv (crashOf T.m keep part) c := by
 obtain ⟨x, h1, h2, h3, h4⟩ := crash_plain h.tidy.good h.tidy h.room h.img keep part
 exact ⟨⟨x, h1, h2⟩, h3, h4, h.hids, fun k hk => (h.hlt k hk).1⟩
def OpCond (m : DM) (E : List UE) (nx : Nat) : Prop := (bNewOf m).1 = 0 → ∀ size fs, (tOpenOf (bNewOf m).2 nmT).tab = some (size, fs) → UTab fs E nx ∧ size + E.length * 1048576 ≤ 1099511627776 ∧ fs.length ≤ 1000000 ∧ (tOpenOf (bNewOf m).2 nmT).m.room ≤ 1048576 ∧ ∃ k k', Tidy (tOpenOf (bNewOf m).2 nmT).m k k' ∧ 2 * k + 2 * k' + 8 * E.length + 200 < 549755813888
theorem CrSt.again {hv : List Kp} {m : DM} {c : Nat} (h : CrSt hv m c) (hc : c < 60) (k : Int) (hk : k ≤ 9223372036854775807) : Tidy (fuseOf m k).2 0 (NN c + 2) ∧ ∃ (E : List UE) (nx : Nat), OpCond (fuseOf m k).2 E nx ∧ Tidy (o13Of (fuseOf m k).2 E).2.1 500000000 1000000000 ∧ ∀ keep part : Int, CrSt hv (crashOf (o13Of (fuseOf m k).2 E).2.1 keep part) c := by
 obtain ⟨⟨x, h1, h2⟩, -, h4, h5, h6⟩ := h
 have hB2 : BB c ≤ 183000 := by unfold BB; omega
 have ht := h4.setFuse k hk
 refine ⟨ht, ?_⟩
 obtain ⟨E, nx, e1, e2, e3⟩ := open_plain (h2.fuse k hk) ht (by unfold NN; omega) h1 (by omega) (by unfold NN; omega) (by omega)
 refine ⟨E, nx, e1, e2, fun keep part => ?_⟩
 have key : (o13Of (fuseOf m k).2 E).2.1.room = 1048576 ∧ Img (o13Of (fuseOf m k).2 E).2.1 (fun fs => Im hv (c + 1) (NN c) (BB c) (fget fs)) := by
  rcases e3 with ⟨T, S, g, rs, U, K, e, q, f, b, i, -⟩ | ⟨m2, e, q, -⟩
  ·rw [e]
   exact ⟨q.up.room, q.up.img.mono (fun fs e => by rw [e]; exact q.toYd.im f b i)⟩
  ·rw [e]
   exact ⟨q.room, q.img⟩
 obtain ⟨y, a1, a2, a3, a4⟩ := crash_plain e2.good e2 key.1 key.2 keep part
 exact ⟨⟨y, a1, a2⟩, a3, a4, h5, h6⟩
def ofId (S : List Ses) (id : Nat) : Option Ses := S.find? (fun x => x.id = (id : Int))
def foundOf (hv : List Kp) (S : List Ses) : List Kp := hv.filterMap (fun k => (ofId S k.id).map (fun x => ⟨k.id, x.b, [], false⟩))
theorem ofId_some {S : List Ses} {id : Nat} {x : Ses} (h : ofId S id = some x) : x ∈ S ∧ x.id = (id : Int) := by
 refine ⟨List.mem_of_find?_eq_some h, ?_⟩
 have := List.find?_some h
 simpa using this
theorem ofId_none {S : List Ses} {id : Nat} (h : ofId S id = none) : ∀ x ∈ S, x.id ≠ (id : Int) := fun x hx e => by
 unfold ofId at h
 rw [List.find?_eq_none] at h
 have := h x hx
 simp [e] at this
theorem found_ids (S : List Ses) : ∀ hv : List Kp, ((foundOf hv S).map (·.id)).Sublist (hv.map (·.id))
 | [] => by simp [foundOf]
 | k :: hv => by
  have ih := found_ids S hv
  unfold foundOf at ih ⊢
  cases he : ofId S k.id with
  | none =>
   rw [List.filterMap_cons_none (by rw [he]; rfl), List.map_cons]
   exact ih.cons _
  | some x =>
   rw [List.filterMap_cons_some (b := ⟨k.id, x.b, [], false⟩) (by rw [he]; rfl), List.map_cons, List.map_cons]
   exact ih.cons_cons _
theorem Up.file_le {T : TM} {g : Fn} {rs : List (List UInt8)} {U N B nx n : Nat} {K : Ks} (h : UpY T g rs U N B K nx n) {k : ByteArray} {b : List UInt8} (hk : g k = some b) (h1 : k ≠ nmT) (h2 : k ≠ tmpT) : b.length ≤ B := by
 have hnd := h.up.good.nnow
 have hd := (hnd.fdel tmpT).fdel nmT
 have e : fget (fdel (fdel T.m.now tmpT) nmT) = fclr (fclr g tmpT) nmT := by rw [fget_fdelF, fget_fdelF, h.up.now]
 have h3 := (h.jb.holds _ hd e).1
 have h4 := used_get hd k
 rw [e, fclr_other _ h1, fclr_other _ h2, hk, Option.getD_some] at h4
 have := h.jb.sum
 omega
def FoundOk (hv : List Kp) (S : List Ses) (m : DM) : Prop := ∀ k ∈ hv, (∃ x i, ofId S k.id = some x ∧ x.b = k.sure ++ k.may.take i ∧ thereOf m (ukeyOf k.id) = 0 ∧ contOf m (ukeyOf k.id) = x.b ∧ x.b.length ≤ 1048576 ∧ k.id ≤ 4294967295) ∨ (ofId S k.id = none ∧ k.ends = true)
theorem CrSt.opened {hv : List Kp} {m : DM} {c : Nat} (h : CrSt hv m c) (hc : c < 60) : ∃ (E : List UE) (nx : Nat) (T : TM) (S : List Ses), OpCond m E nx ∧ o13Of m E = (0, T.m, some (T, S)) ∧ LSt (foundOf hv S) T S nx c ∧ FoundOk hv S T.m := by
 obtain ⟨⟨x, h1, h2⟩, h3, h4, h5, h6⟩ := h
 have hB2 : BB c ≤ 183000 := by unfold BB; omega
 obtain ⟨E, nx, e1, e2, e3⟩ := open_plain h2 h4 (by unfold NN; omega) h1 (by omega) (by unfold NN; omega) (by omega)
 rcases e3 with ⟨T, S, g, rs, U, K, e, q, f, b, i, ht⟩ | ⟨m2, e, -, hf⟩
 ·have hn : nx ≤ 4294967296 := by omega
  have hfile : ∀ x ∈ S, ∃ id : Nat, x.id = (id : Int) ∧ K id = some [] ∧ g (ukeyOf id) = some x.b ∧ x.repo = abR ∧ x.til = 5 ∧ x.b.length ≤ BB c := fun x hx => by
   obtain ⟨id, a1, a2, a3, a4, a5⟩ := q.live x hx
   exact ⟨id, a1, a2, a3, a4, a5, Up.file_le q.toUpY a3 (uk_nmT id) (uk_tmpT id)⟩
  refine ⟨E, nx, T, S, e1, e, ⟨ht.mono (by omega) (by omega), ?_, q.ids, fun x hx => ?_, (found_ids S hv).nodup h5, fun y hy => ?_, ?_, b, .inl ⟨fun y hy => ?_, g, rs, U, K, q.mono (Nat.le_refl _) (Nat.le_refl _) (by omega)⟩⟩, fun k hk => ?_⟩
  ·have := q.size
   have h3 := q.jb.sum
   omega
  ·obtain ⟨id, a1, a2, a3, a4, a5, a6⟩ := hfile x hx
   obtain ⟨-, b1, b2, -⟩ := q.yk.has id _ a2
   exact ⟨id, a1, b1, b2, a4, a5, a6⟩
  ·unfold foundOf at hy
   obtain ⟨k, hk, hy⟩ := List.mem_filterMap.1 hy
   obtain ⟨x, hx, rfl⟩ := Option.map_eq_some_iff.1 hy
   obtain ⟨id, a1, a2, a3, a4, a5, a6⟩ := hfile x (ofId_some hx).1
   exact ⟨h6 k hk, i k hk, a6⟩
  ·rcases q.yk.cnt with ⟨_, e⟩ | ⟨_, e⟩ <;> omega
  ·unfold foundOf at hy
   obtain ⟨k, hk, hy⟩ := List.mem_filterMap.1 hy
   obtain ⟨x, hx, rfl⟩ := Option.map_eq_some_iff.1 hy
   exact ⟨rfl, x, (ofId_some hx).1, (ofId_some hx).2, rfl⟩
  ·have hkl := i k hk
   rcases f k hk with ⟨a1, j, a2⟩ | ⟨a1, a2⟩
   ·obtain ⟨x, hx, a3⟩ := q.all k.id _ a1
    left
    cases ho : ofId S k.id with
    | none => exact absurd a3 (ofId_none ho x hx)
    | some y =>
     obtain ⟨hy, hyi⟩ := ofId_some ho
     obtain ⟨id, b1, b2, b3, -, -, b6⟩ := hfile y hy
     have : id = k.id := by rw [b1] at hyi; omega
     rw [this] at b3
     refine ⟨y, j, rfl, ?_, ?_, ?_, by omega, by omega⟩
     ·rw [a2] at b3
      exact (Option.some.inj b3).symm
     ·rw [q.up.there, b3]; rfl
     ·unfold contOf; rw [q.up.now, b3]; rfl
   ·right
    cases ho : ofId S k.id with
    | none => exact ⟨rfl, a1⟩
    | some y =>
     obtain ⟨hy, hyi⟩ := ofId_some ho
     obtain ⟨id, b1, b2, -⟩ := q.live y hy
     have : id = k.id := by rw [b1] at hyi; omega
     rw [this] at b2
     exact absurd b2 a2
 ·exact absurd h3 hf
end Go.Proofs.YtlcnhpjggjgnpaaGreatDoor
