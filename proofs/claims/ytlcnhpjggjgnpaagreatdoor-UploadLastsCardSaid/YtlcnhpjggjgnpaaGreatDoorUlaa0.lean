/- A part of the proof. -/
import Derived.Test.YtlcnhpjggjgnpaaGreatDoorProg
import Derived.WalkKit
import Derived.WalkSpells
import Derived.MapKept
import Derived.Maps.RangeRun
import Derived.Lib.Hide
import Derived.Deep.AppendSrc
import Derived.Maps.OwnSet
import Derived.StillTailTactics
import Derived.Deep.QuietTactic
import Derived.BigQuiet
import Derived.Deep.RegionHeld3
import Derived.Deep.RegionLaw
namespace Go.Proofs.YtlcnhpjggjgnpaaGreatDoor
open Go.RowKit Go.MapKept
open Go.ChangeMaps (setBlock)
structure Keeps (F : Nat → Prop) (w w' : World) : Prop where
 os : w'.os = w.os
 tape : w'.tape = w.tape
 output : w'.output = w.output
 size : w.heap.size ≤ w'.heap.size
 block : ∀ k, k < w.heap.size → ¬ F k → w'.heap[k]? = w.heap[k]?
theorem Keeps.refl (F : Nat → Prop) (w : World) : Keeps F w w := ⟨rfl, rfl, rfl, Nat.le_refl _, fun _ _ _ => rfl⟩
theorem Keeps.trans {F G : Nat → Prop} {w w1 w2 : World} (h : Keeps F w w1) (k : Keeps G w1 w2) (hs : ∀ b, b < w.heap.size → G b → F b) : Keeps F w w2 :=
 ⟨k.os.trans h.os, k.tape.trans h.tape, k.output.trans h.output, Nat.le_trans h.size k.size, fun b hb hF => (k.block b (Nat.lt_of_lt_of_le hb h.size) (fun hG => hF (hs b hb hG))).trans (h.block b hb hF)⟩
theorem Keeps.mono {F G : Nat → Prop} {w w' : World} (h : Keeps F w w') (hs : ∀ b, b < w.heap.size → F b → G b) : Keeps G w w' :=
 ⟨h.os, h.tape, h.output, h.size, fun b hb hG => h.block b hb (fun hF => hG (hs b hb hF))⟩
theorem Keeps.of_grown {w w' : World} {row : Option Nat} (h : w.grownBy w' row) : Keeps (fun b => row = some b) w w' :=
 ⟨h.os, h.tape, h.output, h.size, fun b hb hF => h.block b hb (fun e => hF e.symm)⟩
theorem Keeps.alloc {F : Nat → Prop} {w w' : World} (h : Keeps F w w') (o : Obj) : Keeps F w (w'.alloc o) :=
 ⟨h.os, h.tape, h.output, by have := h.size; simp; omega, fun b hb hF => (Below.heap_alloc w' o b (Nat.lt_of_lt_of_le hb h.size)).trans (h.block b hb hF)⟩
theorem Keeps.drew {F : Nat → Prop} {w w' : World} (h : Keeps F w w') : Keeps F w w'.drew := ⟨h.os, h.tape, h.output, h.size, h.block⟩
theorem Keeps.undrew {F : Nat → Prop} {w w' : World} (h : Keeps F w.drew w') : Keeps F w w' := ⟨h.os, h.tape, h.output, h.size, h.block⟩
theorem Keeps.drewN {F : Nat → Prop} {w w' : World} (h : Keeps F w w') (n : Nat) : Keeps F w { w' with drawn := n } := ⟨h.os, h.tape, h.output, h.size, h.block⟩
theorem Keeps.setCell {F : Nat → Prop} {w w' : World} (h : Keeps F w w') {p : Addr} (hp : p.block < w.heap.size → F p.block) (u : Value) : Keeps F w (w'.setCell p u) :=
 ⟨h.os, h.tape, h.output, by have := h.size; simp; omega, fun b hb hF => (Below.heap_setCell w' p u b (fun e => by subst e; exact hF (hp hb))).trans (h.block b hb hF)⟩
theorem heap_setBlock_ne (w : World) (b : Nat) (o : Obj) {i : Nat} (h : i ≠ b) : (setBlock w b o).heap[i]? = w.heap[i]? := by
 simp [setBlock, Ne.symm h]
theorem heap_setBlock_eq {w : World} {b : Nat} {o : Obj} (h : w.heap[b]? = some o) (o' : Obj) : (setBlock w b o').heap[b]? = some o' := (heap_set h).1
theorem Keeps.setBlock {F : Nat → Prop} {w w' : World} (h : Keeps F w w') {b : Nat} (hp : b < w.heap.size → F b) (o : Obj) : Keeps F w (setBlock w' b o) :=
 ⟨h.os, h.tape, h.output, by have := h.size; simp [ChangeMaps.setBlock]; omega, fun i hi hF => (heap_setBlock_ne w' b o (fun e => by subst e; exact hF (hp hi))).trans (h.block i hi hF)⟩
theorem lt_of_heap {w : World} {b : Nat} {o : Obj} (h : w.heap[b]? = some o) : b < w.heap.size := (Array.getElem?_eq_some_iff.1 h).1
theorem Keeps.at {F : Nat → Prop} {w w' : World} (h : Keeps F w w') {b : Nat} {o : Obj} (hb : w.heap[b]? = some o) (hF : ¬ F b) : w'.heap[b]? = some o :=
 (h.block b (lt_of_heap hb) hF).trans hb
theorem Keeps.below {w w' : World} (h : Keeps (fun _ => False) w w') : Below w.heap.size w w' := ⟨h.os, h.tape, h.output, h.size, fun k hk => h.block k hk (fun e => e)⟩
theorem cell_at {w : World} {b : Nat} {cs : Array Value} {t : TypeId} {fz : Nat × Nat} (h : w.heap[b]? = some (.cells cs t fz)) {i : Nat} {v : Value} (hi : cs[i]? = some v) : w.cell? ⟨b, i, none⟩ = some v := by
 simp [World.cell?, h, hi]
theorem free_at {w : World} {b : Nat} {cs : Array Value} {t : TypeId} (h : w.heap[b]? = some (.cells cs t (0, 0))) (i : Nat) : w.frozen? ⟨b, i, none⟩ = false := by
 simp [World.frozen?, h]
theorem heap_setCell_eq {w : World} {b : Nat} {cs : Array Value} {t : TypeId} {fz : Nat × Nat} (h : w.heap[b]? = some (.cells cs t fz)) (i : Nat) (u : Value) :
  (w.setCell ⟨b, i, none⟩ u).heap[b]? = some (.cells (cs.setIfInBounds i u) t fz) := by
 simp only [World.setCell, Array.getElem?_modify, if_true, h, Option.map_some]
 rfl
def Rel2 {α β : Type} (R : α → β → Prop) : List α → List β → Prop
 | [], [] => True
 | a :: xs, b :: bs => R a b ∧ Rel2 R xs bs
 | _, _ => False
theorem Rel2.length {α β : Type} {R : α → β → Prop} : ∀ {l : List α} {m : List β}, Rel2 R l m → l.length = m.length
 | [], [], _ => rfl
 | _ :: _, _ :: _, h => by simp [Rel2.length h.2]
 | [], _ :: _, h => h.elim
 | _ :: _, [], h => h.elim
theorem Rel2.mono {α β : Type} {R S : α → β → Prop} : ∀ {l : List α} {m : List β}, Rel2 R l m → (∀ a b, R a b → S a b) → Rel2 S l m
 | [], [], _, _ => trivial
 | _ :: _, _ :: _, h, k => ⟨k _ _ h.1, Rel2.mono h.2 k⟩
 | [], _ :: _, h, _ => h.elim
 | _ :: _, [], h, _ => h.elim
theorem Rel2.append {α β : Type} {R : α → β → Prop} : ∀ {l : List α} {m : List β} {l' : List α} {m' : List β}, Rel2 R l m → Rel2 R l' m' → Rel2 R (l ++ l') (m ++ m')
 | [], [], _, _, _, k => k
 | _ :: _, _ :: _, _, _, h, k => ⟨h.1, Rel2.append h.2 k⟩
 | [], _ :: _, _, _, h, _ => h.elim
 | _ :: _, [], _, _, h, _ => h.elim
theorem Rel2.get {α β : Type} {R : α → β → Prop} : ∀ {l : List α} {m : List β} (_ : Rel2 R l m) {i : Nat} {a : α} (_ : l[i]? = some a), ∃ b, m[i]? = some b ∧ R a b
 | a :: xs, b :: bs, h, 0, x, hx => by simp at hx; subst hx; exact ⟨b, rfl, h.1⟩
 | a :: xs, b :: bs, h, i + 1, x, hx => by simpa using Rel2.get h.2 (by simpa using hx)
 | [], _, _, i, x, hx => by simp at hx
 | _ :: _, [], h, _, _, _ => h.elim
theorem Rel2.get' {α β : Type} {R : α → β → Prop} : ∀ {l : List α} {m : List β} (_ : Rel2 R l m) {i : Nat} {b : β} (_ : m[i]? = some b), ∃ a, l[i]? = some a ∧ R a b
 | a :: xs, b :: bs, h, 0, x, hx => by simp at hx; subst hx; exact ⟨a, rfl, h.1⟩
 | a :: xs, b :: bs, h, i + 1, x, hx => by simpa using Rel2.get' h.2 (by simpa using hx)
 | _, [], _, i, x, hx => by simp at hx
 | [], _ :: _, h, _, _, _ => h.elim
theorem Rel2.eraseIdx {α β : Type} {R : α → β → Prop} : ∀ {l : List α} {m : List β} (_ : Rel2 R l m) (i : Nat), Rel2 R (l.eraseIdx i) (m.eraseIdx i)
 | _ :: _, _ :: _, h, 0 => h.2
 | _ :: _, _ :: _, h, i + 1 => ⟨h.1, Rel2.eraseIdx h.2 i⟩
 | [], [], _, _ => trivial
 | [], _ :: _, h, _ => h.elim
 | _ :: _, [], h, _ => h.elim
theorem Rel2.modify {α β : Type} {R : α → β → Prop} {f : α → α} {g : β → β} : ∀ {l : List α} {m : List β} (_ : Rel2 R l m) (i : Nat) (_ : ∀ a b, l[i]? = some a → m[i]? = some b → R a b → R (f a) (g b)), Rel2 R (l.modify i f) (m.modify i g)
 | a :: xs, b :: bs, h, 0, k => by simpa [Rel2] using ⟨k a b rfl rfl h.1, h.2⟩
 | a :: xs, b :: bs, h, i + 1, k => by simpa [Rel2] using ⟨h.1, Rel2.modify h.2 i (fun x y hx hy => k x y (by simpa using hx) (by simpa using hy))⟩
 | [], [], _, _, _ => by simp [Rel2]
 | [], _ :: _, h, _, _ => h.elim
 | _ :: _, [], h, _, _ => h.elim
def Bytes (F : Nat → Prop) (w : World) (v : Value) (l : List UInt8) : Prop :=
 (v = .slice none 0 0 ∧ l = []) ∨
 ∃ (g off cap : Nat) (cs : Array Value) (fz : Nat × Nat), v = .slice (some ⟨g, off, none⟩) l.length cap ∧ F g ∧ w.heap[g]? = some (.cells cs 5 fz) ∧ l.length ≤ cap ∧ cap ≤ maxLen ∧ off + cap ≤ cs.size ∧
  ∀ i c, l[i]? = some c → cs[off + i]? = some (.int .u8 (c.toNat : Int))
def KeepU8 (F : Nat → Prop) (w w' : World) : Prop := ∀ g cs fz, F g → w.heap[g]? = some (.cells cs 5 fz) → w'.heap[g]? = some (.cells cs 5 fz)
theorem KeepU8.of_keeps {F G : Nat → Prop} {w w' : World} (h : Keeps G w w') (hG : ∀ g cs fz, F g → G g → w.heap[g]? ≠ some (.cells cs 5 fz)) : KeepU8 F w w' :=
 fun g cs fz hF hb => h.at hb (fun hg => hG g cs fz hF hg hb)
theorem KeepU8.of_none {F : Nat → Prop} {w w' : World} (h : Keeps (fun _ => False) w w') : KeepU8 F w w' := KeepU8.of_keeps h (fun _ _ _ _ e => False.elim e)
theorem KeepU8.refl (F : Nat → Prop) (w : World) : KeepU8 F w w := fun _ _ _ _ h => h
theorem KeepU8.trans {F : Nat → Prop} {w w1 w2 : World} (h : KeepU8 F w w1) (k : KeepU8 F w1 w2) : KeepU8 F w w2 := fun g cs fz hF hb => k g cs fz hF (h g cs fz hF hb)
theorem KeepU8.alloc {F : Nat → Prop} {w w' : World} (h : KeepU8 F w w') (o : Obj) : KeepU8 F w (w'.alloc o) :=
 fun g cs fz hF hb => by have := h g cs fz hF hb; rw [Below.heap_alloc w' o g (lt_of_heap this)]; exact this
theorem KeepU8.drew {F : Nat → Prop} {w w' : World} (h : KeepU8 F w w') : KeepU8 F w w'.drew := h
theorem KeepU8.setBlock {F : Nat → Prop} {w w' : World} (h : KeepU8 F w w') {b : Nat} (hb : ∀ cs fz, w'.heap[b]? ≠ some (.cells cs 5 fz)) (o : Obj) : KeepU8 F w (setBlock w' b o) :=
 fun g cs fz hF hg => by have := h g cs fz hF hg; rw [heap_setBlock_ne w' b o (fun e => by subst e; exact hb _ _ this)]; exact this
theorem KeepU8.setCell {F : Nat → Prop} {w w' : World} (h : KeepU8 F w w') {p : Addr} (hb : ∀ cs fz, w'.heap[p.block]? ≠ some (.cells cs 5 fz)) (u : Value) : KeepU8 F w (w'.setCell p u) :=
 fun g cs fz hF hg => by have := h g cs fz hF hg; rw [Below.heap_setCell w' p u g (fun e => by subst e; exact hb _ _ this)]; exact this
theorem Bytes.nil (F : Nat → Prop) (w : World) : Bytes F w (.slice none 0 0) [] := .inl ⟨rfl, rfl⟩
theorem Bytes.keep {F G : Nat → Prop} {w w' : World} {v : Value} {l : List UInt8} (h : Bytes F w v l) (hk : KeepU8 F w w') (hFG : ∀ b, F b → b < w.heap.size → G b) : Bytes G w' v l := by
 rcases h with h | ⟨g, off, cap, cs, fz, rfl, hF, hb, h1, h2, h3, h4⟩
 ·exact .inl h
 ·exact .inr ⟨g, off, cap, cs, fz, rfl, hFG g hF (lt_of_heap hb), hk g cs fz hF hb, h1, h2, h3, h4⟩
theorem Bytes.form {F : Nat → Prop} {w : World} {v : Value} {l : List UInt8} (h : Bytes F w v l) : ∃ a cap, v = .slice a l.length cap ∧ l.length ≤ cap ∧ cap ≤ maxLen := by
 rcases h with ⟨rfl, rfl⟩ | ⟨g, off, cap, cs, fz, rfl, hF, hb, h1, h2, h3, h4⟩
 ·exact ⟨none, 0, rfl, Nat.le_refl _, Nat.zero_le _⟩
 ·exact ⟨_, cap, rfl, h1, h2⟩
abbrev FS := List (ByteArray × List UInt8)
def fget (fs : FS) (n : ByteArray) : Option (List UInt8) := (fs.find? (fun p => p.1 = n)).map (·.2)
def fdel (fs : FS) (n : ByteArray) : FS := fs.filter (fun p => p.1 ≠ n)
def blt (a b : ByteArray) : Bool := Op.bytesLess a.toList b.toList
def fins : FS → ByteArray × List UInt8 → FS
 | [], f => [f]
 | x :: l, f => if blt f.1 x.1 then f :: x :: l else x :: fins l f
def fput (fs : FS) (n : ByteArray) (b : List UInt8) : FS := fins (fdel fs n) (n, b)
def FNodup (fs : FS) : Prop := (fs.map (·.1)).Nodup
theorem fins_perm (f : ByteArray × List UInt8) : ∀ fs : FS, (fins fs f).Perm (f :: fs)
 | [] => List.Perm.refl _
 | x :: l => by
  unfold fins
  split
  ·exact List.Perm.refl _
  ·exact (List.Perm.cons x (fins_perm f l)).trans (List.Perm.swap f x l)
theorem fdel_not_mem (fs : FS) (n : ByteArray) : n ∉ (fdel fs n).map (·.1) := by
 simp [fdel]
theorem FNodup.fdel {fs : FS} (h : FNodup fs) (n : ByteArray) : FNodup (fdel fs n) := by
 unfold FNodup at *
 exact h.sublist (List.Sublist.map _ List.filter_sublist)
theorem FNodup.fins {fs : FS} (h : FNodup fs) {f : ByteArray × List UInt8} (hn : f.1 ∉ fs.map (·.1)) : FNodup (fins fs f) := by
 unfold FNodup at *
 exact ((fins_perm f fs).map (·.1)).nodup_iff.2 (List.nodup_cons.2 ⟨hn, h⟩)
theorem FNodup.fput {fs : FS} (h : FNodup fs) (n : ByteArray) (b : List UInt8) : FNodup (fput fs n b) :=
 (h.fdel n).fins (fdel_not_mem fs n)
def EntryOk (F : Nat → Prop) (w : World) (e : MapEntry) (p : ByteArray × List UInt8) : Prop := e.key = .string p.1 ∧ Bytes F w e.val p.2
def MapFs (F : Nat → Prop) (w : World) (b : Nat) (fs : FS) : Prop :=
 ∃ (es : Array MapEntry) (clock : Nat) (l : FS), w.heap[b]? = some (.map es clock) ∧ Stamped es clock ∧ Rel2 (EntryOk F w) es.toList l ∧ l.Perm fs
theorem MapFs.lt {F : Nat → Prop} {w : World} {b : Nat} {fs : FS} (h : MapFs F w b fs) : b < w.heap.size := by
 obtain ⟨es, clock, l, hb, _⟩ := h
 exact lt_of_heap hb
theorem MapFs.notU8 {F : Nat → Prop} {w : World} {b : Nat} {fs : FS} (h : MapFs F w b fs) (cs : Array Value) (t : TypeId) (fz : Nat × Nat) : w.heap[b]? ≠ some (.cells cs t fz) := by
 obtain ⟨es, clock, l, hb, _⟩ := h
 rw [hb]; simp
theorem MapFs.keep {F G : Nat → Prop} {w w' : World} {b : Nat} {fs : FS} (h : MapFs F w b fs) (hb' : w'.heap[b]? = w.heap[b]?) (hk : KeepU8 F w w') (hFG : ∀ b, F b → b < w.heap.size → G b) : MapFs G w' b fs := by
 obtain ⟨es, clock, l, hb, hs, hr, hp⟩ := h
 exact ⟨es, clock, l, hb'.trans hb, hs, hr.mono (fun e p hep => ⟨hep.1, hep.2.keep hk hFG⟩), hp⟩
theorem rel_keys {F : Nat → Prop} {w : World} : ∀ {es : List MapEntry} {l : FS}, Rel2 (EntryOk F w) es l → es.map (·.key) = l.map (fun p => Value.string p.1)
 | [], [], _ => rfl
 | e :: es, p :: l, h => by simp [h.1.1, rel_keys h.2]
 | [], _ :: _, h => h.elim
 | _ :: _, [], h => h.elim
theorem nodup_of_map {α β : Type} (f : α → β) : ∀ {l : List α}, (l.map f).Nodup → l.Nodup
 | [], _ => List.nodup_nil
 | a :: l, h => by
  rw [List.map_cons, List.nodup_cons] at h
  exact List.nodup_cons.2 ⟨fun hm => h.1 (List.mem_map_of_mem hm), nodup_of_map f h.2⟩
theorem MapFs.nodup {F : Nat → Prop} {w : World} {b : Nat} {fs : FS} (h : MapFs F w b fs) : FNodup fs := by
 obtain ⟨es, clock, l, hb, hs, hr, hp⟩ := h
 have h1 : (l.map (fun p => Value.string p.1)).Nodup := by rw [← rel_keys hr]; exact hs.2.2
 have h2 : (l.map (·.1)).Nodup := nodup_of_map Value.string (by rw [List.map_map]; exact h1)
 exact (hp.map (·.1)).nodup_iff.1 h2
theorem fget_mem : ∀ {fs : FS} (_ : FNodup fs) {n : ByteArray} {x : List UInt8} (_ : (n, x) ∈ fs), fget fs n = some x
 | p :: fs, h, n, x, hm => by
  have h' : p.1 ∉ fs.map (·.1) ∧ (fs.map (·.1)).Nodup := List.nodup_cons.1 h
  rcases List.mem_cons.1 hm with e | hm
  ·subst e; simp [fget]
  ·have hne : p.1 ≠ n := fun e => h'.1 (List.mem_map.2 ⟨(n, x), hm, e.symm⟩)
   have := fget_mem (fs := fs) h'.2 hm
   simpa [fget, List.find?_cons, hne] using this
theorem fget_none {fs : FS} {n : ByteArray} (h : n ∉ fs.map (·.1)) : fget fs n = none := by
 unfold fget
 rw [List.find?_eq_none.2]
 ·rfl
 ·intro p hp; simp; exact fun e => h (List.mem_map.2 ⟨p, hp, e⟩)
theorem mem_of_fget {fs : FS} {n : ByteArray} {x : List UInt8} (h : fget fs n = some x) : (n, x) ∈ fs := by
 unfold fget at h
 obtain ⟨p, hp, rfl⟩ := Option.map_eq_some_iff.1 h
 have h1 := List.find?_some hp
 have h2 := List.mem_of_find?_eq_some hp
 simp at h1
 subst h1; exact h2
theorem isKeys {F : Nat → Prop} {w : World} {es : List MapEntry} {l : FS} (hr : Rel2 (EntryOk F w) es l) : ∀ x ∈ es, IsKey .string x.key := by
 intro x hx
 obtain ⟨i, hi⟩ := List.mem_iff_getElem?.1 hx
 obtain ⟨p, _, hp⟩ := hr.get hi
 rw [hp.1]; trivial
section
variable {P : Program} {T K E : TypeId} {F : Nat → Prop} {w : World} {b : Nat} {fs : FS}
theorem MapFs.look (h : MapFs F w b fs) (hT : P.underlying T = some (.map K E)) (hK : P.underlying K = some .string) (hz : (zeroValue E).run P w = .ok (.slice none 0 0) w) (s : ByteArray) :
  ∃ v, Bytes F w v ((fget fs s).getD []) ∧ (fget fs s = none → v = .slice none 0 0) ∧
   ∀ c, (Instr.lookup T (.map (some b)) (.string s) c).run P w = .ok (if c then .tuple #[v, .bool (fget fs s).isSome] else v) w := by
 have hnd := h.nodup
 obtain ⟨es, clock, l, hb, hs, hr, hp⟩ := h
 rcases findNow_spec (d := .string) (k := .string s) trivial es.toList 0 (isKeys hr) with ⟨h1, h2⟩ | ⟨j, e, h1, h2, h3⟩
 ·have hn : fget fs s = none := by
   apply fget_none
   intro hm
   obtain ⟨p, hp1, hp2⟩ := List.mem_map.1 hm
   obtain ⟨i, hi⟩ := List.mem_iff_getElem?.1 (hp.mem_iff.2 hp1)
   obtain ⟨e, he, hep⟩ := hr.get' hi
   exact h2 e (List.mem_iff_getElem?.2 ⟨i, he⟩) (by rw [hep.1, hp2])
  refine ⟨.slice none 0 0, by rw [hn]; exact Bytes.nil _ _, fun _ => rfl, fun c => ?_⟩
  simp only [Instr.lookup, Sem.run_bind, run_underlying hT, Result.andThen, MapKept.run_getObj_map hb]
  simp only [Sem.run_pure, run_checkKey hK (k := .string s) trivial, run_findKey hK h1, Sem.run_bind, hz, Result.andThen, hn]
  cases c <;> simp
 ·obtain ⟨p, hpj, hpe⟩ := hr.get h2
  have hps : p.1 = s := by have := hpe.1.symm.trans h3; simpa using this
  have hg : fget fs s = some p.2 := fget_mem hnd (by rw [← hps]; exact hp.mem_iff.1 (List.mem_iff_getElem?.2 ⟨j, hpj⟩))
  refine ⟨e.val, by rw [hg]; exact hpe.2, (fun he => by rw [hg] at he; cases he), fun c => ?_⟩
  simp only [Instr.lookup, Sem.run_bind, run_underlying hT, Result.andThen, MapKept.run_getObj_map hb]
  simp only [Sem.run_pure, run_checkKey hK (k := .string s) trivial, run_findKey hK h1, Sem.run_bind, Result.andThen, hg]
  cases c <;> simp
theorem perm_erase {l fs : FS} (hp : l.Perm fs) (hn : FNodup fs) {j : Nat} {p : ByteArray × List UInt8} (hj : l[j]? = some p) : (l.eraseIdx j).Perm (fdel fs p.1) := by
 have hnl : FNodup l := (hp.map (fun q : ByteArray × List UInt8 => q.1)).nodup_iff.2 hn
 have e : l.eraseIdx j = l.filter (fun q => q.1 ≠ p.1) := by
  clear hp hn
  induction l generalizing j with
  | nil => simp at hj
  | cons a l ih =>
   have h' : a.1 ∉ l.map (·.1) ∧ (l.map (·.1)).Nodup := List.nodup_cons.1 hnl
   cases j with
   | zero =>
    simp at hj; subst hj
    simp
    symm
    rw [List.filter_eq_self]
    intro q hq
    simp
    exact fun e => h'.1 (List.mem_map.2 ⟨q, hq, e⟩)
   | succ j =>
    have hj' : l[j]? = some p := by simpa using hj
    have hne : a.1 ≠ p.1 := fun e => h'.1 (List.mem_map.2 ⟨p, List.mem_iff_getElem?.2 ⟨j, hj'⟩, e.symm⟩)
    simp [hne, ih hj' h'.2]
 rw [e]
 exact hp.filter _
theorem fdel_absent {fs : FS} {n : ByteArray} (h : n ∉ fs.map (·.1)) : fdel fs n = fs := by
 unfold fdel
 rw [List.filter_eq_self]
 intro q hq
 simp
 exact fun e => h (List.mem_map.2 ⟨q, hq, e⟩)
theorem list_modify_perm {α : Type} (f : α → α) : ∀ {l : List α} {j : Nat} {p : α}, l[j]? = some p → (l.modify j f).Perm (f p :: l.eraseIdx j)
 | a :: l, 0, p, h => by simp at h; subst h; simp
 | a :: l, j + 1, p, h => by
  have := list_modify_perm f (l := l) (j := j) (p := p) (by simpa using h)
  simp only [List.modify_succ_cons, List.eraseIdx_cons_succ]
  exact (this.cons a).trans (List.Perm.swap _ _ _)
theorem MapFs.update (h : MapFs F w b fs) (hT : P.underlying T = some (.map K E)) (hK : P.underlying K = some .string) (s : ByteArray) {v : Value} {x : List UInt8} (hv : Bytes F w v x) :
  ∃ es clock, (Instr.mapUpdate T (.map (some b)) (.string s) v).run P w = .ok () (setBlock w b (.map es clock)) ∧ MapFs F (setBlock w b (.map es clock)) b (fput fs s x) := by
 have hnd := h.nodup
 have hnu := h.notU8
 obtain ⟨es, clock, l, hb, hs, hr, hp⟩ := h
 have hku : ∀ o, KeepU8 F w (setBlock w b o) := fun o => (KeepU8.refl F w).setBlock (fun cs fz => hnu cs 5 fz) o
 rcases findNow_spec (d := .string) (k := .string s) trivial es.toList 0 (isKeys hr) with ⟨h1, h2⟩ | ⟨j, e, h1, h2, h3⟩
 ·have hn : s ∉ fs.map (·.1) := by
   intro hm
   obtain ⟨p, hp1, hp2⟩ := List.mem_map.1 hm
   obtain ⟨i, hi⟩ := List.mem_iff_getElem?.1 (hp.mem_iff.2 hp1)
   obtain ⟨e, he, hep⟩ := hr.get' hi
   exact h2 e (List.mem_iff_getElem?.2 ⟨i, he⟩) (by rw [hep.1, hp2])
  refine ⟨es.push { key := .string s, val := v, born := clock }, clock + 1, ?_, _, _, l ++ [(s, x)], heap_setBlock_eq hb _, stamped_push hs h2, ?_, ?_⟩
  ·simp only [Instr.mapUpdate, Sem.run_bind, run_underlying hT, Result.andThen, MapKept.run_getObj_map hb, run_checkKey hK (k := .string s) trivial, run_findKey hK h1, run_setObj_map _ hb]
   rfl
  ·rw [Array.toList_push]
   exact (hr.mono (fun e p hep => ⟨hep.1, hep.2.keep (hku _) (fun _ h _ => h)⟩)).append ⟨⟨rfl, hv.keep (hku _) (fun _ h _ => h)⟩, trivial⟩
  ·unfold fput
   rw [fdel_absent hn]
   exact (List.perm_append_comm.trans (List.Perm.cons _ hp)).trans (fins_perm _ _).symm
 ·obtain ⟨p, hpj, hpe⟩ := hr.get h2
  have hps : p.1 = s := by have := hpe.1.symm.trans h3; simpa using this
  have he : es[j]? = some e := by simpa using h2
  refine ⟨es.modify j (fun e => { e with key := .string s, val := v }), clock, ?_, _, _, l.modify j (fun _ => (s, x)), heap_setBlock_eq hb _, stamped_modify hs j _ (fun _ _ => rfl) (fun e' _ he' => ?_), ?_, ?_⟩
  ·simp only [Instr.mapUpdate, Sem.run_bind, run_underlying hT, Result.andThen, MapKept.run_getObj_map hb, run_checkKey hK (k := .string s) trivial, run_findKey hK h1, Nat.zero_add, he, Option.map_some, Option.getD_some, h3,
    run_keyThatStays (d := .string) (k := .string s) trivial, run_setObj_map _ hb]
   rfl
  ·rw [he] at he'; cases he'; exact h3.symm
  ·rw [Array.toList_modify]
   exact (hr.mono (fun e p hep => ⟨hep.1, hep.2.keep (hku _) (fun _ h _ => h)⟩)).modify j (fun a b' _ _ _ => ⟨rfl, hv.keep (hku _) (fun _ h _ => h)⟩)
  ·refine (list_modify_perm _ hpj).trans ?_
   refine (List.Perm.cons _ (perm_erase hp hnd hpj)).trans ?_
   rw [hps]
   exact (fins_perm _ _).symm
theorem MapFs.delete (h : MapFs F w b fs) (hT : P.underlying T = some (.map K E)) (hK : P.underlying K = some .string) (s : ByteArray) (K' : TypeId) (ty : TypeId) :
  ∃ es clock, (Builtin.delete_ #[T, K'] ty #[.map (some b), .string s]).run P w = .ok (.tuple #[]) (setBlock w b (.map es clock)) ∧ MapFs F (setBlock w b (.map es clock)) b (fdel fs s) := by
 have hnd := h.nodup
 have hnu := h.notU8
 obtain ⟨es, clock, l, hb, hs, hr, hp⟩ := h
 have hku : ∀ o, KeepU8 F w (setBlock w b o) := fun o => (KeepU8.refl F w).setBlock (fun cs fz => hnu cs 5 fz) o
 rcases findNow_spec (d := .string) (k := .string s) trivial es.toList 0 (isKeys hr) with ⟨h1, h2⟩ | ⟨j, e, h1, h2, h3⟩
 ·have hn : s ∉ fs.map (·.1) := by
   intro hm
   obtain ⟨p, hp1, hp2⟩ := List.mem_map.1 hm
   obtain ⟨i, hi⟩ := List.mem_iff_getElem?.1 (hp.mem_iff.2 hp1)
   obtain ⟨e, he, hep⟩ := hr.get' hi
   exact h2 e (List.mem_iff_getElem?.2 ⟨i, he⟩) (by rw [hep.1, hp2])
  refine ⟨es, clock, ?_, _, _, l, heap_setBlock_eq hb _, hs, hr.mono (fun e p hep => ⟨hep.1, hep.2.keep (hku _) (fun _ h _ => h)⟩), by rw [fdel_absent hn]; exact hp⟩
  simp [Builtin.delete_, Sem.run_bind, run_underlying hT, Result.andThen, MapKept.run_getObj_map hb, run_checkKey hK (k := .string s) trivial, run_findKey hK h1, run_setObj_map _ hb, ChangeMaps.setBlock]
 ·obtain ⟨p, hpj, hpe⟩ := hr.get h2
  have hps : p.1 = s := by have := hpe.1.symm.trans h3; simpa using this
  refine ⟨es.eraseIdxIfInBounds j, clock, ?_, _, _, l.eraseIdx j, heap_setBlock_eq hb _, stamped_erase hs j, ?_, ?_⟩
  ·simp [Builtin.delete_, Sem.run_bind, run_underlying hT, Result.andThen, MapKept.run_getObj_map hb, run_checkKey hK (k := .string s) trivial, run_findKey hK h1, run_setObj_map _ hb, ChangeMaps.setBlock]
  ·rw [show (es.eraseIdxIfInBounds j).toList = es.toList.eraseIdx j by simp]
   exact (hr.mono (fun e p hep => ⟨hep.1, hep.2.keep (hku _) (fun _ h _ => h)⟩)).eraseIdx j
  ·rw [← hps]; exact perm_erase hp hnd hpj
theorem MapFs.len (h : MapFs F w b fs) (hT : P.underlying T = some (.map K E)) (ty : TypeId) : (Builtin.len_ #[T] ty #[.map (some b)]).run P w = .ok (.int .i64 (fs.length : Int)) w := by
 obtain ⟨es, clock, l, hb, hs, hr, hp⟩ := h
 have e : es.size = fs.length := by rw [← hp.length_eq, ← hr.length, Array.length_toList]
 simp [Builtin.len_, Sem.run_bind, run_underlying hT, Result.andThen, MapKept.run_getObj_map hb, e, goInt]
end
end Go.Proofs.YtlcnhpjggjgnpaaGreatDoor
namespace Go.Proofs.YtlcnhpjggjgnpaaGreatDoor
open Go.RowKit Go.MapKept
def u8v (c : UInt8) : Value := .int .u8 (c.toNat : Int)
theorem u8v_one (l : List UInt8) : ∀ u ∈ l.map u8v, u.oneCell' = true := by
 intro u hu
 obtain ⟨_, _, rfl⟩ := List.mem_map.1 hu
 rfl
section
variable {P : Program} {F : Nat → Prop} {w : World}
theorem Bytes.cells {s : Value} {l : List UInt8} (h : Bytes F w s l) {a : Addr} {n c : Nat} (hs : s = .slice (some a) n c) : n = l.length ∧ ∀ j u, (l.map u8v)[j]? = some u → w.cell? (a.add j) = some u := by
 rcases h with ⟨e, _⟩ | ⟨g, off, cap, cs, fz, e, hF, hb, h1, h2, h3, h4⟩
 ·rw [hs] at e; cases e
 ·rw [hs] at e
  simp only [Value.slice.injEq, Option.some.injEq] at e
  obtain ⟨rfl, rfl, rfl⟩ := e
  refine ⟨rfl, fun j u hu => ?_⟩
  rw [List.getElem?_map] at hu
  obtain ⟨x, hx, rfl⟩ := Option.map_eq_some_iff.1 hu
  rw [Addr.add_lit]
  exact cell_at hb (h4 j x hx)
def Reads (w : World) (v : Value) (l : List UInt8) : Prop :=
 (v = .slice none 0 0 ∧ l = []) ∨ ∃ (x : Addr) (c : Nat), v = .slice (some x) l.length c ∧ l.length ≤ c ∧ c ≤ maxLen ∧ ∀ j u, (l.map u8v)[j]? = some u → w.cell? (x.add j) = some u
theorem Bytes.reads {s : Value} {l : List UInt8} (h : Bytes F w s l) : Reads w s l := by
 obtain ⟨a, c, rfl, h1, h2⟩ := h.form
 cases a with
 | none =>
  rcases h with ⟨e, rfl⟩ | ⟨g, off, cap, cs, fz, e, _⟩
  ·exact .inl ⟨e, rfl⟩
  ·cases e
 | some x => exact .inr ⟨x, c, rfl, h1, h2, (h.cells rfl).2⟩
theorem Reads.form {v : Value} {l : List UInt8} (h : Reads w v l) : ∃ a c, v = .slice a l.length c ∧ l.length ≤ c ∧ c ≤ maxLen := by
 rcases h with ⟨rfl, rfl⟩ | ⟨x, c, rfl, h1, h2, _⟩
 ·exact ⟨none, 0, rfl, Nat.le_refl _, Nat.zero_le _⟩
 ·exact ⟨_, c, rfl, h1, h2⟩
theorem Reads.same {v : Value} {l : List UInt8} (h : Reads w v l) {w' : World} (hk : ∀ b, b < w.heap.size → w'.heap[b]? = w.heap[b]?) : Reads w' v l := by
 rcases h with h | ⟨x, c, rfl, h1, h2, h3⟩
 ·exact .inl h
 ·exact .inr ⟨x, c, rfl, h1, h2, fun j u hu => by
   have := h3 j u hu
   rw [World.cell?_of_block (hk _ (World.block_lt_of_cell? w _ this))]
   exact this⟩
theorem Reads.keep {v : Value} {l : List UInt8} (h : Reads w v l) {w' : World} (hk : Keeps (fun _ => False) w w') : Reads w' v l := h.same (fun b hb => hk.block b hb (fun e => e))
theorem Reads.src {tx e' : TypeId} (hk : P.underlying tx = some (.slice e')) {x : Value} {m : List UInt8} (h : Reads w x m) : Src P 1 tx x m.length (m.map u8v) w := by
 rcases h with ⟨rfl, rfl⟩ | ⟨a, c, rfl, h1, h2, h3⟩
 ·exact Src.ofNil w hk _
 ·exact Src.ofSlice w hk a _ _ _ (by simp) h3 (u8v_one _)
theorem Bytes.first {x : Value} {m : List UInt8} (h : Bytes F w x m) : (Builtin.firstCells 1 m.length x).run P w = .ok (m.map u8v).toArray w := by
 obtain ⟨a, cap, rfl, _, _⟩ := h.form
 cases a with
 | none =>
  rcases h with ⟨e, rfl⟩ | ⟨g, off, cap, cs, fz, e, _⟩
  ·exact run_firstCells_none w 1 0 0 _
  ·cases e
 | some a => exact run_firstCells_some w 1 _ a _ _ _ (by simp) (h.cells rfl).2
theorem Bytes.made (l : List UInt8) (rest : Array Value) (w : World) {n cap : Nat} (hn : n = l.length) (hc : l.length ≤ cap) (hm : cap ≤ maxLen) (hs : cap ≤ l.length + rest.size) (hF : F w.heap.size) :
  Bytes F (w.alloc (.cells ((l.map u8v).toArray ++ rest) 5)) (.slice (some ⟨w.heap.size, 0, none⟩) n cap) l := by
 subst hn
 refine .inr ⟨_, 0, cap, _, _, rfl, hF, heap_alloc_new w _, hc, hm, by simp; omega, fun i c hi => ?_⟩
 have hlt : i < l.length := (List.getElem?_eq_some_iff.1 hi).1
 simp only [Nat.zero_add, Array.getElem?_append, List.size_toArray, List.length_map, hlt, if_true, List.getElem?_toArray, List.getElem?_map, hi, Option.map_some]
 rfl
theorem append_new (t tx ty e' : TypeId) (i : TypeInfo) (z : Value) (ht : P.underlying t = some (.slice 5)) (hx : P.underlying tx = some (.slice e')) (hi : P.info? 5 = some i) (hz : i.zero = some z) (hsz : i.size = 1) (hby : i.bytes = 1) (hzc : z.cells.size = 1)
  {s x : Value} {l m : List UInt8} (h : Bytes F w s l) (k : Reads w x m) {a : Option Addr} {n cap : Nat} (hs : s = .slice a n cap) (hcap : cap < l.length + m.length) (hb : l.length + m.length ≤ 140737488355328) :
  ∃ v' w', (Builtin.append_ #[t, tx] ty #[s, x]).run P w = .ok v' w' ∧ Bytes (fun b => b = w.heap.size) w' v' (l ++ m) ∧ w'.heap.size = w.heap.size + 1 ∧ Keeps (fun _ => False) w w' ∧
   ∃ c cs, v' = .slice (some ⟨w.heap.size, 0, none⟩) (l.length + m.length) c ∧ w'.heap[w.heap.size]? = some (.cells cs 5 (0, 0)) := by
 have hn : n = l.length := by
  obtain ⟨a', c', e, _, _⟩ := h.form
  rw [hs] at e; simp at e; exact e.2.1
 subst hn
 have hsrc : Src P i.size tx x m.length (m.map u8v) w := by rw [hsz]; exact k.src hx
 have hold : (Builtin.firstCells i.size l.length (.slice a l.length cap)).run P w.drew = .ok (l.map u8v).toArray w.drew := by
  rw [hsz, ← hs]
  exact Bytes.first (F := F) (h.keep (KeepU8.refl F w).drew (fun _ h _ => h))
 have hr := run_append_grow_src (P := P) w t tx ty 5 i z ht hi hz a l.length cap (l.map u8v) hold x m.length (m.map u8v) hsrc hcap (by omega) (by rw [hby]; exact growslice_fits hcap (by omega))
 have hge := grownCap_ge w (l.length + m.length) cap 5
 have hle := grownCap_le_maxLen w (l.length + m.length) cap 5 (by unfold maxLen; omega)
 refine ⟨_, _, by rw [hs]; exact hr, ?_, by simp, ((Keeps.refl _ _).drew).alloc _, _, _, rfl, heap_alloc_new w.drew _⟩
 rw [show l.map u8v ++ m.map u8v = (l ++ m).map u8v by simp]
 exact Bytes.made (F := fun b => b = w.heap.size) (l ++ m) _ w.drew (by simp) (by simpa using hge) hle (by simp [size_zeroCells, hzc]; omega) rfl
theorem append_none (t tx ty e' : TypeId) (i : TypeInfo) (ht : P.underlying t = some (.slice 5)) (hx : P.underlying tx = some (.slice e')) (hi : P.info? 5 = some i) (hsz : i.size = 1)
  {s x : Value} {l : List UInt8} (h : Bytes F w s l) (k : Reads w x []) : (Builtin.append_ #[t, tx] ty #[s, x]).run P w = .ok s w := by
 obtain ⟨a, cap, hs, hc, _⟩ := h.form
 subst hs
 cases a with
 | none =>
  have hsrc : Src P i.size tx x 0 [] w := by rw [hsz]; exact k.src hx
  have hc' := hsrc.cells
  have hl' := hsrc.len w
  simp [Builtin.append_, run_underlying ht, run_underlying hx, sizeOf, typeInfo, hi, hl', hc, hc']
 | some a =>
  have hsrc : Src P i.size tx x 0 [] w := by rw [hsz]; exact k.src hx
  have hc' := hsrc.cells
  have hl' := hsrc.len w
  simp [Builtin.append_, run_underlying ht, run_underlying hx, sizeOf, typeInfo, hi, hl', hc, hc', storeCells]
theorem append_full (t tx ty e' : TypeId) (i : TypeInfo) (z : Value) (ht : P.underlying t = some (.slice 5)) (hx : P.underlying tx = some (.slice e')) (hi : P.info? 5 = some i) (hz : i.zero = some z) (hsz : i.size = 1) (hby : i.bytes = 1) (hzc : z.cells.size = 1)
  {s x : Value} {l m : List UInt8} (h : Bytes F w s l) (k : Reads w x m) {a : Option Addr} {n : Nat} (hs : s = .slice a n l.length) (hb : l.length + m.length ≤ 140737488355328) :
  ∃ v' w', (Builtin.append_ #[t, tx] ty #[s, x]).run P w = .ok v' w' ∧ Bytes (fun b => F b ∨ b = w.heap.size) w' v' (l ++ m) ∧ Keeps (fun _ => False) w w' ∧ (m ≠ [] → Bytes (fun b => b = w.heap.size) w' v' (l ++ m)) ∧ (m = [] → v' = s) := by
 by_cases hm : m = []
 ·subst hm
  refine ⟨s, w, append_none t tx ty e' i ht hx hi hsz h k, ?_, Keeps.refl _ _, fun h => absurd rfl h, fun _ => rfl⟩
  rw [List.append_nil]
  exact h.keep (KeepU8.refl F w) (fun _ h _ => .inl h)
 ·have hpos : 0 < m.length := List.length_pos_iff.2 hm
  obtain ⟨v', w', hr, hB, hz', hk, _⟩ := append_new t tx ty e' i z ht hx hi hz hsz hby hzc h k hs (by omega) hb
  exact ⟨v', w', hr, hB.keep (KeepU8.refl _ _) (fun _ h _ => .inr h), hk, fun _ => hB, fun h => absurd h hm⟩
theorem step_append_run {ops : Array Oper} {o : Oper} {a : Act} {K : Act → World → Prop} {Q : Exit → Act → World → Prop} {E : Prop}
  (hg : o.guard = none) (s x : Operand) (t tx : TypeId) (hop : o.op = Op.call { callee := Callee.builtin Builtin.append, args := #[s, x], argTypes := #[t, tx] })
  {sv xv v' : Value} {w' : World} (hs : a.eval s = sv) (hx : a.eval x = xv) (hrun : (Builtin.append_ #[t, tx] o.type #[sv, xv]).run P w = .ok v' w')
  (hK : K (a.put o.dst v') w') : if Region.wanted o (yielded ops a.tmps) = true then Oper.wp P o a w K Q else E := by
 have hw : Region.wanted o (yielded ops a.tmps) = true := by simp [Region.wanted, hg]
 rw [if_pos hw]
 unfold Oper.wp
 simp [execOp, hop, resolve, invoke, builtin, hs, hx, hrun, Result.andThen]
 exact hK
theorem wpList_append_run {ops : Array Oper} {o : Oper} {rest : List Oper} {a : Act} {Q : Exit → Act → World → Prop}
  (hg : o.guard = none) (s x : Operand) (t tx : TypeId) (hop : o.op = Op.call { callee := Callee.builtin Builtin.append, args := #[s, x], argTypes := #[t, tx] })
  {sv xv v' : Value} {w' : World} (hs : a.eval s = sv) (hx : a.eval x = xv) (hrun : (Builtin.append_ #[t, tx] o.type #[sv, xv]).run P w = .ok v' w')
  (hK : wpList P ops Q rest (a.put o.dst v') w') : wpList P ops Q (o :: rest) a w := by
 refine wpList_plain hg fun K hK' => ?_
 unfold Oper.wp
 simp [execOp, hop, resolve, invoke, builtin, hs, hx, hrun, Result.andThen]
 exact hK' _ _ hK
theorem wpList_delete_run {ops : Array Oper} {o : Oper} {rest : List Oper} {a : Act} {Q : Exit → Act → World → Prop}
  (hg : o.guard = none) (s x : Operand) (t tx : TypeId) (hop : o.op = Op.call { callee := Callee.builtin Builtin.delete, args := #[s, x], argTypes := #[t, tx] })
  {sv xv v' : Value} {w' : World} (hs : a.eval s = sv) (hx : a.eval x = xv) (hrun : (Builtin.delete_ #[t, tx] o.type #[sv, xv]).run P w = .ok v' w')
  (hK : wpList P ops Q rest (a.put o.dst v') w') : wpList P ops Q (o :: rest) a w := by
 refine wpList_plain hg fun K hK' => ?_
 unfold Oper.wp
 simp [execOp, hop, resolve, invoke, builtin, hs, hx, hrun, Result.andThen]
 exact hK' _ _ hK
theorem bytes_of_owns {base : Nat} {v : Value} {l : List UInt8} {n : Nat} (h : w.ownsRow base 5 1 v n (l.map u8v)) : Bytes (fun b => base ≤ b) w v l := by
 obtain ⟨h1, h2⟩ := h
 have hl : l.length = n := by simpa using h1
 rcases h2 with ⟨rfl, rfl⟩ | ⟨g, cap, cur, rfl, hg, hb, hnc, hcm, hcs, ht⟩
 ·have : l = [] := List.eq_nil_of_length_eq_zero hl
  subst this; exact Bytes.nil _ _
 ·subst hl
  refine .inr ⟨g, 0, cap, cur, (0, 0), rfl, hg, hb, hnc, hcm, by omega, fun i c hi => ?_⟩
  have : (cur.toList.take (l.length * 1))[i]? = some (u8v c) := by rw [ht, List.getElem?_map, hi]; rfl
  rw [List.getElem?_take] at this
  split at this
  ·rw [Nat.zero_add]; simpa [u8v] using this
  ·cases this
end
end Go.Proofs.YtlcnhpjggjgnpaaGreatDoor
namespace Go.Proofs.YtlcnhpjggjgnpaaGreatDoor
open Go.RowKit Go.MapKept
open Go.ChangeMaps (setBlock)
structure Ch where
 kind : Int
 a : ByteArray
 b : ByteArray
 p : List UInt8
structure DM where
 room : Int
 now : FS
 sure : FS
 loose : List Ch
 fuse : Int
 down : Bool
def doCh (fs : FS) (c : Ch) : FS :=
 if c.kind = 0 then fput fs c.a []
 else if c.kind = 1 then fput fs c.a ((fget fs c.a).getD [] ++ c.p)
 else if c.kind = 2 then fdel fs c.a
 else if c.kind = 3 then (if c.a = c.b then fput fs c.b ((fget fs c.a).getD []) else fdel (fput fs c.b ((fget fs c.a).getD [])) c.a)
 else fs
def used : FS → Nat
 | [] => 0
 | p :: l => p.2.length + used l
def chCells : List Value → List Ch → List Value
 | p :: ps, c :: cs => .int .i64 c.kind :: .string c.a :: .string c.b :: p :: chCells ps cs
 | _, _ => []
def ChsAt (F : Nat → Prop) (w : World) (v : Value) (cs : List Ch) : Prop :=
 ∃ ps : List Value, Rel2 (fun p c => Bytes F w p c.p) ps cs ∧ w.ownsRow 0 166 4 v cs.length (chCells ps cs) ∧ ∀ b, v.ownBlock = some b → F b
structure DiskAt (F : Nat → Prop) (w : World) (d bn bs : Nat) (vl : Value) (m : DM) : Prop where
 blk : w.heap[d]? = some (.cells #[.int .i64 m.room, .map (some bn), .map (some bs), vl, .int .i64 m.fuse, .bool m.down] 135 (0, 0))
 fd : F d
 fbn : F bn
 fbs : F bs
 ne : bn ≠ bs
 now : MapFs F w bn m.now
 sure : MapFs F w bs m.sure
 loose : ChsAt F w vl m.loose
 lt : ∀ b, F b → b < w.heap.size
def DiskIs (F : Nat → Prop) (w : World) (d : Nat) (m : DM) : Prop := ∃ bn bs vl, DiskAt F w d bn bs vl m
theorem ChsAt.keep {F G : Nat → Prop} {w w' : World} {v : Value} {cs : List Ch} (h : ChsAt F w v cs) (hk : KeepU8 F w w') (hr : ∀ b, v.ownBlock = some b → w'.heap[b]? = w.heap[b]?) (hFG : ∀ b, F b → b < w.heap.size → G b) : ChsAt G w' v cs := by
 obtain ⟨ps, h1, h2, h3⟩ := h
 refine ⟨ps, h1.mono (fun p c hpc => hpc.keep hk hFG), ?_, fun b hb => hFG b (h3 b hb) (h2.lt b hb).2⟩
 obtain ⟨hl, hs⟩ := h2
 refine ⟨hl, hs.imp id ?_⟩
 rintro ⟨g, cap, cur, rfl, hg, hb, rest⟩
 exact ⟨g, cap, cur, rfl, hg, (hr g rfl).trans hb, rest⟩
theorem DiskAt.keep {F : Nat → Prop} {w w' : World} {d bn bs : Nat} {vl : Value} {m : DM} (h : DiskAt F w d bn bs vl m) (hk : ∀ b, F b → w'.heap[b]? = w.heap[b]?) : DiskAt F w' d bn bs vl m := by
 have hu : KeepU8 F w w' := fun g cs fz hF hb => (hk g hF).trans hb
 refine ⟨(hk d h.fd).trans h.blk, h.fd, h.fbn, h.fbs, h.ne, h.now.keep (hk _ h.fbn) hu (fun _ h _ => h), h.sure.keep (hk _ h.fbs) hu (fun _ h _ => h), ?_, ?_⟩
 ·obtain ⟨ps, h1, h2, h3⟩ := h.loose
  exact h.loose.keep hu (fun b hb => hk b (h3 b hb)) (fun _ h _ => h)
 ·intro b hb
  have := h.lt b hb
  have e := hk b hb
  rw [Array.getElem?_eq_getElem this] at e
  exact (Array.getElem?_eq_some_iff.1 e).1
theorem DiskIs.keep {F : Nat → Prop} {w w' : World} {d : Nat} {m : DM} (h : DiskIs F w d m) (hk : ∀ b, F b → w'.heap[b]? = w.heap[b]?) : DiskIs F w' d m := by
 obtain ⟨bn, bs, vl, h⟩ := h
 exact ⟨bn, bs, vl, h.keep hk⟩
theorem DiskIs.lt {F : Nat → Prop} {w : World} {d : Nat} {m : DM} (h : DiskIs F w d m) : ∀ b, F b → b < w.heap.size := by
 obtain ⟨bn, bs, vl, h⟩ := h
 exact h.lt
theorem DiskIs.keeps {F G : Nat → Prop} {w w' : World} {d : Nat} {m : DM} (h : DiskIs F w d m) (hk : Keeps G w w') (hn : ∀ b, F b → ¬ G b) : DiskIs F w' d m :=
 h.keep (fun b hb => hk.block b (h.lt b hb) (hn b hb))
theorem zero_bytes (w : World) : (zeroValue 22).run Tryz.prog w = .ok (.slice none 0 0) w := by kernel_rfl
structure DCells (w : World) (d bn bs : Nat) (vl : Value) (m : DM) : Prop where
 c0 : w.cell? ⟨d, 0, none⟩ = some (.int .i64 m.room)
 c1 : w.cell? ⟨d, 1, none⟩ = some (.map (some bn))
 c2 : w.cell? ⟨d, 2, none⟩ = some (.map (some bs))
 c3 : w.cell? ⟨d, 3, none⟩ = some vl
 c4 : w.cell? ⟨d, 4, none⟩ = some (.int .i64 m.fuse)
 c5 : w.cell? ⟨d, 5, none⟩ = some (.bool m.down)
 f0 : ∀ i, w.frozen? ⟨d, i, none⟩ = false
theorem DiskAt.cells {F : Nat → Prop} {w : World} {d bn bs : Nat} {vl : Value} {m : DM} (h : DiskAt F w d bn bs vl m) : DCells w d bn bs vl m :=
 ⟨cell_at h.blk rfl, cell_at h.blk rfl, cell_at h.blk rfl, cell_at h.blk rfl, cell_at h.blk rfl, cell_at h.blk rfl, fun i => free_at h.blk i⟩
def Runs (f : FuncId) (args : Array Value) (w : World) (v : Value) (w2 : World) : Prop := Calls Tryz.prog f args w fun e w' => e = .returned v ∧ w2 = w'
theorem Runs.out {f : FuncId} {args : Array Value} {w w2 : World} {v : Value} (h : Runs f args w v w2) : Calls Tryz.prog f args w fun e w' => e = .returned v ∧ w2 = w' := h
def upOf (m : DM) : Int := if m.down then 5 else 0
theorem up_nil (w : World) : Calls Tryz.prog 76 #[.pointer none] w fun e w' => e = .returned (.int .i64 2) ∧ w = w' := by
 go_enter Tryz.func76, Tryz.ntmps76
 go_wp2
 go_ret
 exact ⟨rfl, rfl⟩
theorem up_raw {w : World} {d : Nat} (b : Bool) (c5 : w.cell? ⟨d, 5, none⟩ = some (.bool b)) : Calls Tryz.prog 76 #[.pointer (some ⟨d, 0, none⟩)] w fun e w' => e = .returned (.int .i64 (if b then 5 else 0)) ∧ w = w' := by
 cases b
 all_goals
  go_enter Tryz.func76, Tryz.ntmps76
  go_wp2
  go_ret
  exact ⟨rfl, rfl⟩
theorem up_calls {F : Nat → Prop} {w : World} {d : Nat} {m : DM} (h : DiskIs F w d m) : Calls Tryz.prog 76 #[.pointer (some ⟨d, 0, none⟩)] w fun e w' => e = .returned (.int .i64 (upOf m)) ∧ w = w' := by
 obtain ⟨bn, bs, vl, h⟩ := h
 exact up_raw m.down h.cells.c5
def isName (s : ByteArray) : Bool := !s.toList.isEmpty && decide ((s.size : Int) ≤ 160)
theorem isname_raw (s : ByteArray) (w : World) (b c : Bool) (hb : s.toList.isEmpty = b) (hc : decide ((s.size : Int) ≤ 160) = c) : Calls Tryz.prog 104 #[.string s] w fun e w' => e = .returned (.bool (!b && c)) ∧ w = w' := by
 go_enter Tryz.func104, Tryz.ntmps104
 cases b <;> cases c
 all_goals go_wp2
 all_goals go_ret
 all_goals exact ⟨by simp, rfl⟩
theorem isname_calls (s : ByteArray) (w : World) : Calls Tryz.prog 104 #[.string s] w fun e w' => e = .returned (.bool (isName s)) ∧ w = w' := isname_raw s w _ _ rfl rfl
def thereOf (m : DM) (n : ByteArray) : Int := if m.down then 5 else if (fget m.now n).isSome then 0 else 6
theorem there_raw (w : World) (d bn : Nat) (n : ByteArray) (v : Value) (b dn : Bool) (c1 : w.cell? ⟨d, 1, none⟩ = some (.map (some bn)))
  (hl : Sem.run Tryz.prog (Instr.lookup 132 (Value.map (some bn)) (Value.string n) true) w = Result.ok (Value.tuple #[v, Value.bool b]) w)
  (hup : Calls Tryz.prog 76 #[.pointer (some ⟨d, 0, none⟩)] w fun e w' => e = .returned (.int .i64 (if dn then 5 else 0)) ∧ w = w') :
  Calls Tryz.prog 110 #[.pointer (some ⟨d, 0, none⟩), .string n] w fun e w' => e = .returned (.int .i64 (if dn then 5 else if b then 0 else 6)) ∧ w = w' := by
 cases dn <;> cases b
 all_goals
  simp only [Bool.false_eq_true, if_false, if_true] at hup ⊢
  have Hup := Lib.hid hup
  clear hup
  go_enter Tryz.func110, Tryz.ntmps110
  go_wp2_with (go_at_call 76; refine Hup.out.mono ?_; rintro e w' ⟨rfl, rfl⟩)
  go_ret
  exact ⟨rfl, rfl⟩
theorem there_nil (n : ByteArray) (w : World) : Calls Tryz.prog 110 #[.pointer none, .string n] w fun e w' => e = .returned (.int .i64 2) ∧ w = w' := by
 go_enter Tryz.func110, Tryz.ntmps110
 go_wp2_with (go_at_call 76; refine (up_nil _).mono ?_; rintro e w' ⟨rfl, rfl⟩)
 go_ret
 exact ⟨rfl, rfl⟩
theorem look_now {F : Nat → Prop} {w : World} {b : Nat} {fs : FS} (h : MapFs F w b fs) (n : ByteArray) : ∃ v, Bytes F w v ((fget fs n).getD []) ∧ (fget fs n = none → v = .slice none 0 0) ∧
  ∀ c, (Instr.lookup 132 (.map (some b)) (.string n) c).run Tryz.prog w = .ok (if c then .tuple #[v, .bool (fget fs n).isSome] else v) w :=
 h.look (P := Tryz.prog) Tryz.underlying132 Tryz.underlying9 (zero_bytes w) n
theorem there_calls {F : Nat → Prop} {w : World} {d : Nat} {m : DM} (h : DiskIs F w d m) (n : ByteArray) : Calls Tryz.prog 110 #[.pointer (some ⟨d, 0, none⟩), .string n] w fun e w' => e = .returned (.int .i64 (thereOf m n)) ∧ w = w' := by
 have hup := up_calls h
 obtain ⟨bn, bs, vl, h⟩ := h
 obtain ⟨v, _, _, hlook⟩ := look_now h.now n
 exact there_raw w d bn n v _ m.down h.cells.c1 (hlook true) hup
theorem DiskAt.reset {F : Nat → Prop} {w w' : World} {d bn bs : Nat} {vl : Value} {m m' : DM} (h : DiskAt F w d bn bs vl m)
  (hd : w'.heap[d]? = some (.cells #[.int .i64 m'.room, .map (some bn), .map (some bs), vl, .int .i64 m'.fuse, .bool m'.down] 135 (0, 0)))
  (hne : ∀ b, b ≠ d → w'.heap[b]? = w.heap[b]?) (h1 : m'.now = m.now) (h2 : m'.sure = m.sure) (h3 : m'.loose = m.loose) : DiskAt F w' d bn bs vl m' := by
 have hu : KeepU8 F w w' := fun g cs fz hF hb => by
  rw [hne g (fun e => by subst e; rw [h.blk] at hb; simp at hb)]
  exact hb
 have hdn : bn ≠ d := fun e => by subst e; exact h.now.notU8 _ _ _ h.blk
 have hds : bs ≠ d := fun e => by subst e; exact h.sure.notU8 _ _ _ h.blk
 refine ⟨hd, h.fd, h.fbn, h.fbs, h.ne, ?_, ?_, ?_, ?_⟩
 ·rw [h1]; exact h.now.keep (hne _ hdn) hu (fun _ h _ => h)
 ·rw [h2]; exact h.sure.keep (hne _ hds) hu (fun _ h _ => h)
 ·rw [h3]
  obtain ⟨ps, k1, k2, k3⟩ := h.loose
  refine h.loose.keep hu (fun b hb => hne b (fun e => ?_)) (fun _ h _ => h)
  subst e
  rcases k2.2 with ⟨e, _⟩ | ⟨g, cap, cur, e, _, hg, _⟩
  ·rw [e] at hb; cases hb
  ·rw [e] at hb; cases hb
   rw [h.blk] at hg; simp at hg
 ·intro b hb
  by_cases e : b = d
  ·subst e; exact lt_of_heap hd
  ·have := h.lt b hb
   have e' := hne b e
   rw [Array.getElem?_eq_getElem this] at e'
   exact (Array.getElem?_eq_some_iff.1 e').1
def spendOf (m : DM) : Int × DM := if m.fuse = 0 then (5, { m with down := true }) else if 0 < m.fuse then (0, { m with fuse := m.fuse - 1 }) else (0, m)
theorem spend_raw (w : World) (d : Nat) (f : Int) (v5 : Value) (c4 : w.cell? ⟨d, 4, none⟩ = some (.int .i64 f)) (c5 : w.cell? ⟨d, 5, none⟩ = some v5) (f4 : w.frozen? ⟨d, 4, none⟩ = false) (f5 : w.frozen? ⟨d, 5, none⟩ = false) (hf : f ≤ 9223372036854775807) :
  Calls Tryz.prog 112 #[.pointer (some ⟨d, 0, none⟩)] w fun e w' => e = .returned (.int .i64 (if f = 0 then 5 else 0)) ∧ w' = if f = 0 then w.setCell ⟨d, 5, none⟩ (.bool true) else if 0 < f then w.setCell ⟨d, 4, none⟩ (.int .i64 (f - 1)) else w := by
 by_cases h0 : f = 0
 ·subst h0
  simp only [if_true]
  go_enter Tryz.func112, Tryz.ntmps112
  go_wp2
  go_ret
  exact ⟨rfl, rfl⟩
 ·have hb : (f == 0) = false := by simpa using h0
  by_cases h1 : 0 < f
  ·have hb' : (decide (f = 0)) = false := by simpa using h0
   go_enter Tryz.func112, Tryz.ntmps112
   go_wp2
   go_ret
   exact ⟨rfl, rfl⟩
  ·have hb' : (decide (f = 0)) = false := by simpa using h0
   go_enter Tryz.func112, Tryz.ntmps112
   go_wp2
   go_ret
   exact ⟨rfl, rfl⟩
theorem info_u8 : (Tryz.prog.info? 5).map (fun i => (i.zero, i.size, i.bytes)) = some (some (.int .u8 0), 1, 1) := by kernel_rfl
theorem Bytes.tight {F : Nat → Prop} {w : World} {a : Option Addr} {n c : Nat} {l : List UInt8} (h : Bytes F w (.slice a n c) l) : Bytes F w (.slice a l.length l.length) l := by
 rcases h with ⟨e, hl0⟩ | ⟨g, off, cap, cs, fz, e, hF, hbk, k1, k2, k3, k4⟩
 ·simp only [Value.slice.injEq] at e
  obtain ⟨rfl, _, _⟩ := e
  subst hl0
  exact Bytes.nil _ _
 ·simp only [Value.slice.injEq] at e
  obtain ⟨rfl, _, rfl⟩ := e
  exact .inr ⟨g, off, l.length, cs, fz, rfl, hF, hbk, Nat.le_refl _, by omega, by omega, k4⟩
theorem do_append {F : Nat → Prop} {w : World} {b : Nat} {fs : FS} (h : MapFs F w b fs) (x y : ByteArray) {pv : Value} {p : List UInt8} (hp : Bytes F w pv p) (hb : ((fget fs x).getD []).length + p.length ≤ 140737488355328) :
  ∃ w2, Runs 77 #[.map (some b), .agg #[.int .i64 1, .string x, .string y, pv]] w (.tuple #[]) w2 ∧ MapFs (fun i => F i ∨ w.heap.size ≤ i) w2 b (fput fs x ((fget fs x).getD [] ++ p)) ∧ Keeps (fun i => i = b) w w2 := by
 obtain ⟨i0, hi, hz0, hz1, hz2⟩ := info_parts info_u8
 have hblt := h.lt
 have h1 : MapFs F (w.alloc (.cells #[.int .i64 1, .string x, .string y, pv] 166)) b fs := h.keep (Below.heap_alloc _ _ _ hblt) ((KeepU8.refl _ _).alloc _) (fun _ h _ => h)
 have hp1 : Bytes F (w.alloc (.cells #[.int .i64 1, .string x, .string y, pv] 166)).drew pv p := hp.keep ((KeepU8.refl F w).alloc _).drew (fun _ h _ => h)
 obtain ⟨v, hv, _, hlook⟩ := look_now h1 x
 have hl := hlook false
 simp only [Bool.false_eq_true, if_false] at hl
 have hv1 : Bytes F (w.alloc (.cells #[.int .i64 1, .string x, .string y, pv] 166)).drew v ((fget fs x).getD []) := hv.keep (KeepU8.refl _ _).drew (fun _ h _ => h)
 clear hlook
 generalize (fget fs x).getD [] = l at *
 obtain ⟨va, vc, rfl, hlc, hcm⟩ := hv.form
 have hb0 : (0 : Int) ≤ (l.length : Int) := by omega
 have hb1 : (l.length : Int) ≤ (vc : Int) := by omega
 have hw1 := hv1.tight
 obtain ⟨v', w1, hrun, hB, hk, _⟩ := append_full (P := Tryz.prog) 22 22 22 5 i0 _ Tryz.underlying22 Tryz.underlying22 hi hz0 hz1 hz2 rfl hw1 hp1.reads rfl hb
 have hk0 : Keeps (fun _ => False) w w1 := ((Keeps.refl _ w).alloc _).trans hk.undrew (fun _ _ e => e)
 have h2 : MapFs (fun i => F i ∨ w.heap.size ≤ i) w1 b fs := h.keep (hk0.block b hblt (fun e => e)) (KeepU8.of_none hk0) (fun _ h _ => .inl h)
 obtain ⟨es, clock, hupd, h3⟩ := h2.update (P := Tryz.prog) Tryz.underlying132 Tryz.underlying9 x (hB.keep (KeepU8.refl _ _) (fun i h _ => h.imp id (fun e => by simp at e; omega)))
 have ka : w1.cell? ⟨w.heap.size, 1, none⟩ = some (.string x) ∧ w1.cell? ⟨w.heap.size, 3, none⟩ = some pv := by
  have := hk.at (b := w.heap.size) (o := .cells #[.int .i64 1, .string x, .string y, pv] 166) (heap_alloc_new _ _) (fun e => e)
  exact ⟨cell_at this rfl, cell_at this rfl⟩
 have kb : (setBlock w1 b (.map es clock)).cell? ⟨w.heap.size, 1, none⟩ = some (.string x) ∧ (setBlock w1 b (.map es clock)).cell? ⟨w.heap.size, 3, none⟩ = some pv := by
  have hne : w.heap.size ≠ b := by omega
  exact ⟨(World.cell?_of_block (w := w1) (heap_setBlock_ne _ _ _ hne)).trans ka.1, (World.cell?_of_block (w := w1) (heap_setBlock_ne _ _ _ hne)).trans ka.2⟩
 have Hrun := Lib.hid hrun
 have H3 := Lib.hid h3
 clear hrun hv hv1 hw1 hB h1 h2 hp1 hp h3
 refine ⟨_, ?_, H3.out, (hk0.mono (fun _ _ e => e.elim)).setBlock (F := fun i => i = b) (fun _ => rfl) _⟩
 unfold Runs
 go_enter Tryz.func77, Tryz.ntmps77
 go_wp2
 go_region_held3 (fun w' => w'.cell? ⟨w.heap.size, 1, none⟩ = some (.string x) ∧ w'.cell? ⟨w.heap.size, 3, none⟩ = some pv) (first | exact ka | exact kb | go_keep) (first | (refine step_append_run rfl _ _ _ _ rfl rfl rfl Hrun.out ?_))
 go_wp2
 go_end0
 exact ⟨rfl, rfl⟩
theorem do_create {F : Nat → Prop} {w : World} {b : Nat} {fs : FS} (h : MapFs F w b fs) (x y : ByteArray) (pv : Value) :
  ∃ w2, Runs 77 #[.map (some b), .agg #[.int .i64 0, .string x, .string y, pv]] w (.tuple #[]) w2 ∧ MapFs (fun i => F i ∨ w.heap.size ≤ i) w2 b (fput fs x []) ∧ Keeps (fun i => i = b) w w2 := by
 have hblt := h.lt
 have h1 : MapFs (fun i => F i ∨ w.heap.size ≤ i) (w.alloc (.cells #[.int .i64 0, .string x, .string y, pv] 166)) b fs := h.keep (Below.heap_alloc _ _ _ hblt) ((KeepU8.refl _ _).alloc _) (fun _ h _ => .inl h)
 obtain ⟨es, clock, hupd, h3⟩ := h1.update (P := Tryz.prog) Tryz.underlying132 Tryz.underlying9 x (Bytes.nil _ _)
 have H3 := Lib.hid h3
 clear h1 h3
 refine ⟨_, ?_, H3.out, ((Keeps.refl (fun i => i = b) w).alloc _).setBlock (fun _ => rfl) _⟩
 unfold Runs
 go_enter Tryz.func77, Tryz.ntmps77
 go_wp2
 go_end0
 exact ⟨rfl, rfl⟩
theorem do_remove {F : Nat → Prop} {w : World} {b : Nat} {fs : FS} (h : MapFs F w b fs) (x y : ByteArray) (pv : Value) :
  ∃ w2, Runs 77 #[.map (some b), .agg #[.int .i64 2, .string x, .string y, pv]] w (.tuple #[]) w2 ∧ MapFs (fun i => F i ∨ w.heap.size ≤ i) w2 b (fdel fs x) ∧ Keeps (fun i => i = b) w w2 := by
 have hblt := h.lt
 have h1 : MapFs (fun i => F i ∨ w.heap.size ≤ i) (w.alloc (.cells #[.int .i64 2, .string x, .string y, pv] 166)) b fs := h.keep (Below.heap_alloc _ _ _ hblt) ((KeepU8.refl _ _).alloc _) (fun _ h _ => .inl h)
 obtain ⟨es, clock, hdel, h3⟩ := h1.delete (P := Tryz.prog) Tryz.underlying132 Tryz.underlying9 x 9 0
 have H3 := Lib.hid h3
 clear h1 h3
 refine ⟨_, ?_, H3.out, ((Keeps.refl (fun i => i = b) w).alloc _).setBlock (fun _ => rfl) _⟩
 unfold Runs
 go_enter Tryz.func77, Tryz.ntmps77
 go_wp2
 go_end0
 exact ⟨rfl, rfl⟩
theorem do_rename {F : Nat → Prop} {w : World} {b : Nat} {fs : FS} (h : MapFs F w b fs) (x y : ByteArray) (pv : Value) (hxy : x ≠ y) :
  ∃ w2, Runs 77 #[.map (some b), .agg #[.int .i64 3, .string x, .string y, pv]] w (.tuple #[]) w2 ∧ MapFs (fun i => F i ∨ w.heap.size ≤ i) w2 b (fdel (fput fs y ((fget fs x).getD [])) x) ∧ Keeps (fun i => i = b) w w2 := by
 have hblt := h.lt
 have h1 : MapFs (fun i => F i ∨ w.heap.size ≤ i) (w.alloc (.cells #[.int .i64 3, .string x, .string y, pv] 166)) b fs := h.keep (Below.heap_alloc _ _ _ hblt) ((KeepU8.refl _ _).alloc _) (fun _ h _ => .inl h)
 obtain ⟨v, hv, _, hlook⟩ := look_now h1 x
 have hl := hlook false
 simp only [Bool.false_eq_true, if_false] at hl
 obtain ⟨es, clock, hupd, h3⟩ := h1.update (P := Tryz.prog) Tryz.underlying132 Tryz.underlying9 y hv
 obtain ⟨es2, clock2, hdel, h4⟩ := h3.delete (P := Tryz.prog) Tryz.underlying132 Tryz.underlying9 x 9 0
 have c1 : (setBlock (w.alloc (.cells #[.int .i64 3, .string x, .string y, pv] 166)) b (.map es clock)).cell? ⟨w.heap.size, 1, none⟩ = some (.string x) :=
  (World.cell?_of_block (w := w.alloc (.cells #[.int .i64 3, .string x, .string y, pv] 166)) (heap_setBlock_ne _ _ _ (by simp; omega))).trans (cell_at (heap_alloc_new _ _) rfl)
 have c2 : (setBlock (w.alloc (.cells #[.int .i64 3, .string x, .string y, pv] 166)) b (.map es clock)).cell? ⟨w.heap.size, 2, none⟩ = some (.string y) :=
  (World.cell?_of_block (w := w.alloc (.cells #[.int .i64 3, .string x, .string y, pv] 166)) (heap_setBlock_ne _ _ _ (by simp; omega))).trans (cell_at (heap_alloc_new _ _) rfl)
 have H4 := Lib.hid h4
 have hne : (x.toList == y.toList) = false := by rw [← beq_toListBytes]; exact Bool.eq_false_iff.2 (fun e => hxy ((bytes_beq x y).1 e))
 have HD := Lib.hid hdel
 clear h1 h3 h4 hlook hv hxy hdel
 refine ⟨_, ?_, H4.out, (((Keeps.refl (fun i => i = b) w).alloc _).setBlock (fun _ => rfl) _).setBlock (fun _ => rfl) _⟩
 unfold Runs
 go_enter Tryz.func77, Tryz.ntmps77
 go_wp2_with (at_delete; refine wpList_delete_run rfl _ _ _ _ rfl rfl rfl HD.out ?_)
 go_end0
 exact ⟨rfl, rfl⟩
theorem do_same {F : Nat → Prop} {w : World} {b : Nat} {fs : FS} (h : MapFs F w b fs) (x : ByteArray) (pv : Value) :
  ∃ w2, Runs 77 #[.map (some b), .agg #[.int .i64 3, .string x, .string x, pv]] w (.tuple #[]) w2 ∧ MapFs (fun i => F i ∨ w.heap.size ≤ i) w2 b (fput fs x ((fget fs x).getD [])) ∧ Keeps (fun i => i = b) w w2 := by
 have hblt := h.lt
 have h1 : MapFs (fun i => F i ∨ w.heap.size ≤ i) (w.alloc (.cells #[.int .i64 3, .string x, .string x, pv] 166)) b fs := h.keep (Below.heap_alloc _ _ _ hblt) ((KeepU8.refl _ _).alloc _) (fun _ h _ => .inl h)
 obtain ⟨v, hv, _, hlook⟩ := look_now h1 x
 have hl := hlook false
 simp only [Bool.false_eq_true, if_false] at hl
 obtain ⟨es, clock, hupd, h3⟩ := h1.update (P := Tryz.prog) Tryz.underlying132 Tryz.underlying9 x hv
 have c1 : (setBlock (w.alloc (.cells #[.int .i64 3, .string x, .string x, pv] 166)) b (.map es clock)).cell? ⟨w.heap.size, 1, none⟩ = some (.string x) :=
  (World.cell?_of_block (w := w.alloc (.cells #[.int .i64 3, .string x, .string x, pv] 166)) (heap_setBlock_ne _ _ _ (by simp; omega))).trans (cell_at (heap_alloc_new _ _) rfl)
 have c2 : (setBlock (w.alloc (.cells #[.int .i64 3, .string x, .string x, pv] 166)) b (.map es clock)).cell? ⟨w.heap.size, 2, none⟩ = some (.string x) :=
  (World.cell?_of_block (w := w.alloc (.cells #[.int .i64 3, .string x, .string x, pv] 166)) (heap_setBlock_ne _ _ _ (by simp; omega))).trans (cell_at (heap_alloc_new _ _) rfl)
 have H3 := Lib.hid h3
 clear h1 h3 hlook hv
 refine ⟨_, ?_, H3.out, ((Keeps.refl (fun i => i = b) w).alloc _).setBlock (fun _ => rfl) _⟩
 unfold Runs
 go_enter Tryz.func77, Tryz.ntmps77
 go_wp2
 go_end0
 exact ⟨rfl, rfl⟩
def Fits (fs : FS) (c : Ch) : Prop := (0 ≤ c.kind ∧ c.kind ≤ 3) ∧ (c.kind = 1 → ((fget fs c.a).getD []).length + c.p.length ≤ 140737488355328)
theorem do_calls {F : Nat → Prop} {w : World} {b : Nat} {fs : FS} (h : MapFs F w b fs) (c : Ch) {pv : Value} (hp : Bytes F w pv c.p) (hf : Fits fs c) :
  ∃ w2, Runs 77 #[.map (some b), .agg #[.int .i64 c.kind, .string c.a, .string c.b, pv]] w (.tuple #[]) w2 ∧ MapFs (fun i => F i ∨ w.heap.size ≤ i) w2 b (doCh fs c) ∧ Keeps (fun i => i = b) w w2 := by
 obtain ⟨⟨k0, k3⟩, hs⟩ := hf
 obtain ⟨k, x, y, p⟩ := c
 simp only at *
 have : k = 0 ∨ k = 1 ∨ k = 2 ∨ k = 3 := by omega
 rcases this with rfl | rfl | rfl | rfl
 ·exact do_create h x y pv
 ·exact do_append h x y hp (hs rfl)
 ·exact do_remove h x y pv
 ·by_cases e : x = y
  ·subst e
   simpa [doCh] using do_same h x pv
  ·simpa [doCh, e] using do_rename h x y pv e
end Go.Proofs.YtlcnhpjggjgnpaaGreatDoor
