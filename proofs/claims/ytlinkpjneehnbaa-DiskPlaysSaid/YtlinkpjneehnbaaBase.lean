/- Base words of these proofs: which blocks a call keeps, bytes that a slice holds, maps of strings to bytes, and the runs of the map operations on them. Nothing of the program stands here. -/
import Derived.WalkKit
import Derived.WalkSpells
import Derived.MapKept
import Derived.Maps.RangeRun
import Derived.Lib.Hide
namespace Go.Proofs.Ytlinkpjneehnbaa
open Go.RowKit Go.MapKept
open Go.ChangeMaps (setBlock)

/-- All blocks that were there, but for those in F, are as they were. -/
structure Keeps (F : Nat → Prop) (w w' : World) : Prop where
  os : w'.os = w.os
  tape : w'.tape = w.tape
  output : w'.output = w.output
  size : w.heap.size ≤ w'.heap.size
  block : ∀ k, k < w.heap.size → ¬ F k → w'.heap[k]? = w.heap[k]?

theorem Keeps.refl (F : Nat → Prop) (w : World) : Keeps F w w := ⟨rfl, rfl, rfl, Nat.le_refl _, fun _ _ _ => rfl⟩
theorem Keeps.trans {F G : Nat → Prop} {w w1 w2 : World} (h : Keeps F w w1) (k : Keeps G w1 w2) (hs : ∀ b, b < w.heap.size → G b → F b) : Keeps F w w2 :=
  ⟨k.os.trans h.os, k.tape.trans h.tape, k.output.trans h.output, Nat.le_trans h.size k.size, fun b hb hF => (k.block b (Nat.lt_of_lt_of_le hb h.size) (fun hG => hF (hs b hb hG))).trans (h.block b hb hF)⟩
theorem Keeps.mono {F G : Nat → Prop} {w w' : World} (h : Keeps F w w') (hs : ∀ b, b < w.heap.size → F b → G b) : Keeps G w w' :=
  ⟨h.os, h.tape, h.output, h.size, fun b hb hG => h.block b hb (fun hF => hG (hs b hb hF))⟩
theorem Keeps.of_grown {w w' : World} {row : Option Nat} (h : w.grownBy w' row) : Keeps (fun b => row = some b) w w' :=
  ⟨h.os, h.tape, h.output, h.size, fun b hb hF => h.block b hb (fun e => hF e.symm)⟩
theorem Keeps.alloc {F : Nat → Prop} {w w' : World} (h : Keeps F w w') (o : Obj) : Keeps F w (w'.alloc o) :=
  ⟨h.os, h.tape, h.output, by have := h.size; simp; omega, fun b hb hF => (Below.heap_alloc w' o b (Nat.lt_of_lt_of_le hb h.size)).trans (h.block b hb hF)⟩
theorem Keeps.drew {F : Nat → Prop} {w w' : World} (h : Keeps F w w') : Keeps F w w'.drew := ⟨h.os, h.tape, h.output, h.size, h.block⟩
theorem Keeps.undrew {F : Nat → Prop} {w w' : World} (h : Keeps F w.drew w') : Keeps F w w' := ⟨h.os, h.tape, h.output, h.size, h.block⟩
theorem Keeps.drewN {F : Nat → Prop} {w w' : World} (h : Keeps F w w') (n : Nat) : Keeps F w { w' with drawn := n } := ⟨h.os, h.tape, h.output, h.size, h.block⟩
theorem Keeps.setCell {F : Nat → Prop} {w w' : World} (h : Keeps F w w') {p : Addr} (hp : p.block < w.heap.size → F p.block) (u : Value) : Keeps F w (w'.setCell p u) :=
  ⟨h.os, h.tape, h.output, by have := h.size; simp; omega, fun b hb hF => (Below.heap_setCell w' p u b (fun e => by subst e; exact hF (hp hb))).trans (h.block b hb hF)⟩
theorem heap_setBlock_ne (w : World) (b : Nat) (o : Obj) {i : Nat} (h : i ≠ b) : (setBlock w b o).heap[i]? = w.heap[i]? := by
  simp [setBlock, Ne.symm h]
theorem heap_setBlock_eq {w : World} {b : Nat} {o : Obj} (h : w.heap[b]? = some o) (o' : Obj) : (setBlock w b o').heap[b]? = some o' := (heap_set h).1
theorem Keeps.setBlock {F : Nat → Prop} {w w' : World} (h : Keeps F w w') {b : Nat} (hp : b < w.heap.size → F b) (o : Obj) : Keeps F w (setBlock w' b o) :=
  ⟨h.os, h.tape, h.output, by have := h.size; simp [ChangeMaps.setBlock]; omega, fun i hi hF => (heap_setBlock_ne w' b o (fun e => by subst e; exact hF (hp hi))).trans (h.block i hi hF)⟩
theorem lt_of_heap {w : World} {b : Nat} {o : Obj} (h : w.heap[b]? = some o) : b < w.heap.size := (Array.getElem?_eq_some_iff.1 h).1
theorem Keeps.at {F : Nat → Prop} {w w' : World} (h : Keeps F w w') {b : Nat} {o : Obj} (hb : w.heap[b]? = some o) (hF : ¬ F b) : w'.heap[b]? = some o :=
  (h.block b (lt_of_heap hb) hF).trans hb
theorem Keeps.below {w w' : World} (h : Keeps (fun _ => False) w w') : Below w.heap.size w w' := ⟨h.os, h.tape, h.output, h.size, fun k hk => h.block k hk (fun e => e)⟩
theorem Keeps.same {F G : Nat → Prop} {w w' : World} (h : Keeps G w w') (hF : ∀ b, F b → b < w.heap.size ∧ ¬ G b) : ∀ b, F b → w'.heap[b]? = w.heap[b]? :=
  fun b hb => h.block b (hF b hb).1 (hF b hb).2

/-- Cells of a block. -/
theorem cell_at {w : World} {b : Nat} {cs : Array Value} {t : TypeId} {fz : Nat × Nat} (h : w.heap[b]? = some (.cells cs t fz)) {i : Nat} {v : Value} (hi : cs[i]? = some v) : w.cell? ⟨b, i, none⟩ = some v := by
  simp [World.cell?, h, hi]
theorem free_at {w : World} {b : Nat} {cs : Array Value} {t : TypeId} (h : w.heap[b]? = some (.cells cs t (0, 0))) (i : Nat) : w.frozen? ⟨b, i, none⟩ = false := by
  simp [World.frozen?, h]
theorem heap_setCell_eq {w : World} {b : Nat} {cs : Array Value} {t : TypeId} {fz : Nat × Nat} (h : w.heap[b]? = some (.cells cs t fz)) (i : Nat) (u : Value) :
    (w.setCell ⟨b, i, none⟩ u).heap[b]? = some (.cells (cs.setIfInBounds i u) t fz) := by
  simp only [World.setCell, Array.getElem?_modify, if_true, h, Option.map_some]
  rfl

/-- Two lists, place by place. -/
def Rel2 {α β : Type} (R : α → β → Prop) : List α → List β → Prop
  | [], [] => True
  | a :: as, b :: bs => R a b ∧ Rel2 R as bs
  | _, _ => False

theorem Rel2.length {α β : Type} {R : α → β → Prop} : ∀ {l : List α} {m : List β}, Rel2 R l m → l.length = m.length
  | [], [], _ => rfl
  | _ :: _, _ :: _, h => by simp [Rel2.length h.2]
  | [], _ :: _, h => h.elim
  | _ :: _, [], h => h.elim
theorem Rel2.mono {α β : Type} {R S : α → β → Prop} : ∀ {l : List α} {m : List β}, Rel2 R l m → (∀ a b, R a b → S a b) → Rel2 S l m
  | [], [], _, _ => trivial
  | _ :: _, _ :: _, h, k => ⟨k _ _ h.1, Rel2.mono h.2 k⟩
  | [], _ :: _, h, _ => h.elim
  | _ :: _, [], h, _ => h.elim
theorem Rel2.append {α β : Type} {R : α → β → Prop} : ∀ {l : List α} {m : List β} {l' : List α} {m' : List β}, Rel2 R l m → Rel2 R l' m' → Rel2 R (l ++ l') (m ++ m')
  | [], [], _, _, _, k => k
  | _ :: _, _ :: _, _, _, h, k => ⟨h.1, Rel2.append h.2 k⟩
  | [], _ :: _, _, _, h, _ => h.elim
  | _ :: _, [], _, _, h, _ => h.elim
theorem Rel2.get {α β : Type} {R : α → β → Prop} : ∀ {l : List α} {m : List β} (_ : Rel2 R l m) {i : Nat} {a : α} (_ : l[i]? = some a), ∃ b, m[i]? = some b ∧ R a b
  | a :: as, b :: bs, h, 0, x, hx => by simp at hx; subst hx; exact ⟨b, rfl, h.1⟩
  | a :: as, b :: bs, h, i + 1, x, hx => by simpa using Rel2.get h.2 (by simpa using hx)
  | [], _, _, i, x, hx => by simp at hx
  | _ :: _, [], h, _, _, _ => h.elim
theorem Rel2.get' {α β : Type} {R : α → β → Prop} : ∀ {l : List α} {m : List β} (_ : Rel2 R l m) {i : Nat} {b : β} (_ : m[i]? = some b), ∃ a, l[i]? = some a ∧ R a b
  | a :: as, b :: bs, h, 0, x, hx => by simp at hx; subst hx; exact ⟨a, rfl, h.1⟩
  | a :: as, b :: bs, h, i + 1, x, hx => by simpa using Rel2.get' h.2 (by simpa using hx)
  | _, [], _, i, x, hx => by simp at hx
  | [], _ :: _, h, _, _, _ => h.elim
theorem Rel2.eraseIdx {α β : Type} {R : α → β → Prop} : ∀ {l : List α} {m : List β} (_ : Rel2 R l m) (i : Nat), Rel2 R (l.eraseIdx i) (m.eraseIdx i)
  | _ :: _, _ :: _, h, 0 => h.2
  | _ :: _, _ :: _, h, i + 1 => ⟨h.1, Rel2.eraseIdx h.2 i⟩
  | [], [], _, _ => trivial
  | [], _ :: _, h, _ => h.elim
  | _ :: _, [], h, _ => h.elim
theorem Rel2.modify {α β : Type} {R : α → β → Prop} {f : α → α} {g : β → β} : ∀ {l : List α} {m : List β} (_ : Rel2 R l m) (i : Nat) (_ : ∀ a b, l[i]? = some a → m[i]? = some b → R a b → R (f a) (g b)), Rel2 R (l.modify i f) (m.modify i g)
  | a :: as, b :: bs, h, 0, k => by simpa [Rel2] using ⟨k a b rfl rfl h.1, h.2⟩
  | a :: as, b :: bs, h, i + 1, k => by simpa [Rel2] using ⟨h.1, Rel2.modify h.2 i (fun x y hx hy => k x y (by simpa using hx) (by simpa using hy))⟩
  | [], [], _, _, _ => by simp [Rel2]
  | [], _ :: _, h, _, _ => h.elim
  | _ :: _, [], h, _, _ => h.elim

/-- The slice v holds the bytes l, in a block of F. -/
def Bytes (F : Nat → Prop) (w : World) (v : Value) (l : List UInt8) : Prop :=
  (v = .slice none 0 0 ∧ l = []) ∨
  ∃ (g off cap : Nat) (cs : Array Value) (fz : Nat × Nat), v = .slice (some ⟨g, off, none⟩) l.length cap ∧ F g ∧ w.heap[g]? = some (.cells cs 5 fz) ∧ l.length ≤ cap ∧ cap ≤ maxLen ∧ off + cap ≤ cs.size ∧
    ∀ i c, l[i]? = some c → cs[off + i]? = some (.int .u8 (c.toNat : Int))

/-- Blocks of bytes in F are as they were. -/
def KeepU8 (F : Nat → Prop) (w w' : World) : Prop := ∀ g cs fz, F g → w.heap[g]? = some (.cells cs 5 fz) → w'.heap[g]? = some (.cells cs 5 fz)
theorem KeepU8.of_keeps {F G : Nat → Prop} {w w' : World} (h : Keeps G w w') (hG : ∀ g cs fz, F g → G g → w.heap[g]? ≠ some (.cells cs 5 fz)) : KeepU8 F w w' :=
  fun g cs fz hF hb => h.at hb (fun hg => hG g cs fz hF hg hb)
theorem KeepU8.of_none {F : Nat → Prop} {w w' : World} (h : Keeps (fun _ => False) w w') : KeepU8 F w w' := KeepU8.of_keeps h (fun _ _ _ _ e => False.elim e)
theorem KeepU8.refl (F : Nat → Prop) (w : World) : KeepU8 F w w := fun _ _ _ _ h => h
theorem KeepU8.trans {F : Nat → Prop} {w w1 w2 : World} (h : KeepU8 F w w1) (k : KeepU8 F w1 w2) : KeepU8 F w w2 := fun g cs fz hF hb => k g cs fz hF (h g cs fz hF hb)
theorem KeepU8.alloc {F : Nat → Prop} {w w' : World} (h : KeepU8 F w w') (o : Obj) : KeepU8 F w (w'.alloc o) :=
  fun g cs fz hF hb => by have := h g cs fz hF hb; rw [Below.heap_alloc w' o g (lt_of_heap this)]; exact this
theorem KeepU8.drew {F : Nat → Prop} {w w' : World} (h : KeepU8 F w w') : KeepU8 F w w'.drew := h
theorem KeepU8.setBlock {F : Nat → Prop} {w w' : World} (h : KeepU8 F w w') {b : Nat} (hb : ∀ cs fz, w'.heap[b]? ≠ some (.cells cs 5 fz)) (o : Obj) : KeepU8 F w (setBlock w' b o) :=
  fun g cs fz hF hg => by have := h g cs fz hF hg; rw [heap_setBlock_ne w' b o (fun e => by subst e; exact hb _ _ this)]; exact this
theorem KeepU8.setCell {F : Nat → Prop} {w w' : World} (h : KeepU8 F w w') {p : Addr} (hb : ∀ cs fz, w'.heap[p.block]? ≠ some (.cells cs 5 fz)) (u : Value) : KeepU8 F w (w'.setCell p u) :=
  fun g cs fz hF hg => by have := h g cs fz hF hg; rw [Below.heap_setCell w' p u g (fun e => by subst e; exact hb _ _ this)]; exact this

theorem Bytes.nil (F : Nat → Prop) (w : World) : Bytes F w (.slice none 0 0) [] := .inl ⟨rfl, rfl⟩
theorem Bytes.keep {F G : Nat → Prop} {w w' : World} {v : Value} {l : List UInt8} (h : Bytes F w v l) (hk : KeepU8 F w w') (hFG : ∀ b, F b → b < w.heap.size → G b) : Bytes G w' v l := by
  rcases h with h | ⟨g, off, cap, cs, fz, rfl, hF, hb, h1, h2, h3, h4⟩
  · exact .inl h
  · exact .inr ⟨g, off, cap, cs, fz, rfl, hFG g hF (lt_of_heap hb), hk g cs fz hF hb, h1, h2, h3, h4⟩
theorem Bytes.form {F : Nat → Prop} {w : World} {v : Value} {l : List UInt8} (h : Bytes F w v l) : ∃ a cap, v = .slice a l.length cap ∧ l.length ≤ cap ∧ cap ≤ maxLen := by
  rcases h with ⟨rfl, rfl⟩ | ⟨g, off, cap, cs, fz, rfl, hF, hb, h1, h2, h3, h4⟩
  · exact ⟨none, 0, rfl, Nat.le_refl _, Nat.zero_le _⟩
  · exact ⟨_, cap, rfl, h1, h2⟩
theorem Bytes.unique {F G : Nat → Prop} {w : World} {v : Value} {l m : List UInt8} (h : Bytes F w v l) (k : Bytes G w v m) : l = m := by
  have key : ∀ (l m : List UInt8), l.length = m.length → (∀ (i : Nat) (c d : UInt8), l[i]? = some c → m[i]? = some d → c = d) → l = m := by
    intro l m hl hcd
    apply List.ext_getElem hl
    intro i h1 h2
    exact hcd i _ _ (List.getElem?_eq_getElem h1) (List.getElem?_eq_getElem h2)
  rcases h with ⟨rfl, rfl⟩ | ⟨g, off, cap, cs, fz, rfl, hF, hb, h1, h2, h3, h4⟩
  · rcases k with ⟨_, rfl⟩ | ⟨g, off, cap, cs, fz, e, _⟩
    · rfl
    · cases e
  · rcases k with ⟨e, _⟩ | ⟨g', off', cap', cs', fz', e, hF', hb', k1, k2, k3, k4⟩
    · cases e
    · simp only [Value.slice.injEq, Option.some.injEq, Addr.mk.injEq, and_true] at e
      obtain ⟨⟨rfl, rfl⟩, el, rfl⟩ := e
      have := hb.symm.trans hb'
      simp only [Option.some.injEq, Obj.cells.injEq, true_and] at this
      obtain ⟨rfl, rfl⟩ := this
      refine key _ _ el (fun i c d hc hd => ?_)
      have := (h4 i c hc).symm.trans (k4 i d hd)
      simp only [Option.some.injEq, Value.int.injEq, true_and] at this
      exact UInt8.toNat_inj.1 (by omega)
/-- A cell of it. -/
theorem Bytes.cell {F : Nat → Prop} {w : World} {v : Value} {l : List UInt8} (h : Bytes F w v l) (hne : l ≠ []) : ∃ g off cap, v = .slice (some ⟨g, off, none⟩) l.length cap ∧ F g ∧ l.length ≤ cap ∧ cap ≤ maxLen ∧
    (∀ i c, l[i]? = some c → w.cell? ⟨g, off + i, none⟩ = some (.int .u8 (c.toNat : Int))) := by
  rcases h with ⟨rfl, rfl⟩ | ⟨g, off, cap, cs, fz, rfl, hF, hb, h1, h2, h3, h4⟩
  · exact absurd rfl hne
  · exact ⟨g, off, cap, rfl, hF, h1, h2, fun i c hc => cell_at hb (h4 i c hc)⟩

/-- Files: names and bytes. -/
abbrev FS := List (ByteArray × List UInt8)
def fget (fs : FS) (n : ByteArray) : Option (List UInt8) := (fs.find? (fun p => p.1 = n)).map (·.2)
def fdel (fs : FS) (n : ByteArray) : FS := fs.filter (fun p => p.1 ≠ n)
/-- Go's order on texts. -/
def blt (a b : ByteArray) : Bool := Op.bytesLess a.toList b.toList
def fins : FS → ByteArray × List UInt8 → FS
  | [], f => [f]
  | x :: l, f => if blt f.1 x.1 then f :: x :: l else x :: fins l f
def fput (fs : FS) (n : ByteArray) (b : List UInt8) : FS := fins (fdel fs n) (n, b)

def FNodup (fs : FS) : Prop := (fs.map (·.1)).Nodup

theorem fins_perm (f : ByteArray × List UInt8) : ∀ fs : FS, (fins fs f).Perm (f :: fs)
  | [] => List.Perm.refl _
  | x :: l => by
    unfold fins
    split
    · exact List.Perm.refl _
    · exact (List.Perm.cons x (fins_perm f l)).trans (List.Perm.swap f x l)
theorem fdel_not_mem (fs : FS) (n : ByteArray) : n ∉ (fdel fs n).map (·.1) := by
  simp [fdel]
theorem FNodup.fdel {fs : FS} (h : FNodup fs) (n : ByteArray) : FNodup (fdel fs n) := by
  unfold FNodup at *
  exact h.sublist (List.Sublist.map _ List.filter_sublist)
theorem FNodup.fins {fs : FS} (h : FNodup fs) {f : ByteArray × List UInt8} (hn : f.1 ∉ fs.map (·.1)) : FNodup (fins fs f) := by
  unfold FNodup at *
  exact ((fins_perm f fs).map (·.1)).nodup_iff.2 (List.nodup_cons.2 ⟨hn, h⟩)
theorem FNodup.fput {fs : FS} (h : FNodup fs) (n : ByteArray) (b : List UInt8) : FNodup (fput fs n b) :=
  (h.fdel n).fins (fdel_not_mem fs n)
end Go.Proofs.Ytlinkpjneehnbaa
