/- A part of the proof. -/
import Derived.Test.YtddnikpdmjogiaaGreatYa4
namespace Go.Proofs.YtddnikpdmjogiaaGreat
open Go.RowKit Go.MapKept
theorem bytesLess_trans : ∀ {a b c : List UInt8}, Op.bytesLess a b = true → Op.bytesLess b c = true → Op.bytesLess a c = true
 | [], [], _, h, _ => by simp [Op.bytesLess] at h
 | [], _ :: _, [], _, h => by simp [Op.bytesLess] at h
 | [], _ :: _, _ :: _, _, _ => rfl
 | _ :: _, [], _, h, _ => by simp [Op.bytesLess] at h
 | _ :: _, _ :: _, [], _, h => by simp [Op.bytesLess] at h
 | x :: a, y :: b, z :: c, h, k => by
  simp only [Op.bytesLess, Bool.or_eq_true, Bool.and_eq_true, decide_eq_true_eq, beq_iff_eq] at h k ⊢
  rcases h with h | ⟨rfl, h⟩
  ·rcases k with k | ⟨rfl, k⟩
   ·exact .inl (UInt8.lt_trans h k)
   ·exact .inl h
  ·rcases k with k | ⟨rfl, k⟩
   ·exact .inl k
   ·exact .inr ⟨rfl, bytesLess_trans h k⟩
theorem bytesLess_irrefl : ∀ (a : List UInt8), Op.bytesLess a a = false
 | [] => rfl
 | x :: a => by
  simp [Op.bytesLess, bytesLess_irrefl a]
theorem bytesLess_total : ∀ {a b : List UInt8}, Op.bytesLess a b = false → a ≠ b → Op.bytesLess b a = true
 | [], [], _, h => absurd rfl h
 | [], _ :: _, h, _ => by simp [Op.bytesLess] at h
 | _ :: _, [], _, _ => rfl
 | x :: a, y :: b, h, k => by
  simp only [Op.bytesLess, Bool.or_eq_false_iff, Bool.and_eq_false_iff, decide_eq_false_iff_not, beq_eq_false_iff_ne, Bool.or_eq_true, Bool.and_eq_true, decide_eq_true_eq, beq_iff_eq] at h ⊢
  by_cases e : x = y
  ·subst e
   refine .inr ⟨rfl, bytesLess_total ?_ (fun e => k (by rw [e]))⟩
   rcases h.2 with h | h
   ·exact absurd rfl h
   ·exact h
  ·rcases UInt8.lt_or_lt_of_ne e with h2 | h2
   ·exact absurd h2 h.1
   ·exact .inl h2
theorem toList_inj {a b : ByteArray} (h : a.toList = b.toList) : a = b := by
 have := (bytes_beq a b).1 (by rw [beq_toListBytes, h]; simp)
 exact this
theorem blt_trans {a b c : ByteArray} (h : blt a b = true) (k : blt b c = true) : blt a c = true := bytesLess_trans h k
theorem blt_irrefl (a : ByteArray) : blt a a = false := bytesLess_irrefl _
theorem blt_total {a b : ByteArray} (h : blt a b = false) (k : a ≠ b) : blt b a = true := bytesLess_total h (fun e => k (toList_inj e))
def FSorted (fs : FS) : Prop := fs.Pairwise (fun x y => blt x.1 y.1 = true)
theorem FSorted.nil : FSorted [] := List.Pairwise.nil
theorem FSorted.fdel {fs : FS} (h : FSorted fs) (n : ByteArray) : FSorted (fdel fs n) := h.sublist List.filter_sublist
theorem FSorted.nodup {fs : FS} (h : FSorted fs) : FNodup fs := by
 unfold FNodup
 rw [List.Nodup, List.pairwise_map]
 exact List.Pairwise.imp (fun {x y} hxy e => by rw [e, blt_irrefl] at hxy; cases hxy) h
theorem fins_cons (x : ByteArray × List UInt8) (l : FS) (f : ByteArray × List UInt8) : fins (x :: l) f = if blt f.1 x.1 then f :: x :: l else x :: fins l f := rfl
theorem FSorted.fins : ∀ {fs : FS}, FSorted fs → ∀ {f : ByteArray × List UInt8}, f.1 ∉ fs.map (·.1) → FSorted (fins fs f)
 | [], _, f, _ => List.pairwise_singleton _ _
 | x :: l, h, f, hn => by
  have h' := List.pairwise_cons.1 h
  rw [fins_cons]
  have hn2 : f.1 ≠ x.1 ∧ f.1 ∉ l.map (·.1) := by
   rw [List.map_cons, List.mem_cons] at hn
   exact ⟨fun e => hn (.inl e), fun e => hn (.inr e)⟩
  cases hb : blt f.1 x.1 with
  | true =>
   rw [if_pos rfl]
   exact List.pairwise_cons.2 ⟨fun y hy => by
    rcases List.mem_cons.1 hy with rfl | hy
    ·exact hb
    ·exact blt_trans hb (h'.1 y hy), h⟩
  | false =>
   rw [if_neg (by simp)]
   refine List.pairwise_cons.2 ⟨fun y hy => ?_, FSorted.fins h'.2 hn2.2⟩
   rcases List.mem_cons.1 ((fins_perm f l).mem_iff.1 hy) with rfl | hy
   ·exact blt_total hb hn2.1
   ·exact h'.1 y hy
theorem FSorted.fput {fs : FS} (h : FSorted fs) (n : ByteArray) (b : List UInt8) : FSorted (fput fs n b) := (h.fdel n).fins (fdel_not_mem fs n)
theorem fdel_cons (x : ByteArray × List UInt8) (l : FS) (n : ByteArray) : fdel (x :: l) n = if x.1 = n then fdel l n else x :: fdel l n := by
 unfold fdel
 rw [List.filter_cons]
 by_cases h : x.1 = n <;> simp [h]
theorem fins_ahead {l : FS} {f : ByteArray × List UInt8} (h : ∀ y ∈ l, blt f.1 y.1 = true) : fins l f = f :: l := by
 cases l with
 | nil => rfl
 | cons y l => rw [fins_cons, if_pos (h y (List.mem_cons_self ..))]
theorem fdel_fins {f : ByteArray × List UInt8} {n : ByteArray} (hne : f.1 ≠ n) : ∀ {l : FS}, FSorted l → fdel (fins l f) n = fins (fdel l n) f
 | [], _ => by simp [fins, fdel, hne]
 | x :: l, h => by
  have h' := List.pairwise_cons.1 h
  rw [fdel_cons, fins_cons]
  cases hb : blt f.1 x.1 with
  | true =>
   rw [if_pos rfl]
   rw [fdel_cons, if_neg hne, fdel_cons]
   split
   ·exact (fins_ahead (fun y hy => blt_trans hb (h'.1 y (List.mem_filter.1 hy).1))).symm
   ·rw [fins_cons, hb, if_pos rfl]
  | false =>
   rw [if_neg (by simp)]
   rw [fdel_cons]
   split
   ·exact fdel_fins hne h'.2
   ·rw [fins_cons, hb, if_neg (by simp), fdel_fins hne h'.2]
theorem fdel_comm (l : FS) (a b : ByteArray) : fdel (fdel l a) b = fdel (fdel l b) a := by
 unfold fdel
 rw [List.filter_filter, List.filter_filter]
 congr 1
 funext p
 exact Bool.and_comm _ _
theorem fdel_twice (l : FS) (a : ByteArray) : fdel (fdel l a) a = fdel l a := by
 unfold fdel
 rw [List.filter_filter]
 congr 1
 funext p
 simp
def rdoCh (fs : FS) (c : Ch) : FS :=
 if c.kind = 0 then fins fs (c.a, [])
 else if c.kind = 1 then fins (fdel fs c.a) (c.a, (fget fs c.a).getD [] ++ c.p)
 else if c.kind = 2 then fdel fs c.a
 else fins (fdel (fdel fs c.a) c.b) (c.b, (fget fs c.a).getD [])
def May (fs : FS) (c : Ch) : Prop := (0 ≤ c.kind ∧ c.kind ≤ 3) ∧ (c.kind = 0 → fget fs c.a = none) ∧ (c.kind ≠ 0 → (fget fs c.a).isSome = true)
theorem fget_none_mem {fs : FS} {n : ByteArray} (h : fget fs n = none) : n ∉ fs.map (·.1) := by
 intro hm
 obtain ⟨p, hp, rfl⟩ := List.mem_map.1 hm
 unfold fget at h
 rw [Option.map_eq_none_iff, List.find?_eq_none] at h
 exact h p hp (by simp)
theorem rdo_do {fs : FS} (hs : FSorted fs) {c : Ch} (h : May fs c) : rdoCh fs c = doCh fs c := by
 obtain ⟨⟨h0, h3⟩, h1, h2⟩ := h
 unfold rdoCh doCh
 by_cases k0 : c.kind = 0
 ·rw [if_pos k0, if_pos k0]
  unfold fput
  rw [fdel_absent (fget_none_mem (h1 k0))]
 rw [if_neg k0, if_neg k0]
 by_cases k1 : c.kind = 1
 ·rw [if_pos k1, if_pos k1]; rfl
 rw [if_neg k1, if_neg k1]
 by_cases k2 : c.kind = 2
 ·rw [if_pos k2, if_pos k2]
 rw [if_neg k2, if_neg k2, if_pos (by omega)]
 by_cases e : c.a = c.b
 ·rw [if_pos e, e, fdel_twice]; rfl
 ·rw [if_neg e]
  unfold fput
  rw [fdel_fins (fun e' => e e'.symm) (hs.fdel _), fdel_comm]
theorem FSorted.doCh {fs : FS} (h : FSorted fs) (c : Ch) : FSorted (doCh fs c) := by
 unfold Go.Proofs.YtddnikpdmjogiaaGreat.doCh
 split
 ·exact h.fput _ _
 ·split
  ·exact h.fput _ _
  ·split
   ·exact h.fdel _
   ·split
    ·split
     ·exact h.fput _ _
     ·exact (h.fput _ _).fdel _
    ·exact h
theorem FSorted.fold : ∀ (l : List Ch) {fs : FS}, FSorted fs → FSorted (l.foldl Go.Proofs.YtddnikpdmjogiaaGreat.doCh fs)
 | [], _, h => h
 | c :: l, _, h => FSorted.fold l (h.doCh c)
def findOf (fs : FS) (n : ByteArray) : Option Nat := fs.findIdx? (fun p => p.1 = n)
theorem findOf_some {fs : FS} {n : ByteArray} {i : Nat} (h : findOf fs n = some i) : ∃ x, fs[i]? = some (n, x) ∧ fget fs n = some x := by
 unfold findOf at h
 rw [List.findIdx?_eq_some_iff_getElem] at h
 obtain ⟨hi, h1, h2⟩ := h
 simp at h1
 refine ⟨fs[i].2, by rw [List.getElem?_eq_getElem hi, ← h1], ?_⟩
 unfold fget
 rw [List.find?_eq_some_iff_getElem.2 ⟨by simpa using h1, i, hi, rfl, fun j hj => by simpa using h2 j hj⟩]
 rfl
theorem findOf_none {fs : FS} {n : ByteArray} : findOf fs n = none ↔ fget fs n = none := by
 unfold findOf fget
 rw [List.findIdx?_eq_none_iff, Option.map_eq_none_iff, List.find?_eq_none]
 constructor <;> intro h x hx <;> have := h x hx <;> simpa using this
def findI (fs : FS) (n : ByteArray) : Int := match findOf fs n with | some i => (i : Int) | none => -1
theorem findI_here {fs : FS} {n : ByteArray} {k : Nat} {p : ByteArray × List UInt8} (hp : fs[k]? = some p) (hne : ∀ (j : Nat) (q : ByteArray × List UInt8), j < k → fs[j]? = some q → q.1 ≠ n) (he : p.1 = n) : findI fs n = k := by
 obtain ⟨hk, rfl⟩ := List.getElem?_eq_some_iff.1 hp
 have : findOf fs n = some k := by
  unfold findOf
  rw [List.findIdx?_eq_some_iff_getElem]
  exact ⟨hk, by simpa using he, fun j hj => by
   have := hne j fs[j] hj (List.getElem?_eq_getElem (by omega))
   simpa using this⟩
 unfold findI
 rw [this]
theorem findI_none {fs : FS} {n : ByteArray} (hne : ∀ (j : Nat) (q : ByteArray × List UInt8), fs[j]? = some q → q.1 ≠ n) : findI fs n = -1 := by
 have : findOf fs n = none := by
  unfold findOf
  rw [List.findIdx?_eq_none_iff]
  intro x hx
  obtain ⟨j, hj⟩ := List.mem_iff_getElem?.1 hx
  have := hne j x hj
  simpa using this
 unfold findI
 rw [this]
theorem findI_neg (fs : FS) (n : ByteArray) : (findI fs n < 0) = (fget fs n = none) := by
 rw [← findOf_none]
 unfold findI
 cases findOf fs n with
 | none => simp
 | some i => simp
theorem findI_lt (fs : FS) (n : ByteArray) : findI fs n < (fs.length : Int) ∧ -1 ≤ findI fs n := by
 unfold findI
 cases h : findOf fs n with
 | none => simp only; omega
 | some i =>
  obtain ⟨x, hx, _⟩ := findOf_some h
  have := (List.getElem?_eq_some_iff.1 hx).1
  simp only; omega
theorem findI_get {fs : FS} {n : ByteArray} (h : (fget fs n).isSome = true) : ∃ (i : Nat), findI fs n = i ∧ fs[i]? = some (n, (fget fs n).getD []) := by
 cases hf : findOf fs n with
 | none => rw [findOf_none] at hf; rw [hf] at h; cases h
 | some i =>
  obtain ⟨x, hx, hg⟩ := findOf_some hf
  refine ⟨i, by unfold findI; rw [hf], by rw [hg]; exact hx⟩
theorem fins_step {l : FS} {f : ByteArray × List UInt8} {k : Nat} {p : ByteArray × List UInt8} (hp : l[k]? = some p) (out : FS) (h : fins l f = out ++ fins (l.drop k) f) :
  fins l f = if blt f.1 p.1 then (out ++ [f] ++ [p]) ++ l.drop (k + 1) else (out ++ [p]) ++ fins (l.drop (k + 1)) f := by
 obtain ⟨hk, rfl⟩ := List.getElem?_eq_some_iff.1 hp
 rw [h, List.drop_eq_getElem_cons hk, fins_cons]
 split <;> simp
theorem drop_step {l out : FS} {k : Nat} {p : ByteArray × List UInt8} (hp : l[k]? = some p) {r : FS} (h : r = out ++ l.drop k) : r = (out ++ [p]) ++ l.drop (k + 1) := by
 obtain ⟨hk, rfl⟩ := List.getElem?_eq_some_iff.1 hp
 rw [h, List.drop_eq_getElem_cons hk]; simp
theorem fdel_step {l out : FS} {n : ByteArray} {k : Nat} {p : ByteArray × List UInt8} (hp : l[k]? = some p) (h : fdel l n = out ++ fdel (l.drop k) n) :
  fdel l n = (if p.1 = n then out else out ++ [p]) ++ fdel (l.drop (k + 1)) n := by
 obtain ⟨hk, rfl⟩ := List.getElem?_eq_some_iff.1 hp
 rw [h, List.drop_eq_getElem_cons hk, fdel_cons]
 split <;> simp
theorem used_step {l : FS} {k : Nat} {p : ByteArray × List UInt8} (hp : l[k]? = some p) : used (l.take (k + 1)) = used (l.take k) + p.2.length := by
 induction l generalizing k with
 | nil => simp at hp
 | cons x l ih =>
  cases k with
  | zero => simp at hp; subst hp; simp [used]
  | succ k =>
   have := ih (k := k) (by simpa using hp)
   simp only [List.take_succ_cons, used, this]
   omega
theorem used_take_le (l : FS) : ∀ (k : Nat), used (l.take k) ≤ used l := by
 induction l with
 | nil => intro k; simp [used]
 | cons x l ih =>
  intro k
  cases k with
  | zero => simp [used]
  | succ k =>
   have := ih k
   simp only [List.take_succ_cons, used]
   omega
set_option linter.unusedVariables false
def fileCells : List Value → FS → List Value
 | p :: ps, f :: fs => .string f.1 :: p :: fileCells ps fs
 | _, _ => []
theorem fileCells_snoc : ∀ (ps : List Value) (fs : FS) (p : Value) (f : ByteArray × List UInt8), ps.length = fs.length → fileCells (ps ++ [p]) (fs ++ [f]) = fileCells ps fs ++ [.string f.1, p]
 | [], [], _, _, _ => rfl
 | q :: ps, g :: fs, p, f, h => by simp [fileCells, fileCells_snoc ps fs p f (by simpa using h)]
 | [], _ :: _, _, _, h => by simp at h
 | _ :: _, [], _, _, h => by simp at h
theorem fileCells_get : ∀ {ps : List Value} {fs : FS} (i : Nat) {p : Value} {f : ByteArray × List UInt8}, ps[i]? = some p → fs[i]? = some f → (fileCells ps fs)[i * 2]? = some (.string f.1) ∧ (fileCells ps fs)[i * 2 + 1]? = some p
 | q :: ps, g :: fs, 0, p, f, hp, hf => by
  simp at hp hf; subst hp; subst hf
  exact ⟨rfl, rfl⟩
 | q :: ps, g :: fs, i + 1, p, f, hp, hf => by
  have := fileCells_get (ps := ps) (fs := fs) i (by simpa using hp) (by simpa using hf)
  rw [show (i + 1) * 2 = i * 2 + 1 + 1 by omega]
  simpa [fileCells] using this
 | [], _, i, _, _, hp, _ => by simp at hp
 | _ :: _, [], i, _, _, _, hf => by simp at hf
def FilesAt (F : Nat → Prop) (w : World) (v : Value) (fs : FS) : Prop :=
 ∃ ps : List Value, Rel2 (fun p f => Bytes F w p f.2) ps fs ∧ w.ownsRow 0 148 2 v fs.length (fileCells ps fs) ∧ ∀ b, v.ownBlock = some b → F b
theorem rrow_keep {w w' : World} {base e n size : Nat} {v : Value} {xs : List Value} (h : w.ownsRow base e size v n xs) (hr : ∀ b, v.ownBlock = some b → w'.heap[b]? = w.heap[b]?) : w'.ownsRow base e size v n xs := by
 obtain ⟨h1, h2⟩ := h
 refine ⟨h1, h2.imp id ?_⟩
 rintro ⟨g, cap, cur, rfl, hg, hb, rest⟩
 exact ⟨g, cap, cur, rfl, hg, (hr g rfl).trans hb, rest⟩
theorem FilesAt.nil (F : Nat → Prop) (w : World) : FilesAt F w (.slice none 0 0) [] := ⟨[], trivial, ⟨rfl, .inl ⟨rfl, rfl⟩⟩, fun b hb => by cases hb⟩
theorem FilesAt.keep {F G : Nat → Prop} {w w' : World} {v : Value} {fs : FS} (h : FilesAt F w v fs) (hk : KeepU8 F w w') (hr : ∀ b, v.ownBlock = some b → w'.heap[b]? = w.heap[b]?) (hFG : ∀ b, F b → b < w.heap.size → G b) : FilesAt G w' v fs := by
 obtain ⟨ps, h1, h2, h3⟩ := h
 exact ⟨ps, h1.mono (fun p c hpc => hpc.keep hk hFG), rrow_keep h2 hr, fun b hb => hFG b (h3 b hb) (h2.lt b hb).2⟩
theorem FilesAt.same {F : Nat → Prop} {w w' : World} {v : Value} {fs : FS} (h : FilesAt F w v fs) (hk : ∀ b, F b → w'.heap[b]? = w.heap[b]?) : FilesAt F w' v fs := by
 obtain ⟨ps, h1, h2, h3⟩ := h
 exact FilesAt.keep ⟨ps, h1, h2, h3⟩ (fun g cs fz hF hb => (hk g hF).trans hb) (fun b hb => hk b (h3 b hb)) (fun _ h _ => h)
theorem FilesAt.quiet {F G : Nat → Prop} {w w' : World} {v : Value} {fs : FS} (h : FilesAt F w v fs) (hk : Keeps (fun _ => False) w w') (hFG : ∀ b, F b → b < w.heap.size → G b) : FilesAt G w' v fs := by
 obtain ⟨ps, h1, h2, h3⟩ := h
 exact FilesAt.keep ⟨ps, h1, h2, h3⟩ (KeepU8.of_none hk) (fun b hb => hk.block b (h2.lt b hb).2 (fun e => e)) hFG
theorem FilesAt.form {F : Nat → Prop} {w : World} {v : Value} {fs : FS} (h : FilesAt F w v fs) : ∃ a c, v = .slice a fs.length c ∧ fs.length ≤ c ∧ c ≤ maxLen := by
 obtain ⟨ps, h1, h2, h3⟩ := h
 rcases h2.2 with ⟨rfl, e⟩ | ⟨g, cap, cur, rfl, _, _, h4, h5, _⟩
 ·rw [e]; exact ⟨none, 0, rfl, Nat.le_refl _, Nat.zero_le _⟩
 ·exact ⟨_, cap, rfl, h4, h5⟩
theorem FilesAt.cell {F : Nat → Prop} {w : World} {v : Value} {fs : FS} (h : FilesAt F w v fs) {i : Nat} {f : ByteArray × List UInt8} (hf : fs[i]? = some f) :
  ∃ g cap p, v = .slice (some ⟨g, 0, none⟩) fs.length cap ∧ w.cell? ⟨g, i * 2, none⟩ = some (.string f.1) ∧ w.cell? ⟨g, i * 2 + 1, none⟩ = some p ∧ Bytes F w p f.2 := by
 obtain ⟨ps, h1, h2, h3⟩ := h
 obtain ⟨p, hp, hB⟩ := h1.get' hf
 have hc := fileCells_get i hp hf
 rcases h2.2 with ⟨rfl, e⟩ | ⟨g, cap, cur, rfl, _, hb, _⟩
 ·have := (List.getElem?_eq_some_iff.1 hf).1; omega
 ·refine ⟨g, cap, p, rfl, ?_, ?_, hB⟩
  ·have := h2.cells (g := g) rfl (i * 2) _ hc.1
   simpa [Addr.add_lit] using this
  ·have := h2.cells (g := g) rfl (i * 2 + 1) _ hc.2
   simpa [Addr.add_lit] using this
def OutAt (base : Nat) (F : Nat → Prop) (w : World) (v : Value) (fs : FS) : Prop :=
 ∃ ps : List Value, Rel2 (fun p f => Bytes F w p f.2) ps fs ∧ w.ownsRow base 148 2 v fs.length (fileCells ps fs)
theorem OutAt.nil (base : Nat) (F : Nat → Prop) (w : World) : OutAt base F w (.slice none 0 0) [] := ⟨[], trivial, ⟨rfl, .inl ⟨rfl, rfl⟩⟩⟩
theorem OutAt.keep {base : Nat} {F : Nat → Prop} {w w' : World} {v : Value} {fs : FS} (h : OutAt base F w v fs) (hk : Keeps (fun _ => False) w w') : OutAt base F w' v fs := by
 obtain ⟨ps, h1, h2⟩ := h
 exact ⟨ps, h1.mono (fun p c hpc => hpc.keep (KeepU8.of_none hk) (fun _ h _ => h)), rrow_keep h2 (fun b hb => hk.block b (h2.lt b hb).2 (fun e => e))⟩
theorem OutAt.form {base : Nat} {F : Nat → Prop} {w : World} {v : Value} {fs : FS} (h : OutAt base F w v fs) : ∃ a c, v = .slice a fs.length c := by
 obtain ⟨ps, h1, h2⟩ := h
 exact ownsRow_slice h2
theorem ownsRow_base0 {w : World} {base e n size : Nat} {v : Value} {xs : List Value} (h : w.ownsRow base e size v n xs) {base' : Nat} (hb : base' ≤ base) : w.ownsRow base' e size v n xs := by
 obtain ⟨h1, h2⟩ := h
 refine ⟨h1, h2.imp id ?_⟩
 rintro ⟨g, cap, cur, rfl, hg, h3⟩
 exact ⟨g, cap, cur, rfl, by omega, h3⟩
theorem OutAt.base {base base' : Nat} {F : Nat → Prop} {w : World} {v : Value} {fs : FS} (h : OutAt base F w v fs) (hb : base' ≤ base) : OutAt base' F w v fs := by
 obtain ⟨ps, h1, h2⟩ := h
 exact ⟨ps, h1, ownsRow_base0 h2 hb⟩
theorem OutAt.files {base : Nat} {F G : Nat → Prop} {w : World} {v : Value} {fs : FS} (h : OutAt base F w v fs) (hF : ∀ b, F b → b < w.heap.size → G b) (hb : ∀ b, base ≤ b → b < w.heap.size → G b) : FilesAt G w v fs := by
 obtain ⟨ps, h1, h2⟩ := h
 exact ⟨ps, h1.mono (fun p c hpc => hpc.keep (KeepU8.refl _ _) hF), ownsRow_base0 h2 (Nat.zero_le _), fun b hb' => hb b (h2.lt b hb').1 (h2.lt b hb').2⟩
theorem info_rfile : (Tryz.prog.info? 148).map (fun i => (i.zero, i.size, i.bytes)) = some (some (.agg #[.string ⟨#[]⟩, .slice none 0 0]), 2, 40) := by kernel_rfl
theorem OutAt.push {base : Nat} {F : Nat → Prop} {w : World} {v p : Value} {fs : FS} {n : ByteArray} {l : List UInt8} (h : OutAt base F w v fs) (hz : base ≤ w.heap.size) (hp : Bytes F w p l) (hF : ∀ b, F b → b < base) (hb : fs.length < 1099511627776) :
  ∃ a c w', (Builtin.append_ #[89, 89] 89 #[v, .slice (some ⟨w.heap.size, 0, none⟩) 1 1]).run Tryz.prog (w.alloc (.cells #[.string n, p] 148)) = .ok (.slice a (fs.length + 1) c) w' ∧ OutAt base F w' (.slice a (fs.length + 1) c) (fs ++ [(n, l)]) ∧
   Keeps (fun b => v.ownBlock = some b) w w' ∧ ∀ b, v.ownBlock = some b → base ≤ b := by
 obtain ⟨ps, h1, h2⟩ := h
 have hlt := h2.lt
 obtain ⟨i0, hi, hz0, hz1, hz2⟩ := info_parts info_rfile
 have hp1 : p.oneCell' = true := by obtain ⟨a, c, rfl, _⟩ := hp.form; rfl
 obtain ⟨v', w', hrun, ho2, hg, _, hat⟩ := run_append_own_at (P := Tryz.prog) (w.alloc (.cells #[.string n, p] 148)) base 89 89 148 i0 _ 2 40 Tryz.underlying89 hi hz0 hz1 hz2 rfl (by omega) v fs.length (fileCells ps fs) (h2.alloc _) ⟨w.heap.size, 0, none⟩ 1 1 [.string n, p] rfl
  (fun j u hu => by
   rw [Addr.add_lit, Nat.zero_add]
   exact cell_at (heap_alloc_new w _) (by simpa using hu))
  (by intro u hu; simp at hu; rcases hu with rfl | rfl; rfl; exact hp1) (by unfold maxLen; omega) (by omega) (by simp only [World.size_alloc]; omega)
 obtain ⟨a, c, rfl⟩ := ownsRow_slice ho2
 have hk : Keeps (fun b => v.ownBlock = some b) w w' := ((Keeps.refl _ w).alloc _).trans (Keeps.of_grown hg) (fun _ _ h => h)
 have hku : KeepU8 F w w' := KeepU8.of_keeps hk (fun g cs fz hg he => by have := hF g hg; have := (hlt g he).1; omega)
 refine ⟨a, c, w', hrun, ⟨ps ++ [p], ?_, ?_⟩, hk, fun b hb => (hlt b hb).1⟩
 ·exact (h1.mono (fun q f hq => hq.keep hku (fun _ h _ => h))).append ⟨hp.keep hku (fun _ h _ => h), trivial⟩
 ·rw [fileCells_snoc _ _ _ _ h1.length, List.length_append]
  exact ho2
def FPost (F : Nat → Prop) (w : World) (fs : FS) (e : Ending) (w' : World) : Prop := ∃ v, e = .returned v ∧ FilesAt (Ext F w w') w' v fs ∧ Keeps (fun _ => False) w w'
theorem FPost.mk {F : Nat → Prop} {w w' : World} {v : Value} {fs : FS} (h : OutAt w.heap.size F w' v fs) (hk : Keeps (fun _ => False) w w') : FPost F w fs (.returned v) w' :=
 ⟨v, rfl, h.files (fun b hb _ => .inl hb) (fun b h1 h2 => .inr ⟨h1, h2⟩), hk⟩
set_option maxRecDepth 100000 in
theorem rfind_runs {F : Nat → Prop} {w : World} {v : Value} {fs : FS} (h : FilesAt F w v fs) (n : ByteArray) (hb : fs.length < 1099511627776) : Runs 67 #[v, .string n] w (.int .i64 (findI fs n)) w := by
 unfold Runs
 obtain ⟨a, c, rfl, hlc, hcm⟩ := h.form
 have H := hyd h
 have i1 : (fs.length : Int) ≤ 1099511627776 := by omega
 clear h
 go_enter Tryz.func67, Tryz.ntmps67
 go_wp2_with fail
 go_loopw [5] (fun i wx => ∃ k : Nat, k ≤ fs.length ∧ i = .int .i64 (k : Int) ∧ wx = w ∧ ∀ j q, j < k → fs[j]? = some q → q.1 ≠ n) (fun i _ => fs.length - (intOf i).toNat)
 case atStart => exact ⟨0, Nat.zero_le _, rfl, rfl, fun j q hj => by omega⟩
 case round =>
  obtain ⟨k, hk, rfl, rfl, hno⟩ := hrel
  have j0 : (0 : Int) ≤ k := by omega
  by_cases hlt : k < fs.length
  ·obtain ⟨f, hf⟩ : ∃ f, fs[k]? = some f := ⟨fs[k], List.getElem?_eq_getElem hlt⟩
   obtain ⟨g, cap, p, e, hc1, hc2, _⟩ := H.out.cell hf
   simp only [Value.slice.injEq] at e
   obtain ⟨rfl, -, rfl⟩ := e
   have j1 : (k : Int) < fs.length := by omega
   by_cases he : f.1 = n
   ·have hfin := findI_here hf hno he
    have HF := hyd hfin
    have hq : (f.1.toList == n.toList) = true := by rw [he]; simp
    clear hfin hno hf he hlt
    go_wp2_with fail
    go_ret
    exact ⟨by rw [HF.out]; rfl, rfl⟩
   ·have hno2 : ∀ j q, j < k + 1 → fs[j]? = some q → q.1 ≠ n := fun j q hj hq => by
     by_cases e : j = k
     ·subst e; rw [hf] at hq; cases hq; exact he
     ·exact hno j q (by omega) hq
    have HN := hyd hno2
    have hq : (f.1.toList == n.toList) = false := by
     rw [Bool.eq_false_iff]; intro hc
     exact he (toList_inj (by simpa using hc))
    clear hno2 hno hf he
    go_wp2_with fail
    go_roundw
    case rel => exact ⟨k + 1, by omega, rfl, trivial, HN.out⟩
    case measure => simp [intOf]; omega
  ·obtain rfl : k = fs.length := by omega
   have hfin : findI fs n = -1 := findI_none (fun j q hq => hno j q (List.getElem?_eq_some_iff.1 hq).1 hq)
   have HF := hyd hfin
   clear hfin hno
   go_wp2_with fail
   go_ret
   exact ⟨by rw [HF.out]; rfl, rfl⟩
set_option maxRecDepth 100000 in
theorem rused_runs {F : Nat → Prop} {w : World} {v : Value} {fs : FS} (h : FilesAt F w v fs) (hb : fs.length < 1099511627776) (hu : used fs ≤ 4611686018427387904) : Runs 71 #[v] w (.int .i64 (used fs : Int)) w := by
 unfold Runs
 obtain ⟨a, c, rfl, hlc, hcm⟩ := h.form
 have H := hyd h
 have i1 : (fs.length : Int) ≤ 1099511627776 := by omega
 have i2 : (used fs : Int) ≤ 4611686018427387904 := by omega
 clear h hu
 go_enter Tryz.func71, Tryz.ntmps71
 go_wp2_with fail
 go_loopw [3, 4] (fun n i wx => ∃ k : Nat, k ≤ fs.length ∧ i = .int .i64 (k : Int) ∧ n = .int .i64 (used (fs.take k) : Int) ∧ wx = w) (fun _ i _ => fs.length - (intOf i).toNat)
 case atStart => exact ⟨0, Nat.zero_le _, rfl, rfl, rfl⟩
 case round =>
  obtain ⟨k, hk, rfl, rfl, rfl⟩ := hrel
  have j0 : (0 : Int) ≤ k := by omega
  by_cases hlt : k < fs.length
  ·obtain ⟨f, hf⟩ : ∃ f, fs[k]? = some f := ⟨fs[k], List.getElem?_eq_getElem hlt⟩
   obtain ⟨g, cap, p, e, hc1, hc2, hB⟩ := H.out.cell hf
   simp only [Value.slice.injEq] at e
   obtain ⟨rfl, -, rfl⟩ := e
   obtain ⟨pa, pc, rfl, _, _⟩ := hB.form
   have hst := used_step hf
   have hle := used_take_le fs (k + 1)
   have j1 : (k : Int) < fs.length := by omega
   have j2 : (used (fs.take k) : Int) + (f.2.length : Int) ≤ 4611686018427387904 := by omega
   have j3 : (0 : Int) ≤ (used (fs.take k) : Int) := by omega
   have j4 : (0 : Int) ≤ (f.2.length : Int) := by omega
   have HS := hyd hst
   generalize used (fs.take k) = t at j2 j3 HS
   clear hst hle hB hf
   go_wp2_with fail
   go_roundw
   case rel => exact ⟨k + 1, by omega, rfl, by rw [HS.out]; rfl, trivial⟩
   case measure => simp [intOf]; omega
  ·obtain rfl : k = fs.length := by omega
   rw [List.take_length]
   go_wp2_with fail
   go_ret
   exact ⟨rfl, rfl⟩
theorem risname_runs (s : ByteArray) (w : World) : Runs 86 #[.string s] w (.bool (isName s)) w := by
 have e : isName s = (decide ((1 : Int) ≤ (s.size : Int)) && decide ((s.size : Int) ≤ 160)) := by
  unfold isName
  congr 1
  rw [Bool.eq_iff_iff]
  have : s.toList.length = s.size := by rw [ByteArray.toList_eq, Array.length_toList]; rfl
  cases hl : s.toList with
  | nil => rw [hl] at this; simp at this ⊢; omega
  | cons x l => rw [hl] at this; simp at this ⊢; omega
 rw [e]
 unfold Runs
 have i0 : (0 : Int) ≤ (s.size : Int) := by omega
 generalize hx : decide ((1 : Int) ≤ (s.size : Int)) = x
 generalize hy : decide ((s.size : Int) ≤ 160) = y
 go_enter Tryz.func86, Tryz.ntmps86
 cases x <;> cases y
 all_goals go_wp2
 all_goals go_ret
 all_goals exact ⟨by simp, rfl⟩
set_option maxRecDepth 100000 in
set_option maxHeartbeats 1000000 in
theorem rwithout_calls {F : Nat → Prop} {w : World} {v : Value} {fs : FS} (h : FilesAt F w v fs) (hF : ∀ b, F b → b < w.heap.size) (n : ByteArray) (hb : fs.length < 1099511627776) : Calls Tryz.prog 148 #[v, .string n] w (FPost F w (fdel fs n)) := by
 obtain ⟨a, c, rfl, hlc, hcm⟩ := h.form
 have H := hyd h
 have HF := hyd hF
 have i1 : (fs.length : Int) ≤ 1099511627776 := by omega
 clear h hF
 go_enter Tryz.func148, Tryz.ntmps148
 go_wp2_with fail
 go_loopw [5, 6] (fun ov i wx => ∃ (k : Nat) (out : FS), k ≤ fs.length ∧ i = .int .i64 (k : Int) ∧ out.length ≤ k ∧ fdel fs n = out ++ fdel (fs.drop k) n ∧ OutAt w.heap.size F wx ov out ∧ Keeps (fun _ => False) w wx) (fun _ i _ => fs.length - (intOf i).toNat)
 case atStart => exact ⟨0, [], Nat.zero_le _, rfl, Nat.le_refl _, by simp, OutAt.nil _ _ _, Keeps.refl _ _⟩
 case round =>
  obtain ⟨k, out, hk, rfl, hlen, hinv, ho, hq⟩ := hrel
  have j0 : (0 : Int) ≤ k := by omega
  obtain ⟨oa, oc, rfl⟩ := ho.form
  by_cases hlt : k < fs.length
  ·obtain ⟨f, hf⟩ : ∃ f, fs[k]? = some f := ⟨fs[k], List.getElem?_eq_getElem hlt⟩
   obtain ⟨g, cap, p, e, hc1, hc2, hB⟩ := (H.out.quiet hq (G := F) (fun _ h _ => h)).cell hf
   simp only [Value.slice.injEq] at e
   obtain ⟨rfl, -, rfl⟩ := e
   have hst := fdel_step hf hinv
   have j1 : (k : Int) < fs.length := by omega
   by_cases he : f.1 = n
   ·rw [if_pos he] at hst
    have HS := hyd hst
    have HO := hyd ho
    have HQ := hyd hq
    have hqn : (f.1.toList == n.toList) = true := by rw [he]; simp
    clear hst hinv ho hq hf he hB
    go_wp2_with fail
    go_roundw
    case rel => exact ⟨k + 1, out, by omega, rfl, by omega, HS.out, HO.out, HQ.out⟩
    case measure => simp [intOf]; omega
   ·rw [if_neg he] at hst
    have hqn : (f.1.toList == n.toList) = false := by
     rw [Bool.eq_false_iff]; intro hc
     exact he (toList_inj (by simpa using hc))
    obtain ⟨a2, c2, w2, hrun, ho2, hk2, hbase⟩ := ho.push (n := f.1) hq.size hB HF.out (by omega)
    have hq2 := hq.trans hk2 (fun b hb e => by have := hbase b e; omega)
    have HRUN := hyd hrun
    have HREL := hyd (⟨k + 1, out ++ [f], by omega, rfl, by simp; omega, hst, by rw [show (out ++ [f]).length = out.length + 1 by simp]; exact ho2, hq2⟩ : ∃ (k' : Nat) (out' : FS), k' ≤ fs.length ∧ Value.int .i64 ((k + 1 : Nat) : Int) = .int .i64 (k' : Int) ∧ out'.length ≤ k' ∧ fdel fs n = out' ++ fdel (fs.drop k') n ∧ OutAt w.heap.size F w2 (.slice a2 ((out ++ [f]).length) c2) out' ∧ Keeps (fun _ => False) w w2)
    clear hst hinv ho hq hf he hrun ho2 hk2 hq2 hbase
    obtain ⟨pa, pc, rfl, _, _⟩ := hB.form
    clear hB
    go_wp2_with (at_builtin; (first | (refine wpList_append_run (w := wr.alloc (.cells #[.string f.1, .slice pa f.2.length pc] 148)) rfl _ _ _ _ rfl rfl rfl HRUN.out ?_)))
    go_roundw
    case rel => have h := HREL.out; simp only [List.length_append, List.length_cons, List.length_nil, Nat.zero_add] at h; exact h
    case measure => simp [intOf]; omega
  ·obtain rfl : k = fs.length := by omega
   rw [List.drop_length] at hinv
   have hfin : FPost F w (fdel fs n) (.returned (.slice oa out.length oc)) wr := by rw [hinv]; simpa [fdel] using FPost.mk ho hq
   have HFIN := hyd hfin
   clear hfin hinv ho hq
   go_wp2_with fail
   go_ret
   exact HFIN.out
set_option maxRecDepth 100000 in
set_option maxHeartbeats 1000000 in
theorem rwith_calls {F : Nat → Prop} {w : World} {v : Value} {fs : FS} (h : FilesAt F w v fs) (hF : ∀ b, F b → b < w.heap.size) (n : ByteArray) {qv : Value} {l : List UInt8} (hq0 : Bytes F w qv l) (hb : fs.length < 549755813888) : Calls Tryz.prog 147 #[v, .agg #[.string n, qv]] w (FPost F w (fins fs (n, l))) := by
 obtain ⟨a, c, rfl, hlc, hcm⟩ := h.form
 obtain ⟨qa, qc, rfl, _, _⟩ := hq0.form
 obtain ⟨w1, hw1⟩ : ∃ w1, w1 = w.alloc (.cells #[.string n, .slice qa l.length qc] 148) := ⟨_, rfl⟩
 have hk1 : Keeps (fun _ => False) w w1 := by rw [hw1]; exact (Keeps.refl _ w).alloc _
 have hz1 : w1.heap.size = w.heap.size + 1 := by rw [hw1]; simp
 have hbx : w1.heap[w.heap.size]? = some (.cells #[.string n, .slice qa l.length qc] 148 (0, 0)) := by rw [hw1]; exact heap_alloc_new _ _
 have H := hyd (h.quiet hk1 (G := F) (fun _ h _ => h))
 have HQ0 := hyd (hq0.keep (KeepU8.of_none hk1) (G := F) (fun _ h _ => h))
 have HF := hyd (fun b hb => by have := hF b hb; omega : ∀ b, F b → b < w.heap.size + 1)
 have HK1 := hyd hk1
 have i1 : (fs.length : Int) ≤ 549755813888 := by omega
 clear h hF hq0 hk1
 go_enter Tryz.func147, Tryz.ntmps147
 go_wp2_with fail
 rw [← hw1]
 go_loopw [5, 6, 7] (fun ov dv i wx => ∃ (k : Nat) (out : FS) (dn : Bool), k ≤ fs.length ∧ i = .int .i64 (k : Int) ∧ dv = .bool dn ∧ out.length ≤ 2 * k ∧ fins fs (n, l) = out ++ (if dn then fs.drop k else fins (fs.drop k) (n, l)) ∧ OutAt (w.heap.size + 1) F wx ov out ∧ Keeps (fun _ => False) w1 wx) (fun _ _ i _ => fs.length - (intOf i).toNat)
 case atStart => exact ⟨0, [], false, Nat.zero_le _, rfl, rfl, Nat.zero_le _, by simp, OutAt.nil _ _ _, Keeps.refl _ _⟩
 case round =>
  obtain ⟨k, out, dn, hk, rfl, rfl, hlen, hinv, ho, hq⟩ := hrel
  have j0 : (0 : Int) ≤ k := by omega
  obtain ⟨oa, oc, rfl⟩ := ho.form
  have hbr := hq.at hbx (fun e => e)
  have b0 : wr.cell? ⟨w.heap.size, 0, none⟩ = some (.string n) := cell_at hbr rfl
  have b1 : wr.cell? ⟨w.heap.size, 1, none⟩ = some (.slice qa l.length qc) := cell_at hbr rfl
  by_cases hlt : k < fs.length
  ·obtain ⟨f, hf⟩ : ∃ f, fs[k]? = some f := ⟨fs[k], List.getElem?_eq_getElem hlt⟩
   obtain ⟨g, cap, p, e, hc1, hc2, hB⟩ := (H.out.quiet hq (G := F) (fun _ h _ => h)).cell hf
   simp only [Value.slice.injEq] at e
   obtain ⟨rfl, -, rfl⟩ := e
   have j1 : (k : Int) < fs.length := by omega
   obtain ⟨pa, pc, rfl, _, _⟩ := hB.form
   have hqd : Keeps (fun _ => False) w1 wr.drew := hq.drew
   have hod : OutAt (w.heap.size + 1) F wr.drew (.slice oa out.length oc) out := ho.keep (Keeps.refl _ wr).drew
   have hBd : Bytes F wr.drew (.slice pa f.2.length pc) f.2 := hB.keep (KeepU8.refl F wr).drew (fun _ h _ => h)
   have hc1d : wr.drew.cell? ⟨g, k * 2, none⟩ = some (.string f.1) := hc1
   have hc2d : wr.drew.cell? ⟨g, k * 2 + 1, none⟩ = some (.slice pa f.2.length pc) := hc2
   have b0d : wr.drew.cell? ⟨w.heap.size, 0, none⟩ = some (.string n) := b0
   have b1d : wr.drew.cell? ⟨w.heap.size, 1, none⟩ = some (.slice qa l.length qc) := b1
   have hsd := hqd.size
   cases dn
   ·rw [if_neg (by simp)] at hinv
    have hst := fins_step hf out hinv
    cases hbl : Op.bytesLess n.toList f.1.toList
    ·rw [show blt (n, l).1 f.1 = false from hbl, if_neg (by simp)] at hst
     obtain ⟨a2, c2, w2, hrun, ho2, hk2, hbase⟩ := hod.push (n := f.1) (by omega) hBd HF.out (by omega)
     have hq2 := hqd.trans hk2 (fun b hb e => by have := hbase b e; omega)
     have HRUN := hyd hrun
     have HREL := hyd (⟨k + 1, out ++ [f], false, by omega, rfl, rfl, by simp; omega, by rw [if_neg (by simp)]; exact hst, by rw [show (out ++ [f]).length = out.length + 1 by simp]; exact ho2, hq2⟩ : ∃ (k' : Nat) (out' : FS) (dn : Bool), k' ≤ fs.length ∧ Value.int .i64 ((k + 1 : Nat) : Int) = .int .i64 (k' : Int) ∧ Value.bool false = .bool dn ∧ out'.length ≤ 2 * k' ∧ fins fs (n, l) = out' ++ (if dn then fs.drop k' else fins (fs.drop k') (n, l)) ∧ OutAt (w.heap.size + 1) F w2 (.slice a2 ((out ++ [f]).length) c2) out' ∧ Keeps (fun _ => False) w1 w2)
     clear hst hinv ho hq hf hrun ho2 hk2 hq2 hbase hB hBd hqd hod hbr
     go_wp2_with fail
     go_region_held3 (fun w' => w'.cell? ⟨w.heap.size, 0, none⟩ = some (.string n) ∧ w'.cell? ⟨g, k * 2, none⟩ = some (.string f.1)) (first | exact ⟨b0, hc1⟩ | go_keep) (fail)
     go_wp2_with (at_builtin; (first | (refine wpList_append_run (w := wr.drew.alloc (.cells #[.string f.1, .slice pa f.2.length pc] 148)) rfl _ _ _ _ rfl rfl rfl HRUN.out ?_)))
     go_roundw
     case rel => have h := HREL.out; simp only [List.length_append, List.length_cons, List.length_nil, Nat.zero_add] at h; exact h
     case measure => simp [intOf]; omega
    ·rw [show blt (n, l).1 f.1 = true from hbl, if_pos rfl] at hst
     obtain ⟨a2, c2, w2, hrun, ho2, hk2, hbase⟩ := hod.push (n := n) (by omega) ((HQ0.out.keep (KeepU8.of_none hqd) (G := F) (fun _ h _ => h))) HF.out (by omega)
     have hq2 := hqd.trans hk2 (fun b hb e => by have := hbase b e; omega)
     obtain ⟨g', cap', p', e', hd1, hd2, hB2⟩ := (H.out.quiet hq2 (G := F) (fun _ h _ => h)).cell hf
     simp only [Value.slice.injEq, Option.some.injEq, Addr.mk.injEq, and_true, true_and] at e'
     obtain ⟨rfl, rfl⟩ := e'
     obtain ⟨pa2, pc2, rfl, _, _⟩ := hB2.form
     have hs2 := hq2.size
     have hlen2 : (out ++ [(n, l)]).length = out.length + 1 := by simp
     rw [← hlen2] at hrun ho2
     obtain ⟨a3, c3, w3, hrun3, ho3, hk3, hbase3⟩ := ho2.push (n := f.1) (by omega) hB2 HF.out (by rw [hlen2]; omega)
     have hq3 := hq2.trans hk3 (fun b hb e => by have := hbase3 b e; omega)
     have HRUN := hyd hrun
     have HRUN3 := hyd hrun3
     have HREL := hyd (⟨k + 1, out ++ [(n, l)] ++ [f], true, by omega, rfl, rfl, by simp; omega, by rw [if_pos rfl]; exact hst, ho3, hq3⟩ : ∃ (k' : Nat) (out' : FS) (dn : Bool), k' ≤ fs.length ∧ Value.int .i64 ((k + 1 : Nat) : Int) = .int .i64 (k' : Int) ∧ Value.bool true = .bool dn ∧ out'.length ≤ 2 * k' ∧ fins fs (n, l) = out' ++ (if dn then fs.drop k' else fins (fs.drop k') (n, l)) ∧ OutAt (w.heap.size + 1) F w3 (.slice a3 ((out ++ [(n, l)]).length + 1) c3) out' ∧ Keeps (fun _ => False) w1 w3)
     generalize (out ++ [(n, l)]).length = ln2 at HRUN HRUN3 HREL
     clear hst hinv ho hq hf hrun ho2 hk2 hq2 hbase hB hBd hqd hod hbr hrun3 ho3 hk3 hq3 hbase3 hB2 hlen2
     go_wp2_with fail
     go_region_held3 (fun w' => w'.cell? ⟨w.heap.size, 0, none⟩ = some (.string n) ∧ w'.cell? ⟨g, k * 2, none⟩ = some (.string f.1)) (first | exact ⟨b0, hc1⟩ | go_keep) (fail)
     go_wp2_with (at_builtin; (first | (refine wpList_append_run (w := wr.drew.alloc (.cells #[.string n, .slice qa l.length qc] 148)) rfl _ _ _ _ rfl rfl rfl HRUN.out ?_) | (refine wpList_append_run (w := w2.alloc (.cells #[.string f.1, .slice pa2 f.2.length pc2] 148)) rfl _ _ _ _ rfl rfl rfl HRUN3.out ?_)))
     go_roundw
     case rel => exact HREL.out
     case measure => simp [intOf]; omega
   ·rw [if_pos rfl] at hinv
    have hst := drop_step hf hinv
    obtain ⟨a2, c2, w2, hrun, ho2, hk2, hbase⟩ := hod.push (n := f.1) (by omega) hBd HF.out (by omega)
    have hq2 := hqd.trans hk2 (fun b hb e => by have := hbase b e; omega)
    have HRUN := hyd hrun
    have HREL := hyd (⟨k + 1, out ++ [f], true, by omega, rfl, rfl, by simp; omega, by rw [if_pos rfl]; exact hst, by rw [show (out ++ [f]).length = out.length + 1 by simp]; exact ho2, hq2⟩ : ∃ (k' : Nat) (out' : FS) (dn : Bool), k' ≤ fs.length ∧ Value.int .i64 ((k + 1 : Nat) : Int) = .int .i64 (k' : Int) ∧ Value.bool true = .bool dn ∧ out'.length ≤ 2 * k' ∧ fins fs (n, l) = out' ++ (if dn then fs.drop k' else fins (fs.drop k') (n, l)) ∧ OutAt (w.heap.size + 1) F w2 (.slice a2 ((out ++ [f]).length) c2) out' ∧ Keeps (fun _ => False) w1 w2)
    clear hst hinv ho hq hf hrun ho2 hk2 hq2 hbase hB hBd hqd hod hbr
    go_wp2_with fail
    go_region
    go_wp2_with (at_builtin; (first | (refine wpList_append_run (w := wr.drew.alloc (.cells #[.string f.1, .slice pa f.2.length pc] 148)) rfl _ _ _ _ rfl rfl rfl HRUN.out ?_)))
    go_roundw
    case rel => have h := HREL.out; simp only [List.length_append, List.length_cons, List.length_nil, Nat.zero_add] at h; exact h
    case measure => simp [intOf]; omega
  ·obtain rfl : k = fs.length := by omega
   rw [List.drop_length] at hinv
   have hsd := hq.size
   cases dn
   ·rw [if_neg (by simp)] at hinv
    obtain ⟨a2, c2, w2, hrun, ho2, hk2, hbase⟩ := ho.push (n := n) (by omega) ((HQ0.out.keep (KeepU8.of_none hq) (G := F) (fun _ h _ => h))) HF.out (by omega)
    have hq2 := hq.trans hk2 (fun b hb e => by have := hbase b e; omega)
    have hfin : FPost F w (fins fs (n, l)) (.returned (.slice a2 (out.length + 1) c2)) w2 := by
     rw [hinv]
     exact FPost.mk (ho2.base (by omega)) (HK1.out.trans hq2 (fun _ _ e => e))
    have HFIN := hyd hfin
    have HRUN := hyd hrun
    clear hfin hinv ho hq hbr hrun ho2 hk2 hq2 hbase
    go_wp2_with (at_builtin; (refine wpList_append_run (w := wr.alloc (.cells #[.string n, .slice qa l.length qc] 148)) rfl _ _ _ _ rfl rfl rfl HRUN.out ?_))
    go_ret
    exact HFIN.out
   ·rw [if_pos rfl, List.append_nil] at hinv
    have hfin : FPost F w (fins fs (n, l)) (.returned (.slice oa out.length oc)) wr := by
     rw [hinv]
     exact FPost.mk (ho.base (by omega)) (HK1.out.trans hq (fun _ _ e => e))
    have HFIN := hyd hfin
    clear hfin hinv ho hq hbr
    go_wp2_with fail
    go_ret
    exact HFIN.out
theorem ext_trans {F : Nat → Prop} {w w1 w2 : World} (h1 : w.heap.size ≤ w1.heap.size) (h2 : w1.heap.size ≤ w2.heap.size) : ∀ b, Ext (Ext F w w1) w1 w2 b → Ext F w w2 b := fun b hb => by
 rcases hb with (hb | hb) | hb
 ·exact .inl hb
 ·exact .inr ⟨hb.1, by omega⟩
 ·exact .inr ⟨by omega, hb.2⟩
theorem FPost.after {F : Nat → Prop} {w w1 w2 : World} {fs : FS} {e : Ending} (hk : Keeps (fun _ => False) w w1) (h : FPost (Ext F w w1) w1 fs e w2) : FPost F w fs e w2 := by
 obtain ⟨v, rfl, h1, h2⟩ := h
 exact ⟨v, rfl, h1.keep (KeepU8.refl _ _) (fun _ _ => rfl) (fun b hb _ => ext_trans hk.size h2.size b hb), hk.trans h2 (fun _ _ e => e)⟩
theorem ext_lt {F : Nat → Prop} {w w1 : World} (hF : ∀ b, F b → b < w.heap.size) (hk : w.heap.size ≤ w1.heap.size) : ∀ b, Ext F w w1 b → b < w1.heap.size := fun b hb => by
 rcases hb with hb | hb
 ·have := hF b hb; omega
 ·exact hb.2
theorem ext_one {F : Nat → Prop} {w w1 w2 : World} (h1 : w.heap.size ≤ w1.heap.size) (h2 : w1.heap.size ≤ w2.heap.size) : ∀ b, Ext F w w1 b → Ext F w w2 b := fun b hb => hb.imp id (fun hb => ⟨hb.1, by omega⟩)
theorem fdel_length (fs : FS) (x : ByteArray) : (fdel fs x).length ≤ fs.length := List.length_filter_le _ _
set_option maxRecDepth 100000 in
theorem rdo_create {F : Nat → Prop} {w : World} {v : Value} {fs : FS} (h : FilesAt F w v fs) (hF : ∀ b, F b → b < w.heap.size) (x y : ByteArray) (pv : Value) (hb : fs.length < 549755813888) :
  Calls Tryz.prog 118 #[v, .agg #[.int .i64 0, .string x, .string y, pv]] w (FPost F w (fins fs (x, []))) := by
 obtain ⟨a, c, rfl, hlc, hcm⟩ := h.form
 have hk1 : Keeps (fun _ => False) w (w.alloc (.cells #[.int .i64 0, .string x, .string y, pv] 138)) := (Keeps.refl _ w).alloc _
 have hw := rwith_calls (h.quiet hk1 (G := Ext F w (w.alloc (.cells #[.int .i64 0, .string x, .string y, pv] 138))) (fun _ h _ => .inl h)) (ext_lt hF hk1.size) x (Bytes.nil _ _) hb
 have HW := hyd hw
 have HK := hyd hk1
 clear h hF hw hk1
 go_enter Tryz.func118, Tryz.ntmps118
 go_wp2_with fail
 refine HW.out.mono ?_
 intro e w2 hp
 have HP := hyd (hp.after HK.out)
 obtain ⟨v2, rfl, h2, k2⟩ := hp
 obtain ⟨a2, c2, rfl, _, _⟩ := h2.form
 clear h2 k2
 go_wp2_with fail
 go_ret
 exact HP.out
set_option maxRecDepth 100000 in
theorem rdo_remove {F : Nat → Prop} {w : World} {v : Value} {fs : FS} (h : FilesAt F w v fs) (hF : ∀ b, F b → b < w.heap.size) (x y : ByteArray) (pv : Value) (hb : fs.length < 549755813888) :
  Calls Tryz.prog 118 #[v, .agg #[.int .i64 2, .string x, .string y, pv]] w (FPost F w (fdel fs x)) := by
 obtain ⟨a, c, rfl, hlc, hcm⟩ := h.form
 have hk1 : Keeps (fun _ => False) w (w.alloc (.cells #[.int .i64 2, .string x, .string y, pv] 138)) := (Keeps.refl _ w).alloc _
 have hw := rwithout_calls (h.quiet hk1 (G := Ext F w (w.alloc (.cells #[.int .i64 2, .string x, .string y, pv] 138))) (fun _ h _ => .inl h)) (ext_lt hF hk1.size) x (by omega)
 have HW := hyd hw
 have HK := hyd hk1
 clear h hF hw hk1
 go_enter Tryz.func118, Tryz.ntmps118
 go_wp2_with fail
 refine HW.out.mono ?_
 intro e w2 hp
 have HP := hyd (hp.after HK.out)
 obtain ⟨v2, rfl, h2, k2⟩ := hp
 obtain ⟨a2, c2, rfl, _, _⟩ := h2.form
 clear h2 k2
 go_wp2_with fail
 go_ret
 exact HP.out
set_option maxRecDepth 100000 in
set_option maxHeartbeats 1000000 in
theorem rdo_append {F : Nat → Prop} {w : World} {v : Value} {fs : FS} (h : FilesAt F w v fs) (hF : ∀ b, F b → b < w.heap.size) (x y : ByteArray) {pv : Value} {p : List UInt8} (hp : Reads w pv p) (hb : fs.length < 549755813888) (hs : (fget fs x).isSome = true) (hsz : ((fget fs x).getD []).length + p.length ≤ 140737488355328) :
  Calls Tryz.prog 118 #[v, .agg #[.int .i64 1, .string x, .string y, pv]] w (FPost F w (fins (fdel fs x) (x, (fget fs x).getD [] ++ p))) := by
 obtain ⟨a, c, rfl, hlc, hcm⟩ := h.form
 obtain ⟨pa, pc, rfl, _, _⟩ := hp.form
 obtain ⟨w1, hw1⟩ : ∃ w1, w1 = w.alloc (.cells #[.int .i64 1, .string x, .string y, .slice pa p.length pc] 138) := ⟨_, rfl⟩
 have hk1 : Keeps (fun _ => False) w w1 := by rw [hw1]; exact (Keeps.refl _ w).alloc _
 have hbx : w1.heap[w.heap.size]? = some (.cells #[.int .i64 1, .string x, .string y, .slice pa p.length pc] 138 (0, 0)) := by rw [hw1]; exact heap_alloc_new _ _
 have h1 := h.quiet hk1 (G := Ext F w w1) (fun _ h _ => .inl h)
 have hF1 := ext_lt hF hk1.size
 have hfind := rfind_runs h1 x (by omega)
 obtain ⟨k, hki, hkf⟩ := findI_get hs
 rw [hki] at hfind
 obtain ⟨g, cap, qv, e, hc1, hc2, hB⟩ := h1.cell hkf
 simp only [Value.slice.injEq] at e
 obtain ⟨rfl, -, rfl⟩ := e
 have hkl := (List.getElem?_eq_some_iff.1 hkf).1
 have j0 : (0 : Int) ≤ k := by omega
 have j1 : (k : Int) < fs.length := by omega
 have htw := twin_calls hB.reads (by simp only; omega)
 simp only at htw
 obtain ⟨qa, qc, rfl, _, _⟩ := hB.form
 generalize (fget fs x).getD [] = l at *
 have hp1 := hp.keep hk1
 have H1 := hyd h1
 have HF1 := hyd hF1
 have HK1 := hyd hk1
 have HP1 := hyd hp1
 have hFw := hyd hF
 clear h hF hki hkf hkl hB h1 hF1 hk1 hp1 hp hs
 go_enter Tryz.func118, Tryz.ntmps118
 go_wp2_with fail
 rw [← hw1]
 clear hw1
 refine hfind.out.mono ?_
 rintro e w' ⟨rfl, rfl⟩
 go_wp2_with fail
 refine htw.mono ?_
 rintro e w2 ⟨v2, rfl, ho2, hk2⟩
 obtain ⟨v3, w3, hrun3, ho3, hk3⟩ := ho2.grow hk2.size (HP1.out.keep hk2) hsz
 have hk13 : Keeps (fun _ => False) w1 w3 := hk2.trans hk3 (fun b hb e => by have := (owns_lt ho2 b e).2; omega)
 have hbx2 := hk2.at hbx (fun e => e)
 have hbx3 := hk13.at hbx (fun e => e)
 have c21 : w2.cell? ⟨w.heap.size, 3, none⟩ = some (.slice pa p.length pc) := cell_at hbx2 rfl
 have c31 : w3.cell? ⟨w.heap.size, 1, none⟩ = some (.string x) := cell_at hbx3 rfl
 obtain ⟨a2, c2, rfl, _, _⟩ := ho2.bytes.form
 obtain ⟨a3, c3, rfl, _, _⟩ := ho3.bytes.form
 have HR3 := hyd hrun3
 have HK13 := hyd hk13
 have HO3 := hyd ho3
 have hF3 := ext_lt hFw.out (show w.heap.size ≤ w3.heap.size by have := HK1.out.size; have := hk13.size; omega)
 have h3 : FilesAt (Ext F w w3) w3.drew (.slice (some ⟨g, 0, none⟩) fs.length c) fs := H1.out.quiet hk13.drew (fun b hb _ => ext_one HK1.out.size hk13.size b hb)
 have hwo := rwithout_calls h3 hF3 x (by omega)
 have hdl := fdel_length fs x
 have hnext : ∀ v4 w4, FilesAt (Ext (Ext F w w3) w3.drew w4) w4 v4 (fdel fs x) → Keeps (fun _ => False) w3.drew w4 → Calls Tryz.prog 147 #[v4, .agg #[.string x, .slice a3 (l.length + p.length) c3]] w4 (fun e w5 => FPost F w (fins (fdel fs x) (x, l ++ p)) e w5 ∧ w5.cell? ⟨w.heap.size, 1, none⟩ = some (.string x)) := fun v4 w4 h4 k4 => by
  refine (rwith_calls (l := l ++ p) h4 (ext_lt hF3 k4.size) x ?_ (by omega)).mono (fun e w5 h5 => ?_)
  ·have := ho3.bytes.keep (KeepU8.of_none k4.undrew) (G := Ext (Ext F w w3) w3.drew w4) (fun b hb hb2 => .inl (.inr ⟨by have := HK1.out.size; omega, hb2⟩))
   rw [List.length_append] at this
   exact this
  ·refine ⟨FPost.after (HK1.out.trans hk13 (fun _ _ e => e)) (FPost.after (F := Ext F w w3) k4.undrew h5), ?_⟩
   obtain ⟨v5, _, _, k5⟩ := h5
   exact cell_at ((k4.undrew.trans k5 (fun _ _ e => e)).at hbx3 (fun e => e)) rfl
 have hkeep : ∀ w4, Keeps (fun _ => False) w3.drew w4 → w4.cell? ⟨w.heap.size, 1, none⟩ = some (.string x) := fun w4 k4 => cell_at (k4.undrew.at hbx3 (fun e => e)) rfl
 have HWO := hyd hwo
 have HN := hyd hnext
 have HKP := hyd hkeep
 clear hrun3 hk13 ho3 ho2 hk2 hk3 hbx2 hbx3 htw hwo hnext hF3 h3 hkeep hdl
 go_wp2_with (at_builtin; (refine wpList_append_run (w := w2) rfl _ _ _ _ rfl rfl rfl HR3.out ?_))
 go_region_held3 (fun w' => w'.cell? ⟨w.heap.size, 1, none⟩ = some (.string x)) (first | exact c31 | exact HKP.out _ k4 | exact q5 | go_keep) (first | (go_at_call 148; refine HWO.out.mono ?_; rintro e w4 ⟨v4, rfl, h4, k4⟩) | (go_at_call 147; refine (HN.out _ _ h4 k4).mono ?_; rintro e w5 ⟨⟨v5, rfl, h5, k5⟩, q5⟩))
 obtain ⟨a5, c5, rfl, _, _⟩ := h5.form
 have HP := hyd (⟨_, rfl, h5, k5⟩ : FPost F w (fins (fdel fs x) (x, l ++ p)) (.returned (.slice a5 _ c5)) w5)
 clear h5 k5 h4 k4
 go_wp2_with fail
 go_ret
 exact HP.out
set_option maxRecDepth 100000 in
set_option maxHeartbeats 1000000 in
theorem rdo_rename {F : Nat → Prop} {w : World} {v : Value} {fs : FS} (h : FilesAt F w v fs) (hF : ∀ b, F b → b < w.heap.size) (x y : ByteArray) {pv : Value} (hb : fs.length < 549755813888) (hs : (fget fs x).isSome = true) :
  Calls Tryz.prog 118 #[v, .agg #[.int .i64 3, .string x, .string y, pv]] w (FPost F w (fins (fdel (fdel fs x) y) (y, (fget fs x).getD []))) := by
 obtain ⟨a, c, rfl, hlc, hcm⟩ := h.form
 obtain ⟨w1, hw1⟩ : ∃ w1, w1 = w.alloc (.cells #[.int .i64 3, .string x, .string y, pv] 138) := ⟨_, rfl⟩
 have hk1 : Keeps (fun _ => False) w w1 := by rw [hw1]; exact (Keeps.refl _ w).alloc _
 have hbx : w1.heap[w.heap.size]? = some (.cells #[.int .i64 3, .string x, .string y, pv] 138 (0, 0)) := by rw [hw1]; exact heap_alloc_new _ _
 have h1 := h.quiet hk1 (G := Ext F w w1) (fun _ h _ => .inl h)
 have hF1 := ext_lt hF hk1.size
 have hfind := rfind_runs h1 x (by omega)
 obtain ⟨k, hki, hkf⟩ := findI_get hs
 rw [hki] at hfind
 obtain ⟨g, cap, qv, e, hc1, hc2, hB⟩ := h1.cell hkf
 simp only [Value.slice.injEq] at e
 obtain ⟨rfl, -, rfl⟩ := e
 have hkl := (List.getElem?_eq_some_iff.1 hkf).1
 have j0 : (0 : Int) ≤ k := by omega
 have j1 : (k : Int) < fs.length := by omega
 obtain ⟨qa, qc, rfl, _, _⟩ := hB.form
 simp only at hB hc2
 generalize (fget fs x).getD [] = l at *
 have b1 : w1.cell? ⟨w.heap.size, 1, none⟩ = some (.string x) := cell_at hbx rfl
 have b2 : w1.cell? ⟨w.heap.size, 2, none⟩ = some (.string y) := cell_at hbx rfl
 have hwo := rwithout_calls (w := w1.drew) (h1.same (fun _ _ => rfl)) hF1 x (by omega)
 have hdl := fdel_length fs x
 have hdl2 := fdel_length (fdel fs x) y
 have hkeep : ∀ w4, Keeps (fun _ => False) w1.drew w4 → w4.cell? ⟨w.heap.size, 1, none⟩ = some (.string x) ∧ w4.cell? ⟨w.heap.size, 2, none⟩ = some (.string y) := fun w4 k4 => ⟨cell_at (k4.undrew.at hbx (fun e => e)) rfl, cell_at (k4.undrew.at hbx (fun e => e)) rfl⟩
 have hnext2 : ∀ v4 w4, FilesAt (Ext (Ext F w w1) w1.drew w4) w4 v4 (fdel fs x) → Keeps (fun _ => False) w1.drew w4 → Calls Tryz.prog 148 #[v4, .string y] w4 (fun e w5 => ∃ v5, e = .returned v5 ∧ FilesAt (Ext (Ext F w w1) w1.drew w5) w5 v5 (fdel (fdel fs x) y) ∧ Keeps (fun _ => False) w1.drew w5) := fun v4 w4 h4 k4 => by
  refine (rwithout_calls h4 (ext_lt hF1 k4.size) y (by omega)).mono (fun e w5 h5 => ?_)
  obtain ⟨v5, rfl, h5, k5⟩ := FPost.after k4 h5
  exact ⟨v5, rfl, h5, k5⟩
 have hnext : ∀ v4 w4, FilesAt (Ext (Ext F w w1) w1.drew w4) w4 v4 (fdel (fdel fs x) y) → Keeps (fun _ => False) w1.drew w4 → Calls Tryz.prog 147 #[v4, .agg #[.string y, .slice qa l.length qc]] w4 (fun e w5 => FPost F w (fins (fdel (fdel fs x) y) (y, l)) e w5 ∧ Keeps (fun _ => False) w1.drew w5) := fun v4 w4 h4 k4 => by
  refine (rwith_calls (l := l) h4 (ext_lt hF1 k4.size) y (hB.keep (KeepU8.of_none k4.undrew) (fun b hb _ => .inl hb)) (by omega)).mono (fun e w5 h5 => ?_)
  refine ⟨FPost.after hk1 (FPost.after (F := Ext F w w1) k4.undrew h5), ?_⟩
  obtain ⟨v5, _, _, k5⟩ := h5
  exact k4.trans k5 (fun _ _ e => e)
 have HWO := hyd hwo
 have HN := hyd hnext
 have HN2 := hyd hnext2
 have HKP := hyd hkeep
 clear h hF hki hkf hkl hB h1 hF1 hk1 hs hwo hnext hnext2 hkeep hdl hdl2 hbx
 go_enter Tryz.func118, Tryz.ntmps118
 go_wp2_with fail
 rw [← hw1]
 clear hw1
 refine hfind.out.mono ?_
 rintro e w' ⟨rfl, rfl⟩
 go_wp2_with fail
 go_region_held3 (fun w' => w'.cell? ⟨w.heap.size, 1, none⟩ = some (.string x) ∧ w'.cell? ⟨w.heap.size, 2, none⟩ = some (.string y)) (first | exact ⟨b1, b2⟩ | exact HKP.out _ k6 | exact HKP.out _ k5 | exact HKP.out _ k4 | go_keep) (first | (go_at_call 148; refine (HN2.out _ _ h4 k4).mono ?_; rintro e w5 ⟨v5, rfl, h5, k5⟩) | (go_at_call 148; refine HWO.out.mono ?_; rintro e w4 ⟨v4, rfl, h4, k4⟩) | (go_at_call 147; refine (HN.out _ _ h5 k5).mono ?_; rintro e w6 ⟨⟨v6, rfl, h6, q6⟩, k6⟩))
 obtain ⟨a6, c6, rfl, _, _⟩ := h6.form
 have HP := hyd (⟨_, rfl, h6, q6⟩ : FPost F w (fins (fdel (fdel fs x) y) (y, l)) (.returned (.slice a6 _ c6)) w6)
 clear h6 q6 h5 k5 h4 k4 k6
 go_wp2_with fail
 go_ret
 exact HP.out
theorem rdo_calls {F : Nat → Prop} {w : World} {v : Value} {fs : FS} (h : FilesAt F w v fs) (hF : ∀ b, F b → b < w.heap.size) (hs : FSorted fs) (c : Ch) (hm : May fs c) {pv : Value} (hp : Reads w pv c.p) (hb : fs.length < 549755813888) (hsz : c.kind = 1 → ((fget fs c.a).getD []).length + c.p.length ≤ 140737488355328) :
  Calls Tryz.prog 118 #[v, .agg #[.int .i64 c.kind, .string c.a, .string c.b, pv]] w (FPost F w (doCh fs c)) := by
 rw [← rdo_do hs hm]
 obtain ⟨⟨k0, k3⟩, m1, m2⟩ := hm
 obtain ⟨k, x, y, p⟩ := c
 simp only at *
 have : k = 0 ∨ k = 1 ∨ k = 2 ∨ k = 3 := by omega
 rcases this with rfl | rfl | rfl | rfl
 ·exact rdo_create h hF x y pv hb
 ·exact rdo_append h hF x y hp hb (m2 (by decide)) (hsz rfl)
 ·exact rdo_remove h hF x y pv hb
 ·exact rdo_rename h hF x y hb (m2 (by decide))
def RChsAt (F : Nat → Prop) (w : World) (v : Value) (cs : List Ch) : Prop :=
 ∃ ps : List Value, Rel2 (fun p c => Bytes F w p c.p) ps cs ∧ w.ownsRow 0 138 4 v cs.length (chCells ps cs) ∧ ∀ b, v.ownBlock = some b → F b
theorem RChsAt.nil (F : Nat → Prop) (w : World) : RChsAt F w (.slice none 0 0) [] := ⟨[], trivial, ⟨rfl, .inl ⟨rfl, rfl⟩⟩, fun b hb => by cases hb⟩
theorem RChsAt.keep {F G : Nat → Prop} {w w' : World} {v : Value} {cs : List Ch} (h : RChsAt F w v cs) (hk : KeepU8 F w w') (hr : ∀ b, v.ownBlock = some b → w'.heap[b]? = w.heap[b]?) (hFG : ∀ b, F b → b < w.heap.size → G b) : RChsAt G w' v cs := by
 obtain ⟨ps, h1, h2, h3⟩ := h
 exact ⟨ps, h1.mono (fun p c hpc => hpc.keep hk hFG), rrow_keep h2 hr, fun b hb => hFG b (h3 b hb) (h2.lt b hb).2⟩
theorem RChsAt.same {F : Nat → Prop} {w w' : World} {v : Value} {cs : List Ch} (h : RChsAt F w v cs) (hk : ∀ b, F b → w'.heap[b]? = w.heap[b]?) : RChsAt F w' v cs := by
 obtain ⟨ps, h1, h2, h3⟩ := h
 exact RChsAt.keep ⟨ps, h1, h2, h3⟩ (fun g cs fz hF hb => (hk g hF).trans hb) (fun b hb => hk b (h3 b hb)) (fun _ h _ => h)
theorem RChsAt.quiet {F G : Nat → Prop} {w w' : World} {v : Value} {cs : List Ch} (h : RChsAt F w v cs) (hk : Keeps (fun _ => False) w w') (hFG : ∀ b, F b → b < w.heap.size → G b) : RChsAt G w' v cs := by
 obtain ⟨ps, h1, h2, h3⟩ := h
 exact RChsAt.keep ⟨ps, h1, h2, h3⟩ (KeepU8.of_none hk) (fun b hb => hk.block b (h2.lt b hb).2 (fun e => e)) hFG
theorem RChsAt.form {F : Nat → Prop} {w : World} {v : Value} {cs : List Ch} (h : RChsAt F w v cs) : ∃ a c, v = .slice a cs.length c := by
 obtain ⟨ps, h1, h2, h3⟩ := h
 exact ownsRow_slice h2
structure RefAt (F : Nat → Prop) (w : World) (r : Nat) (vn vs vl : Value) (m : DM) : Prop where
 blk : w.heap[r]? = some (.cells #[.int .i64 m.room, vn, vs, vl, .int .i64 m.fuse, .bool m.down] 92 (0, 0))
 fr : F r
 now : FilesAt F w vn m.now
 sure : FilesAt F w vs m.sure
 loose : RChsAt F w vl m.loose
 lt : ∀ b, F b → b < w.heap.size
def RefIs (F : Nat → Prop) (w : World) (r : Nat) (m : DM) : Prop := ∃ vn vs vl, RefAt F w r vn vs vl m
theorem RefAt.keep {F : Nat → Prop} {w w' : World} {r : Nat} {vn vs vl : Value} {m : DM} (h : RefAt F w r vn vs vl m) (hk : ∀ b, F b → w'.heap[b]? = w.heap[b]?) : RefAt F w' r vn vs vl m :=
 ⟨(hk r h.fr).trans h.blk, h.fr, h.now.same hk, h.sure.same hk, h.loose.same hk, fun b hb => by
  have := h.lt b hb
  have e := hk b hb
  rw [Array.getElem?_eq_getElem this] at e
  exact (Array.getElem?_eq_some_iff.1 e).1⟩
theorem RefIs.keep {F : Nat → Prop} {w w' : World} {r : Nat} {m : DM} (h : RefIs F w r m) (hk : ∀ b, F b → w'.heap[b]? = w.heap[b]?) : RefIs F w' r m := by
 obtain ⟨vn, vs, vl, h⟩ := h
 exact ⟨vn, vs, vl, h.keep hk⟩
theorem RefAt.quiet {F G : Nat → Prop} {w w' : World} {r : Nat} {vn vs vl : Value} {m : DM} (h : RefAt F w r vn vs vl m) (hk : Keeps (fun _ => False) w w') (hFG : ∀ b, F b → b < w.heap.size → G b) (hG : ∀ b, G b → b < w'.heap.size) : RefAt G w' r vn vs vl m :=
 ⟨hk.at h.blk (fun e => e), hFG r h.fr (h.lt r h.fr), h.now.quiet hk hFG, h.sure.quiet hk hFG, h.loose.quiet hk hFG, hG⟩
structure RCells (w : World) (d : Nat) (vn vs vl : Value) (m : DM) : Prop where
 c0 : w.cell? ⟨d, 0, none⟩ = some (.int .i64 m.room)
 c1 : w.cell? ⟨d, 1, none⟩ = some vn
 c2 : w.cell? ⟨d, 2, none⟩ = some vs
 c3 : w.cell? ⟨d, 3, none⟩ = some vl
 c4 : w.cell? ⟨d, 4, none⟩ = some (.int .i64 m.fuse)
 c5 : w.cell? ⟨d, 5, none⟩ = some (.bool m.down)
 f0 : ∀ i, w.frozen? ⟨d, i, none⟩ = false
theorem RefAt.cells {F : Nat → Prop} {w : World} {r : Nat} {vn vs vl : Value} {m : DM} (h : RefAt F w r vn vs vl m) : RCells w r vn vs vl m :=
 ⟨cell_at h.blk rfl, cell_at h.blk rfl, cell_at h.blk rfl, cell_at h.blk rfl, cell_at h.blk rfl, cell_at h.blk rfl, fun i => free_at h.blk i⟩
theorem RefAt.store {F : Nat → Prop} {w w' : World} {r : Nat} {vn vs vl : Value} {m : DM} {cs : Array Value} (hblk : w.heap[r]? = some (.cells cs 92 (0, 0)))
  (hd : w'.heap[r]? = some (.cells #[.int .i64 m.room, vn, vs, vl, .int .i64 m.fuse, .bool m.down] 92 (0, 0))) (hne : ∀ b, b ≠ r → w'.heap[b]? = w.heap[b]?)
  (fr : F r) (h1 : FilesAt F w vn m.now) (h2 : FilesAt F w vs m.sure) (h3 : RChsAt F w vl m.loose) (hlt : ∀ b, F b → b < w.heap.size) : RefAt F w' r vn vs vl m := by
 have hu : KeepU8 F w w' := fun g cs fz hF hb => by
  rw [hne g (fun e => by subst e; rw [hblk] at hb; simp at hb)]
  exact hb
 have hrow : ∀ {e n size : Nat} {v : Value} {xs : List Value}, w.ownsRow 0 e size v n xs → e ≠ 92 → ∀ b, v.ownBlock = some b → w'.heap[b]? = w.heap[b]? := fun ho he b hb => hne b (fun e' => by
  subst e'
  obtain ⟨cur, hc⟩ := ownsRow_type ho hb
  rw [hblk] at hc
  simp at hc
  exact he hc.2.symm)
 refine ⟨hd, fr, ?_, ?_, ?_, fun b hb => ?_⟩
 ·exact h1.keep hu (by obtain ⟨ps, _, ho, _⟩ := h1; exact hrow ho (by decide)) (fun _ h _ => h)
 ·exact h2.keep hu (by obtain ⟨ps, _, ho, _⟩ := h2; exact hrow ho (by decide)) (fun _ h _ => h)
 ·exact h3.keep hu (by obtain ⟨ps, _, ho, _⟩ := h3; exact hrow ho (by decide)) (fun _ h _ => h)
 ·by_cases e : b = r
  ·subst e; exact lt_of_heap hd
  ·have := hlt b hb
   have e' := hne b e
   rw [Array.getElem?_eq_getElem this] at e'
   exact (Array.getElem?_eq_some_iff.1 e').1
theorem rnew_runs (w : World) (room : Int) : ∃ r w', Runs 7 #[.int .i64 room] w (.pointer (some ⟨r, 0, none⟩)) w' ∧ RefIs (Ext (fun _ => False) w w') w' r (newOf room) ∧ Keeps (fun _ => False) w w' := by
 refine ⟨w.heap.size, w.alloc (.cells #[.int .i64 room, .slice none 0 0, .slice none 0 0, .slice none 0 0, .int .i64 (-1), .bool false] 92), ?_, ⟨_, _, _, heap_alloc_new _ _, .inr ⟨Nat.le_refl _, by simp⟩, FilesAt.nil _ _, FilesAt.nil _ _, RChsAt.nil _ _, fun b hb => hb.elim (fun e => e.elim) (fun e => e.2)⟩, (Keeps.refl _ w).alloc _⟩
 unfold Runs
 go_enter Tryz.func7, Tryz.ntmps7
 go_wp2
 go_ret
 exact ⟨rfl, rfl⟩
theorem rpower_raw (w : World) (d : Nat) (f : Int) (v5 : Value) (c4 : w.cell? ⟨d, 4, none⟩ = some (.int .i64 f)) (c5 : w.cell? ⟨d, 5, none⟩ = some v5) (f4 : w.frozen? ⟨d, 4, none⟩ = false) (f5 : w.frozen? ⟨d, 5, none⟩ = false) (hf : f ≤ 9223372036854775807) :
  Runs 102 #[.pointer (some ⟨d, 0, none⟩)] w (.bool (!decide (f = 0))) (if f = 0 then w.setCell ⟨d, 5, none⟩ (.bool true) else if 0 < f then w.setCell ⟨d, 4, none⟩ (.int .i64 (f - 1)) else w) := by
 unfold Runs
 by_cases h0 : f = 0
 ·subst h0
  simp only [if_true]
  go_enter Tryz.func102, Tryz.ntmps102
  go_wp2
  go_ret
  exact ⟨rfl, rfl⟩
 ·have hb' : (decide (f = 0)) = false := by simpa using h0
  rw [hb', if_neg h0]
  by_cases h1 : 0 < f
  ·rw [if_pos h1]
   go_enter Tryz.func102, Tryz.ntmps102
   go_wp2
   go_ret
   exact ⟨rfl, rfl⟩
  ·rw [if_neg h1]
   go_enter Tryz.func102, Tryz.ntmps102
   go_wp2
   go_ret
   exact ⟨rfl, rfl⟩
theorem rpower_runs {F : Nat → Prop} {w : World} {r : Nat} {vn vs vl : Value} {m : DM} (h : RefAt F w r vn vs vl m) (hf : m.fuse ≤ 9223372036854775807) :
  ∃ w', Runs 102 #[.pointer (some ⟨r, 0, none⟩)] w (.bool (!decide (m.fuse = 0))) w' ∧ RefAt F w' r vn vs vl (spendOf m).2 ∧ Keeps (fun b => b = r) w w' ∧ w'.heap.size = w.heap.size := by
 have hr := rpower_raw w r m.fuse _ h.cells.c4 h.cells.c5 (h.cells.f0 4) (h.cells.f0 5) hf
 unfold spendOf
 by_cases h0 : m.fuse = 0
 ·simp only [h0, if_true] at hr ⊢
  refine ⟨w.setCell ⟨r, 5, none⟩ (.bool true), hr, RefAt.store h.blk ?_ (fun b hb => Below.heap_setCell _ _ _ _ hb) h.fr h.now h.sure h.loose h.lt, (Keeps.refl (fun b => b = r) w).setCell (p := ⟨r, 5, none⟩) (fun _ => rfl) _, by simp⟩
  rw [heap_setCell_eq h.blk]; simp [h0]
 ·by_cases h1 : 0 < m.fuse
  ·simp only [h0, h1, if_true, if_false] at hr ⊢
   refine ⟨w.setCell ⟨r, 4, none⟩ (.int .i64 (m.fuse - 1)), hr, RefAt.store h.blk ?_ (fun b hb => Below.heap_setCell _ _ _ _ hb) h.fr h.now h.sure h.loose h.lt, (Keeps.refl (fun b => b = r) w).setCell (p := ⟨r, 4, none⟩) (fun _ => rfl) _, by simp⟩
   rw [heap_setCell_eq h.blk]; simp
  ·simp only [h0, h1, if_false] at hr ⊢
   exact ⟨w, hr, h, Keeps.refl _ _, rfl⟩
theorem rclamp_runs (w : World) (n most : Int) : Runs 122 #[.int .i64 n, .int .i64 most] w (.int .i64 (if n < 0 then 0 else if most < n then most else n)) w := by
 unfold Runs
 by_cases h0 : n < 0
 ·rw [if_pos h0]
  go_enter Tryz.func122, Tryz.ntmps122
  go_wp2
  go_ret
  exact ⟨rfl, rfl⟩
 ·rw [if_neg h0]
  by_cases h1 : most < n
  ·rw [if_pos h1]
   go_enter Tryz.func122, Tryz.ntmps122
   go_wp2
   go_ret
   exact ⟨rfl, rfl⟩
  ·rw [if_neg h1]
   go_enter Tryz.func122, Tryz.ntmps122
   go_wp2
   go_ret
   exact ⟨rfl, rfl⟩
end Go.Proofs.YtddnikpdmjogiaaGreat
