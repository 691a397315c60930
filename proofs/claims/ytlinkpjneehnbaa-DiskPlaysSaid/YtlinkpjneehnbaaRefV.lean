/- The document's disk as lists: its loops over rows of files, and its order. Plain: no program in sight. -/
import Derived.Test.YtlinkpjneehnbaaGood
namespace Go.Proofs.Ytlinkpjneehnbaa
open Go.RowKit Go.MapKept

/-! ### Go's order on texts -/
theorem bytesLess_trans : ∀ {a b c : List UInt8}, Op.bytesLess a b = true → Op.bytesLess b c = true → Op.bytesLess a c = true
  | [], [], _, h, _ => by simp [Op.bytesLess] at h
  | [], _ :: _, [], _, h => by simp [Op.bytesLess] at h
  | [], _ :: _, _ :: _, _, _ => rfl
  | _ :: _, [], _, h, _ => by simp [Op.bytesLess] at h
  | _ :: _, _ :: _, [], _, h => by simp [Op.bytesLess] at h
  | x :: a, y :: b, z :: c, h, k => by
    simp only [Op.bytesLess, Bool.or_eq_true, Bool.and_eq_true, decide_eq_true_eq, beq_iff_eq] at h k ⊢
    rcases h with h | ⟨rfl, h⟩
    · rcases k with k | ⟨rfl, k⟩
      · exact .inl (UInt8.lt_trans h k)
      · exact .inl h
    · rcases k with k | ⟨rfl, k⟩
      · exact .inl k
      · exact .inr ⟨rfl, bytesLess_trans h k⟩
theorem bytesLess_irrefl : ∀ (a : List UInt8), Op.bytesLess a a = false
  | [] => rfl
  | x :: a => by
    simp [Op.bytesLess, bytesLess_irrefl a]
theorem bytesLess_total : ∀ {a b : List UInt8}, Op.bytesLess a b = false → a ≠ b → Op.bytesLess b a = true
  | [], [], _, h => absurd rfl h
  | [], _ :: _, h, _ => by simp [Op.bytesLess] at h
  | _ :: _, [], _, _ => rfl
  | x :: a, y :: b, h, k => by
    simp only [Op.bytesLess, Bool.or_eq_false_iff, Bool.and_eq_false_iff, decide_eq_false_iff_not, beq_eq_false_iff_ne, Bool.or_eq_true, Bool.and_eq_true, decide_eq_true_eq, beq_iff_eq] at h ⊢
    by_cases e : x = y
    · subst e
      refine .inr ⟨rfl, bytesLess_total ?_ (fun e => k (by rw [e]))⟩
      rcases h.2 with h | h
      · exact absurd rfl h
      · exact h
    · rcases UInt8.lt_or_lt_of_ne e with h2 | h2
      · exact absurd h2 h.1
      · exact .inl h2
theorem toList_inj {a b : ByteArray} (h : a.toList = b.toList) : a = b := by
  have := (bytes_beq a b).1 (by rw [beq_toListBytes, h]; simp)
  exact this
theorem blt_trans {a b c : ByteArray} (h : blt a b = true) (k : blt b c = true) : blt a c = true := bytesLess_trans h k
theorem blt_irrefl (a : ByteArray) : blt a a = false := bytesLess_irrefl _
theorem blt_total {a b : ByteArray} (h : blt a b = false) (k : a ≠ b) : blt b a = true := bytesLess_total h (fun e => k (toList_inj e))

/-! ### Files in the order of their names -/
def FSorted (fs : FS) : Prop := fs.Pairwise (fun x y => blt x.1 y.1 = true)
theorem FSorted.nil : FSorted [] := List.Pairwise.nil
theorem FSorted.fdel {fs : FS} (h : FSorted fs) (n : ByteArray) : FSorted (fdel fs n) := h.sublist List.filter_sublist
theorem FSorted.nodup {fs : FS} (h : FSorted fs) : FNodup fs := by
  unfold FNodup
  rw [List.Nodup, List.pairwise_map]
  exact List.Pairwise.imp (fun {x y} hxy e => by rw [e, blt_irrefl] at hxy; cases hxy) h
theorem fins_cons (x : ByteArray × List UInt8) (l : FS) (f : ByteArray × List UInt8) : fins (x :: l) f = if blt f.1 x.1 then f :: x :: l else x :: fins l f := rfl
theorem FSorted.fins : ∀ {fs : FS}, FSorted fs → ∀ {f : ByteArray × List UInt8}, f.1 ∉ fs.map (·.1) → FSorted (fins fs f)
  | [], _, f, _ => List.pairwise_singleton _ _
  | x :: l, h, f, hn => by
    have h' := List.pairwise_cons.1 h
    rw [fins_cons]
    have hn2 : f.1 ≠ x.1 ∧ f.1 ∉ l.map (·.1) := by
      rw [List.map_cons, List.mem_cons] at hn
      exact ⟨fun e => hn (.inl e), fun e => hn (.inr e)⟩
    cases hb : blt f.1 x.1 with
    | true =>
      rw [if_pos rfl]
      exact List.pairwise_cons.2 ⟨fun y hy => by
        rcases List.mem_cons.1 hy with rfl | hy
        · exact hb
        · exact blt_trans hb (h'.1 y hy), h⟩
    | false =>
      rw [if_neg (by simp)]
      refine List.pairwise_cons.2 ⟨fun y hy => ?_, FSorted.fins h'.2 hn2.2⟩
      rcases List.mem_cons.1 ((fins_perm f l).mem_iff.1 hy) with rfl | hy
      · exact blt_total hb hn2.1
      · exact h'.1 y hy
theorem FSorted.fput {fs : FS} (h : FSorted fs) (n : ByteArray) (b : List UInt8) : FSorted (fput fs n b) := (h.fdel n).fins (fdel_not_mem fs n)
theorem fdel_cons (x : ByteArray × List UInt8) (l : FS) (n : ByteArray) : fdel (x :: l) n = if x.1 = n then fdel l n else x :: fdel l n := by
  unfold fdel
  rw [List.filter_cons]
  by_cases h : x.1 = n <;> simp [h]
theorem fins_ahead {l : FS} {f : ByteArray × List UInt8} (h : ∀ y ∈ l, blt f.1 y.1 = true) : fins l f = f :: l := by
  cases l with
  | nil => rfl
  | cons y l => rw [fins_cons, if_pos (h y (List.mem_cons_self ..))]
/-- A file more and another one less: in either order. -/
theorem fdel_fins {f : ByteArray × List UInt8} {n : ByteArray} (hne : f.1 ≠ n) : ∀ {l : FS}, FSorted l → fdel (fins l f) n = fins (fdel l n) f
  | [], _ => by simp [fins, fdel, hne]
  | x :: l, h => by
    have h' := List.pairwise_cons.1 h
    rw [fdel_cons, fins_cons]
    cases hb : blt f.1 x.1 with
    | true =>
      rw [if_pos rfl]
      rw [fdel_cons, if_neg hne, fdel_cons]
      split
      · exact (fins_ahead (fun y hy => blt_trans hb (h'.1 y (List.mem_filter.1 hy).1))).symm
      · rw [fins_cons, hb, if_pos rfl]
    | false =>
      rw [if_neg (by simp)]
      rw [fdel_cons]
      split
      · exact fdel_fins hne h'.2
      · rw [fins_cons, hb, if_neg (by simp), fdel_fins hne h'.2]
theorem fdel_comm (l : FS) (a b : ByteArray) : fdel (fdel l a) b = fdel (fdel l b) a := by
  unfold fdel
  rw [List.filter_filter, List.filter_filter]
  congr 1
  funext p
  exact Bool.and_comm _ _
theorem fdel_twice (l : FS) (a : ByteArray) : fdel (fdel l a) a = fdel l a := by
  unfold fdel
  rw [List.filter_filter]
  congr 1
  funext p
  simp

/-- A change done, as the document's list has it. -/
def rdoCh (fs : FS) (c : Ch) : FS :=
  if c.kind = 0 then fins fs (c.a, [])
  else if c.kind = 1 then fins (fdel fs c.a) (c.a, (fget fs c.a).getD [] ++ c.p)
  else if c.kind = 2 then fdel fs c.a
  else fins (fdel (fdel fs c.a) c.b) (c.b, (fget fs c.a).getD [])
/-- A change that may be done: the document's Do does what the disk's do does. -/
def May (fs : FS) (c : Ch) : Prop := (0 ≤ c.kind ∧ c.kind ≤ 3) ∧ (c.kind = 0 → fget fs c.a = none) ∧ (c.kind ≠ 0 → (fget fs c.a).isSome = true)
theorem fget_none_mem {fs : FS} {n : ByteArray} (h : fget fs n = none) : n ∉ fs.map (·.1) := by
  intro hm
  obtain ⟨p, hp, rfl⟩ := List.mem_map.1 hm
  unfold fget at h
  rw [Option.map_eq_none_iff, List.find?_eq_none] at h
  exact h p hp (by simp)
theorem rdo_do {fs : FS} (hs : FSorted fs) {c : Ch} (h : May fs c) : rdoCh fs c = doCh fs c := by
  obtain ⟨⟨h0, h3⟩, h1, h2⟩ := h
  unfold rdoCh doCh
  by_cases k0 : c.kind = 0
  · rw [if_pos k0, if_pos k0]
    unfold fput
    rw [fdel_absent (fget_none_mem (h1 k0))]
  rw [if_neg k0, if_neg k0]
  by_cases k1 : c.kind = 1
  · rw [if_pos k1, if_pos k1]; rfl
  rw [if_neg k1, if_neg k1]
  by_cases k2 : c.kind = 2
  · rw [if_pos k2, if_pos k2]
  rw [if_neg k2, if_neg k2, if_pos (by omega)]
  by_cases e : c.a = c.b
  · rw [if_pos e, e, fdel_twice]; rfl
  · rw [if_neg e]
    unfold fput
    rw [fdel_fins (fun e' => e e'.symm) (hs.fdel _), fdel_comm]
theorem FSorted.doCh {fs : FS} (h : FSorted fs) (c : Ch) : FSorted (doCh fs c) := by
  unfold Go.Proofs.Ytlinkpjneehnbaa.doCh
  split
  · exact h.fput _ _
  · split
    · exact h.fput _ _
    · split
      · exact h.fdel _
      · split
        · split
          · exact h.fput _ _
          · exact (h.fput _ _).fdel _
        · exact h
theorem FSorted.fold : ∀ (l : List Ch) {fs : FS}, FSorted fs → FSorted (l.foldl Go.Proofs.Ytlinkpjneehnbaa.doCh fs)
  | [], _, h => h
  | c :: l, _, h => FSorted.fold l (h.doCh c)

/-! ### A name's place -/
def findOf (fs : FS) (n : ByteArray) : Option Nat := fs.findIdx? (fun p => p.1 = n)
theorem findOf_some {fs : FS} {n : ByteArray} {i : Nat} (h : findOf fs n = some i) : ∃ x, fs[i]? = some (n, x) ∧ fget fs n = some x := by
  unfold findOf at h
  rw [List.findIdx?_eq_some_iff_getElem] at h
  obtain ⟨hi, h1, h2⟩ := h
  simp at h1
  refine ⟨fs[i].2, by rw [List.getElem?_eq_getElem hi, ← h1], ?_⟩
  unfold fget
  rw [List.find?_eq_some_iff_getElem.2 ⟨by simpa using h1, i, hi, rfl, fun j hj => by simpa using h2 j hj⟩]
  rfl
theorem findOf_none {fs : FS} {n : ByteArray} : findOf fs n = none ↔ fget fs n = none := by
  unfold findOf fget
  rw [List.findIdx?_eq_none_iff, Option.map_eq_none_iff, List.find?_eq_none]
  constructor <;> intro h x hx <;> have := h x hx <;> simpa using this
/-- As a number. -/
def findI (fs : FS) (n : ByteArray) : Int := match findOf fs n with | some i => (i : Int) | none => -1
theorem findI_here {fs : FS} {n : ByteArray} {k : Nat} {p : ByteArray × List UInt8} (hp : fs[k]? = some p) (hne : ∀ (j : Nat) (q : ByteArray × List UInt8), j < k → fs[j]? = some q → q.1 ≠ n) (he : p.1 = n) : findI fs n = k := by
  obtain ⟨hk, rfl⟩ := List.getElem?_eq_some_iff.1 hp
  have : findOf fs n = some k := by
    unfold findOf
    rw [List.findIdx?_eq_some_iff_getElem]
    exact ⟨hk, by simpa using he, fun j hj => by
      have := hne j fs[j] hj (List.getElem?_eq_getElem (by omega))
      simpa using this⟩
  unfold findI
  rw [this]
theorem findI_none {fs : FS} {n : ByteArray} (hne : ∀ (j : Nat) (q : ByteArray × List UInt8), fs[j]? = some q → q.1 ≠ n) : findI fs n = -1 := by
  have : findOf fs n = none := by
    unfold findOf
    rw [List.findIdx?_eq_none_iff]
    intro x hx
    obtain ⟨j, hj⟩ := List.mem_iff_getElem?.1 hx
    have := hne j x hj
    simpa using this
  unfold findI
  rw [this]
theorem findI_neg (fs : FS) (n : ByteArray) : (findI fs n < 0) = (fget fs n = none) := by
  rw [← findOf_none]
  unfold findI
  cases findOf fs n with
  | none => simp
  | some i => simp
theorem findI_lt (fs : FS) (n : ByteArray) : findI fs n < (fs.length : Int) ∧ -1 ≤ findI fs n := by
  unfold findI
  cases h : findOf fs n with
  | none => simp only; omega
  | some i =>
    obtain ⟨x, hx, _⟩ := findOf_some h
    have := (List.getElem?_eq_some_iff.1 hx).1
    simp only; omega
theorem findI_get {fs : FS} {n : ByteArray} (h : (fget fs n).isSome = true) : ∃ (i : Nat), findI fs n = i ∧ fs[i]? = some (n, (fget fs n).getD []) := by
  cases hf : findOf fs n with
  | none => rw [findOf_none] at hf; rw [hf] at h; cases h
  | some i =>
    obtain ⟨x, hx, hg⟩ := findOf_some hf
    refine ⟨i, by unfold findI; rw [hf], by rw [hg]; exact hx⟩

/-! ### What the loops keep -/
theorem fins_step {l : FS} {f : ByteArray × List UInt8} {k : Nat} {p : ByteArray × List UInt8} (hp : l[k]? = some p) (out : FS) (h : fins l f = out ++ fins (l.drop k) f) :
    fins l f = if blt f.1 p.1 then (out ++ [f] ++ [p]) ++ l.drop (k + 1) else (out ++ [p]) ++ fins (l.drop (k + 1)) f := by
  obtain ⟨hk, rfl⟩ := List.getElem?_eq_some_iff.1 hp
  rw [h, List.drop_eq_getElem_cons hk, fins_cons]
  split <;> simp
theorem drop_step {l out : FS} {k : Nat} {p : ByteArray × List UInt8} (hp : l[k]? = some p) {r : FS} (h : r = out ++ l.drop k) : r = (out ++ [p]) ++ l.drop (k + 1) := by
  obtain ⟨hk, rfl⟩ := List.getElem?_eq_some_iff.1 hp
  rw [h, List.drop_eq_getElem_cons hk]; simp
theorem fdel_step {l out : FS} {n : ByteArray} {k : Nat} {p : ByteArray × List UInt8} (hp : l[k]? = some p) (h : fdel l n = out ++ fdel (l.drop k) n) :
    fdel l n = (if p.1 = n then out else out ++ [p]) ++ fdel (l.drop (k + 1)) n := by
  obtain ⟨hk, rfl⟩ := List.getElem?_eq_some_iff.1 hp
  rw [h, List.drop_eq_getElem_cons hk, fdel_cons]
  split <;> simp
theorem used_step {l : FS} {k : Nat} {p : ByteArray × List UInt8} (hp : l[k]? = some p) : used (l.take (k + 1)) = used (l.take k) + p.2.length := by
  induction l generalizing k with
  | nil => simp at hp
  | cons x l ih =>
    cases k with
    | zero => simp at hp; subst hp; simp [used]
    | succ k =>
      have := ih (k := k) (by simpa using hp)
      simp only [List.take_succ_cons, used, this]
      omega
theorem used_take_le (l : FS) : ∀ (k : Nat), used (l.take k) ≤ used l := by
  induction l with
  | nil => intro k; simp [used]
  | cons x l ih =>
    intro k
    cases k with
    | zero => simp [used]
    | succ k =>
      have := ih k
      simp only [List.take_succ_cons, used]
      omega
end Go.Proofs.Ytlinkpjneehnbaa
