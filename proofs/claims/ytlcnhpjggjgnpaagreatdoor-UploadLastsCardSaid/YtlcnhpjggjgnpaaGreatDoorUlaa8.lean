/- A part of the proof. -/
import Derived.Test.YtlcnhpjggjgnpaaGreatDoorUlaa2
import Derived.Test.YtlcnhpjggjgnpaaGreatDoorUlaa3
import Derived.Test.YtlcnhpjggjgnpaaGreatDoorUlaa5
namespace Go.Proofs.YtlcnhpjggjgnpaaGreatDoor
set_option linter.unusedVariables false
open Go.RowKit Go.MapKept
def hexd (n : Nat) : UInt8 := if n < 10 then UInt8.ofNat (48 + n) else UInt8.ofNat (87 + n)
def hexOf (l : List UInt8) : List UInt8 := l.flatMap (fun c => [hexd (c.toNat / 16), hexd (c.toNat % 16)])
theorem hexOf_append (l m : List UInt8) : hexOf (l ++ m) = hexOf l ++ hexOf m := by simp [hexOf]
theorem hexOf_length (l : List UInt8) : (hexOf l).length = 2 * l.length := by
 induction l with
 | nil => rfl
 | cons c l ih => rw [show c :: l = [c] ++ l from rfl, hexOf_append, List.length_append, ih]; simp [hexOf]; omega
theorem nat_mask4 (n : Nat) : n &&& 15 = n % 16 := Nat.and_two_pow_sub_one_eq_mod n 4
theorem hexd_run (n : Nat) (hn : n < 16) (W : World) : (Instr.index 9 (.string ⟨#[48, 49, 50, 51, 52, 53, 54, 55, 56, 57, 97, 98, 99, 100, 101, 102]⟩) (.int .u8 (n : Int))).run Tryz.prog W = .ok (.int .u8 ((hexd n).toNat : Int)) W := by
 rw [run_index_string W 9 _ _ _ Tryz.underlying9]
 match n, hn with
 | 0, _ => rfl
 | 1, _ => rfl
 | 2, _ => rfl
 | 3, _ => rfl
 | 4, _ => rfl
 | 5, _ => rfl
 | 6, _ => rfl
 | 7, _ => rfl
 | 8, _ => rfl
 | 9, _ => rfl
 | 10, _ => rfl
 | 11, _ => rfl
 | 12, _ => rfl
 | 13, _ => rfl
 | 14, _ => rfl
 | 15, _ => rfl
 | n + 16, hn => omega
theorem Reads.text {w : World} {v : Value} {l : List UInt8} (h : Reads w v l) : (convert 22 9 v).run Tryz.prog w = .ok (.string ⟨l.toArray⟩) w := by
 rcases h with ⟨rfl, rfl⟩ | ⟨x, c, rfl, h1, h2, h3⟩
 ·exact Lib.run_convert_nil_bytes w 22 9 5 0 Tryz.underlying22 Tryz.underlying5 Tryz.underlying9
 ·refine run_convert_bytes_back w 22 9 5 x c l Tryz.underlying22 Tryz.underlying5 Tryz.underlying9 (fun j hj => ?_)
  exact h3 j (u8v l[j]) (by simp [hj])
theorem two_bytes (w : World) (c d : UInt8) : Reads (w.alloc (.cells #[.int .u8 (c.toNat : Int), .int .u8 (d.toNat : Int)] 5)) (.slice (some ⟨w.heap.size, 0, none⟩) 2 2) [c, d] := by
 refine .inr ⟨_, 2, rfl, Nat.le_refl _, by simp [maxLen], fun j u hu => ?_⟩
 rw [Addr.add_lit]
 match j, hu with
 | 0, hu =>
  simp only [List.map_cons, List.map_nil, List.getElem?_cons_zero, Option.some.injEq] at hu
  rw [← hu]
  exact cell_at (heap_alloc_new w _) rfl
 | 1, hu =>
  simp only [List.map_cons, List.map_nil, List.getElem?_cons_succ, List.getElem?_cons_zero, Option.some.injEq] at hu
  rw [← hu]
  exact cell_at (heap_alloc_new w _) rfl
 | j + 2, hu => simp at hu
set_option maxRecDepth 100000 in
set_option maxHeartbeats 1000000 in
theorem hex_calls {w : World} {v : Value} {l : List UInt8} (h : Reads w v l) (hb : l.length ≤ 65536) : Calls Tryz.prog 71 #[v] w (QuietP w (.string ⟨(hexOf l).toArray⟩)) := by
 obtain ⟨a, c, rfl, hc1, hc2⟩ := h.form
 have H := Lib.hid h
 have j9 : (l.length : Int) ≤ 65536 := by omega
 clear h
 obtain ⟨i0, hi, hz0, hz1, hz2⟩ := info_parts info_u8
 obtain ⟨w1, hmk, ho1, hg1⟩ := run_make_own (P := Tryz.prog) w w.heap.size 22 5 i0 _ 1 Tryz.underlying22 hi hz0 hz1 .i64 .i64 (2 * l.length) (by rw [hz2]; omega) (by unfold maxLen; omega) (Nat.le_refl _)
 have hmk2 : (Instr.makeSlice 22 (.int .i64 0) (.int .i64 (2 * (l.length : Int)))).run Tryz.prog w = .ok (.slice (some ⟨w.heap.size, 0, none⟩) 0 (2 * l.length)) w1 := by
  have : ((2 * l.length : Nat) : Int) = 2 * (l.length : Int) := by omega
  rw [← this]; exact hmk
 have hO : Owns w1 w.heap.size (.slice (some ⟨w.heap.size, 0, none⟩) 0 (2 * l.length)) [] := ho1
 have hq1 : Keeps (fun _ => False) w w1 := (Keeps.of_grown hg1).mono (fun b _ e => by cases e)
 have HO := Lib.hid hO
 have HQ := Lib.hid hq1
 have HB := Lib.hid hb
 clear hmk hO hq1 ho1 hg1 hi hz0 hz1 hz2 hb
 go_enter Tryz.func71, Tryz.ntmps71
 go_wp2_with fail
 go_loopw [3, 12] (fun av i wr => ∃ k : Nat, k ≤ l.length ∧ i = .int .i64 (k : Int) ∧ Owns wr w.heap.size av (hexOf (l.take k)) ∧ Keeps (fun _ => False) w wr) (fun _ i _ => l.length - (intOf i).toNat)
 case atStart => exact ⟨0, Nat.zero_le _, rfl, HO.out, HQ.out⟩
 case round =>
  obtain ⟨k, hk, rfl, ho, hq⟩ := hrel
  clear hmk2
  obtain ⟨aa, ac, rfl, q1, q2⟩ := ho.bytes.form
  by_cases hlt : k < l.length
  ·obtain ⟨x, rfl, hx⟩ := (H.out.keep hq).cell rfl hlt
   have j0 : (0 : Int) ≤ k := by omega
   have j1 : (k : Int) < l.length := by omega
   have hcl := l[k].toNat_lt
   have hnx : hexOf (l.take (k + 1)) = hexOf (l.take k) ++ [hexd (l[k].toNat / 16), hexd (l[k].toNat % 16)] := by rw [List.take_succ_eq_append_getElem hlt, hexOf_append]; rfl
   have hbb := HB.out
   have hq2 : Keeps (fun _ => False) wr (wr.drew.alloc (.cells #[.int .u8 ((hexd (l[k].toNat / 16)).toNat : Int), .int .u8 ((hexd (l[k].toNat % 16)).toNat : Int)] 5)) := ((Keeps.refl _ wr).drew).alloc _
   have hqz := hq.size
   obtain ⟨v', w3, hrun, ho3, hk3⟩ := Owns.grow (by simp only [World.size_alloc, World.drew]; omega) (ho.keep hq2) (two_bytes wr.drew (hexd (l[k].toNat / 16)) (hexd (l[k].toNat % 16))) (by rw [hexOf_length, List.length_take]; simp only [List.length_cons, List.length_nil]; omega)
   rw [← hnx] at ho3
   have hq3 : Keeps (fun _ => False) w w3 := (hq.trans hq2 (fun _ _ e => e)).trans hk3 (fun b hb e => by have := owns_lt ho b e; omega)
   obtain ⟨aa', ac', rfl, _, _⟩ := ho3.bytes.form
   have HR := Lib.hid (⟨k + 1, by omega, rfl, ho3, hq3⟩ : ∃ k' : Nat, k' ≤ l.length ∧ Value.int .i64 ((k + 1 : Nat) : Int) = .int .i64 (k' : Int) ∧ Owns w3 w.heap.size _ (hexOf (l.take k')) ∧ Keeps (fun _ => False) w w3)
   have Hrun := Lib.hid hrun
   have e1 : (l[k].toNat : Int) / 16 = ((l[k].toNat / 16 : Nat) : Int) := by omega
   have e2 : bits .and .u8 (l[k].toNat : Int) 15 = ((l[k].toNat % 16 : Nat) : Int) := by
    have := u8_and_nat l[k].toNat 15 hcl (by omega)
    rw [nat_mask4] at this; exact this
   have d1 := fun W => hexd_run (l[k].toNat / 16) (by omega) W
   have d2 := fun W => hexd_run (l[k].toNat % 16) (by omega) W
   generalize l[k].toNat / 16 = n1 at e1 d1 Hrun
   generalize l[k].toNat % 16 = n2 at e2 d2 Hrun
   generalize (hexd n1).toNat = m1 at d1 Hrun
   generalize (hexd n2).toNat = m2 at d2 Hrun
   generalize l[k].toNat = ck at hx hcl e1 e2
   clear ho hq hq2 ho3 hk3 hq3 hrun hnx hbb
   go_wp2_with fail
   go_region_law (first | (refine step_append_run rfl _ _ _ _ rfl rfl rfl Hrun.out ?_) | fail)
   all_goals
    clear d1 d2 e1 e2 hx
    go_wp2_with fail
    go_roundw
    case rel => exact HR.out
    case measure => simp [intOf]; omega
  ·obtain rfl : k = l.length := by omega
   rw [List.take_length] at ho
   have hst := ho.bytes.reads.text
   have e : (l.take l.length) = l := List.take_length
   rw [e] at *
   have HK := Lib.hid hq
   clear hlt hk hq ho
   go_wp2_with fail
   go_ret
   exact ⟨rfl, HK.out⟩
set_option linter.unusedSimpArgs false
def keyOf (x : Nat) : ByteArray := (⟨#[103, 47]⟩ : ByteArray) ++ (⟨(hexOf (putOf x 4)).toArray⟩ : ByteArray)
theorem bytesLess_trans : ∀ {a b c : List UInt8}, Op.bytesLess a b = true → Op.bytesLess b c = true → Op.bytesLess a c = true
 | [], [], _, h, _ => by simp [Op.bytesLess] at h
 | [], _ :: _, [], _, h => by simp [Op.bytesLess] at h
 | [], _ :: _, _ :: _, _, _ => rfl
 | _ :: _, [], _, h, _ => by simp [Op.bytesLess] at h
 | _ :: _, _ :: _, [], _, h => by simp [Op.bytesLess] at h
 | x :: a, y :: b, z :: c, h, k => by
  simp only [Op.bytesLess, Bool.or_eq_true, Bool.and_eq_true, decide_eq_true_eq, beq_iff_eq] at h k ⊢
  rcases h with h | ⟨rfl, h⟩
  ·rcases k with k | ⟨rfl, k⟩
   ·exact .inl (UInt8.lt_trans h k)
   ·exact .inl h
  ·rcases k with k | ⟨rfl, k⟩
   ·exact .inl k
   ·exact .inr ⟨rfl, bytesLess_trans h k⟩
theorem bytesLess_irrefl : ∀ (a : List UInt8), Op.bytesLess a a = false
 | [] => rfl
 | x :: a => by
  simp [Op.bytesLess, bytesLess_irrefl a]
theorem bytesLess_total : ∀ {a b : List UInt8}, Op.bytesLess a b = false → a ≠ b → Op.bytesLess b a = true
 | [], [], _, h => absurd rfl h
 | [], _ :: _, h, _ => by simp [Op.bytesLess] at h
 | _ :: _, [], _, _ => rfl
 | x :: a, y :: b, h, k => by
  simp only [Op.bytesLess, Bool.or_eq_false_iff, Bool.and_eq_false_iff, decide_eq_false_iff_not, beq_eq_false_iff_ne, Bool.or_eq_true, Bool.and_eq_true, decide_eq_true_eq, beq_iff_eq] at h ⊢
  by_cases e : x = y
  ·subst e
   refine .inr ⟨rfl, bytesLess_total ?_ (fun e => k (by rw [e]))⟩
   rcases h.2 with h | h
   ·exact absurd rfl h
   ·exact h
  ·rcases UInt8.lt_or_lt_of_ne e with h2 | h2
   ·exact absurd h2 h.1
   ·exact .inl h2
theorem toList_inj {a b : ByteArray} (h : a.toList = b.toList) : a = b := by
 have := (bytes_beq a b).1 (by rw [beq_toListBytes, h]; simp)
 exact this
theorem blt_trans {a b c : ByteArray} (h : blt a b = true) (k : blt b c = true) : blt a c = true := bytesLess_trans h k
theorem blt_irrefl (a : ByteArray) : blt a a = false := bytesLess_irrefl _
theorem blt_total {a b : ByteArray} (h : blt a b = false) (k : a ≠ b) : blt b a = true := bytesLess_total h (fun e => k (toList_inj e))
def FSorted (fs : FS) : Prop := fs.Pairwise (fun x y => blt x.1 y.1 = true)
theorem FSorted.nil : FSorted [] := List.Pairwise.nil
theorem FSorted.fdel {fs : FS} (h : FSorted fs) (n : ByteArray) : FSorted (fdel fs n) := h.sublist List.filter_sublist
theorem FSorted.nodup {fs : FS} (h : FSorted fs) : FNodup fs := by
 unfold FNodup
 rw [List.Nodup, List.pairwise_map]
 exact List.Pairwise.imp (fun {x y} hxy e => by rw [e, blt_irrefl] at hxy; cases hxy) h
theorem fins_cons (x : ByteArray × List UInt8) (l : FS) (f : ByteArray × List UInt8) : fins (x :: l) f = if blt f.1 x.1 then f :: x :: l else x :: fins l f := rfl
theorem FSorted.fins : ∀ {fs : FS}, FSorted fs → ∀ {f : ByteArray × List UInt8}, f.1 ∉ fs.map (·.1) → FSorted (fins fs f)
 | [], _, f, _ => List.pairwise_singleton _ _
 | x :: l, h, f, hn => by
  have h' := List.pairwise_cons.1 h
  rw [fins_cons]
  have hn2 : f.1 ≠ x.1 ∧ f.1 ∉ l.map (·.1) := by
   rw [List.map_cons, List.mem_cons] at hn
   exact ⟨fun e => hn (.inl e), fun e => hn (.inr e)⟩
  cases hb : blt f.1 x.1 with
  | true =>
   rw [if_pos rfl]
   exact List.pairwise_cons.2 ⟨fun y hy => by
    rcases List.mem_cons.1 hy with rfl | hy
    ·exact hb
    ·exact blt_trans hb (h'.1 y hy), h⟩
  | false =>
   rw [if_neg (by simp)]
   refine List.pairwise_cons.2 ⟨fun y hy => ?_, FSorted.fins h'.2 hn2.2⟩
   rcases List.mem_cons.1 ((fins_perm f l).mem_iff.1 hy) with rfl | hy
   ·exact blt_total hb hn2.1
   ·exact h'.1 y hy
theorem FSorted.fput {fs : FS} (h : FSorted fs) (n : ByteArray) (b : List UInt8) : FSorted (fput fs n b) := (h.fdel n).fins (fdel_not_mem fs n)
def May (fs : FS) (c : Ch) : Prop := (0 ≤ c.kind ∧ c.kind ≤ 3) ∧ (c.kind = 0 → fget fs c.a = none) ∧ (c.kind ≠ 0 → (fget fs c.a).isSome = true)
theorem fget_none_mem {fs : FS} {n : ByteArray} (h : fget fs n = none) : n ∉ fs.map (·.1) := by
 intro hm
 obtain ⟨p, hp, rfl⟩ := List.mem_map.1 hm
 unfold fget at h
 rw [Option.map_eq_none_iff, List.find?_eq_none] at h
 exact h p hp (by simp)
theorem FSorted.doCh {fs : FS} (h : FSorted fs) (c : Ch) : FSorted (doCh fs c) := by
 unfold Go.Proofs.YtlcnhpjggjgnpaaGreatDoor.doCh
 split
 ·exact h.fput _ _
 ·split
  ·exact h.fput _ _
  ·split
   ·exact h.fdel _
   ·split
    ·split
     ·exact h.fput _ _
     ·exact (h.fput _ _).fdel _
    ·exact h
theorem FSorted.fold : ∀ (l : List Ch) {fs : FS}, FSorted fs → FSorted (l.foldl Go.Proofs.YtlcnhpjggjgnpaaGreatDoor.doCh fs)
 | [], _, h => h
 | c :: l, _, h => FSorted.fold l (h.doCh c)
def findOf (fs : FS) (n : ByteArray) : Option Nat := fs.findIdx? (fun p => p.1 = n)
theorem findOf_some {fs : FS} {n : ByteArray} {i : Nat} (h : findOf fs n = some i) : ∃ x, fs[i]? = some (n, x) ∧ fget fs n = some x := by
 unfold findOf at h
 rw [List.findIdx?_eq_some_iff_getElem] at h
 obtain ⟨hi, h1, h2⟩ := h
 simp at h1
 refine ⟨fs[i].2, by rw [List.getElem?_eq_getElem hi, ← h1], ?_⟩
 unfold fget
 rw [List.find?_eq_some_iff_getElem.2 ⟨by simpa using h1, i, hi, rfl, fun j hj => by simpa using h2 j hj⟩]
 rfl
theorem findOf_none {fs : FS} {n : ByteArray} : findOf fs n = none ↔ fget fs n = none := by
 unfold findOf fget
 rw [List.findIdx?_eq_none_iff, Option.map_eq_none_iff, List.find?_eq_none]
 constructor <;> intro h x hx <;> have := h x hx <;> simpa using this
def findI (fs : FS) (n : ByteArray) : Int := match findOf fs n with | some i => (i : Int) | none => -1
theorem findI_neg (fs : FS) (n : ByteArray) : (findI fs n < 0) = (fget fs n = none) := by
 rw [← findOf_none]
 unfold findI
 cases findOf fs n with
 | none => simp
 | some i => simp
theorem findI_get {fs : FS} {n : ByteArray} (h : (fget fs n).isSome = true) : ∃ (i : Nat), findI fs n = i ∧ fs[i]? = some (n, (fget fs n).getD []) := by
 cases hf : findOf fs n with
 | none => rw [findOf_none] at hf; rw [hf] at h; cases h
 | some i =>
  obtain ⟨x, hx, hg⟩ := findOf_some hf
  refine ⟨i, by unfold findI; rw [hf], by rw [hg]; exact hx⟩
theorem rrow_keep {w w' : World} {base e n size : Nat} {v : Value} {xs : List Value} (h : w.ownsRow base e size v n xs) (hr : ∀ b, v.ownBlock = some b → w'.heap[b]? = w.heap[b]?) : w'.ownsRow base e size v n xs := by
 obtain ⟨h1, h2⟩ := h
 refine ⟨h1, h2.imp id ?_⟩
 rintro ⟨g, cap, cur, rfl, hg, hb, rest⟩
 exact ⟨g, cap, cur, rfl, hg, (hr g rfl).trans hb, rest⟩
theorem ownsRow_base0 {w : World} {base e n size : Nat} {v : Value} {xs : List Value} (h : w.ownsRow base e size v n xs) {base' : Nat} (hb : base' ≤ base) : w.ownsRow base' e size v n xs := by
 obtain ⟨h1, h2⟩ := h
 refine ⟨h1, h2.imp id ?_⟩
 rintro ⟨g, cap, cur, rfl, hg, h3⟩
 exact ⟨g, cap, cur, rfl, by omega, h3⟩
def mayOf (m : DM) (c : Ch) : Int :=
 if c.kind = 0 then (if isName c.a then (if findI m.now c.a < 0 then (if (4096 : Int) ≤ (m.now.length : Int) then 4 else 0) else 7) else 1)
 else if findI m.now c.a < 0 then 6
 else if c.kind = 1 then (if (1048576 : Int) < (c.p.length : Int) then 8 else if m.room - (used m.now : Int) < (c.p.length : Int) then 4 else 0)
 else if c.kind = 3 then (if isName c.b then 0 else 1) else 0
theorem mayOf_may {m : DM} {c : Ch} (hk : 0 ≤ c.kind ∧ c.kind ≤ 3) (h : mayOf m c = 0) : May m.now c := by
 have hn := findI_neg m.now c.a
 unfold mayOf at h
 refine ⟨hk, fun h0 => ?_, fun h0 => ?_⟩
 ·rw [if_pos h0] at h
  split at h
  ·split at h
   ·rename_i h2; exact hn ▸ h2
   ·cases h
  ·cases h
 ·rw [if_neg h0] at h
  split at h
  ·cases h
  ·rename_i h2
   rw [hn] at h2
   cases hg : fget m.now c.a with
   | none => exact absurd hg h2
   | some _ => rfl
def stepOf (m : DM) (c : Ch) : Int × DM := if m.down then (5, m) else if mayOf m c = 0 then doesOf m c else (mayOf m c, m)
theorem findI_some (fs : FS) (n : ByteArray) : (fget fs n).isSome = !decide (findI fs n < 0) := by
 have := findI_neg fs n
 cases hg : fget fs n with
 | none => rw [hg] at this; simp [this]
 | some x => rw [hg] at this; simp [this]
theorem step_create (m : DM) (n : ByteArray) : stepOf m ⟨0, n, ⟨#[]⟩, []⟩ = createOf m n := by
 unfold stepOf createOf mayOf
 rw [findI_some]
 cases m.down with
 | true => rfl
 | false =>
  cases isName n with
  | false => rfl
  | true =>
   by_cases h1 : findI m.now n < 0
   ·by_cases h2 : (4096 : Int) ≤ (m.now.length : Int)
    ·simp [h1, h2]
    ·simp [h1, h2]
   ·simp [h1]
theorem step_append (m : DM) (n : ByteArray) (p : List UInt8) : stepOf m ⟨1, n, ⟨#[]⟩, p⟩ = appendOf m n p := by
 unfold stepOf appendOf mayOf thereOf
 rw [findI_some]
 cases m.down with
 | true => simp
 | false =>
  by_cases h1 : findI m.now n < 0
  ·simp [h1]
  ·by_cases h2 : (1048576 : Int) < (p.length : Int)
   ·simp [h1, h2]
   ·by_cases h3 : m.room - (used m.now : Int) < (p.length : Int)
    ·simp [h1, h2, h3]
    ·simp [h1, h2, h3]
theorem step_remove (m : DM) (n : ByteArray) : stepOf m ⟨2, n, ⟨#[]⟩, []⟩ = removeOf m n := by
 unfold stepOf removeOf mayOf thereOf
 rw [findI_some]
 cases m.down with
 | true => simp
 | false =>
  by_cases h1 : findI m.now n < 0
  ·simp [h1]
  ·simp [h1]
theorem step_rename (m : DM) (n k : ByteArray) : stepOf m ⟨3, n, k, []⟩ = renameOf m n k := by
 unfold stepOf renameOf mayOf thereOf
 rw [findI_some]
 cases m.down with
 | true => simp
 | false =>
  by_cases h1 : findI m.now n < 0
  ·simp [h1]
  ·cases isName k <;> simp [h1]
theorem length_fins (fs : FS) (f : ByteArray × List UInt8) : (fins fs f).length = fs.length + 1 := by
 rw [(fins_perm f fs).length_eq]; rfl
theorem length_doCh (fs : FS) (c : Ch) : (doCh fs c).length ≤ fs.length + 1 := by
 have h1 : ∀ n b, (fput fs n b).length ≤ fs.length + 1 := fun n b => by
  unfold fput
  rw [length_fins]
  have : (fdel fs n).length ≤ fs.length := List.length_filter_le _ _
  omega
 have h2 : ∀ l n, (fdel l n).length ≤ l.length := fun l n => List.length_filter_le _ _
 unfold doCh
 split
 ·exact h1 _ _
 ·split
  ·exact h1 _ _
  ·split
   ·exact Nat.le_trans (h2 _ _) (Nat.le_succ _)
   ·split
    ·split
     ·exact h1 _ _
     ·exact Nat.le_trans (h2 _ _) (h1 _ _)
    ·exact Nat.le_succ _
theorem length_fold : ∀ (l : List Ch) (fs : FS), (l.foldl doCh fs).length ≤ fs.length + l.length
 | [], fs => Nat.le_refl _
 | c :: l, fs => by
  have h1 := length_fold l (doCh fs c)
  have h2 := length_doCh fs c
  rw [List.foldl_cons, List.length_cons]
  omega
def NamesOk (fs : FS) : Prop := ∀ p ∈ fs, p.1.size ≤ 160
theorem NamesOk.fdel {fs : FS} (h : NamesOk fs) (n : ByteArray) : NamesOk (fdel fs n) := fun p hp => h p (List.mem_filter.1 hp).1
theorem NamesOk.fput {fs : FS} (h : NamesOk fs) (n : ByteArray) (b : List UInt8) (hn : n.size ≤ 160) : NamesOk (fput fs n b) := fun p hp => by
 rcases List.mem_cons.1 ((fins_perm (n, b) (Go.Proofs.YtlcnhpjggjgnpaaGreatDoor.fdel fs n)).mem_iff.1 hp) with rfl | hp
 ·exact hn
 ·exact h.fdel n p hp
def ChOk (c : Ch) : Prop := c.a.size ≤ 160 ∧ c.b.size ≤ 160
theorem NamesOk.doCh {fs : FS} (h : NamesOk fs) {c : Ch} (hc : ChOk c) : NamesOk (doCh fs c) := by
 unfold Go.Proofs.YtlcnhpjggjgnpaaGreatDoor.doCh
 split
 ·exact h.fput _ _ hc.1
 ·split
  ·exact h.fput _ _ hc.1
  ·split
   ·exact h.fdel _
   ·split
    ·split
     ·exact h.fput _ _ hc.2
     ·exact (h.fput _ _ hc.2).fdel _
    ·exact h
theorem NamesOk.fold : ∀ (l : List Ch) {fs : FS}, NamesOk fs → (∀ c ∈ l, ChOk c) → NamesOk (l.foldl Go.Proofs.YtlcnhpjggjgnpaaGreatDoor.doCh fs)
 | [], _, h, _ => h
 | c :: l, _, h, hl => NamesOk.fold l (h.doCh (hl c (List.mem_cons_self ..))) (fun x hx => hl x (List.mem_cons_of_mem _ hx))
structure Tidy (m : DM) (n t : Nat) : Prop where
 good : Good m n
 ssure : FSorted m.sure
 len : m.sure.length + m.loose.length ≤ t
 nsure : NamesOk m.sure
 nloose : ∀ c ∈ m.loose, ChOk c
 may : ∀ k c, m.loose[k]? = some c → May ((m.loose.take k).foldl doCh m.sure) c
theorem Tidy.snow {m : DM} {n t : Nat} (h : Tidy m n t) : FSorted m.now := by rw [h.good.now]; exact FSorted.fold _ h.ssure
theorem Tidy.names {m : DM} {n t : Nat} (h : Tidy m n t) : NamesOk m.now := by rw [h.good.now]; exact NamesOk.fold _ h.nsure h.nloose
theorem Tidy.lnow {m : DM} {n t : Nat} (h : Tidy m n t) : m.now.length ≤ t := by
 rw [h.good.now]
 exact Nat.le_trans (length_fold _ _) h.len
theorem Tidy.mono {m : DM} {n t n' t' : Nat} (h : Tidy m n t) (hn : n ≤ n') (ht : t ≤ t') : Tidy m n' t' := ⟨h.good.mono hn, h.ssure, Nat.le_trans h.len ht, h.nsure, h.nloose, h.may⟩
theorem spend_room {m : DM} : (spendOf m).2.room = m.room := by unfold spendOf; split; rfl; split <;> rfl
theorem Tidy.does {m : DM} {n t : Nat} (h : Tidy m n t) (c : Ch) (hm : May m.now c) (hc : ChOk c) (hp : c.p.length ≤ 1048576) (hu : c.kind = 1 → (used m.now : Int) + (c.p.length : Int) ≤ m.room) : Tidy (doesOf m c).2 (n + 1) (t + 1) := by
 have hg := h.good.does c hm.1 hp hu
 have e3 : (spendOf m).2.sure = m.sure := by unfold spendOf; split; rfl; split <;> rfl
 unfold doesOf at hg ⊢
 split at hg
 ·rename_i hf
  rw [if_pos hf]
  exact ⟨hg, h.ssure, by have := h.len; simp only; omega, h.nsure, h.nloose, h.may⟩
 ·rename_i hf
  rw [if_neg hf]
  refine ⟨hg, ?_, ?_, ?_, ?_, ?_⟩ <;> simp only [e3]
  ·exact h.ssure
  ·have := h.len; simp; omega
  ·exact h.nsure
  ·intro x hx
   rcases List.mem_append.1 hx with hx | hx
   ·exact h.nloose x hx
   ·simp at hx; subst hx; exact hc
  ·intro k x hx
   by_cases hk : k < m.loose.length
   ·rw [List.getElem?_append_left hk] at hx
    rw [List.take_append_of_le_length (by omega)]
    exact h.may k x hx
   ·have hk2 : k = m.loose.length := by
     have := (List.getElem?_eq_some_iff.1 hx).1
     simp at this; omega
    subst hk2
    simp at hx
    subst hx
    rw [List.take_left, ← h.good.now]
    exact hm
theorem isName_size {s : ByteArray} (h : isName s = true) : s.size ≤ 160 := by
 unfold isName at h
 have := (Bool.and_eq_true_iff.1 h).2
 have := of_decide_eq_true this
 omega
theorem Tidy.step {m : DM} {n t : Nat} (h : Tidy m n t) (c : Ch) (hk : 0 ≤ c.kind ∧ c.kind ≤ 3) (hp : c.kind ≠ 1 → c.p = []) (hb : c.kind ≠ 3 → c.b.size ≤ 160) : Tidy (stepOf m c).2 (n + 1) (t + 1) := by
 unfold stepOf
 split
 ·exact h.mono (Nat.le_succ _) (Nat.le_succ _)
 ·split
  ·rename_i h0
   have hm := mayOf_may hk h0
   have hin : c.kind ≠ 0 → c.a.size ≤ 160 := fun hk0 => by
    obtain ⟨i, _, hi⟩ := findI_get (hm.2.2 hk0)
    exact h.names _ (List.mem_of_getElem? hi)
   unfold mayOf at h0
   refine h.does c hm ⟨?_, ?_⟩ ?_ ?_
   ·by_cases hk0 : c.kind = 0
    ·rw [if_pos hk0] at h0
     split at h0
     ·rename_i h2; exact isName_size h2
     ·cases h0
    ·exact hin hk0
   ·by_cases hk3 : c.kind = 3
    ·cases hn : isName c.b with
     | true => exact isName_size hn
     | false =>
      exfalso
      by_cases hf : findI m.now c.a < 0
      ·simp [hk3, hf] at h0
      ·simp [hk3, hf, hn] at h0
    ·exact hb hk3
   ·by_cases hk1 : c.kind = 1
    ·rw [if_neg (by omega)] at h0
     split at h0
     ·cases h0
     ·split at h0
      ·cases h0
      ·omega
    ·rw [hp hk1]; simp
   ·intro hk1
    rw [if_neg (by omega)] at h0
    split at h0
    ·cases h0
    ·split at h0
     ·cases h0
     ·split at h0
      ·cases h0
      ·omega
  ·exact h.mono (Nat.le_succ _) (Nat.le_succ _)
theorem Tidy.setFuse {m : DM} {n t : Nat} (h : Tidy m n t) (k : Int) (hk : k ≤ 9223372036854775807) : Tidy (fuseOf m k).2 n t := by
 have hg := h.good.setFuse k hk
 unfold fuseOf at hg ⊢
 split
 ·exact h
 ·rename_i hd
  rw [if_neg hd] at hg
  exact ⟨hg, h.ssure, h.len, h.nsure, h.nloose, h.may⟩
theorem Tidy.sync {m : DM} {n t : Nat} (h : Tidy m n t) : Tidy (syncOf m).2 n t := by
 have hg := h.good.sync
 unfold syncOf at hg ⊢
 split
 ·exact h
 ·rename_i hd
  rw [if_neg hd] at hg
  split
  ·rename_i hf
   rw [if_pos hf] at hg
   exact ⟨hg, h.ssure, h.len, h.nsure, h.nloose, h.may⟩
  ·rename_i hf
   rw [if_neg hf] at hg
   refine ⟨hg, FSorted.fold _ h.ssure, ?_, NamesOk.fold _ h.nsure h.nloose, fun c hc => by simp [synced] at hc, fun k c hc => by simp [synced] at hc⟩
   have h1 := length_fold m.loose m.sure
   have := h.len
   simp only [synced, List.length_nil]
   omega
theorem Tidy.crash {m : DM} {n t : Nat} (h : Tidy m n t) (keep part : Int) : Tidy (crashOf m keep part) 0 t := by
 have hg := h.good.crash keep part
 have hle := clampI_le keep m.loose.length
 have hsub : ∀ c ∈ m.loose.take (clampI keep m.loose.length), ChOk c := fun c hc => h.nloose c (List.mem_of_mem_take hc)
 have h1 : FSorted (crashFs m keep part) ∧ NamesOk (crashFs m keep part) ∧ (crashFs m keep part).length ≤ t := by
  have hl := length_fold (m.loose.take (clampI keep m.loose.length)) m.sure
  have hlen := h.len
  rw [List.length_take] at hl
  unfold crashFs
  simp only
  split
  ·rename_i c hc
   have hlt := (List.getElem?_eq_some_iff.1 hc).1
   split
   ·refine ⟨(FSorted.fold _ h.ssure).doCh _, (NamesOk.fold _ h.nsure hsub).doCh (h.nloose c (List.mem_of_getElem? hc)), ?_⟩
    have := length_doCh ((m.loose.take (clampI keep m.loose.length)).foldl doCh m.sure) { c with p := c.p.take (clampI part c.p.length) }
    omega
   ·exact ⟨FSorted.fold _ h.ssure, NamesOk.fold _ h.nsure hsub, by omega⟩
  ·exact ⟨FSorted.fold _ h.ssure, NamesOk.fold _ h.nsure hsub, by omega⟩
 exact ⟨hg, h1.1, by simpa [crashOf, crashed] using h1.2.2, h1.2.1, fun c hc => by simp [crashOf, crashed] at hc, fun k c hc => by simp [crashOf, crashed] at hc⟩
end Go.Proofs.YtlcnhpjggjgnpaaGreatDoor
namespace Go.Proofs.YtlcnhpjggjgnpaaGreatDoor
set_option linter.unusedVariables false
open Go.RowKit Go.MapKept Go.Deep
theorem reads_nil (w : World) : Reads w (.slice none 0 0) [] := .inl ⟨rfl, rfl⟩
variable {H : Type} {enc : TypeId × Value → H}
theorem in_str {W : World} {n : Nat} {v : Value} {y : DataW H × List MemPlace} (h : DataW.trod enc Tryz.prog W 0 (fun _ => true) true n 9 [v] = some y) : ∃ s : ByteArray, v = .string s ∧ s.size ≤ maxLen := by
 obtain ⟨s, hs, _, hz⟩ := DataW.trod_string Tryz.underlying9 h
 simp at hs
 exact ⟨s, hs, hz⟩
end Go.Proofs.YtlcnhpjggjgnpaaGreatDoor
namespace Go.Proofs.YtlcnhpjggjgnpaaGreatDoor
set_option linter.unusedVariables false
open Go.RowKit Go.MapKept
theorem Reads.cutP {w : World} {a : Option Addr} {n c : Nat} {l : List UInt8} (h : Reads w (.slice a n c) l) (i j : Nat) (hij : i + j ≤ l.length) : Reads w (.slice (if c = i then a else Option.map (fun x => x.add i) a) j (c - i)) ((l.drop i).take j) := by
 cases a with
 | none =>
  rcases h with ⟨e, rfl⟩ | ⟨x, c', e, _⟩
  ·cases e
   simp at hij
   obtain ⟨rfl, rfl⟩ := hij
   exact .inl ⟨rfl, rfl⟩
  ·cases e
 | some x =>
  have h2 := h.cut i j hij
  by_cases hc : c = i
  ·rw [if_pos hc] at h2 ⊢; exact h2
  ·rw [if_neg hc] at h2 ⊢; exact h2
theorem drew_size (w : World) : w.drew.heap.size = w.heap.size := rfl
theorem Reads.headP {w : World} {a : Option Addr} {n c : Nat} {l : List UInt8} (h : Reads w (.slice a n c) l) (j : Nat) (hj : j ≤ l.length) : Reads w (.slice a j c) (l.take j) := by
 have hl : (l.take j).length = j := by rw [List.length_take]; omega
 rcases h with ⟨e, rfl⟩ | ⟨x, c', e, h1, h2, h3⟩
 ·cases e
  have : j = 0 := by simpa using hj
  subst this
  exact .inl ⟨rfl, rfl⟩
 ·cases e
  refine .inr ⟨x, c, by rw [hl], by omega, h2, fun i u hu => h3 i u ?_⟩
  rw [List.getElem?_map, List.getElem?_take] at hu
  split at hu
  ·rw [List.getElem?_map]; exact hu
  ·cases hu
theorem slice_headP (w : World) (a : Option Addr) (n c j : Nat) (h1 : j ≤ c) : (Instr.sliceAt 22 (.slice a n c) none (some (.int .i64 (j : Int))) none).run Tryz.prog w = .ok (.slice a j c) w := by
 rw [run_sliceAt_slice _ _ _ _ _ _ elem_bytes, run_slice_h w 22 a n c elem_bytes .i64 (j : Int) (by omega) (by omega), size_u8]
 simp only [Result.andThen, sliced, Int.toNat_natCast, Nat.zero_mul, Nat.sub_zero]
 have : (a.map fun x => x.add 0) = a := by cases a with
  | none => rfl
  | some x => simp [Addr.add_zero']
 rw [this]
 simp
end Go.Proofs.YtlcnhpjggjgnpaaGreatDoor
