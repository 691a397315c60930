/- A part of the proof. -/
import Derived.Test.YtlcnhpjggjgnpaaGreatDoorUlab7
import Derived.Test.YtlcnhpjggjgnpaaGreatDoorUlab8
namespace Go.Proofs.YtlcnhpjggjgnpaaGreatDoor
set_option linter.unusedVariables false
open Go.RowKit Go.MapKept Go.Deep
section
variable {H : Type} {enc : TypeId × Value → H}
theorem in_tchsV {W : World} {n : Nat} {v : Value} {y : DataW H × List MemPlace} (h : DataW.trod enc Tryz.prog W 0 (fun _ => true) true n 65 [v] = some y) : ∃ (l : List TCh) (a : Option Addr) (c : Nat), v = .slice a l.length c ∧ l.length ≤ c ∧ c ≤ maxLen ∧ TChsIn W a l := by
 have hv : ∃ a len cap, v = .slice a len cap := by
  rcases Go.Deep.open_slice Tryz.underlying65 h with ⟨hcs, _⟩ | ⟨x, l, c, m, n, D, Pl, hcs, _⟩
  ·simp at hcs; exact ⟨_, _, _, hcs⟩
  ·simp at hcs; exact ⟨_, _, _, hcs⟩
 obtain ⟨a, len, cap, rfl⟩ := hv
 obtain ⟨h1, h2, l, rfl, h3⟩ := in_tchs (enc := enc) (W := W) (a := a) (len := len) (cap := cap) (d := y.1) (p := y.2) ⟨n, h⟩
 exact ⟨l, a, cap, rfl, h1, h2, h3⟩
end
end Go.Proofs.YtlcnhpjggjgnpaaGreatDoor
namespace Go.Proofs.YtlcnhpjggjgnpaaGreatDoor
set_option linter.unusedVariables false
open Go.RowKit Go.MapKept
set_option linter.unusedSimpArgs false
theorem Reads.blockKeep {w w' : World} {v : Value} {l : List UInt8} (h : Reads w v l) (hb : ∀ x n c, v = .slice (some x) n c → l ≠ [] → w'.heap[x.block]? = w.heap[x.block]?) : Reads w' v l := by
 rcases h with ⟨e, rfl⟩ | ⟨x, c, e, h1, h2, h3⟩
 ·exact .inl ⟨e, rfl⟩
 ·refine .inr ⟨x, c, e, h1, h2, fun j u hu => ?_⟩
  have hne : l ≠ [] := fun e2 => by rw [e2] at hu; simp at hu
  have hc := h3 j u hu
  have hbl : (x.add j).block = x.block := by simp only [Addr.add]; split <;> rfl
  exact (World.cell?_of_block (by rw [hbl]; exact hb x _ _ e hne)).trans hc
def rRds (B : Nat) (S : List (Value × List UInt8)) : Res B :=
 ⟨fun F w => ∀ p ∈ S, Reads w p.1 p.2 ∧ ∀ x n c, p.1 = .slice (some x) n c → p.2 ≠ [] → F x.block ∨ x.block < B,
  fun F w w' h hk p hp => ⟨(h p hp).1.blockKeep (fun x n c e hne => hk _ ((h p hp).2 x n c e hne)), (h p hp).2⟩⟩
def KRow (F : Nat → Prop) (w : World) (v : Value) (n : Nat) (xs : List Value) : Prop :=
 xs.length = n * 4 ∧ ((v = .slice none 0 0 ∧ n = 0) ∨ ∃ g cap cur, v = .slice (some ⟨g, 0, none⟩) n cap ∧ F g ∧ w.heap[g]? = some (.cells cur 71 (0, 0)) ∧ n ≤ cap ∧ cap ≤ maxLen ∧ cap * 4 ≤ cur.size ∧ cur.toList.take (n * 4) = xs)
def rKRow (B : Nat) (v : Value) (n : Nat) (xs : List Value) : Res B := ⟨fun F w => KRow F w v n xs, fun F w w' h hk => by
 obtain ⟨h1, h2⟩ := h
 refine ⟨h1, ?_⟩
 rcases h2 with h2 | ⟨g, cap, cur, e, hF, hb, r⟩
 ·exact .inl h2
 ·exact .inr ⟨g, cap, cur, e, hF, (hk g (.inl hF)).trans hb, r⟩⟩
theorem info_kept : (Tryz.prog.info? 71).map (fun i => (i.zero, i.size, i.bytes)) = some (some (.agg #[.int .i64 0, .slice none 0 0, .slice none 0 0, .bool false]), 4, 64) := by kernel_rfl
section
variable {w wr : World} {rs : List (Res w.heap.size)}
theorem Own.rdsNil (h : Own w wr rs) : Own w wr (rRds w.heap.size [] :: rs) :=
 h.add (Keeps.refl _ _) (r := rRds _ []) (G := fun _ => False) (fun p hp => by simp at hp) (fun b hb => hb.elim)
theorem Own.rds {S : List (Value × List UInt8)} (h : Own w wr rs) (hm : rRds w.heap.size S ∈ rs) {v : Value} {l : List UInt8} (hp : (v, l) ∈ S) : Reads wr v l := by
 obtain ⟨F, hr, -⟩ := h.mem hm
 exact ((show ∀ p ∈ S, _ from hr) _ hp).1
theorem Own.rdsOld {S : List (Value × List UInt8)} (h : Own w wr (rRds w.heap.size S :: rs)) {v : Value} {l : List UInt8} (hv : Reads w v l) : Own w wr (rRds w.heap.size ((v, l) :: S) :: rs) := by
 have hk := h.keeps
 refine h.view (fun F hF hr p hp => ?_)
 rcases List.mem_cons.1 hp with rfl | hp
 ·refine ⟨hv.keep hk, fun x n c e hne => .inr ?_⟩
  dsimp only at e hne
  subst e
  have hpos : 0 < l.length := List.length_pos_iff.2 hne
  obtain ⟨y, e', hc⟩ := hv.cell (k := 0) rfl hpos
  cases e'
  have := World.block_lt_of_cell? w _ hc
  have h5 : (x.add 0).block = x.block := by simp [Addr.add]
  omega
 ·exact (show ∀ p ∈ S, _ from hr) p hp
theorem Own.merge {a b r : Res w.heap.size} (h : Own w wr (a :: b :: rs)) (hr : ∀ F G : Nat → Prop, a.is F wr → b.is G wr → r.is (fun x => F x ∨ G x) wr) : Own w wr (r :: rs) := by
 obtain ⟨k, Fs, h1, h2⟩ := h
 match Fs, h1, h2 with
 | F :: G :: Gs, h1, h2 =>
  obtain ⟨p1, p2⟩ := List.pairwise_cons.1 h2
  obtain ⟨p3, p4⟩ := List.pairwise_cons.1 p2
  refine ⟨k, (fun x => F x ∨ G x) :: Gs, ⟨⟨hr F G h1.1.1 h1.2.1.1, fun b hb => ?_⟩, h1.2.2⟩, List.pairwise_cons.2 ⟨fun H hH b hb e => ?_, p4⟩⟩
  ·rcases hb with hb | hb
   ·exact h1.1.2 b hb
   ·exact h1.2.1.2 b hb
  ·rcases hb with hb | hb
   ·exact p1 H (List.mem_cons_of_mem _ hH) b hb e
   ·exact p3 H hH b hb e
theorem Own.krNil (h : Own w wr rs) : Own w wr (rKRow w.heap.size (.slice none 0 0) 0 [] :: rs) :=
 h.add (Keeps.refl _ _) (r := rKRow _ (.slice none 0 0) 0 []) (G := fun _ => False) ⟨rfl, .inl ⟨rfl, rfl⟩⟩ (fun b hb => hb.elim)
theorem Own.kr {v : Value} {n : Nat} {xs : List Value} (h : Own w wr rs) (hm : rKRow w.heap.size v n xs ∈ rs) : ∃ F, KRow F wr v n xs ∧ ∀ b, F b → w.heap.size ≤ b ∧ b < wr.heap.size := by
 obtain ⟨F, hr, hb⟩ := h.mem hm
 exact ⟨F, hr, hb⟩
theorem KRow.form {F : Nat → Prop} {v : Value} {n : Nat} {xs : List Value} (h : KRow F wr v n xs) : ∃ a c, v = .slice a n c ∧ n ≤ c ∧ c ≤ maxLen := by
 rcases h.2 with ⟨rfl, rfl⟩ | ⟨g, cap, cur, e, _, _, h1, h2, _⟩
 ·exact ⟨none, 0, rfl, Nat.le_refl _, Nat.zero_le _⟩
 ·exact ⟨_, cap, e, h1, h2⟩
theorem KRow.at {F : Nat → Prop} {a : Option Addr} {n m c : Nat} {xs : List Value} (h : KRow F wr (.slice a m c) n xs) (hn : 0 < n) : ∃ g, a = some ⟨g, 0, none⟩ ∧ (∃ cur, wr.heap[g]? = some (.cells cur 71 (0, 0))) ∧ ∀ i u, xs[i]? = some u → wr.cell? ⟨g, i, none⟩ = some u := by
 rcases h.2 with ⟨e, e2⟩ | ⟨g, cap, cur, e, hF, hb, h1, h2, h3, h4⟩
 ·omega
 ·cases e
  refine ⟨g, rfl, ⟨cur, hb⟩, fun i u hu => ?_⟩
  rw [← h4, List.getElem?_take] at hu
  split at hu
  ·exact cell_at hb (by simpa using hu)
  ·cases hu
theorem Own.krSet {g n c : Nat} {xs : List Value} (h : Own w wr (rKRow w.heap.size (.slice (some ⟨g, 0, none⟩) n c) n xs :: rs)) (i : Nat) (u : Value) : Own w (wr.setCell ⟨g, i, none⟩ u) (rKRow w.heap.size (.slice (some ⟨g, 0, none⟩) n c) n (xs.set i u) :: rs) := by
 obtain ⟨F, h1, h2, back⟩ := h.open1
 obtain ⟨q1, q2⟩ := (show KRow F wr _ n xs from h1)
 rcases q2 with ⟨e, _⟩ | ⟨g', cap, cur, e, hF, hb, r1, r2, r3, r4⟩
 ·cases e
 ·cases e
  refine back _ (rKRow _ (.slice (some ⟨g, 0, none⟩) n c) n (xs.set i u)) ((Keeps.refl F wr).setCell (fun _ => hF) u) ⟨by rw [List.length_set]; exact q1, .inr ⟨g, c, _, rfl, .inl hF, heap_setCell_eq hb i u, r1, r2, by simpa using r3, ?_⟩⟩
  rw [Array.toList_setIfInBounds, ← r4, List.take_set]
theorem Own.krApp {v : Value} {n : Nat} {xs : List Value} (h : Own w wr (rKRow w.heap.size v n xs :: rs)) {a : Addr} {m c : Nat} {news : List Value} (hl : news.length = m * 4) (hnews : ∀ j u, news[j]? = some u → wr.cell? (a.add j) = some u) (ho : ∀ u ∈ news, u.oneCell' = true) (hn : n + m < 100000) (hnil : v = .slice none 0 0 → 0 < m) :
  ∃ b c' w', (Builtin.append_ #[64, 64] 64 #[v, .slice (some a) m c]).run Tryz.prog wr = .ok (.slice b (n + m) c') w' ∧
   Own w w' (rKRow w.heap.size (.slice b (n + m) c') (n + m) (xs ++ news) :: rs) := by
 obtain ⟨F, h2, hF, back⟩ := h.open1
 obtain ⟨i0, hi, hz0, hz1, hz2⟩ := info_parts info_kept
 obtain ⟨q1, q2⟩ := (show KRow F wr v n xs from h2)
 have ht : Tryz.prog.underlying 64 = some (.slice 71) := by kernel_rfl
 have hsm : n + m ≤ maxLen := by simp only [maxLen]; omega
 have hlen : (xs ++ news).length = (n + m) * 4 := by rw [List.length_append, q1, hl]; omega
 have grown : ∀ old, ∀ cur0, cur0 = (xs.toArray ++ news.toArray ++ Builtin.zeroCells (Value.agg #[.int .i64 0, .slice none 0 0, .slice none 0 0, .bool false]).cells (grownCap wr (n + m) old 71 - (n + m))) →
   Own w (wr.drew.alloc (.cells cur0 71)) (rKRow w.heap.size (.slice (some ⟨wr.heap.size, 0, none⟩) (n + m) (grownCap wr (n + m) old 71)) (n + m) (xs ++ news) :: rs) := by
  intro old cur0 e0
  have hge := grownCap_ge wr (n + m) old 71
  refine back _ (rKRow _ _ (n + m) (xs ++ news)) (((Keeps.refl F wr).drew).alloc _) ⟨hlen, .inr ⟨wr.heap.size, _, cur0, rfl, .inr ⟨Nat.le_refl _, by simp⟩, heap_alloc_new wr.drew _, hge, grownCap_le_maxLen wr (n + m) old 71 hsm, ?_, ?_⟩⟩
  ·rw [e0]
   simp only [Array.size_append, List.size_toArray, size_zeroCells, q1, hl]
   show _ ≤ n * 4 + m * 4 + (_ - (n + m)) * 4
   omega
  ·rw [e0]
   simp only [Array.toList_append, List.append_assoc]
   rw [← List.append_assoc, ← hlen]
   exact List.take_left
 rcases q2 with ⟨rfl, rfl⟩ | ⟨g, cap, cur, rfl, hFg, hb, r1, r2, r3, r4⟩
 ·have hx : xs = [] := List.eq_nil_of_length_eq_zero (by simpa using q1)
  subst hx
  have hm := hnil rfl
  have hr := run_append_nil (P := Tryz.prog) wr 64 64 71 i0 _ ht hi hz0 a m c news (by rw [hz1]; exact hl) hnews hm (by omega) (by rw [hz2]; omega)
  rw [Nat.zero_add]
  have hgr := grown 0 _ rfl
  simp only [Nat.zero_add, List.nil_append] at hgr hr ⊢
  refine ⟨_, _, _, hr, ?_⟩
  rw [show (([] : List Value).toArray ++ news.toArray) = news.toArray by simp] at hgr
  exact hgr
 ·by_cases hroom : n + m ≤ cap
  ·have hr := run_append_room (P := Tryz.prog) wr 64 64 71 i0 ht hi g n cap cur hb a m c news (by rw [hz1]; exact hl) hnews ho hroom (by rw [hz1, hl]; omega)
   refine ⟨_, _, _, hr, back _ (rKRow _ _ (n + m) (xs ++ news)) ((keeps_setRow wr g _).mono (fun b _ e => by subst e; exact hFg)) ⟨hlen, .inr ⟨g, cap, _, rfl, .inl hFg, setRow_heap wr g cur _ 71 _ hb, hroom, r2, ?_, ?_⟩⟩⟩
   ·simp only [List.size_toArray, List.length_append, List.length_take, List.length_drop, Array.length_toList, hz1, hl]
    omega
   ·rw [hz1, r4, ← hlen]
    exact List.take_left
  ·have holds : ∀ j u, xs[j]? = some u → wr.cell? ((⟨g, 0, none⟩ : Addr).add j) = some u := fun j u hu => by
    rw [← r4, List.getElem?_take] at hu
    split at hu
    ·have := cell_at (i := j) hb (by simpa using hu)
     have hadd : (⟨g, 0, none⟩ : Addr).add j = ⟨g, j, none⟩ := by unfold Addr.add; split <;> simp_all
     rw [hadd]; exact this
    ·cases hu
   have hr := run_append_grow (P := Tryz.prog) wr 64 64 71 i0 _ ht hi hz0 ⟨g, 0, none⟩ n cap xs (by rw [hz1]; exact q1) holds a m c news (by rw [hz1]; exact hl) hnews (by omega) (by omega) (growslice_fits (by omega) (by rw [hz2]; omega))
   exact ⟨_, _, _, hr, grown cap _ rfl⟩
theorem Own.krPush {v : Value} {n : Nat} {xs : List Value} (h : Own w wr (rKRow w.heap.size v n xs :: rs)) (a1 a2 a3 a4 : Value) (ho : a1.oneCell' = true ∧ a2.oneCell' = true ∧ a3.oneCell' = true ∧ a4.oneCell' = true) (hn : n < 90000) :
  ∃ a c w', (Builtin.append_ #[64, 64] 64 #[v, .slice (some ⟨wr.heap.size, 0, none⟩) 1 1]).run Tryz.prog (wr.alloc (.cells #[a1, a2, a3, a4] 71)) = .ok (.slice a (n + 1) c) w' ∧
   Own w w' (rKRow w.heap.size (.slice a (n + 1) c) (n + 1) (xs ++ [a1, a2, a3, a4]) :: rs) := by
 have h1 := h.quiet ((Keeps.refl _ wr).alloc (.cells #[a1, a2, a3, a4] 71))
 have hnew := heap_alloc_new wr (.cells #[a1, a2, a3, a4] 71)
 refine h1.krApp (m := 1) (news := [a1, a2, a3, a4]) rfl (fun j u hu => ?_) (by simpa using ho) (by omega) (fun _ => by omega)
 have hadd : (⟨wr.heap.size, 0, none⟩ : Addr).add j = ⟨wr.heap.size, j, none⟩ := by unfold Addr.add; split <;> simp_all
 rw [hadd]; exact cell_at (i := j) hnew (by simpa using hu)
theorem Own.krCut {g n c : Nat} {xs : List Value} (h : Own w wr (rKRow w.heap.size (.slice (some ⟨g, 0, none⟩) n c) n xs :: rs)) {k : Nat} (hk : k ≤ n) : Own w wr (rKRow w.heap.size (.slice (some ⟨g, 0, none⟩) k k) k (xs.take (k * 4)) :: rs) := by
 refine h.view (fun F hF hr => ?_)
 obtain ⟨q1, q2⟩ := (show KRow F wr _ n xs from hr)
 rcases q2 with ⟨e, _⟩ | ⟨g', cap, cur, e, hF, hb, r1, r2, r3, r4⟩
 ·cases e
 ·cases e
  refine ⟨by rw [List.length_take, q1]; omega, .inr ⟨g, k, cur, rfl, hF, hb, Nat.le_refl _, by omega, by omega, ?_⟩⟩
  rw [← r4, List.take_take, Nat.min_eq_left (by omega)]
end
end Go.Proofs.YtlcnhpjggjgnpaaGreatDoor
namespace Go.Proofs.YtlcnhpjggjgnpaaGreatDoor
set_option linter.unusedVariables false
set_option linter.unusedSimpArgs false
open Go.RowKit Go.MapKept
structure OpU where
 kind : Int
 id : Int
 repo : ByteArray
 p : List UInt8
 n : Int
 m : Int
 l : List TCh
section
variable {H : Type} {enc : TypeId × Value → H}
def OpsUIn (W : World) (a : Option Addr) (len : Nat) : Prop := ∀ i, i < len → ∃ (x : Addr) (o : OpU) (pv : Value) (la : Option Addr) (lc : Nat), a = some x ∧ W.cell? (x.add (i * 7)) = some (.int .i64 o.kind) ∧ W.cell? { block := (x.add (i * 7)).block, off := (x.add (i * 7)).off + 1 } = some (.int .i64 o.id) ∧
 W.cell? { block := (x.add (i * 7)).block, off := (x.add (i * 7)).off + 2 } = some (.string o.repo) ∧ W.cell? { block := (x.add (i * 7)).block, off := (x.add (i * 7)).off + 3 } = some pv ∧ W.cell? { block := (x.add (i * 7)).block, off := (x.add (i * 7)).off + 4 } = some (.int .i64 o.n) ∧ W.cell? { block := (x.add (i * 7)).block, off := (x.add (i * 7)).off + 5 } = some (.int .i64 o.m) ∧
 W.cell? { block := (x.add (i * 7)).block, off := (x.add (i * 7)).off + 6 } = some (.slice la o.l.length lc) ∧
 o.l.length ≤ lc ∧ lc ≤ maxLen ∧ TChsIn W la o.l ∧ Reads W pv o.p ∧ -9223372036854775808 ≤ o.n ∧ o.n ≤ 9223372036854775807 ∧ -9223372036854775808 ≤ o.m ∧ o.m ≤ 9223372036854775807
theorem in_opsU {W : World} {a : Option Addr} {len cap : Nat} {d : DataW H} {p : List MemPlace} (h : DataW.Trod enc Tryz.prog W 0 (fun _ => true) true 63 (.slice a len cap) d p) : len ≤ cap ∧ cap ≤ maxLen ∧ OpsUIn W a len := by
 obtain ⟨h1, h2, h3⟩ := in_structs Tryz.underlying63 Tryz.underlying67 (by kernel_rfl) (by kernel_rfl) h
 refine ⟨h1, h2, fun i hi => ?_⟩
 obtain ⟨x, rfl, hf⟩ := h3 i hi
 obtain ⟨v0, _, _, k0, n0, t0⟩ := hf 0 _ rfl
 obtain ⟨v1, _, _, k1, n1, t1⟩ := hf 1 _ rfl
 obtain ⟨v2, _, _, k2, n2, t2⟩ := hf 2 _ rfl
 obtain ⟨v3, _, _, k3, n3, t3⟩ := hf 3 _ rfl
 obtain ⟨v4, _, _, k4, n4, t4⟩ := hf 4 _ rfl
 obtain ⟨v5, _, _, k5, n5, t5⟩ := hf 5 _ rfl
 obtain ⟨v6, _, _, k6, n6, t6⟩ := hf 6 _ rfl
 obtain ⟨a0, rfl, _⟩ := in_int t0
 obtain ⟨a1, rfl, _⟩ := in_int t1
 obtain ⟨s2, rfl, _⟩ := in_str t2
 obtain ⟨l3, r3⟩ := in_bytesV t3
 obtain ⟨a4, rfl, w4⟩ := in_int t4
 obtain ⟨a5, rfl, w5⟩ := in_int t5
 obtain ⟨l6, la, lc, rfl, b1, b2, r6⟩ := in_tchsV t6
 have e1 : (W.cell? (x.add (i * 7 + 1))) = some (.int .i64 a1) := k1
 have e2 : (W.cell? (x.add (i * 7 + 2))) = some (.string s2) := k2
 have e3 : (W.cell? (x.add (i * 7 + 3))) = some v3 := k3
 have e4 : (W.cell? (x.add (i * 7 + 4))) = some (.int .i64 a4) := k4
 have e5 : (W.cell? (x.add (i * 7 + 5))) = some (.int .i64 a5) := k5
 have e6 : (W.cell? (x.add (i * 7 + 6))) = some (.slice la l6.length lc) := k6
 rw [← Addr.add_add, Addr.add_succ'] at e1 e2 e3 e4 e5 e6
 exact ⟨x, ⟨a0, a1, s2, l3, a4, a5, l6⟩, v3, la, lc, rfl, k0, e1, e2, e3, e4, e5, e6, b1, b2, r6, r3, w4.2, w4.1, w5.2, w5.1⟩
end
def opUObj (k i : Int) (r : ByteArray) (pv : Value) (n m : Int) (lv : Value) : Obj := .cells #[.int .i64 k, .int .i64 i, .string r, pv, .int .i64 n, .int .i64 m, lv] 67 (0, 0)
theorem opU_at {w : World} {t : Nat} {k i n m : Int} {r : ByteArray} {pv lv : Value} (hb : w.heap[t]? = some (opUObj k i r pv n m lv)) :
  w.cell? ⟨t, 0, none⟩ = some (.int .i64 k) ∧ w.cell? ⟨t, 1, none⟩ = some (.int .i64 i) ∧ w.cell? ⟨t, 2, none⟩ = some (.string r) ∧ w.cell? ⟨t, 3, none⟩ = some pv ∧ w.cell? ⟨t, 4, none⟩ = some (.int .i64 n) ∧ w.cell? ⟨t, 5, none⟩ = some (.int .i64 m) ∧ w.cell? ⟨t, 6, none⟩ = some lv :=
 ⟨cell_at hb rfl, cell_at hb rfl, cell_at hb rfl, cell_at hb rfl, cell_at hb rfl, cell_at hb rfl, cell_at hb rfl⟩
def hdV : ByteArray := ⟨#[117]⟩
def chU (c : TCh) : Bool := decide (c.key.size ≤ 400) && decide (c.val.length ≤ 300) && !(beginsB c.key hdV)
def fairU (l : List TCh) (p : List UInt8) : Bool := l.all chU && decide (p.length ≤ 2000) && decide (l.length ≤ 5)
theorem fairU_true {l : List TCh} {p : List UInt8} (h : fairU l p = true) : (∀ c ∈ l, c.key.size ≤ 400 ∧ c.val.length ≤ 300 ∧ beginsB c.key hdV = false) ∧ p.length ≤ 2000 ∧ l.length ≤ 5 := by
 unfold fairU chU at h
 simp only [Bool.and_eq_true, decide_eq_true_eq, List.all_eq_true, Bool.not_eq_true'] at h
 exact ⟨fun c hc => ⟨(h.1.1 c hc).1.1, (h.1.1 c hc).1.2, (h.1.1 c hc).2⟩, h.1.2, h.2⟩
theorem fairU_bad {l : List TCh} {p : List UInt8} {k : Nat} {c : TCh} (hc : l[k]? = some c) (h : chU c = false) : fairU l p = false := by
 have : l.all chU = false := List.all_eq_false.2 ⟨c, List.mem_of_getElem? hc, by simp [h]⟩
 unfold fairU
 rw [this]
 rfl
theorem fairU_all {l : List TCh} {p : List UInt8} (h : ∀ k c, k < l.length → l[k]? = some c → chU c = true) : fairU l p = (decide (p.length ≤ 2000) && decide (l.length ≤ 5)) := by
 have : l.all chU = true := List.all_eq_true.2 (fun c hc => by
  obtain ⟨k, hk⟩ := List.mem_iff_getElem?.1 hc
  exact h k c (List.getElem?_eq_some_iff.1 hk).1 hk)
 unfold fairU
 rw [this, Bool.true_and]
set_option maxRecDepth 100000 in
set_option maxHeartbeats 2000000 in
theorem fair13_calls {w : World} {k0 d0 n0 m0 : Int} {r0 : ByteArray} {pv : Value} {p : List UInt8} {a : Option Addr} {c : Nat} {l : List TCh} (hp : Reads w pv p) (h : TChsIn w a l) (hl : l.length ≤ maxLen) :
  Calls Tryz.prog 25 #[.agg #[.int .i64 k0, .int .i64 d0, .string r0, pv, .int .i64 n0, .int .i64 m0, .slice a l.length c]] w (QuietP w (.bool (fairU l p))) := by
 obtain ⟨pa, pc, rfl, hpc1, hpc2⟩ := hp.form
 have H := Lib.hid h
 unfold maxLen at hl hpc2
 have i0 : (l.length : Int) ≤ 9223372036854775807 := by omega
 have i1 : (0 : Int) ≤ (l.length : Int) := by omega
 have i2 : (p.length : Int) ≤ 9223372036854775807 := by omega
 have hbx := heap_alloc_new w (opUObj k0 d0 r0 (.slice pa p.length pc) n0 m0 (.slice a l.length c))
 have hk1 : Keeps (fun _ => False) w (w.alloc (opUObj k0 d0 r0 (.slice pa p.length pc) n0 m0 (.slice a l.length c))) := (Keeps.refl _ w).alloc _
 obtain ⟨w1, hw1⟩ : ∃ w1, w1 = w.alloc (opUObj k0 d0 r0 (.slice pa p.length pc) n0 m0 (.slice a l.length c)) := ⟨_, rfl⟩
 rw [← hw1] at hbx hk1
 have HBX := Lib.hid hbx
 have HK1 := Lib.hid hk1
 obtain ⟨-, -, -, -, -, -, b2⟩ := opU_at hbx
 have HW := Lib.hid hw1
 rw [hw1] at b2
 clear h hp hl hpc1 hpc2 hbx hk1 hw1
 unfold opUObj at b2
 go_enter Tryz.func25, Tryz.ntmps25
 go_wp2_with fail
 change Code.wp _ _ _ _ (w.alloc (opUObj k0 d0 r0 (.slice pa p.length pc) n0 m0 (.slice a l.length c)))
 rw [← HW.out]
 clear b2 HW
 go_loopw [8] (fun iv wx => ∃ k : Nat, k ≤ l.length ∧ iv = .int .i64 (k : Int) ∧ (∀ i c, i < k → l[i]? = some c → chU c = true) ∧ Keeps (fun _ => False) w1 wx) (fun iv _ => l.length - (intOf iv).toNat)
 case atStart => exact ⟨0, Nat.zero_le _, rfl, fun i c hi => by omega, Keeps.refl _ _⟩
 case round =>
  obtain ⟨k, hk, rfl, hall, hq⟩ := hrel
  have kk : (0 : Int) ≤ k := by omega
  by_cases hlt : k < l.length
  ·obtain ⟨ch, hch⟩ : ∃ ch, l[k]? = some ch := ⟨l[k], List.getElem?_eq_getElem hlt⟩
   obtain ⟨x, q, rfl, c0, c1, c2, hq2⟩ := (H.out.keep (HK1.out.trans hq (fun _ _ e => e))).cells hch
   obtain ⟨qa, qc, rfl, _, _⟩ := hq2.form
   have j2 : (k : Int) < l.length := by omega
   have hk1 : k + 1 ≤ l.length := by omega
   have o0 : (0 : Int) ≤ (ch.key.size : Int) := by omega
   have o1 : (0 : Int) ≤ (ch.val.length : Int) := by omega
   have HQ := Lib.hid (hq.alloc (.cells #[.string ch.key, .bool ch.gone, .slice qa ch.val.length qc] 162))
   have HBAD := Lib.hid (fun (e : chU ch = false) => fairU_bad (p := p) hch e)
   have HGO := Lib.hid (fun (e : chU ch = true) => (⟨k + 1, hk1, rfl, fun i c hi hc => by
     by_cases e2 : i = k
     ·subst e2; rw [hch] at hc; cases hc; exact e
     ·exact hall i c (by omega) hc, HQ.out⟩ : ∃ k' : Nat, k' ≤ l.length ∧ Value.int .i64 ((k + 1 : Nat) : Int) = .int .i64 (k' : Int) ∧ (∀ i c, i < k' → l[i]? = some c → chU c = true) ∧ Keeps (fun _ => False) w1 (wr.alloc (.cells #[.string ch.key, .bool ch.gone, .slice qa ch.val.length qc] 162))))
   have HBR := Lib.hid (fun W => rbegins_runs ch.key hdV W)
   unfold hdV at HBR
   clear hall hq hq2 hlt hk
   by_cases b1 : 400 < ch.key.size
   ·have b1' : (400 : Int) < ch.key.size := by omega
    rw [HBAD.out (by unfold chU; rw [decide_eq_false (by omega)]; rfl)]
    clear hch b1
    go_wp2_with fail
    go_ret
    exact ⟨rfl, HK1.out.trans HQ.out (fun _ _ e => e)⟩
   ·have b1' : ¬ (400 : Int) < ch.key.size := by omega
    by_cases b2 : 300 < ch.val.length
    ·have b2' : (300 : Int) < ch.val.length := by omega
     rw [HBAD.out (by unfold chU; rw [decide_eq_false (p := ch.val.length ≤ 300) (by omega)]; simp)]
     clear hch b1 b2
     go_wp2_with fail
     go_ret
     exact ⟨rfl, HK1.out.trans HQ.out (fun _ _ e => e)⟩
    ·have b2' : ¬ (300 : Int) < ch.val.length := by omega
     have e1 : chU ch = !(beginsB ch.key hdV) := by unfold chU; rw [decide_eq_true (p := ch.key.size ≤ 400) (by omega), decide_eq_true (p := ch.val.length ≤ 300) (by omega)]; simp
     have e2 : beginsB ch.key ⟨#[117]⟩ = beginsB ch.key hdV := rfl
     rw [e2] at HBR
     clear hch b1 b2 e2
     cases hb : beginsB ch.key hdV with
     | true =>
      rw [hb] at HBR e1
      rw [HBAD.out e1]
      clear hb e1 HGO HBAD
      go_wp2_with fail
      refine (HBR.out _).out.mono ?_; rintro e w' ⟨rfl, rfl⟩
      go_wp2_with fail
      go_ret
      exact ⟨rfl, HK1.out.trans HQ.out (fun _ _ e => e)⟩
     | false =>
      rw [hb] at HBR e1
      have HREL := Lib.hid (HGO.out e1)
      clear hb e1 HGO HBAD
      go_wp2_with fail
      refine (HBR.out _).out.mono ?_; rintro e w' ⟨rfl, rfl⟩
      go_wp2_with fail
      go_roundw
      case rel => exact HREL.out
      case measure => simp [intOf]; omega
  ·obtain rfl : k = l.length := by omega
   have hb := fairU_all (p := p) hall
   obtain ⟨-, -, -, b1, -, -, b2⟩ := opU_at (hq.at HBX.out (fun e => e))
   have HF := Lib.hid (fun (v : Bool) (e : (decide (p.length ≤ 2000) && decide (l.length ≤ 5)) = v) => show QuietP w (.bool (fairU l p)) (.returned (.bool v)) wr from ⟨by rw [hb, e], HK1.out.trans hq (fun _ _ e => e)⟩)
   clear hall hb hq hlt hk
   by_cases z1 : p.length ≤ 2000
   ·have z1' : (p.length : Int) ≤ 2000 := by omega
    by_cases z2 : l.length ≤ 5
    ·have z2' : decide ((l.length : Int) ≤ 5) = true := decide_eq_true (by omega)
     have HF2 := Lib.hid (HF.out true (by rw [decide_eq_true z1, decide_eq_true z2]; rfl))
     rw [← z2'] at HF2
     clear z1 z2 HF
     go_wp2_with fail
     go_ret
     first | exact HF2.out | (rw [z2'] at HF2; exact HF2.out)
    ·have z2' : decide ((l.length : Int) ≤ 5) = false := decide_eq_false (by omega)
     have HF2 := Lib.hid (HF.out false (by rw [decide_eq_true z1, decide_eq_false z2]; rfl))
     rw [← z2'] at HF2
     clear z1 z2 HF
     go_wp2_with fail
     go_ret
     first | exact HF2.out | (rw [z2'] at HF2; exact HF2.out)
   ·have HF2 := Lib.hid (HF.out false (by rw [decide_eq_false z1]; rfl))
    have z1' : (2000 : Int) < p.length := by omega
    clear z1 HF
    go_wp2_with fail
    go_ret
    exact HF2.out
structure KV where
 id : Int
 s : Value
 m : Value
 e : Bool
def KV.cells (x : KV) : List Value := [.int .i64 x.id, x.s, x.m, .bool x.e]
def kvs (l : List KV) : List Value := l.flatMap KV.cells
theorem kvs_len : ∀ (l : List KV), (kvs l).length = l.length * 4
 | [] => rfl
 | x :: l => by
  have := kvs_len l
  unfold kvs at this ⊢
  rw [List.flatMap_cons, List.length_append, this]
  simp [KV.cells]
  omega
theorem kvs_app (l l2 : List KV) : kvs (l ++ l2) = kvs l ++ kvs l2 := by simp [kvs]
theorem kvs_drop : ∀ (l : List KV) (k : Nat), (kvs l).drop (k * 4) = kvs (l.drop k)
 | l, 0 => by simp
 | [], k + 1 => by simp [kvs]
 | x :: l, k + 1 => by
  have := kvs_drop l k
  unfold kvs at this ⊢
  rw [List.flatMap_cons, List.drop_succ_cons, ← this, show (k + 1) * 4 = x.cells.length + k * 4 by simp [KV.cells]; omega, List.drop_length_add_append]
theorem kvs_take : ∀ (l : List KV) (k : Nat), (kvs l).take (k * 4) = kvs (l.take k)
 | l, 0 => by simp [kvs]
 | [], k + 1 => by simp [kvs]
 | x :: l, k + 1 => by
  have := kvs_take l k
  unfold kvs at this ⊢
  rw [List.flatMap_cons, List.take_succ_cons, List.flatMap_cons, ← this, show (k + 1) * 4 = x.cells.length + k * 4 by simp [KV.cells]; omega, List.take_length_add_append]
theorem kvs_at {l : List KV} {k : Nat} {x : KV} (h : l[k]? = some x) (j : Nat) (hj : j < 4) : (kvs l)[k * 4 + j]? = x.cells[j]? := by
 have h1 : (kvs l)[k * 4 + j]? = ((kvs l).drop (k * 4))[j]? := by rw [List.getElem?_drop]
 obtain ⟨hlt, rfl⟩ := List.getElem?_eq_some_iff.1 h
 rw [h1, kvs_drop, List.drop_eq_getElem_cons hlt]
 unfold kvs
 rw [List.flatMap_cons, List.getElem?_append_left (by simpa [KV.cells] using hj)]
theorem kvs_set {l : List KV} {k : Nat} {x : KV} (h : l[k]? = some x) (j : Nat) (hj : j < 4) (u : Value) (y : KV) (hy : x.cells.set j u = y.cells) : (kvs l).set (k * 4 + j) u = kvs (l.set k y) := by
 induction l generalizing k with
 | nil => simp at h
 | cons z l ih =>
  cases k with
  | zero =>
   simp at h; subst h
   rw [List.set_cons_zero]
   unfold kvs
   rw [List.flatMap_cons, List.flatMap_cons, Nat.zero_mul, Nat.zero_add, List.set_append_left _ _ (by simpa [KV.cells] using hj), hy]
  | succ k =>
   have := ih (by simpa using h)
   rw [List.set_cons_succ]
   unfold kvs at this ⊢
   rw [List.flatMap_cons, List.flatMap_cons, List.set_append_right _ _ (by simp [KV.cells]; omega), ← this]
   congr 2
   simp [KV.cells]
   omega
def placeI (l : List KV) (id : Int) : Int :=
 match l.findIdx? (fun x => decide (x.id = id)) with
 | some i => (i : Int)
 | none => -1
def KV.Ok (x : KV) : Prop := (∃ a n c, x.s = .slice a n c) ∧ ∃ a n c, x.m = .slice a n c
def KIn (w : World) (a : Option Addr) (l : List KV) : Prop := ∀ i u, (kvs l)[i]? = some u → ∃ g, a = some ⟨g, 0, none⟩ ∧ w.cell? ⟨g, i, none⟩ = some u
theorem KIn.keep {w w' : World} {a : Option Addr} {l : List KV} (h : KIn w a l) (hk : Keeps (fun _ => False) w w') : KIn w' a l := fun i u hu => by
 obtain ⟨g, e, hc⟩ := h i u hu
 exact ⟨g, e, (World.cell?_of_block (hk.block g (World.block_lt_of_cell? w _ hc) (fun e => e))).trans hc⟩
theorem KRow.kin {w : World} {F : Nat → Prop} {a : Option Addr} {c : Nat} {l : List KV} (h : KRow F w (.slice a l.length c) l.length (kvs l)) : KIn w a l := fun i u hu => by
 have : i < (kvs l).length := (List.getElem?_eq_some_iff.1 hu).1
 rw [kvs_len] at this
 obtain ⟨g, e, -, hc⟩ := h.at (by omega)
 exact ⟨g, e, hc i u hu⟩
theorem KIn.at {w : World} {a : Option Addr} {l : List KV} (h : KIn w a l) {k : Nat} {x : KV} (hx : l[k]? = some x) : ∃ y : Addr, a = some y ∧ w.cell? (y.add (k * 4)) = some (.int .i64 x.id) ∧ w.cell? ⟨(y.add (k * 4)).block, (y.add (k * 4)).off + 1, none⟩ = some x.s ∧
  w.cell? ⟨(y.add (k * 4)).block, (y.add (k * 4)).off + 2, none⟩ = some x.m ∧ w.cell? ⟨(y.add (k * 4)).block, (y.add (k * 4)).off + 3, none⟩ = some (.bool x.e) := by
 obtain ⟨g, rfl, c0⟩ := h _ _ (kvs_at hx 0 (by omega))
 obtain ⟨g1, e1, c1⟩ := h _ _ (kvs_at hx 1 (by omega))
 obtain ⟨g2, e2, c2⟩ := h _ _ (kvs_at hx 2 (by omega))
 obtain ⟨g3, e3, c3⟩ := h _ _ (kvs_at hx 3 (by omega))
 cases e1; cases e2; cases e3
 have hadd : (⟨g, 0, none⟩ : Addr).add (k * 4) = ⟨g, k * 4, none⟩ := by unfold Addr.add; split <;> simp_all
 exact ⟨_, rfl, by rw [hadd]; exact c0, by rw [hadd]; exact c1, by rw [hadd]; exact c2, by rw [hadd]; exact c3⟩
set_option maxRecDepth 100000 in
set_option maxHeartbeats 2000000 in
theorem place13_calls {w : World} {a : Option Addr} {c : Nat} {l : List KV} (h : KIn w a l) (hl : l.length ≤ maxLen) (hok : ∀ x ∈ l, x.Ok) (id : Int) :
  Calls Tryz.prog 26 #[.slice a l.length c, .int .i64 id] w (QuietP w (.int .i64 (placeI l id))) := by
 have H := Lib.hid h
 have HOK := Lib.hid hok
 unfold maxLen at hl
 have i0 : (l.length : Int) ≤ 9223372036854775807 := by omega
 have i1 : (0 : Int) ≤ (l.length : Int) := by omega
 clear h hl hok
 go_enter Tryz.func26, Tryz.ntmps26
 go_wp2_with fail
 go_loopw [9] (fun iv wx => ∃ k : Nat, k ≤ l.length ∧ iv = .int .i64 (k : Int) ∧ (∀ i x, i < k → l[i]? = some x → ¬ x.id = id) ∧ Keeps (fun _ => False) w wx) (fun iv _ => l.length - (intOf iv).toNat)
 case atStart => exact ⟨0, Nat.zero_le _, rfl, fun i c hi => by omega, Keeps.refl _ _⟩
 case round =>
  obtain ⟨k, hk, rfl, hall, hq⟩ := hrel
  have kk : (0 : Int) ≤ k := by omega
  by_cases hlt : k < l.length
  ·obtain ⟨x, hx⟩ : ∃ x, l[k]? = some x := ⟨l[k], List.getElem?_eq_getElem hlt⟩
   obtain ⟨y, rfl, c0, c1, c2, c3⟩ := (H.out.keep hq).at hx
   obtain ⟨⟨sa, sn, sc, hs⟩, ⟨ma, mn, mc, hm⟩⟩ := HOK.out x (List.mem_of_getElem? hx)
   obtain ⟨xi, xs, xm, xe⟩ := x
   dsimp only at hs hm c0 c1 c2 c3
   subst hs hm
   have j2 : (k : Int) < l.length := by omega
   have HQ := Lib.hid (hq.alloc (.cells #[.int .i64 xi, .slice sa sn sc, .slice ma mn mc, .bool xe] 71))
   have HYES := Lib.hid (fun (e : xi = id) => show placeI l id = (k : Int) by
    have : l.findIdx? (fun x => decide (x.id = id)) = some k := List.findIdx?_eq_some_iff_getElem.2 ⟨hlt, by
     have e2 := (List.getElem?_eq_some_iff.1 hx).2
     rw [e2]; exact decide_eq_true e, fun j hj => by
     have := hall j _ hj (List.getElem?_eq_getElem (by omega))
     simpa using this⟩
    unfold placeI
    rw [this])
   have HGO := Lib.hid (fun (e : ¬ xi = id) => (⟨k + 1, by omega, rfl, fun i c hi hc => by
     by_cases e2 : i = k
     ·subst e2; rw [hx] at hc; cases hc; exact e
     ·exact hall i c (by omega) hc, HQ.out⟩ : ∃ k' : Nat, k' ≤ l.length ∧ Value.int .i64 ((k + 1 : Nat) : Int) = .int .i64 (k' : Int) ∧ (∀ i x, i < k' → l[i]? = some x → ¬ x.id = id) ∧ Keeps (fun _ => False) w (wr.alloc (.cells #[.int .i64 xi, .slice sa sn sc, .slice ma mn mc, .bool xe] 71))))
   clear hall hq hlt hk hx
   by_cases b1 : xi = id
   ·rw [HYES.out b1]
    subst b1
    clear HGO
    go_wp2_with fail
    go_ret
    exact ⟨rfl, HQ.out⟩
   ·have HREL := Lib.hid (HGO.out b1)
    go_wp2_with fail
    go_roundw
    case rel => exact HREL.out
    case measure => simp [intOf]; omega
  ·obtain rfl : k = l.length := by omega
   have hb : placeI l id = -1 := by
    have : l.findIdx? (fun x => decide (x.id = id)) = none := List.findIdx?_eq_none_iff.2 fun x hx => by
     obtain ⟨i, hi⟩ := List.mem_iff_getElem?.1 hx
     simpa using hall i x (List.getElem?_eq_some_iff.1 hi).1 hi
    unfold placeI
    rw [this]
   have HF := Lib.hid (show QuietP w (.int .i64 (placeI l id)) (.returned (.int .i64 (-1))) wr from ⟨by rw [hb], hq⟩)
   clear hall hb hq hlt hk
   go_wp2_with fail
   go_ret
   exact HF.out
end Go.Proofs.YtlcnhpjggjgnpaaGreatDoor
