/- A part of the proof. -/
import Derived.Test.YtlcnhpjggjgnpaaGreatDoorUlaa2
import Derived.Test.YtlcnhpjggjgnpaaGreatDoorUlaa4
import Derived.Test.YtlcnhpjggjgnpaaGreatDoorUlaa5
import Derived.Laws.CopyRow
namespace Go.Proofs.YtlcnhpjggjgnpaaGreatDoor
set_option linter.unusedVariables false
open Go.RowKit Go.MapKept
theorem shead_run (w : World) (a : Option Addr) (n c j : Nat) (h1 : j ≤ c) : (Instr.sliceAt 22 (.slice a n c) none (some (.int .i64 (j : Int))) none).run Tryz.prog w = .ok (.slice a j c) w := by
 rw [run_sliceAt_slice _ _ _ _ _ _ elem_bytes, run_slice_h w 22 a n c elem_bytes .i64 (j : Int) (by omega) (by omega), size_u8]
 simp only [Result.andThen, sliced, Int.toNat_natCast, Nat.zero_mul, Nat.sub_zero]
 have : (a.map fun x => x.add 0) = a := by cases a with
  | none => rfl
  | some x => simp [Addr.add_zero']
 rw [this]
 simp
theorem stail_run (w : World) (x : Addr) (n c i : Nat) (h1 : i ≤ n) : (Instr.sliceAt 22 (.slice (some x) n c) (some (.int .i64 (i : Int))) none none).run Tryz.prog w = .ok (.slice (some (if c = i then x else x.add i)) (n - i) (c - i)) w := by
 rw [run_sliceAt_slice _ _ _ _ _ _ elem_bytes, run_slice_l w 22 (some x) n c elem_bytes .i64 (i : Int) (by omega) (by omega), size_u8]
 simp only [Result.andThen, sliced, Int.toNat_natCast, Nat.mul_one, Option.map_some]
 split <;> rfl
theorem Reads.headSlice {w : World} {x : Addr} {n c : Nat} {l : List UInt8} (h : Reads w (.slice (some x) n c) l) (j : Nat) (hj : j ≤ l.length) : Reads w (.slice (some x) j c) (l.take j) := by
 rcases h with ⟨e, _⟩ | ⟨x', c', e, h1, h2, h3⟩
 ·cases e
 ·cases e
  refine .inr ⟨_, _, by rw [List.length_take, Nat.min_eq_left hj], by rw [List.length_take]; omega, h2, fun k u hu => ?_⟩
  rw [List.getElem?_map, List.getElem?_take] at hu
  split at hu
  ·exact h3 _ _ (by rw [List.getElem?_map]; exact hu)
  ·cases hu
theorem Reads.tailSlice {w : World} {x : Addr} {n c : Nat} {l : List UInt8} (h : Reads w (.slice (some x) n c) l) (i : Nat) (hi : i ≤ l.length) : Reads w (.slice (some (if c = i then x else x.add i)) (n - i) (c - i)) (l.drop i) := by
 have hn : n = l.length := by
  rcases h with ⟨e, _⟩ | ⟨x', c', e, _⟩
  ·cases e
  ·cases e; rfl
 have := h.cut i (l.length - i) (by omega)
 rw [List.take_of_length_le (by rw [List.length_drop]; omega)] at this
 rw [hn]; exact this
theorem addr_block (x : Addr) (i : Nat) : (x.add i).block = x.block := by unfold Addr.add; split <;> rfl
theorem Reads.apart {w w' : World} {v : Value} {l : List UInt8} {s : Nat} (h : Reads w v l) (hk : Keeps (fun b => b = s) w w') (hne : ∀ x n c, v = .slice (some x) n c → l ≠ [] → x.block ≠ s) : Reads w' v l := by
 rcases h with h | ⟨x, c, rfl, h1, h2, h3⟩
 ·exact .inl h
 ·refine .inr ⟨x, c, rfl, h1, h2, fun j u hu => ?_⟩
  have hc := h3 j u hu
  rw [World.cell?_of_block (hk.block _ (World.block_lt_of_cell? w _ hc) (fun e => hne x _ _ rfl (fun e2 => by rw [e2] at hu; simp at hu) (by rw [addr_block] at e; exact e)))]
  exact hc
def sliceLen : Value → Nat
 | .slice _ n _ => n
 | _ => 0
theorem set_n {w : World} {s : Nat} {H : List Int} {m : Int} {tail : List UInt8} (hh : w.heap[s]? = some (stObj H (restOf m tail))) (hH : H.length = 8) {n : Int} : (w.setCell ⟨s, 8, none⟩ (.int .u64 n)).heap[s]? = some (stObj H (restOf n tail)) := by
 refine (heap_setCell_eq (t := 208) hh 8 _).trans ?_
 obtain ⟨x0, x1, x2, x3, x4, x5, x6, x7, rfl⟩ := list8 hH
 rfl
structure PutIn (w : World) (pv : Value) (s : Nat) (D : List UInt8) : Prop where
 reads : Reads w pv D
 apart : ∀ x n c, pv = .slice (some x) n c → D ≠ [] → x.block ≠ s
theorem PutIn.next {w : World} {x : Addr} {n c s : Nat} {D : List UInt8} (h : PutIn w (.slice (some x) n c) s D) (hd : 64 ≤ D.length) : PutIn w (.slice (some (if c = 64 then x else x.add 64)) (n - 64) (c - 64)) s (D.drop 64) := by
 have hD : D ≠ [] := fun e => by rw [e] at hd; simp at hd
 refine ⟨h.reads.tailSlice 64 hd, fun y m d e _ => ?_⟩
 simp only [Value.slice.injEq, Option.some.injEq] at e
 rw [← e.1]
 split
 ·exact h.apart x n c rfl hD
 ·rw [addr_block]; exact h.apart x n c rfl hD
structure PutRel (w wx : World) (s kb : Nat) (M : List UInt8) (j : Nat) : Prop where
 mid : MidAt wx s M j
 keep : Keeps (fun b => b = s) w wx
 k : wx.heap[kb]? = some (arrObj kWords 210)
theorem tslice_run (W : World) (s hv : Nat) (h : hv < 64) : (Instr.sliceAt 206 (.pointer (some ⟨s, 9, none⟩)) (some (.int .i64 (hv : Int))) none none).run Tryz.prog W = .ok (.slice (some ⟨s, 9 + hv, none⟩) (64 - hv) (64 - hv)) W := by
 have hal : Tryz.prog.arrayLen 206 = 64 := by kernel_rfl
 have hsz : (sizeOf (Tryz.prog.elem 206)).run Tryz.prog W = .ok 1 W := by kernel_rfl
 rw [run_sliceAt_array_l W 206 ⟨s, 9, none⟩ (by kernel_rfl) .i64 (hv : Int) (by omega) (by rw [hal]; omega), hsz, hal]
 simp only [Result.andThen, slicedAt, Int.toNat_natCast, Nat.mul_one, Addr.add_lit]
 rw [if_neg (by omega)]
theorem tail_reads {w : World} {s : Nat} {H : List Int} {n : Int} {tail : List UInt8} (hh : w.heap[s]? = some (stObj H (restOf n tail))) (hH : H.length = 8) (ht : tail.length = 64) : Reads w (.slice (some ⟨s, 9, none⟩) 64 64) tail := by
 refine .inr ⟨⟨s, 9, none⟩, 64, by rw [ht], by omega, by simp [maxLen], fun j u hu => ?_⟩
 rw [Addr.add_lit]
 refine cell_at hh ?_
 obtain ⟨x0, x1, x2, x3, x4, x5, x6, x7, rfl⟩ := list8 hH
 rw [List.getElem?_toArray, show 9 + j = j + 1 + 1 + 1 + 1 + 1 + 1 + 1 + 1 + 1 by omega]
 exact hu
theorem block_calls {w : World} {s k : Nat} {x : Addr} {p : List UInt8} {pc : Nat} {H : List Int} {rest : List Value} (hH : H.length = 8) (hpl : p.length = 64) (hp : Reads w (.slice (some x) 64 pc) p) (hs : w.heap[s]? = some (stObj H rest)) (hk : w.heap[k]? = some (arrObj kWords 210)) :
  Calls Tryz.prog 114 #[.pointer (some ⟨s, 0, none⟩), .slice (some x) 64 pc, .pointer (some ⟨k, 0, none⟩)] w fun e w' => e = .returned (.tuple #[]) ∧ Keeps (fun b => b = s) w w' ∧ w'.heap[s]? = some (stObj (blockV kWords H p) rest) := by
 obtain ⟨h0, h1, h2, h3, h4, h5, h6, h7, rfl⟩ := list8 hH
 refine block_walk w s k x p pc hpl (fun i c hc => ?_) hs (by rfl) hk
 rcases hp with ⟨e, _⟩ | ⟨x', c', e, g1, g2, g3⟩
 ·cases e
 ·simp only [Value.slice.injEq, Option.some.injEq] at e
  rw [e.1]
  exact g3 i (u8v c) (by simp [hc])
theorem tail_copy {w : World} {s : Nat} {H : List Int} {n : Int} {tail : List UInt8} (hh : w.heap[s]? = some (stObj H (restOf n tail))) (hH : H.length = 8) (ht : tail.length = 64) {pv : Value} {l : List UInt8} (hr : Reads w pv l) (i m : Nat) (hi : i < 64) (hmm : m = min l.length (64 - i)) :
  ∃ w', (Builtin.copy_ #[22, 22] 3 #[.slice (some ⟨s, 9 + i, none⟩) (64 - i) (64 - i), pv]).run Tryz.prog w = .ok (goInt (m : Int)) w' ∧ Keeps (fun b => b = s) w w' ∧
   w'.heap[s]? = some (stObj H (restOf n (tail.take i ++ l.take (64 - i) ++ tail.drop (i + m)))) := by
 obtain ⟨i0, hi0, hz0, hz1, hz2⟩ := info_parts info_u8
 have hsz : (Tryz.prog.info? 5).map (·.size) = some 1 := by rw [hi0]; simp [hz1]
 rcases hr with ⟨rfl, rfl⟩ | ⟨x, c, rfl, h1, h2, h3⟩
 ·simp only [List.length_nil, Nat.zero_min] at hmm
  subst hmm
  refine ⟨w, ?_, Keeps.refl _ _, ?_⟩
  ·exact run_copy_nil (P := Tryz.prog) w 22 22 3 5 ⟨s, 9 + i, none⟩ (64 - i) (64 - i) Tryz.underlying22 (by rw [hsz]; rfl)
  ·simpa using hh
 ·have hm : ((l.take (64 - i)).map u8v).length = m := by rw [List.length_map, List.length_take, hmm, Nat.min_comm]
  have hm2 : ((l.take (64 - i)).map u8v).length = Nat.min l.length (64 - i) := by rw [hm, hmm]
  have hsize : (List.map u32v H ++ restOf n tail).toArray.size = 73 := by simp [hH, ht, restOf]
  have hcell := run_copy_row (P := Tryz.prog) w 22 22 3 5 s (9 + i) (64 - i) (64 - i) x l.length c _ 208 ((l.take (64 - i)).map u8v) Tryz.underlying22 hsz hh hm2
   (fun j v hv => h3 j v (by rw [List.getElem?_map] at hv ⊢; rw [List.getElem?_take] at hv; split at hv; exact hv; cases hv))
   (by rw [hm, hsize]; omega) (u8v_one _)
  rw [hm] at hcell
  have hnew : (List.take (9 + i) (List.map u32v H ++ restOf n tail).toArray.toList ++ List.map u8v (List.take (64 - i) l) ++ List.drop (9 + i + m) (List.map u32v H ++ restOf n tail).toArray.toList).toArray = (List.map u32v H ++ restOf n (tail.take i ++ l.take (64 - i) ++ tail.drop (i + m))).toArray := by
   obtain ⟨x0, x1, x2, x3, x4, x5, x6, x7, rfl⟩ := list8 hH
   unfold restOf
   simp only [List.map_cons, List.map_nil, List.cons_append, List.nil_append, List.map_append, List.map_take, List.map_drop]
   rw [show 9 + i + m = (i + m) + 1 + 1 + 1 + 1 + 1 + 1 + 1 + 1 + 1 by omega, show 9 + i = i + 1 + 1 + 1 + 1 + 1 + 1 + 1 + 1 + 1 by omega]
   simp only [List.take_succ_cons, List.cons_append, List.drop_succ_cons, List.append_assoc]
  rw [hnew] at hcell
  exact ⟨_, hcell, ⟨rfl, rfl, rfl, by simp [World.setRow], fun k hk hF => setRow_other w s k _ (fun e => hF e)⟩, setRow_heap w s _ _ 208 _ hh⟩
set_option maxRecDepth 100000 in
set_option maxHeartbeats 4000000 in
theorem put_a {w : World} {s : Nat} {L l : List UInt8} {pv : Value} (hs : StAt w s L) (hr : Reads w pv l) (hne : ∀ x n c, pv = .slice (some x) n c → l ≠ [] → x.block ≠ s) (hb : L.length + l.length < 140737488355328) (h0 : L.length % 64 = 0) :
  Calls Tryz.prog 51 #[.pointer (some ⟨s, 0, none⟩), pv] w fun e w' => e = .returned (.tuple #[]) ∧ Keeps (fun b => b = s) w w' ∧ StAt w' s (L ++ l) := by
 obtain ⟨a, c, rfl, hc1, hc2⟩ := hr.form
 obtain ⟨tail, hh, ht, hp⟩ := hs
 obtain ⟨n, hn⟩ : ∃ n : Nat, n = L.length := ⟨_, rfl⟩
 obtain ⟨M, hMe⟩ : ∃ M, M = L ++ l := ⟨_, rfl⟩
 rw [← hMe]
 rw [← hn] at hh
 have hr1 := rounds_runs w
 obtain ⟨w1, hst, hk1, hz1, hkb⟩ := kbox w
 have hlt := lt_of_heap hh
 have HS0 := Lib.hid hh
 have hh1 := hk1.at hh (fun e => e)
 obtain ⟨x0, x1, x2, x3, x4, x5, x6, x7, hx⟩ := list8 (hashN_length L (L.length / 64))
 have hh2 := hh1
 unfold stObj hashH restOf at hh2
 rw [hx] at hh2
 have c8 := cell_at (i := 8) hh2 rfl
 have f8 := free_at hh2 8
 simp only [List.map_cons, List.map_nil, List.cons_append, List.nil_append, List.getElem_toArray, List.getElem_cons_succ, List.getElem_cons_zero] at c8
 have HR1 := Lib.hid hr1
 have HKB := Lib.hid hkb
 have HH1 := Lib.hid hh1
 have HR := Lib.hid hr
 have e0 : (n : Int) % 64 = 0 := by omega
 clear hr1 hh hh2 hh1 hkb hr
 go_enter Tryz.func51, Tryz.ntmps51
 go_wp2_with fail
 refine HR1.out.out.mono ?_; rintro e w' ⟨rfl, rfl⟩
 go_wp2_with fail
 have hset := set_n HH1.out (n := (M.length : Int)) (by unfold hashH; exact hashN_length _ _)
 have hM : hashN M (L.length / 64) = hashH L := by rw [hMe]; exact hashN_append _ _ _ (by omega)
 have hD : M.drop (64 * (L.length / 64)) = l := by rw [hMe, show 64 * (L.length / 64) = L.length by omega, List.drop_left]
 have hlen : (M.length : Int) = (L.length : Int) + (l.length : Int) := by rw [hMe, List.length_append]; omega
 rw [← hM, hlen] at hset
 have hkp : Keeps (fun b => b = s) w (w1.setCell ⟨s, 8, none⟩ (.int .u64 ((L.length : Int) + (l.length : Int)))) := Keeps.setCell (F := fun b => b = s) (p := ⟨s, 8, none⟩) (hk1.mono (fun _ _ e => e.elim)) (fun _ => rfl) _
 have hkb2 : (w1.setCell ⟨s, 8, none⟩ (.int .u64 ((L.length : Int) + (l.length : Int)))).heap[w.heap.size + 1]? = some (arrObj kWords 210) := (Below.heap_setCell w1 ⟨s, 8, none⟩ _ _ (fun e => by simp only at e; omega)).trans HKB.out
 rw [← hlen] at hset hkp hkb2 ⊢
 have hrel0 : PutRel w (w1.setCell ⟨s, 8, none⟩ (.int .u64 (M.length : Int))) s (w.heap.size + 1) M (L.length / 64) := ⟨⟨tail, hset, ht, by omega⟩, hkp, hkb2⟩
 have hin0 : PutIn w (.slice a l.length c) s (M.drop (64 * (L.length / 64))) := by rw [hD]; exact ⟨HR.out, hne⟩
 have HREL0 := Lib.hid hrel0
 have HIN0 := Lib.hid hin0
 clear hrel0 hin0 hset hM hD hlen hkp hkb2 hst hk1 hz1 hx c8 f8 HR1 HKB HH1 HR e0 hMe
 generalize L.length / 64 = j0 at HREL0 HIN0
 generalize w1.setCell ⟨s, 8, none⟩ (.int .u64 (M.length : Int)) = w2 at HREL0 ⊢
 go_loopw [1] (fun pv wx => ∃ j : Nat, PutIn w pv s (M.drop (64 * j)) ∧ PutRel w wx s (w.heap.size + 1) M j) (fun pv _ => sliceLen pv)
 case atStart => exact ⟨j0, HIN0.out, HREL0.out⟩
 case round =>
  obtain ⟨j, hin, hrel⟩ := hrel
  clear HREL0 HIN0
  obtain ⟨D, hD⟩ : ∃ D, D = M.drop (64 * j) := ⟨_, rfl⟩
  rw [← hD] at hin
  obtain ⟨a', c', rfl, hc1', hc2'⟩ := hin.reads.form
  unfold maxLen at hc2'
  have hkp := hrel.keep
  obtain ⟨tail', hh', ht', hj'⟩ := hrel.mid
  have hrw := (hin.reads.apart hkp hin.apart)
  by_cases hlt : 64 ≤ D.length
  ·obtain ⟨n1, n2, n3⟩ := mid_next (M := M) (j := j) (by rw [← hD]; exact hlt)
   rw [← hD] at n1 n2
   obtain ⟨x, rfl⟩ : ∃ x, a' = some x := by
    rcases hin.reads with ⟨e, e2⟩ | ⟨x, c'', e, _⟩
    ·subst e2; simp at hlt
    ·cases e; exact ⟨x, rfl⟩
   have hbl := block_calls (w := wr) (s := s) (k := w.heap.size + 1) (hashN_length M j) (by rw [List.length_take]; omega) (hrw.headSlice 64 hlt) hh' hrel.k
   rw [← n1] at hbl
   have hin2 : PutIn w (.slice (some (if c' = 64 then x else x.add 64)) (D.length - 64) (c' - 64)) s (M.drop (64 * (j + 1))) := by
    rw [← n2]; exact hin.next hlt
   have hsh : ∀ W, (Instr.sliceAt 22 (.slice (some x) D.length c') none (some (.int .i64 64)) none).run Tryz.prog W = .ok (.slice (some x) 64 c') W := fun W => shead_run W (some x) D.length c' 64 (by omega)
   have hst : ∀ W, (Instr.sliceAt 22 (.slice (some x) D.length c') (some (.int .i64 64)) none none).run Tryz.prog W = .ok (.slice (some (if c' = 64 then x else x.add 64)) (D.length - 64) (c' - 64)) W := fun W => stail_run W x D.length c' 64 hlt
   have HBL := Lib.hid hbl
   have HIN2 := Lib.hid hin2
   have HREL := Lib.hid hrel
   have HX := Lib.hid (⟨n3, ht', hlt⟩ : 64 * (j + 1) ≤ M.length ∧ tail'.length = 64 ∧ 64 ≤ D.length)
   generalize (if c' = 64 then x else x.add 64) = y at hst HIN2
   have j1 : (64 : Int) ≤ D.length := by omega
   have j2 : ((D.length : Nat) : Int) ≤ 9223372036854775807 := by omega
   clear hbl hin2 hrel hin hrw hkp hh' n1 n2 n3 hD hlt ht' hj' hc1' hc2'
   go_wp2_with fail
   refine HBL.out.mono ?_
   rintro e w3 ⟨rfl, hk3, hh3⟩
   have hnew : PutRel w w3 s (w.heap.size + 1) M (j + 1) := ⟨⟨tail', hh3, HX.out.2.1, HX.out.1⟩, HREL.out.keep.trans hk3 (fun _ _ e => e), hk3.at HREL.out.k (fun e => by have := lt_of_heap HS0.out; omega)⟩
   have HNEW := Lib.hid hnew
   clear hnew hk3 hh3 HBL
   go_wp2_with fail
   go_roundw
   case rel => exact ⟨j + 1, HIN2.out, HNEW.out⟩
   case measure => have := HX.out; simp only [sliceLen]; omega
  ·have hcp := tail_copy hh' (hashN_length M j) ht' hrw 0 D.length (by omega) (by omega)
   obtain ⟨w3, hcr, hk3, hh3⟩ := hcp
   have hst3 : StAt w3 s M := by
    have hl3 : (M.drop (64 * j)).length < 64 := by rw [← hD]; omega
    refine StAt.end_ (tail := tail') (j := j) ?_ ht' hj' hl3
    rw [← hD]
    rw [List.take_zero, List.nil_append, Nat.zero_add, List.take_of_length_le (by omega)] at hh3
    exact hh3
   have HST := Lib.hid hst3
   have HK3 := Lib.hid (hkp.trans hk3 (fun _ _ e => e))
   have j1 : (D.length : Int) < 64 := by omega
   clear hst3 hk3 hh3 hrel hin hrw hkp hh' ht' hj' hlt hD
   go_wp2_with fail
   go_end0
   exact ⟨rfl, HK3.out, HST.out⟩
set_option maxRecDepth 100000 in
set_option maxHeartbeats 4000000 in
theorem put_b2 {w : World} {s : Nat} {L l : List UInt8} {pv : Value} (hs : StAt w s L) (hr : Reads w pv l) (hne : ∀ x n c, pv = .slice (some x) n c → l ≠ [] → x.block ≠ s) (hb : L.length + l.length < 140737488355328) (h0 : 0 < L.length % 64) (hs64 : 64 ≤ L.length % 64 + l.length) :
  Calls Tryz.prog 51 #[.pointer (some ⟨s, 0, none⟩), pv] w fun e w' => e = .returned (.tuple #[]) ∧ Keeps (fun b => b = s) w w' ∧ StAt w' s (L ++ l) := by
 obtain ⟨a, c, rfl, hc1, hc2⟩ := hr.form
 obtain ⟨tail, hh, ht, hp⟩ := hs
 obtain ⟨n, hn⟩ : ∃ n : Nat, n = L.length := ⟨_, rfl⟩
 obtain ⟨M, hMe⟩ : ∃ M, M = L ++ l := ⟨_, rfl⟩
 rw [← hMe]
 rw [← hn] at hh
 have hr1 := rounds_runs w
 obtain ⟨w1, hst, hk1, hz1, hkb⟩ := kbox w
 have hlt := lt_of_heap hh
 have HS0 := Lib.hid hh
 have hh1 := hk1.at hh (fun e => e)
 obtain ⟨x0, x1, x2, x3, x4, x5, x6, x7, hx⟩ := list8 (hashN_length L (L.length / 64))
 have hh2 := hh1
 unfold stObj hashH restOf at hh2
 rw [hx] at hh2
 have c8 := cell_at (i := 8) hh2 rfl
 have f8 := free_at hh2 8
 simp only [List.map_cons, List.map_nil, List.cons_append, List.nil_append, List.getElem_toArray, List.getElem_cons_succ, List.getElem_cons_zero] at c8
 have HR1 := Lib.hid hr1
 have HKB := Lib.hid hkb
 have HH1 := Lib.hid hh1
 have HR := Lib.hid hr
 clear hr1 hh hh2 hh1 hkb hr
 obtain ⟨hv, hhv⟩ : ∃ hv, hv = L.length % 64 := ⟨_, rfl⟩
 obtain ⟨m, hm⟩ : ∃ m, m = min l.length (64 - hv) := ⟨_, rfl⟩
 have hset := set_n HH1.out (n := (M.length : Int)) (by unfold hashH; exact hashN_length _ _)
 have hlen : (M.length : Int) = (n : Int) + (l.length : Int) := by rw [hMe, List.length_append]; omega
 have hkp : Keeps (fun b => b = s) w (w1.setCell ⟨s, 8, none⟩ (.int .u64 (M.length : Int))) := Keeps.setCell (F := fun b => b = s) (p := ⟨s, 8, none⟩) (hk1.mono (fun _ _ e => e.elim)) (fun _ => rfl) _
 have hkb2 : (w1.setCell ⟨s, 8, none⟩ (.int .u64 (M.length : Int))).heap[w.heap.size + 1]? = some (arrObj kWords 210) := (Below.heap_setCell w1 ⟨s, 8, none⟩ _ _ (fun e => by simp only at e; omega)).trans HKB.out
 obtain ⟨w3, hcr, hk3, hh3⟩ := tail_copy hset (by unfold hashH; exact hashN_length _ _) ht (HR.out.apart hkp hne) hv m (by omega) hm
 rw [hlen, hn] at hcr
 have e0 : (L.length : Int) % 64 = (hv : Int) := by omega
 have j0 : (0 : Int) < hv := by omega
 have j1 : (hv : Int) < 64 := by omega
 have j2 : (0 : Int) ≤ m := by omega
 have hts : ∀ W, (Instr.sliceAt 206 (.pointer (some ⟨s, 9, none⟩)) (some (.int .i64 (hv : Int))) none none).run Tryz.prog W = .ok (.slice (some ⟨s, 9 + hv, none⟩) (64 - hv) (64 - hv)) W := fun W => tslice_run W s hv (by omega)
 obtain ⟨x, rfl⟩ : ∃ x, a = some x := by
  rcases HR.out with ⟨e, e2⟩ | ⟨x, c'', e, _⟩
  ·subst e2; simp at hs64; omega
  ·cases e; exact ⟨x, rfl⟩
 have hst2 : ∀ W, (Instr.sliceAt 22 (.slice (some x) l.length c) (some (.int .i64 (m : Int))) none none).run Tryz.prog W = .ok (.slice (some (if c = m then x else x.add m)) (l.length - m) (c - m)) W := fun W => stail_run W x l.length c m (by omega)
 have jm : (hv : Int) + m = 64 := by omega
 obtain ⟨tail', htl⟩ : ∃ t, t = tail.take hv ++ l.take (64 - hv) ++ tail.drop (hv + m) := ⟨_, rfl⟩
 rw [← htl] at hh3
 obtain ⟨p1, p2, p3⟩ := part_full (l := l) ht hp (by omega)
 rw [← hhv, ← hMe] at p2
 rw [← hhv, ← hMe] at p3
 rw [← hMe] at p1
 have htl2 : tail' = (M.drop (64 * (L.length / 64))).take 64 := by
  have hd64 : tail.drop (hv + m) = [] := List.drop_of_length_le (by omega)
  rw [htl, p2, hd64, List.append_nil]
 have hml : 64 * (L.length / 64 + 1) ≤ M.length := by omega
 have htl3 : tail'.length = 64 := by rw [htl2, List.length_take, List.length_drop]; omega
 have hbl := block_calls (w := w3) (s := s) (k := w.heap.size + 1) (x := ⟨s, 9, none⟩) (pc := 64) (by unfold hashH; exact hashN_length _ _) htl3 (tail_reads hh3 (by unfold hashH; exact hashN_length _ _) htl3) hh3 (hk3.at hkb2 (fun e => by have := lt_of_heap HS0.out; omega))
 have hnx : blockV kWords (hashH L) tail' = hashN M (L.length / 64 + 1) := by rw [htl2, ← p1]; rfl
 rw [hnx] at hbl
 have hin0 : PutIn w (.slice (some (if c = m then x else x.add m)) (l.length - m) (c - m)) s (M.drop (64 * (L.length / 64 + 1))) := by
  rw [← p3, show 64 - hv = m by omega]
  have hl0 : l ≠ [] := fun e => by rw [e] at hs64; simp at hs64; omega
  refine ⟨HR.out.tailSlice m (by omega), fun y u d e _ => ?_⟩
  simp only [Value.slice.injEq, Option.some.injEq] at e
  rw [← e.1]
  split
  ·exact hne x l.length c rfl hl0
  ·rw [addr_block]; exact hne x l.length c rfl hl0
 have hkp3 : Keeps (fun b => b = s) w w3 := hkp.trans hk3 (fun _ _ e => e)
 have hkb3 := hk3.at hkb2 (fun e => by have := lt_of_heap HS0.out; omega)
 have hfin : ∀ w4, Keeps (fun b => b = s) w3 w4 → w4.heap[s]? = some (stObj (hashN M (L.length / 64 + 1)) (restOf (M.length : Int) tail')) → PutRel w w4 s (w.heap.size + 1) M (L.length / 64 + 1) := fun w4 h1 h2 =>
  ⟨⟨tail', h2, htl3, hml⟩, hkp3.trans h1 (fun _ _ e => e), h1.at hkb3 (fun e => by have := lt_of_heap HS0.out; omega)⟩
 have HBL := Lib.hid hbl
 have HIN0 := Lib.hid hin0
 have HFIN := Lib.hid hfin
 generalize (if c = m then x else x.add m) = y at hst2 HIN0
 generalize L.length / 64 + 1 = jj at HIN0 HFIN HBL
 clear p1 p2 p3 htl htl2 htl3 hml hbl hnx hin0 hfin hkp3 hkb3
 have HX := Lib.hid (⟨hn, hhv, hm, hlen⟩ : n = L.length ∧ hv = L.length % 64 ∧ m = min l.length (64 - hv) ∧ (M.length : Int) = (n : Int) + (l.length : Int))
 have HSET := Lib.hid hset
 have HKP := Lib.hid hkp
 have HKB2 := Lib.hid hkb2
 have HK3 := Lib.hid hk3
 have HH3 := Lib.hid hh3
 have HP := Lib.hid hp
 have HMe := Lib.hid hMe
 have HHS := Lib.hid (⟨hs64, hb, h0⟩ : 64 ≤ L.length % 64 + l.length ∧ L.length + l.length < 140737488355328 ∧ 0 < L.length % 64)
 clear hset hlen hkp hkb2 hk3 hh3 hp hMe hs64 h0 hhv hm hx hk1 hz1 hlt
 go_enter Tryz.func51, Tryz.ntmps51
 go_wp2_with fail
 refine HR1.out.out.mono ?_; rintro e w' ⟨rfl, rfl⟩
 go_wp2_with fail
 refine HBL.out.mono ?_
 rintro e w4 ⟨rfl, hk4, hh4⟩
 have HREL0 := Lib.hid (HFIN.out w4 hk4 hh4)
 clear HFIN HBL hk4 hh4 hts hst2 hcr jm e0 j0 j1 j2 c8 f8 HSET HKP HKB2 HK3 HH3 HP HMe HR HR1 HKB HH1 hst
 go_wp2_with fail
 go_loopw [1] (fun pv wx => ∃ j : Nat, PutIn w pv s (M.drop (64 * j)) ∧ PutRel w wx s (w.heap.size + 1) M j) (fun pv _ => sliceLen pv)
 case atStart => exact ⟨jj, HIN0.out, HREL0.out⟩
 case round =>
  obtain ⟨j, hin, hrel⟩ := hrel
  clear HREL0 HIN0
  obtain ⟨D, hD⟩ : ∃ D, D = M.drop (64 * j) := ⟨_, rfl⟩
  rw [← hD] at hin
  obtain ⟨a', c', rfl, hc1', hc2'⟩ := hin.reads.form
  unfold maxLen at hc2'
  have hkp := hrel.keep
  obtain ⟨tail', hh', ht', hj'⟩ := hrel.mid
  have hrw := (hin.reads.apart hkp hin.apart)
  by_cases hlt : 64 ≤ D.length
  ·obtain ⟨n1, n2, n3⟩ := mid_next (M := M) (j := j) (by rw [← hD]; exact hlt)
   rw [← hD] at n1 n2
   obtain ⟨x, rfl⟩ : ∃ x, a' = some x := by
    rcases hin.reads with ⟨e, e2⟩ | ⟨x, c'', e, _⟩
    ·subst e2; simp at hlt
    ·cases e; exact ⟨x, rfl⟩
   have hbl := block_calls (w := wr) (s := s) (k := w.heap.size + 1) (hashN_length M j) (by rw [List.length_take]; omega) (hrw.headSlice 64 hlt) hh' hrel.k
   rw [← n1] at hbl
   have hin2 : PutIn w (.slice (some (if c' = 64 then x else x.add 64)) (D.length - 64) (c' - 64)) s (M.drop (64 * (j + 1))) := by
    rw [← n2]; exact hin.next hlt
   have hsh : ∀ W, (Instr.sliceAt 22 (.slice (some x) D.length c') none (some (.int .i64 64)) none).run Tryz.prog W = .ok (.slice (some x) 64 c') W := fun W => shead_run W (some x) D.length c' 64 (by omega)
   have hst : ∀ W, (Instr.sliceAt 22 (.slice (some x) D.length c') (some (.int .i64 64)) none none).run Tryz.prog W = .ok (.slice (some (if c' = 64 then x else x.add 64)) (D.length - 64) (c' - 64)) W := fun W => stail_run W x D.length c' 64 hlt
   have HBL := Lib.hid hbl
   have HIN2 := Lib.hid hin2
   have HREL := Lib.hid hrel
   have HX := Lib.hid (⟨n3, ht', hlt⟩ : 64 * (j + 1) ≤ M.length ∧ tail'.length = 64 ∧ 64 ≤ D.length)
   generalize (if c' = 64 then x else x.add 64) = y at hst HIN2
   have j1 : (64 : Int) ≤ D.length := by omega
   have j2 : ((D.length : Nat) : Int) ≤ 9223372036854775807 := by omega
   clear hbl hin2 hrel hin hrw hkp hh' n1 n2 n3 hD hlt ht' hj' hc1' hc2'
   go_wp2_with fail
   refine HBL.out.mono ?_
   rintro e w3 ⟨rfl, hk3, hh3⟩
   have hnew : PutRel w w3 s (w.heap.size + 1) M (j + 1) := ⟨⟨tail', hh3, HX.out.2.1, HX.out.1⟩, HREL.out.keep.trans hk3 (fun _ _ e => e), hk3.at HREL.out.k (fun e => by have := lt_of_heap HS0.out; omega)⟩
   have HNEW := Lib.hid hnew
   clear hnew hk3 hh3 HBL
   go_wp2_with fail
   go_roundw
   case rel => exact ⟨j + 1, HIN2.out, HNEW.out⟩
   case measure => have := HX.out; simp only [sliceLen]; omega
  ·have hcp := tail_copy hh' (hashN_length M j) ht' hrw 0 D.length (by omega) (by omega)
   obtain ⟨w3, hcr, hk3, hh3⟩ := hcp
   have hst3 : StAt w3 s M := by
    have hl3 : (M.drop (64 * j)).length < 64 := by rw [← hD]; omega
    refine StAt.end_ (tail := tail') (j := j) ?_ ht' hj' hl3
    rw [← hD]
    rw [List.take_zero, List.nil_append, Nat.zero_add, List.take_of_length_le (by omega)] at hh3
    exact hh3
   have HST := Lib.hid hst3
   have HK3 := Lib.hid (hkp.trans hk3 (fun _ _ e => e))
   have j1 : (D.length : Int) < 64 := by omega
   clear hst3 hk3 hh3 hrel hin hrw hkp hh' ht' hj' hlt hD
   go_wp2_with fail
   go_end0
   exact ⟨rfl, HK3.out, HST.out⟩
set_option maxRecDepth 100000 in
set_option maxHeartbeats 4000000 in
theorem put_b1 {w : World} {s : Nat} {L l : List UInt8} {pv : Value} (hs : StAt w s L) (hr : Reads w pv l) (hne : ∀ x n c, pv = .slice (some x) n c → l ≠ [] → x.block ≠ s) (hb : L.length + l.length < 140737488355328) (h0 : 0 < L.length % 64) (hs64 : L.length % 64 + l.length < 64) :
  Calls Tryz.prog 51 #[.pointer (some ⟨s, 0, none⟩), pv] w fun e w' => e = .returned (.tuple #[]) ∧ Keeps (fun b => b = s) w w' ∧ StAt w' s (L ++ l) := by
 obtain ⟨a, c, rfl, hc1, hc2⟩ := hr.form
 obtain ⟨tail, hh, ht, hp⟩ := hs
 obtain ⟨n, hn⟩ : ∃ n : Nat, n = L.length := ⟨_, rfl⟩
 obtain ⟨M, hMe⟩ : ∃ M, M = L ++ l := ⟨_, rfl⟩
 rw [← hMe]
 rw [← hn] at hh
 have hr1 := rounds_runs w
 obtain ⟨w1, hst, hk1, hz1, hkb⟩ := kbox w
 have hlt := lt_of_heap hh
 have HS0 := Lib.hid hh
 have hh1 := hk1.at hh (fun e => e)
 obtain ⟨x0, x1, x2, x3, x4, x5, x6, x7, hx⟩ := list8 (hashN_length L (L.length / 64))
 have hh2 := hh1
 unfold stObj hashH restOf at hh2
 rw [hx] at hh2
 have c8 := cell_at (i := 8) hh2 rfl
 have f8 := free_at hh2 8
 simp only [List.map_cons, List.map_nil, List.cons_append, List.nil_append, List.getElem_toArray, List.getElem_cons_succ, List.getElem_cons_zero] at c8
 have HR1 := Lib.hid hr1
 have HKB := Lib.hid hkb
 have HH1 := Lib.hid hh1
 have HR := Lib.hid hr
 clear hr1 hh hh2 hh1 hkb hr
 obtain ⟨hv, hhv⟩ : ∃ hv, hv = L.length % 64 := ⟨_, rfl⟩
 obtain ⟨m, hm⟩ : ∃ m, m = min l.length (64 - hv) := ⟨_, rfl⟩
 have hset := set_n HH1.out (n := (M.length : Int)) (by unfold hashH; exact hashN_length _ _)
 have hlen : (M.length : Int) = (n : Int) + (l.length : Int) := by rw [hMe, List.length_append]; omega
 have hkp : Keeps (fun b => b = s) w (w1.setCell ⟨s, 8, none⟩ (.int .u64 (M.length : Int))) := Keeps.setCell (F := fun b => b = s) (p := ⟨s, 8, none⟩) (hk1.mono (fun _ _ e => e.elim)) (fun _ => rfl) _
 have hkb2 : (w1.setCell ⟨s, 8, none⟩ (.int .u64 (M.length : Int))).heap[w.heap.size + 1]? = some (arrObj kWords 210) := (Below.heap_setCell w1 ⟨s, 8, none⟩ _ _ (fun e => by simp only at e; omega)).trans HKB.out
 obtain ⟨w3, hcr, hk3, hh3⟩ := tail_copy hset (by unfold hashH; exact hashN_length _ _) ht (HR.out.apart hkp hne) hv m (by omega) hm
 rw [hlen, hn] at hcr
 have e0 : (L.length : Int) % 64 = (hv : Int) := by omega
 have j0 : (0 : Int) < hv := by omega
 have j1 : (hv : Int) < 64 := by omega
 have j2 : (0 : Int) ≤ m := by omega
 have hts : ∀ W, (Instr.sliceAt 206 (.pointer (some ⟨s, 9, none⟩)) (some (.int .i64 (hv : Int))) none none).run Tryz.prog W = .ok (.slice (some ⟨s, 9 + hv, none⟩) (64 - hv) (64 - hv)) W := fun W => tslice_run W s hv (by omega)
 obtain ⟨pv', hst2⟩ : ∃ pv', ∀ W, (Instr.sliceAt 22 (.slice a l.length c) (some (.int .i64 (m : Int))) none none).run Tryz.prog W = .ok pv' W := ⟨_, fun W => by
  rw [run_sliceAt_slice _ _ _ _ _ _ elem_bytes, run_slice_l W 22 a l.length c elem_bytes .i64 (m : Int) (by omega) (by omega), size_u8]
  rfl⟩
 have jm : (hv : Int) + m < 64 := by omega
 have hml : m = l.length := by omega
 have hfin : StAt w3 s M := by
  obtain ⟨p1, p2⟩ := part_stay (l := l) ht hp hs64
  rw [← hMe, ← hhv] at p2
  rw [← hMe] at p1
  rw [← p1, hml, List.take_of_length_le (l := l) (by omega)] at hh3
  refine ⟨_, hh3, ?_, p2⟩
  rw [List.length_append, List.length_append, List.length_take, List.length_drop, ht]; omega
 have hkp3 : Keeps (fun b => b = s) w w3 := hkp.trans hk3 (fun _ _ e => e)
 have HFIN := Lib.hid hfin
 have HK3' := Lib.hid hkp3
 clear hfin hkp3 hml
 have HX := Lib.hid (⟨hn, hhv, hm, hlen⟩ : n = L.length ∧ hv = L.length % 64 ∧ m = min l.length (64 - hv) ∧ (M.length : Int) = (n : Int) + (l.length : Int))
 have HSET := Lib.hid hset
 have HKP := Lib.hid hkp
 have HKB2 := Lib.hid hkb2
 have HK3 := Lib.hid hk3
 have HH3 := Lib.hid hh3
 have HP := Lib.hid hp
 have HMe := Lib.hid hMe
 clear hset hlen hkp hkb2 hk3 hh3 hp hMe hs64 h0 hhv hm hx hk1 hz1 hlt
 go_enter Tryz.func51, Tryz.ntmps51
 go_wp2_with fail
 refine HR1.out.out.mono ?_; rintro e w' ⟨rfl, rfl⟩
 go_wp2_with fail
 (try simp only [Exit.inBlock, Exit.then])
 refine bodyPost_ret (results_none rfl _ _ _) rfl ?_
 exact ⟨rfl, HK3'.out, HFIN.out⟩
theorem put_calls' {w : World} {s : Nat} {L l : List UInt8} {pv : Value} (hs : StAt w s L) (hr : Reads w pv l) (hne : ∀ x n c, pv = .slice (some x) n c → l ≠ [] → x.block ≠ s) (hb : L.length + l.length < 140737488355328) :
  Calls Tryz.prog 51 #[.pointer (some ⟨s, 0, none⟩), pv] w fun e w' => e = .returned (.tuple #[]) ∧ Keeps (fun b => b = s) w w' ∧ StAt w' s (L ++ l) := by
 by_cases h0 : L.length % 64 = 0
 ·exact put_a hs hr hne hb h0
 ·by_cases h1 : 64 ≤ L.length % 64 + l.length
  ·exact put_b2 hs hr hne hb (by omega) h1
  ·exact put_b1 hs hr hne hb (by omega) (by omega)
def zerosOf (n : Nat) : Nat := (119 - n % 64) % 64
def padOf (n : Nat) : List UInt8 := (128 :: List.replicate (zerosOf n) 0) ++ putOf (8 * n) 8
def sumOf (L : List UInt8) : List UInt8 := (hashH (L ++ padOf L.length)).flatMap (fun x => putOf x.toNat 4)
theorem state_one (H : List Int) (n : Int) (tail : List UInt8) : (H.map u32v ++ restOf n tail).toArray.all (·.oneCell') = true := by
 rw [Array.all_eq_true_iff_forall_mem]
 intro v hv
 simp only [List.mem_toArray, List.mem_append, restOf, List.mem_cons, List.mem_map] at hv
 rcases hv with ⟨x, _, rfl⟩ | rfl | ⟨x, _, rfl⟩ <;> rfl
theorem setRow_alloc2 (w : World) (A : Obj) (c c' : Array Value) (t : TypeId) : ((w.alloc A).alloc (.cells c t)).setRow (w.heap.size + 1) c' = (w.alloc A).alloc (.cells c' t) := by
 have := World.setRow_alloc_new (w.alloc A) c c' t
 rw [World.size_alloc] at this
 exact this
theorem padOf_length (n : Nat) : (padOf n).length ≤ 80 := by
 have : zerosOf n < 64 := Nat.mod_lt _ (by omega)
 rw [padOf, List.length_append, List.length_cons, List.length_replicate, putOf_length]
 omega
theorem own_apart {w wr : World} {pv : Value} {P : List UInt8} {tb : Nat} {o : Obj} {rs : List (Res w.heap.size)} (h : Own w wr (rBytes _ pv P :: rObj _ tb o :: rs)) : ∀ x n c, pv = .slice (some x) n c → x.block ≠ tb := by
 obtain ⟨F, G, h1, h2, ha, _⟩ := h.open2
 intro x n c e hx
 refine ha x.block (h1.2 _ (by rw [e]; rfl)) ?_
 rw [hx]; exact h2.1
theorem own_turn {w wr : World} {pv : Value} {P : List UInt8} {tb : Nat} {o : Obj} {rs : List (Res w.heap.size)} (h : Own w wr (rBytes _ pv P :: rObj _ tb o :: rs)) (w' : World) (o' : Obj) (hk : Keeps (fun b => b = tb) wr w') (ho : w'.heap[tb]? = some o') : Own w w' (rObj _ tb o' :: rs) := by
 obtain ⟨F, h1, h2, back⟩ := h.drop.open1
 exact back w' (rObj _ tb o') (hk.mono (fun b _ e => by rw [e]; exact h1.1)) ⟨.inl h1.1, ho⟩
def PadRel (w wx : World) (cs : Array Value) (pv : Value) (P : List UInt8) : Prop :=
 Own w wx [rBytes _ pv P, rObj _ (w.heap.size + 1) (.cells cs 208), rObj _ w.heap.size (.cells (Array.replicate 32 (.int .u8 0)) 39)]
def pad0 (k : Nat) : List UInt8 := 128 :: List.replicate k 0
theorem pad0_length (k : Nat) : (pad0 k).length = k + 1 := by simp [pad0]
theorem pad0_succ (k : Nat) : pad0 k ++ [0] = pad0 (k + 1) := by rw [pad0, pad0, List.replicate_succ', List.cons_append]
theorem keeps_setRow (w : World) (b : Nat) (cs : Array Value) : Keeps (fun i => i = b) w (w.setRow b cs) := ⟨rfl, rfl, rfl, by simp [World.setRow], fun k hk hF => setRow_other w b k cs (fun e => hF e)⟩
theorem bytes_one (l : List UInt8) : (l.map u8v).toArray.all (·.oneCell') = true := by
 rw [Array.all_eq_true_iff_forall_mem]
 intro v hv
 simp only [List.mem_toArray, List.mem_map] at hv
 obtain ⟨x, _, rfl⟩ := hv
 rfl
def digB (Y : List Int) (j : Nat) : List UInt8 := (Y.take j).flatMap (fun x => putOf x.toNat 4) ++ List.replicate (32 - 4 * j) 0
theorem flat4_length (Y : List Int) : (Y.flatMap (fun x => putOf x.toNat 4)).length = 4 * Y.length := by
 induction Y with
 | nil => rfl
 | cons y Y ih => rw [List.flatMap_cons, List.length_append, ih, putOf_length, List.length_cons]; omega
theorem digB_length (Y : List Int) (hY : Y.length = 8) (j : Nat) (hj : j ≤ 8) : (digB Y j).length = 32 := by
 rw [digB, List.length_append, flat4_length, List.length_take, List.length_replicate]; omega
theorem digB_end (Y : List Int) (hY : Y.length = 8) : digB Y 8 = Y.flatMap (fun x => putOf x.toNat 4) := by
 rw [digB, List.take_of_length_le (by omega)]; simp
theorem digB_next (Y : List Int) (hY : Y.length = 8) {j m : Nat} (hj : j < 8) (hm : (m : Int) = wAt Y j) : (digB Y j).take (4 * j) ++ putOf m 4 ++ (digB Y j).drop (4 * j + 4) = digB Y (j + 1) := by
 have hl : ((Y.take j).flatMap (fun x => putOf x.toNat 4)).length = 4 * j := by rw [flat4_length, List.length_take]; omega
 have e1 : (digB Y j).take (4 * j) = (Y.take j).flatMap (fun x => putOf x.toNat 4) := by rw [digB, List.take_append_of_le_length (by omega), List.take_of_length_le (by omega)]
 have e2 : (digB Y j).drop (4 * j + 4) = List.replicate (32 - 4 * (j + 1)) 0 := by
  have e0 : ((Y.take j).flatMap (fun x => putOf x.toNat 4)).drop (4 * j) = [] := List.drop_of_length_le (by omega)
  rw [digB, ← List.drop_drop, List.drop_append_of_le_length (by omega), e0, List.nil_append, List.drop_replicate]
  congr 1
 have e3 : Y.take (j + 1) = Y.take j ++ [wAt Y j] := by rw [List.take_add_one, wAt_eq (by omega)]; rfl
 rw [e1, e2, digB, e3, List.flatMap_append, List.flatMap_cons, List.flatMap_nil, List.append_nil, ← hm, Int.toNat_natCast]
theorem digB_zero (Y : List Int) : ((digB Y 0).map u8v).toArray = Array.replicate 32 (.int .u8 0) := by simp [digB, u8v]; rfl
def SumRel (w wx : World) (db : Nat) (Y : List Int) (rest : List Value) (j : Nat) : Prop :=
 Own w wx [rObj _ db (.cells (((digB Y j).map u8v).toArray) 39), rObj _ (w.heap.size + 1) (stObj Y rest), rObj _ w.heap.size (.cells (Array.replicate 32 (.int .u8 0)) 39)]
theorem idx8_0 (y0 y1 y2 y3 y4 y5 y6 y7 : Int) (W : World) : (Instr.index 205 (.agg #[.int .u32 y0, .int .u32 y1, .int .u32 y2, .int .u32 y3, .int .u32 y4, .int .u32 y5, .int .u32 y6, .int .u32 y7]) (.int .i64 0)).run Tryz.prog W = .ok (.int .u32 y0) W := by kernel_rfl
theorem idx8_1 (y0 y1 y2 y3 y4 y5 y6 y7 : Int) (W : World) : (Instr.index 205 (.agg #[.int .u32 y0, .int .u32 y1, .int .u32 y2, .int .u32 y3, .int .u32 y4, .int .u32 y5, .int .u32 y6, .int .u32 y7]) (.int .i64 1)).run Tryz.prog W = .ok (.int .u32 y1) W := by kernel_rfl
theorem idx8_2 (y0 y1 y2 y3 y4 y5 y6 y7 : Int) (W : World) : (Instr.index 205 (.agg #[.int .u32 y0, .int .u32 y1, .int .u32 y2, .int .u32 y3, .int .u32 y4, .int .u32 y5, .int .u32 y6, .int .u32 y7]) (.int .i64 2)).run Tryz.prog W = .ok (.int .u32 y2) W := by kernel_rfl
theorem idx8_3 (y0 y1 y2 y3 y4 y5 y6 y7 : Int) (W : World) : (Instr.index 205 (.agg #[.int .u32 y0, .int .u32 y1, .int .u32 y2, .int .u32 y3, .int .u32 y4, .int .u32 y5, .int .u32 y6, .int .u32 y7]) (.int .i64 3)).run Tryz.prog W = .ok (.int .u32 y3) W := by kernel_rfl
theorem idx8_4 (y0 y1 y2 y3 y4 y5 y6 y7 : Int) (W : World) : (Instr.index 205 (.agg #[.int .u32 y0, .int .u32 y1, .int .u32 y2, .int .u32 y3, .int .u32 y4, .int .u32 y5, .int .u32 y6, .int .u32 y7]) (.int .i64 4)).run Tryz.prog W = .ok (.int .u32 y4) W := by kernel_rfl
theorem idx8_5 (y0 y1 y2 y3 y4 y5 y6 y7 : Int) (W : World) : (Instr.index 205 (.agg #[.int .u32 y0, .int .u32 y1, .int .u32 y2, .int .u32 y3, .int .u32 y4, .int .u32 y5, .int .u32 y6, .int .u32 y7]) (.int .i64 5)).run Tryz.prog W = .ok (.int .u32 y5) W := by kernel_rfl
theorem idx8_6 (y0 y1 y2 y3 y4 y5 y6 y7 : Int) (W : World) : (Instr.index 205 (.agg #[.int .u32 y0, .int .u32 y1, .int .u32 y2, .int .u32 y3, .int .u32 y4, .int .u32 y5, .int .u32 y6, .int .u32 y7]) (.int .i64 6)).run Tryz.prog W = .ok (.int .u32 y6) W := by kernel_rfl
theorem idx8_7 (y0 y1 y2 y3 y4 y5 y6 y7 : Int) (W : World) : (Instr.index 205 (.agg #[.int .u32 y0, .int .u32 y1, .int .u32 y2, .int .u32 y3, .int .u32 y4, .int .u32 y5, .int .u32 y6, .int .u32 y7]) (.int .i64 7)).run Tryz.prog W = .ok (.int .u32 y7) W := by kernel_rfl
theorem idx8_run (y0 y1 y2 y3 y4 y5 y6 y7 : Int) (j : Nat) (hj : j < 8) (W : World) : (Instr.index 205 (.agg #[.int .u32 y0, .int .u32 y1, .int .u32 y2, .int .u32 y3, .int .u32 y4, .int .u32 y5, .int .u32 y6, .int .u32 y7]) (.int .i64 (j : Int))).run Tryz.prog W = .ok (u32v (wAt [y0, y1, y2, y3, y4, y5, y6, y7] j)) W := by
 match j, hj with
 | 0, _ => exact idx8_0 y0 y1 y2 y3 y4 y5 y6 y7 W
 | 1, _ => exact idx8_1 y0 y1 y2 y3 y4 y5 y6 y7 W
 | 2, _ => exact idx8_2 y0 y1 y2 y3 y4 y5 y6 y7 W
 | 3, _ => exact idx8_3 y0 y1 y2 y3 y4 y5 y6 y7 W
 | 4, _ => exact idx8_4 y0 y1 y2 y3 y4 y5 y6 y7 W
 | 5, _ => exact idx8_5 y0 y1 y2 y3 y4 y5 y6 y7 W
 | 6, _ => exact idx8_6 y0 y1 y2 y3 y4 y5 y6 y7 W
 | 7, _ => exact idx8_7 y0 y1 y2 y3 y4 y5 y6 y7 W
 | j + 8, hj => omega
theorem dslice_run (W : World) (db q : Nat) (h : q < 32) : (Instr.sliceAt 39 (.pointer (some ⟨db, 0, none⟩)) (some (.int .i64 (q : Int))) none none).run Tryz.prog W = .ok (.slice (some ⟨db, q, none⟩) (32 - q) (32 - q)) W := by
 have hal : Tryz.prog.arrayLen 39 = 32 := by kernel_rfl
 have hsz : (sizeOf (Tryz.prog.elem 39)).run Tryz.prog W = .ok 1 W := by kernel_rfl
 rw [run_sliceAt_array_l W 39 ⟨db, 0, none⟩ (by kernel_rfl) .i64 (q : Int) (by omega) (by rw [hal]; omega), hsz, hal]
 simp only [Result.andThen, slicedAt, Int.toNat_natCast, Nat.mul_one, Addr.add_lit, Nat.zero_add]
 rw [if_neg (by omega)]
theorem sum_copy {w wr W : World} {v : Value} {db j q m : Nat} {Y : List Int} {rest : List Value} (h : SumRel w wr db Y rest j) (hj : j < 8) (hq : q = 4 * j) (hm : (m : Int) = wAt Y j) (hY : Y.length = 8) (ho : Owns W wr.heap.size v (putOf m 4)) (hk : Keeps (fun _ => False) wr.drew W) :
  ∃ w2, (Builtin.copy_ #[22, 22] 3 #[.slice (some ⟨db, q, none⟩) (32 - q) (32 - q), v]).run Tryz.prog W = .ok (goInt 4) w2 ∧ SumRel w w2 db Y rest (j + 1) := by
 obtain ⟨i0, hi0, hz0, hz1, hz2⟩ := info_parts info_u8
 have hsz : (Tryz.prog.info? 5).map (·.size) = some 1 := by rw [hi0]; simp [hz1]
 have h1 : Own w W _ := (Own.drew h).quiet hk
 have hdb := (h1.at (List.mem_cons_self ..)).1
 rcases ho.bytes.reads with ⟨_, e⟩ | ⟨x, c, rfl, g1, g2, g3⟩
 ·have := congrArg List.length e; rw [putOf_length] at this; simp at this
 ·have hl : ((putOf m 4).map u8v).length = 4 := by rw [List.length_map, putOf_length]
  rw [putOf_length] at g1 ⊢
  have hcell := run_copy_row (P := Tryz.prog) W 22 22 3 5 db q (32 - q) (32 - q) x 4 c _ 39 ((putOf m 4).map u8v) Tryz.underlying22 hsz hdb (by rw [hl]; exact (Nat.min_eq_left (by omega)).symm) g3 (by rw [hl]; simp [digB_length Y hY j (by omega)]; omega) (u8v_one _)
  rw [hl] at hcell
  refine ⟨_, hcell, ?_⟩
  have h2 := h1.setRow (((digB Y (j + 1)).map u8v).toArray)
  rw [← digB_next Y hY hj hm, List.map_append, List.map_append, List.map_take, List.map_drop, ← hq] at h2
  unfold SumRel
  rw [← digB_next Y hY hj hm, List.map_append, List.map_append, List.map_take, List.map_drop, ← hq]
  exact h2
theorem step_copy_run {P : Program} {w : World} {ops : Array Oper} {o : Oper} {a : Act} {K : Act → World → Prop} {Q : Exit → Act → World → Prop} {E : Prop}
  (hg : o.guard = none) (s x : Operand) (t tx : TypeId) (hop : o.op = Op.call { callee := Callee.builtin Builtin.copy, args := #[s, x], argTypes := #[t, tx] })
  {sv xv v' : Value} {w' : World} (hs : a.eval s = sv) (hx : a.eval x = xv) (hrun : (Builtin.copy_ #[t, tx] o.type #[sv, xv]).run P w = .ok v' w')
  (hK : K (a.put o.dst v') w') : if Region.wanted o (yielded ops a.tmps) = true then Oper.wp P o a w K Q else E := by
 have hw : Region.wanted o (yielded ops a.tmps) = true := by simp [Region.wanted, hg]
 rw [if_pos hw]
 unfold Oper.wp
 simp [execOp, hop, resolve, invoke, builtin, hs, hx, hrun, Result.andThen]
 exact hK
theorem step_wanted' {ops : Array Oper} {o : Oper} {a : Act} {X E : Prop} (hg : o.guard = none) (h : X) : if Region.wanted o (yielded ops a.tmps) = true then X else E := by
 rw [if_pos (by simp [Region.wanted, hg])]
 exact h
theorem mk72 (w : World) : ∃ w', (Instr.makeSlice 22 (.int .i64 1) (.int .i64 72)).run Tryz.prog w = .ok (.slice (some ⟨w.heap.size, 0, none⟩) 1 72) w' ∧ Owns w' w.heap.size (.slice (some ⟨w.heap.size, 0, none⟩) 1 72) [0] ∧ Keeps (fun _ => False) w w' := by
 obtain ⟨i0, hi, hz0, hz1, hz2⟩ := info_parts info_u8
 have hr := run_make (P := Tryz.prog) w 22 5 i0 _ Tryz.underlying22 hi hz0 .i64 .i64 1 72 (by omega) (by omega) (by rw [hz2]; omega) (by omega)
 rw [hz1] at hr
 refine ⟨_, hr, ⟨rfl, .inr ⟨w.heap.size, 72, _, rfl, Nat.le_refl _, heap_alloc_new w _, by simp, by simp [maxLen], by rw [size_madeCells]; rfl, by simp [madeCells, Value.cells, u8v, List.range_succ_eq_map]⟩⟩, (Keeps.refl _ w).alloc _⟩
set_option maxRecDepth 100000 in
set_option maxHeartbeats 4000000 in
theorem dsum_calls {w : World} {s : Nat} {L : List UInt8} (hs : StAt w s L) (hb : L.length < 70368744177664) :
  Calls Tryz.prog 52 #[.pointer (some ⟨s, 0, none⟩)] w fun e w' => e = .returned (.agg ((sumOf L).map u8v).toArray) ∧ Keeps (fun _ => False) w w' := by
 obtain ⟨tail, hh, ht, hp⟩ := hs
 obtain ⟨n, hn⟩ : ∃ n : Nat, n = L.length := ⟨_, rfl⟩
 rw [← hn] at hh
 obtain ⟨cs, hcs⟩ : ∃ cs : Array Value, cs = ((hashH L).map u32v ++ restOf (n : Int) tail).toArray := ⟨_, rfl⟩
 have hH : (hashH L).length = 8 := hashN_length _ _
 have hcz : cs.size = 73 := by rw [hcs]; simp [hH, ht, restOf]
 have hinfo : (Tryz.prog.info? 208).map (·.size) = some cs.size := by rw [hcz]; kernel_rfl
 have hone : cs.all (·.oneCell') = true := by rw [hcs]; exact state_one _ _ _
 have hh1 := (((Keeps.refl (fun _ => False) w).alloc (.cells (Array.replicate 32 (.int .u8 0)) 39)).at hh (fun e => e))
 unfold stObj at hh hh1
 rw [← hcs] at hh hh1
 have HH := Lib.hid hh
 have HH1 := Lib.hid hh1
 have HINFO := Lib.hid hinfo
 have HONE := Lib.hid hone
 have HCZ := Lib.hid hcz
 have HCS := Lib.hid hcs
 clear hh hh1 hinfo hone hcz hcs
 go_enter Tryz.func52, Tryz.ntmps52
 go_wp2_with (first | (refine wpList_load_row rfl 208 _ rfl s rfl 208 cs (0, 0) _ HH1.out Tryz.underlying208 rfl HINFO.out ?_) | (refine wpList_store_row rfl 208 _ _ rfl _ cs rfl rfl 208 _ (heap_alloc2_new w _ _) HINFO.out (by rw [HCZ.out]; kernel_rfl) HONE.out ?_; rw [setRow_alloc2]; generalize hW : World.alloc _ _ = w2; have HW := Lib.hid hW; clear hW) | (at_make; obtain ⟨w3, hr3, ho3, hk3⟩ := mk72 w2; refine wpList_make_run rfl _ _ _ rfl rfl rfl hr3 ?_; obtain ⟨ho4, ⟨u3, hu3⟩, hf3, hk4⟩ := ho3.set (i := 0) (by simp) 128; have HO4 := Lib.hid ho4; have HK3 := Lib.hid hk3; clear ho3 ho4 hk3 hk4 hr3))
 have hown : Own w w2 [rObj _ (w.heap.size + 1) (.cells cs 208), rObj _ w.heap.size (.cells (Array.replicate 32 (.int .u8 0)) 39)] := by
  rw [← HW.out]
  have h := ((Own.start w).alloc (.cells (Array.replicate 32 (.int .u8 0)) 39)).alloc (.cells cs 208)
  simp only [World.size_alloc] at h
  exact h
 have hkk : Keeps (fun _ => False) w2 (w3.setCell ⟨w2.heap.size, 0, none⟩ (.int .u8 128)) := HK3.out.setCell (fun h => by simp at h) _
 have h5 : Own w (w3.setCell ⟨w2.heap.size, 0, none⟩ (.int .u8 128)) [rBytes _ (.slice (some ⟨w2.heap.size, 0, none⟩) 1 72) (128 :: List.replicate 0 0), rObj _ (w.heap.size + 1) (.cells cs 208), rObj _ w.heap.size (.cells (Array.replicate 32 (.int .u8 0)) 39)] := hown.addBytes HO4.out hkk
 have H5 := Lib.hid h5
 have hc8 : cs[8]? = some (.int .u64 (n : Int)) := by rw [HCS.out]; obtain ⟨x0, x1, x2, x3, x4, x5, x6, x7, hx⟩ := list8 hH; rw [hx]; rfl
 have HC8 := Lib.hid hc8
 obtain ⟨z, hz⟩ : ∃ z, z = zerosOf n := ⟨_, rfl⟩
 have hzz : z = (119 - n % 64) % 64 := hz
 have HZ := Lib.hid hz
 have HZZ := Lib.hid hzz
 have hn46 : (n : Int) < 70368744177664 := by omega
 have HN46 := Lib.hid hn46
 have HSW := Lib.hid (lt_of_heap HH.out)
 have HN := Lib.hid hn
 have HT := Lib.hid (⟨ht, hp⟩ : tail.length = 64 ∧ tail.take (L.length % 64) = L.drop (64 * (L.length / 64)))
 have HHH := Lib.hid hH
 clear hkk h5 hown hu3 hf3 HO4 HK3 HW hc8 hz hzz hn46 hb hn ht hp hH
 generalize w3.setCell ⟨w2.heap.size, 0, none⟩ (.int .u8 128) = w4 at H5 ⊢
 generalize Value.slice (some ⟨w2.heap.size, 0, none⟩) 1 72 = pv0 at H5 ⊢
 go_loopw [4] (fun pv wx => ∃ k, k ≤ z ∧ PadRel w wx cs pv (pad0 k)) (fun pv _ => z + 1 - sliceLen pv)
 case atStart => exact ⟨0, Nat.zero_le _, H5.out⟩
 case round =>
  obtain ⟨k, hk, ho⟩ := hrel
  clear H5
  unfold PadRel at ho
  obtain ⟨P, hP⟩ : ∃ P : List UInt8, P = pad0 k := ⟨_, rfl⟩
  obtain ⟨q, hq⟩ : ∃ q, q = k + 1 := ⟨_, rfl⟩
  have hPl : P.length = q := by rw [hP, hq, pad0_length]
  rw [← hP] at ho
  obtain ⟨hrd, aa, ac, rfl, _, _⟩ := ho.bytes (List.mem_cons_self ..)
  rw [hPl] at hrd ⊢
  have ht8 := cell_at (i := 8) (ho.at (b := w.heap.size + 1) (o := .cells cs 208) (by simp)).1 HC8.out
  have hs8 := cell_at (i := 8) (ho.keeps.at HH.out (fun e => e)) HC8.out
  have hzz := HZZ.out
  obtain ⟨tt, htt⟩ : ∃ tt, tt = n + q := ⟨_, rfl⟩
  have hq65 : q ≤ 65 := by omega
  have ewq : IntKind.u64.wrap (q : Int) = (q : Int) := by rw [IntKind.wrap_u64]; omega
  have ew : IntKind.u64.wrap ((n : Int) + (q : Int)) = (tt : Int) := by have := HN46.out; rw [IntKind.wrap_u64]; omega
  have j1 : (q : Int) ≤ 65 := by omega
  have j2 : (0 : Int) ≤ q := by omega
  have j3 : (0 : Int) ≤ n := by omega
  have j4 : (0 : Int) ≤ tt := by omega
  clear hq65
  by_cases hlt : k < z
  ·obtain ⟨r2, hr2⟩ : ∃ r2 : Nat, r2 = (n + q) % 64 := ⟨_, rfl⟩
   have eb : ((tt : Int) % 64 != 56) = true := by rw [bne_iff_ne]; omega
   have hk2 : Keeps (fun _ => False) wr (wr.alloc (.cells #[.int .u8 0] 5)) := (Keeps.refl _ wr).alloc _
   have hr0 : Reads (wr.alloc (.cells #[.int .u8 0] 5)) (.slice (some ⟨wr.heap.size, 0, none⟩) 1 1) [0] := one_byte wr 0
   obtain ⟨v', w5, hrun, ho5⟩ := (ho.quiet hk2).grow hr0 (by rw [hPl]; simp; omega)
   have hP2 : P ++ [0] = pad0 (k + 1) := by rw [hP, pad0_succ]
   rw [hP2] at ho5
   rw [hPl] at hrun
   obtain ⟨aa', ac', rfl, _, _⟩ := (ho5.bytes (v := v') (l := pad0 (k + 1)) (List.mem_cons_self ..)).2
   have HRUN := Lib.hid hrun
   have HO5 := Lib.hid ho5
   have HX := Lib.hid (⟨hlt, hq⟩ : k < z ∧ q = k + 1)
   clear htt
   clear hrun ho5 ho hrd hr2 hzz hlt hk hq hPl hP hP2 hk2 hr0
   go_wp2_with (at_builtin; refine wpList_append_run rfl _ _ _ _ rfl rfl rfl HRUN.out ?_)
   go_roundw
   case rel => exact ⟨k + 1, HX.out.1, HO5.out⟩
   case measure => have := HX.out; simp only [sliceLen, pad0_length]; omega
  ·obtain rfl : k = z := by omega
   obtain ⟨n8, hn8⟩ : ∃ n8, n8 = 8 * n := ⟨_, rfl⟩
   have e8 : IntKind.u64.wrap ((n : Int) * 8) = (n8 : Int) := by have := HN46.out; rw [IntKind.wrap_u64]; omega
   have HN8 := Lib.hid hn8
   clear hn8
   have eb : ((tt : Int) % 64 != 56) = false := by have : (tt : Int) % 64 = 56 := by omega
                                                   rw [this]; rfl
   clear htt
   clear hlt hk hzz
   have HO := Lib.hid ho
   have HRD := Lib.hid hrd
   have HQ := Lib.hid (⟨hq, hPl, hP⟩ : q = k + 1 ∧ P.length = q ∧ P = pad0 k)
   clear ho hrd hq hPl hP
   go_wp2_with fail
   have hput := put_calls wr n8 8 (by have := HN8.out; have := HN46.out; omega) (by omega)
   refine hput.mono ?_
   rintro e w5 ⟨v5, rfl, ho5, hk5⟩
   obtain ⟨v6, w6, hrun, h6⟩ := (HO.out.quiet hk5).grow ho5.bytes.reads (by rw [HQ.out.2.1, putOf_length]; omega)
   have hpad : P ++ putOf n8 8 = padOf n := by rw [HQ.out.2.2, HZ.out, HN8.out]; rfl
   rw [hpad] at h6
   rw [HQ.out.2.1] at hrun
   obtain ⟨a5, c5, rfl, _, _⟩ := ho5.bytes.form
   obtain ⟨hrd6, a6, c6, rfl, _, _⟩ := h6.bytes (List.mem_cons_self ..)
   have hst6 : StAt w6 (w.heap.size + 1) L := by
    have := (h6.at (b := w.heap.size + 1) (o := .cells cs 208) (by simp)).1
    rw [HCS.out, HN.out] at this
    exact ⟨tail, this, HT.out.1, HT.out.2⟩
   have hpc := put_calls' hst6 hrd6 (fun x n c e _ => own_apart h6 x n c e) (by have := HN46.out; have := HN.out; have := padOf_length n; omega)
   have hturn := own_turn h6
   have HPC := Lib.hid hpc
   have HTU := Lib.hid hturn
   have HRUN := Lib.hid hrun
   have HPL := Lib.hid (padOf_length n)
   clear hput ho5 hk5 hrun h6 hpad hrd6 hst6 hpc hturn ht8 hs8 ewq ew j1 j2 j3 j4 e8 eb HO HRD
   go_wp2_with (at_builtin; refine wpList_append_run rfl _ _ _ _ rfl rfl rfl HRUN.out ?_)
   refine HPC.out.mono ?_
   rintro e w7 ⟨rfl, hk7, tail7, hh7, ht7, hp7⟩
   have h7 := HTU.out w7 _ hk7 hh7
   obtain ⟨M, hM⟩ : ∃ M, M = L ++ padOf n := ⟨_, rfl⟩
   have hsum : sumOf L = (hashH M).flatMap (fun x => putOf x.toNat 4) := by rw [hM, HN.out]; rfl
   rw [← hM] at h7
   obtain ⟨y0, y1, y2, y3, y4, y5, y6, y7, hy⟩ := list8 (hashN_length M (M.length / 64))
   have hy' : hashH M = [y0, y1, y2, y3, y4, y5, y6, y7] := hy
   have hwd : Words [y0, y1, y2, y3, y4, y5, y6, y7] := by rw [← hy]; exact hashN_words _ _
   rw [hy'] at h7 hsum
   obtain ⟨rest, hrest⟩ : ∃ r, r = restOf (M.length : Int) tail7 := ⟨_, rfl⟩
   rw [← hrest] at h7
   have hz7 := (h7.at (b := w.heap.size + 1) (o := stObj [y0, y1, y2, y3, y4, y5, y6, y7] rest) (by simp)).1
   have hlt7 := lt_of_heap hz7
   have c0 := cell_at (i := 0) hz7 rfl
   have c1 := cell_at (i := 1) hz7 rfl
   have c2 := cell_at (i := 2) hz7 rfl
   have c3 := cell_at (i := 3) hz7 rfl
   have c4 := cell_at (i := 4) hz7 rfl
   have c5 := cell_at (i := 5) hz7 rfl
   have c6 := cell_at (i := 6) hz7 rfl
   have c7 := cell_at (i := 7) hz7 rfl
   simp only [List.map_cons, List.map_nil, List.cons_append, List.nil_append, u32v, List.getElem_toArray, List.getElem_cons_succ, List.getElem_cons_zero] at c0 c1 c2 c3 c4 c5 c6 c7
   have h8 := h7.alloc (.cells (Array.replicate 32 (.int .u8 0)) 39)
   have H8 := Lib.hid h8
   have HSUM := Lib.hid hsum
   have HWD := Lib.hid hwd
   clear HPC HTU HRUN hk7 hh7 ht7 hp7 hM hsum hy hy' hwd h7 hz7 h8 hrest
   go_wp2_with fail
   change Code.wp _ _ _ _ (w7.alloc (.cells (Array.replicate 32 (.int .u8 0)) 39))
   clear c0 c1 c2 c3 c4 c5 c6 c7
   generalize w7.alloc (.cells (Array.replicate 32 (.int .u8 0)) 39) = w8 at H8 ⊢
   generalize w7.heap.size = db at H8 ⊢
   have hidx := fun (j : Nat) (h : j < 8) W => idx8_run y0 y1 y2 y3 y4 y5 y6 y7 j h W
   have HIDX := Lib.hid hidx
   clear hidx
   obtain ⟨Y, hY⟩ : ∃ Y : List Int, Y = [y0, y1, y2, y3, y4, y5, y6, y7] := ⟨_, rfl⟩
   rw [← hY] at H8 HWD HSUM HIDX
   have hYl : Y.length = 8 := by rw [hY]; rfl
   have HYL := Lib.hid hYl
   clear hYl hY
   go_loopw [39] (fun i wx => ∃ j : Nat, i = .int .i64 (j : Int) ∧ j ≤ 8 ∧ SumRel w wx db Y rest j) (fun i _ => 8 - (intOf i).toNat)
   case atStart => exact ⟨0, rfl, by omega, by unfold SumRel; rw [digB_zero]; exact H8.out⟩
   case round =>
    obtain ⟨j, rfl, hj, hrel⟩ := hrel
    clear H8
    by_cases hlt : j < 8
    ·obtain ⟨m, hm⟩ : ∃ m : Nat, (m : Int) = wAt Y j := ⟨(wAt Y j).toNat, by have := (HWD.out (wAt Y j) (List.mem_of_getElem? (wAt_eq (by rw [HYL.out]; exact hlt)))).1; omega⟩
     have hm32 : m < 4294967296 := by have := (HWD.out (wAt Y j) (List.mem_of_getElem? (wAt_eq (by rw [HYL.out]; exact hlt)))).2; omega
     have hix := HIDX.out j hlt
     rw [← hm] at hix
     unfold u32v at hix
     obtain ⟨q, hq⟩ : ∃ q, q = 4 * j := ⟨_, rfl⟩
     have w4 : IntKind.i64.wrap (4 * (j : Int)) = (q : Int) := by rw [IntKind.wrap_i64]; omega
     have ewm : IntKind.u64.wrap (m : Int) = (m : Int) := by rw [IntKind.wrap_u64]; omega
     have hsl : ∀ W, (Instr.sliceAt 39 (.pointer (some ⟨db, 0, none⟩)) (some (.int .i64 (q : Int))) none none).run Tryz.prog W = .ok (.slice (some ⟨db, q, none⟩) (32 - q) (32 - q)) W := fun W => dslice_run W db q (by omega)
     have hput := fun W => put_calls W m 4 (by omega) (by omega)
     have hcp := fun W v h1 h2 => sum_copy (W := W) (v := v) hrel hlt hq hm HYL.out h1 h2
     have j0 : (0 : Int) ≤ j := by omega
     have j1 : (j : Int) < 8 := by omega
     have HPUT := Lib.hid hput
     have HCP := Lib.hid hcp
     have HX := Lib.hid hlt
     clear hput hcp hrel hlt hj hm hm32 hq
     go_wp2_with fail
     go_region_law (first | (refine step_wanted' rfl ?_; go_simp; go_at_call 44; refine (HPUT.out _).mono ?_; rintro e w1 ⟨v1, rfl, ho1, hk1⟩) | (obtain ⟨w2, hrun, hrel2⟩ := HCP.out _ _ ho1 hk1; refine step_copy_run rfl _ _ _ _ rfl rfl rfl hrun ?_) | fail)
     all_goals
      have HREL2 := Lib.hid hrel2
      clear hrel2 hrun ho1 hk1 w4 ewm hsl hix
      go_wp2_with fail
      go_roundw
      case rel => exact ⟨j + 1, rfl, HX.out, HREL2.out⟩
      case measure => have := HX.out; simp [intOf]; omega
    ·obtain rfl : j = 8 := by omega
     rw [show ((8 : Nat) : Int) = 8 from rfl]
     have hrel' := hrel
     unfold SumRel at hrel'
     obtain ⟨ds, hds⟩ : ∃ ds : Array Value, ds = ((digB Y 8).map u8v).toArray := ⟨_, rfl⟩
     have hdz : ds.size = 32 := by rw [hds]; simp [digB_length Y HYL.out 8 (by omega)]
     have hinfo : (Tryz.prog.info? 39).map (·.size) = some ds.size := by rw [hdz]; kernel_rfl
     have hone : ds.all (·.oneCell') = true := by rw [hds]; exact bytes_one _
     have hdb := (hrel'.at (b := db) (o := .cells (((digB Y 8).map u8v).toArray) 39) (List.mem_cons_self ..)).1
     rw [← hds] at hdb
     have hrb := (hrel'.at (b := w.heap.size) (o := .cells (Array.replicate 32 (.int .u8 0)) 39) (by simp)).1
     have hfin : ds = ((sumOf L).map u8v).toArray := by rw [hds, HSUM.out, digB_end Y HYL.out]
     have hkp : Keeps (fun _ => False) w (wr.setRow w.heap.size ds) := hrel'.keeps.trans (keeps_setRow wr w.heap.size ds) (fun b hb e => by omega)
     have hrb2 := setRow_heap wr w.heap.size _ ds 39 _ hrb
     have HDB := Lib.hid hdb
     have HRB := Lib.hid hrb
     have HRB2 := Lib.hid hrb2
     have HINF := Lib.hid hinfo
     have HONE' := Lib.hid hone
     have HDZ := Lib.hid hdz
     have HKP := Lib.hid hkp
     have HFIN := Lib.hid hfin
     clear hrel hrel' hj hlt hds hdz hinfo hone hdb hrb hrb2 hfin hkp
     go_wp2_with (first | (refine wpList_load_row rfl 39 _ rfl db rfl 39 ds (0, 0) _ HDB.out Tryz.underlying39 rfl HINF.out ?_) | (refine wpList_store_row rfl 39 _ _ rfl w.heap.size ds rfl rfl 39 _ HRB.out HINF.out (by rw [HDZ.out]; rfl) HONE'.out ?_))
     refine bodyPost_ret (results_cell_row Tryz.results52 _ _ w.heap.size 39 ds (0, 0) _ rfl HRB2.out Tryz.underlying39 rfl HINF.out) rfl ?_
     exact ⟨by rw [HFIN.out], HKP.out⟩
theorem sumOf_length (L : List UInt8) : (sumOf L).length = 32 := by
 have h : (hashH (L ++ padOf L.length)).length = 8 := hashN_length _ _
 rw [sumOf, flat4_length, h]
set_option maxRecDepth 100000 in
theorem sum_calls {w : World} {v : Value} {l : List UInt8} (hr : Reads w v l) (hb : l.length < 70368744177664) : Calls Tryz.prog 11 #[v] w (QuietP w (.agg ((sumOf l).map u8v).toArray)) := by
 obtain ⟨wA, hwA⟩ : ∃ wA : World, wA = w.alloc (.cells (Array.replicate 32 (.int .u8 0)) 39) := ⟨_, rfl⟩
 have hkA : Keeps (fun _ => False) w wA := by rw [hwA]; exact (Keeps.refl _ w).alloc _
 have hzA : wA.heap.size = w.heap.size + 1 := by rw [hwA, World.size_alloc]
 have hrA : wA.heap[w.heap.size]? = some (.cells (Array.replicate 32 (.int .u8 0)) 39) := by rw [hwA]; exact heap_alloc_new w _
 have hnew := dnew_runs wA
 have hk1 : Keeps (fun _ => False) wA (wA.alloc (stObj hWords (restOf 0 (List.replicate 64 0)))) := (Keeps.refl _ wA).alloc _
 have hst : StAt (wA.alloc (stObj hWords (restOf 0 (List.replicate 64 0)))) (w.heap.size + 1) [] := by
  rw [← hzA]
  exact ⟨List.replicate 64 0, heap_alloc_new wA _, by simp, by simp⟩
 have hne : ∀ x n c, v = .slice (some x) n c → l ≠ [] → x.block ≠ w.heap.size + 1 := by
  intro x n c e hl hx
  subst e
  rcases hr with ⟨e, _⟩ | ⟨x', c', e, g1, g2, g3⟩
  ·cases e
  ·cases e
   obtain ⟨b, l', rfl⟩ := List.exists_cons_of_ne_nil hl
   have := World.block_lt_of_cell? w _ (g3 0 (u8v b) rfl)
   rw [addr_block] at this
   omega
 have hput := put_calls' hst ((hr.keep hkA).keep hk1) hne (by simp; omega)
 rw [hzA] at hnew
 obtain ⟨a, c, rfl, hc1, hc2⟩ := hr.form
 obtain ⟨ds, hds⟩ : ∃ ds : Array Value, ds = ((sumOf l).map u8v).toArray := ⟨_, rfl⟩
 have hdz : ds.size = 32 := by rw [hds]; simp [sumOf_length]
 have hinfo : (Tryz.prog.info? 39).map (·.size) = some ds.size := by rw [hdz]; kernel_rfl
 have hone : ds.all (·.oneCell') = true := by rw [hds]; exact bytes_one _
 have HP := Lib.hid hput
 have HN := Lib.hid hnew
 have HKA := Lib.hid hkA
 have HK := Lib.hid hk1
 have HRA := Lib.hid hrA
 have HZA := Lib.hid hzA
 have HWA := Lib.hid hwA
 have HINF := Lib.hid hinfo
 have HONE := Lib.hid hone
 have HDZ := Lib.hid hdz
 rw [← hds]
 have HDS := Lib.hid hds
 clear hput hnew hk1 hst hne hr hkA hzA hrA hwA hinfo hone hdz hds hc1 hc2
 go_enter Tryz.func11, Tryz.ntmps11
 go_wp2_with fail
 change Calls _ _ _ (w.alloc (.cells (Array.replicate 32 (.int .u8 0)) 39)) _
 rw [← HWA.out]
 refine HN.out.out.mono ?_; rintro e w' ⟨rfl, rfl⟩
 go_wp2_with fail
 refine HP.out.mono ?_
 rintro e w2 ⟨rfl, hk2, hst2⟩
 rw [List.nil_append] at hst2
 have hd2 := dsum_calls hst2 hb
 rw [← HDS.out] at hd2
 have hk3 : Keeps (fun _ => False) w w2 := (HKA.out.trans HK.out (fun _ _ e => e)).trans hk2 (fun b hb e => by omega)
 have hr2 : w2.heap[w.heap.size]? = some (.cells (Array.replicate 32 (.int .u8 0)) 39) := hk2.at (HK.out.at HRA.out (fun e => e)) (fun e => by omega)
 have HD := Lib.hid hd2
 have HK3 := Lib.hid hk3
 have HR2 := Lib.hid hr2
 clear hk2 hst2 hd2 hk3 HP HN HK HKA HRA hr2 hb
 go_wp2_with fail
 refine HD.out.mono ?_
 rintro e w3 ⟨rfl, hk4⟩
 have hr3 := hk4.at HR2.out (fun e => e)
 have HK4 := Lib.hid ((HK3.out.trans hk4 (fun _ _ e => e)).trans (keeps_setRow w3 w.heap.size ds) (fun b hb e => by omega))
 have HR4 := Lib.hid (setRow_heap w3 w.heap.size _ ds 39 _ hr3)
 have HR3 := Lib.hid hr3
 clear hk4 HK3 HD hr3 HR2
 go_wp2_with (refine wpList_store_row rfl 39 _ _ rfl w.heap.size ds rfl rfl 39 _ HR3.out HINF.out (by rw [HDZ.out]; rfl) HONE.out ?_)
 refine bodyPost_ret (results_cell_row Tryz.results11 _ _ w.heap.size 39 ds (0, 0) _ rfl HR4.out Tryz.underlying39 rfl HINF.out) rfl ?_
 exact ⟨rfl, HK4.out⟩
end Go.Proofs.YtlcnhpjggjgnpaaGreatDoor
