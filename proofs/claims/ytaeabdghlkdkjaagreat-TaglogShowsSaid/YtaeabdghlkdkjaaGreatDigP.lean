/- The digest: bytes are taken in. -/
import Derived.Test.YtaeabdghlkdkjaaGreatDigV
import Derived.Test.YtaeabdghlkdkjaaGreatScan
import Derived.Laws.CopyRow
namespace Go.Proofs.YtaeabdghlkdkjaaGreat
set_option linter.unusedVariables false
open Go.RowKit Go.MapKept

/-- A slice's head and tail. -/
theorem shead_run (w : World) (a : Option Addr) (n c j : Nat) (h1 : j ≤ c) : (Instr.sliceAt 36 (.slice a n c) none (some (.int .i64 (j : Int))) none).run Tryz.prog w = .ok (.slice a j c) w := by
  rw [run_sliceAt_slice _ _ _ _ _ _ elem_bytes, run_slice_h w 36 a n c elem_bytes .i64 (j : Int) (by omega) (by omega), size_u8]
  simp only [Result.andThen, sliced, Int.toNat_natCast, Nat.zero_mul, Nat.sub_zero]
  have : (a.map fun x => x.add 0) = a := by cases a with
    | none => rfl
    | some x => simp [Addr.add_zero']
  rw [this]
  simp
theorem stail_run (w : World) (x : Addr) (n c i : Nat) (h1 : i ≤ n) : (Instr.sliceAt 36 (.slice (some x) n c) (some (.int .i64 (i : Int))) none none).run Tryz.prog w = .ok (.slice (some (if c = i then x else x.add i)) (n - i) (c - i)) w := by
  rw [run_sliceAt_slice _ _ _ _ _ _ elem_bytes, run_slice_l w 36 (some x) n c elem_bytes .i64 (i : Int) (by omega) (by omega), size_u8]
  simp only [Result.andThen, sliced, Int.toNat_natCast, Nat.mul_one, Option.map_some]
  split <;> rfl
theorem Reads.headSlice {w : World} {x : Addr} {n c : Nat} {l : List UInt8} (h : Reads w (.slice (some x) n c) l) (j : Nat) (hj : j ≤ l.length) : Reads w (.slice (some x) j c) (l.take j) := by
  rcases h with ⟨e, _⟩ | ⟨x', c', e, h1, h2, h3⟩
  · cases e
  · cases e
    refine .inr ⟨_, _, by rw [List.length_take, Nat.min_eq_left hj], by rw [List.length_take]; omega, h2, fun k u hu => ?_⟩
    rw [List.getElem?_map, List.getElem?_take] at hu
    split at hu
    · exact h3 _ _ (by rw [List.getElem?_map]; exact hu)
    · cases hu
theorem Reads.tailSlice {w : World} {x : Addr} {n c : Nat} {l : List UInt8} (h : Reads w (.slice (some x) n c) l) (i : Nat) (hi : i ≤ l.length) : Reads w (.slice (some (if c = i then x else x.add i)) (n - i) (c - i)) (l.drop i) := by
  have hn : n = l.length := by
    rcases h with ⟨e, _⟩ | ⟨x', c', e, _⟩
    · cases e
    · cases e; rfl
  have := h.cut i (l.length - i) (by omega)
  rw [List.take_of_length_le (by rw [List.length_drop]; omega)] at this
  rw [hn]; exact this
theorem addr_block (x : Addr) (i : Nat) : (x.add i).block = x.block := by unfold Addr.add; split <;> rfl
/-- Old bytes are read as they were. -/
theorem Reads.apart {w w' : World} {v : Value} {l : List UInt8} {s : Nat} (h : Reads w v l) (hk : Keeps (fun b => b = s) w w') (hne : ∀ x n c, v = .slice (some x) n c → l ≠ [] → x.block ≠ s) : Reads w' v l := by
  rcases h with h | ⟨x, c, rfl, h1, h2, h3⟩
  · exact .inl h
  · refine .inr ⟨x, c, rfl, h1, h2, fun j u hu => ?_⟩
    have hc := h3 j u hu
    rw [World.cell?_of_block (hk.block _ (World.block_lt_of_cell? w _ hc) (fun e => hne x _ _ rfl (fun e2 => by rw [e2] at hu; simp at hu) (by rw [addr_block] at e; exact e)))]
    exact hc
def sliceLen : Value → Nat
  | .slice _ n _ => n
  | _ => 0
theorem set_n {w : World} {s : Nat} {H : List Int} {m : Int} {tail : List UInt8} (hh : w.heap[s]? = some (stObj H (restOf m tail))) (hH : H.length = 8) {n : Int} : (w.setCell ⟨s, 8, none⟩ (.int .u64 n)).heap[s]? = some (stObj H (restOf n tail)) := by
  refine (heap_setCell_eq (t := 242) hh 8 _).trans ?_
  obtain ⟨x0, x1, x2, x3, x4, x5, x6, x7, rfl⟩ := list8 hH
  rfl
/-- What is still to come in. -/
structure PutIn (w : World) (pv : Value) (s : Nat) (D : List UInt8) : Prop where
  reads : Reads w pv D
  apart : ∀ x n c, pv = .slice (some x) n c → D ≠ [] → x.block ≠ s
theorem PutIn.next {w : World} {x : Addr} {n c s : Nat} {D : List UInt8} (h : PutIn w (.slice (some x) n c) s D) (hd : 64 ≤ D.length) : PutIn w (.slice (some (if c = 64 then x else x.add 64)) (n - 64) (c - 64)) s (D.drop 64) := by
  have hD : D ≠ [] := fun e => by rw [e] at hd; simp at hd
  refine ⟨h.reads.tailSlice 64 hd, fun y m d e _ => ?_⟩
  simp only [Value.slice.injEq, Option.some.injEq] at e
  rw [← e.1]
  split
  · exact h.apart x n c rfl hD
  · rw [addr_block]; exact h.apart x n c rfl hD
structure PutRel (w wx : World) (s kb : Nat) (M : List UInt8) (j : Nat) : Prop where
  mid : MidAt wx s M j
  keep : Keeps (fun b => b = s) w wx
  k : wx.heap[kb]? = some (arrObj kWords 243)
theorem tslice_run (W : World) (s hv : Nat) (h : hv < 64) : (Instr.sliceAt 240 (.pointer (some ⟨s, 9, none⟩)) (some (.int .i64 (hv : Int))) none none).run Tryz.prog W = .ok (.slice (some ⟨s, 9 + hv, none⟩) (64 - hv) (64 - hv)) W := by
  have hal : Tryz.prog.arrayLen 240 = 64 := by kernel_rfl
  have hsz : (sizeOf (Tryz.prog.elem 240)).run Tryz.prog W = .ok 1 W := by kernel_rfl
  rw [run_sliceAt_array_l W 240 ⟨s, 9, none⟩ (by kernel_rfl) .i64 (hv : Int) (by omega) (by rw [hal]; omega), hsz, hal]
  simp only [Result.andThen, slicedAt, Int.toNat_natCast, Nat.mul_one, Addr.add_lit]
  rw [if_neg (by omega)]
theorem tail_reads {w : World} {s : Nat} {H : List Int} {n : Int} {tail : List UInt8} (hh : w.heap[s]? = some (stObj H (restOf n tail))) (hH : H.length = 8) (ht : tail.length = 64) : Reads w (.slice (some ⟨s, 9, none⟩) 64 64) tail := by
  refine .inr ⟨⟨s, 9, none⟩, 64, by rw [ht], by omega, by simp [maxLen], fun j u hu => ?_⟩
  rw [Addr.add_lit]
  refine cell_at hh ?_
  obtain ⟨x0, x1, x2, x3, x4, x5, x6, x7, rfl⟩ := list8 hH
  rw [List.getElem?_toArray, show 9 + j = j + 1 + 1 + 1 + 1 + 1 + 1 + 1 + 1 + 1 by omega]
  exact hu
theorem block_calls {w : World} {s k : Nat} {x : Addr} {p : List UInt8} {pc : Nat} {H : List Int} {rest : List Value} (hH : H.length = 8) (hpl : p.length = 64) (hp : Reads w (.slice (some x) 64 pc) p) (hs : w.heap[s]? = some (stObj H rest)) (hk : w.heap[k]? = some (arrObj kWords 243)) :
    Calls Tryz.prog 175 #[.pointer (some ⟨s, 0, none⟩), .slice (some x) 64 pc, .pointer (some ⟨k, 0, none⟩)] w fun e w' => e = .returned (.tuple #[]) ∧ Keeps (fun b => b = s) w w' ∧ w'.heap[s]? = some (stObj (blockV kWords H p) rest) := by
  obtain ⟨h0, h1, h2, h3, h4, h5, h6, h7, rfl⟩ := list8 hH
  refine block_walk w s k x p pc hpl (fun i c hc => ?_) hs (by rfl) hk
  rcases hp with ⟨e, _⟩ | ⟨x', c', e, g1, g2, g3⟩
  · cases e
  · simp only [Value.slice.injEq, Option.some.injEq] at e
    rw [e.1]
    exact g3 i (u8v c) (by simp [hc])
/-- The tail's first bytes are laid. -/
theorem tail_copy {w : World} {s : Nat} {H : List Int} {n : Int} {tail : List UInt8} (hh : w.heap[s]? = some (stObj H (restOf n tail))) (hH : H.length = 8) (ht : tail.length = 64) {pv : Value} {l : List UInt8} (hr : Reads w pv l) (i m : Nat) (hi : i < 64) (hmm : m = min l.length (64 - i)) :
    ∃ w', (Builtin.copy_ #[36, 36] 3 #[.slice (some ⟨s, 9 + i, none⟩) (64 - i) (64 - i), pv]).run Tryz.prog w = .ok (goInt (m : Int)) w' ∧ Keeps (fun b => b = s) w w' ∧
      w'.heap[s]? = some (stObj H (restOf n (tail.take i ++ l.take (64 - i) ++ tail.drop (i + m)))) := by
  obtain ⟨i0, hi0, hz0, hz1, hz2⟩ := info_parts info_u8
  have hsz : (Tryz.prog.info? 5).map (·.size) = some 1 := by rw [hi0]; simp [hz1]
  rcases hr with ⟨rfl, rfl⟩ | ⟨x, c, rfl, h1, h2, h3⟩
  · simp only [List.length_nil, Nat.zero_min] at hmm
    subst hmm
    refine ⟨w, ?_, Keeps.refl _ _, ?_⟩
    · exact run_copy_nil (P := Tryz.prog) w 36 36 3 5 ⟨s, 9 + i, none⟩ (64 - i) (64 - i) Tryz.underlying36 (by rw [hsz]; rfl)
    · simpa using hh
  · have hm : ((l.take (64 - i)).map u8v).length = m := by rw [List.length_map, List.length_take, hmm, Nat.min_comm]
    have hm2 : ((l.take (64 - i)).map u8v).length = Nat.min l.length (64 - i) := by rw [hm, hmm]
    have hsize : (List.map u32v H ++ restOf n tail).toArray.size = 73 := by simp [hH, ht, restOf]
    have hcell := run_copy_row (P := Tryz.prog) w 36 36 3 5 s (9 + i) (64 - i) (64 - i) x l.length c _ 242 ((l.take (64 - i)).map u8v) Tryz.underlying36 hsz hh hm2
      (fun j v hv => h3 j v (by rw [List.getElem?_map] at hv ⊢; rw [List.getElem?_take] at hv; split at hv; exact hv; cases hv))
      (by rw [hm, hsize]; omega) (u8v_one _)
    rw [hm] at hcell
    have hnew : (List.take (9 + i) (List.map u32v H ++ restOf n tail).toArray.toList ++ List.map u8v (List.take (64 - i) l) ++ List.drop (9 + i + m) (List.map u32v H ++ restOf n tail).toArray.toList).toArray = (List.map u32v H ++ restOf n (tail.take i ++ l.take (64 - i) ++ tail.drop (i + m))).toArray := by
      obtain ⟨x0, x1, x2, x3, x4, x5, x6, x7, rfl⟩ := list8 hH
      unfold restOf
      simp only [List.map_cons, List.map_nil, List.cons_append, List.nil_append, List.map_append, List.map_take, List.map_drop]
      rw [show 9 + i + m = (i + m) + 1 + 1 + 1 + 1 + 1 + 1 + 1 + 1 + 1 by omega, show 9 + i = i + 1 + 1 + 1 + 1 + 1 + 1 + 1 + 1 + 1 by omega]
      simp only [List.take_succ_cons, List.cons_append, List.drop_succ_cons, List.append_assoc]
    rw [hnew] at hcell
    exact ⟨_, hcell, ⟨rfl, rfl, rfl, by simp [World.setRow], fun k hk hF => setRow_other w s k _ (fun e => hF e)⟩, setRow_heap w s _ _ 242 _ hh⟩
set_option maxRecDepth 100000 in
set_option maxHeartbeats 4000000 in
theorem put_a {w : World} {s : Nat} {L l : List UInt8} {pv : Value} (hs : StAt w s L) (hr : Reads w pv l) (hne : ∀ x n c, pv = .slice (some x) n c → l ≠ [] → x.block ≠ s) (hb : L.length + l.length < 140737488355328) (h0 : L.length % 64 = 0) :
    Calls Tryz.prog 160 #[.pointer (some ⟨s, 0, none⟩), pv] w fun e w' => e = .returned (.tuple #[]) ∧ Keeps (fun b => b = s) w w' ∧ StAt w' s (L ++ l) := by
  obtain ⟨a, c, rfl, hc1, hc2⟩ := hr.form
  obtain ⟨tail, hh, ht, hp⟩ := hs
  obtain ⟨n, hn⟩ : ∃ n : Nat, n = L.length := ⟨_, rfl⟩
  obtain ⟨M, hMe⟩ : ∃ M, M = L ++ l := ⟨_, rfl⟩
  rw [← hMe]
  rw [← hn] at hh
  have hr1 := rounds_runs w
  obtain ⟨w1, hst, hk1, hz1, hkb⟩ := kbox w
  have hlt := lt_of_heap hh
  have HS0 := Lib.hid hh
  have hh1 := hk1.at hh (fun e => e)
  obtain ⟨x0, x1, x2, x3, x4, x5, x6, x7, hx⟩ := list8 (hashN_length L (L.length / 64))
  have hh2 := hh1
  unfold stObj hashH restOf at hh2
  rw [hx] at hh2
  have c8 := cell_at (i := 8) hh2 rfl
  have f8 := free_at hh2 8
  simp only [List.map_cons, List.map_nil, List.cons_append, List.nil_append, List.getElem_toArray, List.getElem_cons_succ, List.getElem_cons_zero] at c8
  have HR1 := Lib.hid hr1
  have HKB := Lib.hid hkb
  have HH1 := Lib.hid hh1
  have HR := Lib.hid hr
  have e0 : (n : Int) % 64 = 0 := by omega
  clear hr1 hh hh2 hh1 hkb hr
  go_enter Tryz.func160, Tryz.ntmps160
  go_wp2_with fail
  refine HR1.out.out.mono ?_; rintro e w' ⟨rfl, rfl⟩
  go_wp2_with fail
  have hset := set_n HH1.out (n := (M.length : Int)) (by unfold hashH; exact hashN_length _ _)
  have hM : hashN M (L.length / 64) = hashH L := by rw [hMe]; exact hashN_append _ _ _ (by omega)
  have hD : M.drop (64 * (L.length / 64)) = l := by rw [hMe, show 64 * (L.length / 64) = L.length by omega, List.drop_left]
  have hlen : (M.length : Int) = (L.length : Int) + (l.length : Int) := by rw [hMe, List.length_append]; omega
  rw [← hM, hlen] at hset
  have hkp : Keeps (fun b => b = s) w (w1.setCell ⟨s, 8, none⟩ (.int .u64 ((L.length : Int) + (l.length : Int)))) := Keeps.setCell (F := fun b => b = s) (p := ⟨s, 8, none⟩) (hk1.mono (fun _ _ e => e.elim)) (fun _ => rfl) _
  have hkb2 : (w1.setCell ⟨s, 8, none⟩ (.int .u64 ((L.length : Int) + (l.length : Int)))).heap[w.heap.size + 1]? = some (arrObj kWords 243) := (Below.heap_setCell w1 ⟨s, 8, none⟩ _ _ (fun e => by simp only at e; omega)).trans HKB.out
  rw [← hlen] at hset hkp hkb2 ⊢
  have hrel0 : PutRel w (w1.setCell ⟨s, 8, none⟩ (.int .u64 (M.length : Int))) s (w.heap.size + 1) M (L.length / 64) := ⟨⟨tail, hset, ht, by omega⟩, hkp, hkb2⟩
  have hin0 : PutIn w (.slice a l.length c) s (M.drop (64 * (L.length / 64))) := by rw [hD]; exact ⟨HR.out, hne⟩
  have HREL0 := Lib.hid hrel0
  have HIN0 := Lib.hid hin0
  clear hrel0 hin0 hset hM hD hlen hkp hkb2 hst hk1 hz1 hx c8 f8 HR1 HKB HH1 HR e0 hMe
  generalize L.length / 64 = j0 at HREL0 HIN0
  generalize w1.setCell ⟨s, 8, none⟩ (.int .u64 (M.length : Int)) = w2 at HREL0 ⊢
  go_loopw [1] (fun pv wx => ∃ j : Nat, PutIn w pv s (M.drop (64 * j)) ∧ PutRel w wx s (w.heap.size + 1) M j) (fun pv _ => sliceLen pv)
  case atStart => exact ⟨j0, HIN0.out, HREL0.out⟩
  case round =>
    obtain ⟨j, hin, hrel⟩ := hrel
    clear HREL0 HIN0
    obtain ⟨D, hD⟩ : ∃ D, D = M.drop (64 * j) := ⟨_, rfl⟩
    rw [← hD] at hin
    obtain ⟨a', c', rfl, hc1', hc2'⟩ := hin.reads.form
    unfold maxLen at hc2'
    have hkp := hrel.keep
    obtain ⟨tail', hh', ht', hj'⟩ := hrel.mid
    have hrw := (hin.reads.apart hkp hin.apart)
    by_cases hlt : 64 ≤ D.length
    · obtain ⟨n1, n2, n3⟩ := mid_next (M := M) (j := j) (by rw [← hD]; exact hlt)
      rw [← hD] at n1 n2
      obtain ⟨x, rfl⟩ : ∃ x, a' = some x := by
        rcases hin.reads with ⟨e, e2⟩ | ⟨x, c'', e, _⟩
        · subst e2; simp at hlt
        · cases e; exact ⟨x, rfl⟩
      have hbl := block_calls (w := wr) (s := s) (k := w.heap.size + 1) (hashN_length M j) (by rw [List.length_take]; omega) (hrw.headSlice 64 hlt) hh' hrel.k
      rw [← n1] at hbl
      have hin2 : PutIn w (.slice (some (if c' = 64 then x else x.add 64)) (D.length - 64) (c' - 64)) s (M.drop (64 * (j + 1))) := by
        rw [← n2]; exact hin.next hlt
      have hsh : ∀ W, (Instr.sliceAt 36 (.slice (some x) D.length c') none (some (.int .i64 64)) none).run Tryz.prog W = .ok (.slice (some x) 64 c') W := fun W => shead_run W (some x) D.length c' 64 (by omega)
      have hst : ∀ W, (Instr.sliceAt 36 (.slice (some x) D.length c') (some (.int .i64 64)) none none).run Tryz.prog W = .ok (.slice (some (if c' = 64 then x else x.add 64)) (D.length - 64) (c' - 64)) W := fun W => stail_run W x D.length c' 64 hlt
      have HBL := Lib.hid hbl
      have HIN2 := Lib.hid hin2
      have HREL := Lib.hid hrel
      have HX := Lib.hid (⟨n3, ht', hlt⟩ : 64 * (j + 1) ≤ M.length ∧ tail'.length = 64 ∧ 64 ≤ D.length)
      generalize (if c' = 64 then x else x.add 64) = y at hst HIN2
      have j1 : (64 : Int) ≤ D.length := by omega
      have j2 : ((D.length : Nat) : Int) ≤ 9223372036854775807 := by omega
      clear hbl hin2 hrel hin hrw hkp hh' n1 n2 n3 hD hlt ht' hj' hc1' hc2'
      go_wp2_with fail
      refine HBL.out.mono ?_
      rintro e w3 ⟨rfl, hk3, hh3⟩
      have hnew : PutRel w w3 s (w.heap.size + 1) M (j + 1) := ⟨⟨tail', hh3, HX.out.2.1, HX.out.1⟩, HREL.out.keep.trans hk3 (fun _ _ e => e), hk3.at HREL.out.k (fun e => by have := lt_of_heap HS0.out; omega)⟩
      have HNEW := Lib.hid hnew
      clear hnew hk3 hh3 HBL
      go_wp2_with fail
      go_roundw
      case rel => exact ⟨j + 1, HIN2.out, HNEW.out⟩
      case measure => have := HX.out; simp only [sliceLen]; omega
    · have hcp := tail_copy hh' (hashN_length M j) ht' hrw 0 D.length (by omega) (by omega)
      obtain ⟨w3, hcr, hk3, hh3⟩ := hcp
      have hst3 : StAt w3 s M := by
        have hl3 : (M.drop (64 * j)).length < 64 := by rw [← hD]; omega
        refine StAt.end_ (tail := tail') (j := j) ?_ ht' hj' hl3
        rw [← hD]
        rw [List.take_zero, List.nil_append, Nat.zero_add, List.take_of_length_le (by omega)] at hh3
        exact hh3
      have HST := Lib.hid hst3
      have HK3 := Lib.hid (hkp.trans hk3 (fun _ _ e => e))
      have j1 : (D.length : Int) < 64 := by omega
      clear hst3 hk3 hh3 hrel hin hrw hkp hh' ht' hj' hlt hD
      go_wp2_with fail
      go_end0
      exact ⟨rfl, HK3.out, HST.out⟩
set_option maxRecDepth 100000 in
set_option maxHeartbeats 4000000 in
theorem put_b2 {w : World} {s : Nat} {L l : List UInt8} {pv : Value} (hs : StAt w s L) (hr : Reads w pv l) (hne : ∀ x n c, pv = .slice (some x) n c → l ≠ [] → x.block ≠ s) (hb : L.length + l.length < 140737488355328) (h0 : 0 < L.length % 64) (hs64 : 64 ≤ L.length % 64 + l.length) :
    Calls Tryz.prog 160 #[.pointer (some ⟨s, 0, none⟩), pv] w fun e w' => e = .returned (.tuple #[]) ∧ Keeps (fun b => b = s) w w' ∧ StAt w' s (L ++ l) := by
  obtain ⟨a, c, rfl, hc1, hc2⟩ := hr.form
  obtain ⟨tail, hh, ht, hp⟩ := hs
  obtain ⟨n, hn⟩ : ∃ n : Nat, n = L.length := ⟨_, rfl⟩
  obtain ⟨M, hMe⟩ : ∃ M, M = L ++ l := ⟨_, rfl⟩
  rw [← hMe]
  rw [← hn] at hh
  have hr1 := rounds_runs w
  obtain ⟨w1, hst, hk1, hz1, hkb⟩ := kbox w
  have hlt := lt_of_heap hh
  have HS0 := Lib.hid hh
  have hh1 := hk1.at hh (fun e => e)
  obtain ⟨x0, x1, x2, x3, x4, x5, x6, x7, hx⟩ := list8 (hashN_length L (L.length / 64))
  have hh2 := hh1
  unfold stObj hashH restOf at hh2
  rw [hx] at hh2
  have c8 := cell_at (i := 8) hh2 rfl
  have f8 := free_at hh2 8
  simp only [List.map_cons, List.map_nil, List.cons_append, List.nil_append, List.getElem_toArray, List.getElem_cons_succ, List.getElem_cons_zero] at c8
  have HR1 := Lib.hid hr1
  have HKB := Lib.hid hkb
  have HH1 := Lib.hid hh1
  have HR := Lib.hid hr
  clear hr1 hh hh2 hh1 hkb hr
  obtain ⟨hv, hhv⟩ : ∃ hv, hv = L.length % 64 := ⟨_, rfl⟩
  obtain ⟨m, hm⟩ : ∃ m, m = min l.length (64 - hv) := ⟨_, rfl⟩
  have hset := set_n HH1.out (n := (M.length : Int)) (by unfold hashH; exact hashN_length _ _)
  have hlen : (M.length : Int) = (n : Int) + (l.length : Int) := by rw [hMe, List.length_append]; omega
  have hkp : Keeps (fun b => b = s) w (w1.setCell ⟨s, 8, none⟩ (.int .u64 (M.length : Int))) := Keeps.setCell (F := fun b => b = s) (p := ⟨s, 8, none⟩) (hk1.mono (fun _ _ e => e.elim)) (fun _ => rfl) _
  have hkb2 : (w1.setCell ⟨s, 8, none⟩ (.int .u64 (M.length : Int))).heap[w.heap.size + 1]? = some (arrObj kWords 243) := (Below.heap_setCell w1 ⟨s, 8, none⟩ _ _ (fun e => by simp only at e; omega)).trans HKB.out
  obtain ⟨w3, hcr, hk3, hh3⟩ := tail_copy hset (by unfold hashH; exact hashN_length _ _) ht (HR.out.apart hkp hne) hv m (by omega) hm
  rw [hlen, hn] at hcr
  have e0 : (L.length : Int) % 64 = (hv : Int) := by omega
  have j0 : (0 : Int) < hv := by omega
  have j1 : (hv : Int) < 64 := by omega
  have j2 : (0 : Int) ≤ m := by omega
  have hts : ∀ W, (Instr.sliceAt 240 (.pointer (some ⟨s, 9, none⟩)) (some (.int .i64 (hv : Int))) none none).run Tryz.prog W = .ok (.slice (some ⟨s, 9 + hv, none⟩) (64 - hv) (64 - hv)) W := fun W => tslice_run W s hv (by omega)
  obtain ⟨x, rfl⟩ : ∃ x, a = some x := by
    rcases HR.out with ⟨e, e2⟩ | ⟨x, c'', e, _⟩
    · subst e2; simp at hs64; omega
    · cases e; exact ⟨x, rfl⟩
  have hst2 : ∀ W, (Instr.sliceAt 36 (.slice (some x) l.length c) (some (.int .i64 (m : Int))) none none).run Tryz.prog W = .ok (.slice (some (if c = m then x else x.add m)) (l.length - m) (c - m)) W := fun W => stail_run W x l.length c m (by omega)
  have jm : (hv : Int) + m = 64 := by omega
  obtain ⟨tail', htl⟩ : ∃ t, t = tail.take hv ++ l.take (64 - hv) ++ tail.drop (hv + m) := ⟨_, rfl⟩
  rw [← htl] at hh3
  obtain ⟨p1, p2, p3⟩ := part_full (l := l) ht hp (by omega)
  rw [← hhv, ← hMe] at p2
  rw [← hhv, ← hMe] at p3
  rw [← hMe] at p1
  have htl2 : tail' = (M.drop (64 * (L.length / 64))).take 64 := by
    have hd64 : tail.drop (hv + m) = [] := List.drop_of_length_le (by omega)
    rw [htl, p2, hd64, List.append_nil]
  have hml : 64 * (L.length / 64 + 1) ≤ M.length := by omega
  have htl3 : tail'.length = 64 := by rw [htl2, List.length_take, List.length_drop]; omega
  have hbl := block_calls (w := w3) (s := s) (k := w.heap.size + 1) (x := ⟨s, 9, none⟩) (pc := 64) (by unfold hashH; exact hashN_length _ _) htl3 (tail_reads hh3 (by unfold hashH; exact hashN_length _ _) htl3) hh3 (hk3.at hkb2 (fun e => by have := lt_of_heap HS0.out; omega))
  have hnx : blockV kWords (hashH L) tail' = hashN M (L.length / 64 + 1) := by rw [htl2, ← p1]; rfl
  rw [hnx] at hbl
  have hin0 : PutIn w (.slice (some (if c = m then x else x.add m)) (l.length - m) (c - m)) s (M.drop (64 * (L.length / 64 + 1))) := by
    rw [← p3, show 64 - hv = m by omega]
    have hl0 : l ≠ [] := fun e => by rw [e] at hs64; simp at hs64; omega
    refine ⟨HR.out.tailSlice m (by omega), fun y u d e _ => ?_⟩
    simp only [Value.slice.injEq, Option.some.injEq] at e
    rw [← e.1]
    split
    · exact hne x l.length c rfl hl0
    · rw [addr_block]; exact hne x l.length c rfl hl0
  have hkp3 : Keeps (fun b => b = s) w w3 := hkp.trans hk3 (fun _ _ e => e)
  have hkb3 := hk3.at hkb2 (fun e => by have := lt_of_heap HS0.out; omega)
  have hfin : ∀ w4, Keeps (fun b => b = s) w3 w4 → w4.heap[s]? = some (stObj (hashN M (L.length / 64 + 1)) (restOf (M.length : Int) tail')) → PutRel w w4 s (w.heap.size + 1) M (L.length / 64 + 1) := fun w4 h1 h2 =>
    ⟨⟨tail', h2, htl3, hml⟩, hkp3.trans h1 (fun _ _ e => e), h1.at hkb3 (fun e => by have := lt_of_heap HS0.out; omega)⟩
  have HBL := Lib.hid hbl
  have HIN0 := Lib.hid hin0
  have HFIN := Lib.hid hfin
  generalize (if c = m then x else x.add m) = y at hst2 HIN0
  generalize L.length / 64 + 1 = jj at HIN0 HFIN HBL
  clear p1 p2 p3 htl htl2 htl3 hml hbl hnx hin0 hfin hkp3 hkb3
  have HX := Lib.hid (⟨hn, hhv, hm, hlen⟩ : n = L.length ∧ hv = L.length % 64 ∧ m = min l.length (64 - hv) ∧ (M.length : Int) = (n : Int) + (l.length : Int))
  have HSET := Lib.hid hset
  have HKP := Lib.hid hkp
  have HKB2 := Lib.hid hkb2
  have HK3 := Lib.hid hk3
  have HH3 := Lib.hid hh3
  have HP := Lib.hid hp
  have HMe := Lib.hid hMe
  have HHS := Lib.hid (⟨hs64, hb, h0⟩ : 64 ≤ L.length % 64 + l.length ∧ L.length + l.length < 140737488355328 ∧ 0 < L.length % 64)
  clear hset hlen hkp hkb2 hk3 hh3 hp hMe hs64 h0 hhv hm hx hk1 hz1 hlt
  go_enter Tryz.func160, Tryz.ntmps160
  go_wp2_with fail
  refine HR1.out.out.mono ?_; rintro e w' ⟨rfl, rfl⟩
  go_wp2_with fail
  refine HBL.out.mono ?_
  rintro e w4 ⟨rfl, hk4, hh4⟩
  have HREL0 := Lib.hid (HFIN.out w4 hk4 hh4)
  clear HFIN HBL hk4 hh4 hts hst2 hcr jm e0 j0 j1 j2 c8 f8 HSET HKP HKB2 HK3 HH3 HP HMe HR HR1 HKB HH1 hst
  go_wp2_with fail
  go_loopw [1] (fun pv wx => ∃ j : Nat, PutIn w pv s (M.drop (64 * j)) ∧ PutRel w wx s (w.heap.size + 1) M j) (fun pv _ => sliceLen pv)
  case atStart => exact ⟨jj, HIN0.out, HREL0.out⟩
  case round =>
    obtain ⟨j, hin, hrel⟩ := hrel
    clear HREL0 HIN0
    obtain ⟨D, hD⟩ : ∃ D, D = M.drop (64 * j) := ⟨_, rfl⟩
    rw [← hD] at hin
    obtain ⟨a', c', rfl, hc1', hc2'⟩ := hin.reads.form
    unfold maxLen at hc2'
    have hkp := hrel.keep
    obtain ⟨tail', hh', ht', hj'⟩ := hrel.mid
    have hrw := (hin.reads.apart hkp hin.apart)
    by_cases hlt : 64 ≤ D.length
    · obtain ⟨n1, n2, n3⟩ := mid_next (M := M) (j := j) (by rw [← hD]; exact hlt)
      rw [← hD] at n1 n2
      obtain ⟨x, rfl⟩ : ∃ x, a' = some x := by
        rcases hin.reads with ⟨e, e2⟩ | ⟨x, c'', e, _⟩
        · subst e2; simp at hlt
        · cases e; exact ⟨x, rfl⟩
      have hbl := block_calls (w := wr) (s := s) (k := w.heap.size + 1) (hashN_length M j) (by rw [List.length_take]; omega) (hrw.headSlice 64 hlt) hh' hrel.k
      rw [← n1] at hbl
      have hin2 : PutIn w (.slice (some (if c' = 64 then x else x.add 64)) (D.length - 64) (c' - 64)) s (M.drop (64 * (j + 1))) := by
        rw [← n2]; exact hin.next hlt
      have hsh : ∀ W, (Instr.sliceAt 36 (.slice (some x) D.length c') none (some (.int .i64 64)) none).run Tryz.prog W = .ok (.slice (some x) 64 c') W := fun W => shead_run W (some x) D.length c' 64 (by omega)
      have hst : ∀ W, (Instr.sliceAt 36 (.slice (some x) D.length c') (some (.int .i64 64)) none none).run Tryz.prog W = .ok (.slice (some (if c' = 64 then x else x.add 64)) (D.length - 64) (c' - 64)) W := fun W => stail_run W x D.length c' 64 hlt
      have HBL := Lib.hid hbl
      have HIN2 := Lib.hid hin2
      have HREL := Lib.hid hrel
      have HX := Lib.hid (⟨n3, ht', hlt⟩ : 64 * (j + 1) ≤ M.length ∧ tail'.length = 64 ∧ 64 ≤ D.length)
      generalize (if c' = 64 then x else x.add 64) = y at hst HIN2
      have j1 : (64 : Int) ≤ D.length := by omega
      have j2 : ((D.length : Nat) : Int) ≤ 9223372036854775807 := by omega
      clear hbl hin2 hrel hin hrw hkp hh' n1 n2 n3 hD hlt ht' hj' hc1' hc2'
      go_wp2_with fail
      refine HBL.out.mono ?_
      rintro e w3 ⟨rfl, hk3, hh3⟩
      have hnew : PutRel w w3 s (w.heap.size + 1) M (j + 1) := ⟨⟨tail', hh3, HX.out.2.1, HX.out.1⟩, HREL.out.keep.trans hk3 (fun _ _ e => e), hk3.at HREL.out.k (fun e => by have := lt_of_heap HS0.out; omega)⟩
      have HNEW := Lib.hid hnew
      clear hnew hk3 hh3 HBL
      go_wp2_with fail
      go_roundw
      case rel => exact ⟨j + 1, HIN2.out, HNEW.out⟩
      case measure => have := HX.out; simp only [sliceLen]; omega
    · have hcp := tail_copy hh' (hashN_length M j) ht' hrw 0 D.length (by omega) (by omega)
      obtain ⟨w3, hcr, hk3, hh3⟩ := hcp
      have hst3 : StAt w3 s M := by
        have hl3 : (M.drop (64 * j)).length < 64 := by rw [← hD]; omega
        refine StAt.end_ (tail := tail') (j := j) ?_ ht' hj' hl3
        rw [← hD]
        rw [List.take_zero, List.nil_append, Nat.zero_add, List.take_of_length_le (by omega)] at hh3
        exact hh3
      have HST := Lib.hid hst3
      have HK3 := Lib.hid (hkp.trans hk3 (fun _ _ e => e))
      have j1 : (D.length : Int) < 64 := by omega
      clear hst3 hk3 hh3 hrel hin hrw hkp hh' ht' hj' hlt hD
      go_wp2_with fail
      go_end0
      exact ⟨rfl, HK3.out, HST.out⟩
set_option maxRecDepth 100000 in
set_option maxHeartbeats 4000000 in
theorem put_b1 {w : World} {s : Nat} {L l : List UInt8} {pv : Value} (hs : StAt w s L) (hr : Reads w pv l) (hne : ∀ x n c, pv = .slice (some x) n c → l ≠ [] → x.block ≠ s) (hb : L.length + l.length < 140737488355328) (h0 : 0 < L.length % 64) (hs64 : L.length % 64 + l.length < 64) :
    Calls Tryz.prog 160 #[.pointer (some ⟨s, 0, none⟩), pv] w fun e w' => e = .returned (.tuple #[]) ∧ Keeps (fun b => b = s) w w' ∧ StAt w' s (L ++ l) := by
  obtain ⟨a, c, rfl, hc1, hc2⟩ := hr.form
  obtain ⟨tail, hh, ht, hp⟩ := hs
  obtain ⟨n, hn⟩ : ∃ n : Nat, n = L.length := ⟨_, rfl⟩
  obtain ⟨M, hMe⟩ : ∃ M, M = L ++ l := ⟨_, rfl⟩
  rw [← hMe]
  rw [← hn] at hh
  have hr1 := rounds_runs w
  obtain ⟨w1, hst, hk1, hz1, hkb⟩ := kbox w
  have hlt := lt_of_heap hh
  have HS0 := Lib.hid hh
  have hh1 := hk1.at hh (fun e => e)
  obtain ⟨x0, x1, x2, x3, x4, x5, x6, x7, hx⟩ := list8 (hashN_length L (L.length / 64))
  have hh2 := hh1
  unfold stObj hashH restOf at hh2
  rw [hx] at hh2
  have c8 := cell_at (i := 8) hh2 rfl
  have f8 := free_at hh2 8
  simp only [List.map_cons, List.map_nil, List.cons_append, List.nil_append, List.getElem_toArray, List.getElem_cons_succ, List.getElem_cons_zero] at c8
  have HR1 := Lib.hid hr1
  have HKB := Lib.hid hkb
  have HH1 := Lib.hid hh1
  have HR := Lib.hid hr
  clear hr1 hh hh2 hh1 hkb hr
  obtain ⟨hv, hhv⟩ : ∃ hv, hv = L.length % 64 := ⟨_, rfl⟩
  obtain ⟨m, hm⟩ : ∃ m, m = min l.length (64 - hv) := ⟨_, rfl⟩
  have hset := set_n HH1.out (n := (M.length : Int)) (by unfold hashH; exact hashN_length _ _)
  have hlen : (M.length : Int) = (n : Int) + (l.length : Int) := by rw [hMe, List.length_append]; omega
  have hkp : Keeps (fun b => b = s) w (w1.setCell ⟨s, 8, none⟩ (.int .u64 (M.length : Int))) := Keeps.setCell (F := fun b => b = s) (p := ⟨s, 8, none⟩) (hk1.mono (fun _ _ e => e.elim)) (fun _ => rfl) _
  have hkb2 : (w1.setCell ⟨s, 8, none⟩ (.int .u64 (M.length : Int))).heap[w.heap.size + 1]? = some (arrObj kWords 243) := (Below.heap_setCell w1 ⟨s, 8, none⟩ _ _ (fun e => by simp only at e; omega)).trans HKB.out
  obtain ⟨w3, hcr, hk3, hh3⟩ := tail_copy hset (by unfold hashH; exact hashN_length _ _) ht (HR.out.apart hkp hne) hv m (by omega) hm
  rw [hlen, hn] at hcr
  have e0 : (L.length : Int) % 64 = (hv : Int) := by omega
  have j0 : (0 : Int) < hv := by omega
  have j1 : (hv : Int) < 64 := by omega
  have j2 : (0 : Int) ≤ m := by omega
  have hts : ∀ W, (Instr.sliceAt 240 (.pointer (some ⟨s, 9, none⟩)) (some (.int .i64 (hv : Int))) none none).run Tryz.prog W = .ok (.slice (some ⟨s, 9 + hv, none⟩) (64 - hv) (64 - hv)) W := fun W => tslice_run W s hv (by omega)
  obtain ⟨pv', hst2⟩ : ∃ pv', ∀ W, (Instr.sliceAt 36 (.slice a l.length c) (some (.int .i64 (m : Int))) none none).run Tryz.prog W = .ok pv' W := ⟨_, fun W => by
    rw [run_sliceAt_slice _ _ _ _ _ _ elem_bytes, run_slice_l W 36 a l.length c elem_bytes .i64 (m : Int) (by omega) (by omega), size_u8]
    rfl⟩
  have jm : (hv : Int) + m < 64 := by omega
  have hml : m = l.length := by omega
  have hfin : StAt w3 s M := by
    obtain ⟨p1, p2⟩ := part_stay (l := l) ht hp hs64
    rw [← hMe, ← hhv] at p2
    rw [← hMe] at p1
    rw [← p1, hml, List.take_of_length_le (l := l) (by omega)] at hh3
    refine ⟨_, hh3, ?_, p2⟩
    rw [List.length_append, List.length_append, List.length_take, List.length_drop, ht]; omega
  have hkp3 : Keeps (fun b => b = s) w w3 := hkp.trans hk3 (fun _ _ e => e)
  have HFIN := Lib.hid hfin
  have HK3' := Lib.hid hkp3
  clear hfin hkp3 hml
  have HX := Lib.hid (⟨hn, hhv, hm, hlen⟩ : n = L.length ∧ hv = L.length % 64 ∧ m = min l.length (64 - hv) ∧ (M.length : Int) = (n : Int) + (l.length : Int))
  have HSET := Lib.hid hset
  have HKP := Lib.hid hkp
  have HKB2 := Lib.hid hkb2
  have HK3 := Lib.hid hk3
  have HH3 := Lib.hid hh3
  have HP := Lib.hid hp
  have HMe := Lib.hid hMe
  clear hset hlen hkp hkb2 hk3 hh3 hp hMe hs64 h0 hhv hm hx hk1 hz1 hlt
  go_enter Tryz.func160, Tryz.ntmps160
  go_wp2_with fail
  refine HR1.out.out.mono ?_; rintro e w' ⟨rfl, rfl⟩
  go_wp2_with fail
  (try simp only [Exit.inBlock, Exit.then])
  refine bodyPost_ret (results_none rfl _ _ _) rfl ?_
  exact ⟨rfl, HK3'.out, HFIN.out⟩
theorem put_calls' {w : World} {s : Nat} {L l : List UInt8} {pv : Value} (hs : StAt w s L) (hr : Reads w pv l) (hne : ∀ x n c, pv = .slice (some x) n c → l ≠ [] → x.block ≠ s) (hb : L.length + l.length < 140737488355328) :
    Calls Tryz.prog 160 #[.pointer (some ⟨s, 0, none⟩), pv] w fun e w' => e = .returned (.tuple #[]) ∧ Keeps (fun b => b = s) w w' ∧ StAt w' s (L ++ l) := by
  by_cases h0 : L.length % 64 = 0
  · exact put_a hs hr hne hb h0
  · by_cases h1 : 64 ≤ L.length % 64 + l.length
    · exact put_b2 hs hr hne hb (by omega) h1
    · exact put_b1 hs hr hne hb (by omega) (by omega)
end Go.Proofs.YtaeabdghlkdkjaaGreat
