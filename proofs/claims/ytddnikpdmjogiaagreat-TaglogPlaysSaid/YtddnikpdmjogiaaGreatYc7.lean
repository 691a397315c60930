/- A part of the proof. -/
import Derived.Test.YtddnikpdmjogiaaGreatYa3
import Derived.Test.YtddnikpdmjogiaaGreatYa4
import Derived.Laws.Shifts
import Derived.Deep.QuietTactic
import Derived.BigQuiet
import Derived.StillTailTactics
import Derived.Laws.CopyOwn
import Derived.Laws.Rows
import Derived.Laws.Tables
import Derived.Deep.WholeRow
namespace Go.Proofs.YtddnikpdmjogiaaGreat
open Go.RowKit Go.MapKept
def rotS (k : Int) : Int := bits .and .u64 (IntKind.u64.wrap k) 31
def rotlV (x k : Int) : Int := bits .or .u32 (IntKind.u32.wrap (x * 2 ^ min (rotS k).toNat 32)) (x / 2 ^ min (IntKind.u64.wrap (32 - rotS k)).toNat 32)
set_option maxRecDepth 100000 in
theorem rotl_runs (x k : Int) (w : World) (h1 : 0 ≤ rotS k) (h2 : 0 ≤ IntKind.u64.wrap (32 - rotS k)) : Runs 173 #[.int .u32 x, .int .i64 k] w (.int .u32 (rotlV x k)) w := by
 unfold Runs rotlV
 unfold rotS at *
 go_enter Tryz.func173, Tryz.ntmps173
 go_wp2_with fail
 go_ret
 exact ⟨rfl, rfl⟩
def rotV (x n : Int) : Int := rotlV x (wrap64 (-bits .and .i64 n 31))
def RotOk (n : Int) : Prop := 0 ≤ rotS (wrap64 (-bits .and .i64 n 31)) ∧ 0 ≤ IntKind.u64.wrap (32 - rotS (wrap64 (-bits .and .i64 n 31)))
set_option maxRecDepth 100000 in
theorem rot_runs (x n : Int) (w : World) (h : RotOk n) : Runs 161 #[.int .u32 x, .int .i64 n] w (.int .u32 (rotV x n)) w := by
 have hr := rotl_runs x (wrap64 (-bits .and .i64 n 31)) w h.1 h.2
 have HR := hyd hr
 clear hr h
 unfold Runs rotV
 go_enter Tryz.func161, Tryz.ntmps161
 go_wp2_with fail
 refine HR.out.out.mono ?_; rintro e w' ⟨rfl, rfl⟩
 go_wp2_with fail
 go_ret
 exact ⟨rfl, rfl⟩
theorem rotOk_all : RotOk 7 ∧ RotOk 18 ∧ RotOk 17 ∧ RotOk 19 ∧ RotOk 6 ∧ RotOk 11 ∧ RotOk 25 ∧ RotOk 2 ∧ RotOk 13 ∧ RotOk 22 := by
 refine ⟨?_, ?_, ?_, ?_, ?_, ?_, ?_, ?_, ?_, ?_⟩ <;> exact ⟨by decide +kernel, by decide +kernel⟩
set_option linter.unusedVariables false
def u32v (x : Int) : Value := .int .u32 x
def arrObj (L : List Int) (t : TypeId) : Obj := .cells (L.map u32v).toArray t (0, 0)
theorem arr_cell {w : World} {b i : Nat} {L : List Int} {t : TypeId} {x : Int} (h : w.heap[b]? = some (arrObj L t)) (hi : L[i]? = some x) : w.cell? ⟨b, i, none⟩ = some (u32v x) := cell_at h (by simp [hi])
theorem arr_free {w : World} {b : Nat} {L : List Int} {t : TypeId} (h : w.heap[b]? = some (arrObj L t)) (i : Nat) : w.frozen? ⟨b, i, none⟩ = false := free_at h i
theorem Keeps.at0 {w w' : World} {x : Addr} {v : Value} (hk : Keeps (fun _ => False) w w') (h : w.cell? x = some v) : w'.cell? x = some v := by
 rw [World.cell?_of_block (hk.block _ (World.block_lt_of_cell? w _ h) (fun e => e))]; exact h
def word4 (a b c d : UInt8) : Int :=
 bits .or .u32 (bits .or .u32 (bits .or .u32 ((a.toNat : Int) % 4294967296 * 16777216 % 4294967296) ((b.toNat : Int) % 4294967296 * 65536 % 4294967296)) ((c.toNat : Int) % 4294967296 * 256 % 4294967296)) ((d.toNat : Int) % 4294967296)
def byteAt (p : List UInt8) (i : Nat) : UInt8 := (p[i]?).getD 0
def wordAt (p : List UInt8) (j : Nat) : Int := word4 (byteAt p (4 * j)) (byteAt p (4 * j + 1)) (byteAt p (4 * j + 2)) (byteAt p (4 * j + 3))
theorem word4_eq {p : List UInt8} {j q q1 q2 q3 : Nat} {b0 b1 b2 b3 : UInt8} (hq : q = 4 * j) (h1 : q1 = q + 1) (h2 : q2 = q + 2) (h3 : q3 = q + 3) (e0 : p[q]? = some b0) (e1 : p[q1]? = some b1) (e2 : p[q2]? = some b2) (e3 : p[q3]? = some b3) :
  word4 b0 b1 b2 b3 = wordAt p j := by
 subst h1; subst h2; subst h3; subst hq
 simp [wordAt, byteAt, e0, e1, e2, e3]
theorem Own.storeArr {w wr : World} {b : Nat} {L : List Int} {t : TypeId} {rs : List (Res w.heap.size)} (h : Own w wr (rObj _ b (arrObj L t) :: rs)) (i : Nat) (x : Int) :
  Own w (wr.setCell ⟨b, i, none⟩ (.int .u32 x)) (rObj _ b (arrObj (L.set i x) t) :: rs) := by
 have := h.store i (.int .u32 x)
 unfold arrObj
 rw [show ((L.set i x).map u32v).toArray = (L.map u32v).toArray.setIfInBounds i (.int .u32 x) by simp [List.map_set, u32v]]
 exact this
theorem Own.drewN {w wr : World} {rs : List (Res w.heap.size)} (h : Own w wr rs) (n : Nat) : Own w (wr.drewN n) rs := h.quiet ⟨rfl, rfl, rfl, Nat.le_refl _, fun _ _ _ => rfl⟩
def sched1 (p : List UInt8) : Nat → List Int
 | 0 => List.replicate 64 0
 | j + 1 => (sched1 p j).set j (wordAt p j)
theorem sched1_length (p : List UInt8) : ∀ j, (sched1 p j).length = 64
 | 0 => by simp [sched1]
 | j + 1 => by rw [sched1, List.length_set]; exact sched1_length p j
def wAt (L : List Int) (i : Nat) : Int := (L[i]?).getD 0
theorem wAt_eq {L : List Int} {i : Nat} (h : i < L.length) : L[i]? = some (wAt L i) := by simp [wAt, h]
def mixW (x a y b : Int) : Int := (x + bits .xor .u32 (bits .xor .u32 (rotV a 7) (rotV a 18)) (a / 8) + y + bits .xor .u32 (bits .xor .u32 (rotV b 17) (rotV b 19)) (b / 1024)) % 4294967296
def sched2 (p : List UInt8) : Nat → List Int
 | 0 => sched1 p 16
 | j + 1 => (sched2 p j).set (16 + j) (mixW (wAt (sched2 p j) j) (wAt (sched2 p j) (j + 1)) (wAt (sched2 p j) (j + 9)) (wAt (sched2 p j) (j + 14)))
theorem sched2_length (p : List UInt8) : ∀ j, (sched2 p j).length = 64
 | 0 => sched1_length p 16
 | j + 1 => by rw [sched2, List.length_set]; exact sched2_length p j
theorem rot_still {x n : Int} (h : RotOk n) (w : World) : Calls Tryz.prog 161 #[.int .u32 x, .int .i64 n] w fun e w' => e = .returned (.int .u32 (rotV x n)) ∧ w' = w := (rot_runs x n w h).mono (by rintro e w' ⟨rfl, rfl⟩; exact ⟨rfl, rfl⟩)
def stObj (h : List Int) (rest : List Value) : Obj := .cells (h.map u32v ++ rest).toArray 224 (0, 0)
def rndX (e f g h k w : Int) : Int := IntKind.u32.wrap (IntKind.u32.wrap (IntKind.u32.wrap (IntKind.u32.wrap (h + bits .xor .u32 (bits .xor .u32 (rotV e 6) (rotV e 11)) (rotV e 25)) + bits .xor .u32 (bits .and .u32 e f) (bits .andNot .u32 g e)) + k) + w)
def rndY (a b c : Int) : Int := IntKind.u32.wrap (bits .xor .u32 (bits .xor .u32 (rotV a 2) (rotV a 13)) (rotV a 22) + bits .xor .u32 (bits .xor .u32 (bits .and .u32 a b) (bits .and .u32 a c)) (bits .and .u32 b c))
def rndStep (k w : Int) : List Int → List Int
 | [a, b, c, d, e, f, g, h] => [(rndX e f g h k w + rndY a b c) % 4294967296, a, b, c, (d + rndX e f g h k w) % 4294967296, e, f, g]
 | l => l
def rndN (K W : List Int) (V : List Int) : Nat → List Int
 | 0 => V
 | i + 1 => rndStep (wAt K i) (wAt W i) (rndN K W V i)
def addN (H V : List Int) : Nat → List Int
 | 0 => H
 | n + 1 => (addN H V n).set n ((wAt (addN H V n) n + wAt V n) % 4294967296)
theorem addN_length (H V : List Int) : ∀ n, (addN H V n).length = H.length
 | 0 => rfl
 | n + 1 => by rw [addN, List.length_set]; exact addN_length H V n
def blockV (K H : List Int) (p : List UInt8) : List Int := addN H (rndN K (sched2 p 48) H 64) 8
theorem rndX_def (e f g h k w : Int) : rndX e f g h k w = IntKind.u32.wrap (IntKind.u32.wrap (IntKind.u32.wrap (IntKind.u32.wrap (h + bits .xor .u32 (bits .xor .u32 (rotV e 6) (rotV e 11)) (rotV e 25)) + bits .xor .u32 (bits .and .u32 e f) (bits .andNot .u32 g e)) + k) + w) := rfl
theorem rndY_def (a b c : Int) : rndY a b c = IntKind.u32.wrap (bits .xor .u32 (bits .xor .u32 (rotV a 2) (rotV a 13)) (rotV a 22) + bits .xor .u32 (bits .xor .u32 (bits .and .u32 a b) (bits .and .u32 a c)) (bits .and .u32 b c)) := rfl
theorem Own.setRow {w wr : World} {b : Nat} {cs : Array Value} {t : TypeId} {rs : List (Res w.heap.size)} (h : Own w wr (rObj _ b (.cells cs t (0, 0)) :: rs)) (cs' : Array Value) : Own w (wr.setRow b cs') (rObj _ b (.cells cs' t (0, 0)) :: rs) := by
 obtain ⟨F, h1, h2, back⟩ := h.open1
 refine back _ (rObj _ b (.cells cs' t (0, 0))) ⟨rfl, rfl, rfl, by simp [World.setRow], fun k hk hF => setRow_other wr b k cs' (fun e => hF (by rw [e]; exact h1.1))⟩ ⟨.inl h1.1, setRow_heap wr b cs cs' t _ h1.2⟩
structure FinRel (w wx : World) (s vb : Nat) (H V : List Int) (rest : List Value) (n : Nat) : Prop where
 keep : Keeps (fun b => b = s) w wx
 st : wx.heap[s]? = some (stObj (addN H V n) rest)
 v : wx.heap[vb]? = some (arrObj V 212)
theorem FinRel.cell {w wx : World} {s vb n : Nat} {H V : List Int} {rest : List Value} (h : FinRel w wx s vb H V rest n) (hn : n < 8) (hH : H.length = 8) : wx.cell? ⟨s, n, none⟩ = some (u32v (wAt (addN H V n) n)) := by
 refine cell_at h.st ?_
 have hl : n < (addN H V n).length := by rw [addN_length, hH]; exact hn
 rw [List.getElem?_toArray, List.getElem?_append_left (by rw [List.length_map]; exact hl), List.getElem?_map, wAt_eq hl]
 rfl
theorem FinRel.free {w wx : World} {s vb n : Nat} {H V : List Int} {rest : List Value} (h : FinRel w wx s vb H V rest n) (i : Nat) : wx.frozen? ⟨s, i, none⟩ = false := free_at h.st i
theorem FinRel.step {w wx : World} {s vb n : Nat} {H V : List Int} {rest : List Value} (h : FinRel w wx s vb H V rest n) (hn : n < 8) (hH : H.length = 8) (hne : s ≠ vb) :
  FinRel w (wx.setCell ⟨s, n, none⟩ (.int .u32 ((wAt (addN H V n) n + wAt V n) % 4294967296))).drew s vb H V rest (n + 1) := by
 have hl : n < (addN H V n).length := by rw [addN_length, hH]; exact hn
 refine ⟨(h.keep.setCell (fun _ => rfl) _).drew, ?_, ?_⟩
 ·have e := heap_setCell_eq (t := 224) h.st n (.int .u32 ((wAt (addN H V n) n + wAt V n) % 4294967296))
  refine e.trans ?_
  unfold stObj
  rw [addN, List.map_set]
  rw [List.setIfInBounds_toArray, List.set_append_left _ _ (by rw [List.length_map]; exact hl)]
  rfl
 ·exact (Below.heap_setCell wx ⟨s, n, none⟩ _ vb (fun e => hne e.symm)).trans h.v
theorem copy_src {w : World} {vb : Nat} {a b c d e f g h : Int} {t : TypeId} (hV : w.heap[vb]? = some (arrObj [a, b, c, d, e, f, g, h] t)) : ∀ (j : Nat) (v : Value), (([a, b, c, d, e, f, g] : List Int).map u32v)[j]? = some v → w.cell? ((⟨vb, 0, none⟩ : Addr).add j) = some v := by
 intro j v hv
 rw [Addr.add_lit, Nat.zero_add]
 refine cell_at hV ?_
 match j, hv with
 | 0, hv => exact hv
 | 1, hv => exact hv
 | 2, hv => exact hv
 | 3, hv => exact hv
 | 4, hv => exact hv
 | 5, hv => exact hv
 | 6, hv => exact hv
 | j + 7, hv => simp at hv
theorem copy_one (l : List Int) : ∀ v ∈ l.map u32v, v.oneCell' = true := by
 intro v hv
 simp only [List.mem_map] at hv
 obtain ⟨x, _, rfl⟩ := hv
 rfl
set_option maxRecDepth 100000 in
set_option maxHeartbeats 4000000 in
theorem block_walk (w : World) (s k : Nat) (x : Addr) (p : List UInt8) (pc : Nat) (hpl : p.length = 64) (hp : ∀ i c, p[i]? = some c → w.cell? (x.add i) = some (u8v c))
  {h0 h1 h2 h3 h4 h5 h6 h7 : Int} {rest : List Value} (hs : w.heap[s]? = some (stObj [h0, h1, h2, h3, h4, h5, h6, h7] rest)) {K : List Int} (hK : K.length = 64) (hk : w.heap[k]? = some (arrObj K 225)) : Calls Tryz.prog 154 #[.pointer (some ⟨s, 0, none⟩), .slice (some x) 64 pc, .pointer (some ⟨k, 0, none⟩)] w fun e w' => e = .returned (.tuple #[]) ∧ Keeps (fun b => b = s) w w' ∧ w'.heap[s]? = some (stObj (blockV K [h0, h1, h2, h3, h4, h5, h6, h7] p) rest) := by
 have HP := hyd hp
 have HPL := hyd hpl
 have HS := hyd hs
 have HKK := hyd hk
 have HKL := hyd hK
 have h1 : Own w (w.alloc (arrObj (List.replicate 64 0) 225)) [rObj _ w.heap.size (arrObj (List.replicate 64 0) 225)] := (Own.start w).alloc _
 have H1 := hyd h1
 clear hp hpl h1 hs hk hK
 go_enter Tryz.func154, Tryz.ntmps154
 go_wp2_with fail
 go_loopw [16] (fun i wx => ∃ j : Nat, i = .int .i64 (j : Int) ∧ j ≤ 16 ∧ Own w wx [rObj _ w.heap.size (arrObj (sched1 p j) 225)]) (fun i _ => 16 - (intOf i).toNat)
 case atStart => exact ⟨0, rfl, by omega, H1.out⟩
 case round =>
  obtain ⟨j, rfl, hj, hown⟩ := hrel
  by_cases hlt : j < 16
  ·
   have j0 : (0 : Int) ≤ j := by omega
   have j1 : (j : Int) < 16 := by omega
   have hpl := HPL.out
   obtain ⟨L, hLe⟩ : ∃ L, L = sched1 p j := ⟨_, rfl⟩
   have hL : L.length = 64 := by rw [hLe]; exact sched1_length p j
   rw [← hLe] at hown
   have hnext : sched1 p (j + 1) = L.set j (wordAt p j) := by rw [hLe]; rfl
   obtain ⟨q, hq⟩ : ∃ q, q = 4 * j := ⟨_, rfl⟩
   obtain ⟨q1, hq1⟩ : ∃ x, x = q + 1 := ⟨_, rfl⟩
   obtain ⟨q2, hq2⟩ : ∃ x, x = q + 2 := ⟨_, rfl⟩
   obtain ⟨q3, hq3⟩ : ∃ x, x = q + 3 := ⟨_, rfl⟩
   have w4 : IntKind.i64.wrap (4 * (j : Int)) = (q : Int) := by rw [IntKind.wrap_i64]; omega
   have w5 : IntKind.i64.wrap ((q : Int) + 1) = (q1 : Int) := by rw [IntKind.wrap_i64]; omega
   have w6 : IntKind.i64.wrap ((q : Int) + 2) = (q2 : Int) := by rw [IntKind.wrap_i64]; omega
   have w7 : IntKind.i64.wrap ((q : Int) + 3) = (q3 : Int) := by rw [IntKind.wrap_i64]; omega
   obtain ⟨b0, hb0⟩ : ∃ b, p[q]? = some b := ⟨_, List.getElem?_eq_getElem (by omega)⟩
   obtain ⟨b1, hb1⟩ : ∃ b, p[q1]? = some b := ⟨_, List.getElem?_eq_getElem (by omega)⟩
   obtain ⟨b2, hb2⟩ : ∃ b, p[q2]? = some b := ⟨_, List.getElem?_eq_getElem (by omega)⟩
   obtain ⟨b3, hb3⟩ : ∃ b, p[q3]? = some b := ⟨_, List.getElem?_eq_getElem (by omega)⟩
   have hk := hown.keeps
   have c0 := (hk.at0 (HP.out _ _ hb0))
   have c1 := (hk.at0 (HP.out _ _ hb1))
   have c2 := (hk.at0 (HP.out _ _ hb2))
   have c3 := (hk.at0 (HP.out _ _ hb3))
   unfold u8v at c0 c1 c2 c3
   have a0 : (0 : Int) ≤ q := by omega
   have a1 : (0 : Int) ≤ q1 := by omega
   have a2 : (0 : Int) ≤ q2 := by omega
   have a3 : (0 : Int) ≤ q3 := by omega
   have d0 : (q : Int) < 64 := by omega
   have d1 : (q1 : Int) < 64 := by omega
   have d2 : (q2 : Int) < 64 := by omega
   have d3 : (q3 : Int) < 64 := by omega
   have j2 : (j : Int) < 64 := by omega
   have ca := (hown.at (b := w.heap.size) (o := arrObj L 225) (by simp)).1
   obtain ⟨lj, hlj⟩ : ∃ x, L[j]? = some x := ⟨_, List.getElem?_eq_getElem (by omega)⟩
   have cj := arr_cell ca hlj
   have fj := arr_free ca j
   have hst := fun x => (hown.storeArr j x).drew
   have hw4 := word4_eq hq hq1 hq2 hq3 hb0 hb1 hb2 hb3
   unfold u32v at cj
   have HW4 := hyd hw4
   have HST := hyd hst
   have HLL := hyd hlt
   have HNX := hyd hnext
   clear hown hk hb0 hb1 hb2 hb3 hq hq1 hq2 hq3 hpl hlt hj hw4 hst hL ca hlj hLe hnext
   go_wp2_with fail
   go_still_tail 35, (by kernel_rfl)
   change wpList _ _ _ _ _ (World.drew _)
   clear w4 w5 w6 w7 a0 a1 a2 a3 d0 d1 d2 d3 c0 c1 c2 c3
   go_wp2_with fail
   go_roundw
   case rel => exact ⟨j + 1, rfl, HLL.out, by rw [HNX.out, ← HW4.out]; exact HST.out _⟩
   case measure => have := HLL.out; simp [intOf]; omega
   --DEV>
  ·obtain rfl : j = 16 := by omega
   rw [show ((16 : Nat) : Int) = 16 from rfl]
   have HOWN := hyd hown
   clear hown hlt hj H1 HP
   go_wp2_with fail
   go_loopw [8] (fun i wx => ∃ j : Nat, i = .int .i64 ((16 + j : Nat) : Int) ∧ j ≤ 48 ∧ Own w wx [rObj _ w.heap.size (arrObj (sched2 p j) 225)]) (fun i _ => 64 - (intOf i).toNat)
   case atStart => exact ⟨0, rfl, by omega, HOWN.out⟩
   case round =>
    obtain ⟨j, rfl, hj, hown⟩ := hrel
    clear HOWN
    by_cases hlt : j < 48
    ·
     obtain ⟨L, hLe⟩ : ∃ L, L = sched2 p j := ⟨_, rfl⟩
     have hL : L.length = 64 := by rw [hLe]; exact sched2_length p j
     rw [← hLe] at hown
     have hnext : sched2 p (j + 1) = L.set (16 + j) (mixW (wAt L j) (wAt L (j + 1)) (wAt L (j + 9)) (wAt L (j + 14))) := by rw [hLe]; rfl
     have ca := (hown.at (b := w.heap.size) (o := arrObj L 225) (by simp)).1
     obtain ⟨q, hq⟩ : ∃ q, q = 16 + j := ⟨_, rfl⟩
     obtain ⟨q1, hq1⟩ : ∃ x, x = j + 1 := ⟨_, rfl⟩
     obtain ⟨q2, hq2⟩ : ∃ x, x = j + 14 := ⟨_, rfl⟩
     obtain ⟨q3, hq3⟩ : ∃ x, x = j + 9 := ⟨_, rfl⟩
     have w5 : IntKind.i64.wrap ((q : Int) - 15) = (q1 : Int) := by rw [IntKind.wrap_i64]; omega
     have w6 : IntKind.i64.wrap ((q : Int) - 2) = (q2 : Int) := by rw [IntKind.wrap_i64]; omega
     have w7 : IntKind.i64.wrap ((q : Int) - 7) = (q3 : Int) := by rw [IntKind.wrap_i64]; omega
     have w8 : IntKind.i64.wrap ((q : Int) - 16) = (j : Int) := by rw [IntKind.wrap_i64]; omega
     have c0 := arr_cell ca (wAt_eq (i := j) (by omega))
     have c1 := arr_cell ca (wAt_eq (i := q1) (by omega))
     have c2 := arr_cell ca (wAt_eq (i := q2) (by omega))
     have c3 := arr_cell ca (wAt_eq (i := q3) (by omega))
     have c4 := arr_cell ca (wAt_eq (i := q) (by omega))
     have f4 := arr_free ca q
     unfold u32v at c0 c1 c2 c3 c4
     have a0 : (0 : Int) ≤ j := by omega
     have a1 : (0 : Int) ≤ q1 := by omega
     have a2 : (0 : Int) ≤ q2 := by omega
     have a3 : (0 : Int) ≤ q3 := by omega
     have a4 : (0 : Int) ≤ q := by omega
     have d0 : (j : Int) < 64 := by omega
     have d1 : (q1 : Int) < 64 := by omega
     have d2 : (q2 : Int) < 64 := by omega
     have d3 : (q3 : Int) < 64 := by omega
     have d4 : (q : Int) < 64 := by omega
     rw [← hq1, ← hq2, ← hq3, ← hq] at hnext
     have hst := fun (n : Nat) x => ((hown.drewN n).storeArr q x).drew
     rw [← hq]
     have HX := hyd (⟨hlt, hq, hq1⟩ : j < 48 ∧ q = 16 + j ∧ q1 = j + 1)
     have HNX := hyd hnext
     have HST := hyd hst
     generalize wAt L j = v0 at c0 HNX
     generalize wAt L q1 = v1 at c1 HNX
     generalize wAt L q2 = v2 at c2 HNX
     generalize wAt L q3 = v3 at c3 HNX
     generalize wAt L q = v4 at c4
     clear hnext hst hq hq1 hq2 hq3 hlt hj hL hLe ca hown
     go_wp2_with fail
     go_quiet (fail)
     go_wp2_with fail
     have hst := HST.out nq
     change (wr.drewN nq).cell? _ = _ at c0 c1 c2 c3 c4
     change (wr.drewN nq).frozen? _ = _ at f4
     have HST2 := hyd hst
     clear HST hst
     generalize wr.drewN nq = wq at c0 c1 c2 c3 c4 f4 HST2 ⊢
     go_still_tail 29, (by kernel_rfl)
     still_call (rot_still rotOk_all.1 _)
     repeat still_step
     still_call (rot_still rotOk_all.2.1 _)
     repeat still_step
     still_call (rot_still rotOk_all.2.2.1 _)
     repeat still_step
     still_call (rot_still rotOk_all.2.2.2.1 _)
     repeat still_step
     refine wpStill_nil ?_
     change wpList _ _ _ _ _ (World.drew _)
     clear w5 w6 w7 w8 a0 a1 a2 a3 d0 d1 d2 d3 c0 c1 c2 c3
     go_wp2_with fail
     go_roundw
     case rel =>
      have hx := HX.out
      refine ⟨q1, by rw [show 16 + q1 = q + 1 by omega]; rfl, by omega, ?_⟩
      rw [HNX.out]
      exact HST2.out _
     case measure => have := HX.out; simp [intOf]; omega
     --DEV>
    ·obtain rfl : j = 48 := by omega
     have hz := hown.keeps.at HS.out (fun e => e)
     unfold stObj at hz
     have c0 := cell_at (i := 0) hz rfl
     have c1 := cell_at (i := 1) hz rfl
     have c2 := cell_at (i := 2) hz rfl
     have c3 := cell_at (i := 3) hz rfl
     have c4 := cell_at (i := 4) hz rfl
     have c5 := cell_at (i := 5) hz rfl
     have c6 := cell_at (i := 6) hz rfl
     have c7 := cell_at (i := 7) hz rfl
     simp only [List.map_cons, List.map_nil, List.cons_append, List.nil_append, u32v, List.getElem_toArray, List.getElem_cons_succ, List.getElem_cons_zero] at c0 c1 c2 c3 c4 c5 c6 c7
     rw [show ((16 + 48 : Nat) : Int) = 64 from rfl]
     have HOWN := hyd hown
     clear hown hlt hj hz
     go_wp2_with fail
     have hA := HOWN.out.alloc (arrObj [h0, h1, h2, h3, h4, h5, h6, h7] 212)
     change Code.wp _ _ _ _ (wr.alloc (arrObj [h0, h1, h2, h3, h4, h5, h6, h7] 212))
     clear HOWN c0 c1 c2 c3 c4 c5 c6 c7
     obtain ⟨W, hW⟩ : ∃ W, W = sched2 p 48 := ⟨_, rfl⟩
     have hWL : W.length = 64 := by rw [hW]; exact sched2_length p 48
     rw [← hW] at hA
     have HW := hyd hW
     have HWL := hyd hWL
     have H2 := hyd hA
     clear hW hWL hA
     generalize wr.alloc (arrObj [h0, h1, h2, h3, h4, h5, h6, h7] 212) = w2 at H2 ⊢
     generalize wr.heap.size = vb at H2 ⊢
     go_loopw [100] (fun i wx => ∃ (n : Nat) (a b c d e f g h : Int), i = .int .i64 (n : Int) ∧ n ≤ 64 ∧ rndN K W [h0, h1, h2, h3, h4, h5, h6, h7] n = [a, b, c, d, e, f, g, h] ∧ Own w wx [rObj _ vb (arrObj [a, b, c, d, e, f, g, h] 212), rObj _ w.heap.size (arrObj W 225)]) (fun i _ => 64 - (intOf i).toNat)
     case atStart => exact ⟨0, _, _, _, _, _, _, _, _, rfl, by omega, rfl, H2.out⟩
     case round =>
      obtain ⟨n, a, b, c, d, e, f, g, h, rfl, hn, hrn, hown⟩ := hrel
      have hV := (hown.at (b := vb) (o := arrObj [a, b, c, d, e, f, g, h] 212) (by simp)).1
      by_cases hlt : n < 64
      ·
       have hWw := (hown.at (b := w.heap.size) (o := arrObj W 225) (by simp)).1
       have hKw := hown.keeps.at HKK.out (fun e => e)
       have ck := arr_cell hKw (wAt_eq (i := n) (by rw [HKL.out]; exact hlt))
       have cw := arr_cell hWw (wAt_eq (i := n) (by rw [HWL.out]; exact hlt))
       have c0 := arr_cell hV (i := 0) rfl
       have c1 := arr_cell hV (i := 1) rfl
       have c2 := arr_cell hV (i := 2) rfl
       have c3 := arr_cell hV (i := 3) rfl
       have c4 := arr_cell hV (i := 4) rfl
       have c5 := arr_cell hV (i := 5) rfl
       have c6 := arr_cell hV (i := 6) rfl
       have c7 := arr_cell hV (i := 7) rfl
       unfold u32v at ck cw c0 c1 c2 c3 c4 c5 c6 c7
       have hnext : rndN K W [h0, h1, h2, h3, h4, h5, h6, h7] (n + 1) = rndStep (wAt K n) (wAt W n) [a, b, c, d, e, f, g, h] := by rw [← hrn]; rfl
       have j0 : (0 : Int) ≤ n := by omega
       have j1 : (n : Int) < 64 := by omega
       have HNX := hyd hnext
       have HX := hyd hlt
       have HO := hyd hown
       generalize wAt K n = kn at ck HNX
       generalize wAt W n = wn at cw HNX
       clear hnext hlt hrn hn hown hV hWw hKw H2
       go_wp2_with fail
       go_still_tail 36, (by kernel_rfl)
       still_call (rot_still rotOk_all.2.2.2.2.1 _)
       repeat still_step
       still_call (rot_still rotOk_all.2.2.2.2.2.1 _)
       repeat still_step
       still_call (rot_still rotOk_all.2.2.2.2.2.2.1 _)
       repeat still_step
       refine wpStill_nil ?_
       change wpList _ _ _ _ _ (World.drew _)
       have HO2 := hyd HO.out.drew
       change wr.drew.cell? _ = _ at c0 c1 c2 c3 c4 c5 c6 c7
       clear ck cw HO
       generalize wr.drew = w3 at HO2 c0 c1 c2 c3 c4 c5 c6 c7 ⊢
       go_wp2_with fail
       rw [← rndX_def e f g h kn wn]
       obtain ⟨X, hX⟩ : ∃ X, X = rndX e f g h kn wn := ⟨_, rfl⟩
       rw [← hX]
       have HXX := hyd hX
       clear hX
       go_still_tail 29, (by kernel_rfl)
       still_call (rot_still rotOk_all.2.2.2.2.2.2.2.1 _)
       repeat still_step
       still_call (rot_still rotOk_all.2.2.2.2.2.2.2.2.1 _)
       repeat still_step
       still_call (rot_still rotOk_all.2.2.2.2.2.2.2.2.2 _)
       repeat still_step
       refine wpStill_nil ?_
       change wpList _ _ _ _ _ (World.drew _)
       rw [← rndY_def a b c]
       obtain ⟨Y, hY⟩ : ∃ Y, Y = rndY a b c := ⟨_, rfl⟩
       rw [← hY]
       have HYY := hyd hY
       have HO3 := hyd HO2.out.drew
       change w3.drew.cell? _ = _ at c0 c1 c2 c3 c4 c5 c6 c7
       clear HO2 hY
       generalize w3.drew = w4 at HO3 c0 c1 c2 c3 c4 c5 c6 c7 ⊢
       clear c0 c1 c2 c3 c4 c5 c6 c7
       go_wp2_with fail
       go_still_tail 2, (by kernel_rfl)
       change wpList _ _ _ _ _ (World.drew _)
       have HO4 := hyd HO3.out.drew
       clear HO3
       generalize w4.drew = w5 at HO4 ⊢
       have hV := (HO4.out.at (b := vb) (o := arrObj [a, b, c, d, e, f, g, h] 212) (by simp)).1
       refine wpList_copy_own rfl (.tmp 168) (.tmp 169) 236 236 rfl 198 (by kernel_rfl) (by kernel_rfl) vb 1 7 7 ⟨vb, 0, none⟩ 7 8 rfl rfl _ _ hV ([a, b, c, d, e, f, g].map u32v) rfl (copy_src hV) (Nat.le_refl _) (copy_one _) ?_
       have HO5 := hyd (HO4.out.setRow (([a, a, b, c, d, e, f, g] : List Int).map u32v).toArray)
       change wpList _ _ _ _ _ (w5.setRow vb (([a, a, b, c, d, e, f, g] : List Int).map u32v).toArray)
       clear HO4 hV
       generalize w5.setRow vb (([a, a, b, c, d, e, f, g] : List Int).map u32v).toArray = w6 at HO5 ⊢
       have hV : w6.heap[vb]? = some (arrObj [a, a, b, c, d, e, f, g] 212) := (HO5.out.at (b := vb) (o := arrObj [a, a, b, c, d, e, f, g] 212) (by simp [arrObj])).1
       have c0 := arr_cell hV (i := 0) rfl
       have c4 := arr_cell hV (i := 4) rfl
       have f0 := arr_free hV 0
       have f4 := arr_free hV 4
       unfold u32v at c0 c4
       clear hV
       go_wp2_with fail
       go_roundw
       case rel =>
        have hO6 := (Own.storeArr (L := [a, a, b, c, d, e, f, g]) HO5.out 4 ((d + X) % 4294967296)).storeArr 0 ((X + Y) % 4294967296)
        refine ⟨n + 1, _, _, _, _, _, _, _, _, rfl, HX.out, HNX.out, ?_⟩
        rw [← HXX.out, ← HYY.out]
        exact hO6
       case measure => have := HX.out; simp [intOf]; omega
       --DEV>
      ·obtain rfl : n = 64 := by omega
       rw [show ((64 : Nat) : Int) = 64 from rfl]
       have hs := hown.keeps.at HS.out (fun e => e)
       have hsl := lt_of_heap HS.out
       have hvb := (hown.at (b := vb) (o := arrObj [a, b, c, d, e, f, g, h] 212) (by simp)).2.1
       have hkp := hown.keeps
       obtain ⟨V, hVe⟩ : ∃ V, V = rndN K W [h0, h1, h2, h3, h4, h5, h6, h7] 64 := ⟨_, rfl⟩
       rw [← hrn, ← hVe] at hV
       have hVL : V.length = 8 := by rw [hVe, hrn]; rfl
       have hR : FinRel w wr s vb [h0, h1, h2, h3, h4, h5, h6, h7] V rest 0 := ⟨hkp.mono (fun _ _ e => e.elim), hs, hV⟩
       have HR := hyd hR
       have HVL := hyd hVL
       have HVE := hyd hVe
       have HNE := hyd (show s ≠ vb by omega)
       clear hR hVL hVe hs hsl hvb hkp hV hrn hn hlt hown H2
       go_wp2_with fail
       go_loopw [181] (fun i wx => ∃ n : Nat, i = .int .i64 (n : Int) ∧ n ≤ 8 ∧ FinRel w wx s vb [h0, h1, h2, h3, h4, h5, h6, h7] V rest n) (fun i _ => 8 - (intOf i).toNat)
       case atStart => exact ⟨0, rfl, by omega, HR.out⟩
       case round =>
        obtain ⟨n, rfl, hn, hrel⟩ := hrel
        clear HR
        by_cases hlt : n < 8
        ·have c0 := hrel.cell hlt rfl
         have f0 := hrel.free n
         have c1 := arr_cell hrel.v (wAt_eq (i := n) (by rw [HVL.out]; exact hlt))
         unfold u32v at c0 c1
         have hst := hrel.step hlt rfl HNE.out
         have HST := hyd hst
         generalize wAt (addN [h0, h1, h2, h3, h4, h5, h6, h7] V n) n = x0 at c0 HST
         generalize wAt V n = x1 at c1 HST
         have j0 : (0 : Int) ≤ n := by omega
         have j1 : (n : Int) < 8 := by omega
         have HX := hyd hlt
         clear hst hrel hn hlt
         go_wp2_with fail
         go_still_tail 13, (by kernel_rfl)
         change wpList _ _ _ _ _ (World.drew _)
         go_wp2_with fail
         go_roundw
         case rel => exact ⟨n + 1, rfl, HX.out, HST.out⟩
         case measure => have := HX.out; simp [intOf]; omega
        ·obtain rfl : n = 8 := by omega
         have HF := hyd hrel
         clear hrel hlt hn
         go_wp2_with fail
         go_end0
         refine ⟨rfl, HF.out.keep, ?_⟩
         have := HF.out.st
         rw [HVE.out, HW.out] at this
         exact this
def kWords : List Int := [
 0x428a2f98, 0x71374491, 0xb5c0fbcf, 0xe9b5dba5, 0x3956c25b, 0x59f111f1, 0x923f82a4, 0xab1c5ed5,
 0xd807aa98, 0x12835b01, 0x243185be, 0x550c7dc3, 0x72be5d74, 0x80deb1fe, 0x9bdc06a7, 0xc19bf174,
 0xe49b69c1, 0xefbe4786, 0x0fc19dc6, 0x240ca1cc, 0x2de92c6f, 0x4a7484aa, 0x5cb0a9dc, 0x76f988da,
 0x983e5152, 0xa831c66d, 0xb00327c8, 0xbf597fc7, 0xc6e00bf3, 0xd5a79147, 0x06ca6351, 0x14292967,
 0x27b70a85, 0x2e1b2138, 0x4d2c6dfc, 0x53380d13, 0x650a7354, 0x766a0abb, 0x81c2c92e, 0x92722c85,
 0xa2bfe8a1, 0xa81a664b, 0xc24b8b70, 0xc76c51a3, 0xd192e819, 0xd6990624, 0xf40e3585, 0x106aa070,
 0x19a4c116, 0x1e376c08, 0x2748774c, 0x34b0bcb5, 0x391c0cb3, 0x4ed8aa4a, 0x5b9cca4f, 0x682e6ff3,
 0x748f82ee, 0x78a5636f, 0x84c87814, 0x8cc70208, 0x90befffa, 0xa4506ceb, 0xbef9a3f7, 0xc67178f2]
def kCells : Array Value := #[.int .u32 1116352408, .int .u32 1899447441, .int .u32 3049323471, .int .u32 3921009573, .int .u32 961987163, .int .u32 1508970993, .int .u32 2453635748, .int .u32 2870763221, .int .u32 3624381080, .int .u32 310598401, .int .u32 607225278, .int .u32 1426881987, .int .u32 1925078388, .int .u32 2162078206, .int .u32 2614888103, .int .u32 3248222580, .int .u32 3835390401, .int .u32 4022224774, .int .u32 264347078, .int .u32 604807628, .int .u32 770255983, .int .u32 1249150122, .int .u32 1555081692, .int .u32 1996064986, .int .u32 2554220882, .int .u32 2821834349, .int .u32 2952996808, .int .u32 3210313671, .int .u32 3336571891, .int .u32 3584528711, .int .u32 113926993, .int .u32 338241895, .int .u32 666307205, .int .u32 773529912, .int .u32 1294757372, .int .u32 1396182291, .int .u32 1695183700, .int .u32 1986661051, .int .u32 2177026350, .int .u32 2456956037, .int .u32 2730485921, .int .u32 2820302411, .int .u32 3259730800, .int .u32 3345764771, .int .u32 3516065817, .int .u32 3600352804, .int .u32 4094571909, .int .u32 275423344, .int .u32 430227734, .int .u32 506948616, .int .u32 659060556, .int .u32 883997877, .int .u32 958139571, .int .u32 1322822218, .int .u32 1537002063, .int .u32 1747873779, .int .u32 1955562222, .int .u32 2024104815, .int .u32 2227730452, .int .u32 2361852424, .int .u32 2428436474, .int .u32 2756734187, .int .u32 3204031479, .int .u32 3329325298]
theorem kCells_eq : kCells = (kWords.map u32v).toArray := by kernel_rfl
theorem wpList_build_as {P : Program} {ops : Array Oper} {rest : List Oper} {o : Oper} {a : Act} {w : World} {Q : Exit → Act → World → Prop} (hg : o.guard = none) (t : TypeId) (parts : Array (Nat × Operand)) (ho : o.op = .build t parts) (cells : Array Value)
  (hf : P.built t (parts.map fun (i, x) => (i, a.eval x)).toList = some cells) (h : wpList P ops Q rest (a.put o.dst (.agg cells)) w) : wpList P ops Q (o :: rest) a w :=
 wpList_build hg t parts ho (by rw [hf]; rfl) (by rw [hf]; exact h)
set_option maxRecDepth 100000 in
set_option maxHeartbeats 2000000 in
theorem rounds_runs (w : World) : Runs 153 #[] w (.agg kCells) (w.alloc (.cells kCells 225)) := by
 unfold Runs
 go_enter Tryz.func153, Tryz.ntmps153
 go_wp2_with (first | (refine wpList_build_as rfl 225 _ rfl kCells (by kernel_rfl) ?_) | (refine wpList_store_row rfl 225 (.tmp 0) (.tmp 1) rfl w.heap.size kCells rfl rfl 225 _ (heap_alloc_new w _) (by kernel_rfl) (by kernel_rfl) (by kernel_rfl) ?_))
 rw [World.setRow_alloc_new]
 refine bodyPost_ret (results_cell_row Tryz.results153 _ _ w.heap.size 225 kCells (0, 0) _ rfl (heap_alloc_new w _) Tryz.underlying225 rfl (by kernel_rfl)) rfl ?_
 exact ⟨rfl, rfl⟩
theorem kbox (w : World) : ∃ w1, (∀ Z : Array Value, Z.size = 64 → (storeCells ⟨w.heap.size + 1, 0, none⟩ kCells.toList 0).run Tryz.prog ((w.alloc (.cells kCells 225)).alloc (.cells Z 225)) = .ok () w1) ∧ Keeps (fun _ => False) w w1 ∧ w1.heap.size = w.heap.size + 2 ∧ w1.heap[w.heap.size + 1]? = some (arrObj kWords 225) := by
 refine ⟨(w.alloc (.cells kCells 225)).alloc (.cells kCells 225), fun Z hZ => ?_, ((Keeps.refl _ w).alloc _).alloc _, by simp, ?_⟩
 ·have h := run_storeCells_new (P := Tryz.prog) (w.alloc (.cells kCells 225)) 225 Z kCells (by kernel_rfl) (hZ.trans (by kernel_rfl)) (by kernel_rfl)
  rw [World.size_alloc] at h
  exact h
 ·rw [arrObj, ← kCells_eq]; exact heap_alloc2_new w _ _
def hWords : List Int := [0x6a09e667, 0xbb67ae85, 0x3c6ef372, 0xa54ff53a, 0x510e527f, 0x9b05688c, 0x1f83d9ab, 0x5be0cd19]
def restOf (n : Int) (tail : List UInt8) : List Value := .int .u64 n :: tail.map u8v
set_option maxRecDepth 100000 in
theorem dnew_runs (w : World) : Runs 135 #[] w (.pointer (some ⟨w.heap.size, 0, none⟩)) (w.alloc (stObj hWords (restOf 0 (List.replicate 64 0)))) := by
 unfold Runs
 go_enter Tryz.func135, Tryz.ntmps135
 go_wp2_with fail
 go_ret
 exact ⟨rfl, congrArg w.alloc (by kernel_rfl)⟩
theorem blockV_length (K H : List Int) (p : List UInt8) : (blockV K H p).length = H.length := addN_length _ _ _
theorem list8 {H : List Int} (h : H.length = 8) : ∃ h0 h1 h2 h3 h4 h5 h6 h7, H = [h0, h1, h2, h3, h4, h5, h6, h7] := by
 match H, h with
 | [a, b, c, d, e, f, g, i], _ => exact ⟨a, b, c, d, e, f, g, i, rfl⟩
def hashN (M : List UInt8) : Nat → List Int
 | 0 => hWords
 | j + 1 => blockV kWords (hashN M j) ((M.drop (64 * j)).take 64)
theorem hashN_length (M : List UInt8) : ∀ j, (hashN M j).length = 8
 | 0 => rfl
 | j + 1 => by rw [hashN, blockV_length]; exact hashN_length M j
theorem hashN_append (M p : List UInt8) : ∀ j, 64 * j ≤ M.length → hashN (M ++ p) j = hashN M j
 | 0, _ => rfl
 | j + 1, h => by
  rw [hashN, hashN, hashN_append M p j (by omega), List.drop_append_of_le_length (by omega), List.take_append_of_le_length (by rw [List.length_drop]; omega)]
def Words (H : List Int) : Prop := ∀ x ∈ H, 0 ≤ x ∧ x < 4294967296
theorem addN_words (H V : List Int) (hH : H.length = 8) : ∀ n, n ≤ 8 → ∀ i x, i < n → (addN H V n)[i]? = some x → 0 ≤ x ∧ x < 4294967296
 | 0, _, i, x, hi, _ => by omega
 | n + 1, hn, i, x, hi, hx => by
  rw [addN] at hx
  by_cases he : n = i
  ·subst he
   rw [List.getElem?_set_self (by rw [addN_length, hH]; omega)] at hx
   simp only [Option.some.injEq] at hx
   rw [← hx]
   omega
  ·rw [List.getElem?_set_ne he] at hx
   exact addN_words H V hH n (by omega) i x (by omega) hx
theorem hashN_words (M : List UInt8) : ∀ j, Words (hashN M j)
 | 0 => by
  intro x hx
  simp only [hashN, hWords, List.mem_cons, List.not_mem_nil, or_false] at hx
  omega
 | j + 1 => by
  intro x hx
  obtain ⟨i, hi⟩ := List.mem_iff_getElem?.1 hx
  have hl := (List.getElem?_eq_some_iff.1 hi).1
  rw [hashN_length] at hl
  exact addN_words _ _ (hashN_length M j) 8 (by omega) i x hl hi
def hashH (M : List UInt8) : List Int := hashN M (M.length / 64)
def StAt (w : World) (s : Nat) (M : List UInt8) : Prop :=
 ∃ tail : List UInt8, w.heap[s]? = some (stObj (hashH M) (restOf (M.length : Int) tail)) ∧ tail.length = 64 ∧ tail.take (M.length % 64) = M.drop (64 * (M.length / 64))
def MidAt (w : World) (s : Nat) (M : List UInt8) (j : Nat) : Prop :=
 ∃ tail : List UInt8, w.heap[s]? = some (stObj (hashN M j) (restOf (M.length : Int) tail)) ∧ tail.length = 64 ∧ 64 * j ≤ M.length
theorem StAt.end_ {w : World} {s : Nat} {M tail : List UInt8} {j : Nat} (hh : w.heap[s]? = some (stObj (hashN M j) (restOf (M.length : Int) ((M.drop (64 * j)) ++ tail.drop (M.drop (64 * j)).length)))) (hl : tail.length = 64) (h1 : 64 * j ≤ M.length) (h2 : (M.drop (64 * j)).length < 64) : StAt w s M := by
 rw [List.length_drop] at h2
 have hj : M.length / 64 = j := by omega
 have hm : M.length % 64 = M.length - 64 * j := by omega
 refine ⟨_, by unfold hashH; rw [hj]; exact hh, ?_, ?_⟩
 ·rw [List.length_append, List.length_drop, List.length_drop, hl]; omega
 ·rw [hj, hm, List.take_append_of_le_length (by rw [List.length_drop]; omega), List.take_of_length_le (by rw [List.length_drop]; omega)]
theorem mid_next {M : List UInt8} {j : Nat} (h : 64 ≤ (M.drop (64 * j)).length) : hashN M (j + 1) = blockV kWords (hashN M j) ((M.drop (64 * j)).take 64) ∧ (M.drop (64 * j)).drop 64 = M.drop (64 * (j + 1)) ∧ 64 * (j + 1) ≤ M.length := by
 rw [List.length_drop] at h
 exact ⟨rfl, by rw [List.drop_drop, show 64 * j + 64 = 64 * (j + 1) by omega], by omega⟩
theorem part_stay {L l tail : List UInt8} (ht : tail.length = 64) (h : tail.take (L.length % 64) = L.drop (64 * (L.length / 64))) (hs : L.length % 64 + l.length < 64) :
  hashH (L ++ l) = hashH L ∧ (tail.take (L.length % 64) ++ l ++ tail.drop (L.length % 64 + l.length)).take ((L ++ l).length % 64) = (L ++ l).drop (64 * ((L ++ l).length / 64)) := by
 have e1 : (L ++ l).length / 64 = L.length / 64 := by rw [List.length_append]; omega
 have e2 : (L ++ l).length % 64 = L.length % 64 + l.length := by rw [List.length_append]; omega
 refine ⟨?_, ?_⟩
 ·unfold hashH; rw [e1, hashN_append _ _ _ (by omega)]
 ·rw [e1, e2, List.drop_append_of_le_length (by omega), ← h, List.take_append_of_le_length (by rw [List.length_append, List.length_take]; omega), List.take_of_length_le (by rw [List.length_append, List.length_take]; omega)]
theorem part_full {L l tail : List UInt8} (ht : tail.length = 64) (h : tail.take (L.length % 64) = L.drop (64 * (L.length / 64))) (hs : 64 ≤ L.length % 64 + l.length) :
  hashN (L ++ l) (L.length / 64) = hashH L ∧ tail.take (L.length % 64) ++ l.take (64 - L.length % 64) = ((L ++ l).drop (64 * (L.length / 64))).take 64 ∧ l.drop (64 - L.length % 64) = (L ++ l).drop (64 * (L.length / 64 + 1)) := by
 refine ⟨hashN_append _ _ _ (by omega), ?_, ?_⟩
 ·rw [List.drop_append_of_le_length (by omega), ← h, List.take_append, List.length_take, ht, Nat.min_eq_left (by omega), List.take_take, Nat.min_eq_right (by omega)]
 ·have e : 64 * (L.length / 64 + 1) = L.length + (64 - L.length % 64) := by omega
  rw [e, List.drop_append]
  simp
end Go.Proofs.YtddnikpdmjogiaaGreat
