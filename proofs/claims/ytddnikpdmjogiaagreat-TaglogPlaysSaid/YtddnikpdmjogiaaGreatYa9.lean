/- A part of the proof. -/
import Derived.Test.YtddnikpdmjogiaaGreatYa7
import Derived.Test.YtddnikpdmjogiaaGreatYa8
namespace Go.Proofs.YtddnikpdmjogiaaGreat
set_option linter.unusedVariables false
open Go.RowKit Go.MapKept
theorem rsync_runs {F : Nat → Prop} {w : World} {r : Nat} {m : DM} (h : RefIs F w r m) (hn : m.now = m.loose.foldl doCh m.sure) (hf : m.fuse ≤ 9223372036854775807) :
  ∃ w', Runs 40 #[.pointer (some ⟨r, 0, none⟩)] w (.int .i64 (syncOf m).1) w' ∧ RefIs F w' r (syncOf m).2 ∧ Keeps F w w' := by
 have hi := h
 obtain ⟨vn, vs, vl, h⟩ := h
 have c5 := h.cells.c5
 unfold syncOf
 cases hd : m.down with
 | true =>
  rw [hd] at c5
  refine ⟨w, ?_, hi, Keeps.refl _ _⟩
  unfold Runs
  go_enter Tryz.func40, Tryz.ntmps40
  go_wp2_with fail
  go_ret
  exact ⟨rfl, rfl⟩
 | false =>
  rw [hd] at c5
  rw [if_neg (by simp)]
  obtain ⟨w1, hpow, h1, k1, z1⟩ := rpower_runs h hf
  have k1' : Keeps F w w1 := k1.mono (fun b _ e => by rw [e]; exact h.fr)
  by_cases hfz : m.fuse = 0
  ·rw [if_pos hfz]
   rw [show (!decide (m.fuse = 0)) = false by simp [hfz]] at hpow
   have e1 : (spendOf m).2 = { m with down := true } := by unfold spendOf; rw [if_pos hfz]
   rw [e1] at h1
   refine ⟨w1, ?_, ⟨vn, vs, vl, h1⟩, k1'⟩
   clear h h1 k1 k1' hi hn e1
   unfold Runs
   go_enter Tryz.func40, Tryz.ntmps40
   go_wp2_with (go_at_call 102; refine hpow.out.mono ?_; rintro e w' ⟨rfl, rfl⟩)
   go_ret
   exact ⟨rfl, rfl⟩
  ·rw [if_neg hfz]
   rw [show (!decide (m.fuse = 0)) = true by simp [hfz]] at hpow
   obtain ⟨na, nc, rfl, _, _⟩ := h1.now.form
   obtain ⟨sa, sc, rfl, _, _⟩ := h1.sure.form
   obtain ⟨la, lc, rfl⟩ := h1.loose.form
   have b1 := h1.blk
   obtain ⟨w2, hw2⟩ : ∃ w2, w2 = w1.setCell ⟨r, 2, none⟩ (.slice na (spendOf m).2.now.length nc) := ⟨_, rfl⟩
   have b2 : w2.heap[r]? = some (.cells #[.int .i64 (spendOf m).2.room, .slice na (spendOf m).2.now.length nc, .slice na (spendOf m).2.now.length nc, .slice la (spendOf m).2.loose.length lc, .int .i64 (spendOf m).2.fuse, .bool (spendOf m).2.down] 92 (0, 0)) := by rw [hw2, heap_setCell_eq b1]; rfl
   have b3 : (w2.setCell ⟨r, 3, none⟩ (.slice none 0 0)).heap[r]? = some (.cells #[.int .i64 (spendOf m).2.room, .slice na (spendOf m).2.now.length nc, .slice na (spendOf m).2.now.length nc, .slice none 0 0, .int .i64 (spendOf m).2.fuse, .bool (spendOf m).2.down] 92 (0, 0)) := by rw [heap_setCell_eq b2]; rfl
   have hsp := spend_same (m := m)
   refine ⟨w2.setCell ⟨r, 3, none⟩ (.slice none 0 0), ?_, ⟨.slice na (spendOf m).2.now.length nc, .slice na (spendOf m).2.now.length nc, .slice none 0 0, ?_⟩, ?_⟩
   rotate_left
   ·refine RefAt.store (m := synced m) (cs := _) b1 b3 (fun b hb => ?_) h.fr h1.now ?_ (RChsAt.nil _ _) h1.lt
    ·rw [Below.heap_setCell _ _ _ _ hb, hw2, Below.heap_setCell _ _ _ _ hb]
    ·have := h1.now
     rw [hsp.1] at this ⊢
     have e : (synced m).sure = m.now := by rw [hn]; rfl
     rw [e]
     exact this
   ·refine Keeps.setCell (p := ⟨r, 3, none⟩) ?_ (fun _ => h.fr) _
    rw [hw2]
    exact k1'.setCell (p := ⟨r, 2, none⟩) (fun _ => h.fr) _
   ·have r1 : w1.cell? ⟨r, 1, none⟩ = some (.slice na (spendOf m).2.now.length nc) := cell_at b1 rfl
    have r2 : w1.cell? ⟨r, 2, none⟩ = some (.slice sa (spendOf m).2.sure.length sc) := cell_at b1 rfl
    have f2 : w1.frozen? ⟨r, 2, none⟩ = false := free_at b1 2
    have r3 : w1.cell? ⟨r, 3, none⟩ = some (.slice la (spendOf m).2.loose.length lc) := cell_at b1 rfl
    have f3 : w1.frozen? ⟨r, 3, none⟩ = false := free_at b1 3
    subst hw2
    generalize (spendOf m).2 = m1 at *
    clear h h1 k1 k1' hi hn b1 b2 b3 hsp
    unfold Runs
    go_enter Tryz.func40, Tryz.ntmps40
    go_wp2_with (go_at_call 102; refine hpow.out.mono ?_; rintro e w' ⟨rfl, rfl⟩)
    go_ret
    exact ⟨rfl, rfl⟩
theorem slice_runP (w : World) (a : Option Addr) (n c i j : Nat) (h1 : i + j ≤ c) :
  (Instr.sliceAt 36 (.slice a n c) (some (.int .i64 (i : Int))) (some (.int .i64 ((i : Int) + (j : Int)))) none).run Tryz.prog w = .ok (.slice (if c = i then a else Option.map (fun x => x.add i) a) j (c - i)) w := by
 rw [run_sliceAt_slice _ _ _ _ _ _ elem_bytes, run_slice_lh w 36 a n c elem_bytes .i64 .i64 (i : Int) ((i : Int) + j) (by omega) (by omega) (by omega), size_u8]
 have e3 : ((i : Int) + j).toNat = i + j := by omega
 simp only [Result.andThen, sliced, e3, Int.toNat_natCast, Nat.mul_one, Nat.add_sub_cancel_left]
theorem Reads.cutP {w : World} {a : Option Addr} {n c : Nat} {l : List UInt8} (h : Reads w (.slice a n c) l) (i j : Nat) (hij : i + j ≤ l.length) : Reads w (.slice (if c = i then a else Option.map (fun x => x.add i) a) j (c - i)) ((l.drop i).take j) := by
 cases a with
 | none =>
  rcases h with ⟨e, rfl⟩ | ⟨x, c', e, _⟩
  ·cases e
   simp at hij
   obtain ⟨rfl, rfl⟩ := hij
   exact .inl ⟨rfl, rfl⟩
  ·cases e
 | some x =>
  have h2 := h.cut i j hij
  by_cases hc : c = i
  ·rw [if_pos hc] at h2 ⊢; exact h2
  ·rw [if_neg hc] at h2 ⊢; exact h2
def clampN (n : Int) (most : Nat) : Nat := if n < 0 then 0 else if (most : Int) < n then most else n.toNat
theorem clampN_int (n : Int) (most : Nat) : (if n < 0 then (0 : Int) else if (most : Int) < n then (most : Int) else n) = (clampN n most : Int) := by
 unfold clampN
 split
 ·rfl
 ·split
  ·rfl
  ·omega
theorem clampN_le (n : Int) (most : Nat) : clampN n most ≤ most := by
 unfold clampN
 split
 ·omega
 ·split <;> omega
theorem clampN_pos {n : Int} (h : 0 ≤ n) (most : Nat) : clampN n most = if (most : Int) < n then most else n.toNat := by
 unfold clampN
 rw [if_neg (by omega)]
theorem piece_clamp (l : List UInt8) (at_ n : Int) (h0 : 0 ≤ at_) (h1 : 0 ≤ n) : pieceOf l at_ n = (l.drop (clampN at_ l.length)).take (clampN n (l.length - clampN at_ l.length)) := by
 unfold pieceOf
 rw [clampN_pos h1, clampN_pos h0]
 by_cases ha : (l.length : Int) < at_
 ·rw [if_pos ha, List.drop_of_length_le (by omega : l.length ≤ at_.toNat), List.drop_of_length_le (Nat.le_refl _)]; simp
 ·rw [if_neg ha]
  by_cases hn : ((l.length - at_.toNat : Nat) : Int) < n
  ·rw [if_pos hn, List.take_of_length_le (by simp; omega), List.take_of_length_le (by simp)]
  ·rw [if_neg hn]
set_option maxRecDepth 100000 in
theorem rread_calls {w : World} {v : Value} {l : List UInt8} (h : Reads w v l) (at_ n : Int) (h0 : 0 ≤ at_) (h1 : 0 ≤ n) (hb : l.length ≤ 140737488355328) : Calls Tryz.prog 68 #[v, .int .i64 at_, .int .i64 n] w (OPost w (pieceOf l at_ n)) := by
 rw [piece_clamp l at_ n h0 h1]
 obtain ⟨a, c, rfl, hlc, hcm⟩ := h.form
 unfold maxLen at hcm
 have hcl := rclamp_runs w at_ (l.length : Int)
 rw [clampN_int] at hcl
 have hle := clampN_le at_ l.length
 generalize clampN at_ l.length = i at *
 have hcl2 := fun w => rclamp_runs w n ((l.length - i : Nat) : Int)
 simp only [clampN_int] at hcl2
 have hle2 := clampN_le n (l.length - i)
 generalize clampN n (l.length - i) = j at *
 have hsl := fun w => slice_runP w a l.length c i j (by omega)
 have hcut := h.cutP i j (by omega)
 have hlen : ((l.drop i).take j).length = j := by simp; omega
 generalize (if c = i then a else Option.map (fun x => x.add i) a) = y at *
 have hsub : ((l.length - i : Nat) : Int) = (l.length : Int) - (i : Int) := by omega
 rw [hsub] at hcl2
 have i0 : (0 : Int) ≤ (i : Int) := by omega
 have i1 : (i : Int) ≤ l.length := by omega
 have i2 : (j : Int) ≤ (l.length : Int) - i := by omega
 have i3 : (0 : Int) ≤ (j : Int) := by omega
 have i4 : (l.length : Int) ≤ 140737488355328 := by omega
 have htw := twin_calls hcut (by rw [hlen]; omega)
 have HTW := hyd htw
 have HSL := hyd hsl
 have HC2 := hyd hcl2
 clear h hcut htw hsl hcl2 hsub hle hle2 hlc hcm hb
 go_enter Tryz.func68, Tryz.ntmps68
 go_wp2_with fail
 refine hcl.out.mono ?_
 rintro e w' ⟨rfl, rfl⟩
 clear hcl
 have hsl := HSL.out
 clear HSL
 go_wp2_with fail
 refine (HC2.out _).out.mono ?_
 rintro e w' ⟨rfl, rfl⟩
 clear HC2
 go_wp2_with fail
 refine HTW.out.mono ?_
 rintro e w2 ⟨v2, rfl, ho2, hk2⟩
 obtain ⟨a2, c2, rfl, _, _⟩ := ho2.bytes.form
 simp only [hlen] at ho2 ⊢
 have HO := hyd ho2
 have HK := hyd hk2
 clear ho2 hk2 HTW
 go_wp2_with fail
 go_ret
 exact ⟨_, rfl, HO.out, HK.out⟩
theorem clampN_I (n : Int) (most : Nat) : clampN n most = clampI n most := rfl
theorem rchCells_get : ∀ {ps : List Value} {cs : List Ch} (i : Nat) {p : Value} {c : Ch}, ps[i]? = some p → cs[i]? = some c → (chCells ps cs)[i * 4]? = some (.int .i64 c.kind) ∧ (chCells ps cs)[i * 4 + 1]? = some (.string c.a) ∧ (chCells ps cs)[i * 4 + 2]? = some (.string c.b) ∧ (chCells ps cs)[i * 4 + 3]? = some p
 | q :: ps, g :: cs, 0, p, c, hp, hc => by
  simp at hp hc; subst hp; subst hc
  exact ⟨rfl, rfl, rfl, rfl⟩
 | q :: ps, g :: cs, i + 1, p, c, hp, hc => by
  have := rchCells_get (ps := ps) (cs := cs) i (by simpa using hp) (by simpa using hc)
  rw [show (i + 1) * 4 = i * 4 + 1 + 1 + 1 + 1 by omega]
  simpa [chCells] using this
 | [], _, i, _, _, hp, _ => by simp at hp
 | _ :: _, [], i, _, _, _, hc => by simp at hc
theorem RChsAt.cell {F : Nat → Prop} {w : World} {v : Value} {cs : List Ch} (h : RChsAt F w v cs) {i : Nat} {c : Ch} (hc : cs[i]? = some c) :
  ∃ g cap p, v = .slice (some ⟨g, 0, none⟩) cs.length cap ∧ cs.length ≤ cap ∧ w.cell? ⟨g, i * 4, none⟩ = some (.int .i64 c.kind) ∧ w.cell? ⟨g, i * 4 + 1, none⟩ = some (.string c.a) ∧ w.cell? ⟨g, i * 4 + 2, none⟩ = some (.string c.b) ∧ w.cell? ⟨g, i * 4 + 3, none⟩ = some p ∧ Bytes F w p c.p ∧ F g := by
 obtain ⟨ps, h1, h2, h3⟩ := h
 obtain ⟨p, hp, hB⟩ := h1.get' hc
 have hcc := rchCells_get i hp hc
 rcases h2.2 with ⟨rfl, e⟩ | ⟨g, cap, cur, rfl, _, hb, h4, _⟩
 ·have := (List.getElem?_eq_some_iff.1 hc).1; omega
 ·have hat : ∀ j u, (chCells ps cs)[j]? = some u → w.cell? ⟨g, j, none⟩ = some u := fun j u hu => by
   have := h2.cells (g := g) rfl j u hu
   simpa [Addr.add_lit] using this
  exact ⟨g, cap, p, rfl, h4, hat _ _ hcc.1, hat _ _ hcc.2.1, hat _ _ hcc.2.2.1, hat _ _ hcc.2.2.2, hB, h3 g rfl⟩
theorem rsure_step {F : Nat → Prop} {w w6 : World} {r : Nat} {vn vs vl v6 : Value} {m : DM} {fs : FS} (h : RefAt F w r vn vs vl m) (h6 : FilesAt (Ext F w w6) w6 v6 fs) (k6 : Keeps (fun _ => False) w w6) :
  RefAt (Ext F w w6) (w6.setCell ⟨r, 2, none⟩ v6) r vn v6 vl { m with sure := fs } ∧ Keeps F w (w6.setCell ⟨r, 2, none⟩ v6) ∧ w6.cell? ⟨r, 2, none⟩ = some vs ∧ w6.frozen? ⟨r, 2, none⟩ = false := by
 have hb6 := k6.at h.blk (fun e => e)
 have hG : ∀ b, Ext F w w6 b → b < w6.heap.size := ext_lt h.lt k6.size
 refine ⟨RefAt.store hb6 (by rw [heap_setCell_eq hb6]; rfl) (fun b hb => Below.heap_setCell _ _ _ _ hb) (.inl h.fr) (h.now.quiet k6 (fun b hb _ => .inl hb)) h6 (h.loose.quiet k6 (fun b hb _ => .inl hb)) hG, (k6.any (F := F)).setCell (p := ⟨r, 2, none⟩) (fun _ => h.fr) _, cell_at hb6 rfl, free_at hb6 2⟩
theorem rsure_do {F : Nat → Prop} {w : World} {r : Nat} {vn vs vl : Value} {m : DM} (h : RefAt F w r vn vs vl m) (c : Ch) (hs : FSorted m.sure) (hm : May m.sure c) {pv : Value} (hp : Reads w pv c.p) (hl : m.sure.length < 549755813888) (hsz : c.kind = 1 → ((fget m.sure c.a).getD []).length + c.p.length ≤ 140737488355328) :
  Calls Tryz.prog 118 #[vs, .agg #[.int .i64 c.kind, .string c.a, .string c.b, pv]] w (fun e w6 => ∃ a6 c6, e = .returned (.slice a6 (doCh m.sure c).length c6) ∧ w6.cell? ⟨r, 2, none⟩ = some vs ∧ w6.frozen? ⟨r, 2, none⟩ = false ∧
   RefAt (Ext F w w6) (w6.setCell ⟨r, 2, none⟩ (.slice a6 (doCh m.sure c).length c6)) r vn (.slice a6 (doCh m.sure c).length c6) vl { m with sure := doCh m.sure c } ∧ Keeps F w (w6.setCell ⟨r, 2, none⟩ (.slice a6 (doCh m.sure c).length c6))) := by
 refine (rdo_calls h.sure h.lt hs c hm hp hl hsz).mono ?_
 rintro e w6 ⟨v6, rfl, h6, k6⟩
 obtain ⟨a6, c6, rfl, _, _⟩ := h6.form
 obtain ⟨q1, q2, q3, q4⟩ := rsure_step h h6 k6
 exact ⟨a6, c6, rfl, q3, q4, q1, q2⟩
theorem drew_size (w : World) : w.drew.heap.size = w.heap.size := rfl
theorem Reads.headP {w : World} {a : Option Addr} {n c : Nat} {l : List UInt8} (h : Reads w (.slice a n c) l) (j : Nat) (hj : j ≤ l.length) : Reads w (.slice a j c) (l.take j) := by
 have hl : (l.take j).length = j := by rw [List.length_take]; omega
 rcases h with ⟨e, rfl⟩ | ⟨x, c', e, h1, h2, h3⟩
 ·cases e
  have : j = 0 := by simpa using hj
  subst this
  exact .inl ⟨rfl, rfl⟩
 ·cases e
  refine .inr ⟨x, c, by rw [hl], by omega, h2, fun i u hu => h3 i u ?_⟩
  rw [List.getElem?_map, List.getElem?_take] at hu
  split at hu
  ·rw [List.getElem?_map]; exact hu
  ·cases hu
theorem slice_headP (w : World) (a : Option Addr) (n c j : Nat) (h1 : j ≤ c) : (Instr.sliceAt 36 (.slice a n c) none (some (.int .i64 (j : Int))) none).run Tryz.prog w = .ok (.slice a j c) w := by
 rw [run_sliceAt_slice _ _ _ _ _ _ elem_bytes, run_slice_h w 36 a n c elem_bytes .i64 (j : Int) (by omega) (by omega), size_u8]
 simp only [Result.andThen, sliced, Int.toNat_natCast, Nat.zero_mul, Nat.sub_zero]
 have : (a.map fun x => x.add 0) = a := by cases a with
  | none => rfl
  | some x => simp [Addr.add_zero']
 rw [this]
 simp
def RCrashPost (F : Nat → Prop) (w : World) (r : Nat) (m : DM) (e : Ending) (w' : World) : Prop := e = .returned (.tuple #[]) ∧ RefIs (Ext F w w') w' r m ∧ Keeps F w w'
theorem take_fold {l : List Ch} {k : Nat} {c : Ch} (h : l[k]? = some c) (fs : FS) : (l.take (k + 1)).foldl doCh fs = doCh ((l.take k).foldl doCh fs) c := by
 rw [List.take_add_one, h]
 simp
theorem rcrash_end {F : Nat → Prop} {w wz : World} {r : Nat} {vn vs vl : Value} {m : DM} {fs : FS} (h : RefAt (Ext F w wz) wz r vn vs vl { m with sure := fs }) (hq : Keeps F w wz) (hlt : ∀ b, F b → b < w.heap.size) (hr : F r) :
  RCrashPost F w r (crashed m fs) (.returned (.tuple #[])) ((((wz.setCell ⟨r, 1, none⟩ vs).setCell ⟨r, 3, none⟩ (.slice none 0 0)).setCell ⟨r, 4, none⟩ (.int .i64 (-1))).setCell ⟨r, 5, none⟩ (.bool false)) := by
 have hb := h.blk
 have h1 : (wz.setCell ⟨r, 1, none⟩ vs).heap[r]? = _ := heap_setCell_eq hb 1 vs
 have h3 : ((wz.setCell ⟨r, 1, none⟩ vs).setCell ⟨r, 3, none⟩ (.slice none 0 0)).heap[r]? = _ := heap_setCell_eq h1 3 _
 have h4 : (((wz.setCell ⟨r, 1, none⟩ vs).setCell ⟨r, 3, none⟩ (.slice none 0 0)).setCell ⟨r, 4, none⟩ (.int .i64 (-1))).heap[r]? = _ := heap_setCell_eq h3 4 _
 have h5 : ((((wz.setCell ⟨r, 1, none⟩ vs).setCell ⟨r, 3, none⟩ (.slice none 0 0)).setCell ⟨r, 4, none⟩ (.int .i64 (-1))).setCell ⟨r, 5, none⟩ (.bool false)).heap[r]? = _ := heap_setCell_eq h4 5 _
 have hz : ((((wz.setCell ⟨r, 1, none⟩ vs).setCell ⟨r, 3, none⟩ (.slice none 0 0)).setCell ⟨r, 4, none⟩ (.int .i64 (-1))).setCell ⟨r, 5, none⟩ (.bool false)).heap.size = wz.heap.size := by simp
 refine ⟨rfl, ⟨vs, vs, .slice none 0 0, ?_⟩, ?_⟩
 ·have hh : RefAt (Ext F w wz) ((((wz.setCell ⟨r, 1, none⟩ vs).setCell ⟨r, 3, none⟩ (.slice none 0 0)).setCell ⟨r, 4, none⟩ (.int .i64 (-1))).setCell ⟨r, 5, none⟩ (.bool false)) r vs vs (.slice none 0 0) (crashed m fs) :=
   RefAt.store hb (by rw [h5]; rfl) (fun b hb' => by rw [Below.heap_setCell _ _ _ _ hb', Below.heap_setCell _ _ _ _ hb', Below.heap_setCell _ _ _ _ hb', Below.heap_setCell _ _ _ _ hb']) h.fr h.sure h.sure (RChsAt.nil _ _) h.lt
  unfold Ext at hh ⊢
  rw [hz]
  exact hh
 ·exact (((hq.setCell (p := ⟨r, 1, none⟩) (fun _ => hr) _).setCell (p := ⟨r, 3, none⟩) (fun _ => hr) _).setCell (p := ⟨r, 4, none⟩) (fun _ => hr) _).setCell (p := ⟨r, 5, none⟩) (fun _ => hr) _
set_option maxRecDepth 100000 in
set_option maxHeartbeats 2000000 in
theorem rcrash_calls {F : Nat → Prop} {w : World} {r : Nat} {m : DM} (h : RefIs F w r m) {n t : Nat} (ht : Tidy m n t) (htt : t < 549755813888) (keep part : Int) :
  Calls Tryz.prog 64 #[.pointer (some ⟨r, 0, none⟩), .int .i64 keep, .int .i64 part] w (RCrashPost F w r (crashOf m keep part)) := by
 obtain ⟨vn, vs, vl, h⟩ := h
 obtain ⟨la, lc, rfl⟩ := h.loose.form
 obtain ⟨na, nc, rfl, _, _⟩ := h.now.form
 have hlt := h.lt
 have c3 := h.cells.c3
 have hcl := rclamp_runs w keep (m.loose.length : Int)
 rw [clampN_int, clampN_I] at hcl
 have hKle := clampI_le keep m.loose.length
 have hlen := ht.len
 obtain ⟨K, hK⟩ : ∃ K, K = clampI keep m.loose.length := ⟨_, rfl⟩
 rw [← hK] at hcl hKle
 have HFR := hyd h.fr
 have H := hyd h
 have HT := hyd ht
 have HKK := hyd hK
 have i0 : (0 : Int) ≤ (K : Int) := by omega
 have i1 : (K : Int) ≤ (m.loose.length : Int) := by omega
 have i2 : (m.loose.length : Int) ≤ 549755813888 := by omega
 clear h ht hK
 go_enter Tryz.func64, Tryz.ntmps64
 go_wp2_with fail
 refine hcl.out.mono ?_
 rintro e w' ⟨rfl, rfl⟩
 clear hcl
 go_wp2_with fail
 go_loopw [6] (fun i wx => ∃ (k : Nat) (vs' : Value), k ≤ K ∧ i = .int .i64 (k : Int) ∧ RefAt (Ext F w wx) wx r (.slice na m.now.length nc) vs' (.slice la m.loose.length lc) { m with sure := (m.loose.take k).foldl doCh m.sure } ∧ Keeps F w wx) (fun i _ => K - (intOf i).toNat)
 case atStart => exact ⟨0, vs, Nat.zero_le _, rfl, H.out.quiet (Keeps.refl _ _) (fun b hb _ => .inl hb) (fun b hb => by rcases hb with hb | hb; exact hlt b hb; exact hb.2), Keeps.refl _ _⟩
 case round =>
  obtain ⟨k, vs', hk, rfl, hr, hq⟩ := hrel
  have j0 : (0 : Int) ≤ k := by omega
  by_cases hlt2 : k < K
  ·have j1 : (k : Int) < K := by omega
   have j2 : (k : Int) < m.loose.length := by omega
   obtain ⟨c, hc⟩ : ∃ c, m.loose[k]? = some c := ⟨m.loose[k], List.getElem?_eq_getElem (by omega)⟩
   obtain ⟨sa, sc, rfl, _, _⟩ := hr.sure.form
   obtain ⟨g, cap, p, e, hle, e0, e1, e2, e3, hB, _⟩ := hr.loose.cell hc
   simp only [Value.slice.injEq] at e
   obtain ⟨rfl, -, rfl⟩ := e
   obtain ⟨pa, pc, rfl, _, _⟩ := hB.form
   have hfits := (HT.out.good.fits k c hc).1
   have hl2 := length_fold (m.loose.take k) m.sure
   rw [List.length_take] at hl2
   have hrd : RefAt (Ext F w wr) wr.drew r (.slice na m.now.length nc) _ (.slice (some ⟨g, 0, none⟩) m.loose.length lc) { m with sure := (m.loose.take k).foldl doCh m.sure } := hr.keep (fun _ _ => rfl)
   have hdo := rsure_do hrd c (FSorted.fold _ HT.out.ssure) (HT.out.may k c hc) (hB.keep (KeepU8.refl _ wr).drew (fun _ h _ => h) : Bytes (Ext F w wr) wr.drew _ c.p).reads (by simp only; omega) hfits.2
   have r2 := hr.cells.c2
   have r3 := hr.cells.c3
   simp only at hdo r2 r3
   obtain ⟨ck, cx, cy, cp⟩ := c
   simp only at *
   have hz := hq.size
   have HST := hyd (fun w6 a6 c6 => fun (hx : RefAt (Ext (Ext F w wr) wr.drew w6) (w6.setCell ⟨r, 2, none⟩ (.slice a6 (doCh ((m.loose.take k).foldl doCh m.sure) ⟨ck, cx, cy, cp⟩).length c6)) r (.slice na m.now.length nc) (.slice a6 (doCh ((m.loose.take k).foldl doCh m.sure) ⟨ck, cx, cy, cp⟩).length c6) (.slice (some ⟨g, 0, none⟩) m.loose.length lc) { m with sure := doCh ((m.loose.take k).foldl doCh m.sure) ⟨ck, cx, cy, cp⟩ }) (hy : Keeps (Ext F w wr) wr.drew (w6.setCell ⟨r, 2, none⟩ (.slice a6 (doCh ((m.loose.take k).foldl doCh m.sure) ⟨ck, cx, cy, cp⟩).length c6))) =>
    (⟨k + 1, _, by omega, rfl, by
     rw [take_fold hc]
     have hz2 := hy.size
     refine hx.quiet (Keeps.refl _ _) (fun b hb _ => ?_) (fun b hb => ?_)
     ·rcases hb with (hb | hb) | hb
      ·exact .inl hb
      ·exact .inr ⟨hb.1, by have := hb.2; simp only [drew_size] at hz2; omega⟩
      ·exact .inr ⟨by have := hb.1; simp only [drew_size] at this; omega, by simpa using hb.2⟩
     ·rcases hb with hb | hb
      ·have := hlt b hb; simp only [drew_size] at hz2; omega
      ·exact hb.2, hq.rebase hy.undrew⟩ : ∃ (k' : Nat) (vs' : Value), k' ≤ K ∧ Value.int .i64 ((k + 1 : Nat) : Int) = .int .i64 (k' : Int) ∧ RefAt (Ext F w (w6.setCell ⟨r, 2, none⟩ (.slice a6 (doCh ((m.loose.take k).foldl doCh m.sure) ⟨ck, cx, cy, cp⟩).length c6))) (w6.setCell ⟨r, 2, none⟩ (.slice a6 (doCh ((m.loose.take k).foldl doCh m.sure) ⟨ck, cx, cy, cp⟩).length c6)) r (.slice na m.now.length nc) vs' (.slice (some ⟨g, 0, none⟩) m.loose.length lc) { m with sure := (m.loose.take k').foldl doCh m.sure } ∧ Keeps F w (w6.setCell ⟨r, 2, none⟩ (.slice a6 (doCh ((m.loose.take k).foldl doCh m.sure) ⟨ck, cx, cy, cp⟩).length c6))))
   have HDO := hyd hdo
   clear hdo hrd hr hq hB hfits hl2 hc hz
   generalize (m.loose.take k).foldl doCh m.sure = fs0 at *
   go_wp2_with fail
   go_region_law (first | (refine step_wantedR rfl ?_; go_simp; go_at_call 118; refine HDO.out.mono ?_; rintro e w6 ⟨a6, c6, rfl, q1, q2, hx, hy⟩) | fail)
   all_goals
    have hrel2 := HST.out w6 a6 c6 hx hy
    have HREL := hyd hrel2
    clear hrel2 hx hy HST HDO q1 q2
    go_wp2_with fail
    go_roundw
    case rel => exact HREL.out
    case measure => simp [intOf]; omega
  ·obtain rfl : k = K := by omega
   clear H
   obtain ⟨sa, sc, rfl, _, _⟩ := hr.sure.form
   have hfr : F r := HFR.out
   obtain ⟨r0, r1, r2, r3, r4, r5, rf⟩ := hr.cells
   have f1 := rf 1
   have f3 := rf 3
   have f4 := rf 4
   have f5 := rf 5
   clear rf
   simp only at r0 r1 r2 r3 r4 r5
   have hlf := length_fold (m.loose.take k) m.sure
   rw [List.length_take] at hlf
   by_cases hend : k < m.loose.length
   ·have j2 : (k : Int) < m.loose.length := by omega
    obtain ⟨c, hc⟩ : ∃ c, m.loose[k]? = some c := ⟨m.loose[k], List.getElem?_eq_getElem hend⟩
    obtain ⟨g, cap, p, e, hle, e0, e1, e2, e3, hB, _⟩ := hr.loose.cell hc
    simp only [Value.slice.injEq] at e
    obtain ⟨rfl, -, rfl⟩ := e
    obtain ⟨pa, pc, rfl, _, _⟩ := hB.form
    by_cases hk1 : c.kind = 1
    ·obtain ⟨j, hj⟩ : ∃ j, j = clampI part c.p.length := ⟨_, rfl⟩
     have hjl := clampI_le part c.p.length
     rw [← hj] at hjl
     have hfs : crashFs m keep part = doCh ((m.loose.take k).foldl doCh m.sure) { c with p := c.p.take j } := by
      unfold crashFs
      rw [← HKK.out, hc]
      simp [hk1, hj]
     have hcl2 := fun w => rclamp_runs w part (c.p.length : Int)
     simp only [clampN_int, clampN_I, ← hj] at hcl2
     obtain ⟨ck, cx, cy, cp⟩ := c
     simp only at *
     subst hk1
     have hrlt : r < wr.heap.size := hr.lt r hr.fr
     have hplc := hB.form
     obtain ⟨_, _, epl, hcpl, _⟩ := hplc
     simp only [Value.slice.injEq] at epl
     obtain ⟨rfl, -, rfl⟩ := epl
     have hsl := fun w => slice_headP w pa cp.length pc j (by omega)
     obtain ⟨w1, hw1⟩ : ∃ w1, w1 = wr.alloc (.cells #[.int .i64 1, .string cx, .string cy, .slice pa cp.length pc] 138) := ⟨_, rfl⟩
     have hkw1 : Keeps (fun _ => False) wr w1 := by rw [hw1]; exact (Keeps.refl _ wr).alloc _
     have hbx1 : w1.heap[wr.heap.size]? = some (.cells #[.int .i64 1, .string cx, .string cy, .slice pa cp.length pc] 138 (0, 0)) := by rw [hw1]; exact heap_alloc_new _ _
     have b13 : w1.cell? ⟨wr.heap.size, 3, none⟩ = some (.slice pa cp.length pc) := cell_at hbx1 rfl
     have f13 : w1.frozen? ⟨wr.heap.size, 3, none⟩ = false := free_at hbx1 3
     obtain ⟨w2, hw2⟩ : ∃ w2, w2 = w1.setCell ⟨wr.heap.size, 3, none⟩ (.slice pa j pc) := ⟨_, rfl⟩
     have hbx2 : w2.heap[wr.heap.size]? = some (.cells #[.int .i64 1, .string cx, .string cy, .slice pa j pc] 138 (0, 0)) := by rw [hw2, heap_setCell_eq hbx1]; rfl
     have hkw2 : Keeps (fun _ => False) wr w2 := by
      rw [hw2]
      exact hkw1.setCell (p := ⟨wr.heap.size, 3, none⟩) (fun hb => by simp only at hb; omega) _
     have hr2 : RefAt (Ext F w wr) w2.drew.drew r (.slice na m.now.length nc) (.slice sa (List.length ((m.loose.take k).foldl doCh m.sure)) sc) (.slice (some ⟨g, 0, none⟩) m.loose.length lc) { m with sure := (m.loose.take k).foldl doCh m.sure } := hr.keep (fun b hb => hkw2.block b (hr.lt b hb) (fun e => e))
     have hfits := (HT.out.good.fits k _ hc).2 j
     have hmay := HT.out.may k _ hc
     have hdo := rsure_do hr2 ⟨1, cx, cy, cp.take j⟩ (FSorted.fold _ HT.out.ssure) ⟨by simp, fun e => by simp at e, fun _ => hmay.2.2 (by simp)⟩ (pv := .slice pa j pc) ((hB.keep (KeepU8.of_none hkw2) (fun _ h _ => h) : Bytes (Ext F w wr) w2 _ cp).reads.headP j hjl) (by simp only; omega) hfits.2
     simp only at hdo
     have HDO := hyd hdo
     have q2 := hr2.cells.c2
     have q2' : w2.cell? ⟨r, 2, none⟩ = some (.slice sa (List.length ((m.loose.take k).foldl doCh m.sure)) sc) := q2
     have g0 : w2.cell? ⟨wr.heap.size, 0, none⟩ = some (.int .i64 1) := cell_at hbx2 rfl
     have g1 : w2.cell? ⟨wr.heap.size, 1, none⟩ = some (.string cx) := cell_at hbx2 rfl
     have g2 : w2.cell? ⟨wr.heap.size, 2, none⟩ = some (.string cy) := cell_at hbx2 rfl
     have g3 : w2.cell? ⟨wr.heap.size, 3, none⟩ = some (.slice pa j pc) := cell_at hbx2 rfl
     have HQ := hyd hq
     have HW2 := hyd hkw2
     have HFS := hyd hfs
     have i5 : (j : Int) ≤ (pc : Int) := by omega
     clear hdo hr2 hr hq hB hc hlf hle hfits hmay hkw1 hkw2 hbx1 hbx2 q2 hfs hrlt hj
     generalize (m.loose.take k).foldl doCh m.sure = fs0 at *
     go_wp2_with fail
     rw [← hw1]
     clear hw1
     go_region_law (first | (refine step_wantedR rfl ?_; go_simp; go_at_call 122; refine (hcl2 _).out.mono ?_; rintro e w' ⟨rfl, rfl⟩) | fail)
     all_goals
      rw [← hw2]
      clear hw2
      go_wp2_with fail
      go_region_law (first | (refine step_wantedR rfl ?_; go_simp; go_at_call 118; refine HDO.out.mono ?_; rintro e w6 ⟨a6, c6, rfl, q1, q2, hx, hy⟩) | fail)
     all_goals
      obtain ⟨wz, hwz⟩ : ∃ wz, wz = w6.setCell ⟨r, 2, none⟩ (.slice a6 (doCh fs0 ⟨1, cx, cy, cp.take j⟩).length c6) := ⟨_, rfl⟩
      have hwz6 : wz.heap.size = w6.heap.size := by rw [hwz]; simp
      rw [← hwz] at hx hy ⊢
      clear hwz q1 q2 HDO r0 r1 r2 r3 r4 r5 f1 f3 f4 f5 e0 e1 e2 e3 g0 g1 g2 g3 b13 f13
      have hzz := HW2.out.size
      have hq2 : Keeps F w wz := HQ.out.rebase (HW2.out.drew.drew.any.trans hy (fun _ _ e => e))
      have hyz := hy.size
      have hqz := HQ.out.size
      simp only [drew_size] at hyz
      have hr' : RefAt (Ext F w wz) wz r (.slice na m.now.length nc) (.slice a6 (doCh fs0 ⟨1, cx, cy, cp.take j⟩).length c6) (.slice (some ⟨g, 0, none⟩) m.loose.length lc) { m with sure := doCh fs0 ⟨1, cx, cy, cp.take j⟩ } := hx.quiet (Keeps.refl _ wz) (fun b hb _ => by
       rcases hb with (hb | hb) | hb
       ·exact .inl hb
       ·exact .inr ⟨hb.1, by omega⟩
       ·exact .inr ⟨by have := hb.1; simp only [drew_size] at this; omega, by omega⟩) (fun b hb => by
       rcases hb with hb | hb
       ·have := hlt b hb; omega
       ·exact hb.2)
      have hpost := rcrash_end hr' hq2 hlt hfr
      rw [show crashed m (doCh fs0 ⟨1, cx, cy, cp.take j⟩) = crashOf m keep part by unfold crashOf; rw [HFS.out]] at hpost
      obtain ⟨r0, r1, r2, r3, r4, r5, rf⟩ := hr'.cells
      have f1 := rf 1
      have f3 := rf 3
      have f4 := rf 4
      have f5 := rf 5
      simp only at r0 r1 r2 r3 r4 r5
      have HPO := hyd hpost
      clear rf hpost hr' hx hy hq2 hyz hqz hzz hwz6 HQ HW2 HFS
      go_wp2_with fail
      go_end0
      exact HPO.out
    ·have hfs : crashFs m keep part = (m.loose.take k).foldl doCh m.sure := by
      unfold crashFs
      rw [← HKK.out, hc]
      simp [hk1]
     have hkb : (c.kind == 1) = false := by simpa using hk1
     have hkb2 : (decide (c.kind = 1)) = false := by simpa using hk1
     have hpost := rcrash_end hr hq hlt hfr
     rw [show crashed m ((m.loose.take k).foldl doCh m.sure) = crashOf m keep part by unfold crashOf; rw [hfs]] at hpost
     have HPO := hyd hpost
     clear hpost hfs hr hq hB hc hlf hle
     go_wp2_with fail
     go_end0
     exact HPO.out
   ·have hnone : m.loose[k]? = none := List.getElem?_eq_none (by omega)
    have hfs : crashFs m keep part = (m.loose.take k).foldl doCh m.sure := by
     unfold crashFs
     rw [← HKK.out, hnone]
    have j2 : ¬ (k : Int) < m.loose.length := by omega
    have hpost := rcrash_end hr hq hlt hfr
    rw [show crashed m ((m.loose.take k).foldl doCh m.sure) = crashOf m keep part by unfold crashOf; rw [hfs]] at hpost
    have HPO := hyd hpost
    clear hpost hfs hr hq hlf hnone
    go_wp2_with fail
    go_end0
    exact HPO.out
end Go.Proofs.YtddnikpdmjogiaaGreat
