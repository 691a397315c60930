/- A part of the proof. -/
import Derived.Test.YtlcnhpjggjgnpaaGreatDoorUlaa2
import Derived.Deep.Matrix
import Derived.Deep.Slices
import Derived.Deep.Fields
import Derived.ChangeSame
namespace Go.Proofs.YtlcnhpjggjgnpaaGreatDoor
open Go.RowKit Go.MapKept
open Go.ChangeMaps (setBlock)
theorem there_nilr (n : ByteArray) (w : World) : Runs 110 #[.pointer none, .string n] w (.int .i64 2) w := there_nil n w
theorem append_nil (n : ByteArray) (pv : Value) (w : World) : Runs 48 #[.pointer none, .string n, pv] w (.int .i64 2) w := by
 unfold Runs
 go_enter Tryz.func48, Tryz.ntmps48
 go_wp2_with (go_at_call 110; refine (there_nilr _ _).out.mono ?_; rintro e w' ⟨rfl, rfl⟩)
 go_ret
 exact ⟨rfl, rfl⟩
def sizeCode (m : DM) (n : ByteArray) : Int := if thereOf m n = 0 then (((fget m.now n).getD []).length : Int) else 0
set_option maxRecDepth 100000 in
theorem size_runs {F : Nat → Prop} {w : World} {d : Nat} {m : DM} (h : DiskIs F w d m) (n : ByteArray) : Runs 57 #[.pointer (some ⟨d, 0, none⟩), .string n] w (.tuple #[.int .i64 (sizeCode m n), .int .i64 (thereOf m n)]) w := by
 have hth := there_runs h n
 obtain ⟨bn, bs, vl, h⟩ := h
 have c1 := h.cells.c1
 obtain ⟨v, hB, _, hlook⟩ := look_now h.now n
 have hl := hlook false
 simp only [Bool.false_eq_true, if_false] at hl
 unfold sizeCode
 generalize (fget m.now n).getD [] = l at *
 obtain ⟨va, vc, rfl, _, _⟩ := hB.form
 clear hB hlook h
 unfold Runs
 by_cases ht : thereOf m n = 0
 ·rw [ht] at hth ⊢
  simp only [if_true]
  clear ht
  go_enter Tryz.func57, Tryz.ntmps57
  go_wp2_with (go_at_call 110; refine hth.out.mono ?_; rintro e w' ⟨rfl, rfl⟩)
  go_ret2
  exact ⟨rfl, rfl⟩
 ·simp only [ht, if_false]
  have hb : (thereOf m n == 0) = false := by simpa using ht
  generalize thereOf m n = t at *
  clear ht
  go_enter Tryz.func57, Tryz.ntmps57
  go_wp2_with (go_at_call 110; refine hth.out.mono ?_; rintro e w' ⟨rfl, rfl⟩)
  go_ret2
  exact ⟨rfl, rfl⟩
def renameOf (m : DM) (n k : ByteArray) : Int × DM := if thereOf m n = 0 then (if !isName k then (1, m) else doesOf m ⟨3, n, k, []⟩) else (thereOf m n, m)
set_option maxRecDepth 100000 in
theorem rename_raw (w w2 : World) (d : Nat) (n k : ByteArray) (t r : Int) (nm : Bool)
  (hth : Runs 110 #[.pointer (some ⟨d, 0, none⟩), .string n] w (.int .i64 t) w) (hnm : Runs 104 #[.string k] w (.bool nm) w)
  (hd : Runs 105 #[.pointer (some ⟨d, 0, none⟩), .agg #[.int .i64 3, .string n, .string k, .slice none 0 0]] w (.int .i64 r) w2) :
  Runs 84 #[.pointer (some ⟨d, 0, none⟩), .string n, .string k] w (.int .i64 (if t = 0 then (if !nm then 1 else r) else t)) (if t = 0 then (if !nm then w else w2) else w) := by
 unfold Runs
 by_cases ht : t = 0
 ·subst ht
  simp only [if_true]
  cases nm
  all_goals
   go_enter Tryz.func84, Tryz.ntmps84
   go_wp2_with (first | (go_at_call 110; refine hth.out.mono ?_; rintro e w' ⟨rfl, rfl⟩) | (go_at_call 104; refine hnm.out.mono ?_; rintro e w' ⟨rfl, rfl⟩) | (go_at_call 105; refine hd.out.mono ?_; rintro e w' ⟨rfl, rfl⟩))
   go_ret
   exact ⟨rfl, rfl⟩
 ·rw [if_neg ht, if_neg ht]
  have hb : (t == 0) = false := by simpa using ht
  clear ht
  go_enter Tryz.func84, Tryz.ntmps84
  go_wp2_with (first | (go_at_call 110; refine hth.out.mono ?_; rintro e w' ⟨rfl, rfl⟩))
  go_ret
  exact ⟨rfl, rfl⟩
theorem rename_runs {F : Nat → Prop} {w : World} {d : Nat} {m : DM} (h : DiskIs F w d m) (n k : ByteArray) (hf : m.fuse ≤ 9223372036854775807) (hl : m.loose.length < 1099511627776) :
  ∃ w', Runs 84 #[.pointer (some ⟨d, 0, none⟩), .string n, .string k] w (.int .i64 (renameOf m n k).1) w' ∧ DiskIs (Ext F w w') w' d (renameOf m n k).2 ∧ Keeps F w w' := by
 obtain ⟨w2, hd, h2, k2⟩ := does_calls h ⟨3, n, k, []⟩ (Bytes.nil F w) ⟨by simp, by simp⟩ hf hl
 have key := rename_raw w w2 d n k (thereOf m n) _ (isName k) (there_runs h n) (isname_runs k w) hd
 unfold renameOf
 by_cases ht : thereOf m n = 0
 ·simp only [ht, if_true] at key ⊢
  cases hn : isName k
  ·rw [hn] at key
   simp only [Bool.not_false, if_true] at key ⊢
   exact ⟨w, key, h.ext, Keeps.refl _ _⟩
  ·rw [hn] at key
   simp only [Bool.not_true, Bool.false_eq_true, if_false] at key ⊢
   exact ⟨w2, key, h2, k2⟩
 ·simp only [ht, if_false] at key ⊢
  exact ⟨w, key, h.ext, Keeps.refl _ _⟩
def fuseOf (m : DM) (n : Int) : Int × DM := if m.down then (5, m) else (0, { m with fuse := if n < -1 then -1 else n })
set_option maxRecDepth 100000 in
theorem fuse_raw (w : World) (d : Nat) (n : Int) (dn : Bool) (v4 : Value) (hup : Runs 76 #[.pointer (some ⟨d, 0, none⟩)] w (.int .i64 (if dn then 5 else 0)) w) (c4 : w.cell? ⟨d, 4, none⟩ = some v4) (f4 : w.frozen? ⟨d, 4, none⟩ = false) :
  Runs 29 #[.pointer (some ⟨d, 0, none⟩), .int .i64 n] w (.int .i64 (if dn then 5 else 0)) (if dn then w else w.setCell ⟨d, 4, none⟩ (.int .i64 (if n < -1 then -1 else n))) := by
 unfold Runs
 cases dn
 ·simp only [Bool.false_eq_true, if_false] at hup ⊢
  obtain ⟨q, hq⟩ : ∃ q, (if -1 > n then (-1 : Int) else n) = q := ⟨_, rfl⟩
  have hq2 : (if n < -1 then (-1 : Int) else n) = q := hq
  rw [hq2]
  clear hq
  go_enter Tryz.func29, Tryz.ntmps29
  go_wp2_with (first | (go_at_call 76; refine hup.out.mono ?_; rintro e w' ⟨rfl, rfl⟩))
  go_ret
  exact ⟨rfl, rfl⟩
 ·simp only [if_true] at hup ⊢
  go_enter Tryz.func29, Tryz.ntmps29
  go_wp2_with (first | (go_at_call 76; refine hup.out.mono ?_; rintro e w' ⟨rfl, rfl⟩))
  go_ret
  exact ⟨rfl, rfl⟩
theorem fuse_runs {F : Nat → Prop} {w : World} {d : Nat} {m : DM} (h : DiskIs F w d m) (n : Int) :
  ∃ w', Runs 29 #[.pointer (some ⟨d, 0, none⟩), .int .i64 n] w (.int .i64 (fuseOf m n).1) w' ∧ DiskIs (Ext F w w') w' d (fuseOf m n).2 ∧ Keeps F w w' := by
 have hup := up_runs h
 have hx := h.ext
 obtain ⟨bn, bs, vl, h⟩ := h
 have key := fuse_raw w d n m.down _ hup h.cells.c4 (h.cells.f0 4)
 unfold fuseOf
 cases hd : m.down
 ·rw [hd] at key
  simp only [Bool.false_eq_true, if_false] at key ⊢
  refine ⟨_, key, ⟨bn, bs, vl, ?_⟩, (Keeps.refl F w).setCell (fun _ => h.fd) _⟩
  have h2 : DiskAt F (w.setCell ⟨d, 4, none⟩ (.int .i64 (if n < -1 then -1 else n))) d bn bs vl { m with fuse := if n < -1 then -1 else n, down := false } := by
   refine h.reset ?_ (fun b hb => Below.heap_setCell _ _ _ _ hb) rfl rfl rfl
   rw [heap_setCell_eq h.blk]; simp [hd]
  exact h2.wider (G := Ext F w (w.setCell ⟨d, 4, none⟩ (.int .i64 (if n < -1 then -1 else n)))) (fun b hb => Or.inl hb) (fun b hb => by rcases hb with hb | hb; exact h2.lt b hb; exact hb.2)
 ·rw [hd] at key
  simp only [if_true] at key ⊢
  exact ⟨w, key, hx, Keeps.refl _ _⟩
def synced (m : DM) : DM := { (spendOf m).2 with sure := m.loose.foldl doCh m.sure, loose := [] }
def syncOf (m : DM) : Int × DM := if m.down then (5, m) else if m.fuse = 0 then (5, { m with down := true }) else (0, synced m)
theorem sync_down (w : World) (d : Nat) (hup : Runs 76 #[.pointer (some ⟨d, 0, none⟩)] w (.int .i64 5) w) : Runs 49 #[.pointer (some ⟨d, 0, none⟩)] w (.int .i64 5) w := by
 unfold Runs
 go_enter Tryz.func49, Tryz.ntmps49
 go_wp2_with (first | (go_at_call 76; refine hup.out.mono ?_; rintro e w' ⟨rfl, rfl⟩))
 go_ret
 exact ⟨rfl, rfl⟩
theorem sync_dead (w w1 : World) (d : Nat) (hup : Runs 76 #[.pointer (some ⟨d, 0, none⟩)] w (.int .i64 0) w) (hs : Runs 112 #[.pointer (some ⟨d, 0, none⟩)] w (.int .i64 5) w1) : Runs 49 #[.pointer (some ⟨d, 0, none⟩)] w (.int .i64 5) w1 := by
 unfold Runs
 go_enter Tryz.func49, Tryz.ntmps49
 go_wp2_with (first | (go_at_call 76; refine hup.out.mono ?_; rintro e w' ⟨rfl, rfl⟩) | (go_at_call 112; refine hs.out.mono ?_; rintro e w' ⟨rfl, rfl⟩))
 go_ret
 exact ⟨rfl, rfl⟩
theorem sync_end {F : Nat → Prop} {w w3 : World} {d bn bs : Nat} {vl : Value} {m : DM} {fs : FS} (hA : DiskAt F w d bn bs vl m) (hI : CInv F w w3 bs fs) :
  (∃ v, w3.cell? ⟨d, 3, none⟩ = some v) ∧ w3.frozen? ⟨d, 3, none⟩ = false ∧
   DPost F w d (0, { m with sure := fs, loose := [] }) (.returned (.int .i64 0)) (w3.setCell ⟨d, 3, none⟩ (.slice none 0 0)) := by
 obtain ⟨hk, hm⟩ := hI
 have hds : d ≠ bs := fun e => by subst e; exact hA.sure.notU8 _ _ _ hA.blk
 have hdn : d ≠ bn := fun e => by subst e; exact hA.now.notU8 _ _ _ hA.blk
 have hd3 : w3.heap[d]? = _ := hk.at hA.blk hds
 have hne : ∀ b, b ≠ d → (w3.setCell ⟨d, 3, none⟩ (.slice none 0 0)).heap[b]? = w3.heap[b]? := fun b hb => Below.heap_setCell _ _ _ _ hb
 have hku : ∀ G, KeepU8 G w3 (w3.setCell ⟨d, 3, none⟩ (.slice none 0 0)) := fun G => (KeepU8.refl G w3).setCell (fun cs fz e => by rw [hd3] at e; simp at e) _
 have hku1 : ∀ G, KeepU8 G w w3 := fun G => KeepU8.of_keeps hk (fun g cs fz _ e hg => by subst e; exact hA.sure.notU8 _ _ _ hg)
 have hext : ∀ b, (F b ∨ w.heap.size ≤ b) → b < w3.heap.size → Ext F w (w3.setCell ⟨d, 3, none⟩ (.slice none 0 0)) b := fun b hb hb2 => by
  rcases hb with hb | hb
  ·exact .inl hb
  ·exact .inr ⟨hb, by simpa using hb2⟩
 refine ⟨⟨_, cell_at hd3 rfl⟩, free_at hd3 3, rfl, ⟨bn, bs, .slice none 0 0, ?_, .inl hA.fd, .inl hA.fbn, .inl hA.fbs, hA.ne, ?_, ?_, ⟨[], trivial, World.ownsRow_nil _ _ _ _, fun b hb => by cases hb⟩, ?_⟩, ?_⟩
 ·rw [heap_setCell_eq hd3]; simp
 ·exact hA.now.keep ((hne bn (Ne.symm hdn)).trans (hk.block bn hA.now.lt hA.ne)) ((hku1 F).trans (hku F)) (fun b hb _ => .inl hb)
 ·exact hm.keep (hne bs (Ne.symm hds)) (hku _) hext
 ·intro b hb
  rcases hb with hb | hb
  ·have := hA.lt b hb; have := hk.size; simp; omega
  ·exact hb.2
 ·exact (hk.mono (fun b _ e => by subst e; exact hA.fbs)).setCell (fun _ => hA.fd) _
set_option maxRecDepth 100000 in
set_option maxHeartbeats 1000000 in
theorem sync_some {F : Nat → Prop} {w w1 : World} {d bn bs g n cap : Nat} {m : DM} (hup : Runs 76 #[.pointer (some ⟨d, 0, none⟩)] w (.int .i64 0) w) (hs : Runs 112 #[.pointer (some ⟨d, 0, none⟩)] w (.int .i64 0) w1)
  (hA : DiskAt F w1 d bn bs (.slice (some ⟨g, 0, none⟩) n cap) m) (hn : n = m.loose.length) (hnc : n ≤ cap) (hcm : (cap : Int) ≤ 9223372036854775807)
  (hfits : ∀ k c, m.loose[k]? = some c → Fits ((m.loose.take k).foldl doCh m.sure) c) :
  Calls Tryz.prog 49 #[.pointer (some ⟨d, 0, none⟩)] w (DPost F w1 d (0, { m with sure := m.loose.foldl doCh m.sure, loose := [] })) := by
 have hI0 : CInv F w1 w1 bs m.sure := ⟨Keeps.refl _ w1, hA.sure.keep rfl (KeepU8.refl _ _) (fun _ h _ => .inl h)⟩
 obtain ⟨_, c3, _⟩ := cells_of_cinv hA hI0
 have HA := Lib.hid hA
 have HN := Lib.hid hn
 have HF := Lib.hid hfits
 clear hA hn hfits
 go_enter Tryz.func49, Tryz.ntmps49
 go_wp2_with (first | (go_at_call 76; refine hup.out.mono ?_; rintro e w' ⟨rfl, rfl⟩) | (go_at_call 112; refine hs.out.mono ?_; rintro e w' ⟨rfl, rfl⟩))
 go_loopw [20] (fun i wr => CrashRel F w1 bs m n i wr) (fun i _ => n - (intOf i).toNat)
 case atStart => exact ⟨0, Nat.zero_le _, rfl, hI0⟩
 case round =>
  obtain ⟨k, hk, rfl, hI⟩ := hrel
  obtain ⟨c2', c3', hdl⟩ := cells_of_cinv HA.out hI
  have hrow := row_of_cinv HA.out hI
  clear hI0 c3 hup hs
  by_cases hlt : k < n
  ·obtain ⟨c, hc⟩ : ∃ c, m.loose[k]? = some c := ⟨m.loose[k]'(by have := HN.out; omega), List.getElem?_eq_getElem _⟩
   obtain ⟨pa, pc, hp, hcells⟩ := chs_cells HA.out.loose hc
   obtain ⟨e0, e1, e2, e3⟩ := hcells wr hrow
   obtain ⟨w2, hd, hI2⟩ := crash_step HA.out hI c hp (HF.out k c hc)
   have hI2' : CInv F w1 w2 bs ((m.loose.take (k + 1)).foldl doCh m.sure) := by
    rw [List.take_add_one, hc]; simpa using hI2
   have HI2 := Lib.hid hI2'
   have j0 : (0 : Int) ≤ k := by omega
   have j1 : (k : Int) < n := by omega
   have a2 : (wr.alloc (.cells #[.int .i64 c.kind, .string c.a, .string c.b, .slice pa c.p.length pc] 166)).cell? ⟨d, 2, none⟩ = some (.map (some bs)) := (World.cell?_alloc_lt wr _ ⟨d, 2, none⟩ hdl).trans c2'
   have hbx := load_change (wr.alloc (.cells #[.int .i64 c.kind, .string c.a, .string c.b, .slice pa c.p.length pc] 166)) wr.heap.size _ _ _ _ (heap_alloc_new _ _)
   have HBX := Lib.hid hbx
   have HA2 := Lib.hid a2
   clear hI hI2 hI2' hcells hrow hp c3' hbx a2
   go_wp2
   have hbx := HBX.out
   have a2 := HA2.out
   generalize wr.alloc (.cells #[.int .i64 c.kind, .string c.a, .string c.b, .slice pa c.p.length pc] 166) = W at hbx a2 hd ⊢
   obtain ⟨b0, b1, b2, b3⟩ := hbx
   clear HBX HA2
   go_still_tail 5, (by kernel_rfl)
   change wpList _ _ _ _ _ W.drew
   go_wp2_with (go_at_call 77; refine hd.out.mono ?_; rintro e w' ⟨rfl, rfl⟩)
   go_roundw
   case rel => exact ⟨k + 1, by omega, by go_num, HI2.out⟩
   case measure => simp [intOf]; omega
  ·obtain rfl : k = n := by omega
   obtain ⟨⟨v3, g3⟩, f3, hpost⟩ := sync_end HA.out hI
   have hta : m.loose.take k = m.loose := List.take_of_length_le (by have := HN.out; omega)
   rw [hta] at hpost
   have HP := Lib.hid hpost
   clear hI hpost hta hlt hrow
   go_wp2
   go_ret
   exact HP.out
set_option maxRecDepth 100000 in
theorem sync_empty {F : Nat → Prop} {w w1 : World} {d bn bs cap : Nat} {a : Option Addr} {m : DM} (hup : Runs 76 #[.pointer (some ⟨d, 0, none⟩)] w (.int .i64 0) w) (hs : Runs 112 #[.pointer (some ⟨d, 0, none⟩)] w (.int .i64 0) w1)
  (hA : DiskAt F w1 d bn bs (.slice a 0 cap) m) :
  Calls Tryz.prog 49 #[.pointer (some ⟨d, 0, none⟩)] w (DPost F w1 d (0, { m with sure := m.sure, loose := [] })) := by
 have hI : CInv F w1 w1 bs m.sure := ⟨Keeps.refl _ w1, hA.sure.keep rfl (KeepU8.refl _ _) (fun _ h _ => .inl h)⟩
 obtain ⟨c2, c3, _⟩ := cells_of_cinv hA hI
 obtain ⟨⟨v3, g3⟩, f3, hpost⟩ := sync_end hA hI
 have HP := Lib.hid hpost
 clear hA hI hpost
 go_enter Tryz.func49, Tryz.ntmps49
 go_wp2_with (first | (go_at_call 76; refine hup.out.mono ?_; rintro e w' ⟨rfl, rfl⟩) | (go_at_call 112; refine hs.out.mono ?_; rintro e w' ⟨rfl, rfl⟩))
 refine wp_loop_rounds 1 ?_
 rw [rounds_succ]
 go_wp2_with fail
 go_ret
 exact HP.out
theorem spend_same {m : DM} : (spendOf m).2.now = m.now ∧ (spendOf m).2.sure = m.sure ∧ (spendOf m).2.loose = m.loose ∧ (spendOf m).2.room = m.room := by
 unfold spendOf
 split
 ·exact ⟨rfl, rfl, rfl, rfl⟩
 ·split <;> exact ⟨rfl, rfl, rfl, rfl⟩
theorem sync_calls {F : Nat → Prop} {w : World} {d : Nat} {m : DM} (h : DiskIs F w d m) (hf : m.fuse ≤ 9223372036854775807)
  (hfits : ∀ k c, m.loose[k]? = some c → Fits ((m.loose.take k).foldl doCh m.sure) c) :
  Calls Tryz.prog 49 #[.pointer (some ⟨d, 0, none⟩)] w (DPost F w d (syncOf m)) := by
 have hup := up_runs h
 have hx := h.ext
 unfold upOf at hup
 unfold syncOf
 cases hdn : m.down
 ·rw [hdn] at hup
  simp only [Bool.false_eq_true, if_false] at hup ⊢
  obtain ⟨bn, bs, vl, h⟩ := h
  obtain ⟨w1, hs, h1, k1, z1⟩ := spend_runs h hf
  obtain ⟨e1, e2, e3, e4⟩ := spend_same (m := m)
  by_cases h0 : m.fuse = 0
  ·simp only [h0, if_true]
   rw [show (spendOf m).1 = 5 by simp [spendOf, h0]] at hs
   rw [show (spendOf m).2 = { m with down := true } by simp [spendOf, h0]] at h1
   refine (sync_dead w w1 d hup hs).out.mono ?_
   rintro e w' ⟨rfl, rfl⟩
   exact ⟨rfl, ⟨bn, bs, vl, by simpa [h0] using h1.wider (G := Ext F w w1) (fun b hb => Or.inl hb) (fun b hb => by rcases hb with hb | hb; exact h1.lt b hb; exact hb.2)⟩, k1.mono (fun b _ e => by subst e; exact h.fd)⟩
  ·simp only [h0, if_false]
   rw [show (spendOf m).1 = 0 by simp only [spendOf, h0, if_false]; split <;> rfl] at hs
   have fin : ∀ e w', DPost F w1 d (0, { (spendOf m).2 with sure := m.loose.foldl doCh m.sure, loose := [] }) e w' → DPost F w d (0, synced m) e w' := by
    rintro e w' ⟨he, hd, hk⟩
    refine ⟨he, hd.wider (fun b hb => by rcases hb with hb | hb; exact Or.inl hb; exact Or.inr ⟨by omega, hb.2⟩) (fun b hb => ?_), (k1.mono (fun b _ e => by subst e; exact h.fd)).trans hk (fun _ _ e => e)⟩
    rcases hb with hb | hb
    ·exact hd.lt b (Or.inl hb)
    ·exact hb.2
   obtain ⟨ps, r1, r2, r3⟩ := h1.loose
   have hfits2 : ∀ k c, (spendOf m).2.loose[k]? = some c → Fits (((spendOf m).2.loose.take k).foldl doCh (spendOf m).2.sure) c := by
    rw [e2, e3]; exact hfits
   by_cases hn : m.loose = []
   ·obtain ⟨a, c, rfl⟩ := ownsRow_slice r2
    have h1' : DiskAt F w1 d bn bs (.slice a 0 c) (spendOf m).2 := by
     rw [e3, hn] at h1; exact h1
    refine (sync_empty hup hs h1').mono fun e w' hp => fin e w' ?_
    rw [hn]
    rw [e2] at hp
    exact hp
   ·have hpos : 0 < m.loose.length := List.length_pos_iff.2 hn
    rcases r2.2 with ⟨_, e⟩ | ⟨g, cap, cur, rfl, hg, hb, hnc, hcm, hcs, ht⟩
    ·rw [e3] at e; omega
    ·unfold maxLen at hcm
     refine (sync_some hup hs h1 rfl hnc (by omega) hfits2).mono fun e w' hp => fin e w' ?_
     rw [e2, e3] at hp
     exact hp
 ·rw [hdn] at hup
  simp only [if_true] at hup ⊢
  refine (sync_down w d hup).out.mono ?_
  rintro e w' ⟨rfl, rfl⟩
  exact ⟨rfl, hx, Keeps.refl _ _⟩
end Go.Proofs.YtlcnhpjggjgnpaaGreatDoor
namespace Go.Proofs.YtlcnhpjggjgnpaaGreatDoor
open Go.RowKit Go.MapKept
theorem FNodup.nil : FNodup [] := by simp [FNodup]
theorem FNodup.doCh {fs : FS} (h : FNodup fs) (c : Ch) : FNodup (doCh fs c) := by
 unfold Go.Proofs.YtlcnhpjggjgnpaaGreatDoor.doCh
 split
 ·exact h.fput _ _
 ·split
  ·exact h.fput _ _
  ·split
   ·exact h.fdel _
   ·split
    ·split
     ·exact h.fput _ _
     ·exact (h.fput _ _).fdel _
    ·exact h
theorem FNodup.fold : ∀ (l : List Ch) {fs : FS}, FNodup fs → FNodup (l.foldl Go.Proofs.YtlcnhpjggjgnpaaGreatDoor.doCh fs)
 | [], _, h => h
 | c :: l, _, h => FNodup.fold l (h.doCh c)
theorem used_create {fs : FS} (h : FNodup fs) (n : ByteArray) : used (fput fs n []) ≤ used fs := by
 have := used_fput h n []
 simp only [List.length_nil] at this
 omega
theorem used_remove {fs : FS} (h : FNodup fs) (n : ByteArray) : used (fdel fs n) ≤ used fs := by
 have := used_fdel h n
 omega
theorem used_rename {fs : FS} (h : FNodup fs) (a b : ByteArray) (hab : a ≠ b) : used (fdel (fput fs b ((fget fs a).getD [])) a) ≤ used fs := by
 have h1 := used_fput h b ((fget fs a).getD [])
 have h2 := used_fdel (h.fput b ((fget fs a).getD [])) a
 rw [fget_fput_other h _ _ _ (Ne.symm hab)] at h2
 omega
theorem used_same {fs : FS} (h : FNodup fs) (b : ByteArray) : used (fput fs b ((fget fs b).getD [])) ≤ used fs := by
 have h1 := used_fput h b ((fget fs b).getD [])
 omega
theorem used_append {fs : FS} (h : FNodup fs) (n : ByteArray) (p : List UInt8) : used (fput fs n ((fget fs n).getD [] ++ p)) = used fs + p.length := by
 have h1 := used_fput h n ((fget fs n).getD [] ++ p)
 rw [List.length_append] at h1
 omega
theorem used_doCh {fs : FS} (h : FNodup fs) (c : Ch) (hk : c.kind ≠ 1) : used (doCh fs c) ≤ used fs := by
 unfold doCh
 rw [if_neg hk]
 split
 ·exact used_create h _
 ·split
  ·exact used_remove h _
  ·split
   ·split
    ·rename_i e; rw [e]; exact used_same h _
    ·rename_i e; exact used_rename h _ _ e
   ·exact Nat.le_refl _
theorem used_doCh1 {fs : FS} (h : FNodup fs) (c : Ch) (hk : c.kind = 1) : used (doCh fs c) = used fs + c.p.length := by
 unfold doCh
 rw [if_neg (by omega), if_pos hk]
 exact used_append h _ _
structure Good (m : DM) (n : Nat) : Prop where
 room0 : 0 ≤ m.room
 room1 : m.room ≤ 67108864
 fuse0 : -1 ≤ m.fuse
 fuse : m.fuse ≤ 9223372036854775807
 len : m.loose.length ≤ n
 nsure : FNodup m.sure
 now : m.now = m.loose.foldl doCh m.sure
 used : ∀ k, (used ((m.loose.take k).foldl doCh m.sure) : Int) ≤ m.room
 kinds : ∀ c ∈ m.loose, (0 ≤ c.kind ∧ c.kind ≤ 3) ∧ c.p.length ≤ 1048576
theorem Good.nnow {m : DM} {n : Nat} (h : Good m n) : FNodup m.now := by rw [h.now]; exact FNodup.fold _ h.nsure
theorem Good.unow {m : DM} {n : Nat} (h : Good m n) : (Go.Proofs.YtlcnhpjggjgnpaaGreatDoor.used m.now : Int) ≤ m.room := by
 have := h.used m.loose.length
 rw [List.take_length, ← h.now] at this
 exact this
theorem Good.get {m : DM} {n : Nat} (h : Good m n) (f : ByteArray) : ((fget m.now f).getD []).length ≤ 67108864 := by
 have h1 := used_get h.nnow f
 have h2 := h.unow
 have h3 := h.room1
 omega
theorem Good.mono {m : DM} {n k : Nat} (h : Good m n) (hk : n ≤ k) : Good m k := ⟨h.room0, h.room1, h.fuse0, h.fuse, Nat.le_trans h.len hk, h.nsure, h.now, h.used, h.kinds⟩
theorem Good.fits {m : DM} {n : Nat} (h : Good m n) : ∀ k c, m.loose[k]? = some c → Fits ((m.loose.take k).foldl doCh m.sure) c ∧ ∀ j, Fits ((m.loose.take k).foldl doCh m.sure) { c with p := c.p.take j } := by
 intro k c hc
 obtain ⟨h1, h2⟩ := h.kinds c (List.mem_of_getElem? hc)
 have h3 := h.used k
 have h4 := used_get (FNodup.fold (m.loose.take k) h.nsure) c.a
 have h5 := h.room1
 refine ⟨⟨h1, fun _ => by omega⟩, fun j => ⟨h1, fun _ => ?_⟩⟩
 have : (c.p.take j).length ≤ c.p.length := List.length_take_le' _ _
 simp only
 omega
theorem Good.fits1 {m : DM} {n : Nat} (h : Good m n) : ∀ k c, m.loose[k]? = some c → Fits ((m.loose.take k).foldl doCh m.sure) c := fun k c hc => (h.fits k c hc).1
theorem Good.new {room : Int} (h0 : 0 ≤ room) (h1 : room ≤ 67108864) : Good (newOf room) 0 :=
 ⟨h0, h1, by simp [newOf], by simp [newOf], Nat.le_refl _, FNodup.nil, rfl, fun k => by simp [newOf, Go.Proofs.YtlcnhpjggjgnpaaGreatDoor.used]; exact h0, fun c hc => by simp [newOf] at hc⟩
theorem Good.turn {m : DM} {n : Nat} (h : Good m n) {f : Int} (hf0 : -1 ≤ f) (hf : f ≤ 9223372036854775807) (b : Bool) : Good { m with fuse := f, down := b } n := ⟨h.room0, h.room1, hf0, hf, h.len, h.nsure, h.now, h.used, h.kinds⟩
theorem spend_fuse {m : DM} {n : Nat} (h : Good m n) : -1 ≤ (spendOf m).2.fuse ∧ (spendOf m).2.fuse ≤ 9223372036854775807 := by
 have h1 := h.fuse
 have h2 := h.fuse0
 unfold spendOf
 split
 ·exact ⟨h2, h1⟩
 ·split
  ·simp only; omega
  ·exact ⟨h2, h1⟩
theorem Good.does {m : DM} {n : Nat} (h : Good m n) (c : Ch) (hk : 0 ≤ c.kind ∧ c.kind ≤ 3) (hp : c.p.length ≤ 1048576) (hu : c.kind = 1 → (Go.Proofs.YtlcnhpjggjgnpaaGreatDoor.used m.now : Int) + (c.p.length : Int) ≤ m.room) : Good (doesOf m c).2 (n + 1) := by
 unfold doesOf
 split
 ·exact (h.turn h.fuse0 h.fuse true).mono (Nat.le_succ _)
 ·obtain ⟨e1, e2, e3, e4⟩ := spend_same (m := m)
  obtain ⟨f1, f2⟩ := spend_fuse h
  have hn : doCh m.now c = (m.loose ++ [c]).foldl doCh m.sure := by rw [List.foldl_append, ← h.now]; rfl
  have hun : (Go.Proofs.YtlcnhpjggjgnpaaGreatDoor.used (doCh m.now c) : Int) ≤ m.room := by
   by_cases h1 : c.kind = 1
   ·rw [used_doCh1 h.nnow c h1]; have := hu h1; omega
   ·have := used_doCh h.nnow c h1; have := h.unow; omega
  refine ⟨by rw [e4]; exact h.room0, by rw [e4]; exact h.room1, f1, f2, by simp; exact h.len, by rw [e2]; exact h.nsure, by rw [e2]; exact hn, fun k => ?_, fun c' hc' => ?_⟩
  ·rw [e2, e4]
   simp only
   by_cases hkl : k ≤ m.loose.length
   ·rw [List.take_append_of_le_length hkl]; exact h.used k
   ·rw [List.take_of_length_le (by simp; omega), ← hn]; exact hun
  ·simp only [List.mem_append, List.mem_singleton] at hc'
   rcases hc' with hc' | rfl
   ·exact h.kinds c' hc'
   ·exact ⟨hk, hp⟩
theorem Good.create {m : DM} {n : Nat} (h : Good m n) (f : ByteArray) : Good (createOf m f).2 (n + 1) := by
 have h' := h.mono (Nat.le_succ n)
 unfold createOf
 split
 ·exact h'
 ·split
  ·exact h'
  ·split
   ·exact h'
   ·split
    ·exact h'
    ·exact h.does _ ⟨by simp, by simp⟩ (by simp) (by simp)
theorem Good.remove {m : DM} {n : Nat} (h : Good m n) (f : ByteArray) : Good (removeOf m f).2 (n + 1) := by
 have h' := h.mono (Nat.le_succ n)
 unfold removeOf
 split
 ·exact h.does _ ⟨by simp, by simp⟩ (by simp) (by simp)
 ·exact h'
theorem Good.append {m : DM} {n : Nat} (h : Good m n) (f : ByteArray) (p : List UInt8) : Good (appendOf m f p).2 (n + 1) := by
 have h' := h.mono (Nat.le_succ n)
 unfold appendOf
 split
 ·split
  ·exact h'
  ·split
   ·exact h'
   ·exact h.does _ ⟨by simp, by simp⟩ (by simp only; omega) (by simp only; omega)
 ·exact h'
theorem Good.rename {m : DM} {n : Nat} (h : Good m n) (f g : ByteArray) : Good (renameOf m f g).2 (n + 1) := by
 have h' := h.mono (Nat.le_succ n)
 unfold renameOf
 split
 ·split
  ·exact h'
  ·exact h.does _ ⟨by simp, by simp⟩ (by simp) (by simp)
 ·exact h'
theorem Good.sync {m : DM} {n : Nat} (h : Good m n) : Good (syncOf m).2 n := by
 unfold syncOf
 split
 ·exact h
 ·split
  ·exact h.turn h.fuse0 h.fuse true
  ·obtain ⟨e1, e2, e3, e4⟩ := spend_same (m := m)
   obtain ⟨f1, f2⟩ := spend_fuse h
   unfold synced
   refine ⟨by rw [e4]; exact h.room0, by rw [e4]; exact h.room1, f1, f2, Nat.zero_le _, FNodup.fold _ h.nsure, by rw [e1]; exact h.now, fun k => ?_, fun c hc => by simp at hc⟩
   simp only [List.take_nil, List.foldl_nil]
   rw [← h.now, e4]
   exact h.unow
theorem Good.setFuse {m : DM} {n : Nat} (h : Good m n) (k : Int) (hk : k ≤ 9223372036854775807) : Good (fuseOf m k).2 n := by
 unfold fuseOf
 split
 ·exact h
 ·simp only
  split
  ·exact h.turn (b := m.down) (by omega) (by omega)
  ·exact h.turn (b := m.down) (by omega) hk
theorem crash_used {m : DM} {n : Nat} (h : Good m n) (keep part : Int) : FNodup (crashFs m keep part) ∧ (Go.Proofs.YtlcnhpjggjgnpaaGreatDoor.used (crashFs m keep part) : Int) ≤ m.room := by
 unfold crashFs
 have h1 := FNodup.fold (m.loose.take (clampI keep m.loose.length)) h.nsure
 have h2 := h.used (clampI keep m.loose.length)
 simp only
 cases hc : m.loose[clampI keep m.loose.length]? with
 | none => exact ⟨h1, h2⟩
 | some c =>
  simp only
  split
  ·rename_i hk
   refine ⟨h1.doCh _, ?_⟩
   have h3 := h.used (clampI keep m.loose.length + 1)
   rw [List.take_add_one, hc, List.foldl_append] at h3
   simp only [Option.toList_some, List.foldl_cons, List.foldl_nil] at h3
   rw [used_doCh1 h1 c hk] at h3
   have h5 := used_doCh1 h1 ({ c with p := c.p.take (clampI part c.p.length) } : Ch) hk
   have h6 : (c.p.take (clampI part c.p.length)).length ≤ c.p.length := List.length_take_le' _ _
   simp only at h5
   rw [h5]
   omega
  ·exact ⟨h1, h2⟩
theorem Good.crash {m : DM} {n : Nat} (h : Good m n) (keep part : Int) : Good (crashOf m keep part) 0 := by
 obtain ⟨h1, h2⟩ := crash_used h keep part
 exact ⟨h.room0, h.room1, by simp [crashOf, crashed], by simp [crashOf, crashed], Nat.le_refl _, h1, rfl, fun k => by simpa [crashOf, crashed] using h2, fun c hc => by simp [crashOf, crashed] at hc⟩
theorem Good.loose {m : DM} {n : Nat} (h : Good m n) (hn : n < 1099511627776) : m.loose.length < 1099511627776 := Nat.lt_of_le_of_lt h.len hn
structure Res (B : Nat) where
 is : (Nat → Prop) → World → Prop
 keep : ∀ (F : Nat → Prop) (w w' : World), is F w → (∀ b, F b ∨ b < B → w'.heap[b]? = w.heap[b]?) → is F w'
def ResAt (B : Nat) (w : World) (F : Nat → Prop) (r : Res B) : Prop := r.is F w ∧ ∀ b, F b → B ≤ b ∧ b < w.heap.size
def Apart (F G : Nat → Prop) : Prop := ∀ b, F b → ¬ G b
def Own (w wr : World) (rs : List (Res w.heap.size)) : Prop :=
 Keeps (fun _ => False) w wr ∧ ∃ Fs : List (Nat → Prop), Rel2 (ResAt w.heap.size wr) Fs rs ∧ Fs.Pairwise Apart
theorem ResAt.keeps {B : Nat} {w w' : World} {F G : Nat → Prop} {r : Res B} (h : ResAt B w G r) (hB : B ≤ w.heap.size) (hk : Keeps F w w') (hF : ∀ b, F b → B ≤ b) (hd : ∀ b, G b → ¬ F b) : ResAt B w' G r :=
 ⟨r.keep G w w' h.1 (fun b hb => hk.block b (by rcases hb with hb | hb; exact (h.2 b hb).2; omega) (fun e => by rcases hb with hb | hb; exact hd b hb e; have := hF b e; omega)), fun b hb => ⟨(h.2 b hb).1, Nat.lt_of_lt_of_le (h.2 b hb).2 hk.size⟩⟩
theorem rel_keeps {B : Nat} {w w' : World} {F : Nat → Prop} (hB : B ≤ w.heap.size) (hk : Keeps F w w') (hF : ∀ b, F b → B ≤ b) : ∀ {Gs : List (Nat → Prop)} {rs : List (Res B)}, Rel2 (ResAt B w) Gs rs → (∀ G ∈ Gs, ∀ b, G b → ¬ F b) → Rel2 (ResAt B w') Gs rs
 | [], [], _, _ => trivial
 | _ :: _, _ :: _, h, hd => ⟨h.1.keeps hB hk hF (hd _ (List.mem_cons_self ..)), rel_keeps hB hk hF h.2 (fun G hG => hd G (List.mem_cons_of_mem _ hG))⟩
 | [], _ :: _, h, _ => h.elim
 | _ :: _, [], h, _ => h.elim
theorem rel_bound {B : Nat} {w : World} : ∀ {Gs : List (Nat → Prop)} {rs : List (Res B)}, Rel2 (ResAt B w) Gs rs → ∀ G ∈ Gs, ∀ b, G b → B ≤ b ∧ b < w.heap.size
 | [], [], _, G, hG, _, _ => by simp at hG
 | F :: Gs, r :: rs, h, G, hG, b, hb => by
  rcases List.mem_cons.1 hG with rfl | hG
  ·exact h.1.2 b hb
  ·exact rel_bound h.2 G hG b hb
 | [], _ :: _, h, _, _, _, _ => h.elim
 | _ :: _, [], h, _, _, _, _ => h.elim
theorem Own.start (w : World) : Own w w [] := ⟨Keeps.refl _ _, [], trivial, List.Pairwise.nil⟩
theorem Own.keeps {w wr : World} {rs : List (Res w.heap.size)} (h : Own w wr rs) : Keeps (fun _ => False) w wr := h.1
theorem Own.quiet {w wr w' : World} {rs : List (Res w.heap.size)} (h : Own w wr rs) (hk : Keeps (fun _ => False) wr w') : Own w w' rs := by
 obtain ⟨k, Fs, hr, hp⟩ := h
 exact ⟨k.trans hk (fun _ _ e => e), Fs, rel_keeps k.size hk (fun _ e => e.elim) hr (fun _ _ _ _ e => e), hp⟩
theorem Own.open1 {w wr : World} {r : Res w.heap.size} {rs : List (Res w.heap.size)} (h : Own w wr (r :: rs)) :
  ∃ F : Nat → Prop, r.is F wr ∧ (∀ b, F b → w.heap.size ≤ b ∧ b < wr.heap.size) ∧ ∀ (w' : World) (r' : Res w.heap.size), Keeps F wr w' → r'.is (Ext F wr w') w' → Own w w' (r' :: rs) := by
 obtain ⟨k, Fs, hr, hp⟩ := h
 match Fs, hr, hp with
 | F :: Gs, hr, hp =>
  have hp' := List.pairwise_cons.1 hp
  refine ⟨F, hr.1.1, hr.1.2, fun w' r' hk h' => ⟨k.trans hk (fun b hb e => by have := (hr.1.2 b e).1; omega), Ext F wr w' :: Gs, ⟨⟨h', fun b hb => ?_⟩, rel_keeps k.size hk (fun b e => (hr.1.2 b e).1) hr.2 (fun G hG b hb e => hp'.1 G hG b e hb)⟩, List.pairwise_cons.2 ⟨fun G hG b hb e => ?_, hp'.2⟩⟩⟩
  ·have := k.size
   have := hk.size
   rcases hb with hb | hb
   ·have := hr.1.2 b hb; omega
   ·omega
  ·rcases hb with hb | hb
   ·exact hp'.1 G hG b hb e
   ·have := rel_bound hr.2 G hG b e; omega
theorem Own.open2 {w wr : World} {r s : Res w.heap.size} {rs : List (Res w.heap.size)} (h : Own w wr (r :: s :: rs)) :
  ∃ F G : Nat → Prop, r.is F wr ∧ s.is G wr ∧ Apart F G ∧ (∀ b, F b → w.heap.size ≤ b ∧ b < wr.heap.size) ∧ (∀ b, G b → w.heap.size ≤ b ∧ b < wr.heap.size) ∧
   ∀ (w' : World) (r' s' : Res w.heap.size) (F' G' : Nat → Prop), Keeps (fun b => F b ∨ G b) wr w' → r'.is F' w' → s'.is G' w' → (∀ b, F' b → Ext (fun b => F b ∨ G b) wr w' b) → (∀ b, G' b → Ext (fun b => F b ∨ G b) wr w' b) → Apart F' G' → Own w w' (r' :: s' :: rs) := by
 obtain ⟨k, Fs, hr, hp⟩ := h
 match Fs, hr, hp with
 | F :: G :: Gs, hr, hp =>
  have hp1 := List.pairwise_cons.1 hp
  have hp2 := List.pairwise_cons.1 hp1.2
  have hFG : ∀ b, (F b ∨ G b) → w.heap.size ≤ b ∧ b < wr.heap.size := fun b hb => by rcases hb with hb | hb; exact hr.1.2 b hb; exact hr.2.1.2 b hb
  have hapart : ∀ H ∈ Gs, ∀ b, (F b ∨ G b) → ¬ H b := fun H hH b hb => by rcases hb with hb | hb; exact hp1.1 H (List.mem_cons_of_mem _ hH) b hb; exact hp2.1 H hH b hb
  refine ⟨F, G, hr.1.1, hr.2.1.1, hp1.1 G (List.mem_cons_self ..), hr.1.2, hr.2.1.2, fun w' r' s' F' G' hk h1 h2 e1 e2 ha => ⟨k.trans hk (fun b hb e => by have := (hFG b e).1; omega), F' :: G' :: Gs, ⟨⟨h1, ?_⟩, ⟨h2, ?_⟩, rel_keeps k.size hk (fun b e => (hFG b e).1) hr.2.2 (fun H hH b hb e => hapart H hH b e hb)⟩, List.pairwise_cons.2 ⟨fun H hH => ?_, List.pairwise_cons.2 ⟨fun H hH => ?_, hp2.2⟩⟩⟩⟩
  ·intro b hb
   have := k.size
   have := hk.size
   rcases e1 b hb with hb | hb
   ·have := hFG b hb; omega
   ·omega
  ·intro b hb
   have := k.size
   have := hk.size
   rcases e2 b hb with hb | hb
   ·have := hFG b hb; omega
   ·omega
  ·rcases List.mem_cons.1 hH with rfl | hH
   ·exact ha
   ·intro b hb e
    rcases e1 b hb with hb | hb
    ·exact hapart H hH b hb e
    ·have := rel_bound hr.2.2 H hH b e; omega
  ·intro b hb e
   rcases e2 b hb with hb | hb
   ·exact hapart H hH b hb e
   ·have := rel_bound hr.2.2 H hH b e; omega
theorem Own.add {w wr w' : World} {rs : List (Res w.heap.size)} (h : Own w wr rs) (hk : Keeps (fun _ => False) wr w') {r : Res w.heap.size} {G : Nat → Prop} (hr : r.is G w') (hG : ∀ b, G b → wr.heap.size ≤ b ∧ b < w'.heap.size) : Own w w' (r :: rs) := by
 obtain ⟨k, Fs, hrs, hp⟩ := h
 have hz := k.size
 exact ⟨k.trans hk (fun _ _ e => e), G :: Fs, ⟨⟨hr, fun b hb => by have := hG b hb; omega⟩, rel_keeps hz hk (fun _ e => e.elim) hrs (fun _ _ _ _ e => e)⟩, List.pairwise_cons.2 ⟨fun H hH b hb e => by have := rel_bound hrs H hH b e; have := hG b hb; omega, hp⟩⟩
theorem Own.drop {w wr : World} {r : Res w.heap.size} {rs : List (Res w.heap.size)} (h : Own w wr (r :: rs)) : Own w wr rs := by
 obtain ⟨k, Fs, hr, hp⟩ := h
 match Fs, hr, hp with
 | F :: Gs, hr, hp => exact ⟨k, Gs, hr.2, (List.pairwise_cons.1 hp).2⟩
theorem rel_perm {α β : Type} {R : α → β → Prop} {rs rs' : List β} (h : rs.Perm rs') : ∀ {Fs : List α}, Rel2 R Fs rs → ∃ Fs' : List α, Fs.Perm Fs' ∧ Rel2 R Fs' rs' := by
 induction h with
 | nil => intro Fs hr; exact ⟨Fs, List.Perm.refl _, hr⟩
 | cons x _ ih =>
  intro Fs hr
  match Fs, hr with
  | F :: Gs, hr =>
   obtain ⟨Gs', hp, hr'⟩ := ih hr.2
   exact ⟨F :: Gs', hp.cons F, hr.1, hr'⟩
 | swap x y l =>
  intro Fs hr
  match Fs, hr with
  | F :: G :: Gs, hr => exact ⟨G :: F :: Gs, List.Perm.swap .., hr.2.1, hr.1, hr.2.2⟩
 | trans _ _ h1 h2 =>
  intro Fs hr
  obtain ⟨F1, p1, r1⟩ := h1 hr
  obtain ⟨F2, p2, r2⟩ := h2 r1
  exact ⟨F2, p1.trans p2, r2⟩
theorem Own.perm {w wr : World} {rs rs' : List (Res w.heap.size)} (h : Own w wr rs) (hp : rs.Perm rs') : Own w wr rs' := by
 obtain ⟨k, Fs, hr, ha⟩ := h
 obtain ⟨Fs', p, hr'⟩ := rel_perm hp hr
 exact ⟨k, Fs', hr', (p.pairwise_iff (fun h b hb e => h b e hb)).1 ha⟩
theorem Own.swap {w wr : World} {r s : Res w.heap.size} {rs : List (Res w.heap.size)} (h : Own w wr (r :: s :: rs)) : Own w wr (s :: r :: rs) := h.perm (List.Perm.swap ..)
theorem Own.third {w wr : World} {r s t : Res w.heap.size} {rs : List (Res w.heap.size)} (h : Own w wr (r :: s :: t :: rs)) : Own w wr (t :: r :: s :: rs) :=
 h.perm ((List.Perm.cons r (List.Perm.swap ..)).trans (List.Perm.swap ..))
theorem Own.head {w wr : World} {r : Res w.heap.size} {rs : List (Res w.heap.size)} (h : Own w wr (r :: rs)) : ∃ F : Nat → Prop, r.is F wr ∧ ∀ b, F b → w.heap.size ≤ b ∧ b < wr.heap.size := by
 obtain ⟨F, h1, h2, _⟩ := h.open1
 exact ⟨F, h1, h2⟩
theorem Own.view {w wr : World} {r r' : Res w.heap.size} {rs : List (Res w.heap.size)} (h : Own w wr (r :: rs)) (hv : ∀ F : Nat → Prop, (∀ b, F b → w.heap.size ≤ b ∧ b < wr.heap.size) → r.is F wr → r'.is F wr) : Own w wr (r' :: rs) := by
 obtain ⟨k, Fs, hr, hp⟩ := h
 match Fs, hr, hp with
 | F :: Gs, hr, hp => exact ⟨k, F :: Gs, ⟨⟨hv F hr.1.2 hr.1.1, hr.1.2⟩, hr.2⟩, hp⟩
def rDisk (B d : Nat) (m : DM) : Res B := ⟨fun F w => DiskIs F w d m, fun _ _ _ h hk => h.keep (fun b hb => hk b (.inl hb))⟩
def DOwn (w : World) (d : Nat) (rs : List (Res w.heap.size)) (r : Int × DM) (e : Ending) (w' : World) : Prop := e = .returned (.int .i64 r.1) ∧ Own w w' (rDisk w.heap.size d r.2 :: rs)
theorem Own.disk {w wr : World} {d : Nat} {m : DM} {rs : List (Res w.heap.size)} (h : Own w wr (rDisk w.heap.size d m :: rs)) : ∃ F : Nat → Prop, DiskIs F wr d m ∧ ∀ (r : Int × DM) (e : Ending) (w' : World), DPost F wr d r e w' → DOwn w d rs r e w' := by
 obtain ⟨F, h1, h2, back⟩ := h.open1
 exact ⟨F, h1, fun r e w' hp => ⟨hp.1, back w' (rDisk _ d r.2) hp.2.2 hp.2.1⟩⟩
theorem Own.nodup {w wr : World} {d : Nat} {m : DM} {rs : List (Res w.heap.size)} (h : Own w wr (rDisk w.heap.size d m :: rs)) : FNodup m.now := by
 obtain ⟨F, h1, _⟩ := h.disk
 exact h1.nodup
theorem Own.new {w wr : World} {rs : List (Res w.heap.size)} (h : Own w wr rs) (room : Int) (h0 : 0 ≤ room) (h1 : room ≤ 67108864) :
  ∃ d w', Runs 17 #[.int .i64 room] wr (.tuple #[.pointer (some ⟨d, 0, none⟩), .int .i64 0]) w' ∧ Own w w' (rDisk w.heap.size d (newOf room) :: rs) := by
 obtain ⟨d, w', hr, hd, k⟩ := new_runs wr room h0 h1
 exact ⟨d, w', hr, h.add k (r := rDisk _ d (newOf room)) hd (fun b hb => by rcases hb with hb | hb; exact hb.elim; exact hb)⟩
section
variable {w wr : World} {d : Nat} {m : DM} {rs : List (Res w.heap.size)}
theorem Own.create (h : Own w wr (rDisk w.heap.size d m :: rs)) (n : ByteArray) (hf : m.fuse ≤ 9223372036854775807) (hl : m.loose.length < 1099511627776) :
  ∃ w', Runs 41 #[.pointer (some ⟨d, 0, none⟩), .string n] wr (.int .i64 (createOf m n).1) w' ∧ Own w w' (rDisk w.heap.size d (createOf m n).2 :: rs) := by
 obtain ⟨F, h1, back⟩ := h.disk
 obtain ⟨w', hr, h2, k⟩ := create_runs h1 n hf hl
 exact ⟨w', hr, (back _ (.returned (.int .i64 (createOf m n).1)) w' ⟨rfl, h2, k⟩).2⟩
theorem Own.remove (h : Own w wr (rDisk w.heap.size d m :: rs)) (n : ByteArray) (hf : m.fuse ≤ 9223372036854775807) (hl : m.loose.length < 1099511627776) :
  ∃ w', Runs 45 #[.pointer (some ⟨d, 0, none⟩), .string n] wr (.int .i64 (removeOf m n).1) w' ∧ Own w w' (rDisk w.heap.size d (removeOf m n).2 :: rs) := by
 obtain ⟨F, h1, back⟩ := h.disk
 obtain ⟨w', hr, h2, k⟩ := remove_runs h1 n hf hl
 exact ⟨w', hr, (back _ (.returned (.int .i64 (removeOf m n).1)) w' ⟨rfl, h2, k⟩).2⟩
theorem Own.append (h : Own w wr (rDisk w.heap.size d m :: rs)) (n : ByteArray) {pv : Value} {p : List UInt8} (hp : Reads wr pv p)
  (hr0 : 0 ≤ m.room) (hr1 : m.room ≤ 67108864) (hu : (used m.now : Int) ≤ m.room) (hf : m.fuse ≤ 9223372036854775807) (hl : m.loose.length < 1099511627776) :
  Calls Tryz.prog 48 #[.pointer (some ⟨d, 0, none⟩), .string n, pv] wr (DOwn w d rs (appendOf m n p)) := by
 have hnd := h.nodup
 obtain ⟨F, h1, back⟩ := h.disk
 exact (append_calls h1 n hp hr0 hr1 hu (used_get hnd n) hf hl).mono fun _ _ hp => back _ _ _ hp
theorem Own.sync (h : Own w wr (rDisk w.heap.size d m :: rs)) (hf : m.fuse ≤ 9223372036854775807)
  (hfits : ∀ k c, m.loose[k]? = some c → Fits ((m.loose.take k).foldl doCh m.sure) c) :
  Calls Tryz.prog 49 #[.pointer (some ⟨d, 0, none⟩)] wr (DOwn w d rs (syncOf m)) := by
 obtain ⟨F, h1, back⟩ := h.disk
 exact (sync_calls h1 hf hfits).mono fun _ _ hp => back _ _ _ hp
theorem Own.crash (h : Own w wr (rDisk w.heap.size d m :: rs)) (keep part : Int)
  (hfits : ∀ k c, m.loose[k]? = some c → Fits ((m.loose.take k).foldl doCh m.sure) c ∧ ∀ j, Fits ((m.loose.take k).foldl doCh m.sure) { c with p := c.p.take j }) :
  Calls Tryz.prog 30 #[.pointer (some ⟨d, 0, none⟩), .int .i64 keep, .int .i64 part] wr (DOwn w d rs (0, crashOf m keep part)) := by
 obtain ⟨F, h1, back⟩ := h.disk
 exact (crash_calls h1 keep part hfits).mono fun _ _ hp => back _ _ _ hp
theorem Own.read (h : Own w wr (rDisk w.heap.size d m :: rs)) (n : ByteArray) (at_ k : Int) (hlen : ((fget m.now n).getD []).length ≤ 140737488355328) :
  ∃ v w', Runs 55 #[.pointer (some ⟨d, 0, none⟩), .string n, .int .i64 at_, .int .i64 k] wr (.tuple #[v, .int .i64 (readCode m n at_ k)]) w' ∧ Bytes (fun b => wr.heap.size ≤ b) w' v (readBytes m n at_ k) ∧ Keeps (fun _ => False) wr w' ∧ Own w w' (rDisk w.heap.size d m :: rs) := by
 obtain ⟨F, h1, _⟩ := h.disk
 obtain ⟨v, w', hr, hB, kk⟩ := read_runs h1 n at_ k hlen
 exact ⟨v, w', hr, hB, kk, h.quiet kk⟩
end
def NPost (R : Int → World → Prop) (e : Ending) (w' : World) : Prop := ∃ r : Int, e = .returned (.int .i64 r) ∧ R r w'
def StepOk (N R : Prop) (n : Int) : Prop := (n = 0 → N) ∧ (¬ n = 0 → R)
set_option maxRecDepth 100000 in
theorem steps_calls {w : World} (g n c : Nat) (fid : Nat → FuncId) (fst cap : Nat → Array Value) (I : Nat → World → Prop) (R : Int → World → Prop) (hn : n ≤ 1000) (h0 : I 0 w)
  (hent : ∀ k args w', (callFunc (fid k) args).run Tryz.prog w' = .ok (.enter (fid k) args) w')
  (hcell : ∀ k w', k < n → I k w' → w'.cell? ⟨g, k, none⟩ = some (.func (.func (fid k)) (fst k) (cap k)))
  (hstep : ∀ k w', k < n → I k w' → Calls Tryz.prog (fid k) (fst k ++ cap k) w' (NPost (fun r w'' => StepOk (I (k + 1) w'') (R r w'') r)))
  (hend : ∀ w', I n w' → R 0 w') : Calls Tryz.prog 117 #[.slice (some ⟨g, 0, none⟩) n c] w (NPost R) := by
 have HC := Lib.hid hcell
 have HS := Lib.hid hstep
 have HE := Lib.hid hend
 have HN := Lib.hid hent
 clear hcell hstep hend hent
 go_enter Tryz.func117, Tryz.ntmps117
 go_wp2_with fail
 go_loopw [8] (fun i wr => ∃ k : Nat, k ≤ n ∧ i = .int .i64 (k : Int) ∧ I k wr) (fun i _ => n - (intOf i).toNat)
 case atStart => exact ⟨0, Nat.zero_le _, rfl, h0⟩
 case round =>
  obtain ⟨k, hk, rfl, hI⟩ := hrel
  clear h0
  by_cases hlt : k < n
  ·have hc := HC.out k wr hlt hI
   have hs := Lib.hid (HS.out k wr hlt hI)
   have j0 : (0 : Int) ≤ k := by omega
   have j1 : (k : Int) < n := by omega
   have he := HN.out k (fst k ++ cap k) wr
   generalize fid k = fi at hc hs he
   generalize fst k = fs at hc hs he
   generalize cap k = ca at hc hs he
   have HI := Lib.hid hI
   clear hI
   go_wp2_with fail
   refine hs.out.mono ?_
   rintro e w1 ⟨r, rfl, h1, h2⟩
   by_cases hr : r = 0
   ·have H1 := Lib.hid (h1 hr)
    subst hr
    clear h1 h2 hs he hc
    go_wp2_with fail
    go_roundw
    case rel => exact ⟨k + 1, by omega, rfl, H1.out⟩
    case measure => simp [intOf]; omega
   ·have H2 := Lib.hid (h2 hr)
    clear h1 h2 hs he hc
    go_wp2_with fail
    go_ret
    exact ⟨_, rfl, H2.out⟩
  ·obtain rfl : k = n := by omega
   have hE := Lib.hid (HE.out wr hI)
   clear hlt hk hI
   go_wp2_with fail
   go_ret
   exact ⟨_, rfl, hE.out⟩
theorem rel_mem {α β : Type} {R : α → β → Prop} : ∀ {Fs : List α} {rs : List β}, Rel2 R Fs rs → ∀ r ∈ rs, ∃ F ∈ Fs, R F r
 | F :: Fs, s :: rs, h, r, hr => by
  rcases List.mem_cons.1 hr with rfl | hr
  ·exact ⟨F, List.mem_cons_self .., h.1⟩
  ·obtain ⟨G, hG, h2⟩ := rel_mem h.2 r hr
   exact ⟨G, List.mem_cons_of_mem _ hG, h2⟩
 | _, [], _, r, hr => by simp at hr
 | [], _ :: _, h, _, _ => h.elim
theorem Own.mem {w wr : World} {rs : List (Res w.heap.size)} (h : Own w wr rs) {r : Res w.heap.size} (hr : r ∈ rs) : ∃ F : Nat → Prop, r.is F wr ∧ ∀ b, F b → w.heap.size ≤ b ∧ b < wr.heap.size := by
 obtain ⟨k, Fs, h1, h2⟩ := h
 obtain ⟨F, hF, h3, h4⟩ := rel_mem h1 r hr
 exact ⟨F, h3, h4⟩
def rObj (B b : Nat) (o : Obj) : Res B := ⟨fun F w => F b ∧ w.heap[b]? = some o, fun _ _ _ h hk => ⟨h.1, (hk _ (.inl h.1)).trans h.2⟩⟩
theorem Own.at {w wr : World} {rs : List (Res w.heap.size)} (h : Own w wr rs) {b : Nat} {o : Obj} (hr : rObj w.heap.size b o ∈ rs) : wr.heap[b]? = some o ∧ w.heap.size ≤ b ∧ b < wr.heap.size := by
 obtain ⟨F, h1, h2⟩ := h.mem hr
 exact ⟨h1.2, h2 b h1.1⟩
theorem Own.alloc {w wr : World} {rs : List (Res w.heap.size)} (h : Own w wr rs) (o : Obj) : Own w (wr.alloc o) (rObj w.heap.size wr.heap.size o :: rs) :=
 h.add ((Keeps.refl _ wr).alloc o) (r := rObj _ wr.heap.size o) (G := fun b => b = wr.heap.size) ⟨rfl, heap_alloc_new wr o⟩ (fun b hb => by simp; omega)
theorem Own.alloc2 {w wr : World} {r : Res w.heap.size} {rs : List (Res w.heap.size)} (h : Own w wr (r :: rs)) (o : Obj) : Own w (wr.alloc o) (r :: rObj w.heap.size wr.heap.size o :: rs) := (h.alloc o).swap
theorem Own.drew {w wr : World} {rs : List (Res w.heap.size)} (h : Own w wr rs) : Own w wr.drew rs := h.quiet (Keeps.refl _ wr).drew
theorem Own.store {w wr : World} {rs : List (Res w.heap.size)} {b : Nat} {cs : Array Value} {t : TypeId} (h : Own w wr (rObj w.heap.size b (.cells cs t (0, 0)) :: rs)) (i : Nat) (u : Value) :
  Own w (wr.setCell ⟨b, i, none⟩ u) (rObj w.heap.size b (.cells (cs.setIfInBounds i u) t (0, 0)) :: rs) := by
 obtain ⟨F, h1, h2, back⟩ := h.open1
 exact back _ (rObj _ b (.cells (cs.setIfInBounds i u) t (0, 0))) ((Keeps.refl F wr).setCell (fun _ => h1.1) u) ⟨.inl h1.1, heap_setCell_eq h1.2 i u⟩
theorem Own.drop2 {w wr : World} {r s : Res w.heap.size} {rs : List (Res w.heap.size)} (h : Own w wr (r :: s :: rs)) : Own w wr (r :: rs) := h.swap.drop
theorem Own.drop_two {w wr : World} {r s t : Res w.heap.size} {rs : List (Res w.heap.size)} (h : Own w wr (r :: s :: t :: rs)) : Own w wr (r :: rs) := h.drop2.drop2
def rBytes (B : Nat) (v : Value) (l : List UInt8) : Res B :=
 ⟨fun F w => w.ownsRow 0 5 1 v l.length (l.map u8v) ∧ ∀ b, v.ownBlock = some b → F b, fun _ _ _ h hk => ⟨by
  obtain ⟨⟨h1, h2⟩, h3⟩ := h
  refine ⟨h1, ?_⟩
  rcases h2 with h2 | ⟨g, cap, cur, rfl, hg, hb, h4, h5, h6, h7⟩
  ·exact .inl h2
  ·exact .inr ⟨g, cap, cur, rfl, hg, (hk g (.inl (h3 g rfl))).trans hb, h4, h5, h6, h7⟩, h.2⟩⟩
theorem Own.nilBytes {w wr : World} {rs : List (Res w.heap.size)} (h : Own w wr rs) : Own w wr (rBytes w.heap.size (.slice none 0 0) [] :: rs) :=
 h.add (Keeps.refl _ wr) (r := rBytes _ (.slice none 0 0) []) (G := fun _ => False) ⟨⟨rfl, .inl ⟨rfl, rfl⟩⟩, fun b hb => by cases hb⟩ (fun _ hb => hb.elim)
theorem Own.bytes {w wr : World} {rs : List (Res w.heap.size)} {v : Value} {l : List UInt8} (h : Own w wr rs) (hm : rBytes w.heap.size v l ∈ rs) : Reads wr v l ∧ ∃ a c, v = .slice a l.length c ∧ l.length ≤ c ∧ c ≤ maxLen := by
 obtain ⟨F, h1, h2⟩ := h.mem hm
 have hB : Bytes (fun b => 0 ≤ b) wr v l := bytes_of_owns h1.1
 exact ⟨hB.reads, hB.form⟩
theorem Own.grow {w wr : World} {rs : List (Res w.heap.size)} {v : Value} {l : List UInt8} (h : Own w wr (rBytes w.heap.size v l :: rs)) {pv : Value} {p : List UInt8} (hp : Reads wr pv p) (hb : l.length + p.length ≤ 140737488355328) :
  ∃ v' w', (Builtin.append_ #[22, 22] 22 #[v, pv]).run Tryz.prog wr = .ok v' w' ∧ Own w w' (rBytes w.heap.size v' (l ++ p) :: rs) := by
 obtain ⟨F, h1, h2, back⟩ := h.open1
 obtain ⟨i0, hi, hz0, hz1, hz2⟩ := info_parts info_u8
 rcases hp with ⟨rfl, rfl⟩ | ⟨x, c, rfl, k1, k2, k3⟩
 ·refine ⟨v, wr, append_none 22 22 22 5 i0 Tryz.underlying22 Tryz.underlying22 hi (by rw [hz1]) (bytes_of_owns h1.1) (.inl ⟨rfl, rfl⟩), ?_⟩
  rw [List.append_nil]; exact h
 ·obtain ⟨v', w', hrun, ho2, hg, _, hat⟩ := run_append_own_at (P := Tryz.prog) wr 0 22 22 5 i0 _ 1 1 Tryz.underlying22 hi hz0 hz1 hz2 (by rfl) (by omega) v l.length (l.map u8v) h1.1 x p.length c (p.map u8v) (by simp) k3 (u8v_one _) (by unfold maxLen; omega) (by omega) (Nat.zero_le _)
  rw [← List.map_append, ← List.length_append] at ho2
  refine ⟨v', w', hrun, back w' (rBytes _ v' (l ++ p)) ((Keeps.of_grown hg).mono (fun b hb e => h1.2 b e)) ⟨ho2, fun b hb => ?_⟩⟩
  have hlt := (row_lt ho2 b hb).1
  rcases hat with hat | hat
  ·rw [hat] at hb; exact .inl (h1.2 b hb)
  ·rw [hat] at hb; cases hb; exact .inr ⟨Nat.le_refl _, hlt⟩
theorem Own.addBytes {w wr w' : World} {rs : List (Res w.heap.size)} (h : Own w wr rs) {v : Value} {l : List UInt8} (ho : Owns w' wr.heap.size v l) (hk : Keeps (fun _ => False) wr w') : Own w w' (rBytes w.heap.size v l :: rs) :=
 h.add hk (r := rBytes _ v l) (G := fun b => v.ownBlock = some b) ⟨row_base ho (Nat.zero_le _), fun b hb => hb⟩ (fun b hb => by have := owns_lt ho b hb; omega)
def RowsIn (w : World) (v : Value) (ll : List (List UInt8)) : Prop :=
 ∃ a c, v = .slice a ll.length c ∧ ∀ (i : Nat) (l : List UInt8), ll[i]? = some l → ∃ x p, a = some x ∧ w.cell? (x.add i) = some p ∧ Reads w p l
theorem enters_at {f : FuncId} {fn : Func} {c : Code} (hf : Tryz.prog.funcs[f]? = some fn) (hname : (fn.name == "runtime.NumGoroutine") = false) (hb : fn.body = some c) (args : Array Value) (w : World) : (callFunc f args).run Tryz.prog w = .ok (.enter f args) w := by
 have h1 : fn.name ≠ "runtime.NumGoroutine" := by simpa using hname
 simp [callFunc, hf, h1, hb, mark]
theorem in_u8 {n : Int} (h : (Lit.int .u8 n).wf = true) : u8v (UInt8.ofNat n.toNat) = .int .u8 n ∧ 0 ≤ n ∧ n ≤ 255 := by
 have h2 : 0 ≤ n ∧ n ≤ 255 := by simpa [Lit.wf, IntKind.min, IntKind.max, IntKind.signed, IntKind.bits] using h
 refine ⟨?_, h2⟩
 unfold u8v
 rw [UInt8.toNat_ofNat']
 congr 1
 omega
theorem in_ints {w : World} {A : Option Addr} {L C : Nat} {zs : List Int} (h1 : L ≤ C) (h2 : C ≤ maxLen) (h3 : L ≤ zs.length) (h4 : ∀ n ∈ zs, (Lit.int .u8 n).wf = true) (h5 : A = none → C = 0)
  (h6 : ∀ a', A = some a' → ∀ c, c < L → w.cell? (a'.add c) = some (.int .u8 (zs.getD c 0))) : ∃ p : List UInt8, p.length = L ∧ Reads w (.slice A L C) p := by
 refine ⟨(zs.take L).map (fun n => UInt8.ofNat n.toNat), by simp; omega, ?_⟩
 cases A with
 | none =>
  have := h5 rfl
  obtain rfl : C = 0 := this
  obtain rfl : L = 0 := by omega
  exact .inl ⟨rfl, by simp⟩
 | some a =>
  have hlen : ((zs.take L).map (fun n => UInt8.ofNat n.toNat)).length = L := by simp; omega
  refine .inr ⟨a, C, by rw [hlen], by omega, h2, fun j u hu => ?_⟩
  have hj : j < L := by
   have := (List.getElem?_eq_some_iff.1 hu).1
   simp at this; omega
  have hz : zs[j]? = some (zs.getD j 0) := by
   rw [List.getD_eq_getElem?_getD, List.getElem?_eq_getElem (by omega)]; rfl
  rw [List.getElem?_map, List.getElem?_map, List.getElem?_take, if_pos hj, hz] at hu
  simp only [Option.map_some, Option.some.injEq] at hu
  rw [← hu, (in_u8 (h4 _ (List.mem_of_getElem? hz))).1]
  exact h6 a rfl j hj
variable {H : Type} {enc : TypeId × Value → H}
theorem in_bytes {W : World} {a : Option Addr} {len cap : Nat} {d : DataW H} {p : List MemPlace} (h : DataW.Trod enc Tryz.prog W 0 (fun _ => true) true 22 (.slice a len cap) d p) :
  ∃ l : List UInt8, l.length = len ∧ Reads W (.slice a len cap) l := by
 obtain ⟨fuel, hf⟩ := h
 rcases Go.ChangeShapes.open_ints Tryz.underlying22 Tryz.underlying5 (by kernel_rfl) hf with ⟨hcs, _⟩ | ⟨x, l, c, zs, hcs, _, hl, hm, hz, _, hcell, hwz⟩
 ·simp [Value.cells] at hcs
  obtain ⟨rfl, rfl, rfl⟩ := hcs
  exact ⟨[], rfl, .inl ⟨rfl, rfl⟩⟩
 ·simp [Value.cells] at hcs
  obtain ⟨rfl, rfl, rfl⟩ := hcs
  simp only [if_true] at hz
  exact in_ints hl hm (by omega) hwz (fun e => by cases e) (fun a' e c hc => by cases e; exact hcell c (by omega))
end Go.Proofs.YtlcnhpjggjgnpaaGreatDoor
namespace Go.Proofs.YtlcnhpjggjgnpaaGreatDoor
open Go.RowKit Go.MapKept Go.Deep
variable {H : Type} {enc : TypeId × Value → H}
theorem in_structs {t e : TypeId} {fs : Array Field} (ht : Tryz.prog.underlying t = some (.slice e)) (he : Tryz.prog.underlying e = some (.struct fs)) (hone : oneCellFields Tryz.prog fs = true) (hC : Tryz.prog.cellsOf e = fs.size)
  {W : World} {a : Option Addr} {len cap : Nat} {d : DataW H} {p : List MemPlace} (h : DataW.Trod enc Tryz.prog W 0 (fun _ => true) true t (.slice a len cap) d p) :
  len ≤ cap ∧ cap ≤ maxLen ∧ ∀ i, i < len → ∃ x, a = some x ∧ ∀ (j : Nat) (f : Field), fs[j]? = some f → ∃ (v : Value) (d' : DataW H) (p' : List MemPlace), W.cell? (x.add (i * fs.size + j)) = some v ∧ ∃ n, DataW.trod enc Tryz.prog W 0 (fun _ => true) true n f.type [v] = some (d', p') := by
 obtain ⟨fuel, hf⟩ := h
 rcases Go.Deep.open_slice ht hf with ⟨hcs, _⟩ | ⟨x, l, c, m, n, D, Pl, hcs, _, hl, hm, hmm, _, hi⟩
 ·simp [Value.cells] at hcs
  obtain ⟨rfl, rfl, rfl⟩ := hcs
  exact ⟨Nat.le_refl _, Nat.zero_le _, fun i h => by omega⟩
 ·simp [Value.cells] at hcs
  obtain ⟨rfl, rfl, rfl⟩ := hcs
  simp only [if_true] at hmm
  refine ⟨hl, hm, fun i hlt => ⟨x, rfl, fun j f hj => ?_⟩⟩
  obtain ⟨cs', hc, ht'⟩ := hi i (by omega)
  rw [hC] at hc
  obtain ⟨ys, n', _, _, _, hyl, hfs⟩ := DataW.trod_struct he ht'
  obtain ⟨_, hcl, hat⟩ := World.cells?_some hc
  obtain ⟨ho, hk⟩ := Go.Deep.hone_of hone j f hj
  have hjl : j < fs.size := (Array.getElem?_eq_some_iff.1 hj).1
  have h1 := hfs j f hj
  rw [ho, hk] at h1
  have e1 : (cs'.drop j).take 1 = [cs'[j]'(by omega)] := by
   rw [List.drop_eq_getElem_cons (by omega)]; rfl
  rw [e1, List.getElem?_eq_getElem (by omega)] at h1
  refine ⟨cs'[j]'(by omega), (ys[j]'(by omega)).1, (ys[j]'(by omega)).2, ?_, n', h1⟩
  rw [← Go.Deep.add_add, hat j hjl, List.getElem?_eq_getElem (by omega)]
theorem in_int {W : World} {n : Nat} {v : Value} {y : DataW H × List MemPlace} (h : DataW.trod enc Tryz.prog W 0 (fun _ => true) true n 3 [v] = some y) : ∃ k : Int, v = .int .i64 k ∧ k ≤ 9223372036854775807 ∧ -9223372036854775808 ≤ k := by
 obtain ⟨k, hk, _, hw⟩ := DataW.trod_int Tryz.underlying3 h
 simp at hk
 have h2 : -9223372036854775808 ≤ k ∧ k ≤ 9223372036854775807 := by simpa [Lit.wf, IntKind.min, IntKind.max, IntKind.signed, IntKind.bits] using hw
 exact ⟨k, hk, h2.2, h2.1⟩
theorem in_bytesV {W : World} {n : Nat} {v : Value} {y : DataW H × List MemPlace} (h : DataW.trod enc Tryz.prog W 0 (fun _ => true) true n 22 [v] = some y) : ∃ l : List UInt8, Reads W v l := by
 have hv : ∃ a len cap, v = .slice a len cap := by
  rcases Go.ChangeShapes.open_ints Tryz.underlying22 Tryz.underlying5 (by kernel_rfl) h with ⟨hcs, _⟩ | ⟨x, l, c, zs, hcs, _⟩
  ·simp at hcs; exact ⟨_, _, _, hcs⟩
  ·simp at hcs; exact ⟨_, _, _, hcs⟩
 obtain ⟨a, len, cap, rfl⟩ := hv
 obtain ⟨l, _, hr⟩ := in_bytes (enc := enc) (W := W) (a := a) (len := len) (cap := cap) (d := y.1) (p := y.2) ⟨n, h⟩
 exact ⟨l, hr⟩
end Go.Proofs.YtlcnhpjggjgnpaaGreatDoor
