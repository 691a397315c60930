/- The contracts of Size, Rename, Fuse, Down, Loose and Sync; all of them of a nil disk, too. -/
import Derived.Test.YtlinkpjneehnbaaCrashB
namespace Go.Proofs.Ytlinkpjneehnbaa
open Go.RowKit Go.MapKept
open Go.ChangeMaps (setBlock)

/-! ### a nil disk -/
theorem there_nilr (n : ByteArray) (w : World) : Runs 75 #[.pointer none, .string n] w (.int .i64 2) w := there_nil n w
theorem up_nilr (w : World) : Runs 73 #[.pointer none] w (.int .i64 2) w := up_nil w
theorem create_nil (n : ByteArray) (w : World) : Runs 20 #[.pointer none, .string n] w (.int .i64 2) w := by
  unfold Runs
  go_enter Try.func20, Try.ntmps20
  go_wp2_with (go_at_call 73; refine (up_nilr _).out.mono ?_; rintro e w' ⟨rfl, rfl⟩)
  go_ret
  exact ⟨rfl, rfl⟩
theorem append_nil (n : ByteArray) (pv : Value) (w : World) : Runs 21 #[.pointer none, .string n, pv] w (.int .i64 2) w := by
  unfold Runs
  go_enter Try.func21, Try.ntmps21
  go_wp2_with (go_at_call 75; refine (there_nilr _ _).out.mono ?_; rintro e w' ⟨rfl, rfl⟩)
  go_ret
  exact ⟨rfl, rfl⟩
theorem remove_nil (n : ByteArray) (w : World) : Runs 23 #[.pointer none, .string n] w (.int .i64 2) w := by
  unfold Runs
  go_enter Try.func23, Try.ntmps23
  go_wp2_with (go_at_call 75; refine (there_nilr _ _).out.mono ?_; rintro e w' ⟨rfl, rfl⟩)
  go_ret
  exact ⟨rfl, rfl⟩
theorem rename_nil (n k : ByteArray) (w : World) : Runs 60 #[.pointer none, .string n, .string k] w (.int .i64 2) w := by
  unfold Runs
  go_enter Try.func60, Try.ntmps60
  go_wp2_with (go_at_call 75; refine (there_nilr _ _).out.mono ?_; rintro e w' ⟨rfl, rfl⟩)
  go_ret
  exact ⟨rfl, rfl⟩
theorem sync_nil (w : World) : Runs 24 #[.pointer none] w (.int .i64 2) w := by
  unfold Runs
  go_enter Try.func24, Try.ntmps24
  go_wp2_with (go_at_call 73; refine (up_nilr _).out.mono ?_; rintro e w' ⟨rfl, rfl⟩)
  go_ret
  exact ⟨rfl, rfl⟩
theorem fuse_nil (n : Int) (w : World) : Runs 44 #[.pointer none, .int .i64 n] w (.int .i64 2) w := by
  unfold Runs
  go_enter Try.func44, Try.ntmps44
  go_wp2_with (go_at_call 73; refine (up_nilr _).out.mono ?_; rintro e w' ⟨rfl, rfl⟩)
  go_ret
  exact ⟨rfl, rfl⟩
theorem read_nil (n : ByteArray) (a k : Int) (w : World) : Runs 27 #[.pointer none, .string n, .int .i64 a, .int .i64 k] w (.tuple #[.slice none 0 0, .int .i64 2]) w := by
  unfold Runs
  go_enter Try.func27, Try.ntmps27
  go_wp2_with (go_at_call 75; refine (there_nilr _ _).out.mono ?_; rintro e w' ⟨rfl, rfl⟩)
  go_ret2
  exact ⟨rfl, rfl⟩
theorem size_nil (n : ByteArray) (w : World) : Runs 59 #[.pointer none, .string n] w (.tuple #[.int .i64 0, .int .i64 2]) w := by
  unfold Runs
  go_enter Try.func59, Try.ntmps59
  go_wp2_with (go_at_call 75; refine (there_nilr _ _).out.mono ?_; rintro e w' ⟨rfl, rfl⟩)
  go_ret2
  exact ⟨rfl, rfl⟩
theorem loose_nil (w : World) : Runs 26 #[.pointer none] w (.int .i64 0) w := by
  unfold Runs
  go_enter Try.func26, Try.ntmps26
  go_wp2
  go_ret
  exact ⟨rfl, rfl⟩
theorem down_nil (w : World) : Runs 47 #[.pointer none] w (.bool false) w := by
  unfold Runs
  go_enter Try.func47, Try.ntmps47
  go_wp2
  go_ret
  exact ⟨rfl, rfl⟩

/-! ### a disk -/
theorem loose_runs {F : Nat → Prop} {w : World} {d : Nat} {m : DM} (h : DiskIs F w d m) : Runs 26 #[.pointer (some ⟨d, 0, none⟩)] w (.int .i64 (m.loose.length : Int)) w := by
  obtain ⟨bn, bs, vl, h⟩ := h
  have c3 := h.cells.c3
  obtain ⟨_, _, h2, _⟩ := h.loose
  obtain ⟨a, c, rfl⟩ := ownsRow_slice h2
  clear h h2
  unfold Runs
  go_enter Try.func26, Try.ntmps26
  go_wp2
  go_ret
  exact ⟨rfl, rfl⟩
theorem down_runs {F : Nat → Prop} {w : World} {d : Nat} {m : DM} (h : DiskIs F w d m) : Runs 47 #[.pointer (some ⟨d, 0, none⟩)] w (.bool m.down) w := by
  obtain ⟨bn, bs, vl, h⟩ := h
  have c5 := h.cells.c5
  clear h
  unfold Runs
  go_enter Try.func47, Try.ntmps47
  go_wp2
  go_ret
  exact ⟨rfl, rfl⟩

def sizeCode (m : DM) (n : ByteArray) : Int := if thereOf m n = 0 then (((fget m.now n).getD []).length : Int) else 0
set_option maxRecDepth 100000 in
theorem size_runs {F : Nat → Prop} {w : World} {d : Nat} {m : DM} (h : DiskIs F w d m) (n : ByteArray) : Runs 59 #[.pointer (some ⟨d, 0, none⟩), .string n] w (.tuple #[.int .i64 (sizeCode m n), .int .i64 (thereOf m n)]) w := by
  have hth := there_runs h n
  obtain ⟨bn, bs, vl, h⟩ := h
  have c1 := h.cells.c1
  obtain ⟨v, hB, _, hlook⟩ := look_now h.now n
  have hl := hlook false
  simp only [Bool.false_eq_true, if_false] at hl
  unfold sizeCode
  generalize (fget m.now n).getD [] = l at *
  obtain ⟨va, vc, rfl, _, _⟩ := hB.form
  clear hB hlook h
  unfold Runs
  by_cases ht : thereOf m n = 0
  · rw [ht] at hth ⊢
    simp only [if_true]
    clear ht
    go_enter Try.func59, Try.ntmps59
    go_wp2_with (go_at_call 75; refine hth.out.mono ?_; rintro e w' ⟨rfl, rfl⟩)
    go_ret2
    exact ⟨rfl, rfl⟩
  · simp only [ht, if_false]
    have hb : (thereOf m n == 0) = false := by simpa using ht
    generalize thereOf m n = t at *
    clear ht
    go_enter Try.func59, Try.ntmps59
    go_wp2_with (go_at_call 75; refine hth.out.mono ?_; rintro e w' ⟨rfl, rfl⟩)
    go_ret2
    exact ⟨rfl, rfl⟩

def renameOf (m : DM) (n k : ByteArray) : Int × DM := if thereOf m n = 0 then (if !isName k then (1, m) else doesOf m ⟨3, n, k, []⟩) else (thereOf m n, m)
set_option maxRecDepth 100000 in
theorem rename_raw (w w2 : World) (d : Nat) (n k : ByteArray) (t r : Int) (nm : Bool)
    (hth : Runs 75 #[.pointer (some ⟨d, 0, none⟩), .string n] w (.int .i64 t) w) (hnm : Runs 52 #[.string k] w (.bool nm) w)
    (hd : Runs 74 #[.pointer (some ⟨d, 0, none⟩), .agg #[.int .i64 3, .string n, .string k, .slice none 0 0]] w (.int .i64 r) w2) :
    Runs 60 #[.pointer (some ⟨d, 0, none⟩), .string n, .string k] w (.int .i64 (if t = 0 then (if !nm then 1 else r) else t)) (if t = 0 then (if !nm then w else w2) else w) := by
  unfold Runs
  by_cases ht : t = 0
  · subst ht
    simp only [if_true]
    cases nm
    all_goals
      go_enter Try.func60, Try.ntmps60
      go_wp2_with (first | (go_at_call 75; refine hth.out.mono ?_; rintro e w' ⟨rfl, rfl⟩) | (go_at_call 52; refine hnm.out.mono ?_; rintro e w' ⟨rfl, rfl⟩) | (go_at_call 74; refine hd.out.mono ?_; rintro e w' ⟨rfl, rfl⟩))
      go_ret
      exact ⟨rfl, rfl⟩
  · rw [if_neg ht, if_neg ht]
    have hb : (t == 0) = false := by simpa using ht
    clear ht
    go_enter Try.func60, Try.ntmps60
    go_wp2_with (first | (go_at_call 75; refine hth.out.mono ?_; rintro e w' ⟨rfl, rfl⟩))
    go_ret
    exact ⟨rfl, rfl⟩
theorem rename_runs {F : Nat → Prop} {w : World} {d : Nat} {m : DM} (h : DiskIs F w d m) (n k : ByteArray) (hf : m.fuse ≤ 9223372036854775807) (hl : m.loose.length < 1099511627776) :
    ∃ w', Runs 60 #[.pointer (some ⟨d, 0, none⟩), .string n, .string k] w (.int .i64 (renameOf m n k).1) w' ∧ DiskIs (Ext F w w') w' d (renameOf m n k).2 ∧ Keeps F w w' := by
  obtain ⟨w2, hd, h2, k2⟩ := does_calls h ⟨3, n, k, []⟩ (Bytes.nil F w) ⟨by simp, by simp⟩ hf hl
  have key := rename_raw w w2 d n k (thereOf m n) _ (isName k) (there_runs h n) (isname_runs k w) hd
  unfold renameOf
  by_cases ht : thereOf m n = 0
  · simp only [ht, if_true] at key ⊢
    cases hn : isName k
    · rw [hn] at key
      simp only [Bool.not_false, if_true] at key ⊢
      exact ⟨w, key, h.ext, Keeps.refl _ _⟩
    · rw [hn] at key
      simp only [Bool.not_true, Bool.false_eq_true, if_false] at key ⊢
      exact ⟨w2, key, h2, k2⟩
  · simp only [ht, if_false] at key ⊢
    exact ⟨w, key, h.ext, Keeps.refl _ _⟩

def fuseOf (m : DM) (n : Int) : Int × DM := if m.down then (5, m) else (0, { m with fuse := if n < -1 then -1 else n })
set_option maxRecDepth 100000 in
theorem fuse_raw (w : World) (d : Nat) (n : Int) (dn : Bool) (v4 : Value) (hup : Runs 73 #[.pointer (some ⟨d, 0, none⟩)] w (.int .i64 (if dn then 5 else 0)) w) (c4 : w.cell? ⟨d, 4, none⟩ = some v4) (f4 : w.frozen? ⟨d, 4, none⟩ = false) :
    Runs 44 #[.pointer (some ⟨d, 0, none⟩), .int .i64 n] w (.int .i64 (if dn then 5 else 0)) (if dn then w else w.setCell ⟨d, 4, none⟩ (.int .i64 (if n < -1 then -1 else n))) := by
  unfold Runs
  cases dn
  · simp only [Bool.false_eq_true, if_false] at hup ⊢
    obtain ⟨q, hq⟩ : ∃ q, (if -1 > n then (-1 : Int) else n) = q := ⟨_, rfl⟩
    have hq2 : (if n < -1 then (-1 : Int) else n) = q := hq
    rw [hq2]
    clear hq
    go_enter Try.func44, Try.ntmps44
    go_wp2_with (first | (go_at_call 73; refine hup.out.mono ?_; rintro e w' ⟨rfl, rfl⟩))
    go_ret
    exact ⟨rfl, rfl⟩
  · simp only [if_true] at hup ⊢
    go_enter Try.func44, Try.ntmps44
    go_wp2_with (first | (go_at_call 73; refine hup.out.mono ?_; rintro e w' ⟨rfl, rfl⟩))
    go_ret
    exact ⟨rfl, rfl⟩
theorem fuse_runs {F : Nat → Prop} {w : World} {d : Nat} {m : DM} (h : DiskIs F w d m) (n : Int) :
    ∃ w', Runs 44 #[.pointer (some ⟨d, 0, none⟩), .int .i64 n] w (.int .i64 (fuseOf m n).1) w' ∧ DiskIs (Ext F w w') w' d (fuseOf m n).2 ∧ Keeps F w w' := by
  have hup := up_runs h
  have hx := h.ext
  obtain ⟨bn, bs, vl, h⟩ := h
  have key := fuse_raw w d n m.down _ hup h.cells.c4 (h.cells.f0 4)
  unfold fuseOf
  cases hd : m.down
  · rw [hd] at key
    simp only [Bool.false_eq_true, if_false] at key ⊢
    refine ⟨_, key, ⟨bn, bs, vl, ?_⟩, (Keeps.refl F w).setCell (fun _ => h.fd) _⟩
    have h2 : DiskAt F (w.setCell ⟨d, 4, none⟩ (.int .i64 (if n < -1 then -1 else n))) d bn bs vl { m with fuse := if n < -1 then -1 else n, down := false } := by
      refine h.reset ?_ (fun b hb => Below.heap_setCell _ _ _ _ hb) rfl rfl rfl
      rw [heap_setCell_eq h.blk]; simp [hd]
    exact h2.wider (G := Ext F w (w.setCell ⟨d, 4, none⟩ (.int .i64 (if n < -1 then -1 else n)))) (fun b hb => Or.inl hb) (fun b hb => by rcases hb with hb | hb; exact h2.lt b hb; exact hb.2)
  · rw [hd] at key
    simp only [if_true] at key ⊢
    exact ⟨w, key, hx, Keeps.refl _ _⟩

/-! ### Sync -/
def synced (m : DM) : DM := { (spendOf m).2 with sure := m.loose.foldl doCh m.sure, loose := [] }
def syncOf (m : DM) : Int × DM := if m.down then (5, m) else if m.fuse = 0 then (5, { m with down := true }) else (0, synced m)

theorem sync_down (w : World) (d : Nat) (hup : Runs 73 #[.pointer (some ⟨d, 0, none⟩)] w (.int .i64 5) w) : Runs 24 #[.pointer (some ⟨d, 0, none⟩)] w (.int .i64 5) w := by
  unfold Runs
  go_enter Try.func24, Try.ntmps24
  go_wp2_with (first | (go_at_call 73; refine hup.out.mono ?_; rintro e w' ⟨rfl, rfl⟩))
  go_ret
  exact ⟨rfl, rfl⟩
theorem sync_dead (w w1 : World) (d : Nat) (hup : Runs 73 #[.pointer (some ⟨d, 0, none⟩)] w (.int .i64 0) w) (hs : Runs 77 #[.pointer (some ⟨d, 0, none⟩)] w (.int .i64 5) w1) : Runs 24 #[.pointer (some ⟨d, 0, none⟩)] w (.int .i64 5) w1 := by
  unfold Runs
  go_enter Try.func24, Try.ntmps24
  go_wp2_with (first | (go_at_call 73; refine hup.out.mono ?_; rintro e w' ⟨rfl, rfl⟩) | (go_at_call 77; refine hs.out.mono ?_; rintro e w' ⟨rfl, rfl⟩))
  go_ret
  exact ⟨rfl, rfl⟩

theorem sync_end {F : Nat → Prop} {w w3 : World} {d bn bs : Nat} {vl : Value} {m : DM} {fs : FS} (hA : DiskAt F w d bn bs vl m) (hI : CInv F w w3 bs fs) :
    (∃ v, w3.cell? ⟨d, 3, none⟩ = some v) ∧ w3.frozen? ⟨d, 3, none⟩ = false ∧
      DPost F w d (0, { m with sure := fs, loose := [] }) (.returned (.int .i64 0)) (w3.setCell ⟨d, 3, none⟩ (.slice none 0 0)) := by
  obtain ⟨hk, hm⟩ := hI
  have hds : d ≠ bs := fun e => by subst e; exact hA.sure.notU8 _ _ _ hA.blk
  have hdn : d ≠ bn := fun e => by subst e; exact hA.now.notU8 _ _ _ hA.blk
  have hd3 : w3.heap[d]? = _ := hk.at hA.blk hds
  have hne : ∀ b, b ≠ d → (w3.setCell ⟨d, 3, none⟩ (.slice none 0 0)).heap[b]? = w3.heap[b]? := fun b hb => Below.heap_setCell _ _ _ _ hb
  have hku : ∀ G, KeepU8 G w3 (w3.setCell ⟨d, 3, none⟩ (.slice none 0 0)) := fun G => (KeepU8.refl G w3).setCell (fun cs fz e => by rw [hd3] at e; simp at e) _
  have hku1 : ∀ G, KeepU8 G w w3 := fun G => KeepU8.of_keeps hk (fun g cs fz _ e hg => by subst e; exact hA.sure.notU8 _ _ _ hg)
  have hext : ∀ b, (F b ∨ w.heap.size ≤ b) → b < w3.heap.size → Ext F w (w3.setCell ⟨d, 3, none⟩ (.slice none 0 0)) b := fun b hb hb2 => by
    rcases hb with hb | hb
    · exact .inl hb
    · exact .inr ⟨hb, by simpa using hb2⟩
  refine ⟨⟨_, cell_at hd3 rfl⟩, free_at hd3 3, rfl, ⟨bn, bs, .slice none 0 0, ?_, .inl hA.fd, .inl hA.fbn, .inl hA.fbs, hA.ne, ?_, ?_, ⟨[], trivial, World.ownsRow_nil _ _ _ _, fun b hb => by cases hb⟩, ?_⟩, ?_⟩
  · rw [heap_setCell_eq hd3]; simp
  · exact hA.now.keep ((hne bn (Ne.symm hdn)).trans (hk.block bn hA.now.lt hA.ne)) ((hku1 F).trans (hku F)) (fun b hb _ => .inl hb)
  · exact hm.keep (hne bs (Ne.symm hds)) (hku _) hext
  · intro b hb
    rcases hb with hb | hb
    · have := hA.lt b hb; have := hk.size; simp; omega
    · exact hb.2
  · exact (hk.mono (fun b _ e => by subst e; exact hA.fbs)).setCell (fun _ => hA.fd) _

set_option maxRecDepth 100000 in
set_option maxHeartbeats 1000000 in
theorem sync_some {F : Nat → Prop} {w w1 : World} {d bn bs g n cap : Nat} {m : DM} (hup : Runs 73 #[.pointer (some ⟨d, 0, none⟩)] w (.int .i64 0) w) (hs : Runs 77 #[.pointer (some ⟨d, 0, none⟩)] w (.int .i64 0) w1)
    (hA : DiskAt F w1 d bn bs (.slice (some ⟨g, 0, none⟩) n cap) m) (hn : n = m.loose.length) (hnc : n ≤ cap) (hcm : (cap : Int) ≤ 9223372036854775807)
    (hfits : ∀ k c, m.loose[k]? = some c → Fits ((m.loose.take k).foldl doCh m.sure) c) :
    Calls Try.prog 24 #[.pointer (some ⟨d, 0, none⟩)] w (DPost F w1 d (0, { m with sure := m.loose.foldl doCh m.sure, loose := [] })) := by
  have hI0 : CInv F w1 w1 bs m.sure := ⟨Keeps.refl _ w1, hA.sure.keep rfl (KeepU8.refl _ _) (fun _ h _ => .inl h)⟩
  obtain ⟨_, c3, _⟩ := cells_of_cinv hA hI0
  have HA := Lib.hid hA
  have HN := Lib.hid hn
  have HF := Lib.hid hfits
  clear hA hn hfits
  go_enter Try.func24, Try.ntmps24
  go_wp2_with (first | (go_at_call 73; refine hup.out.mono ?_; rintro e w' ⟨rfl, rfl⟩) | (go_at_call 77; refine hs.out.mono ?_; rintro e w' ⟨rfl, rfl⟩))
  go_loopw [20] (fun i wr => CrashRel F w1 bs m n i wr) (fun i _ => n - (intOf i).toNat)
  case atStart => exact ⟨0, Nat.zero_le _, rfl, hI0⟩
  case round =>
    obtain ⟨k, hk, rfl, hI⟩ := hrel
    obtain ⟨c2', c3', hdl⟩ := cells_of_cinv HA.out hI
    have hrow := row_of_cinv HA.out hI
    clear hI0 c3 hup hs
    by_cases hlt : k < n
    · obtain ⟨c, hc⟩ : ∃ c, m.loose[k]? = some c := ⟨m.loose[k]'(by have := HN.out; omega), List.getElem?_eq_getElem _⟩
      obtain ⟨pa, pc, hp, hcells⟩ := chs_cells HA.out.loose hc
      obtain ⟨e0, e1, e2, e3⟩ := hcells wr hrow
      obtain ⟨w2, hd, hI2⟩ := crash_step HA.out hI c hp (HF.out k c hc)
      have hI2' : CInv F w1 w2 bs ((m.loose.take (k + 1)).foldl doCh m.sure) := by
        rw [List.take_add_one, hc]; simpa using hI2
      have HI2 := Lib.hid hI2'
      have j0 : (0 : Int) ≤ k := by omega
      have j1 : (k : Int) < n := by omega
      have a2 : (wr.alloc (.cells #[.int .i64 c.kind, .string c.a, .string c.b, .slice pa c.p.length pc] 129)).cell? ⟨d, 2, none⟩ = some (.map (some bs)) := (World.cell?_alloc_lt wr _ ⟨d, 2, none⟩ hdl).trans c2'
      have hbx := load_change (wr.alloc (.cells #[.int .i64 c.kind, .string c.a, .string c.b, .slice pa c.p.length pc] 129)) wr.heap.size _ _ _ _ (heap_alloc_new _ _)
      have HBX := Lib.hid hbx
      have HA2 := Lib.hid a2
      clear hI hI2 hI2' hcells hrow hp c3' hbx a2
      go_wp2
      have hbx := HBX.out
      have a2 := HA2.out
      generalize wr.alloc (.cells #[.int .i64 c.kind, .string c.a, .string c.b, .slice pa c.p.length pc] 129) = W at hbx a2 hd ⊢
      obtain ⟨b0, b1, b2, b3⟩ := hbx
      clear HBX HA2
      go_still_tail 5, (by kernel_rfl)
      change wpList _ _ _ _ _ W.drew
      go_wp2_with (go_at_call 78; refine hd.out.mono ?_; rintro e w' ⟨rfl, rfl⟩)
      go_roundw
      case rel => exact ⟨k + 1, by omega, by go_num, HI2.out⟩
      case measure => simp [intOf]; omega
    · obtain rfl : k = n := by omega
      obtain ⟨⟨v3, g3⟩, f3, hpost⟩ := sync_end HA.out hI
      have hta : m.loose.take k = m.loose := List.take_of_length_le (by have := HN.out; omega)
      rw [hta] at hpost
      have HP := Lib.hid hpost
      clear hI hpost hta hlt hrow
      go_wp2
      go_ret
      exact HP.out

set_option maxRecDepth 100000 in
theorem sync_empty {F : Nat → Prop} {w w1 : World} {d bn bs cap : Nat} {a : Option Addr} {m : DM} (hup : Runs 73 #[.pointer (some ⟨d, 0, none⟩)] w (.int .i64 0) w) (hs : Runs 77 #[.pointer (some ⟨d, 0, none⟩)] w (.int .i64 0) w1)
    (hA : DiskAt F w1 d bn bs (.slice a 0 cap) m) :
    Calls Try.prog 24 #[.pointer (some ⟨d, 0, none⟩)] w (DPost F w1 d (0, { m with sure := m.sure, loose := [] })) := by
  have hI : CInv F w1 w1 bs m.sure := ⟨Keeps.refl _ w1, hA.sure.keep rfl (KeepU8.refl _ _) (fun _ h _ => .inl h)⟩
  obtain ⟨c2, c3, _⟩ := cells_of_cinv hA hI
  obtain ⟨⟨v3, g3⟩, f3, hpost⟩ := sync_end hA hI
  have HP := Lib.hid hpost
  clear hA hI hpost
  go_enter Try.func24, Try.ntmps24
  go_wp2_with (first | (go_at_call 73; refine hup.out.mono ?_; rintro e w' ⟨rfl, rfl⟩) | (go_at_call 77; refine hs.out.mono ?_; rintro e w' ⟨rfl, rfl⟩))
  refine wp_loop_rounds 1 ?_
  rw [rounds_succ]
  go_wp2_with fail
  go_ret
  exact HP.out

theorem spend_same {m : DM} : (spendOf m).2.now = m.now ∧ (spendOf m).2.sure = m.sure ∧ (spendOf m).2.loose = m.loose ∧ (spendOf m).2.room = m.room := by
  unfold spendOf
  split
  · exact ⟨rfl, rfl, rfl, rfl⟩
  · split <;> exact ⟨rfl, rfl, rfl, rfl⟩
theorem sync_calls {F : Nat → Prop} {w : World} {d : Nat} {m : DM} (h : DiskIs F w d m) (hf : m.fuse ≤ 9223372036854775807)
    (hfits : ∀ k c, m.loose[k]? = some c → Fits ((m.loose.take k).foldl doCh m.sure) c) :
    Calls Try.prog 24 #[.pointer (some ⟨d, 0, none⟩)] w (DPost F w d (syncOf m)) := by
  have hup := up_runs h
  have hx := h.ext
  unfold upOf at hup
  unfold syncOf
  cases hdn : m.down
  · rw [hdn] at hup
    simp only [Bool.false_eq_true, if_false] at hup ⊢
    obtain ⟨bn, bs, vl, h⟩ := h
    obtain ⟨w1, hs, h1, k1, z1⟩ := spend_runs h hf
    obtain ⟨e1, e2, e3, e4⟩ := spend_same (m := m)
    by_cases h0 : m.fuse = 0
    · simp only [h0, if_true]
      rw [show (spendOf m).1 = 5 by simp [spendOf, h0]] at hs
      rw [show (spendOf m).2 = { m with down := true } by simp [spendOf, h0]] at h1
      refine (sync_dead w w1 d hup hs).out.mono ?_
      rintro e w' ⟨rfl, rfl⟩
      exact ⟨rfl, ⟨bn, bs, vl, by simpa [h0] using h1.wider (G := Ext F w w1) (fun b hb => Or.inl hb) (fun b hb => by rcases hb with hb | hb; exact h1.lt b hb; exact hb.2)⟩, k1.mono (fun b _ e => by subst e; exact h.fd)⟩
    · simp only [h0, if_false]
      rw [show (spendOf m).1 = 0 by simp only [spendOf, h0, if_false]; split <;> rfl] at hs
      have fin : ∀ e w', DPost F w1 d (0, { (spendOf m).2 with sure := m.loose.foldl doCh m.sure, loose := [] }) e w' → DPost F w d (0, synced m) e w' := by
        rintro e w' ⟨he, hd, hk⟩
        refine ⟨he, hd.wider (fun b hb => by rcases hb with hb | hb; exact Or.inl hb; exact Or.inr ⟨by omega, hb.2⟩) (fun b hb => ?_), (k1.mono (fun b _ e => by subst e; exact h.fd)).trans hk (fun _ _ e => e)⟩
        rcases hb with hb | hb
        · exact hd.lt b (Or.inl hb)
        · exact hb.2
      obtain ⟨ps, r1, r2, r3⟩ := h1.loose
      have hfits2 : ∀ k c, (spendOf m).2.loose[k]? = some c → Fits (((spendOf m).2.loose.take k).foldl doCh (spendOf m).2.sure) c := by
        rw [e2, e3]; exact hfits
      by_cases hn : m.loose = []
      · obtain ⟨a, c, rfl⟩ := ownsRow_slice r2
        have h1' : DiskAt F w1 d bn bs (.slice a 0 c) (spendOf m).2 := by
          rw [e3, hn] at h1; exact h1
        refine (sync_empty hup hs h1').mono fun e w' hp => fin e w' ?_
        rw [hn]
        rw [e2] at hp
        exact hp
      · have hpos : 0 < m.loose.length := List.length_pos_iff.2 hn
        rcases r2.2 with ⟨_, e⟩ | ⟨g, cap, cur, rfl, hg, hb, hnc, hcm, hcs, ht⟩
        · rw [e3] at e; omega
        · unfold maxLen at hcm
          refine (sync_some hup hs h1 rfl hnc (by omega) hfits2).mono fun e w' hp => fin e w' ?_
          rw [e2, e3] at hp
          exact hp
  · rw [hdn] at hup
    simp only [if_true] at hup ⊢
    refine (sync_down w d hup).out.mono ?_
    rintro e w' ⟨rfl, rfl⟩
    exact ⟨rfl, hx, Keeps.refl _ _⟩
end Go.Proofs.Ytlinkpjneehnbaa
