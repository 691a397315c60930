/- The walk of Crash. -/
import Derived.Test.YtlinkpjneehnbaaCrashA
namespace Go.Proofs.Ytlinkpjneehnbaa
open Go.RowKit Go.MapKept
open Go.ChangeMaps (setBlock)

/-- What the loop of Crash holds to. -/
def CrashRel (F : Nat → Prop) (w : World) (bs : Nat) (m : DM) (K : Nat) (i : Value) (wr : World) : Prop :=
  ∃ k : Nat, k ≤ K ∧ i = .int .i64 (k : Int) ∧ CInv F w wr bs ((m.loose.take k).foldl doCh m.sure)

/-- The cells of a change that lies in the row of the loose ones. -/
def ChangeCells (w' : World) (g k : Nat) (c : Ch) (pa : Option Addr) (pc : Nat) : Prop :=
  w'.cell? ⟨g, k * 4, none⟩ = some (.int .i64 c.kind) ∧ w'.cell? ⟨g, k * 4 + 1, none⟩ = some (.string c.a) ∧ w'.cell? ⟨g, k * 4 + 2, none⟩ = some (.string c.b) ∧ w'.cell? ⟨g, k * 4 + 3, none⟩ = some (.slice pa c.p.length pc)

theorem cells_of_cinv {F : Nat → Prop} {w wr : World} {d bn bs : Nat} {vl : Value} {m : DM} {fs : FS} (hA : DiskAt F w d bn bs vl m) (hI : CInv F w wr bs fs) :
    wr.cell? ⟨d, 2, none⟩ = some (.map (some bs)) ∧ wr.cell? ⟨d, 3, none⟩ = some vl ∧ d < wr.heap.size := by
  have hds : d ≠ bs := fun e => by subst e; exact hA.sure.notU8 _ _ _ hA.blk
  have hd3 : wr.heap[d]? = _ := hI.1.at hA.blk hds
  exact ⟨cell_at hd3 rfl, cell_at hd3 rfl, lt_of_heap hd3⟩

theorem row_of_cinv {F : Nat → Prop} {w wr : World} {d bn bs g n cap : Nat} {m : DM} {fs : FS} (hA : DiskAt F w d bn bs (.slice (some ⟨g, 0, none⟩) n cap) m) (hI : CInv F w wr bs fs) : wr.heap[g]? = w.heap[g]? := by
  obtain ⟨_, _, h2, _⟩ := hA.loose
  obtain ⟨cur, hg⟩ := ownsRow_type h2 (b := g) rfl
  exact hI.1.block g (lt_of_heap hg) (fun e => by subst e; exact hA.sure.notU8 _ _ _ hg)

set_option maxRecDepth 100000 in
set_option maxHeartbeats 1000000 in
theorem crash_some {F : Nat → Prop} {w : World} {d bn bs g n cap : Nat} {m : DM} (hA : DiskAt F w d bn bs (.slice (some ⟨g, 0, none⟩) n cap) m) (hn : n = m.loose.length) (hnc : n ≤ cap) (hcap : 0 < cap) (hcm : (cap : Int) ≤ 9223372036854775807)
    (keep part : Int) (K : Nat) (hK : K = clampI keep n)
    (hfits : ∀ k c, m.loose[k]? = some c → Fits ((m.loose.take k).foldl doCh m.sure) c ∧ ∀ j, Fits ((m.loose.take k).foldl doCh m.sure) { c with p := c.p.take j }) :
    Calls Try.prog 25 #[.pointer (some ⟨d, 0, none⟩), .int .i64 keep, .int .i64 part] w (DPost F w d (0, crashOf m keep part)) := by
  have hKn : K ≤ n := by rw [hK]; exact clampI_le _ _
  have hmm := clampI_min keep n
  rw [← hK] at hmm
  obtain ⟨kk, hkk⟩ : ∃ kk, (if (n : Int) < keep then (n : Int) else keep) = kk := ⟨_, rfl⟩
  rw [hkk] at hmm
  have hK' : K = clampI keep m.loose.length := by rw [hK, hn]
  obtain ⟨_, c3, _⟩ := cells_of_cinv hA ⟨Keeps.refl _ w, hA.sure.keep rfl (KeepU8.refl _ _) (fun _ h _ => .inl h)⟩
  have hI0 : CInv F w w bs m.sure := ⟨Keeps.refl _ w, hA.sure.keep rfl (KeepU8.refl _ _) (fun _ h _ => .inl h)⟩
  have hcap0 : ¬ cap = 0 := by omega
  have hi0 : (0 : Int) ≤ K := by omega
  have hi1 : (K : Int) ≤ cap := by omega
  have hi2 : (K : Int) ≤ n := by omega
  have HA := Lib.hid hA
  have HN := Lib.hid hn
  have HK := Lib.hid hK'
  have HF := Lib.hid hfits
  clear hA hn hK hK' hfits hKn hnc hcap
  go_enter Try.func25, Try.ntmps25
  go_wp2
  go_loopw [27] (fun i wr => CrashRel F w bs m K i wr) (fun i _ => K - (intOf i).toNat)
  case atStart => exact ⟨0, Nat.zero_le _, rfl, hI0⟩
  case round =>
    obtain ⟨k, hk, rfl, hI⟩ := hrel
    obtain ⟨c2', c3', hdl⟩ := cells_of_cinv HA.out hI
    have hrow := row_of_cinv HA.out hI
    clear hI0 c3 hmm
    by_cases hlt : k < K
    · obtain ⟨c, hc⟩ : ∃ c, m.loose[k]? = some c := ⟨m.loose[k]'(by have := HN.out; omega), List.getElem?_eq_getElem _⟩
      obtain ⟨pa, pc, hp, hcells⟩ := chs_cells HA.out.loose hc
      obtain ⟨e0, e1, e2, e3⟩ := hcells wr hrow
      obtain ⟨w2, hd, hI2⟩ := crash_step HA.out hI c hp (HF.out k c hc).1
      have hI2' : CInv F w w2 bs ((m.loose.take (k + 1)).foldl doCh m.sure) := by
        rw [List.take_add_one, hc]; simpa using hI2
      have HI2 := Lib.hid hI2'
      have j0 : (0 : Int) ≤ k := by omega
      have j1 : (k : Int) < K := by omega
      have a2 : (wr.alloc (.cells #[.int .i64 c.kind, .string c.a, .string c.b, .slice pa c.p.length pc] 129)).cell? ⟨d, 2, none⟩ = some (.map (some bs)) := (World.cell?_alloc_lt wr _ ⟨d, 2, none⟩ hdl).trans c2'
      have hbx := load_change (wr.alloc (.cells #[.int .i64 c.kind, .string c.a, .string c.b, .slice pa c.p.length pc] 129)) wr.heap.size _ _ _ _ (heap_alloc_new _ _)
      have HBX := Lib.hid hbx
      have HA2 := Lib.hid a2
      clear hI hI2 hI2' hcells hrow hp c3' hbx a2
      go_wp2
      have hbx := HBX.out
      have a2 := HA2.out
      generalize wr.alloc (.cells #[.int .i64 c.kind, .string c.a, .string c.b, .slice pa c.p.length pc] 129) = W at hbx a2 hd ⊢
      obtain ⟨b0, b1, b2, b3⟩ := hbx
      clear HBX HA2
      go_still_tail 5, (by kernel_rfl)
      change wpList _ _ _ _ _ W.drew
      go_wp2_with (go_at_call 78; refine hd.out.mono ?_; rintro e w' ⟨rfl, rfl⟩)
      go_roundw
      case rel => exact ⟨k + 1, by omega, by go_num, HI2.out⟩
      case measure => simp [intOf]; omega
    · obtain rfl : k = K := by omega
      clear hlt
      by_cases hKn : k < n
      · obtain ⟨c, hc⟩ : ∃ c, m.loose[k]? = some c := ⟨m.loose[k]'(by have := HN.out; omega), List.getElem?_eq_getElem _⟩
        obtain ⟨pa, pc, hp, hcells⟩ := chs_cells HA.out.loose hc
        obtain ⟨e0, e1, e2, e3⟩ := hcells wr hrow
        have j0 : (0 : Int) ≤ k := by omega
        have j1 : (k : Int) < n := by omega
        by_cases hk1 : c.kind = 1
        · have hfit := (HF.out k c hc).2 (clampI part c.p.length)
          have hcr : crashOf m keep part = crashed m (doCh ((m.loose.take k).foldl doCh m.sure) { c with p := c.p.take (clampI part c.p.length) }) := by
            unfold crashOf crashFs
            rw [← HK.out, hc]
            simp [hk1]
          obtain ⟨ck, ca, cb, cp⟩ := c
          simp only at *
          subst hk1
          have hj := clampI_le part cp.length
          have hjm := clampI_min part cp.length
          generalize clampI part cp.length = j at *
          obtain ⟨pk, hpk⟩ : ∃ pk, (if (cp.length : Int) < part then (cp.length : Int) else part) = pk := ⟨_, rfl⟩
          rw [hpk] at hjm
          have hpcap := hp.form
          obtain ⟨pa', pc', epa, hpc1, hpc2⟩ := hpcap
          simp only [Value.slice.injEq, true_and] at epa
          obtain ⟨rfl, rfl⟩ := epa
          obtain ⟨w2, hd, hI2⟩ := crash_step HA.out hI ⟨1, ca, cb, cp.take j⟩ (hp.take j hj) hfit
          have hbx := load_change (wr.alloc (.cells #[.int .i64 1, .string ca, .string cb, .slice pa j pc] 129)) wr.heap.size _ _ _ _ (heap_alloc_new _ _)
          have a2 : (wr.alloc (.cells #[.int .i64 1, .string ca, .string cb, .slice pa j pc] 129)).cell? ⟨d, 2, none⟩ = some (.map (some bs)) := (World.cell?_alloc_lt wr _ ⟨d, 2, none⟩ hdl).trans c2'
          have HBX := Lib.hid hbx
          have HA2 := Lib.hid a2
          have HI2 := Lib.hid hI2
          have HCR := Lib.hid hcr
          have q0 : (0 : Int) ≤ j := by omega
          have q1 : (j : Int) ≤ pc := by omega
          by_cases hpc0 : pc = 0
          · subst hpc0
            obtain rfl : j = 0 := by omega
            replace hjm : (if 0 < pk then pk else 0) = (0 : Int) := hjm
            clear hI hI2 hcells hrow hp hbx a2 hcr hc hfit hpc1 hpc2 q0 q1
            go_wp2
            have hbx := HBX.out
            have a2 := HA2.out
            generalize wr.alloc (.cells #[.int .i64 1, .string ca, .string cb, .slice pa 0 0] 129) = W at hbx a2 hd ⊢
            obtain ⟨b0, b1, b2, b3⟩ := hbx
            clear HBX HA2
            go_still_tail 5, (by kernel_rfl)
            change wpList _ _ _ _ _ W.drew
            obtain ⟨w4, hcl, ⟨hc4, hf4⟩, hpost⟩ := crash_end HA.out HI2.out
            rw [← HCR.out] at hpost
            obtain ⟨v1, g1⟩ := hc4 1 (by omega)
            obtain ⟨v3, g3⟩ := hc4 3 (by omega)
            obtain ⟨v4, g4⟩ := hc4 4 (by omega)
            obtain ⟨v5, g5⟩ := hc4 5 (by omega)
            obtain ⟨c2w, _, _⟩ := cells_of_cinv HA.out HI2.out
            have HP := Lib.hid hpost
            clear hc4 hpost
            go_wp2_with (first | (go_at_call 78; refine hd.out.mono ?_; rintro e w' ⟨rfl, rfl⟩) | (go_at_call 79; refine hcl.out.mono ?_; rintro e w' ⟨rfl, rfl⟩))
            go_ret
            exact HP.out
          · clear hI hI2 hcells hrow hp hbx a2 hcr hc hfit hpc1 hpc2
            go_wp2
            have hbx := HBX.out
            have a2 := HA2.out
            generalize wr.alloc (.cells #[.int .i64 1, .string ca, .string cb, .slice pa j pc] 129) = W at hbx a2 hd ⊢
            obtain ⟨b0, b1, b2, b3⟩ := hbx
            clear HBX HA2
            go_still_tail 5, (by kernel_rfl)
            change wpList _ _ _ _ _ W.drew
            obtain ⟨w4, hcl, ⟨hc4, hf4⟩, hpost⟩ := crash_end HA.out HI2.out
            rw [← HCR.out] at hpost
            obtain ⟨v1, g1⟩ := hc4 1 (by omega)
            obtain ⟨v3, g3⟩ := hc4 3 (by omega)
            obtain ⟨v4, g4⟩ := hc4 4 (by omega)
            obtain ⟨v5, g5⟩ := hc4 5 (by omega)
            obtain ⟨c2w, _, _⟩ := cells_of_cinv HA.out HI2.out
            have HP := Lib.hid hpost
            clear hc4 hpost
            go_wp2_with (first | (go_at_call 78; refine hd.out.mono ?_; rintro e w' ⟨rfl, rfl⟩) | (go_at_call 79; refine hcl.out.mono ?_; rintro e w' ⟨rfl, rfl⟩))
            go_ret
            exact HP.out
        · have hcr : crashOf m keep part = crashed m ((m.loose.take k).foldl doCh m.sure) := by
            unfold crashOf crashFs
            rw [← HK.out, hc]
            simp [hk1]
          obtain ⟨w4, hcl, ⟨hc4, hf4⟩, hpost⟩ := crash_end HA.out hI
          rw [← hcr] at hpost
          obtain ⟨v1, g1⟩ := hc4 1 (by omega)
          obtain ⟨v3, g3⟩ := hc4 3 (by omega)
          obtain ⟨v4, g4⟩ := hc4 4 (by omega)
          obtain ⟨v5, g5⟩ := hc4 5 (by omega)
          have HP := Lib.hid hpost
          have hb : (c.kind == 1) = false := by simpa using hk1
          clear hI hcells hrow hp hc4 hpost hcr hk1 hc
          go_wp2_with (go_at_call 79; refine hcl.out.mono ?_; rintro e w' ⟨rfl, rfl⟩)
          go_ret
          exact HP.out
      · have hcr : crashOf m keep part = crashed m ((m.loose.take k).foldl doCh m.sure) := by
          unfold crashOf crashFs
          rw [← HK.out, List.getElem?_eq_none (by have := HN.out; omega)]
        obtain ⟨w4, hcl, ⟨hc4, hf4⟩, hpost⟩ := crash_end HA.out hI
        rw [← hcr] at hpost
        obtain ⟨v1, g1⟩ := hc4 1 (by omega)
        obtain ⟨v3, g3⟩ := hc4 3 (by omega)
        obtain ⟨v4, g4⟩ := hc4 4 (by omega)
        obtain ⟨v5, g5⟩ := hc4 5 (by omega)
        have HP := Lib.hid hpost
        have hb : ¬ (k : Int) < n := by omega
        clear hI hrow hc4 hpost hcr hKn
        go_wp2_with (go_at_call 79; refine hcl.out.mono ?_; rintro e w' ⟨rfl, rfl⟩)
        go_ret
        exact HP.out

set_option maxRecDepth 100000 in
set_option maxHeartbeats 400000 in
theorem crash_empty {F : Nat → Prop} {w : World} {d bn bs cap : Nat} {a : Option Addr} {m : DM} (hA : DiskAt F w d bn bs (.slice a 0 cap) m) (hn : m.loose = []) (keep part : Int) :
    Calls Try.prog 25 #[.pointer (some ⟨d, 0, none⟩), .int .i64 keep, .int .i64 part] w (DPost F w d (0, crashOf m keep part)) := by
  have hmm := clampI_min keep 0
  rw [show clampI keep 0 = 0 by have := clampI_le keep 0; omega] at hmm
  obtain ⟨kk, hkk⟩ : ∃ kk, (if (0 : Int) < keep then (0 : Int) else keep) = kk := ⟨_, rfl⟩
  replace hmm : (if 0 < (if (0 : Int) < keep then (0 : Int) else keep) then (if (0 : Int) < keep then (0 : Int) else keep) else 0) = (0 : Int) := hmm
  rw [hkk] at hmm
  have hI : CInv F w w bs m.sure := ⟨Keeps.refl _ w, hA.sure.keep rfl (KeepU8.refl _ _) (fun _ h _ => .inl h)⟩
  obtain ⟨c2, c3, _⟩ := cells_of_cinv hA hI
  have hcr : crashOf m keep part = crashed m m.sure := by
    unfold crashOf crashFs
    simp [hn]
  obtain ⟨w4, hcl, ⟨hc4, hf4⟩, hpost⟩ := crash_end hA hI
  rw [← hcr] at hpost
  obtain ⟨v1, g1⟩ := hc4 1 (by omega)
  obtain ⟨v3, g3⟩ := hc4 3 (by omega)
  obtain ⟨v4, g4⟩ := hc4 4 (by omega)
  obtain ⟨v5, g5⟩ := hc4 5 (by omega)
  have HP := Lib.hid hpost
  clear hA hn hI hc4 hpost hcr
  by_cases hc0 : cap = 0
  all_goals
    go_enter Try.func25, Try.ntmps25
    go_wp2
    refine wp_loop_rounds 1 ?_
    rw [rounds_succ]
    go_wp2_with (first | (go_at_call 79; refine hcl.out.mono ?_; rintro e w' ⟨rfl, rfl⟩))
    go_ret
    exact HP.out

theorem crash_calls {F : Nat → Prop} {w : World} {d : Nat} {m : DM} (h : DiskIs F w d m) (keep part : Int)
    (hfits : ∀ k c, m.loose[k]? = some c → Fits ((m.loose.take k).foldl doCh m.sure) c ∧ ∀ j, Fits ((m.loose.take k).foldl doCh m.sure) { c with p := c.p.take j }) :
    Calls Try.prog 25 #[.pointer (some ⟨d, 0, none⟩), .int .i64 keep, .int .i64 part] w (DPost F w d (0, crashOf m keep part)) := by
  obtain ⟨bn, bs, vl, h⟩ := h
  obtain ⟨ps, h1, h2, h3⟩ := h.loose
  by_cases hn : m.loose = []
  · obtain ⟨a, c, rfl⟩ := ownsRow_slice h2
    rw [hn] at h
    exact crash_empty (by simpa using h) hn keep part
  · have hpos : 0 < m.loose.length := List.length_pos_iff.2 hn
    rcases h2.2 with ⟨_, e⟩ | ⟨g, cap, cur, rfl, hg, hb, hnc, hcm, hcs, ht⟩
    · omega
    · unfold maxLen at hcm
      exact crash_some h rfl hnc (by omega) (by omega) keep part _ rfl hfits
end Go.Proofs.Ytlinkpjneehnbaa
