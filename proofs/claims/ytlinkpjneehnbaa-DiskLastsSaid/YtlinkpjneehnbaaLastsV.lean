/- The walk of DiskLasts. -/
import Derived.Test.YtlinkpjneehnbaaLastsW
import Derived.Test.YtlinkpjneehnbaaSame
namespace Go.Proofs.Ytlinkpjneehnbaa
open Go.RowKit Go.MapKept

set_option maxRecDepth 100000 in
set_option maxHeartbeats 4000000 in
theorem lasts_walk (a2 a3 : Int) (w : World) (x : Addr) (len cap : Nat) (hlc : len ≤ cap) (hcm : cap ≤ maxLen) (hcap : ¬ cap = 0) (hrows : PRows w (some x) len) (y : Option Addr) (len1 cap1 : Nat) (hbools : BRow w y len1) :
    Calls Try.prog 4 #[.slice (some x) len cap, .slice y len1 cap1, .int .i64 a2, .int .i64 a3] w fun e w' => e = .returned (.bool true) ∧ Below w.heap.size w w' := by
  unfold maxLen at hcm
  obtain ⟨K, hK⟩ : ∃ K : Nat, (if (40 : Int) < (len : Int) then (40 : Int) else (len : Int)) = (K : Int) := ⟨(if (40 : Int) < (len : Int) then 40 else len), by split <;> simp⟩
  have hKl : K ≤ len := by split at hK <;> omega
  have hK40 : K ≤ 40 := by split at hK <;> omega
  have k0 : (0 : Int) ≤ (K : Int) := by omega
  have k1 : (K : Int) ≤ (cap : Int) := by omega
  have HR := Lib.hid hrows
  have HBo := Lib.hid hbools
  clear hrows hbools hlc
  obtain ⟨d, w1, hnew, hs1⟩ := since_new w 1048576 (by omega) (by omega)
  have haw := hs1.awake
  clear hs1
  go_enter Try.func4, Try.ntmps4
  go_wp2_with fail
  refine hnew.out.mono ?_; rintro e w' ⟨rfl, rfl⟩
  go_wp2_with fail
  refine haw.mono ?_; rintro e w2 ⟨rfl, hs2⟩
  replace hs2 : Since w w2 d (newOf 1048576) := hs2
  obtain ⟨w3, hc1, hs3⟩ := hs2.create nmF (by simp [newOf]) (by simp [newOf])
  rw [lasts1] at hc1 hs3
  have hsy := hs3.sync (by simp [lastsM1, newOf]) lasts_fits0
  rw [lasts2] at hsy
  unfold nmF at hc1
  clear hs2 hs3 haw hnew
  go_wp2_with fail
  refine hc1.out.mono ?_; rintro e w' ⟨rfl, rfl⟩
  go_wp2_with fail
  refine hsy.mono ?_; rintro e w4 ⟨rfl, hs4⟩
  replace hs4 : Since w w4 d lastsM := hs4
  have hst0 := LState.start hs4
  clear hs4 hsy hc1
  have hrel0 : LastsRel w d K (.slice none 0 0) (.int .i64 0) (.int .i64 0) w4 := ⟨0, lastsM, [], 0, Nat.zero_le _, rfl, rfl, hst0, lasts_start⟩
  have HR0 := Lib.hid hrel0
  clear hst0 hrel0
  go_wp2_with fail
  go_loopw [11, 12, 43] (fun av kv i wr => LastsRel w d K av kv i wr) (fun _ _ i _ => K - (intOf i).toNat)
  case atStart => exact HR0.out
  case round =>
    obtain ⟨k, m, all, kept, hk, rfl, rfl, hs, hinv⟩ := hrel
    clear HR0 hK
    by_cases hlt : k < K
    · obtain ⟨x', pv, p, hx', hcp, hp⟩ := HR.out k (by omega)
      cases hx'
      have hk0 := hs.since.1
      have hcz := cell_later hcp hk0
      have hp1 := hp.keep hk0
      obtain ⟨pa, pc, rfl, hp2, hp3⟩ := hp.form
      have j0 : (0 : Int) ≤ k := by omega
      have j1 : (k : Int) < K := by omega
      have HK0 := Lib.hid hk0
      have HP := Lib.hid hp
      clear hcp hp hk0
      by_cases hlong : 1000 < p.length
      · have j2 : (1000 : Int) < (p.length : Int) := by omega
        obtain ⟨aa, ac, rfl, _, _⟩ := hs.form
        have hrel2 : LastsRel w d K (.slice aa all.length ac) (.int .i64 (kept : Int)) (.int .i64 ((k + 1 : Nat) : Int)) wr := ⟨k + 1, m, all, kept, by omega, rfl, rfl, hs, lasts_skip hinv⟩
        have HR2 := Lib.hid hrel2
        clear hs hinv hrel2 hp1
        go_wp2_with fail
        go_roundw
        case rel => exact HR2.out
        case measure => simp [intOf]; omega
      · have j2 : ¬ (1000 : Int) < (p.length : Int) := by omega
        obtain ⟨m1, e1, hinv1⟩ := lasts_append hinv (by omega) (p := p) (by omega)
        have hsz := hinv.size
        have hroom := hinv.room
        have hfz := hinv.calm.fuse
        have hu : used m.now = all.length := by rw [hinv.now]; simp [used]
        have hll : m.loose.length ≤ k := by
          obtain ⟨ps, h1, _, h3⟩ := hinv.loose
          rw [h1, List.length_map]; exact h3
        have happ := hs.append nmF hp1 (by omega) (by omega) (by omega) (by omega) (by omega)
        rw [e1] at happ
        unfold nmF at happ
        obtain ⟨aa, ac, rfl, q1, q2⟩ := hs.form
        have HI := Lib.hid hinv1
        clear hs hinv hinv1 hp1 e1 hu hroom hfz hll
        go_wp2_with fail
        refine happ.mono ?_
        rintro e w2 ⟨rfl, hs2⟩
        replace hs2 : LState w w2 d m1 (.slice aa all.length ac) all := hs2
        obtain ⟨v', w3, hrun, hs3⟩ := hs2.grow (HP.out.keep hs2.since.1) (by omega)
        obtain ⟨aa', ac', rfl, _, _⟩ := hs3.form
        have hlen3 : (all ++ p).length = all.length + p.length := by simp
        have Hrun := Lib.hid hrun
        clear hs2 hrun happ
        by_cases hk1 : k < len1
        · obtain ⟨y', b, rfl, hb⟩ := HBo.out k hk1
          have hbz := cell_later hb hs3.since.1
          have j3 : (k : Int) < (len1 : Int) := by omega
          cases b
          · have hrel2 : LastsRel w d K (.slice aa' (all ++ p).length ac') (.int .i64 (kept : Int)) (.int .i64 ((k + 1 : Nat) : Int)) w3 := ⟨k + 1, m1, all ++ p, kept, by omega, rfl, rfl, hs3, HI.out⟩
            have HR2 := Lib.hid hrel2
            clear hs3 hrel2 hb hlen3 HI
            go_wp2_with (at_builtin; refine wpList_append_run rfl _ _ _ _ rfl rfl rfl Hrun.out ?_)
            go_roundw
            case rel => have h := HR2.out; simp only [List.length_append] at h; exact h
            case measure => simp [intOf]; omega
          · obtain ⟨m2, e2, hinv2⟩ := lasts_sync HI.out
            have hfz := HI.out.calm.fuse
            have hsy := hs3.sync (by omega) (fun j c hc => (lasts_fits HI.out (by omega) j c hc).1)
            rw [e2] at hsy
            have HI2 := Lib.hid hinv2
            clear hs3 hb hlen3 HI e2 hinv2 hfz
            go_wp2_with (at_builtin; refine wpList_append_run rfl _ _ _ _ rfl rfl rfl Hrun.out ?_)
            refine hsy.mono ?_
            rintro e w5 ⟨rfl, hs5⟩
            replace hs5 : LState w w5 d m2 (.slice aa' (all ++ p).length ac') (all ++ p) := hs5
            have hrel2 : LastsRel w d K (.slice aa' (all ++ p).length ac') (.int .i64 ((all ++ p).length : Int)) (.int .i64 ((k + 1 : Nat) : Int)) w5 := ⟨k + 1, m2, all ++ p, _, by omega, rfl, rfl, hs5, HI2.out⟩
            have HR2 := Lib.hid hrel2
            clear hs5 hrel2 HI2 hsy
            go_wp2_with fail
            go_roundw
            case rel => have h := HR2.out; simp only [List.length_append] at h; exact h
            case measure => simp [intOf]; omega
        · have j3 : ¬ (k : Int) < (len1 : Int) := by omega
          have hrel2 : LastsRel w d K (.slice aa' (all ++ p).length ac') (.int .i64 (kept : Int)) (.int .i64 ((k + 1 : Nat) : Int)) w3 := ⟨k + 1, m1, all ++ p, kept, by omega, rfl, rfl, hs3, HI.out⟩
          have HR2 := Lib.hid hrel2
          clear hs3 hrel2 hlen3 HI
          go_wp2_with (at_builtin; refine wpList_append_run rfl _ _ _ _ rfl rfl rfl Hrun.out ?_)
          go_roundw
          case rel => have h := HR2.out; simp only [List.length_append] at h; exact h
          case measure => simp [intOf]; omega
    · obtain rfl : k = K := by omega
      have hk40 := hK40
      clear hlt hk
      obtain ⟨n, hn1, hn2, hn3⟩ := lasts_crash hinv a2 a3
      have hcr := hs.crash a2 a3 (lasts_fits hinv hk40)
      have hsz := hinv.size
      have hlen : (all.take n).length = n := by simp; omega
      obtain ⟨rc, rb⟩ := lasts_read hn1 rfl (by omega)
      have hfg : ((fget (crashOf m a2 a3).now nmF).getD []).length ≤ 140737488355328 := by rw [hn1]; simp [fget]; omega
      have HL := Lib.hid hlen
      have HA := Lib.hid hn1
      have HRC := Lib.hid rc
      have HRB := Lib.hid rb
      have HFG := Lib.hid hfg
      have hz := hs.shape
      have i1 : (0 : Int) ≤ (n : Int) := by omega
      have i2 : (n : Int) ≤ (all.length : Int) := by omega
      have i3 : (kept : Int) ≤ (n : Int) := by omega
      clear hs hinv hlen hn1 hn2 hn3 rc rb hsz hfg
      rcases hz with ⟨rfl, hz⟩ | ⟨g, c, rfl, hz1, hz2⟩
      · subst hz
        obtain rfl : n = 0 := by simp only [List.length_nil] at i2; omega
        obtain rfl : kept = 0 := by omega
        clear i1 i2 i3
        go_wp2_with fail
        refine hcr.mono ?_; rintro e w2 ⟨rfl, hs2⟩
        replace hs2 : LState w w2 d (crashOf m a2 a3) (.slice none 0 0) [] := hs2
        have hlo : Runs 26 #[.pointer (some ⟨d, 0, none⟩)] w2 (.int .i64 0) w2 := loose_runs hs2.since.2
        obtain ⟨v, w3, hread, hB, hk3, _⟩ := hs2.since.read nmF 0 1048576 HFG.out
        rw [HRC.out] at hread
        rw [HRB.out] at hB
        obtain ⟨va, vc, rfl, hv1, hv2⟩ := hB.form
        rw [HL.out] at hread hv1
        have hs3 := hs2.quiet hk3
        unfold nmF at hread
        have HB := Lib.hid hB
        have HS := Lib.hid hs3
        clear hs2 hs3 hB hk3 hcr
        go_wp2_with fail
        refine hlo.out.mono ?_; rintro e w' ⟨rfl, rfl⟩
        go_wp2_with fail
        refine hread.out.mono ?_; rintro e w' ⟨rfl, rfl⟩
        go_wp2_with fail
        have hB := HB.out
        have hs3 := HS.out
        rw [HL.out] at hB
        have hsame := same_calls hB.reads (.inl ⟨rfl, rfl⟩)
        refine hsame.mono ?_
        rintro e w4 ⟨rfl, hk4⟩
        go_wp2_with fail
        go_ret
        exact ⟨by simp, (hs3.quiet hk4).since.1.below⟩
      · by_cases hc0 : c = 0
        · subst hc0
          have hall : all = [] := List.eq_nil_of_length_eq_zero (by omega)
          subst hall
          obtain rfl : n = 0 := by simp only [List.length_nil] at i2; omega
          obtain rfl : kept = 0 := by omega
          clear i1 i2 i3 hz1 hz2
          go_wp2_with fail
          refine hcr.mono ?_; rintro e w2 ⟨rfl, hs2⟩
          replace hs2 : LState w w2 d (crashOf m a2 a3) (.slice (some ⟨g, 0, none⟩) 0 0) [] := hs2
          have hlo : Runs 26 #[.pointer (some ⟨d, 0, none⟩)] w2 (.int .i64 0) w2 := loose_runs hs2.since.2
          obtain ⟨v, w3, hread, hB, hk3, _⟩ := hs2.since.read nmF 0 1048576 HFG.out
          rw [HRC.out] at hread
          rw [HRB.out] at hB
          obtain ⟨va, vc, rfl, hv1, hv2⟩ := hB.form
          rw [HL.out] at hread hv1
          have hs3 := hs2.quiet hk3
          unfold nmF at hread
          have HB := Lib.hid hB
          have HS := Lib.hid hs3
          clear hs2 hs3 hB hk3 hcr
          go_wp2_with fail
          refine hlo.out.mono ?_; rintro e w' ⟨rfl, rfl⟩
          go_wp2_with fail
          refine hread.out.mono ?_; rintro e w' ⟨rfl, rfl⟩
          go_wp2_with fail
          have hB := HB.out
          have hs3 := HS.out
          rw [HL.out] at hB
          have hsame := same_calls hB.reads (Bytes.none_of hs3.bytes).reads
          refine hsame.mono ?_
          rintro e w4 ⟨rfl, hk4⟩
          go_wp2_with fail
          go_ret
          exact ⟨by simp, (hs3.quiet hk4).since.1.below⟩
        · unfold maxLen at hz2
          have i4 : (n : Int) ≤ (c : Int) := by omega
          have i5 : (all.length : Int) ≤ (c : Int) := by omega
          go_wp2_with fail
          refine hcr.mono ?_; rintro e w2 ⟨rfl, hs2⟩
          replace hs2 : LState w w2 d (crashOf m a2 a3) (.slice (some ⟨g, 0, none⟩) all.length c) all := hs2
          have hlo : Runs 26 #[.pointer (some ⟨d, 0, none⟩)] w2 (.int .i64 0) w2 := loose_runs hs2.since.2
          obtain ⟨v, w3, hread, hB, hk3, _⟩ := hs2.since.read nmF 0 1048576 HFG.out
          rw [HRC.out] at hread
          rw [HRB.out] at hB
          obtain ⟨va, vc, rfl, hv1, hv2⟩ := hB.form
          rw [HL.out] at hread hv1
          have hs3 := hs2.quiet hk3
          unfold nmF at hread
          have HB := Lib.hid hB
          have HS := Lib.hid hs3
          clear hs2 hs3 hB hk3 hcr
          go_wp2_with fail
          refine hlo.out.mono ?_; rintro e w' ⟨rfl, rfl⟩
          go_wp2_with fail
          refine hread.out.mono ?_; rintro e w' ⟨rfl, rfl⟩
          go_wp2_with fail
          have hB := HB.out
          have hs3 := HS.out
          rw [HL.out] at hB
          have hsame := same_calls hB.reads (Bytes.from hs3.bytes 0 n (by omega) hc0).reads
          refine hsame.mono ?_
          rintro e w4 ⟨rfl, hk4⟩
          go_wp2_with fail
          go_ret
          exact ⟨by simp, (hs3.quiet hk4).since.1.below⟩
end Go.Proofs.Ytlinkpjneehnbaa
