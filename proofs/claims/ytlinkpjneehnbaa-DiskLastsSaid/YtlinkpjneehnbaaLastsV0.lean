/- The walk of DiskLasts. -/
import Derived.Test.YtlinkpjneehnbaaLastsW
import Derived.Test.YtlinkpjneehnbaaSame
namespace Go.Proofs.Ytlinkpjneehnbaa
open Go.RowKit Go.MapKept

set_option maxRecDepth 100000 in
set_option maxHeartbeats 4000000 in
theorem lasts_walk0 (a2 a3 : Int) (w : World) (x : Option Addr) (y : Option Addr) (len1 cap1 : Nat) :
    Calls Try.prog 4 #[.slice x 0 0, .slice y len1 cap1, .int .i64 a2, .int .i64 a3] w fun e w' => e = .returned (.bool true) ∧ Below w.heap.size w w' := by
  obtain ⟨d, w1, hnew, hs1⟩ := since_new w 1048576 (by omega) (by omega)
  have haw := hs1.awake
  clear hs1
  go_enter Try.func4, Try.ntmps4
  go_wp2_with fail
  refine hnew.out.mono ?_; rintro e w' ⟨rfl, rfl⟩
  go_wp2_with fail
  refine haw.mono ?_; rintro e w2 ⟨rfl, hs2⟩
  replace hs2 : Since w w2 d (newOf 1048576) := hs2
  obtain ⟨w3, hc1, hs3⟩ := hs2.create nmF (by simp [newOf]) (by simp [newOf])
  rw [lasts1] at hc1 hs3
  have hsy := hs3.sync (by simp [lastsM1, newOf]) lasts_fits0
  rw [lasts2] at hsy
  unfold nmF at hc1
  clear hs2 hs3 haw hnew
  go_wp2_with fail
  refine hc1.out.mono ?_; rintro e w' ⟨rfl, rfl⟩
  go_wp2_with fail
  refine hsy.mono ?_; rintro e w4 ⟨rfl, hs4⟩
  replace hs4 : Since w w4 d lastsM := hs4
  have hst0 := LState.start hs4
  clear hs4 hsy hc1
  have HS0 := Lib.hid hst0
  clear hst0
  go_wp2_with fail
  refine wp_loop_rounds 1 ?_
  rw [rounds_succ]
  have hs := HS0.out
  have hinv := lasts_start
  have hk40 : 0 ≤ 40 := by omega
  obtain ⟨m, hm⟩ : ∃ m, m = lastsM := ⟨_, rfl⟩
  obtain ⟨all, hall⟩ : ∃ all : List UInt8, all = [] := ⟨_, rfl⟩
  rw [← hm, ← hall] at hs hinv
  clear HS0 hm
  obtain ⟨n, hn1, hn2, hn3⟩ := lasts_crash hinv a2 a3
  have hcr := hs.crash a2 a3 (lasts_fits hinv hk40)
  subst hall
  obtain rfl : n = 0 := by simp only [List.length_nil] at hn3; omega
  obtain ⟨rc, rb⟩ := lasts_read hn1 rfl (by simp)
  have hfg : ((fget (crashOf m a2 a3).now nmF).getD []).length ≤ 140737488355328 := by rw [hn1]; simp [fget]
  have hlen : (([] : List UInt8).take 0).length = 0 := rfl
  have HL := Lib.hid hlen
  have HA := Lib.hid hn1
  have HRC := Lib.hid rc
  have HRB := Lib.hid rb
  have HFG := Lib.hid hfg
  clear hs hinv hlen hn1 hn2 hn3 rc rb hfg
  go_wp2_with fail
  refine hcr.mono ?_; rintro e w2 ⟨rfl, hs2⟩
  replace hs2 : LState w w2 d (crashOf m a2 a3) (.slice none 0 0) [] := hs2
  have hlo : Runs 26 #[.pointer (some ⟨d, 0, none⟩)] w2 (.int .i64 0) w2 := loose_runs hs2.since.2
  obtain ⟨v, w3, hread, hB, hk3, _⟩ := hs2.since.read nmF 0 1048576 HFG.out
  rw [HRC.out] at hread
  rw [HRB.out] at hB
  obtain ⟨va, vc, rfl, hv1, hv2⟩ := hB.form
  rw [HL.out] at hread hv1
  have hs3 := hs2.quiet hk3
  unfold nmF at hread
  have HB := Lib.hid hB
  have HS := Lib.hid hs3
  clear hs2 hs3 hB hk3 hcr
  go_wp2_with fail
  refine hlo.out.mono ?_; rintro e w' ⟨rfl, rfl⟩
  go_wp2_with fail
  refine hread.out.mono ?_; rintro e w' ⟨rfl, rfl⟩
  go_wp2_with fail
  have hB := HB.out
  have hs3 := HS.out
  rw [HL.out] at hB
  have hsame := same_calls hB.reads (.inl ⟨rfl, rfl⟩)
  refine hsame.mono ?_
  rintro e w4 ⟨rfl, hk4⟩
  go_wp2_with fail
  go_ret
  exact ⟨by simp, (hs3.quiet hk4).since.1.below⟩
end Go.Proofs.Ytlinkpjneehnbaa
