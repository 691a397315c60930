/- The walk of DiskMany. -/
import Derived.Test.YtlinkpjneehnbaaManyW
namespace Go.Proofs.Ytlinkpjneehnbaa
open Go.RowKit Go.MapKept

set_option maxRecDepth 100000 in
set_option maxHeartbeats 2000000 in
theorem many_walk (w : World) : Calls Try.prog 5 #[] w fun e w' => e = .returned (.bool true) ∧ Below w.heap.size w w' := by
  obtain ⟨d, w1, hnew, hs1⟩ := since_new w 10 (by omega) (by omega)
  have haw := hs1.awake
  clear hs1
  go_enter Try.func5, Try.ntmps5
  go_wp2_with fail
  refine hnew.out.mono ?_; rintro e w' ⟨rfl, rfl⟩
  go_wp2_with fail
  refine haw.mono ?_; rintro e w2 ⟨rfl, hs2⟩
  have hrel0 : ManyRel w d (.int .i64 0) w2 := ⟨0, newOf 10, Nat.zero_le _, rfl, hs2, many_start⟩
  have HR0 := Lib.hid hrel0
  clear hs2 hrel0
  go_wp2_with fail
  go_loopw [14] (fun i wr => ManyRel w d i wr) (fun i _ => 4096 - (intOf i).toNat)
  case atStart => exact HR0.out
  case round =>
    obtain ⟨k, m, hk, rfl, hs, hinv⟩ := hrel
    clear HR0 haw hnew
    by_cases hlt : k < 4096
    · obtain ⟨m', eC, hinv2⟩ := many_step hinv hs.2.nodup hlt
      have hf0 := hinv.calm.fuse
      have hl0 := hinv.llen
      have hB := many_bytes wr k (by omega)
      have hconv : (convert 31 9 (.slice (some ⟨wr.heap.size, 0, none⟩) 2 2)).run Try.prog (wr.alloc (.cells #[.int .u8 ((k : Int) / 256), .int .u8 ((k : Int) % 256)] 5)) = .ok (.string (nmK k)) (wr.alloc (.cells #[.int .u8 ((k : Int) / 256), .int .u8 ((k : Int) % 256)] 5)) := hB.str
      have hs2 := hs.quiet ((Keeps.refl (fun _ => False) wr).alloc (.cells #[.int .u8 ((k : Int) / 256), .int .u8 ((k : Int) % 256)] 5))
      obtain ⟨w3, hcr, hs3⟩ := hs2.create (nmK k) (by omega) (by omega)
      rw [eC] at hcr hs3
      have HS := Lib.hid hs3
      have HI := Lib.hid hinv2
      have j0 : (0 : Int) ≤ k := by omega
      have j1 : (k : Int) < 4096 := by omega
      generalize nmK k = nm at hconv hcr
      clear hs hs2 hs3 hinv hinv2 hB eC hf0 hl0
      go_wp2_with fail
      refine hcr.out.mono ?_; rintro e w' ⟨rfl, rfl⟩
      have hrel2 : ManyRel w d (.int .i64 ((k + 1 : Nat) : Int)) w3 := ⟨k + 1, m', by omega, rfl, HS.out, HI.out⟩
      have HR := Lib.hid hrel2
      clear HS HI hrel2
      go_wp2_with fail
      go_roundw
      case rel => exact HR.out
      case measure => simp [intOf]; omega
    · obtain rfl : k = 4096 := by omega
      clear hlt hk
      obtain ⟨e1, m1, m2, m3, e2, e3, e4, e5, f1, l1, f2, hfits, f3, l3⟩ := many_end hinv hs.2.nodup
      have f0 := hinv.calm.fuse
      have l0 := hinv.llen
      obtain ⟨w2, hc1, hs2⟩ := hs.create nmMore (by omega) (by omega)
      rw [e1] at hc1 hs2
      obtain ⟨w3, hc2, hs3⟩ := hs2.remove (nmK 0) (by simp only; omega) (by simp only; omega)
      rw [e2] at hc2 hs3
      obtain ⟨w4, hc3, hs4⟩ := hs3.create nmMore (by simp only; omega) (by simp only; omega)
      rw [e3] at hc3 hs4
      have hsy := hs4.sync (by simp only; omega) hfits
      rw [e4] at hsy
      have E5 := Lib.hid e5
      have F3 := Lib.hid f3
      have L3 := Lib.hid l3
      unfold nmMore at hc1 hc3
      have hc2' : Runs 23 #[.pointer (some ⟨d, 0, none⟩), .string ⟨#[0, 0]⟩] w2 (.int .i64 0) w3 := hc2
      clear hs hinv hs2 hs3 hs4 e1 e2 e3 e4 e5 f0 l0 f1 l1 f2 hfits f3 l3 hc2
      go_wp2_with fail
      refine hc1.out.mono ?_; rintro e w' ⟨rfl, rfl⟩
      go_wp2_with fail
      refine hc2'.out.mono ?_; rintro e w' ⟨rfl, rfl⟩
      go_wp2_with fail
      refine hc3.out.mono ?_; rintro e w' ⟨rfl, rfl⟩
      go_wp2_with fail
      refine hsy.mono ?_; rintro e w5 ⟨rfl, hs5⟩
      replace hs5 : Since w w5 d m3 := hs5
      obtain ⟨w6, hc5, hs6⟩ := hs5.create nmOther (by have := F3.out; omega) (by have := L3.out; omega)
      rw [E5.out] at hc5 hs6
      unfold nmOther at hc5
      have HS := Lib.hid hs6
      clear hs5 hs6 hsy
      go_wp2_with fail
      refine hc5.out.mono ?_; rintro e w' ⟨rfl, rfl⟩
      go_wp2_with fail
      go_ret
      exact ⟨rfl, HS.out.1.below⟩
end Go.Proofs.Ytlinkpjneehnbaa
