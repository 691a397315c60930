/- The walk of DiskFull. -/
import Derived.Test.YtlinkpjneehnbaaFullW
namespace Go.Proofs.Ytlinkpjneehnbaa
open Go.RowKit Go.MapKept

set_option maxRecDepth 100000 in
set_option maxHeartbeats 2000000 in
theorem full_walk (a0 : Int) (w : World) (x : Addr) (len cap : Nat) (zs : List Int) (hlc : len ≤ cap) (hcm : cap ≤ maxLen) (hcap : ¬ cap = 0) (hz : zs.length = cap) (hcell : ∀ i, i < zs.length → w.cell? (x.add i) = some (.int .i64 (zs.getD i 0))) (hx : x.block < w.heap.size) :
    Calls Try.prog 3 #[.int .i64 a0, .slice (some x) len cap] w fun e w' => e = .returned (.bool true) ∧ Below w.heap.size w w' := by
  unfold maxLen at hcm
  obtain ⟨r, hr, hr0, hr1⟩ : ∃ r : Int, wrap64 ((IntKind.u64.wrap a0).tmod 5000) = r ∧ 0 ≤ r ∧ r < 5000 := by
    obtain ⟨n, e, h⟩ := uint_mod a0 5000 (by omega) (by omega)
    exact ⟨n, e, by omega, by omega⟩
  obtain ⟨K, hK⟩ : ∃ K : Nat, (if (50 : Int) < (len : Int) then (50 : Int) else (len : Int)) = (K : Int) := ⟨(if (50 : Int) < (len : Int) then 50 else len), by split <;> simp⟩
  have hKl : K ≤ len := by split at hK <;> omega
  have hK50 : K ≤ 50 := by split at hK <;> omega
  obtain ⟨d, w1, hnew, hs1⟩ := since_new w r hr0 (by omega)
  have haw := hs1.awake
  have k0 : (0 : Int) ≤ (K : Int) := by omega
  have k1 : (K : Int) ≤ (cap : Int) := by omega
  have HC := Lib.hid hcell
  have HZ := Lib.hid hz
  clear hcell hz hs1 hlc
  go_enter Try.func3, Try.ntmps3
  go_wp2_with fail
  refine hnew.out.mono ?_; rintro e w' ⟨rfl, rfl⟩
  go_wp2_with fail
  refine haw.mono ?_; rintro e w2 ⟨rfl, hs2⟩
  obtain ⟨w3, hc1, hs3⟩ := hs2.create nmA (by simp [newOf]) (by simp [newOf])
  rw [full1] at hc1 hs3
  obtain ⟨w4, hc2, hs4⟩ := hs3.create nmB (by simp [fullM1, newOf]) (by simp [fullM1])
  rw [full2] at hc2 hs4
  unfold nmA at hc1
  unfold nmB at hc2
  have hrel0 : FullRel w d r K (.int .i64 0) (.int .i64 0) w4 := ⟨0, 0, fullM r, Nat.zero_le _, rfl, rfl, hs4, full_start r hr0⟩
  have HR0 := Lib.hid hrel0
  clear hs2 hs3 hs4 hrel0
  go_wp2_with fail
  refine hc1.out.mono ?_; rintro e w' ⟨rfl, rfl⟩
  go_wp2_with fail
  refine hc2.out.mono ?_; rintro e w' ⟨rfl, rfl⟩
  go_wp2_with fail
  go_loopw [7, 43] (fun us i wr => FullRel w d r K us i wr) (fun _ i _ => K - (intOf i).toNat)
  case atStart => exact HR0.out
  case round =>
    obtain ⟨k, u, m, hk, rfl, rfl, hs, hinv⟩ := hrel
    clear HR0 haw hnew hc1 hc2 hK
    by_cases hlt : k < K
    · obtain ⟨z, hz⟩ : ∃ z, z = zs.getD k 0 := ⟨_, rfl⟩
      have hcz : wr.cell? (x.add k) = some (.int .i64 z) := by
        have := HC.out k (by have := HZ.out; omega)
        rw [hz, ← this]
        have hb : (x.add k).block = x.block := by unfold Addr.add; split <;> rfl
        exact World.cell?_of_block (w := w) (by rw [hb]; exact hs.1.block _ hx (fun e => e))
      obtain ⟨nn, hnn, hnn2⟩ : ∃ nn : Nat, wrap64 ((IntKind.u64.wrap z).tmod 2000) = (nn : Int) ∧ nn < 2000 := uint_mod z 2000 (by omega) (by omega)
      have j0 : (0 : Int) ≤ k := by omega
      have j1 : (k : Int) < K := by omega
      clear hz
      by_cases hpar : k % 2 = 0
      · have hp1 : (k : Int).tmod 2 = 0 := by rw [Int.tmod_eq_emod_of_nonneg (by omega)]; omega
        have hp2 : (k : Int) % 2 = 0 := by omega
        have hex : (⟨#[97, 98]⟩ : ByteArray).extract 0 1 = ⟨#[97]⟩ := by rfl
        obtain ⟨wm, hmk, hBm, hkm⟩ := make_bytes wr nn (by omega)
        have hs2 := hs.quiet hkm
        have hroom := hinv.room
        have hfit := hinv.fits
        have hus := hinv.used
        have hlo := hinv.loose
        have hfz := hinv.calm.fuse
        have happ := hs2.append nmA hBm (by omega) (by omega) (by omega) (by omega) (by omega)
        rcases full_append hinv hs.2.nodup (n := nn) (by omega) (nm := nmA) (.inl rfl) with ⟨hf, eA⟩ | ⟨hf, m', eA, hinv2⟩
        · rw [eA] at happ
          unfold nmA at happ
          have HI := Lib.hid hinv
          have HU := Lib.hid hus
          clear hs hs2 hinv hBm hkm eA hus hfz hroom hlo hpar
          go_wp2_with fail
          refine happ.mono ?_
          rintro e w2 ⟨rfl, hs3⟩
          have hused : Calls Try.prog 22 #[.pointer (some ⟨d, 0, none⟩)] w2 fun e w' => e = .returned (.int .i64 (u : Int)) ∧ Since w w' d m := by
            have := hs3.used (by have := HU.out; simp only; omega)
            unfold UPost at this
            simp only [HU.out] at this
            exact this
          clear hs3 happ
          go_wp2_with fail
          refine hused.mono ?_
          rintro e w3 ⟨rfl, hs4⟩
          clear hused
          have hrel2 : FullRel w d r K (.int .i64 (u : Int)) (.int .i64 ((k + 1 : Nat) : Int)) w3 := ⟨k + 1, u, m, by omega, rfl, rfl, hs4, { HI.out with loose := by have := HI.out.loose; omega }⟩
          have HR := Lib.hid hrel2
          clear hs4 hrel2
          go_wp2_with fail
          go_roundw
          case rel => exact HR.out
          case measure => simp [intOf]; omega
        · rw [eA] at happ
          unfold nmA at happ
          have HI := Lib.hid hinv2
          have hus2 := hinv2.used
          have HU := Lib.hid hus2
          have hf2 := hinv2.fits
          have hf3 : (u : Int) + (nn : Int) ≤ r := by omega
          clear hs hs2 hinv hinv2 hBm hkm eA hus hus2 hfz hroom hlo hpar hf2
          go_wp2_with fail
          refine happ.mono ?_
          rintro e w2 ⟨rfl, hs3⟩
          have hused : Calls Try.prog 22 #[.pointer (some ⟨d, 0, none⟩)] w2 fun e w' => e = .returned (.int .i64 ((u : Int) + (nn : Int))) ∧ Since w w' d m' := by
            have := hs3.used (by have := HU.out; simp only; omega)
            unfold UPost at this
            simp only [HU.out, Int.natCast_add] at this
            exact this
          clear hs3 happ
          go_wp2_with fail
          refine hused.mono ?_
          rintro e w3 ⟨rfl, hs4⟩
          clear hused
          have hrel2 : FullRel w d r K (.int .i64 ((u : Int) + (nn : Int))) (.int .i64 ((k + 1 : Nat) : Int)) w3 := ⟨k + 1, u + nn, m', by omega, rfl, by rw [Int.natCast_add], hs4, { HI.out with loose := by have := HI.out.loose; omega }⟩
          have HR := Lib.hid hrel2
          clear hs4 hrel2
          go_wp2_with fail
          go_roundw
          case rel => exact HR.out
          case measure => simp [intOf]; omega
      · have hp1 : (k : Int).tmod 2 = 1 := by rw [Int.tmod_eq_emod_of_nonneg (by omega)]; omega
        have hp2 : (k : Int) % 2 = 1 := by omega
        have hex : (⟨#[97, 98]⟩ : ByteArray).extract 1 2 = ⟨#[98]⟩ := by rfl
        obtain ⟨wm, hmk, hBm, hkm⟩ := make_bytes wr nn (by omega)
        have hs2 := hs.quiet hkm
        have hroom := hinv.room
        have hfit := hinv.fits
        have hus := hinv.used
        have hlo := hinv.loose
        have hfz := hinv.calm.fuse
        have happ := hs2.append nmB hBm (by omega) (by omega) (by omega) (by omega) (by omega)
        rcases full_append hinv hs.2.nodup (n := nn) (by omega) (nm := nmB) (.inr rfl) with ⟨hf, eA⟩ | ⟨hf, m', eA, hinv2⟩
        · rw [eA] at happ
          unfold nmB at happ
          have HI := Lib.hid hinv
          have HU := Lib.hid hus
          clear hs hs2 hinv hBm hkm eA hus hfz hroom hlo hpar
          go_wp2_with fail
          refine happ.mono ?_
          rintro e w2 ⟨rfl, hs3⟩
          have hused : Calls Try.prog 22 #[.pointer (some ⟨d, 0, none⟩)] w2 fun e w' => e = .returned (.int .i64 (u : Int)) ∧ Since w w' d m := by
            have := hs3.used (by have := HU.out; simp only; omega)
            unfold UPost at this
            simp only [HU.out] at this
            exact this
          clear hs3 happ
          go_wp2_with fail
          refine hused.mono ?_
          rintro e w3 ⟨rfl, hs4⟩
          clear hused
          have hrel2 : FullRel w d r K (.int .i64 (u : Int)) (.int .i64 ((k + 1 : Nat) : Int)) w3 := ⟨k + 1, u, m, by omega, rfl, rfl, hs4, { HI.out with loose := by have := HI.out.loose; omega }⟩
          have HR := Lib.hid hrel2
          clear hs4 hrel2
          go_wp2_with fail
          go_roundw
          case rel => exact HR.out
          case measure => simp [intOf]; omega
        · rw [eA] at happ
          unfold nmB at happ
          have HI := Lib.hid hinv2
          have hus2 := hinv2.used
          have HU := Lib.hid hus2
          have hf2 := hinv2.fits
          have hf3 : (u : Int) + (nn : Int) ≤ r := by omega
          clear hs hs2 hinv hinv2 hBm hkm eA hus hus2 hfz hroom hlo hpar hf2
          go_wp2_with fail
          refine happ.mono ?_
          rintro e w2 ⟨rfl, hs3⟩
          have hused : Calls Try.prog 22 #[.pointer (some ⟨d, 0, none⟩)] w2 fun e w' => e = .returned (.int .i64 ((u : Int) + (nn : Int))) ∧ Since w w' d m' := by
            have := hs3.used (by have := HU.out; simp only; omega)
            unfold UPost at this
            simp only [HU.out, Int.natCast_add] at this
            exact this
          clear hs3 happ
          go_wp2_with fail
          refine hused.mono ?_
          rintro e w3 ⟨rfl, hs4⟩
          clear hused
          have hrel2 : FullRel w d r K (.int .i64 ((u : Int) + (nn : Int))) (.int .i64 ((k + 1 : Nat) : Int)) w3 := ⟨k + 1, u + nn, m', by omega, rfl, by rw [Int.natCast_add], hs4, { HI.out with loose := by have := HI.out.loose; omega }⟩
          have HR := Lib.hid hrel2
          clear hs4 hrel2
          go_wp2_with fail
          go_roundw
          case rel => exact HR.out
          case measure => simp [intOf]; omega
    · obtain rfl : k = K := by omega
      clear hlt hk
      obtain ⟨wm, hmk, hBm, hkm⟩ := make_bytes wr 1048577 (by omega)
      have hmk2 : (Instr.makeSlice 31 (.int .i64 1048577) (.int .i64 1048577)).run Try.prog wr = .ok (.slice (some ⟨wr.heap.size, 0, none⟩) 1048577 1048577) wm := hmk
      clear hmk
      have hs2 := hs.quiet hkm
      obtain ⟨eApp, m1, m2, eR1, eR2, eU, ef1, el1⟩ := full_end hinv hs.2.nodup
      have hm0 := hinv.calm.fuse
      have hroom := hinv.room
      have hfit := hinv.fits
      have hus := hinv.used
      have hlo := hinv.loose
      have happ := hs2.append nmA hBm (by omega) (by omega) (by omega) (by omega) (by omega)
      rw [eApp] at happ
      unfold nmA at happ
      have E1 := Lib.hid eR1
      have E2 := Lib.hid eR2
      have EU := Lib.hid eU
      have EF := Lib.hid ef1
      have EL := Lib.hid el1
      have EZ := Lib.hid hm0
      clear hs hs2 hinv hBm hkm eApp eR1 eR2 eU ef1 el1 hus hm0 hroom
      go_wp2_with fail
      refine happ.mono ?_
      rintro e w2 ⟨rfl, hs2⟩
      replace hs2 : Since w w2 d m := hs2
      obtain ⟨w3, hr1, hs3⟩ := hs2.remove nmA (by have := EZ.out; omega) (by omega)
      rw [E1.out] at hr1 hs3
      obtain ⟨w4, hr2, hs4⟩ := hs3.remove nmB (by have := EF.out; simp only; omega) (by have := EL.out; simp only; omega)
      rw [E2.out] at hr2 hs4
      have hused := hs4.used (by have := EU.out; simp only; omega)
      unfold UPost at hused
      simp only [EU.out] at hused
      unfold nmA at hr1
      unfold nmB at hr2
      clear hs2 hs3 hs4
      go_wp2_with fail
      refine hr1.out.mono ?_; rintro e w' ⟨rfl, rfl⟩
      go_wp2_with fail
      refine hr2.out.mono ?_; rintro e w' ⟨rfl, rfl⟩
      go_wp2_with fail
      refine hused.mono ?_; rintro e w' ⟨rfl, hs5⟩
      clear hused happ
      go_wp2_with fail
      go_ret
      exact ⟨rfl, hs5.1.below⟩



set_option maxRecDepth 100000 in
set_option maxHeartbeats 2000000 in
theorem full_walk0 (a0 : Int) (w : World) (x : Option Addr) :
    Calls Try.prog 3 #[.int .i64 a0, .slice x 0 0] w fun e w' => e = .returned (.bool true) ∧ Below w.heap.size w w' := by
  obtain ⟨r, hr, hr0, hr1⟩ : ∃ r : Int, wrap64 ((IntKind.u64.wrap a0).tmod 5000) = r ∧ 0 ≤ r ∧ r < 5000 := by
    obtain ⟨n, e, h⟩ := uint_mod a0 5000 (by omega) (by omega)
    exact ⟨n, e, by omega, by omega⟩
  obtain ⟨d, w1, hnew, hs1⟩ := since_new w r hr0 (by omega)
  have haw := hs1.awake
  clear hs1
  go_enter Try.func3, Try.ntmps3
  go_wp2_with fail
  refine hnew.out.mono ?_; rintro e w' ⟨rfl, rfl⟩
  go_wp2_with fail
  refine haw.mono ?_; rintro e w2 ⟨rfl, hs2⟩
  obtain ⟨w3, hc1, hs3⟩ := hs2.create nmA (by simp [newOf]) (by simp [newOf])
  rw [full1] at hc1 hs3
  obtain ⟨w4, hc2, hs4⟩ := hs3.create nmB (by simp [fullM1, newOf]) (by simp [fullM1])
  rw [full2] at hc2 hs4
  unfold nmA at hc1
  unfold nmB at hc2
  have hinv := full_start r hr0
  have HS := Lib.hid hs4
  have HI := Lib.hid hinv
  clear hs2 hs3 hs4 hinv
  go_wp2_with fail
  refine hc1.out.mono ?_; rintro e w' ⟨rfl, rfl⟩
  go_wp2_with fail
  refine hc2.out.mono ?_; rintro e w' ⟨rfl, rfl⟩
  go_wp2_with fail
  refine wp_loop_rounds 1 ?_
  rw [rounds_succ]
  have hs := HS.out
  have hinv := HI.out
  obtain ⟨wm, hmk, hBm, hkm⟩ := make_bytes w4 1048577 (by omega)
  have hmk2 : (Instr.makeSlice 31 (.int .i64 1048577) (.int .i64 1048577)).run Try.prog w4 = .ok (.slice (some ⟨w4.heap.size, 0, none⟩) 1048577 1048577) wm := hmk
  clear hmk
  have hs2 := hs.quiet hkm
  obtain ⟨eApp, m1, m2, eR1, eR2, eU, ef1, el1⟩ := full_end hinv hs.2.nodup
  have hm0 := hinv.calm.fuse
  have hroom := hinv.room
  have hfit := hinv.fits
  have hus := hinv.used
  have hlo := hinv.loose
  have happ := hs2.append nmA hBm (by omega) (by omega) (by omega) (by omega) (by omega)
  rw [eApp] at happ
  unfold nmA at happ
  have E1 := Lib.hid eR1
  have E2 := Lib.hid eR2
  have EU := Lib.hid eU
  have EF := Lib.hid ef1
  have EL := Lib.hid el1
  have EZ := Lib.hid hm0
  clear HS HI hs hs2 hinv hBm hkm eApp eR1 eR2 eU ef1 el1 hus hm0 hroom
  go_wp2_with fail
  refine happ.mono ?_
  rintro e w2 ⟨rfl, hs2⟩
  replace hs2 : Since w w2 d (fullM r) := hs2
  obtain ⟨w3, hr1, hs3⟩ := hs2.remove nmA (by have := EZ.out; omega) (by omega)
  rw [E1.out] at hr1 hs3
  obtain ⟨w4, hr2, hs4⟩ := hs3.remove nmB (by have := EF.out; simp only; omega) (by have := EL.out; simp only; omega)
  rw [E2.out] at hr2 hs4
  have hused := hs4.used (by have := EU.out; simp only; omega)
  unfold UPost at hused
  simp only [EU.out] at hused
  unfold nmA at hr1
  unfold nmB at hr2
  clear hs2 hs3 hs4
  go_wp2_with fail
  refine hr1.out.mono ?_; rintro e w' ⟨rfl, rfl⟩
  go_wp2_with fail
  refine hr2.out.mono ?_; rintro e w' ⟨rfl, rfl⟩
  go_wp2_with fail
  refine hused.mono ?_; rintro e w' ⟨rfl, hs5⟩
  clear hused happ
  go_wp2_with fail
  go_ret
  exact ⟨rfl, hs5.1.below⟩
end Go.Proofs.Ytlinkpjneehnbaa
