/- A part of the proof. -/
import Derived.Test.YtddnikpdmjogiaaGreatYb0
import Derived.Test.YtddnikpdmjogiaaGreatYb7
namespace Go.Proofs.YtddnikpdmjogiaaGreat
set_option linter.unusedVariables false
open Go.RowKit Go.MapKept
theorem add_shift {n m k : Nat} (hb : n + m * 2 ^ (7 * k) < 18446744073709551616) : IntKind.u64.wrap ((n : Int) + IntKind.u64.wrap ((m : Int) * 2 ^ (7 * k))) = ((n + m * 2 ^ (7 * k) : Nat) : Int) := by
 have e : (m : Int) * 2 ^ (7 * k) = ((m * 2 ^ (7 * k) : Nat) : Int) := by simp
 have hw : IntKind.u64.wrap ((m * 2 ^ (7 * k) : Nat) : Int) = ((m * 2 ^ (7 * k) : Nat) : Int) := by rw [IntKind.wrap_u64]; omega
 rw [e, hw, IntKind.wrap_u64]
 omega
set_option maxRecDepth 100000 in
set_option maxHeartbeats 1000000 in
theorem rreadcount_calls {w : World} {v : Value} {b : List UInt8} (h : Reads w v b) : Calls Tryz.prog 89 #[v] w (QuietP w (rcVal (readCountOf b))) := by
 obtain ⟨a, c, rfl, hc1, hc2⟩ := h.form
 have H := hyd h
 unfold maxLen at hc2
 have jl : (b.length : Int) ≤ 9223372036854775807 := by omega
 clear h hc1 hc2
 go_enter Tryz.func89, Tryz.ntmps89
 go_wp2_with fail
 go_loopw [5, 6] (fun nv iv wr => ∃ k n : Nat, k ≤ b.length ∧ k ≤ 9 ∧ n < 2 ^ (7 * k) ∧ iv = .int .i64 (k : Int) ∧ nv = .int .u64 (n : Int) ∧ readCountOf b = rcFrom (b.drop k) k n ∧ Keeps (fun _ => False) w wr) (fun _ i _ => b.length - (intOf i).toNat)
 case atStart => exact ⟨0, 0, Nat.zero_le _, by omega, by simp, rfl, rfl, rfl, Keeps.refl _ _⟩
 case round =>
  obtain ⟨k, n, hk, hk9, hn, rfl, rfl, hr, hq⟩ := hrel
  have j0 : (0 : Int) ≤ k := by omega
  have HQ := hyd hq
  by_cases hlt : k < b.length
  ·obtain ⟨x, rfl, hx⟩ := (H.out.keep hq).cell rfl hlt
   have hst := rc_step hlt hr
   have hcb := b[k].toNat_lt
   have hp := pow_7k hk9
   generalize b[k].toNat = z at hx hst hcb
   have j1 : (k : Int) < b.length := by omega
   have z0 : (0 : Int) ≤ z := by omega
   have z1 : (z : Int) < 256 := by omega
   clear hr hq
   by_cases hA : k = 9 ∧ 1 < z
   ·rw [if_pos (.inl hA)] at hst
    obtain ⟨rfl, h1⟩ := hA
    have ez : (1 : Int) < z := by omega
    have j1' : (9 : Int) < b.length := by omega
    simp only [Addr.add_succ'] at hx
    clear hn hp hcb j0 j1 hk hk9 h1
    go_wp2_with fail
    go_ret3
    exact ⟨by rw [hst]; rfl, HQ.out⟩
   by_cases h0 : 0 < k ∧ z = 0
   ·rw [if_pos (.inr h0)] at hst
    obtain ⟨h01, rfl⟩ := h0
    have k1 : (0 : Int) < k := by omega
    clear hn hp hcb hA z0 z1
    by_cases e9 : k = 9
    ·subst e9
     have j1' : (9 : Int) < b.length := by omega
     simp only [Addr.add_succ'] at hx
     clear j0 j1 hk hk9 k1
     go_wp2_with fail
     go_ret3
     exact ⟨by rw [hst]; rfl, HQ.out⟩
    ·have e9' : ¬ (k : Int) = 9 := by omega
     clear e9
     go_wp2_with fail
     go_ret3
     exact ⟨by rw [hst]; rfl, HQ.out⟩
   rw [if_neg (by rintro (h | h); exact hA h; exact h0 h)] at hst
   by_cases e9 : k = 9
   ·subst e9
    obtain rfl : z = 1 := by omega
    have j1' : (9 : Int) < b.length := by omega
    have e63 : (2 : Nat) ^ (7 * 9) = 9223372036854775808 := by decide
    have hor := add_shift (n := n) (m := 1) (k := 9) (by rw [e63]; rw [e63] at hn; omega)
    have hor' : IntKind.u64.wrap ((n : Int) + IntKind.u64.wrap 9223372036854775808) = ((n + 9223372036854775808 : Nat) : Int) := by
     rw [e63] at hor
     simpa using hor
    have hw : IntKind.u64.wrap 9223372036854775808 = 9223372036854775808 := by decide
    have hor2 := hor'
    rw [hw] at hor2
    rw [if_pos (by omega), e63, Nat.one_mul] at hst
    simp only [Addr.add_succ'] at hx
    clear hn hp hcb j0 j1 hk hk9 hA h0 hor e63 z0 z1
    generalize n + 9223372036854775808 = n2 at hor' hor2 hst
    go_wp2_with fail
    go_ret3
    exact ⟨by rw [hst]; rfl, HQ.out⟩
   have hand : (z : Int) % 128 = ((z % 128 : Nat) : Int) := by omega
   have e9' : ¬ (k : Int) = 9 := by omega
   have hor := add_shift (n := n) (m := z % 128) (k := k) (by
    have := Nat.mul_le_mul_right (2 ^ (7 * k)) (show z % 128 ≤ 127 by omega)
    have h2 : 2 ^ (7 * (k + 1)) ≤ 2 ^ (7 * 9) := Nat.pow_le_pow_right (by omega) (by omega)
    have h63 : (2 : Nat) ^ (7 * 9) = 9223372036854775808 := by decide
    rw [h63, pow_7] at h2
    omega)
   have hn2 : n + (z % 128) * 2 ^ (7 * k) < 2 ^ (7 * (k + 1)) := by
    have := Nat.mul_le_mul_right (2 ^ (7 * k)) (show z % 128 ≤ 127 by omega)
    rw [pow_7]; omega
   have k9 : k + 1 ≤ 9 := by omega
   have kl : k + 1 ≤ b.length := by omega
   generalize n + (z % 128) * 2 ^ (7 * k) = n2 at hor hst hn2
   have k8 : (k : Int) ≤ 8 := by omega
   generalize hm : z % 128 = m at hand hor
   have m0 : (0 : Int) ≤ m := by omega
   have m1 : (m : Int) < 128 := by omega
   by_cases hz : z < 128
   ·obtain rfl : z = m := by omega
    have z2 : (z : Int) < 128 := by omega
    rw [if_pos hz] at hst
    by_cases hzz : z = 0
    ·obtain rfl : k = 0 := by omega
     subst hzz
     have hor0 : IntKind.u64.wrap ((n : Int) + IntKind.u64.wrap 0) = (n2 : Int) := by simpa using hor
     have hor1 : IntKind.u64.wrap (n : Int) = (n2 : Int) := by
      have : IntKind.u64.wrap 0 = 0 := by decide
      rw [this] at hor0; simpa using hor0
     simp only [Addr.add_zero'] at hx
     have j1' : (0 : Int) < b.length := by omega
     clear hn hp hcb hm hz hA h0 e9 z0 z1 z2 hn2 hor hand k9 kl hk hk9 j0 j1 k8 m0 m1
     go_wp2_with fail
     go_ret3
     exact ⟨by rw [hst]; rfl, HQ.out⟩
    ·have hzz' : ¬ (z : Int) = 0 := by omega
     clear hn hp hcb hm hz hA h0 e9 hn2 hk hk9 hzz k9 kl
     go_wp2_with fail
     all_goals go_ret3
     all_goals exact ⟨by rw [hst]; rfl, HQ.out⟩
   ·have z2 : ¬ (z : Int) < 128 := by omega
    rw [if_neg hz] at hst
    have HREL := hyd (⟨k + 1, n2, kl, k9, hn2, rfl, rfl, hst, HQ.out⟩ : ∃ k' n' : Nat, k' ≤ b.length ∧ k' ≤ 9 ∧ n' < 2 ^ (7 * k') ∧ Value.int .i64 ((k + 1 : Nat) : Int) = .int .i64 (k' : Int) ∧ Value.int .u64 (n2 : Int) = .int .u64 (n' : Int) ∧ readCountOf b = rcFrom (b.drop k') k' n' ∧ Keeps (fun _ => False) w wr)
    clear hn hp hcb hm hz hA h0 e9 hn2 hk hk9 k9 kl hst HQ
    go_wp2_with fail
    all_goals
     go_roundw
     case rel => exact HREL.out
     case measure => simp [intOf]; omega
  ·obtain rfl : k = b.length := by omega
   rw [List.drop_length] at hr
   clear hk hn hk9 hq
   go_wp2_with fail
   go_ret3
   exact ⟨by rw [hr]; rfl, HQ.out⟩
set_option maxRecDepth 100000 in
set_option maxHeartbeats 1000000 in
theorem rreadtext_calls {w : World} {v : Value} {b : List UInt8} (h : Reads w v b) (hb : b.length ≤ 1099511627776) (most : Nat) (hm : most ≤ 1048576) : Calls Tryz.prog 90 #[v, .int .i64 (most : Int)] w (RTPost w (readTextOf b most)) := by
 have HC := hyd (rreadcount_calls h)
 have hle := readCount_le b
 have hlt := readCount_lt b
 obtain ⟨n, u, e, hr⟩ : ∃ n u e, readCountOf b = (n, u, e) := ⟨_, _, _, rfl⟩
 have hrt : readTextOf b most = if e = 0 then (if most < n then ([], 0, 8) else if b.length - u < n then ([], 0, 9) else ((b.drop u).take n, u + n, 0)) else ([], 0, e) := by unfold readTextOf; rw [hr]
 rw [hr] at HC hle hlt
 simp only at hle hlt
 obtain ⟨a, c, rfl, hc1, hc2⟩ := h.form
 have H := hyd h
 unfold maxLen at hc2
 have i1 : (b.length : Int) ≤ 1099511627776 := by omega
 have i2 : (u : Int) ≤ b.length := by omega
 have i3 : (n : Int) < 18446744073709551616 := by omega
 have i4 : (0 : Int) ≤ n := by omega
 have i5 : (0 : Int) ≤ u := by omega
 have m0 : (0 : Int) ≤ most := by omega
 have m1 : (most : Int) ≤ 1048576 := by omega
 have hwm : IntKind.u64.wrap (most : Int) = most := by rw [IntKind.wrap_u64]; omega
 obtain ⟨d, hd⟩ : ∃ d : Nat, (b.length : Int) - (u : Int) = (d : Int) := ⟨b.length - u, by omega⟩
 have hdd : b.length - u = d := by omega
 have d0 : (0 : Int) ≤ d := by omega
 have d1 : (d : Int) ≤ 1099511627776 := by omega
 rw [hdd] at hrt
 have HRT := hyd hrt
 have HDD := hyd hdd
 clear hdd
 clear h hrt hlt
 go_enter Tryz.func90, Tryz.ntmps90
 go_wp2_with fail
 refine HC.out.mono ?_
 rintro e1 w1 ⟨rfl, hk1⟩
 have HK1 := hyd hk1
 have H1 := hyd (H.out.keep hk1)
 clear hk1 HC
 unfold rcVal
 clear hr hle hb hm
 by_cases he : e = 0
 ·subst he
  rw [if_pos rfl] at HRT
  by_cases h8 : most < n
  ·rw [if_pos h8] at HRT
   have j8 : (most : Int) < n := by omega
   clear h8 hc1 hc2
   go_wp2_with fail
   go_ret3
   exact ⟨_, by rw [HRT.out]; rfl, by rw [HRT.out]; exact Owns.nil _ _, HK1.out⟩
  rw [if_neg h8] at HRT
  have j8 : decide (most < n) = false := by simpa using h8
  have j8' : (n : Int) ≤ most := by omega
  have HJ8 := hyd j8'
  clear j8'
  by_cases h9 : d < n
  ·rw [if_pos h9] at HRT
   have j9 : (d : Int) < n := by omega
   clear h8 h9 hc1 hc2 i3
   go_wp2_with fail
   go_ret3
   exact ⟨_, by rw [HRT.out]; rfl, by rw [HRT.out]; exact Owns.nil _ _, HK1.out⟩
  rw [if_neg h9] at HRT
  have j9 : decide (d < n) = false := by simpa using h9
  have hdd := HDD.out
  have i6 : (u : Int) + n ≤ b.length := by omega
  have n1 : (n : Int) ≤ 1048576 := by have := HJ8.out; omega
  have hrd := H.out
  have hwn : IntKind.i64.wrap (n : Int) = n := by simp [IntKind.wrap, IntKind.bits, IntKind.signed]; omega
  have HN := hyd (show u + n ≤ b.length by omega)
  have HN2 := hyd (show n ≤ 1048576 by omega)
  clear h8 h9 hdd hc1 hc2 H1 i3 hrd
  go_wp2_with fail
  go_loopw [10, 11] (fun ov iv wx => ∃ k : Nat, k ≤ n ∧ iv = .int .i64 (k : Int) ∧ Owns wx w.heap.size ov ((b.drop u).take k) ∧ Keeps (fun _ => False) w wx) (fun _ iv _ => n - (intOf iv).toNat)
  case atStart => exact ⟨0, Nat.zero_le _, rfl, by rw [List.take_zero]; exact Owns.nil _ _, HK1.out⟩
  case round =>
   obtain ⟨k, hk, rfl, ho, hq⟩ := hrel
   obtain ⟨oa, on, oc, rfl⟩ := slice_form ho
   have k0 : (0 : Int) ≤ k := by omega
   by_cases hlt : k < n
   ·have hub := HN.out
    have hnb := HN2.out
    obtain ⟨x, rfl, hx⟩ := (H.out.keep hq).cell rfl (show u + k < b.length by omega)
    have k1 : (k : Int) < n := by omega
    have k2 : (u : Int) + k < b.length := by omega
    have hsn : (b.drop u).take (k + 1) = (b.drop u).take k ++ [b[u + k]] := by
     rw [List.take_add_one, List.getElem?_drop, List.getElem?_eq_getElem (by omega)]; rfl
    have hlen : ((b.drop u).take k).length = k := by rw [List.length_take, List.length_drop]; omega
    generalize b[u + k] = z at hx hsn
    obtain ⟨v', w3, hrun, ho3, hk3⟩ := Owns.grow (wr := wr.alloc (.cells #[.int .u8 (z.toNat : Int)] 5)) (by rw [World.size_alloc]; have := hq.size; omega) (ho.keep ((Keeps.refl (fun _ => False) wr).alloc _)) (one_byte wr z) (by simp; omega)
    obtain ⟨va, vn, vc, rfl⟩ := slice_form ho3
    have hk4 : Keeps (fun _ => False) w w3 := (hq.trans ((Keeps.refl (fun _ => False) wr).alloc _) (fun _ _ e => e)).trans hk3 (fun b hb e => by have := owns_lt ho b e; omega)
    rw [← hsn] at ho3
    have HRUN := hyd hrun
    have HREL := hyd (⟨k + 1, by omega, rfl, ho3, hk4⟩ : ∃ k' : Nat, k' ≤ n ∧ Value.int .i64 ((k + 1 : Nat) : Int) = .int .i64 (k' : Int) ∧ Owns w3 w.heap.size (.slice va vn vc) ((b.drop u).take k') ∧ Keeps (fun _ => False) w w3)
    have hkn : k + 1 ≤ n := by omega
    clear hrun ho3 hk3 hk4 hsn hlen ho hq hk hlt hub hnb
    go_wp2_with (first | (at_builtin; refine wpList_append_run rfl _ _ _ _ rfl rfl rfl HRUN.out ?_))
    go_roundw
    case rel => exact HREL.out
    case measure => simp [intOf]; omega
   ·obtain rfl : k = n := by omega
    have hx9 : IntKind.i64.wrap ((u : Int) + k) = ((u + k : Nat) : Int) := by simp [IntKind.wrap, IntKind.bits, IntKind.signed]; omega
    have HF := hyd (⟨_, by rw [HRT.out], by rw [HRT.out]; exact ho, hq⟩ : RTPost w (readTextOf b most) (.returned (.tuple #[.slice oa on oc, .int .i64 ((u + k : Nat) : Int), .int .i64 0])) wr)
    clear ho hq hk hlt
    go_wp2_with fail
    go_ret3
    exact HF.out
 ·rw [if_neg he] at HRT
  have he2 : (e != 0) = true := by simpa using he
  clear he hc1 hc2
  go_wp2_with fail
  go_ret3
  exact ⟨_, by rw [HRT.out]; rfl, by rw [HRT.out]; exact Owns.nil _ _, HK1.out⟩
end Go.Proofs.YtddnikpdmjogiaaGreat
