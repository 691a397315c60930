/- The document's Count. -/
import Derived.Test.YtaeabdghlkdkjaaCnt
namespace Go.Proofs.Ytaeabdghlkdkjaa
set_option linter.unusedVariables false
open Go.RowKit Go.MapKept

set_option maxRecDepth 100000 in
set_option maxHeartbeats 1000000 in
theorem rcount_calls (w : World) (n : Nat) (hn : n < 18446744073709551616) : Calls Try.prog 57 #[.int .u64 (n : Int)] w (BytesPost w (countOf n)) := by
  have hlen := countOf_len10 hn
  have HL := Lib.hid hlen
  have HN := Lib.hid hn
  clear hlen hn
  go_enter Try.func57, Try.ntmps57
  go_wp2_with fail
  go_loopw [0, 3] (fun nv ov wx => ∃ (m : Nat) (out : List UInt8), nv = .int .u64 (m : Int) ∧ m ≤ n ∧ countOf n = out ++ countOf m ∧ Owns wx w.heap.size ov out ∧ Keeps (fun _ => False) w wx) (fun nv _ _ => (intOf nv).toNat)
  case atStart => exact ⟨n, [], rfl, Nat.le_refl _, rfl, ⟨rfl, .inl ⟨rfl, rfl⟩⟩, Keeps.refl _ _⟩
  case round =>
    obtain ⟨m, out, rfl, hm, hc, ho, hk⟩ := hrel
    have m0 : (0 : Int) ≤ m := by omega
    have hol : out.length ≤ 10 := by have := HL.out; rw [hc, List.length_append] at this; omega
    obtain ⟨oa, oc, rfl, _, _⟩ := ho.bytes.form
    have hz := hk.size
    by_cases h128 : m < 128
    · have b0 : ¬ (127 : Int) < (m : Int) := by omega
      have ez : (((UInt8.ofNat m).toNat : Nat) : Int) = (m : Int) := by simp; omega
      obtain ⟨v', w3, hrun, ho3, hk3⟩ := Owns.grow (wr := wr.alloc (.cells #[.int .u8 ((UInt8.ofNat m).toNat : Int)] 5)) (by rw [World.size_alloc]; omega) (ho.keep ((Keeps.refl (fun _ => False) wr).alloc _)) (one_byte wr (UInt8.ofNat m)) (by simp; omega)
      rw [countOf_small h128] at hc
      rw [← hc] at ho3
      obtain ⟨va, vc, rfl, _, _⟩ := ho3.bytes.form
      have hk4 : Keeps (fun _ => False) w w3 := (hk.trans ((Keeps.refl (fun _ => False) wr).alloc _) (fun _ _ e => e)).trans hk3 (fun b hb e => by have := owns_lt ho b e; omega)
      rw [ez] at hrun
      have HRUN := Lib.hid hrun
      clear hrun
      have HO := Lib.hid ho3
      have HK := Lib.hid hk4
      clear ho3 hk3 hk4 ho hk hc h128 hz ez
      go_wp2_with (first | (at_builtin; refine wpList_append_run rfl _ _ _ _ rfl rfl rfl HRUN.out ?_))
      go_ret
      exact ⟨_, rfl, HO.out, HK.out⟩
    · have b0 : (127 : Int) < (m : Int) := by omega
      have hsh : IntKind.u64.wrap ((m : Int) / 128) = ((m / 128 : Nat) : Int) := by
        have := HN.out
        have e : (m : Int) / 128 = ((m / 128 : Nat) : Int) := by omega
        rw [e]; simp only [IntKind.wrap, IntKind.bits, IntKind.signed]; simp; omega
      have hw : 128 + (m : Int) % 128 = (((UInt8.ofNat (m % 128 + 128)).toNat : Nat) : Int) := by simp; omega
      obtain ⟨v', w3, hrun, ho3, hk3⟩ := Owns.grow (wr := wr.alloc (.cells #[.int .u8 ((UInt8.ofNat (m % 128 + 128)).toNat : Int)] 5)) (by rw [World.size_alloc]; omega) (ho.keep ((Keeps.refl (fun _ => False) wr).alloc _)) (one_byte wr (UInt8.ofNat (m % 128 + 128))) (by simp; omega)
      obtain ⟨va, vc, rfl, _, _⟩ := ho3.bytes.form
      have hc2 : countOf n = (out ++ [UInt8.ofNat (m % 128 + 128)]) ++ countOf (m / 128) := by rw [hc, countOf_big h128]; simp
      have hk4 : Keeps (fun _ => False) w w3 := (hk.trans ((Keeps.refl (fun _ => False) wr).alloc _) (fun _ _ e => e)).trans hk3 (fun b hb e => by have := owns_lt ho b e; omega)
      have HRUN := Lib.hid hrun
      have HREL := Lib.hid (⟨m / 128, _, rfl, by omega, hc2, ho3, hk4⟩ : ∃ (m' : Nat) (out' : List UInt8), Value.int .u64 ((m / 128 : Nat) : Int) = .int .u64 (m' : Int) ∧ m' ≤ n ∧ countOf n = out' ++ countOf m' ∧ Owns w3 w.heap.size _ out' ∧ Keeps (fun _ => False) w w3)
      have HM := Lib.hid (by omega : m / 128 < m)
      generalize ((UInt8.ofNat (m % 128 + 128)).toNat : Int) = z at hw HRUN
      clear hrun ho3 hk3 hk4 ho hk hc hc2 h128 hz
      go_wp2_with (first | (at_builtin; refine wpList_append_run rfl _ _ _ _ rfl rfl rfl HRUN.out ?_))
      go_roundw
      case rel =>
        obtain ⟨m', out', e1, h1, h2, h3, h4⟩ := HREL.out
        rw [List.length_append] at h3
        exact ⟨m', out', by rw [← e1]; rfl, h1, h2, h3, h4⟩
      case measure => have := HM.out; simp [intOf]; omega
set_option maxRecDepth 100000 in
set_option maxHeartbeats 1000000 in
theorem rtext_calls {w : World} {v : Value} {p : List UInt8} (hp : Reads w v p) (hl : p.length ≤ 1099511627776) : Calls Try.prog 58 #[v] w (BytesPost w (textOf p)) := by
  obtain ⟨pa, pc, rfl, _, _⟩ := hp.form
  have hc := rcount_calls w p.length (by omega)
  have hlen := countOf_len10 (n := p.length) (by omega)
  have H := Lib.hid hp
  have HLN := Lib.hid hlen
  have HPL := Lib.hid hl
  have i1 : (p.length : Int) ≤ 1099511627776 := by omega
  have i0 : (0 : Int) ≤ (p.length : Int) := by omega
  clear hp hlen hl
  go_enter Try.func58, Try.ntmps58
  go_wp2_with fail
  refine hc.mono ?_
  rintro e w1 ⟨cv, rfl, ho1, hk1⟩
  have HO1 := Lib.hid ho1
  have HK1 := Lib.hid hk1
  clear ho1 hk1 hc
  go_wp2_with fail
  go_loopw [3, 4] (fun ov iv wx => ∃ k : Nat, k ≤ p.length ∧ iv = .int .i64 (k : Int) ∧ Owns wx w.heap.size ov (countOf p.length ++ p.take k) ∧ Keeps (fun _ => False) w wx) (fun _ iv _ => p.length - (intOf iv).toNat)
  case atStart => exact ⟨0, Nat.zero_le _, rfl, by rw [List.take_zero, List.append_nil]; exact HO1.out, HK1.out⟩
  case round =>
    obtain ⟨k, hk, rfl, ho, hq⟩ := hrel
    clear HO1 HK1
    obtain ⟨aa, ac, rfl, _, _⟩ := ho.bytes.form
    have j0 : (0 : Int) ≤ k := by omega
    by_cases hlt : k < p.length
    · obtain ⟨x, rfl, hx⟩ := (H.out.keep hq).cell rfl hlt
      have j1 : (k : Int) < p.length := by omega
      have hnx : countOf p.length ++ p.take (k + 1) = (countOf p.length ++ p.take k) ++ [p[k]] := by rw [List.take_succ_eq_append_getElem hlt, List.append_assoc]
      have hol : (countOf p.length ++ p.take k).length ≤ 10 + 1099511627776 := by have := HLN.out; have := HPL.out; rw [List.length_append, List.length_take]; omega
      have hqz := hq.size
      have hq2 : Keeps (fun _ => False) wr (wr.alloc (.cells #[.int .u8 (p[k].toNat : Int)] 5)) := (Keeps.refl _ wr).alloc _
      obtain ⟨v', w3, hrun, ho3, hk3⟩ := Owns.grow (by rw [World.size_alloc]; omega) (ho.keep hq2) (one_byte wr p[k]) (by rw [List.length_cons, List.length_nil]; omega)
      rw [← hnx] at ho3
      have hq3 : Keeps (fun _ => False) w w3 := (hq.trans hq2 (fun _ _ e => e)).trans hk3 (fun b hb e => by have := owns_lt ho b e; omega)
      obtain ⟨aa', ac', rfl, _, _⟩ := ho3.bytes.form
      have HR := Lib.hid (⟨k + 1, by omega, rfl, ho3, hq3⟩ : ∃ k' : Nat, k' ≤ p.length ∧ Value.int .i64 ((k + 1 : Nat) : Int) = .int .i64 (k' : Int) ∧ Owns w3 w.heap.size _ (countOf p.length ++ p.take k') ∧ Keeps (fun _ => False) w w3)
      have HRUN := Lib.hid hrun
      have HLT := Lib.hid hlt
      generalize (p[k].toNat : Int) = z at hx HRUN
      generalize (countOf p.length ++ p.take (k + 1)).length = n1 at HR HRUN
      generalize (countOf p.length ++ p.take k).length = n0 at HRUN ⊢
      clear ho hq hq2 ho3 hk3 hq3 hrun hnx hol
      go_wp2_with (first | (at_builtin; refine wpList_append_run rfl _ _ _ _ rfl rfl rfl HRUN.out ?_))
      go_roundw
      case rel => exact HR.out
      case measure => have := HLT.out; simp [intOf]; omega
    · obtain rfl : k = p.length := by omega
      rw [List.take_length] at ho
      have e : p.take p.length = p := List.take_length
      rw [e] at *
      rw [List.length_append] at ho
      have HO := Lib.hid ho
      have HK := Lib.hid hq
      clear ho hq hlt hk
      go_wp2_with fail
      go_ret
      exact ⟨_, rfl, HO.out, HK.out⟩
end Go.Proofs.Ytaeabdghlkdkjaa
