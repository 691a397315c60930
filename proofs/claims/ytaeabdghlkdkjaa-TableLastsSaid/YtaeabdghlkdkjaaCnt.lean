/- Count and Text of layer 1. -/
import Derived.Test.YtaeabdghlkdkjaaCntV
namespace Go.Proofs.Ytaeabdghlkdkjaa
set_option linter.unusedVariables false
open Go.RowKit Go.MapKept

/-- Bytes in new memory are told. -/
def BytesPost (w : World) (l : List UInt8) (e : Ending) (w' : World) : Prop := ∃ v, e = .returned v ∧ Owns w' w.heap.size v l ∧ Keeps (fun _ => False) w w'
theorem or_128 : ∀ k : Nat, k < 256 → bits BinOp.or IntKind.u8 (k : Int) 128 = ((k % 128 + 128 : Nat) : Int) := by decide +kernel
theorem wrap_u8N (m : Nat) : IntKind.u8.wrap (m : Int) = ((m % 256 : Nat) : Int) := by simp [IntKind.wrap, IntKind.bits, IntKind.signed]

set_option maxRecDepth 100000 in
set_option maxHeartbeats 1000000 in
theorem count_calls (w : World) (n : Nat) (hn : n < 18446744073709551616) : Calls Try.prog 55 #[.int .u64 (n : Int)] w (BytesPost w (countOf n)) := by
  have hlen := countOf_len10 hn
  have HL := Lib.hid hlen
  have HN := Lib.hid hn
  clear hlen hn
  go_enter Try.func55, Try.ntmps55
  go_wp2_with fail
  go_loopw [0, 3] (fun nv ov wx => ∃ (m : Nat) (out : List UInt8), nv = .int .u64 (m : Int) ∧ m ≤ n ∧ countOf n = out ++ countOf m ∧ Owns wx w.heap.size ov out ∧ Keeps (fun _ => False) w wx) (fun nv _ _ => (intOf nv).toNat)
  case atStart => exact ⟨n, [], rfl, Nat.le_refl _, rfl, ⟨rfl, .inl ⟨rfl, rfl⟩⟩, Keeps.refl _ _⟩
  case round =>
    obtain ⟨m, out, rfl, hm, hc, ho, hk⟩ := hrel
    have m0 : (0 : Int) ≤ m := by omega
    have hol : out.length ≤ 10 := by have := HL.out; rw [hc, List.length_append] at this; omega
    obtain ⟨oa, oc, rfl, _, _⟩ := ho.bytes.form
    have hz := hk.size
    by_cases h128 : m < 128
    · have b0 : ¬ (128 : Int) ≤ (m : Int) := by omega
      have ez : (((UInt8.ofNat m).toNat : Nat) : Int) = (m : Int) := by simp; omega
      obtain ⟨v', w3, hrun, ho3, hk3⟩ := Owns.grow (wr := wr.alloc (.cells #[.int .u8 ((UInt8.ofNat m).toNat : Int)] 5)) (by rw [World.size_alloc]; omega) (ho.keep ((Keeps.refl (fun _ => False) wr).alloc _)) (one_byte wr (UInt8.ofNat m)) (by simp; omega)
      rw [countOf_small h128] at hc
      rw [← hc] at ho3
      obtain ⟨va, vc, rfl, _, _⟩ := ho3.bytes.form
      have hk4 : Keeps (fun _ => False) w w3 := (hk.trans ((Keeps.refl (fun _ => False) wr).alloc _) (fun _ _ e => e)).trans hk3 (fun b hb e => by have := owns_lt ho b e; omega)
      rw [ez] at hrun
      have HRUN := Lib.hid hrun
      clear hrun
      have HO := Lib.hid ho3
      have HK := Lib.hid hk4
      clear ho3 hk3 hk4 ho hk hc h128 hz ez
      go_wp2_with (first | (at_builtin; refine wpList_append_run rfl _ _ _ _ rfl rfl rfl HRUN.out ?_))
      go_ret
      exact ⟨_, rfl, HO.out, HK.out⟩
    · have b0 : (128 : Int) ≤ (m : Int) := by omega
      have hw : bits BinOp.or IntKind.u8 ((m : Int) % 256) 128 = (((UInt8.ofNat (m % 128 + 128)).toNat : Nat) : Int) := by
        have h1 := or_128 (m % 256) (by omega)
        have e1 : ((m % 256 : Nat) : Int) = (m : Int) % 256 := by omega
        rw [e1] at h1
        rw [h1]
        simp
        omega
      have hsh : (m : Int).fdiv (2 ^ min (Int.toNat 7) IntKind.u64.bits) = ((m / 128 : Nat) : Int) := by
        have : (2 : Int) ^ min (Int.toNat 7) IntKind.u64.bits = 128 := by decide
        rw [this, Int.fdiv_eq_ediv_of_nonneg _ (by omega)]; omega
      obtain ⟨v', w3, hrun, ho3, hk3⟩ := Owns.grow (wr := wr.alloc (.cells #[.int .u8 ((UInt8.ofNat (m % 128 + 128)).toNat : Int)] 5)) (by rw [World.size_alloc]; omega) (ho.keep ((Keeps.refl (fun _ => False) wr).alloc _)) (one_byte wr (UInt8.ofNat (m % 128 + 128))) (by simp; omega)
      obtain ⟨va, vc, rfl, _, _⟩ := ho3.bytes.form
      have hc2 : countOf n = (out ++ [UInt8.ofNat (m % 128 + 128)]) ++ countOf (m / 128) := by rw [hc, countOf_big h128]; simp
      have hk4 : Keeps (fun _ => False) w w3 := (hk.trans ((Keeps.refl (fun _ => False) wr).alloc _) (fun _ _ e => e)).trans hk3 (fun b hb e => by have := owns_lt ho b e; omega)
      have HRUN := Lib.hid hrun
      have HREL := Lib.hid (⟨m / 128, _, rfl, by omega, hc2, ho3, hk4⟩ : ∃ (m' : Nat) (out' : List UInt8), Value.int .u64 ((m / 128 : Nat) : Int) = .int .u64 (m' : Int) ∧ m' ≤ n ∧ countOf n = out' ++ countOf m' ∧ Owns w3 w.heap.size _ out' ∧ Keeps (fun _ => False) w w3)
      have HM := Lib.hid (by omega : m / 128 < m)
      generalize ((UInt8.ofNat (m % 128 + 128)).toNat : Int) = z at hw HRUN
      clear hrun ho3 hk3 hk4 ho hk hc hc2 h128 hz
      go_wp2_with (first | (at_builtin; refine wpList_append_run rfl _ _ _ _ rfl rfl rfl HRUN.out ?_))
      go_roundw
      case rel =>
        obtain ⟨m', out', e1, h1, h2, h3, h4⟩ := HREL.out
        rw [List.length_append] at h3
        exact ⟨m', out', by rw [← e1]; rfl, h1, h2, h3, h4⟩
      case measure => have := HM.out; simp [intOf]; omega
set_option maxRecDepth 100000 in
set_option maxHeartbeats 1000000 in
theorem text_calls {w : World} {v : Value} {p : List UInt8} (hp : Reads w v p) (hl : p.length ≤ 1099511627776) : Calls Try.prog 56 #[v] w (BytesPost w (textOf p)) := by
  obtain ⟨pa, pc, rfl, _, _⟩ := hp.form
  have hc := fun W => count_calls W p.length (by omega)
  have hgr : ∀ (W W1 : World) (cv : Value), Keeps (fun _ => False) w W → W.heap.size = w.heap.size → Owns W1 W.heap.size cv (countOf p.length) → Keeps (fun _ => False) W W1 → ∃ a c w3, (Builtin.append_ #[41, 41] 41 #[cv, .slice pa p.length pc]).run Try.prog W1 = .ok (.slice a (textOf p).length c) w3 ∧ Owns w3 w.heap.size (.slice a (textOf p).length c) (textOf p) ∧ Keeps (fun _ => False) w w3 := fun W W1 cv hk hz ho hk1 => by
    have hlen := countOf_len10 (n := p.length) (by omega)
    obtain ⟨v', w3, hrun, ho3, hk3⟩ := Owns.grow (by have := hk1.size; omega) ho (hp.keep (hk.trans hk1 (fun _ _ e => e))) (by omega)
    obtain ⟨a, c, rfl, _, _⟩ := ho3.bytes.form
    rw [hz] at ho3 ho
    exact ⟨a, c, w3, hrun, ho3, (hk.trans hk1 (fun _ _ e => e)).trans hk3 (fun b hb e => by have := owns_lt ho b e; omega)⟩
  have HC := Lib.hid hc
  have HG := Lib.hid hgr
  have i0 : (0 : Int) ≤ (p.length : Int) := by omega
  have i1 : (p.length : Int) ≤ 1099511627776 := by omega
  clear hp hc hgr hl
  go_enter Try.func56, Try.ntmps56
  go_wp2_with fail
  refine (HC.out w).mono ?_
  rintro e w1 ⟨cv, rfl, ho1, hk1⟩
  obtain ⟨a3, c3, w3, hrun, ho3, hk3⟩ := HG.out w w1 cv (Keeps.refl _ w) rfl ho1 hk1
  obtain ⟨ca, cc, rfl, _, _⟩ := ho1.bytes.form
  have HRUN := Lib.hid hrun
  have HO := Lib.hid ho3
  have HK := Lib.hid hk3
  clear hrun ho3 hk3 ho1 hk1 HG HC
  go_wp2_with (first | (at_builtin; refine wpList_append_run rfl _ _ _ _ rfl rfl rfl HRUN.out ?_))
  go_ret
  exact ⟨_, rfl, HO.out, HK.out⟩
end Go.Proofs.Ytaeabdghlkdkjaa
