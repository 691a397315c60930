/- A part of the proof. -/
import Derived.Test.YtlcnhpjggjgnpaaGreatDoorUlaa3
import Derived.Test.YtlcnhpjggjgnpaaGreatDoorUlaa8
import Derived.Deep.DeepCutAuto
import Derived.Deep.CutBlock
namespace Go.Proofs.YtlcnhpjggjgnpaaGreatDoor
set_option linter.unusedVariables false
open Go.RowKit Go.MapKept
def countOf (n : Nat) : List UInt8 := if n < 128 then [UInt8.ofNat n] else UInt8.ofNat (n % 128 + 128) :: countOf (n / 128)
decreasing_by omega
theorem countOf_small {n : Nat} (h : n < 128) : countOf n = [UInt8.ofNat n] := by rw [countOf, if_pos h]
theorem countOf_big {n : Nat} (h : ¬ n < 128) : countOf n = UInt8.ofNat (n % 128 + 128) :: countOf (n / 128) := by rw [countOf, if_neg h]
theorem countOf_len : ∀ (k n : Nat), n < 128 ^ (k + 1) → (countOf n).length ≤ k + 1
 | 0, n, h => by rw [countOf_small (by simpa using h)]; simp
 | k + 1, n, h => by
  by_cases hn : n < 128
  ·rw [countOf_small hn]; simp
  ·rw [countOf_big hn, List.length_cons]
   have := countOf_len k (n / 128) (by rw [Nat.div_lt_iff_lt_mul (by omega)]; rw [Nat.pow_succ] at h; exact h)
   omega
theorem countOf_len10 {n : Nat} (h : n < 18446744073709551616) : (countOf n).length ≤ 10 := countOf_len 9 n (Nat.lt_of_lt_of_le h (by decide))
def textOf (p : List UInt8) : List UInt8 := countOf p.length ++ p
def rcFrom : List UInt8 → Nat → Nat → Nat × Nat × Int
 | [], _, _ => (0, 0, 9)
 | c :: b, i, n => if (i = 9 ∧ 1 < c.toNat) ∨ (0 < i ∧ c.toNat = 0) then (0, 0, 10) else if c.toNat < 128 then (n + c.toNat * 2 ^ (7 * i), i + 1, 0) else rcFrom b (i + 1) (n + (c.toNat % 128) * 2 ^ (7 * i))
def readCountOf (b : List UInt8) : Nat × Nat × Int := rcFrom b 0 0
structure TCh where
 key : ByteArray
 gone : Bool
 val : List UInt8
def tdo (fs : FS) (c : TCh) : FS := if c.gone = true then fdel fs c.key else fput fs c.key c.val
def tdos (fs : FS) (l : List TCh) : FS := l.foldl tdo fs
theorem FSorted.tdo {fs : FS} (h : FSorted fs) (c : TCh) : FSorted (tdo fs c) := by
 unfold Go.Proofs.YtlcnhpjggjgnpaaGreatDoor.tdo; split
 ·exact h.fdel _
 ·exact h.fput _ _
def badCh (c : TCh) : Bool := decide (c.key.size = 0) || decide (320 < c.key.size) || decide (262144 < c.val.length)
def encCh (c : TCh) : List UInt8 := if c.gone = true then 0 :: textOf c.key.toList else (1 :: textOf c.key.toList) ++ textOf c.val
def encFrom : List TCh → List UInt8 → Int × List UInt8
 | [], out => (0, out)
 | c :: l, out => if badCh c = true then (1, []) else if 1048568 < (out ++ encCh c).length then (8, []) else encFrom l (out ++ encCh c)
def encOf (l : List TCh) : Int × List UInt8 := if 256 < l.length then (8, []) else encFrom l (countOf l.length)
def readTextOf (b : List UInt8) (most : Nat) : List UInt8 × Nat × Int :=
 if (readCountOf b).2.2 = 0 then
  (if most < (readCountOf b).1 then ([], 0, 8) else if b.length - (readCountOf b).2.1 < (readCountOf b).1 then ([], 0, 9) else ((b.drop (readCountOf b).2.1).take (readCountOf b).1, (readCountOf b).2.1 + (readCountOf b).1, 0))
 else ([], 0, (readCountOf b).2.2)
def decCh (b : List UInt8) : Option (TCh × List UInt8) :=
 match b with
 | [] => none
 | k :: b1 =>
  if 1 < k.toNat then none
  else if (readTextOf b1 320).2.2 = 0 ∧ (readTextOf b1 320).1 ≠ [] then
   (if k.toNat = 0 then some (⟨⟨(readTextOf b1 320).1.toArray⟩, true, []⟩, b1.drop (readTextOf b1 320).2.1)
    else if (readTextOf (b1.drop (readTextOf b1 320).2.1) 262144).2.2 = 0 then some (⟨⟨(readTextOf b1 320).1.toArray⟩, false, (readTextOf (b1.drop (readTextOf b1 320).2.1) 262144).1⟩, (b1.drop (readTextOf b1 320).2.1).drop (readTextOf (b1.drop (readTextOf b1 320).2.1) 262144).2.1)
    else none)
  else none
def decFrom : Nat → List UInt8 → List TCh → Option (List TCh)
 | 0, b, out => if b = [] then some out else none
 | n + 1, b, out => match decCh b with | none => none | some (c, b') => decFrom n b' (out ++ [c])
def decOf (b : List UInt8) : Option (List TCh) :=
 if (readCountOf b).2.2 = 0 ∧ (readCountOf b).1 ≤ 256 then decFrom (readCountOf b).1 (b.drop (readCountOf b).2.1) [] else none
theorem blt_asym {a b : ByteArray} (h : blt a b = true) : blt b a = false := by
 cases h2 : blt b a with
 | false => rfl
 | true => have := blt_trans h h2; rw [blt_irrefl] at this; cases this
def BytesPost (w : World) (l : List UInt8) (e : Ending) (w' : World) : Prop := ∃ v, e = .returned v ∧ Owns w' w.heap.size v l ∧ Keeps (fun _ => False) w w'
theorem or_128 : ∀ k : Nat, k < 256 → bits BinOp.or IntKind.u8 (k : Int) 128 = ((k % 128 + 128 : Nat) : Int) := by decide +kernel
set_option maxRecDepth 100000 in
set_option maxHeartbeats 1000000 in
theorem count_calls (w : World) (n : Nat) (hn : n < 18446744073709551616) : Calls Tryz.prog 153 #[.int .u64 (n : Int)] w (BytesPost w (countOf n)) := by
 have hlen := countOf_len10 hn
 have HL := Lib.hid hlen
 have HN := Lib.hid hn
 clear hlen hn
 go_enter Tryz.func153, Tryz.ntmps153
 go_wp2_with fail
 go_loopw [0, 3] (fun nv ov wx => ∃ (m : Nat) (out : List UInt8), nv = .int .u64 (m : Int) ∧ m ≤ n ∧ countOf n = out ++ countOf m ∧ Owns wx w.heap.size ov out ∧ Keeps (fun _ => False) w wx) (fun nv _ _ => (intOf nv).toNat)
 case atStart => exact ⟨n, [], rfl, Nat.le_refl _, rfl, ⟨rfl, .inl ⟨rfl, rfl⟩⟩, Keeps.refl _ _⟩
 case round =>
  obtain ⟨m, out, rfl, hm, hc, ho, hk⟩ := hrel
  have m0 : (0 : Int) ≤ m := by omega
  have hol : out.length ≤ 10 := by have := HL.out; rw [hc, List.length_append] at this; omega
  obtain ⟨oa, oc, rfl, _, _⟩ := ho.bytes.form
  have hz := hk.size
  by_cases h128 : m < 128
  ·have b0 : ¬ (128 : Int) ≤ (m : Int) := by omega
   have ez : (((UInt8.ofNat m).toNat : Nat) : Int) = (m : Int) := by simp; omega
   obtain ⟨v', w3, hrun, ho3, hk3⟩ := Owns.grow (wr := wr.alloc (.cells #[.int .u8 ((UInt8.ofNat m).toNat : Int)] 5)) (by rw [World.size_alloc]; omega) (ho.keep ((Keeps.refl (fun _ => False) wr).alloc _)) (one_byte wr (UInt8.ofNat m)) (by simp; omega)
   rw [countOf_small h128] at hc
   rw [← hc] at ho3
   obtain ⟨va, vc, rfl, _, _⟩ := ho3.bytes.form
   have hk4 : Keeps (fun _ => False) w w3 := (hk.trans ((Keeps.refl (fun _ => False) wr).alloc _) (fun _ _ e => e)).trans hk3 (fun b hb e => by have := owns_lt ho b e; omega)
   rw [ez] at hrun
   have HRUN := Lib.hid hrun
   clear hrun
   have HO := Lib.hid ho3
   have HK := Lib.hid hk4
   clear ho3 hk3 hk4 ho hk hc h128 hz ez
   go_wp2_with (first | (at_builtin; refine wpList_append_run rfl _ _ _ _ rfl rfl rfl HRUN.out ?_))
   go_ret
   exact ⟨_, rfl, HO.out, HK.out⟩
  ·have b0 : (128 : Int) ≤ (m : Int) := by omega
   have hw : bits BinOp.or IntKind.u8 ((m : Int) % 256) 128 = (((UInt8.ofNat (m % 128 + 128)).toNat : Nat) : Int) := by
    have h1 := or_128 (m % 256) (by omega)
    have e1 : ((m % 256 : Nat) : Int) = (m : Int) % 256 := by omega
    rw [e1] at h1
    rw [h1]
    simp
    omega
   have hsh : (m : Int).fdiv (2 ^ min (Int.toNat 7) IntKind.u64.bits) = ((m / 128 : Nat) : Int) := by
    have : (2 : Int) ^ min (Int.toNat 7) IntKind.u64.bits = 128 := by decide
    rw [this, Int.fdiv_eq_ediv_of_nonneg _ (by omega)]; omega
   obtain ⟨v', w3, hrun, ho3, hk3⟩ := Owns.grow (wr := wr.alloc (.cells #[.int .u8 ((UInt8.ofNat (m % 128 + 128)).toNat : Int)] 5)) (by rw [World.size_alloc]; omega) (ho.keep ((Keeps.refl (fun _ => False) wr).alloc _)) (one_byte wr (UInt8.ofNat (m % 128 + 128))) (by simp; omega)
   obtain ⟨va, vc, rfl, _, _⟩ := ho3.bytes.form
   have hc2 : countOf n = (out ++ [UInt8.ofNat (m % 128 + 128)]) ++ countOf (m / 128) := by rw [hc, countOf_big h128]; simp
   have hk4 : Keeps (fun _ => False) w w3 := (hk.trans ((Keeps.refl (fun _ => False) wr).alloc _) (fun _ _ e => e)).trans hk3 (fun b hb e => by have := owns_lt ho b e; omega)
   have HRUN := Lib.hid hrun
   have HREL := Lib.hid (⟨m / 128, _, rfl, by omega, hc2, ho3, hk4⟩ : ∃ (m' : Nat) (out' : List UInt8), Value.int .u64 ((m / 128 : Nat) : Int) = .int .u64 (m' : Int) ∧ m' ≤ n ∧ countOf n = out' ++ countOf m' ∧ Owns w3 w.heap.size _ out' ∧ Keeps (fun _ => False) w w3)
   have HM := Lib.hid (by omega : m / 128 < m)
   generalize ((UInt8.ofNat (m % 128 + 128)).toNat : Int) = z at hw HRUN
   clear hrun ho3 hk3 hk4 ho hk hc hc2 h128 hz
   go_wp2_with (first | (at_builtin; refine wpList_append_run rfl _ _ _ _ rfl rfl rfl HRUN.out ?_))
   go_roundw
   case rel =>
    obtain ⟨m', out', e1, h1, h2, h3, h4⟩ := HREL.out
    rw [List.length_append] at h3
    exact ⟨m', out', by rw [← e1]; rfl, h1, h2, h3, h4⟩
   case measure => have := HM.out; simp [intOf]; omega
set_option maxRecDepth 100000 in
set_option maxHeartbeats 1000000 in
theorem text_calls {w : World} {v : Value} {p : List UInt8} (hp : Reads w v p) (hl : p.length ≤ 1099511627776) : Calls Tryz.prog 154 #[v] w (BytesPost w (textOf p)) := by
 obtain ⟨pa, pc, rfl, _, _⟩ := hp.form
 have hc := fun W => count_calls W p.length (by omega)
 have hgr : ∀ (W W1 : World) (cv : Value), Keeps (fun _ => False) w W → W.heap.size = w.heap.size → Owns W1 W.heap.size cv (countOf p.length) → Keeps (fun _ => False) W W1 → ∃ a c w3, (Builtin.append_ #[22, 22] 22 #[cv, .slice pa p.length pc]).run Tryz.prog W1 = .ok (.slice a (textOf p).length c) w3 ∧ Owns w3 w.heap.size (.slice a (textOf p).length c) (textOf p) ∧ Keeps (fun _ => False) w w3 := fun W W1 cv hk hz ho hk1 => by
  have hlen := countOf_len10 (n := p.length) (by omega)
  obtain ⟨v', w3, hrun, ho3, hk3⟩ := Owns.grow (by have := hk1.size; omega) ho (hp.keep (hk.trans hk1 (fun _ _ e => e))) (by omega)
  obtain ⟨a, c, rfl, _, _⟩ := ho3.bytes.form
  rw [hz] at ho3 ho
  exact ⟨a, c, w3, hrun, ho3, (hk.trans hk1 (fun _ _ e => e)).trans hk3 (fun b hb e => by have := owns_lt ho b e; omega)⟩
 have HC := Lib.hid hc
 have HG := Lib.hid hgr
 have i0 : (0 : Int) ≤ (p.length : Int) := by omega
 have i1 : (p.length : Int) ≤ 1099511627776 := by omega
 clear hp hc hgr hl
 go_enter Tryz.func154, Tryz.ntmps154
 go_wp2_with fail
 refine (HC.out w).mono ?_
 rintro e w1 ⟨cv, rfl, ho1, hk1⟩
 obtain ⟨a3, c3, w3, hrun, ho3, hk3⟩ := HG.out w w1 cv (Keeps.refl _ w) rfl ho1 hk1
 obtain ⟨ca, cc, rfl, _, _⟩ := ho1.bytes.form
 have HRUN := Lib.hid hrun
 have HO := Lib.hid ho3
 have HK := Lib.hid hk3
 clear hrun ho3 hk3 ho1 hk1 HG HC
 go_wp2_with (first | (at_builtin; refine wpList_append_run rfl _ _ _ _ rfl rfl rfl HRUN.out ?_))
 go_ret
 exact ⟨_, rfl, HO.out, HK.out⟩
theorem pow_7 (i : Nat) : 2 ^ (7 * (i + 1)) = 2 ^ (7 * i) * 128 := by rw [show 7 * (i + 1) = 7 * i + 7 by omega, Nat.pow_add]
theorem rcFrom_le : ∀ (b : List UInt8) (i n : Nat), (rcFrom b i n).2.1 ≤ i + b.length
 | [], i, n => by simp [rcFrom]
 | c :: b, i, n => by
  rw [rcFrom]
  split
  ·simp
  ·split
   ·simp
   ·have := rcFrom_le b (i + 1) (n + (c.toNat % 128) * 2 ^ (7 * i))
    rw [List.length_cons]; omega
theorem rcFrom_lt : ∀ (b : List UInt8) (i n : Nat), i ≤ 9 → n < 2 ^ (7 * i) → (rcFrom b i n).1 < 18446744073709551616
 | [], i, n, _, _ => by simp [rcFrom]
 | c :: b, i, n, hi, hn => by
  rw [rcFrom]
  split
  ·simp
  ·rename_i hno
   split
   ·rename_i hc
    show n + c.toNat * 2 ^ (7 * i) < _
    by_cases h9 : i = 9
    ·subst h9
     have h63 : (2 : Nat) ^ (7 * 9) = 9223372036854775808 := by decide
     rw [h63] at hn ⊢
     omega
    ·have h1 : 2 ^ (7 * (i + 1)) ≤ 2 ^ (7 * 9) := Nat.pow_le_pow_right (by omega) (by omega)
     have h63 : (2 : Nat) ^ (7 * 9) = 9223372036854775808 := by decide
     rw [h63, pow_7] at h1
     have h2 : c.toNat * 2 ^ (7 * i) ≤ 127 * 2 ^ (7 * i) := Nat.mul_le_mul_right _ (by omega)
     omega
   ·rename_i hc
    by_cases h9 : i = 9
    ·exact absurd (.inl ⟨h9, by omega⟩) hno
    ·refine rcFrom_lt b (i + 1) _ (by omega) ?_
     rw [pow_7]
     have h2 : (c.toNat % 128) * 2 ^ (7 * i) ≤ 127 * 2 ^ (7 * i) := Nat.mul_le_mul_right _ (by omega)
     omega
theorem readCount_le (b : List UInt8) : (readCountOf b).2.1 ≤ b.length := by have := rcFrom_le b 0 0; unfold readCountOf; omega
theorem readCount_lt (b : List UInt8) : (readCountOf b).1 < 18446744073709551616 := rcFrom_lt b 0 0 (by omega) (by simp)
theorem readText_le (b : List UInt8) (most : Nat) : (readTextOf b most).2.1 ≤ b.length ∧ (readTextOf b most).1.length ≤ b.length ∧ (readTextOf b most).1.length ≤ most := by
 have h := readCount_le b
 unfold readTextOf
 split
 ·split
  ·simp
  ·split
   ·simp
   ·simp only [List.length_take, List.length_drop]; omega
 ·simp
theorem rcFrom_count : ∀ (k m i n : Nat) (rest : List UInt8), m < 128 ^ (k + 1) → i ≤ 9 → m * 2 ^ (7 * i) < 18446744073709551616 → (0 < i → 0 < m) → rcFrom (countOf m ++ rest) i n = (n + m * 2 ^ (7 * i), i + (countOf m).length, 0)
 | k, m, i, n, rest, hk, hi, hm, hp => by
  by_cases h : m < 128
  ·have e : (UInt8.ofNat m).toNat = m := by simp; omega
   rw [countOf_small h, List.singleton_append, rcFrom, e, if_neg, if_pos h]
   ·rfl
   ·rintro (⟨rfl, h1⟩ | ⟨h1, h2⟩)
    ·have h63 : (2 : Nat) ^ (7 * 9) = 9223372036854775808 := by decide
     rw [h63] at hm; omega
    ·have := hp h1; omega
  ·have e : (UInt8.ofNat (m % 128 + 128)).toNat = m % 128 + 128 := by simp; omega
   have h9 : i ≠ 9 := by
    rintro rfl
    have h63 : (2 : Nat) ^ (7 * 9) = 9223372036854775808 := by decide
    rw [h63] at hm; omega
   have hd : m = 128 * (m / 128) + m % 128 := by omega
   have hq : (m / 128) * (2 ^ (7 * i) * 128) = 128 * (m / 128) * 2 ^ (7 * i) := by rw [Nat.mul_comm (2 ^ (7 * i)), ← Nat.mul_assoc, Nat.mul_comm (m / 128)]
   have hs : m * 2 ^ (7 * i) = 128 * (m / 128) * 2 ^ (7 * i) + (m % 128) * 2 ^ (7 * i) := by rw [← Nat.add_mul, ← hd]
   rw [countOf_big h, List.cons_append, rcFrom, e, if_neg (by rintro (⟨h1, _⟩ | ⟨_, h2⟩); exact h9 h1; omega), if_neg (by omega)]
   match k, hk with
   | 0, hk => exact absurd hk (by simp; omega)
   | k + 1, hk =>
    rw [rcFrom_count k (m / 128) (i + 1) _ rest (by rw [Nat.div_lt_iff_lt_mul (by omega)]; rw [Nat.pow_succ] at hk; exact hk) (by omega) (by rw [pow_7, hq]; omega) (fun _ => by omega), pow_7, hq, hs, List.length_cons]
    rw [show (m % 128 + 128) % 128 = m % 128 by omega]
    congr 1
    ·omega
    ·congr 1; omega
theorem readCount_count {n : Nat} (h : n < 18446744073709551616) (rest : List UInt8) : readCountOf (countOf n ++ rest) = (n, (countOf n).length, 0) := by
 have := rcFrom_count 9 n 0 0 rest (Nat.lt_of_lt_of_le h (by decide)) (by omega) (by simpa using h) (fun h => absurd h (by omega))
 unfold readCountOf
 rw [this]
 simp
theorem readText_text {p : List UInt8} {most : Nat} (h : p.length ≤ most) (h2 : most < 18446744073709551616) (rest : List UInt8) : readTextOf (textOf p ++ rest) most = (p, (textOf p).length, 0) := by
 have e : readCountOf (textOf p ++ rest) = (p.length, (countOf p.length).length, 0) := by unfold textOf; rw [List.append_assoc]; exact readCount_count (by omega) _
 unfold readTextOf
 rw [e, if_pos rfl, if_neg (by omega), if_neg (by unfold textOf; simp only [List.length_append]; omega)]
 unfold textOf
 rw [List.append_assoc, List.drop_left, List.take_left, List.length_append]
def normCh (c : TCh) : TCh := if c.gone = true then { c with val := [] } else c
theorem tdo_norm (fs : FS) (c : TCh) : tdo fs (normCh c) = tdo fs c := by
 unfold normCh tdo
 by_cases h : c.gone = true
 ·rw [if_pos h, if_pos h]; simp [h]
 ·rw [if_neg h]
theorem tdos_norm : ∀ (l : List TCh) (fs : FS), tdos fs (l.map normCh) = tdos fs l
 | [], fs => rfl
 | c :: l, fs => by
  show tdos (tdo fs (normCh c)) (l.map normCh) = tdos (tdo fs c) l
  rw [tdo_norm, tdos_norm]
theorem key_list (s : ByteArray) : (⟨s.toList.toArray⟩ : ByteArray) = s := by rw [ByteArray.toList_eq]
theorem key_len (s : ByteArray) : s.toList.length = s.size := by rw [ByteArray.toList_eq, Array.length_toList]; rfl
theorem badCh_false {c : TCh} (h : badCh c = false) : 0 < c.key.size ∧ c.key.size ≤ 320 ∧ c.val.length ≤ 262144 := by
 unfold badCh at h
 simp only [Bool.or_eq_false_iff, decide_eq_false_iff_not] at h
 omega
theorem decCh_enc {c : TCh} (h : badCh c = false) (rest : List UInt8) : decCh (encCh c ++ rest) = some (normCh c, rest) := by
 obtain ⟨h0, h1, h2⟩ := badCh_false h
 have hk : c.key.toList.length ≤ 320 := by rw [key_len]; exact h1
 have hne : c.key.toList ≠ [] := fun e => by have := key_len c.key; rw [e] at this; simp at this; omega
 cases c with
 | mk key gone val =>
 cases gone with
 | true =>
  have e := readText_text (most := 320) hk (by omega) rest
  show decCh (0 :: (textOf key.toList ++ rest)) = _
  unfold decCh
  simp only [e, List.drop_left]
  simp only [key_list, normCh]
  simp [hne]
 | false =>
  have e := readText_text (most := 320) hk (by omega) (textOf val ++ rest)
  have e2 := readText_text (most := 262144) h2 (by omega) rest
  show decCh (1 :: (textOf key.toList ++ textOf val ++ rest)) = _
  rw [List.append_assoc]
  unfold decCh
  simp only [e, List.drop_left, e2]
  simp only [key_list, normCh]
  simp [hne]
theorem decFrom_enc : ∀ (l : List TCh) (out : List TCh), (∀ c ∈ l, badCh c = false) → decFrom l.length (l.map encCh).flatten out = some (out ++ l.map normCh)
 | [], out, _ => by simp [decFrom]
 | c :: l, out, h => by
  rw [List.length_cons, decFrom, List.map_cons, List.flatten_cons, decCh_enc (h c (List.mem_cons_self ..))]
  show decFrom l.length (l.map encCh).flatten (out ++ [normCh c]) = _
  rw [decFrom_enc l _ (fun x hx => h x (List.mem_cons_of_mem _ hx))]
  simp
theorem encFrom_ok : ∀ (l : List TCh) (out : List UInt8), (encFrom l out).1 = 0 → (encFrom l out).2 = out ++ (l.map encCh).flatten ∧ (∀ c ∈ l, badCh c = false) ∧ (out.length ≤ 1048568 → (encFrom l out).2.length ≤ 1048568)
 | [], out, _ => ⟨by simp [encFrom], by simp, fun h => h⟩
 | c :: l, out, h => by
  rw [encFrom] at h ⊢
  cases hb : badCh c with
  | true => rw [hb, if_pos rfl] at h; cases h
  | false =>
   rw [hb, if_neg (by simp)] at h
   rw [if_neg (by simp)]
   by_cases hl : 1048568 < (out ++ encCh c).length
   ·rw [if_pos hl] at h; cases h
   ·rw [if_neg hl] at h
    rw [if_neg hl]
    obtain ⟨h1, h2, h3⟩ := encFrom_ok l _ h
    refine ⟨by rw [h1]; simp, fun x hx => ?_, fun _ => h3 (by omega)⟩
    rcases List.mem_cons.1 hx with rfl | hx
    ·exact hb
    ·exact h2 x hx
theorem enc_ok {l : List TCh} (h : (encOf l).1 = 0) : l.length ≤ 256 ∧ (encOf l).2 = countOf l.length ++ (l.map encCh).flatten ∧ (∀ c ∈ l, badCh c = false) ∧ (encOf l).2.length ≤ 1048568 := by
 unfold encOf at h ⊢
 by_cases hl : 256 < l.length
 ·rw [if_pos hl] at h; cases h
 ·rw [if_neg hl] at h
  rw [if_neg hl]
  obtain ⟨h1, h2, h3⟩ := encFrom_ok l _ h
  exact ⟨by omega, h1, h2, h3 (by have := countOf_len10 (n := l.length) (by omega); omega)⟩
theorem dec_enc {l : List TCh} (h : (encOf l).1 = 0) : decOf (encOf l).2 = some (l.map normCh) := by
 obtain ⟨h1, h2, h3, h4⟩ := enc_ok h
 rw [h2]
 unfold decOf
 rw [readCount_count (by omega), if_pos ⟨rfl, h1⟩]
 show decFrom l.length ((countOf l.length ++ (l.map encCh).flatten).drop (countOf l.length).length) [] = _
 rw [List.drop_left, decFrom_enc l [] h3]
 rfl
theorem and_127 : ∀ k : Nat, k < 256 → bits BinOp.and IntKind.u8 (k : Int) 127 = ((k % 128 : Nat) : Int) := by decide +kernel
theorem pow_7k {k : Nat} (h : k ≤ 9) : (2 : Nat) ^ (7 * k) ≤ 9223372036854775808 := by
 have := Nat.pow_le_pow_right (n := 2) (by omega) (show 7 * k ≤ 63 by omega)
 exact this
def rcVal (r : Nat × Nat × Int) : Value := .tuple #[.int .u64 (r.1 : Int), .int .i64 (r.2.1 : Int), .int .i64 r.2.2]
theorem rc_step {b : List UInt8} {k n : Nat} (hlt : k < b.length) (h : readCountOf b = rcFrom (b.drop k) k n) : readCountOf b = if (k = 9 ∧ 1 < b[k].toNat) ∨ (0 < k ∧ b[k].toNat = 0) then (0, 0, 10) else if b[k].toNat < 128 then (n + (b[k].toNat % 128) * 2 ^ (7 * k), k + 1, 0) else rcFrom (b.drop (k + 1)) (k + 1) (n + (b[k].toNat % 128) * 2 ^ (7 * k)) := by
 rw [h, List.drop_eq_getElem_cons hlt, rcFrom]
 by_cases h1 : b[k].toNat < 128
 ·rw [if_pos h1, if_pos h1, Nat.mod_eq_of_lt h1]
 ·rw [if_neg h1, if_neg h1]
theorem or_shift {n m k : Nat} (hn : n < 2 ^ (7 * k)) (hb : n + m * 2 ^ (7 * k) < 18446744073709551616) : bits BinOp.or IntKind.u64 (n : Int) (IntKind.u64.wrap ((m : Int) * 2 ^ (7 * k))) = ((n + m * 2 ^ (7 * k) : Nat) : Int) := by
 have e : (m : Int) * 2 ^ (7 * k) = ((m * 2 ^ (7 * k) : Nat) : Int) := by simp
 have hw : IntKind.u64.wrap ((m * 2 ^ (7 * k) : Nat) : Int) = ((m * 2 ^ (7 * k) : Nat) : Int) := by rw [IntKind.wrap_u64]; omega
 rw [e, hw, u64_or_nat _ _ (by omega) (by omega)]
 congr 1
 rw [Nat.or_comm, nat_join (7 * k) _ _ (Nat.mul_mod_left _ _) hn]
 omega
set_option maxRecDepth 100000 in
set_option maxHeartbeats 1000000 in
theorem readcount_calls {w : World} {v : Value} {b : List UInt8} (h : Reads w v b) : Calls Tryz.prog 121 #[v] w (QuietP w (rcVal (readCountOf b))) := by
 obtain ⟨a, c, rfl, hc1, hc2⟩ := h.form
 have H := Lib.hid h
 unfold maxLen at hc2
 have jl : (b.length : Int) ≤ 9223372036854775807 := by omega
 clear h
 go_enter Tryz.func121, Tryz.ntmps121
 go_wp2_with fail
 go_loopw [5, 10] (fun nv iv wr => ∃ k n : Nat, k ≤ b.length ∧ k ≤ 9 ∧ n < 2 ^ (7 * k) ∧ iv = .int .i64 (k : Int) ∧ nv = .int .u64 (n : Int) ∧ readCountOf b = rcFrom (b.drop k) k n ∧ Keeps (fun _ => False) w wr) (fun _ i _ => b.length - (intOf i).toNat)
 case atStart => exact ⟨0, 0, Nat.zero_le _, by omega, by simp, rfl, rfl, rfl, Keeps.refl _ _⟩
 case round =>
  obtain ⟨k, n, hk, hk9, hn, rfl, rfl, hr, hq⟩ := hrel
  have j0 : (0 : Int) ≤ k := by omega
  have HQ := Lib.hid hq
  by_cases hlt : k < b.length
  ·obtain ⟨x, rfl, hx⟩ := (H.out.keep hq).cell rfl hlt
   have hst := rc_step hlt hr
   have hcb := b[k].toNat_lt
   have hp := pow_7k hk9
   generalize b[k].toNat = z at hx hst hcb
   have j1 : (k : Int) < b.length := by omega
   have z0 : (0 : Int) ≤ z := by omega
   have z1 : (z : Int) < 256 := by omega
   clear hr hq
   by_cases hA : k = 9 ∧ 1 < z
   ·rw [if_pos (.inl hA)] at hst
    obtain ⟨rfl, h1⟩ := hA
    have ez : (1 : Int) < z := by omega
    have j1' : (9 : Int) < b.length := by omega
    simp only [Addr.add_succ'] at hx
    clear hn hp hcb j0 j1 hk hk9 h1
    go_wp2_with fail
    go_ret3
    exact ⟨by rw [hst]; rfl, HQ.out⟩
   by_cases h0 : 0 < k ∧ z = 0
   ·rw [if_pos (.inr h0)] at hst
    obtain ⟨h01, rfl⟩ := h0
    have k1 : (0 : Int) < k := by omega
    clear hn hp hcb hA z0 z1
    by_cases e9 : k = 9
    ·subst e9
     have j1' : (9 : Int) < b.length := by omega
     simp only [Addr.add_succ'] at hx
     clear j0 j1 hk hk9 k1
     go_wp2_with fail
     go_ret3
     exact ⟨by rw [hst]; rfl, HQ.out⟩
    ·have e9' : ¬ (k : Int) = 9 := by omega
     clear e9
     go_wp2_with fail
     go_ret3
     exact ⟨by rw [hst]; rfl, HQ.out⟩
   rw [if_neg (by rintro (h | h); exact hA h; exact h0 h)] at hst
   by_cases e9 : k = 9
   ·subst e9
    obtain rfl : z = 1 := by omega
    have j1' : (9 : Int) < b.length := by omega
    have hand : bits BinOp.and IntKind.u8 1 127 = 1 := by decide
    have hor := or_shift (n := n) (m := 1) (k := 9) hn (by omega)
    have e63 : (2 : Nat) ^ (7 * 9) = 9223372036854775808 := by decide
    have hor' : bits BinOp.or IntKind.u64 (n : Int) (IntKind.u64.wrap 9223372036854775808) = ((n + 9223372036854775808 : Nat) : Int) := by
     rw [e63] at hor
     simpa using hor
    have hw : IntKind.u64.wrap 9223372036854775808 = 9223372036854775808 := by decide
    have hor2 := hor'
    rw [hw] at hor2
    rw [if_pos (by omega), e63, Nat.one_mul] at hst
    simp only [Addr.add_succ'] at hx
    clear hn hp hcb j0 j1 hk hk9 hA h0 hor e63 z0 z1
    generalize n + 9223372036854775808 = n2 at hor' hor2 hst
    go_wp2_with fail
    go_ret3
    exact ⟨by rw [hst]; rfl, HQ.out⟩
   have hand := and_127 z hcb
   have e9' : ¬ (k : Int) = 9 := by omega
   have hor := or_shift (n := n) (m := z % 128) (k := k) hn (by
    have := Nat.mul_le_mul_right (2 ^ (7 * k)) (show z % 128 ≤ 127 by omega)
    have h2 : 2 ^ (7 * (k + 1)) ≤ 2 ^ (7 * 9) := Nat.pow_le_pow_right (by omega) (by omega)
    have h63 : (2 : Nat) ^ (7 * 9) = 9223372036854775808 := by decide
    rw [h63, pow_7] at h2
    omega)
   have hn2 : n + (z % 128) * 2 ^ (7 * k) < 2 ^ (7 * (k + 1)) := by
    have := Nat.mul_le_mul_right (2 ^ (7 * k)) (show z % 128 ≤ 127 by omega)
    rw [pow_7]; omega
   have k9 : k + 1 ≤ 9 := by omega
   have kl : k + 1 ≤ b.length := by omega
   generalize n + (z % 128) * 2 ^ (7 * k) = n2 at hor hst hn2
   have k8 : (k : Int) ≤ 8 := by omega
   generalize hm : z % 128 = m at hand hor
   have m0 : (0 : Int) ≤ m := by omega
   have m1 : (m : Int) < 128 := by omega
   by_cases hz : z < 128
   ·obtain rfl : z = m := by omega
    have z2 : (z : Int) < 128 := by omega
    rw [if_pos hz] at hst
    by_cases hzz : z = 0
    ·obtain rfl : k = 0 := by omega
     subst hzz
     have hor0 : bits BinOp.or IntKind.u64 (n : Int) (IntKind.u64.wrap 0) = (n2 : Int) := by simpa using hor
     have hor1 : bits BinOp.or IntKind.u64 (n : Int) 0 = (n2 : Int) := by
      have : IntKind.u64.wrap 0 = 0 := by decide
      rw [this] at hor0; exact hor0
     have hand0 : bits BinOp.and IntKind.u8 0 127 = 0 := by decide
     simp only [Addr.add_zero'] at hx
     have j1' : (0 : Int) < b.length := by omega
     clear hn hp hcb hm hz hA h0 e9 z0 z1 z2 hn2 hor hand k9 kl hk hk9 j0 j1 k8 m0 m1
     go_wp2_with fail
     go_ret3
     exact ⟨by rw [hst]; rfl, HQ.out⟩
    ·have hzz' : ¬ (z : Int) = 0 := by omega
     clear hn hp hcb hm hz hA h0 e9 hn2 hk hk9 hzz k9 kl
     go_wp2_with fail
     go_ret3
     exact ⟨by rw [hst]; rfl, HQ.out⟩
   ·have z2 : ¬ (z : Int) < 128 := by omega
    rw [if_neg hz] at hst
    have HREL := Lib.hid (⟨k + 1, n2, kl, k9, hn2, rfl, rfl, hst, HQ.out⟩ : ∃ k' n' : Nat, k' ≤ b.length ∧ k' ≤ 9 ∧ n' < 2 ^ (7 * k') ∧ Value.int .i64 ((k + 1 : Nat) : Int) = .int .i64 (k' : Int) ∧ Value.int .u64 (n2 : Int) = .int .u64 (n' : Int) ∧ readCountOf b = rcFrom (b.drop k') k' n' ∧ Keeps (fun _ => False) w wr)
    clear hn hp hcb hm hz hA h0 e9 hn2 hk hk9 k9 kl hst HQ
    go_wp2_with fail
    go_roundw
    case rel => exact HREL.out
    case measure => simp [intOf]; omega
  ·obtain rfl : k = b.length := by omega
   rw [List.drop_length] at hr
   clear hk hn hk9 hq
   go_wp2_with fail
   go_ret3
   exact ⟨by rw [hr]; rfl, HQ.out⟩
theorem slice3_runP (w : World) (a : Option Addr) (n c i j : Nat) (h1 : i + j ≤ c) :
  (Instr.sliceAt 22 (.slice a n c) (some (.int .i64 (i : Int))) (some (.int .i64 ((i : Int) + (j : Int)))) (some (.int .i64 ((i : Int) + (j : Int))))).run Tryz.prog w = .ok (.slice (if j = 0 then a else Option.map (fun x => x.add i) a) j j) w := by
 rw [run_sliceAt_slice _ _ _ _ _ _ elem_bytes, run_slice_lhm w 22 a n c elem_bytes .i64 .i64 .i64 (i : Int) ((i : Int) + j) ((i : Int) + j) (by omega) (by omega) (by omega) (by omega), size_u8]
 have e3 : ((i : Int) + j).toNat = i + j := by omega
 simp only [Result.andThen, sliced, e3, Int.toNat_natCast, Nat.mul_one, Nat.add_sub_cancel_left]
 by_cases h : j = 0
 ·subst h; simp
 ·rw [if_neg h, if_neg (by omega)]
theorem Reads.cut3 {w : World} {a : Option Addr} {n c : Nat} {l : List UInt8} (h : Reads w (.slice a n c) l) (i j : Nat) (hij : i + j ≤ l.length) : Reads w (.slice (if j = 0 then a else Option.map (fun x => x.add i) a) j j) ((l.drop i).take j) := by
 have hl : (l.drop i).take j = ((l.drop i).take j) := rfl
 have hlen : ((l.drop i).take j).length = j := by rw [List.length_take, List.length_drop]; omega
 have h2 := h.cutP i j hij
 by_cases hj : j = 0
 ·subst hj
  rw [if_pos rfl, List.take_zero]
  rcases h with ⟨e, rfl⟩ | ⟨x, c', e, h1, h3, h4⟩
  ·cases e; exact .inl ⟨rfl, rfl⟩
  ·cases e
   exact .inr ⟨x, 0, rfl, Nat.le_refl _, Nat.zero_le _, fun j u hu => by simp at hu⟩
 ·rw [if_neg hj]
  rcases h with ⟨e, rfl⟩ | ⟨x, c', e, h1, h3, h4⟩
  ·simp at hij; omega
  ·cases e
   rw [if_neg (by omega)] at h2
   rcases h2 with ⟨e, e2⟩ | ⟨y, c2, e, g1, g3, g4⟩
   ·rw [e2] at hlen; simp at hlen; omega
   ·rw [hlen] at e g1
    cases e
    refine .inr ⟨_, j, by rw [hlen]; rfl, by omega, by omega, g4⟩
def RTPost (w : World) (r : List UInt8 × Nat × Int) (e : Ending) (w' : World) : Prop := ∃ v, e = .returned (.tuple #[v, .int .i64 (r.2.1 : Int), .int .i64 r.2.2]) ∧ Owns w' w.heap.size v r.1 ∧ Keeps (fun _ => False) w w'
set_option maxRecDepth 100000 in
set_option maxHeartbeats 1000000 in
theorem readtext_calls {w : World} {v : Value} {b : List UInt8} (h : Reads w v b) (hb : b.length ≤ 1099511627776) (most : Nat) (hm : most ≤ 1048576) : Calls Tryz.prog 122 #[v, .int .i64 (most : Int)] w (RTPost w (readTextOf b most)) := by
 have HC := Lib.hid (readcount_calls h)
 have hle := readCount_le b
 have hlt := readCount_lt b
 obtain ⟨n, u, e, hr⟩ : ∃ n u e, readCountOf b = (n, u, e) := ⟨_, _, _, rfl⟩
 have hrt : readTextOf b most = if e = 0 then (if most < n then ([], 0, 8) else if b.length - u < n then ([], 0, 9) else ((b.drop u).take n, u + n, 0)) else ([], 0, e) := by unfold readTextOf; rw [hr]
 rw [hr] at HC hle hlt
 simp only at hle hlt
 obtain ⟨a, c, rfl, hc1, hc2⟩ := h.form
 have H := Lib.hid h
 unfold maxLen at hc2
 have i1 : (b.length : Int) ≤ 1099511627776 := by omega
 have i2 : (u : Int) ≤ b.length := by omega
 have i3 : (n : Int) < 18446744073709551616 := by omega
 have i4 : (0 : Int) ≤ n := by omega
 have i5 : (0 : Int) ≤ u := by omega
 have m0 : (0 : Int) ≤ most := by omega
 have m1 : (most : Int) ≤ 1048576 := by omega
 have hwm : IntKind.u64.wrap (most : Int) = most := by rw [IntKind.wrap_u64]; omega
 obtain ⟨d, hd⟩ : ∃ d : Nat, (b.length : Int) - (u : Int) = (d : Int) := ⟨b.length - u, by omega⟩
 have hdd : b.length - u = d := by omega
 have d0 : (0 : Int) ≤ d := by omega
 have d1 : (d : Int) ≤ 1099511627776 := by omega
 rw [hdd] at hrt
 have HRT := Lib.hid hrt
 have HDD := Lib.hid hdd
 clear hdd
 clear h hrt hlt
 go_enter Tryz.func122, Tryz.ntmps122
 go_wp2_with fail
 refine HC.out.mono ?_
 rintro e1 w1 ⟨rfl, hk1⟩
 have HK1 := Lib.hid hk1
 have H1 := Lib.hid (H.out.keep hk1)
 clear hk1 HC
 unfold rcVal
 clear hr hle hb hm
 by_cases he : e = 0
 ·subst he
  rw [if_pos rfl] at HRT
  by_cases h8 : most < n
  ·rw [if_pos h8] at HRT
   have j8 : (most : Int) < n := by omega
   clear h8 hc1 hc2
   go_wp2_with fail
   go_ret3
   exact ⟨_, by rw [HRT.out]; rfl, by rw [HRT.out]; exact Owns.nil _ _, HK1.out⟩
  rw [if_neg h8] at HRT
  have j8 : decide (most < n) = false := by simpa using h8
  have j8' : (n : Int) ≤ most := by omega
  have HJ8 := Lib.hid j8'
  clear j8'
  by_cases h9 : d < n
  ·rw [if_pos h9] at HRT
   have j9 : (d : Int) < n := by omega
   clear h8 h9 hc1 hc2 i3
   go_wp2_with fail
   go_ret3
   exact ⟨_, by rw [HRT.out]; rfl, by rw [HRT.out]; exact Owns.nil _ _, HK1.out⟩
  rw [if_neg h9] at HRT
  have j9 : decide (d < n) = false := by simpa using h9
  have hdd := HDD.out
  have hsl := fun W => slice3_runP W a b.length c u n (by omega)
  have hlen : ((b.drop u).take n).length = n := by rw [List.length_take, List.length_drop]; omega
  have hx := H1.out.cut3 u n (by omega)
  generalize (if n = 0 then a else Option.map (fun x => x.add u) a) = aa at hx hsl
  obtain ⟨v', w', hrun, ho, hk⟩ := copy_run hx (by omega)
  clear hx
  obtain ⟨va, vc, rfl, _, _⟩ := ho.bytes.form
  have HRUN := Lib.hid hrun
  have HO := Lib.hid (ho.base HK1.out.size)
  have HK := Lib.hid (HK1.out.trans hk (fun _ _ e => e))
  have hn2 : (n : Int) ≤ 1048576 := by have := HJ8.out; omega
  rw [hlen] at HRUN HO
  clear hrun ho hk h8 h9 HK1 H1 H hlen hdd i3
  go_wp2_with (first | (at_builtin; refine wpList_append_run rfl _ _ _ _ rfl rfl rfl HRUN.out ?_))
  go_ret3
  exact ⟨_, by rw [HRT.out]; rfl, by rw [HRT.out]; exact HO.out, HK.out⟩
 ·rw [if_neg he] at HRT
  have he2 : (e != 0) = true := by simpa using he
  clear he hc1 hc2
  go_wp2_with fail
  go_ret3
  exact ⟨_, by rw [HRT.out]; rfl, by rw [HRT.out]; exact Owns.nil _ _, HK1.out⟩
end Go.Proofs.YtlcnhpjggjgnpaaGreatDoor
