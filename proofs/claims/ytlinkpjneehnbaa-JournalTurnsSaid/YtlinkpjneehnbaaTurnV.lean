/- A byte that is another one is told by the sum: plain. -/
import Derived.Test.YtlinkpjneehnbaaSmall
namespace Go.Proofs.Ytlinkpjneehnbaa
set_option linter.unusedVariables false
open Go.RowKit Go.MapKept

theorem half_bit31 {c : Nat} (h : c < 4294967296) : (c / 2).testBit 31 = false := Nat.testBit_lt_two_pow (by omega)
theorem xor_cancel {a b k : Nat} (h : a ^^^ k = b ^^^ k) : a = b := by
  have h2 := congrArg (fun t => t ^^^ k) h
  simp only [Nat.xor_assoc, Nat.xor_self, Nat.xor_zero] at h2
  exact h2
theorem crcBit_inj {a b : Nat} (ha : a < 4294967296) (hb : b < 4294967296) (h : crcBit a = crcBit b) : a = b := by
  unfold crcBit at h
  have k31 : (3988292384 : Nat).testBit 31 = true := by decide +kernel
  by_cases pa : a % 2 = 1 <;> by_cases pb : b % 2 = 1
  · rw [if_pos pa, if_pos pb] at h
    have := xor_cancel h
    omega
  · rw [if_pos pa, if_neg pb] at h
    have h2 := congrArg (fun t => t.testBit 31) h
    simp only [Nat.testBit_xor, half_bit31 ha, half_bit31 hb, k31] at h2
    simp at h2
  · rw [if_neg pa, if_pos pb] at h
    have h2 := congrArg (fun t => t.testBit 31) h
    simp only [Nat.testBit_xor, half_bit31 ha, half_bit31 hb, k31] at h2
    simp at h2
  · rw [if_neg pa, if_neg pb] at h
    omega
theorem crcBits_inj : ∀ (j : Nat) {a b : Nat}, a < 4294967296 → b < 4294967296 → crcBits j a = crcBits j b → a = b
  | 0, _, _, _, _, h => h
  | j + 1, _, _, ha, hb, h => crcBits_inj j ha hb (crcBit_inj (crcBits_lt j ha) (crcBits_lt j hb) h)
theorem crcFold_inj : ∀ (l : List UInt8) {a b : Nat}, a < 4294967296 → b < 4294967296 → l.foldl crcStep a = l.foldl crcStep b → a = b
  | [], _, _, _, _, h => h
  | x :: l, a, b, ha, hb, h => by
    have h2 := crcFold_inj l (crcStep_lt ha x) (crcStep_lt hb x) h
    exact xor_cancel (crcBits_inj 8 (crcIn_lt ha x) (crcIn_lt hb x) h2)
theorem crc_byte {p q : List UInt8} {x y : UInt8} (h : crcOf (p ++ x :: q) = crcOf (p ++ y :: q)) : x = y := by
  have h1 := crcAll_lt (p ++ x :: q)
  have h2 := crcAll_lt (p ++ y :: q)
  have h3 : crcAll (p ++ x :: q) = crcAll (p ++ y :: q) := by unfold crcOf at h; omega
  unfold crcAll at h3
  rw [List.foldl_append, List.foldl_append, List.foldl_cons, List.foldl_cons] at h3
  have hs := crcFold_lt p (c := 4294967295) (by omega)
  have h4 := crcFold_inj q (crcStep_lt hs x) (crcStep_lt hs y) h3
  have h5 := crcBits_inj 8 (crcIn_lt hs x) (crcIn_lt hs y) h4
  rw [Nat.xor_comm _ x.toNat, Nat.xor_comm _ y.toNat] at h5
  exact UInt8.toNat_inj.1 (xor_cancel h5)
theorem crc_set {l : List UInt8} {i : Nat} {x : UInt8} (hi : i < l.length) (h : crcOf (l.set i x) = crcOf l) : x = l[i] := by
  have e1 : l.set i x = l.take i ++ x :: l.drop (i + 1) := by
    rw [List.set_eq_take_append_cons_drop, if_pos hi]
  have e2 : l = l.take i ++ l[i] :: l.drop (i + 1) := by simp
  rw [e1] at h
  conv at h => rhs; rw [e2]
  exact crc_byte h

/-- One byte of a frame behind its length is another one: there is no frame. -/
theorem frame_turned {pre p post l : List UInt8} {i : Nat} {x : UInt8} (hp : p.length ≤ 1048576) (hi : 4 ≤ i) (hi2 : i < (frameOf p).length) (hx : x ≠ (frameOf p)[i]) (e : l = pre ++ ((frameOf p).set i x ++ post)) : ¬ FrameAt l pre.length := by
  have hf : frameOf p = putOf p.length 4 ++ (putOf (crcOf (putOf p.length 4 ++ p)) 4 ++ p) := by unfold frameOf; rw [List.append_assoc]
  have hl4 := putOf_length 4 p.length
  obtain ⟨A, hA⟩ : ∃ A, A = putOf p.length 4 := ⟨_, rfl⟩
  obtain ⟨C, hC⟩ : ∃ C, C = putOf (crcOf (putOf p.length 4 ++ p)) 4 := ⟨_, rfl⟩
  have hCl : C.length = 4 := by rw [hC]; exact putOf_length _ _
  rw [← hC, ← hA] at hf
  rw [← hA] at hl4
  rintro ⟨h1, h2, h3, h4⟩
  have w1 : wordOf l pre.length = p.length := by
    have es : (frameOf p).set i x = A ++ (C ++ p).set (i - 4) x := by rw [hf, List.set_append_right _ _ (by omega), hl4]
    rw [wordOf_at (x := A) (pre := pre) (post := (C ++ p).set (i - 4) x ++ post) (by rw [e, es]; simp only [List.append_assoc]) rfl hl4, hA]
    exact getOf_putOf 4 _ (by omega)
  unfold recAt at h4
  rw [w1] at h4
  by_cases h8 : i < 8
  · have es : (frameOf p).set i x = A ++ (C.set (i - 4) x ++ p) := by
      rw [hf, List.set_append_right _ _ (by omega), hl4, List.set_append_left _ _ (by omega)]
    have w2 : wordOf l (pre.length + 4) = getOf (C.set (i - 4) x) :=
      wordOf_at (x := C.set (i - 4) x) (pre := pre ++ A) (post := p ++ post) (by rw [e, es]; simp only [List.append_assoc]) (by rw [List.length_append, hl4]) (by rw [List.length_set, hCl])
    have hr : (l.drop (pre.length + 8)).take p.length = p := by
      have : l = (pre ++ A ++ C.set (i - 4) x) ++ (p ++ post) := by rw [e, es]; simp only [List.append_assoc]
      rw [this, show pre.length + 8 = (pre ++ A ++ C.set (i - 4) x).length by simp only [List.length_append, List.length_set, hl4, hCl], List.drop_left, List.take_append_of_le_length (Nat.le_refl _), List.take_length]
    rw [hr, w2] at h4
    have h5 : putOf (crcOf (putOf p.length 4 ++ p)) 4 = putOf (getOf (C.set (i - 4) x)) 4 := congrArg (fun n => putOf n 4) h4
    rw [putOf_getOf 4 _ (by rw [List.length_set, hCl]), ← hC] at h5
    have h6 := congrArg (fun t : List UInt8 => t[i - 4]?) h5
    simp only [List.getElem?_set, hCl, if_true] at h6
    rw [if_pos (by omega), List.getElem?_eq_getElem (by omega)] at h6
    apply hx
    have : (frameOf p)[i] = C[i - 4]'(by omega) := by
      simp only [hf]
      rw [List.getElem_append_right (by omega), List.getElem_append_left (by omega)]
      simp [hl4]
    rw [this]
    exact (Option.some.inj h6).symm
  · have hfl := frameOf_length p
    have es : (frameOf p).set i x = A ++ (C ++ p.set (i - 8) x) := by
      rw [hf, List.set_append_right _ _ (by omega), hl4, List.set_append_right _ _ (by omega), hCl, show i - 4 - 4 = i - 8 by omega]
    have w2 : wordOf l (pre.length + 4) = crcOf (A ++ p) := by
      rw [wordOf_at (x := C) (pre := pre ++ A) (post := p.set (i - 8) x ++ post) (by rw [e, es]; simp only [List.append_assoc]) (by rw [List.length_append, hl4]) hCl, hC, hA]
      exact getOf_putOf 4 _ (crcOf_lt _)
    have hr : (l.drop (pre.length + 8)).take p.length = p.set (i - 8) x := by
      have : l = (pre ++ A ++ C) ++ (p.set (i - 8) x ++ post) := by rw [e, es]; simp only [List.append_assoc]
      rw [this, show pre.length + 8 = (pre ++ A ++ C).length by simp only [List.length_append, hl4, hCl], List.drop_left, List.take_append_of_le_length (by rw [List.length_set]; omega), List.take_of_length_le (by rw [List.length_set]; omega)]
    rw [hr, w2, ← hA] at h4
    have es2 : A ++ p.set (i - 8) x = (A ++ p).set (i - 4) x := by
      rw [List.set_append_right _ _ (by omega), hl4, show i - 4 - 4 = i - 8 by omega]
    rw [es2] at h4
    have h5 := crc_set (by rw [List.length_append, hl4]; omega) h4
    apply hx
    rw [h5]
    have : (frameOf p)[i] = p[i - 8]'(by omega) := by
      simp only [hf]
      rw [List.getElem_append_right (by omega), List.getElem_append_right (by omega)]
      congr 1
      omega
    rw [this, List.getElem_append_right (by omega)]
    congr 1
    omega

/-! ### JournalTurns -/
def endAt (ll : List (List UInt8)) (i : Nat) : Nat := (framesOf (ll.take (i + 1))).length
theorem frames_split {ll : List (List UInt8)} {k : Nat} {p : List UInt8} (h : ll[k]? = some p) : framesOf ll = framesOf (ll.take k) ++ (frameOf p ++ framesOf (ll.drop (k + 1))) := by
  obtain ⟨hk, rfl⟩ := List.getElem?_eq_some_iff.1 h
  have e : ll = ll.take k ++ ll[k] :: ll.drop (k + 1) := by simp
  conv => lhs; rw [e]
  rw [framesOf_append, framesOf_cons]
theorem endAt_eq {ll : List (List UInt8)} {k : Nat} {p : List UInt8} (h : ll[k]? = some p) : endAt ll k = (framesOf (ll.take k)).length + (frameOf p).length := by
  unfold endAt
  rw [List.take_add_one, h, framesOf_append]
  simp [framesOf]
theorem endAt_last {ll : List (List UInt8)} {k : Nat} (h : k + 1 = ll.length) : endAt ll k = (framesOf ll).length := by
  unfold endAt
  rw [h, List.take_length]
theorem turn_law {ll : List (List UInt8)} (hs : ∀ p ∈ ll, p.length ≤ 1048576) {hit a : Nat} {p : List UInt8} (hp : ll[hit]? = some p) (h1 : (framesOf (ll.take hit)).length ≤ a) (h2 : a < endAt ll hit) {x : UInt8} (ha : a < (framesOf ll).length) (hx : x ≠ (framesOf ll)[a]) :
    beginsOf (ll.take hit) (scanOf ((framesOf ll).set a x)).1 = true ∧ ((scanOf ((framesOf ll).set a x)).1.length = hit ∨ a < (framesOf (ll.take hit)).length + 4) := by
  have hsp := frames_split hp
  rw [endAt_eq hp] at h2
  obtain ⟨i, hi⟩ : ∃ i, a = (framesOf (ll.take hit)).length + i := ⟨a - (framesOf (ll.take hit)).length, by omega⟩
  subst hi
  have hil : i < (frameOf p).length := by omega
  have e : (framesOf ll).set ((framesOf (ll.take hit)).length + i) x = framesOf (ll.take hit) ++ ((frameOf p).set i x ++ framesOf (ll.drop (hit + 1))) := by
    rw [hsp, List.set_append_right _ _ (by omega), Nat.add_sub_cancel_left, List.set_append_left _ _ hil]
  have hx2 : x ≠ (frameOf p)[i] := by
    intro h
    apply hx
    rw [h]
    simp only [hsp]
    rw [List.getElem_append_right (by omega), List.getElem_append_left (by omega)]
    congr 1
    omega
  have hlen : (ll.take hit).length = hit := by
    rw [List.length_take]
    have := (List.getElem?_eq_some_iff.1 hp).1
    omega
  have hsc := scan_of_frames (rs := ll.take hit) (fun q hq => hs q (List.mem_of_mem_take hq)) e
  constructor
  · unfold beginsOf
    rw [hsc]
    simp only [decide_eq_true_eq]
    rw [List.take_left]
  · by_cases h4 : 4 ≤ i
    · left
      have hnf := frame_turned (hs p (List.mem_of_getElem? hp)) h4 hil hx2 e
      rw [hsc, scanFrom, if_neg hnf]
      simp [hlen]
    · right; omega
end Go.Proofs.Ytlinkpjneehnbaa
