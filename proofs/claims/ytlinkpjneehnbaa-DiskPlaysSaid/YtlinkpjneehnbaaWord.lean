/- Numbers as bytes: octet's Get, Put, Word; the document's Get and Put. -/
import Derived.Test.YtlinkpjneehnbaaCrc
namespace Go.Proofs.Ytlinkpjneehnbaa
open Go.RowKit Go.MapKept

def getOf (l : List UInt8) : Nat := l.foldl (fun n b => n * 256 + b.toNat) 0
theorem getOf_succ {l : List UInt8} {k : Nat} (h : k < l.length) : getOf (l.take (k + 1)) = getOf (l.take k) * 256 + l[k].toNat := by
  unfold getOf
  rw [List.take_succ_eq_append_getElem h, List.foldl_append]
  rfl
theorem getOf_snoc (l : List UInt8) (b : UInt8) : getOf (l ++ [b]) = getOf l * 256 + b.toNat := by
  unfold getOf
  rw [List.foldl_append]
  rfl
theorem getOf_lt : ∀ (k : Nat) (l : List UInt8), l.length = k → getOf l < 256 ^ k
  | 0, l, h => by rw [List.eq_nil_of_length_eq_zero h]; simp [getOf]
  | k + 1, l, h => by
    have hk : k < l.length := by omega
    have e := getOf_succ hk
    rw [List.take_of_length_le (by omega)] at e
    have := getOf_lt k (l.take k) (by simp; omega)
    have hb := l[k].toNat_lt
    rw [e, Nat.pow_succ]
    omega
set_option maxRecDepth 100000 in
theorem get_calls {w : World} {v : Value} {l : List UInt8} (h : Reads w v l) (h8 : l.length ≤ 8) : Calls Try.prog 107 #[v] w (QuietP w (.tuple #[.int .u64 (getOf l : Int), .bool true])) := by
  obtain ⟨a, c, rfl, hc1, hc2⟩ := h.form
  have H := Lib.hid h
  unfold maxLen at hc2
  have j8 : (l.length : Int) ≤ 8 := by omega
  clear h
  go_enter Try.func107, Try.ntmps107
  go_wp2_with fail
  go_loopw [4, 12] (fun s i wr => ∃ k : Nat, k ≤ l.length ∧ i = .int .i64 (k : Int) ∧ s = .int .u64 (getOf (l.take k) : Int) ∧ Keeps (fun _ => False) w wr) (fun _ i _ => l.length - (intOf i).toNat)
  case atStart => exact ⟨0, Nat.zero_le _, rfl, rfl, Keeps.refl _ _⟩
  case round =>
    obtain ⟨k, hk, rfl, rfl, hq⟩ := hrel
    by_cases hlt : k < l.length
    · obtain ⟨x, rfl, hx⟩ := (H.out.keep hq).cell rfl hlt
      have hs := getOf_succ hlt
      have hc0 := getOf_lt k (l.take k) (by simp; omega)
      have hc1 : getOf (l.take k) < 72057594037927936 := Nat.lt_of_lt_of_le hc0 (by have := Nat.pow_le_pow_right (n := 256) (by omega) (show k ≤ 7 by omega); simpa using this)
      have hb := l[k].toNat_lt
      generalize l[k].toNat = b at hx hs hb
      generalize getOf (l.take k) = s0 at hs hc0 hc1 ⊢
      have e1 : bits .or .u64 ((s0 : Int) * 256) (b : Int) = ((s0 * 256 + b : Nat) : Int) := by
        have := u64_or_nat (s0 * 256) b (by omega) (by omega)
        rw [nat_join 8 _ _ (by omega) (by omega)] at this
        exact this
      rw [← hs] at e1
      have j0 : (0 : Int) ≤ k := by omega
      have j1 : (k : Int) < l.length := by omega
      have j2 : (b : Int) < 256 := by omega
      have j3 : (0 : Int) ≤ b := by omega
      have j4 : (s0 : Int) < 72057594037927936 := by omega
      have j5 : (0 : Int) ≤ s0 := by omega
      have HQ := Lib.hid hq
      clear hq hc0 hs hb
      go_wp2_with fail
      go_roundw
      case rel => exact ⟨k + 1, by omega, rfl, rfl, HQ.out⟩
      case measure => simp [intOf]; omega
    · obtain rfl : k = l.length := by omega
      rw [List.take_length]
      have HQ := Lib.hid hq
      clear hk hq
      go_wp2_with fail
      go_ret2
      exact ⟨rfl, HQ.out⟩
set_option maxRecDepth 100000 in
theorem rget_calls {w : World} {v : Value} {l : List UInt8} (h : Reads w v l) (h8 : l.length ≤ 8) : Calls Try.prog 83 #[v] w (QuietP w (.tuple #[.int .u64 (getOf l : Int), .bool true])) := by
  obtain ⟨a, c, rfl, hc1, hc2⟩ := h.form
  have H := Lib.hid h
  unfold maxLen at hc2
  have j8 : (l.length : Int) ≤ 8 := by omega
  clear h
  go_enter Try.func83, Try.ntmps83
  go_wp2_with fail
  go_loopw [4, 5] (fun s i wr => ∃ k : Nat, k ≤ l.length ∧ i = .int .i64 (k : Int) ∧ s = .int .u64 (getOf (l.take k) : Int) ∧ Keeps (fun _ => False) w wr) (fun _ i _ => l.length - (intOf i).toNat)
  case atStart => exact ⟨0, Nat.zero_le _, rfl, rfl, Keeps.refl _ _⟩
  case round =>
    obtain ⟨k, hk, rfl, rfl, hq⟩ := hrel
    by_cases hlt : k < l.length
    · obtain ⟨x, rfl, hx⟩ := (H.out.keep hq).cell rfl hlt
      have hs := getOf_succ hlt
      have hc0 := getOf_lt k (l.take k) (by simp; omega)
      have hc1 : getOf (l.take k) < 72057594037927936 := Nat.lt_of_lt_of_le hc0 (by have := Nat.pow_le_pow_right (n := 256) (by omega) (show k ≤ 7 by omega); simpa using this)
      have hb := l[k].toNat_lt
      generalize l[k].toNat = b at hx hs hb
      generalize getOf (l.take k) = s0 at hs hc0 hc1 ⊢
      have j0 : (0 : Int) ≤ k := by omega
      have j1 : (k : Int) < l.length := by omega
      have j2 : (b : Int) < 256 := by omega
      have j3 : (0 : Int) ≤ b := by omega
      have j4 : (s0 : Int) < 72057594037927936 := by omega
      have j5 : (0 : Int) ≤ s0 := by omega
      have HQ := Lib.hid hq
      have HS := Lib.hid hs
      clear hq hc0 hs hb
      go_wp2_with fail
      go_roundw
      case rel => exact ⟨k + 1, by omega, rfl, by rw [HS.out]; rfl, HQ.out⟩
      case measure => simp [intOf]; omega
    · obtain rfl : k = l.length := by omega
      rw [List.take_length]
      have HQ := Lib.hid hq
      clear hk hq
      go_wp2_with fail
      go_ret2
      exact ⟨rfl, HQ.out⟩

/-! ### Word -/
def wordOf (l : List UInt8) (at_ : Nat) : Nat := getOf ((l.drop at_).take 4)
theorem wordOf_lt (l : List UInt8) (at_ : Nat) (h : at_ + 4 ≤ l.length) : wordOf l at_ < 4294967296 := by
  have := getOf_lt 4 ((l.drop at_).take 4) (by simp; omega)
  simpa [wordOf] using this
/-- A piece of a row, as a slice of it. -/
theorem Reads.piece {w : World} {a : Option Addr} {n c : Nat} {l : List UInt8} (h : Reads w (.slice a n c) l) (i j : Nat) (hij : i + j ≤ l.length) (hpos : 0 < j) : ∃ x, a = some x ∧ Reads w (.slice (some (x.add i)) j (c - i)) ((l.drop i).take j) := by
  have hl : ((l.drop i).take j).length = j := by simp; omega
  rcases h with ⟨e, rfl⟩ | ⟨x, c', e, h1, h2, h3⟩
  · simp at hij; omega
  · cases e
    refine ⟨x, rfl, .inr ⟨_, _, by rw [hl], by omega, by omega, fun k u hu => ?_⟩⟩
    rw [List.getElem?_map, List.getElem?_take] at hu
    split at hu
    · rw [List.getElem?_drop] at hu
      rw [Addr.add_add]
      exact h3 _ _ (by rw [List.getElem?_map]; exact hu)
    · cases hu
set_option maxRecDepth 100000 in
theorem word_raw {w : World} {x : Addr} {len c at_ z : Nat} (hc2 : c ≤ 9223372036854775807) (j1 : (at_ : Int) + 4 ≤ (len : Int)) (j2 : (len : Int) ≤ (c : Int)) (hz : z < 4294967296)
    (hg : Calls Try.prog 107 #[.slice (some (x.add at_)) 4 (c - at_)] w (QuietP w (.tuple #[.int .u64 (z : Int), .bool true]))) :
    Calls Try.prog 80 #[.slice (some x) len c, .int .i64 (at_ : Int)] w (QuietP w (.tuple #[.int .u32 (z : Int), .bool true])) := by
  have j4 : ¬ ((len : Int) - 4 < (at_ : Int)) := by omega
  have j5 : (at_ : Int) + 4 ≤ (c : Int) := by omega
  have j6 : (0 : Int) ≤ at_ := by omega
  have HG := Lib.hid hg
  clear hg j1
  go_enter Try.func80, Try.ntmps80
  go_wp2_with fail
  refine HG.out.mono ?_
  rintro e w' ⟨rfl, hk⟩
  clear j4 j5 j6
  have j3 : (z : Int) < 4294967296 := by omega
  have j7 : (0 : Int) ≤ z := by omega
  go_wp2_with fail
  go_ret2
  exact ⟨rfl, hk⟩
set_option maxRecDepth 100000 in
theorem word_out {w : World} {a : Option Addr} {len c : Nat} {at_ : Int} (hc2 : c ≤ 9223372036854775807) (j2 : (len : Int) ≤ (c : Int)) (j0 : 0 ≤ at_) (j1 : (len : Int) < at_ + 4) :
    Calls Try.prog 80 #[.slice a len c, .int .i64 at_] w (QuietP w (.tuple #[.int .u32 0, .bool false])) := by
  have j4 : (len : Int) - 4 < at_ := by omega
  go_enter Try.func80, Try.ntmps80
  go_wp2_with fail
  go_ret2
  exact ⟨rfl, Keeps.refl _ _⟩
theorem word_calls {w : World} {v : Value} {l : List UInt8} (h : Reads w v l) (at_ : Nat) (h4 : at_ + 4 ≤ l.length) : Calls Try.prog 80 #[v, .int .i64 (at_ : Int)] w
    (QuietP w (.tuple #[.int .u32 (wordOf l at_ : Int), .bool true])) := by
  obtain ⟨a, c, rfl, hc1, hc2⟩ := h.form
  unfold maxLen at hc2
  obtain ⟨x, rfl, hp⟩ := h.piece at_ 4 h4 (by omega)
  exact word_raw (by omega) (by omega) (by omega) (wordOf_lt l at_ h4) (get_calls hp (by simp; omega))
theorem word_none {w : World} {v : Value} {l : List UInt8} (h : Reads w v l) (at_ : Int) (h0 : 0 ≤ at_) (h4 : (l.length : Int) < at_ + 4) : Calls Try.prog 80 #[v, .int .i64 at_] w
    (QuietP w (.tuple #[.int .u32 0, .bool false])) := by
  obtain ⟨a, c, rfl, hc1, hc2⟩ := h.form
  unfold maxLen at hc2
  exact word_out (by omega) (by omega) h0 h4
end Go.Proofs.Ytlinkpjneehnbaa
