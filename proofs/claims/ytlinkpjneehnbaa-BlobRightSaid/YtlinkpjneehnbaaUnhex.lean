/- Unhex of what Hex makes. -/
import Derived.Test.YtlinkpjneehnbaaDigs
namespace Go.Proofs.Ytlinkpjneehnbaa
set_option linter.unusedVariables false
set_option linter.unusedSimpArgs false
open Go.RowKit Go.MapKept

theorem hexd_loB : ∀ g : Nat, g < 10 → (hexd g).toNat = 48 + g := by decide
theorem hexd_hiB : ∀ g : Nat, g < 16 → ¬ g < 10 → (hexd g).toNat = 87 + g := by decide
set_option maxRecDepth 100000 in
theorem digit_runs (w : World) (g : Nat) (hg : g < 16) : Runs 128 #[.int .u8 ((hexd g).toNat : Int)] w (.int .u8 (g : Int)) w := by
  unfold Runs
  by_cases h : g < 10
  · rw [hexd_loB g h]
    have e1 : ((48 + g : Nat) : Int) = 48 + (g : Int) := by omega
    rw [e1]
    have b1 : (48 : Int) ≤ 48 + (g : Int) := by omega
    have b2 : 48 + (g : Int) ≤ 57 := by omega
    have b3 : 48 + (g : Int) - 48 = (g : Int) := by omega
    have b4 : IntKind.u8.wrap (48 + (g : Int) - 48) = (g : Int) := by rw [b3]; simp [IntKind.wrap, IntKind.bits, IntKind.signed]; omega
    go_enter Try.func128, Try.ntmps128
    go_wp2_with fail
    go_ret
    exact ⟨rfl, rfl⟩
  · rw [hexd_hiB g hg h]
    have e1 : ((87 + g : Nat) : Int) = 87 + (g : Int) := by omega
    rw [e1]
    have b1 : (48 : Int) ≤ 87 + (g : Int) := by omega
    have b2 : ¬ 87 + (g : Int) ≤ 57 := by omega
    have b5 : (97 : Int) ≤ 87 + (g : Int) := by omega
    have b6 : 87 + (g : Int) ≤ 102 := by omega
    have b4 : IntKind.u8.wrap (87 + (g : Int) - 97) = (g : Int) - 10 := by simp [IntKind.wrap, IntKind.bits, IntKind.signed]; omega
    have b7 : IntKind.u8.wrap ((g : Int) - 10 + 10) = (g : Int) := by simp [IntKind.wrap, IntKind.bits, IntKind.signed]; omega
    go_enter Try.func128, Try.ntmps128
    go_wp2_with fail
    go_ret
    exact ⟨rfl, rfl⟩
theorem hexOf_at : ∀ {x : List UInt8} {i : Nat} {c : UInt8}, x[i]? = some c → (hexOf x)[2 * i]? = some (hexd (c.toNat / 16)) ∧ (hexOf x)[2 * i + 1]? = some (hexd (c.toNat % 16))
  | [], i, c, h => by simp at h
  | d :: x, 0, c, h => by
    simp at h
    subst h
    rw [hexOf_cons]
    exact ⟨rfl, rfl⟩
  | d :: x, i + 1, c, h => by
    have := hexOf_at (x := x) (i := i) (c := c) (by simpa using h)
    rw [hexOf_cons, show 2 * (i + 1) = 2 * i + 1 + 1 by omega]
    simpa using this
/-- A row of bytes in the making: the first k are x's. -/
def unhexRow (x : List UInt8) (k : Nat) : List UInt8 := x.take k ++ List.replicate (x.length - k) 0
def rowObj (l : List UInt8) : Obj := .cells (l.map u8v).toArray 5 (0, 0)
theorem unhexRow_step {x : List UInt8} {k : Nat} {c : UInt8} (h : x[k]? = some c) : (unhexRow x k).set k c = unhexRow x (k + 1) := by
  have hk := (List.getElem?_eq_some_iff.1 h).1
  unfold unhexRow
  rw [List.set_append_right _ _ (by rw [List.length_take]; omega), List.length_take, Nat.min_eq_left (by omega), Nat.sub_self]
  obtain ⟨m, hm⟩ : ∃ m, x.length - k = m + 1 := ⟨x.length - k - 1, by omega⟩
  rw [hm, List.replicate_succ, List.set_cons_zero, List.take_add_one, h, show x.length - (k + 1) = m by omega]
  simp
/-- What Unhex tells. -/
def UnhexPost (w : World) (x : List UInt8) (e : Ending) (w' : World) : Prop := ∃ g, e = .returned (.tuple #[.slice (some ⟨g, 0, none⟩) 32 32, .int .i64 0]) ∧ w'.rangeAt g 0 (x.map u8v) ∧ Keeps (fun _ => False) w w'

set_option maxRecDepth 100000 in
theorem mk32 (w : World) : ∃ w', (Instr.makeSlice 31 (.int .i64 32) (.int .i64 32)).run Try.prog w = .ok (.slice (some ⟨w.heap.size, 0, none⟩) 32 32) w' ∧ w'.heap[w.heap.size]? = some (rowObj (List.replicate 32 0)) ∧ Keeps (fun _ => False) w w' := by
  obtain ⟨i0, hi, hz0, hz1, hz2⟩ := info_parts info_u8
  have hr := run_make (P := Try.prog) w 31 5 i0 _ Try.underlying31 hi hz0 .i64 .i64 32 32 (by omega) (by omega) (by rw [hz2]; omega) (by omega)
  rw [hz1] at hr
  have e : (Obj.cells (madeCells (Value.int .u8 0).cells (Int.toNat 32 * 1)) 5 (0, 0)) = rowObj (List.replicate 32 0) := by
    unfold rowObj
    congr 1
    apply Array.ext'
    simp [madeCells, Value.cells, u8v, List.range_succ_eq_map]
  rw [e] at hr
  exact ⟨_, hr, heap_alloc_new w _, (Keeps.refl _ w).alloc _⟩
/-- Two digits are a byte. -/
theorem two_digits : ∀ n : Nat, n < 256 → bits BinOp.or IntKind.u8 (((n / 16 : Nat) : Int) * 16) ((n % 16 : Nat) : Int) = (n : Int) := by decide +kernel
theorem text_index {W : World} {l : List UInt8} {i : Nat} {c : UInt8} (h : l[i]? = some c) : (Instr.index 9 (.string ⟨l.toArray⟩) (.int .i64 (i : Int))).run Try.prog W = .ok (.int .u8 (c.toNat : Int)) W := by
  obtain ⟨hi, hc⟩ := List.getElem?_eq_some_iff.1 h
  rw [run_index_string W 9 _ _ _ Try.underlying9]
  have hsz : (⟨l.toArray⟩ : ByteArray).size = l.length := by show l.toArray.size = _; simp
  rw [dif_pos ⟨by omega, by rw [hsz]; omega⟩]
  have : (⟨l.toArray⟩ : ByteArray)[(i : Int).toNat]'(by rw [hsz]; omega) = c := by
    rw [← hc]
    show l.toArray[(i : Int).toNat] = _
    simp
  rw [this]

set_option maxRecDepth 100000 in
set_option maxHeartbeats 2000000 in
theorem unhex_calls (w : World) {x : List UInt8} (hx : x.length = 32) : Calls Try.prog 103 #[.string ⟨(hexOf x).toArray⟩] w (UnhexPost w x) := by
  have hix := fun (W : World) (i : Nat) (c : UInt8) (h : (hexOf x)[i]? = some c) => text_index (W := W) h
  have hlen : (((⟨(hexOf x).toArray⟩ : ByteArray).size : Nat) : Int) = 64 := by
    show (((hexOf x).toArray).size : Int) = 64
    rw [List.size_toArray, hexOf_length, hx]; rfl
  generalize (⟨(hexOf x).toArray⟩ : ByteArray) = s at hix hlen ⊢
  obtain ⟨w1, hmk, hb, hk⟩ := mk32 w
  have hst : Own w w1 [rObj w.heap.size w.heap.size (rowObj (unhexRow x 0))] := by
    have e : unhexRow x 0 = List.replicate 32 0 := by simp [unhexRow, hx]
    rw [e]
    exact (Own.start w).add hk (r := rObj _ w.heap.size (rowObj (List.replicate 32 0))) (G := fun b => b = w.heap.size) ⟨rfl, hb⟩ (fun b hb' => by
      subst hb'
      exact ⟨Nat.le_refl _, lt_of_heap hb⟩)
  have HST := Lib.hid hst
  have HIX := Lib.hid hix
  have HX := Lib.hid hx
  clear hb hk hx hst hix
  go_enter Try.func103, Try.ntmps103
  go_wp2_with fail
  go_loopw [18] (fun iv wx => ∃ k : Nat, iv = .int .i64 (k : Int) ∧ k ≤ 32 ∧ Own w wx [rObj w.heap.size w.heap.size (rowObj (unhexRow x k))]) (fun iv _ => 32 - (intOf iv).toNat)
  case atStart => exact ⟨0, rfl, Nat.zero_le _, HST.out⟩
  case round =>
    obtain ⟨k, rfl, hk, ho⟩ := hrel
    have j0 : (0 : Int) ≤ k := by omega
    by_cases hlt : k < 32
    · obtain ⟨c, hc⟩ : ∃ c, x[k]? = some c := ⟨x[k]'(by rw [HX.out]; omega), List.getElem?_eq_getElem _⟩
      have j2 : (k : Int) < 32 := by omega
      obtain ⟨h1, h2⟩ := hexOf_at hc
      have hi1 := fun W => HIX.out W _ _ h1
      have hi2 := fun W => HIX.out W _ _ h2
      have e1 : ((2 * k : Nat) : Int) = 2 * (k : Int) := by omega
      have e2 : ((2 * k + 1 : Nat) : Int) = 2 * (k : Int) + 1 := by omega
      rw [e1] at hi1
      rw [e2] at hi2
      have hw1 : IntKind.i64.wrap (2 * (k : Int)) = 2 * (k : Int) := by rw [IntKind.wrap_i64]; omega
      have hw2 : IntKind.i64.wrap (2 * (k : Int) + 1) = 2 * (k : Int) + 1 := by rw [IntKind.wrap_i64]; omega
      have hcl := c.toNat_lt
      have hd1 := fun W => digit_runs W (c.toNat / 16) (by omega)
      have hd2 := fun W => digit_runs W (c.toNat % 16) (by omega)
      generalize ((hexd (c.toNat / 16)).toNat : Int) = z1 at hi1 hd1
      generalize ((hexd (c.toNat % 16)).toNat : Int) = z2 at hi2 hd2
      obtain ⟨g1, hg1⟩ : ∃ g : Nat, g = c.toNat / 16 := ⟨_, rfl⟩
      obtain ⟨g2, hg2⟩ : ∃ g : Nat, g = c.toNat % 16 := ⟨_, rfl⟩
      rw [← hg1] at hd1
      rw [← hg2] at hd2
      have hb1 : ¬ (15 : Int) < (g1 : Int) := by omega
      have hb2 : ¬ (15 : Int) < (g2 : Int) := by omega
      have hgg : bits BinOp.or IntKind.u8 ((g1 : Int) * 16) (g2 : Int) = (c.toNat : Int) := by
        have := two_digits c.toNat hcl
        rw [← hg1, ← hg2] at this
        exact this
      have hbk := (ho.at (b := w.heap.size) (o := rowObj (unhexRow x k)) (by simp)).1
      have hul : (unhexRow x k).length = 32 := by
        unfold unhexRow
        rw [List.length_append, List.length_take, List.length_replicate, HX.out]; omega
      have hcell : wr.cell? ⟨w.heap.size, k, none⟩ = some (u8v ((unhexRow x k)[k]'(by omega))) := cell_at hbk (by simp [hul, hlt])
      have hfree := free_at hbk k
      have hnx := ho.store k (u8v c)
      have hset : (((unhexRow x k).map u8v).toArray).setIfInBounds k (u8v c) = ((unhexRow x (k + 1)).map u8v).toArray := by
        rw [← unhexRow_step hc, List.map_set]; simp
      rw [hset] at hnx
      have HNX := Lib.hid (hnx.drew)
      have HLT := Lib.hid hlt
      generalize u8v ((unhexRow x k)[k]'(by omega)) = old at hcell
      have HNX2 := Lib.hid hnx
      have HD1 := Lib.hid hd1
      have HD2 := Lib.hid hd2
      clear hd1 hd2 h1 h2 e1 e2 hcl hg1 hg2 hbk hul hnx hset ho
      go_wp2_with fail
      go_region_held3 (fun _ => True) (trivial) (first | (go_at_call_of 128 (Value.int .u8 z1); refine (HD1.out _).out.mono ?_; rintro e w' ⟨rfl, rfl⟩) | (go_at_call_of 128 (Value.int .u8 z2); refine (HD2.out _).out.mono ?_; rintro e w' ⟨rfl, rfl⟩))
      all_goals
        go_wp2_with fail
        go_roundw
        case rel => exact ⟨k + 1, rfl, HLT.out, HNX.out⟩
        case measure => have := HLT.out; simp [intOf]; omega
    · obtain rfl : k = 32 := by omega
      have hb := (ho.at (b := w.heap.size) (o := rowObj (unhexRow x 32)) (by simp)).1
      have e : unhexRow x 32 = x := by
        unfold unhexRow
        rw [HX.out, List.take_of_length_le (by rw [HX.out]; omega)]
        simp
      rw [e] at hb
      have HR := Lib.hid (fun (j : Nat) (v : Value) (hv : (x.map u8v)[j]? = some v) => (by rw [Nat.zero_add]; exact cell_at hb (by rw [List.getElem?_toArray]; exact hv) : wr.cell? ⟨w.heap.size, 0 + j, none⟩ = some v))
      have HK := Lib.hid ho.keeps
      clear hb ho e hlt hk
      go_wp2_with fail
      go_ret2
      exact ⟨w.heap.size, rfl, HR.out, HK.out⟩
end Go.Proofs.Ytlinkpjneehnbaa
