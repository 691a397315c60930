/- A part of the proof. -/
import Derived.Test.YtlcnhpjggjgnpaaGreatDoorWa2
import Derived.Test.YtlcnhpjggjgnpaaGreatDoorWa3
import Derived.Deep.QuietTactic
import Derived.BigQuiet
import Derived.Maps.AppendAt
import Derived.Laws.BitsAllLaws
namespace Go.Proofs.YtlcnhpjggjgnpaaGreatDoor
open Go.RowKit Go.MapKept
theorem Reads.cell {w : World} {v : Value} {l : List UInt8} (h : Reads w v l) {a : Option Addr} {n c k : Nat} (hv : v = .slice a n c) (hk : k < l.length) : ∃ x, a = some x ∧ w.cell? (x.add k) = some (.int .u8 (l[k].toNat : Int)) := by
  rcases h with ⟨_, rfl⟩ | ⟨x, c', e, _, _, h3⟩
  · simp at hk
  · rw [hv] at e
    cases e
    exact ⟨x, rfl, h3 k _ (by rw [List.getElem?_map, List.getElem?_eq_getElem hk]; rfl)⟩
theorem take_step {l l' : List UInt8} {k : Nat} (hk : k < l.length) (hk' : k < l'.length) (h : l.take k = l'.take k) : (l[k].toNat = l'[k].toNat) ↔ l.take (k + 1) = l'.take (k + 1) := by
  constructor
  · intro e
    rw [List.take_succ_eq_append_getElem hk, List.take_succ_eq_append_getElem hk', h, UInt8.toNat_inj.1 e]
  · intro e
    have := congrArg (fun t : List UInt8 => t[k]?) e
    simp [hk, hk'] at this
    rw [this]
set_option maxRecDepth 100000 in
theorem same_raw (w : World) {l l' : List UInt8} {n : Nat} (hb : n ≤ maxLen) (hn : l.length = n) (hn' : l'.length = n) {a a' : Option Addr} {c c' : Nat} (h : Reads w (.slice a n c) l) (h' : Reads w (.slice a' n c') l') :
    Calls Tryz.prog 15 #[.slice a n c, .slice a' n c'] w (QuietP w (.bool (decide (l = l')))) := by
  unfold maxLen at hb
  have H := Lib.hid h
  have H' := Lib.hid h'
  have HN := Lib.hid hn
  have HN' := Lib.hid hn'
  clear h h' hn hn'
  go_enter Tryz.func15, Tryz.ntmps15
  go_wp2_with fail
  go_loopw [5] (fun i wr => ∃ k : Nat, k ≤ n ∧ i = .int .i64 (k : Int) ∧ Keeps (fun _ => False) w wr ∧ l.take k = l'.take k) (fun i _ => n - (intOf i).toNat)
  case atStart => exact ⟨0, Nat.zero_le _, rfl, Keeps.refl _ _, rfl⟩
  case round =>
    obtain ⟨k, hk, rfl, hq, heq⟩ := hrel
    by_cases hlt : k < n
    · obtain ⟨x, rfl, hx⟩ := (H.out.keep hq).cell rfl (k := k) (by have := HN.out; omega)
      obtain ⟨y, rfl, hy⟩ := (H'.out.keep hq).cell rfl (k := k) (by have := HN'.out; omega)
      have hpq := take_step (k := k) (by have := HN.out; omega) (by have := HN'.out; omega) heq
      generalize ((l[k]'(by have := HN.out; omega)).toNat) = p at hx hpq
      generalize ((l'[k]'(by have := HN'.out; omega)).toNat) = q at hy hpq
      have HP := Lib.hid hpq
      have j0 : (0 : Int) ≤ k := by omega
      have j1 : (k : Int) < n := by omega
      clear heq hpq
      by_cases hpq : p = q
      · have heq2 := HP.out.1 hpq
        have HE := Lib.hid heq2
        clear heq2 HP
        subst hpq
        go_wp2_with fail
        go_quiet (fail)
        go_wp2_with fail
        go_roundw
        case rel => exact ⟨k + 1, by omega, rfl, hq.drewN _, HE.out⟩
        case measure => simp [intOf]; omega
      · have hpq2 : ¬ (p : Int) = (q : Int) := by omega
        go_wp2_with fail
        go_quiet (fail)
        go_wp2_with fail
        go_ret
        refine ⟨?_, hq.drewN _⟩
        have : ¬ l = l' := fun e => hpq (HP.out.2 (by rw [e]))
        simp [this]
    · obtain rfl : k = n := by omega
      clear hlt hk
      have he : l = l' := by
        rw [List.take_of_length_le (by have := HN.out; omega), List.take_of_length_le (by have := HN'.out; omega)] at heq
        exact heq
      have HE := Lib.hid he
      clear he heq
      go_wp2_with fail
      go_ret
      exact ⟨by simp [HE.out], hq⟩
theorem same_calls {w : World} {v v' : Value} {l l' : List UInt8} (h : Reads w v l) (h' : Reads w v' l') : Calls Tryz.prog 15 #[v, v'] w (QuietP w (.bool (decide (l = l')))) := by
  obtain ⟨a, c, rfl, h1, h2⟩ := h.form
  obtain ⟨a', c', rfl, _, _⟩ := h'.form
  by_cases hl : l.length = l'.length
  · rw [← hl] at h' ⊢
    exact same_raw w (by omega) rfl hl.symm h h'
  · have hl2 : ¬ (l.length : Int) = (l'.length : Int) := by omega
    have hne : ¬ l = l' := fun e => hl (by rw [e])
    have HE := Lib.hid hne
    clear h h' hl hne
    go_enter Tryz.func15, Tryz.ntmps15
    go_wp2_with fail
    go_ret
    exact ⟨by simp [HE.out], Keeps.refl _ _⟩
end Go.Proofs.YtlcnhpjggjgnpaaGreatDoor
namespace Go.Proofs.YtlcnhpjggjgnpaaGreatDoor
open Go.RowKit Go.MapKept
theorem owns_keep {w w' : World} {base n : Nat} {v : Value} {xs : List Value} (h : w.ownsRow base 5 1 v n xs) {F : Nat → Prop} (hk : Keeps F w w') (hF : ∀ b, v.ownBlock = some b → ¬ F b) : w'.ownsRow base 5 1 v n xs := by
  obtain ⟨h1, h2⟩ := h
  refine ⟨h1, ?_⟩
  rcases h2 with h2 | ⟨g, cap, cur, rfl, hg, hb, h3, h4, h5, h6⟩
  · exact .inl h2
  · exact .inr ⟨g, cap, cur, rfl, hg, hk.at hb (hF g rfl), h3, h4, h5, h6⟩
theorem owns_lt {w : World} {base n : Nat} {v : Value} {xs : List Value} (h : w.ownsRow base 5 1 v n xs) : ∀ b, v.ownBlock = some b → b < w.heap.size ∧ base ≤ b := by
  rcases h.2 with ⟨rfl, _⟩ | ⟨g, cap, cur, rfl, hg, hb, _⟩
  · intro b hb; cases hb
  · intro b hb'
    cases hb'
    exact ⟨lt_of_heap hb, hg⟩
def Owns (w : World) (base : Nat) (v : Value) (l : List UInt8) : Prop := w.ownsRow base 5 1 v l.length (l.map u8v)
theorem Owns.nil (w : World) (base : Nat) : Owns w base (.slice none 0 0) [] := ⟨rfl, .inl ⟨rfl, rfl⟩⟩
theorem Owns.bytes {w : World} {base : Nat} {v : Value} {l : List UInt8} (h : Owns w base v l) : Bytes (fun b => base ≤ b) w v l := bytes_of_owns h
theorem Owns.keep {w w' : World} {base : Nat} {v : Value} {l : List UInt8} (h : Owns w base v l) (hk : Keeps (fun _ => False) w w') : Owns w' base v l := owns_keep h hk (fun _ _ e => e)
theorem Owns.base {w : World} {base base' : Nat} {v : Value} {l : List UInt8} (h : Owns w base v l) (hb : base' ≤ base) : Owns w base' v l := by
  obtain ⟨h1, h2⟩ := h
  refine ⟨h1, ?_⟩
  rcases h2 with h2 | ⟨g, cap, cur, rfl, hg, h3⟩
  · exact .inl h2
  · exact .inr ⟨g, cap, cur, rfl, by omega, h3⟩
theorem Owns.grow {wr : World} {base : Nat} {v : Value} {l : List UInt8} (hz : base ≤ wr.heap.size) (ho : Owns wr base v l) {pv : Value} {p : List UInt8} (hp : Reads wr pv p) (hb : l.length + p.length ≤ 140737488355328) :
    ∃ v' w', (Builtin.append_ #[22, 22] 22 #[v, pv]).run Tryz.prog wr = .ok v' w' ∧ Owns w' base v' (l ++ p) ∧ Keeps (fun b => v.ownBlock = some b) wr w' := by
  obtain ⟨i0, hi, hz0, hz1, hz2⟩ := info_parts info_u8
  rcases hp with ⟨rfl, rfl⟩ | ⟨x, c, rfl, h1, h2, h3⟩
  · refine ⟨v, wr, append_none 22 22 22 5 i0 Tryz.underlying22 Tryz.underlying22 hi (by rw [hz1]) (bytes_of_owns ho) (.inl ⟨rfl, rfl⟩), ?_, Keeps.refl _ _⟩
    rw [List.append_nil]; exact ho
  · obtain ⟨v', w', hrun, ho2, hg, _, hat⟩ := run_append_own_at (P := Tryz.prog) wr base 22 22 5 i0 _ 1 1 Tryz.underlying22 hi hz0 hz1 hz2 (by rfl) (by omega) v l.length (l.map u8v) ho x p.length c (p.map u8v) (by simp) h3 (u8v_one _) (by unfold maxLen; omega) (by omega) hz
    refine ⟨v', w', hrun, ?_, Keeps.of_grown hg⟩
    rw [← List.map_append, ← List.length_append] at ho2; exact ho2
theorem one_byte (w : World) (c : UInt8) : Reads (w.alloc (.cells #[.int .u8 (c.toNat : Int)] 5)) (.slice (some ⟨w.heap.size, 0, none⟩) 1 1) [c] := by
  refine .inr ⟨_, 1, rfl, Nat.le_refl _, by simp [maxLen], fun j u hu => ?_⟩
  match j, hu with
  | 0, hu =>
    simp only [List.map_cons, List.map_nil, List.getElem?_cons_zero, Option.some.injEq] at hu
    rw [← hu, Addr.add_lit]
    exact cell_at (heap_alloc_new w _) rfl
  | j + 1, hu => simp at hu
def OPost (w : World) (l : List UInt8) (e : Ending) (w' : World) : Prop := ∃ v, e = .returned v ∧ Owns w' w.heap.size v l ∧ Keeps (fun _ => False) w w'
end Go.Proofs.YtlcnhpjggjgnpaaGreatDoor
namespace Go.Proofs.YtlcnhpjggjgnpaaGreatDoor
open Go.RowKit Go.MapKept
def crcBit (c : Nat) : Nat := if c % 2 = 1 then (c / 2) ^^^ 3988292384 else c / 2
def crcBits : Nat → Nat → Nat
  | 0, c => c
  | j + 1, c => crcBit (crcBits j c)
def crcStep (c : Nat) (b : UInt8) : Nat := crcBits 8 (c ^^^ b.toNat)
def crcAll (l : List UInt8) : Nat := l.foldl crcStep 4294967295
def crcOf (l : List UInt8) : Nat := 4294967295 - crcAll l
theorem crcBit_lt {c : Nat} (h : c < 4294967296) : crcBit c < 4294967296 := by
  unfold crcBit
  split
  · exact Nat.xor_lt_two_pow (n := 32) (by omega) (by omega)
  · omega
theorem crcBits_lt : ∀ (j : Nat) {c : Nat}, c < 4294967296 → crcBits j c < 4294967296
  | 0, _, h => h
  | j + 1, _, h => crcBit_lt (crcBits_lt j h)
theorem crcIn_lt {c : Nat} (h : c < 4294967296) (b : UInt8) : c ^^^ b.toNat < 4294967296 := Nat.xor_lt_two_pow (n := 32) (by omega) (by have := b.toNat_lt; omega)
theorem crcStep_lt {c : Nat} (h : c < 4294967296) (b : UInt8) : crcStep c b < 4294967296 := crcBits_lt 8 (crcIn_lt h b)
theorem crcFold_lt : ∀ (l : List UInt8) {c : Nat}, c < 4294967296 → l.foldl crcStep c < 4294967296
  | [], _, h => h
  | b :: l, _, h => crcFold_lt l (crcStep_lt h b)
theorem crcAll_lt (l : List UInt8) : crcAll l < 4294967296 := crcFold_lt l (by omega)
theorem crcAll_succ {l : List UInt8} {k : Nat} (h : k < l.length) : crcAll (l.take (k + 1)) = crcStep (crcAll (l.take k)) l[k] := by
  unfold crcAll
  rw [List.take_succ_eq_append_getElem h, List.foldl_append]
  rfl
theorem nat_not32 {t : Nat} (h : t < 4294967296) : 4294967295 ^^^ t = 4294967295 - t := by
  have e : 4294967295 - t = 2 ^ 32 - (t + 1) := by omega
  rw [e]
  apply Nat.eq_of_testBit_eq
  intro i
  rw [Nat.testBit_two_pow_sub_succ (by omega), Nat.testBit_xor, show (4294967295 : Nat) = 2 ^ 32 - 1 by rfl, Nat.testBit_two_pow_sub_one]
  by_cases hi : i < 32
  · simp [hi]
  · have : t.testBit i = false := Nat.testBit_lt_two_pow (Nat.lt_of_lt_of_le (show t < 2 ^ 32 by omega) (Nat.pow_le_pow_right (by omega) (by omega)))
    simp [hi, this]
theorem crc_not {t : Nat} (h : t < 4294967296) : bits .xor .u32 IntKind.u32.max (t : Int) = 4294967295 - (t : Int) := by
  have := u32_xor_nat 4294967295 t (by omega) h
  rw [nat_not32 h] at this
  have e : IntKind.u32.max = ((4294967295 : Nat) : Int) := by decide
  rw [e, this]
  omega
theorem crc_k1 : bits .and .u32 3988292384 4294967295 = 3988292384 := by decide +kernel
theorem crc_k0 : bits .and .u32 3988292384 0 = 0 := by decide +kernel
theorem crc_odd {t : Nat} (ht : t < 4294967296) (hp : t % 2 = 1) : bits .and .u32 (t : Int) 1 = 1 ∧ bits .xor .u32 ((t : Int) / 2) 3988292384 = ((crcBit t : Nat) : Int) := by
  constructor
  · have := u32_and_nat t 1 ht (by omega)
    rw [nat_mask1, hp] at this; exact this
  · have := u32_xor_nat (t / 2) 3988292384 (by omega) (by omega)
    unfold crcBit
    rw [if_pos hp]
    exact this
theorem crc_even {t : Nat} (ht : t < 4294967296) (hp : ¬ t % 2 = 1) : bits .and .u32 (t : Int) 1 = 0 ∧ bits .xor .u32 ((t : Int) / 2) 0 = ((crcBit t : Nat) : Int) := by
  constructor
  · have := u32_and_nat t 1 ht (by omega)
    rw [nat_mask1, show t % 2 = 0 by omega] at this; exact this
  · have := u32_xor_nat (t / 2) 0 (by omega) (by omega)
    unfold crcBit
    rw [if_neg hp]
    rw [show t / 2 ^^^ 0 = t / 2 from Nat.xor_zero _] at this
    exact this
set_option maxRecDepth 100000 in
theorem crc_calls {w : World} {v : Value} {l : List UInt8} (h : Reads w v l) : Calls Tryz.prog 158 #[v] w (QuietP w (.int .u32 (crcOf l : Int))) := by
  obtain ⟨a, c, rfl, hc1, hc2⟩ := h.form
  have H := Lib.hid h
  unfold maxLen at hc2
  clear h
  go_enter Tryz.func158, Tryz.ntmps158
  go_wp2_with fail
  go_loopw [3, 8] (fun s i wr => ∃ k : Nat, k ≤ l.length ∧ i = .int .i64 (k : Int) ∧ s = .int .u32 (crcAll (l.take k) : Int) ∧ Keeps (fun _ => False) w wr) (fun _ i _ => l.length - (intOf i).toNat)
  case atStart => exact ⟨0, Nat.zero_le _, rfl, rfl, Keeps.refl _ _⟩
  case round =>
    obtain ⟨k, hk, rfl, rfl, hq⟩ := hrel
    by_cases hlt : k < l.length
    · obtain ⟨x, rfl, hx⟩ := (H.out.keep hq).cell rfl hlt
      have hs := crcAll_succ hlt
      have hc0 := crcAll_lt (l.take k)
      have hb := l[k].toNat_lt
      unfold crcStep at hs
      have hin := crcIn_lt hc0 l[k]
      generalize l[k].toNat = b at hx hs hb hin
      generalize crcAll (l.take k) = s0 at hs hc0 hin ⊢
      have e1 : bits .xor .u32 (s0 : Int) (b : Int) = ((s0 ^^^ b : Nat) : Int) := u32_xor_nat _ _ hc0 (by omega)
      have HS := Lib.hid hs
      have j0 : (0 : Int) ≤ k := by omega
      have j1 : (k : Int) < l.length := by omega
      generalize s0 ^^^ b = s1 at e1 HS hin
      have j2 : (b : Int) < 256 := by omega
      have j3 : (0 : Int) ≤ b := by omega
      clear hs hb hc0
      have HQ := Lib.hid hq
      clear hq
      go_wp2_with fail
      go_loopw [3, 16] (fun s i wr' => ∃ j : Nat, j ≤ 8 ∧ i = .int .i64 (j : Int) ∧ s = .int .u32 (crcBits j s1 : Int) ∧ wr' = wr) (fun _ i _ => 8 - (intOf i).toNat)
      case atStart => exact ⟨0, Nat.zero_le _, rfl, rfl, rfl⟩
      case round =>
        obtain ⟨j, hj, rfl, rfl, rfl⟩ := hrel
        by_cases hj8 : j < 8
        · have ht := crcBits_lt j hin
          have hst : crcBits (j + 1) s1 = crcBit (crcBits j s1) := rfl
          generalize crcBits j s1 = t at hst ht ⊢
          have j4 : (j : Int) < 8 := by omega
          have j5 : (0 : Int) ≤ j := by omega
          by_cases hp : t % 2 = 1
          · obtain ⟨e2, e3⟩ := crc_odd ht hp
            rw [← hst] at e3
            clear hst hp
            go_wp2_with fail
            go_roundw
            case rel => exact ⟨j + 1, by omega, rfl, by rw [crc_k1, e3], trivial⟩
            case measure => simp [intOf]; omega
          · obtain ⟨e2, e3⟩ := crc_even ht hp
            rw [← hst] at e3
            clear hst hp
            go_wp2_with fail
            go_roundw
            case rel => exact ⟨j + 1, by omega, rfl, by rw [crc_k0, e3], trivial⟩
            case measure => simp [intOf]; omega
        · obtain rfl : j = 8 := by omega
          rw [← HS.out]
          clear hj hj8
          go_wp2_with fail
          go_roundw
          case rel => exact ⟨k + 1, by omega, rfl, rfl, HQ.out⟩
          case measure => simp [intOf]; omega
    · obtain rfl : k = l.length := by omega
      rw [List.take_length]
      have hlt := crcAll_lt l
      have HQ := Lib.hid hq
      have e : ((crcOf l : Nat) : Int) = 4294967295 - (crcAll l : Int) := by unfold crcOf; omega
      rw [← crc_not hlt] at e
      have E := Lib.hid e
      clear e
      generalize crcAll l = s0 at hlt E ⊢
      clear hk hq
      go_wp2_with fail
      go_ret
      exact ⟨by rw [E.out]; rfl, HQ.out⟩
end Go.Proofs.YtlcnhpjggjgnpaaGreatDoor
namespace Go.Proofs.YtlcnhpjggjgnpaaGreatDoor
open Go.RowKit Go.MapKept
def getOf (l : List UInt8) : Nat := l.foldl (fun n b => n * 256 + b.toNat) 0
theorem getOf_succ {l : List UInt8} {k : Nat} (h : k < l.length) : getOf (l.take (k + 1)) = getOf (l.take k) * 256 + l[k].toNat := by
  unfold getOf
  rw [List.take_succ_eq_append_getElem h, List.foldl_append]
  rfl
theorem getOf_snoc (l : List UInt8) (b : UInt8) : getOf (l ++ [b]) = getOf l * 256 + b.toNat := by
  unfold getOf
  rw [List.foldl_append]
  rfl
theorem getOf_lt : ∀ (k : Nat) (l : List UInt8), l.length = k → getOf l < 256 ^ k
  | 0, l, h => by rw [List.eq_nil_of_length_eq_zero h]; simp [getOf]
  | k + 1, l, h => by
    have hk : k < l.length := by omega
    have e := getOf_succ hk
    rw [List.take_of_length_le (by omega)] at e
    have := getOf_lt k (l.take k) (by simp; omega)
    have hb := l[k].toNat_lt
    rw [e, Nat.pow_succ]
    omega
set_option maxRecDepth 100000 in
theorem get_calls {w : World} {v : Value} {l : List UInt8} (h : Reads w v l) (h8 : l.length ≤ 8) : Calls Tryz.prog 62 #[v] w (QuietP w (.tuple #[.int .u64 (getOf l : Int), .bool true])) := by
  obtain ⟨a, c, rfl, hc1, hc2⟩ := h.form
  have H := Lib.hid h
  unfold maxLen at hc2
  have j8 : (l.length : Int) ≤ 8 := by omega
  clear h
  go_enter Tryz.func62, Tryz.ntmps62
  go_wp2_with fail
  go_loopw [4, 12] (fun s i wr => ∃ k : Nat, k ≤ l.length ∧ i = .int .i64 (k : Int) ∧ s = .int .u64 (getOf (l.take k) : Int) ∧ Keeps (fun _ => False) w wr) (fun _ i _ => l.length - (intOf i).toNat)
  case atStart => exact ⟨0, Nat.zero_le _, rfl, rfl, Keeps.refl _ _⟩
  case round =>
    obtain ⟨k, hk, rfl, rfl, hq⟩ := hrel
    by_cases hlt : k < l.length
    · obtain ⟨x, rfl, hx⟩ := (H.out.keep hq).cell rfl hlt
      have hs := getOf_succ hlt
      have hc0 := getOf_lt k (l.take k) (by simp; omega)
      have hc1 : getOf (l.take k) < 72057594037927936 := Nat.lt_of_lt_of_le hc0 (by have := Nat.pow_le_pow_right (n := 256) (by omega) (show k ≤ 7 by omega); simpa using this)
      have hb := l[k].toNat_lt
      generalize l[k].toNat = b at hx hs hb
      generalize getOf (l.take k) = s0 at hs hc0 hc1 ⊢
      have e1 : bits .or .u64 ((s0 : Int) * 256) (b : Int) = ((s0 * 256 + b : Nat) : Int) := by
        have := u64_or_nat (s0 * 256) b (by omega) (by omega)
        rw [nat_join 8 _ _ (by omega) (by omega)] at this
        exact this
      rw [← hs] at e1
      have j0 : (0 : Int) ≤ k := by omega
      have j1 : (k : Int) < l.length := by omega
      have j2 : (b : Int) < 256 := by omega
      have j3 : (0 : Int) ≤ b := by omega
      have j4 : (s0 : Int) < 72057594037927936 := by omega
      have j5 : (0 : Int) ≤ s0 := by omega
      have HQ := Lib.hid hq
      clear hq hc0 hs hb
      go_wp2_with fail
      go_roundw
      case rel => exact ⟨k + 1, by omega, rfl, rfl, HQ.out⟩
      case measure => simp [intOf]; omega
    · obtain rfl : k = l.length := by omega
      rw [List.take_length]
      have HQ := Lib.hid hq
      clear hk hq
      go_wp2_with fail
      go_ret2
      exact ⟨rfl, HQ.out⟩
def wordOf (l : List UInt8) (at_ : Nat) : Nat := getOf ((l.drop at_).take 4)
theorem wordOf_lt (l : List UInt8) (at_ : Nat) (h : at_ + 4 ≤ l.length) : wordOf l at_ < 4294967296 := by
  have := getOf_lt 4 ((l.drop at_).take 4) (by simp; omega)
  simpa [wordOf] using this
theorem Reads.piece {w : World} {a : Option Addr} {n c : Nat} {l : List UInt8} (h : Reads w (.slice a n c) l) (i j : Nat) (hij : i + j ≤ l.length) (hpos : 0 < j) : ∃ x, a = some x ∧ Reads w (.slice (some (x.add i)) j (c - i)) ((l.drop i).take j) := by
  have hl : ((l.drop i).take j).length = j := by simp; omega
  rcases h with ⟨e, rfl⟩ | ⟨x, c', e, h1, h2, h3⟩
  · simp at hij; omega
  · cases e
    refine ⟨x, rfl, .inr ⟨_, _, by rw [hl], by omega, by omega, fun k u hu => ?_⟩⟩
    rw [List.getElem?_map, List.getElem?_take] at hu
    split at hu
    · rw [List.getElem?_drop] at hu
      rw [Addr.add_add]
      exact h3 _ _ (by rw [List.getElem?_map]; exact hu)
    · cases hu
set_option maxRecDepth 100000 in
theorem word_raw {w : World} {x : Addr} {len c at_ z : Nat} (hc2 : c ≤ 9223372036854775807) (j1 : (at_ : Int) + 4 ≤ (len : Int)) (j2 : (len : Int) ≤ (c : Int)) (hz : z < 4294967296)
    (hg : Calls Tryz.prog 62 #[.slice (some (x.add at_)) 4 (c - at_)] w (QuietP w (.tuple #[.int .u64 (z : Int), .bool true]))) :
    Calls Tryz.prog 157 #[.slice (some x) len c, .int .i64 (at_ : Int)] w (QuietP w (.tuple #[.int .u32 (z : Int), .bool true])) := by
  have j4 : ¬ ((len : Int) - 4 < (at_ : Int)) := by omega
  have j5 : (at_ : Int) + 4 ≤ (c : Int) := by omega
  have j6 : (0 : Int) ≤ at_ := by omega
  have HG := Lib.hid hg
  clear hg j1
  go_enter Tryz.func157, Tryz.ntmps157
  go_wp2_with fail
  refine HG.out.mono ?_
  rintro e w' ⟨rfl, hk⟩
  clear j4 j5 j6
  have j3 : (z : Int) < 4294967296 := by omega
  have j7 : (0 : Int) ≤ z := by omega
  go_wp2_with fail
  go_ret2
  exact ⟨rfl, hk⟩
set_option maxRecDepth 100000 in
theorem word_out {w : World} {a : Option Addr} {len c : Nat} {at_ : Int} (hc2 : c ≤ 9223372036854775807) (j2 : (len : Int) ≤ (c : Int)) (j0 : 0 ≤ at_) (j1 : (len : Int) < at_ + 4) :
    Calls Tryz.prog 157 #[.slice a len c, .int .i64 at_] w (QuietP w (.tuple #[.int .u32 0, .bool false])) := by
  have j4 : (len : Int) - 4 < at_ := by omega
  go_enter Tryz.func157, Tryz.ntmps157
  go_wp2_with fail
  go_ret2
  exact ⟨rfl, Keeps.refl _ _⟩
theorem word_calls {w : World} {v : Value} {l : List UInt8} (h : Reads w v l) (at_ : Nat) (h4 : at_ + 4 ≤ l.length) : Calls Tryz.prog 157 #[v, .int .i64 (at_ : Int)] w
    (QuietP w (.tuple #[.int .u32 (wordOf l at_ : Int), .bool true])) := by
  obtain ⟨a, c, rfl, hc1, hc2⟩ := h.form
  unfold maxLen at hc2
  obtain ⟨x, rfl, hp⟩ := h.piece at_ 4 h4 (by omega)
  exact word_raw (by omega) (by omega) (by omega) (wordOf_lt l at_ h4) (get_calls hp (by simp; omega))
theorem word_none {w : World} {v : Value} {l : List UInt8} (h : Reads w v l) (at_ : Int) (h0 : 0 ≤ at_) (h4 : (l.length : Int) < at_ + 4) : Calls Tryz.prog 157 #[v, .int .i64 at_] w
    (QuietP w (.tuple #[.int .u32 0, .bool false])) := by
  obtain ⟨a, c, rfl, hc1, hc2⟩ := h.form
  unfold maxLen at hc2
  exact word_out (by omega) (by omega) h0 h4
end Go.Proofs.YtlcnhpjggjgnpaaGreatDoor
namespace Go.Proofs.YtlcnhpjggjgnpaaGreatDoor
open Go.RowKit Go.MapKept
def putOf (n : Nat) : Nat → List UInt8
  | 0 => []
  | s + 1 => putOf (n / 256) s ++ [UInt8.ofNat (n % 256)]
theorem putOf_length : ∀ (s n : Nat), (putOf n s).length = s
  | 0, _ => rfl
  | s + 1, n => by simp [putOf, putOf_length s]
theorem putOf_cons : ∀ (s n : Nat), putOf n (s + 1) = UInt8.ofNat (n / 256 ^ s % 256) :: putOf n s
  | 0, n => by simp [putOf]
  | s + 1, n => by
    rw [putOf, putOf_cons s, List.cons_append]
    congr 2
    rw [Nat.div_div_eq_div_mul, Nat.pow_succ, Nat.mul_comm 256]
theorem byte_at (n k : Nat) : (UInt8.ofNat (n / 256 ^ k % 256)).toNat = n / 256 ^ k % 256 := by
  rw [UInt8.toNat_ofNat']
  omega
theorem byte_int (n k : Nat) : (n : Int) / 2 ^ (8 * k) % 256 = ((UInt8.ofNat (n / 256 ^ k % 256)).toNat : Int) := by
  rw [byte_at, show (256 : Nat) ^ k = 2 ^ (8 * k) by rw [Nat.pow_mul]]
  simp only [Int.natCast_emod, Int.natCast_ediv, Int.natCast_pow]
  rfl
theorem make_owns (w : World) (n : Nat) (hn : n ≤ 140737488355328) : ∃ w', (Instr.makeSlice 22 (.int .i64 (n : Int)) (.int .i64 (n : Int))).run Tryz.prog w = .ok (.slice (some ⟨w.heap.size, 0, none⟩) n n) w' ∧
    Owns w' w.heap.size (.slice (some ⟨w.heap.size, 0, none⟩) n n) (List.replicate n 0) ∧ Keeps (fun _ => False) w w' := by
  obtain ⟨i0, hi, hz0, hz1, hz2⟩ := info_parts info_u8
  obtain ⟨w', hr, ho, hg⟩ := run_make_full (P := Tryz.prog) w w.heap.size 22 5 i0 _ 1 Tryz.underlying22 hi hz0 hz1 .i64 .i64 n (by rw [hz2]; omega) (by unfold maxLen; omega) (Nat.le_refl _)
  have e : (madeCells (Value.int .u8 0).cells (n * 1)).toList = (List.replicate n (0 : UInt8)).map u8v := by
    apply List.ext_getElem?
    intro i
    simp only [madeCells, Array.toList_map, List.getElem?_map, Array.toList_range, Nat.mul_one, List.getElem?_replicate]
    by_cases h : i < n
    · simp [h, Value.cells, u8v]
      rw [Nat.mod_one]
      rfl
    · simp [h]
  rw [e] at ho
  refine ⟨w', hr, ?_, (Keeps.of_grown hg).mono (fun _ _ e => by cases e)⟩
  unfold Owns
  rw [List.length_replicate]
  exact ho
theorem Owns.set {w : World} {base g n c : Nat} {l : List UInt8} (h : Owns w base (.slice (some ⟨g, 0, none⟩) n c) l) {i : Nat} (hi : i < l.length) (b : UInt8) :
    Owns (w.setCell ⟨g, i, none⟩ (.int .u8 (b.toNat : Int))) base (.slice (some ⟨g, 0, none⟩) n c) (l.set i b) ∧ (∃ u, w.cell? ⟨g, i, none⟩ = some u) ∧ w.frozen? ⟨g, i, none⟩ = false ∧ Keeps (fun x => x = g) w (w.setCell ⟨g, i, none⟩ (.int .u8 (b.toNat : Int))) := by
  obtain ⟨h1, h2⟩ := h
  rcases h2 with ⟨e, _⟩ | ⟨g', cap, cur, e, hg, hb, h3, h4, h5, h6⟩
  · cases e
  · cases e
    have hi2 : i < cur.size := by omega
    refine ⟨⟨by simp, .inr ⟨g, c, _, by rw [List.length_set], hg, heap_setCell_eq hb i _, by rw [List.length_set]; exact h3, h4, by simp; omega, ?_⟩⟩, ⟨cur[i], cell_at hb (by simp [hi2])⟩, free_at hb i, Keeps.setCell (F := fun x => x = g) (p := ⟨g, i, none⟩) (Keeps.refl _ w) (fun _ => rfl) _⟩
    rw [List.length_set]
    simp only [Nat.mul_one] at h6 ⊢
    rw [List.map_set, ← h6]
    simp [List.take_set, u8v]
theorem set_step (n k j : Nat) : (List.replicate (j + 1) (0 : UInt8) ++ putOf n k).set j (UInt8.ofNat (n / 256 ^ k % 256)) = List.replicate j 0 ++ putOf n (k + 1) := by
  rw [putOf_cons, List.replicate_succ', List.append_assoc, List.set_append_right _ _ (by simp)]
  simp
set_option maxRecDepth 100000 in
theorem put_calls (w : World) (n s : Nat) (_hn : n < 18446744073709551616) (hs : s ≤ 8) : Calls Tryz.prog 44 #[.int .u64 (n : Int), .int .i64 (s : Int)] w (OPost w (putOf n s)) := by
  have j0 : (0 : Int) ≤ s := by omega
  have j1 : (s : Int) ≤ 8 := by omega
  obtain ⟨w1, hmk, ho1, hq1⟩ := make_owns w s (by omega)
  have HO1 := Lib.hid ho1
  have HQ1 := Lib.hid hq1
  clear ho1 hq1
  go_enter Tryz.func44, Tryz.ntmps44
  go_wp2_with fail
  go_loopw [16] (fun i wr => ∃ k : Nat, k ≤ s ∧ i = .int .i64 (k : Int) ∧ Owns wr w.heap.size (.slice (some ⟨w.heap.size, 0, none⟩) s s) (List.replicate (s - k) 0 ++ putOf n k) ∧ Keeps (fun _ => False) w wr) (fun i _ => (s : Nat) - (intOf i).toNat)
  case atStart => exact ⟨0, Nat.zero_le _, rfl, by simpa [putOf] using HO1.out, HQ1.out⟩
  case round =>
    obtain ⟨k, hk, rfl, ho, hq⟩ := hrel
    clear hmk
    by_cases hlt : k < s
    · obtain ⟨j, hj⟩ : ∃ j, s = k + (j + 1) := ⟨s - (k + 1), by omega⟩
      have e0 : (s : Int) - 1 - (k : Int) = (j : Int) := by omega
      rw [show s - k = j + 1 by omega] at ho
      have e1 := byte_int n k
      have e2 := set_step n k j
      generalize UInt8.ofNat (n / 256 ^ k % 256) = b at e1 e2
      obtain ⟨ho2, ⟨u, hu⟩, hf, hk2⟩ := ho.set (i := j) (by simp; omega) b
      rw [e2] at ho2
      have hq2 : Keeps (fun _ => False) w (wr.setCell ⟨w.heap.size, j, none⟩ (.int .u8 (b.toNat : Int))) := hq.trans hk2 (fun x hx e => by omega)
      have HR := Lib.hid (⟨k + 1, by omega, rfl, by rw [show s - (k + 1) = j by omega]; exact ho2, hq2⟩ : ∃ k' : Nat, k' ≤ s ∧ Value.int .i64 ((k + 1 : Nat) : Int) = .int .i64 (k' : Int) ∧ Owns (wr.setCell ⟨w.heap.size, j, none⟩ (.int .u8 (b.toNat : Int))) w.heap.size (.slice (some ⟨w.heap.size, 0, none⟩) s s) (List.replicate (s - k') 0 ++ putOf n k') ∧ Keeps (fun _ => False) w (wr.setCell ⟨w.heap.size, j, none⟩ (.int .u8 (b.toNat : Int))))
      have i0 : (0 : Int) ≤ k := by omega
      have i1 : (k : Int) < s := by omega
      have i2 : (j : Int) < s := by omega
      have i3 : (0 : Int) ≤ j := by omega
      generalize b.toNat = bb at e1 HR
      clear e2 ho ho2 hq hq2 hk2 hlt hj
      go_wp2_with fail
      go_roundw
      case rel => exact HR.out
      case measure => simp [intOf]; omega
    · obtain rfl : k = s := by omega
      rw [Nat.sub_self] at ho
      have HO := Lib.hid ho
      have HQ := Lib.hid hq
      clear ho hq hlt hk
      go_wp2_with fail
      go_ret
      exact ⟨_, rfl, HO.out, HQ.out⟩
end Go.Proofs.YtlcnhpjggjgnpaaGreatDoor
namespace Go.Proofs.YtlcnhpjggjgnpaaGreatDoor
open Go.RowKit Go.MapKept
def frameOf (p : List UInt8) : List UInt8 := putOf p.length 4 ++ putOf (crcOf (putOf p.length 4 ++ p)) 4 ++ p
theorem frameOf_length (p : List UInt8) : (frameOf p).length = 8 + p.length := by
  simp [frameOf, putOf_length]; omega
theorem crcOf_lt (l : List UInt8) : crcOf l < 4294967296 := by unfold crcOf; omega
theorem Owns.more {w wr : World} {base : Nat} {v : Value} {l p : List UInt8} {pv : Value} (hz : base ≤ wr.heap.size) (ho : Owns wr base v l) (hp : Reads wr pv p) (hb : l.length + p.length ≤ 140737488355328) (hk : Keeps (fun _ => False) w wr) (hw : w.heap.size ≤ base) :
    ∃ v' w', (Builtin.append_ #[22, 22] 22 #[v, pv]).run Tryz.prog wr = .ok v' w' ∧ Owns w' base v' (l ++ p) ∧ Keeps (fun _ => False) w w' := by
  obtain ⟨v', w', hr, h2, hk2⟩ := ho.grow hz hp hb
  exact ⟨v', w', hr, h2, hk.trans hk2 (fun b hb e => by have := (owns_lt ho b e).2; omega)⟩
theorem Owns.form {w : World} {base : Nat} {v : Value} {l : List UInt8} (h : Owns w base v l) (hne : l ≠ []) : ∃ g c, v = .slice (some ⟨g, 0, none⟩) l.length c ∧ l.length ≤ c ∧ c ≤ maxLen ∧ Bytes (fun b => base ≤ b) w (.slice (some ⟨g, 0, none⟩) l.length l.length) l := by
  obtain ⟨h1, h2⟩ := h
  rcases h2 with ⟨rfl, e⟩ | ⟨g, cap, cur, rfl, hg, hb, h3, h4, h5, h6⟩
  · exact absurd (List.eq_nil_of_length_eq_zero e) hne
  · refine ⟨g, cap, rfl, h3, h4, .inr ⟨g, 0, l.length, cur, _, rfl, hg, hb, Nat.le_refl _, by omega, by omega, fun i x hx => ?_⟩⟩
    have e := congrArg (fun t : List Value => t[i]?) h6
    have hi : i < l.length := (List.getElem?_eq_some_iff.1 hx).1
    simp only [Nat.mul_one, List.getElem?_take, hi, if_true, List.getElem?_map, hx, Option.map_some] at e
    rw [Nat.zero_add]
    simpa [u8v] using e
set_option maxRecDepth 100000 in
theorem frame_calls {w : World} {v : Value} {p : List UInt8} (h : Reads w v p) (hp : p.length ≤ 1099511627776) : Calls Tryz.prog 155 #[v] w (OPost w (frameOf p)) := by
  obtain ⟨a, c, rfl, hc1, hc2⟩ := h.form
  have H := Lib.hid h
  clear h
  have hput := put_calls w p.length 4 (by omega) (by omega)
  have j0 : (0 : Int) ≤ p.length := by omega
  have j1 : (p.length : Int) ≤ 1099511627776 := by omega
  go_enter Tryz.func155, Tryz.ntmps155
  go_wp2_with fail
  refine hput.mono ?_
  rintro e w1 ⟨v1, rfl, ho1, hk1⟩
  have hl1 : (putOf p.length 4).length = 4 := putOf_length _ _
  obtain ⟨g, c1, rfl, q1, q2, hB1⟩ := ho1.form (by intro e; rw [e] at hl1; simp at hl1)
  obtain ⟨i0, hi, hz0, hz1, hz2⟩ := info_parts info_u8
  obtain ⟨v2, w2, hrun2, hB2, hk2, _⟩ := append_full (P := Tryz.prog) 22 22 22 5 i0 _ Tryz.underlying22 Tryz.underlying22 hi hz0 hz1 hz2 rfl hB1 (H.out.keep hk1) rfl (by omega)
  obtain ⟨a2, c2, rfl, _, _⟩ := hB2.form
  have hcrc := crc_calls hB2.reads
  rw [List.length_append, hl1] at hcrc hrun2
  rw [hl1] at q1
  unfold maxLen at q2
  have j2 : (4 : Int) ≤ c1 := by omega
  have HO := Lib.hid ho1
  have HK := Lib.hid (hk1.trans hk2 (fun _ _ e => e))
  have HK2 := Lib.hid hk2
  have Hrun := Lib.hid hrun2
  have Hc := Lib.hid hcrc
  rw [hl1]
  clear hput ho1 hk1 hk2 hB1 hB2 hrun2 hcrc
  go_wp2_with (at_builtin; refine wpList_append_run (w := w1) rfl _ _ _ _ rfl rfl rfl Hrun.out ?_)
  refine Hc.out.mono ?_
  rintro e w3 ⟨rfl, hk3⟩
  obtain ⟨cc, hcc⟩ : ∃ cc, cc = crcOf (putOf p.length 4 ++ p) := ⟨_, rfl⟩
  have hlt := crcOf_lt (putOf p.length 4 ++ p)
  have hfr : frameOf p = putOf p.length 4 ++ putOf cc 4 ++ p := by rw [hcc]; rfl
  rw [← hcc] at hlt ⊢
  have hput2 := put_calls w3 cc 4 (by omega) (by omega)
  have j3 : (cc : Int) < 4294967296 := by omega
  have j4 : (0 : Int) ≤ cc := by omega
  have HF := Lib.hid hfr
  have HK3 := Lib.hid hk3
  clear hk3 hfr hcc
  go_wp2_with fail
  refine hput2.mono ?_
  rintro e w4 ⟨v4, rfl, ho4, hk4⟩
  have kk14 : Keeps (fun _ => False) w1 w4 := (HK2.out.trans HK3.out (fun _ _ e => e)).trans hk4 (fun _ _ e => e)
  have kk4 : Keeps (fun _ => False) w w4 := (HK.out.trans HK3.out (fun _ _ e => e)).trans hk4 (fun _ _ e => e)
  obtain ⟨v5, w5, hrun5, ho5, hk5⟩ := (HO.out.keep kk14).more kk4.size ho4.bytes.reads (by rw [putOf_length, putOf_length]; omega) kk4 (Nat.le_refl _)
  obtain ⟨v6, w6, hrun6, ho6, hk6⟩ := ho5.more hk5.size (H.out.keep hk5) (by rw [List.length_append, putOf_length, putOf_length]; omega) hk5 (Nat.le_refl _)
  obtain ⟨a4, c4, rfl, _, _⟩ := ho4.bytes.form
  obtain ⟨a5, c5, rfl, _, _⟩ := ho5.bytes.form
  obtain ⟨a6, c6, rfl, _, _⟩ := ho6.bytes.form
  have hl4 : (putOf cc 4).length = 4 := putOf_length _ _
  have hl5 : (putOf p.length 4 ++ putOf cc 4).length = 8 := by rw [List.length_append, putOf_length, putOf_length]
  rw [hl1, hl4, hl5] at hrun5
  rw [hl5] at hrun6
  rw [hl4]
  obtain ⟨n6, hn6⟩ : ∃ n6, n6 = (putOf p.length 4 ++ putOf cc 4 ++ p).length := ⟨_, rfl⟩
  rw [← hn6] at hrun6 ho6
  rw [← HF.out] at ho6
  have Hrun5 := Lib.hid hrun5
  have Hrun6 := Lib.hid hrun6
  have HP := Lib.hid ho6
  have HPK := Lib.hid hk6
  clear hrun5 hrun6 ho4 ho5 ho6 hk4 hk5 hk6 kk14 kk4 hput2 j0 j1 j2 j3 j4 hlt hl1 hl4 hl5 hn6
  go_wp2_with (at_builtin; (first | (refine wpList_append_run (w := w4) rfl _ _ _ _ rfl rfl rfl Hrun5.out ?_) | (refine wpList_append_run (w := w5) rfl _ _ _ _ rfl rfl rfl Hrun6.out ?_)))
  go_ret
  exact ⟨_, rfl, HP.out, HPK.out⟩
end Go.Proofs.YtlcnhpjggjgnpaaGreatDoor
namespace Go.Proofs.YtlcnhpjggjgnpaaGreatDoor
open Go.RowKit Go.MapKept
theorem snoc_cases {α : Type} (l : List α) {k : Nat} (h : l.length = k + 1) : ∃ m c, l = m ++ [c] ∧ m.length = k := by
  refine ⟨l.dropLast, l.getLast (by intro e; rw [e] at h; simp at h), (List.dropLast_concat_getLast _).symm, by simp [h]⟩
theorem putOf_getOf : ∀ (k : Nat) (l : List UInt8), l.length = k → putOf (getOf l) k = l
  | 0, l, h => by rw [List.eq_nil_of_length_eq_zero h]; rfl
  | k + 1, l, h => by
    obtain ⟨m, c, rfl, hm⟩ := snoc_cases l h
    have hc := c.toNat_lt
    rw [getOf_snoc, putOf, show (getOf m * 256 + c.toNat) / 256 = getOf m by omega, show (getOf m * 256 + c.toNat) % 256 = c.toNat by omega, putOf_getOf k m hm]
    simp
theorem getOf_putOf : ∀ (k n : Nat), n < 256 ^ k → getOf (putOf n k) = n
  | 0, n, h => by simp at h; subst h; rfl
  | k + 1, n, h => by
    rw [Nat.pow_succ] at h
    rw [putOf, getOf_snoc, getOf_putOf k (n / 256) (by omega), UInt8.toNat_ofNat']
    omega
theorem putOf_inj {k a b : Nat} (ha : a < 256 ^ k) (hb : b < 256 ^ k) (h : putOf a k = putOf b k) : a = b := by
  rw [← getOf_putOf k a ha, h, getOf_putOf k b hb]
def recAt (l : List UInt8) (a : Nat) : List UInt8 := (l.drop (a + 8)).take (wordOf l a)
def FrameAt (l : List UInt8) (a : Nat) : Prop :=
  a + 8 ≤ l.length ∧ wordOf l a ≤ 1048576 ∧ a + 8 + wordOf l a ≤ l.length ∧ crcOf (putOf (wordOf l a) 4 ++ recAt l a) = wordOf l (a + 4)
instance (l : List UInt8) (a : Nat) : Decidable (FrameAt l a) := by unfold FrameAt; infer_instance
def scanFrom (l : List UInt8) : Nat → Nat → List (List UInt8) × Nat
  | 0, a => ([], a)
  | f + 1, a => if FrameAt l a then (recAt l a :: (scanFrom l f (a + 8 + wordOf l a)).1, (scanFrom l f (a + 8 + wordOf l a)).2) else ([], a)
def scanOf (l : List UInt8) : List (List UInt8) × Nat := scanFrom l (l.length + 1) 0
theorem recAt_length {l : List UInt8} {a : Nat} (h : a + 8 + wordOf l a ≤ l.length) : (recAt l a).length = wordOf l a := by
  unfold recAt; rw [List.length_take, List.length_drop]; omega
theorem take_split {α : Type} (l : List α) (a i j : Nat) : (l.drop a).take (i + j) = (l.drop a).take i ++ (l.drop (a + i)).take j := by
  rw [List.take_add, List.drop_drop]
theorem frame_eq {l : List UInt8} {a : Nat} (h8 : a + 8 ≤ l.length) (h : a + 8 + wordOf l a ≤ l.length) :
    frameOf (recAt l a) = (l.drop a).take (8 + wordOf l a) ↔ crcOf (putOf (wordOf l a) 4 ++ recAt l a) = wordOf l (a + 4) := by
  have hl := recAt_length h
  have e : (l.drop a).take (8 + wordOf l a) = (l.drop a).take 4 ++ (l.drop (a + 4)).take 4 ++ recAt l a := by
    rw [show (8 : Nat) = 4 + 4 by rfl, take_split, take_split]
    rfl
  have e1 : putOf (wordOf l a) 4 = (l.drop a).take 4 := putOf_getOf 4 _ (by rw [List.length_take, List.length_drop]; omega)
  have e2 : putOf (wordOf l (a + 4)) 4 = (l.drop (a + 4)).take 4 := putOf_getOf 4 _ (by rw [List.length_take, List.length_drop]; omega)
  unfold frameOf
  rw [hl, e, e1]
  constructor
  · intro h2
    have h3 := List.append_cancel_right h2
    have h4 := List.append_cancel_left h3
    rw [← e2] at h4
    exact putOf_inj (crcOf_lt _) (wordOf_lt l (a + 4) (by omega)) h4
  · intro h2
    rw [h2, e2]
def framesOf (rs : List (List UInt8)) : List UInt8 := (rs.map frameOf).flatten
theorem framesOf_nil : framesOf [] = [] := rfl
theorem framesOf_cons (p : List UInt8) (rs : List (List UInt8)) : framesOf (p :: rs) = frameOf p ++ framesOf rs := rfl
theorem framesOf_append (a b : List (List UInt8)) : framesOf (a ++ b) = framesOf a ++ framesOf b := by simp [framesOf]
theorem scanFrom_le {l : List UInt8} : ∀ (f a : Nat), a ≤ l.length → (scanFrom l f a).2 ≤ l.length
  | 0, a, h => h
  | f + 1, a, h => by
    rw [scanFrom]
    split
    · rename_i hf; exact scanFrom_le f _ hf.2.2.1
    · exact h
theorem scanOf_le (l : List UInt8) : (scanOf l).2 ≤ l.length := scanFrom_le _ _ (Nat.zero_le _)
theorem scanFrom_small {l : List UInt8} : ∀ (f a : Nat), ∀ p ∈ (scanFrom l f a).1, p.length ≤ 1048576
  | 0, a, p, hp => by simp [scanFrom] at hp
  | f + 1, a, p, hp => by
    rw [scanFrom] at hp
    split at hp
    · rename_i hf
      rcases List.mem_cons.1 hp with rfl | hp
      · rw [recAt_length hf.2.2.1]; exact hf.2.1
      · exact scanFrom_small f _ p hp
    · simp at hp
theorem scanFrom_frames {l : List UInt8} : ∀ (f a : Nat), a ≤ l.length → (scanFrom l f a).2 = a + (framesOf (scanFrom l f a).1).length ∧ (l.drop a).take (framesOf (scanFrom l f a).1).length = framesOf (scanFrom l f a).1
  | 0, a, h => by simp [scanFrom, framesOf_nil]
  | f + 1, a, h => by
    rw [scanFrom]
    by_cases hf : FrameAt l a
    · rw [if_pos hf]
      obtain ⟨h1, h2, h3, h4⟩ := hf
      obtain ⟨i1, i2⟩ := scanFrom_frames f (a + 8 + wordOf l a) h3
      have hfr := (frame_eq h1 h3).2 h4
      have hl := recAt_length h3
      simp only [framesOf_cons]
      constructor
      · rw [i1, List.length_append, frameOf_length, hl]; omega
      · rw [List.length_append, take_split, frameOf_length, hl, ← hfr]
        congr 1
        rw [show a + (8 + wordOf l a) = a + 8 + wordOf l a by omega]
        exact i2
    · rw [if_neg hf]; simp [framesOf_nil]
end Go.Proofs.YtlcnhpjggjgnpaaGreatDoor
namespace Go.Proofs.YtlcnhpjggjgnpaaGreatDoor
open Go.RowKit Go.MapKept
theorem info_bytes : (Tryz.prog.info? 22).map (fun i => (i.zero, i.size, i.bytes)) = some (some (.slice none 0 0), 1, 24) := by kernel_rfl
theorem row_push {w : World} {base n : Nat} {v p : Value} {ps : List Value} (h : w.ownsRow base 22 1 v n ps) (hz : base ≤ w.heap.size) (hp : p.oneCell' = true) (hb : n < 1099511627776) :
    ∃ v' w', (Builtin.append_ #[138, 138] 138 #[v, .slice (some ⟨w.heap.size, 0, none⟩) 1 1]).run Tryz.prog (w.alloc (.cells #[p] 22)) = .ok v' w' ∧ w'.ownsRow base 22 1 v' (n + 1) (ps ++ [p]) ∧
      Keeps (fun b => v.ownBlock = some b) w w' ∧ (v'.ownBlock = v.ownBlock ∨ v'.ownBlock = some (w.heap.size + 1)) := by
  obtain ⟨i0, hi, hz0, hz1, hz2⟩ := info_parts info_bytes
  obtain ⟨v', w', hrun, ho2, hg, _, hat⟩ := run_append_own_at (P := Tryz.prog) (w.alloc (.cells #[p] 22)) base 138 138 22 i0 _ 1 24 Tryz.underlying138 hi hz0 hz1 hz2 rfl (by omega) v n ps (h.alloc _) ⟨w.heap.size, 0, none⟩ 1 1 [p] rfl
    (fun j u hu => by
      rw [Addr.add_lit, Nat.zero_add]
      exact cell_at (heap_alloc_new w _) (by simpa using hu))
    (by intro u hu; simp at hu; subst hu; exact hp) (by unfold maxLen; omega) (by omega) (by simp only [World.size_alloc]; omega)
  refine ⟨v', w', hrun, ho2, ((Keeps.refl _ w).alloc _).trans (Keeps.of_grown hg) (fun _ _ h => h), ?_⟩
  simpa using hat
theorem row_keep {w w' : World} {base e n : Nat} {v : Value} {xs : List Value} (h : w.ownsRow base e 1 v n xs) {F : Nat → Prop} (hk : Keeps F w w') (hF : ∀ b, v.ownBlock = some b → ¬ F b) : w'.ownsRow base e 1 v n xs := by
  obtain ⟨h1, h2⟩ := h
  refine ⟨h1, ?_⟩
  rcases h2 with h2 | ⟨g, cap, cur, rfl, hg, hb, h3, h4, h5, h6⟩
  · exact .inl h2
  · exact .inr ⟨g, cap, cur, rfl, hg, hk.at hb (hF g rfl), h3, h4, h5, h6⟩
theorem row_lt {w : World} {base e n : Nat} {v : Value} {xs : List Value} (h : w.ownsRow base e 1 v n xs) : ∀ b, v.ownBlock = some b → b < w.heap.size ∧ base ≤ b := by
  rcases h.2 with ⟨rfl, _⟩ | ⟨g, cap, cur, rfl, hg, hb, _⟩
  · intro b hb; cases hb
  · intro b hb'
    cases hb'
    exact ⟨lt_of_heap hb, hg⟩
theorem row_base {w : World} {base base' e n : Nat} {v : Value} {xs : List Value} (h : w.ownsRow base e 1 v n xs) (hb : base' ≤ base) : w.ownsRow base' e 1 v n xs := by
  obtain ⟨h1, h2⟩ := h
  refine ⟨h1, ?_⟩
  rcases h2 with h2 | ⟨g, cap, cur, rfl, hg, h3⟩
  · exact .inl h2
  · exact .inr ⟨g, cap, cur, rfl, by omega, h3⟩
theorem row_ne {w : World} {base base' n n' : Nat} {v p : Value} {xs ys : List Value} (h : w.ownsRow base 22 1 v n xs) (k : w.ownsRow base' 5 1 p n' ys) {b : Nat} (hb : v.ownBlock = some b) (hb' : p.ownBlock = some b) : False := by
  obtain ⟨c1, e1⟩ := ownsRow_type h hb
  obtain ⟨c2, e2⟩ := ownsRow_type k hb'
  have := e1.symm.trans e2
  simp at this
def OwnsRecs (w : World) (base : Nat) (v : Value) (ll : List (List UInt8)) : Prop :=
  ∃ ps : List Value, w.ownsRow base 22 1 v ll.length ps ∧ Rel2 (fun p l => Owns w base p l) ps ll ∧ ps.Pairwise (fun p q => ∀ b, p.ownBlock = some b → q.ownBlock ≠ some b)
theorem OwnsRecs.nil (w : World) (base : Nat) : OwnsRecs w base (.slice none 0 0) [] := ⟨[], ⟨rfl, .inl ⟨rfl, rfl⟩⟩, trivial, List.Pairwise.nil⟩
theorem Rel2.mem {α β : Type} {R : α → β → Prop} : ∀ {l : List α} {m : List β}, Rel2 R l m → ∀ a ∈ l, ∃ b, R a b
  | a :: xs, b :: bs, h, x, hx => by
    rcases List.mem_cons.1 hx with rfl | hx
    · exact ⟨b, h.1⟩
    · exact Rel2.mem h.2 x hx
  | [], _, _, x, hx => by simp at hx
  | _ :: _, [], h, _, _ => h.elim
theorem OwnsRecs.form {w : World} {base : Nat} {v : Value} {ll : List (List UInt8)} (h : OwnsRecs w base v ll) : ∃ a c, v = .slice a ll.length c := by
  obtain ⟨ps, h1, _⟩ := h
  exact ownsRow_slice h1
theorem OwnsRecs.keep {w w' : World} {base : Nat} {v : Value} {ll : List (List UInt8)} (h : OwnsRecs w base v ll) (hk : Keeps (fun _ => False) w w') : OwnsRecs w' base v ll := by
  obtain ⟨ps, h1, h2, h3⟩ := h
  exact ⟨ps, row_keep h1 hk (fun _ _ e => e), h2.mono (fun p l hp => hp.keep hk), h3⟩
theorem OwnsRecs.push {w0 w : World} {base : Nat} {v p : Value} {ll : List (List UInt8)} {l : List UInt8} (h : OwnsRecs w0 base v ll) (hz : base ≤ w0.heap.size) (hk0 : Keeps (fun _ => False) w0 w) (hp : Owns w w0.heap.size p l) (hb : ll.length < 1099511627776) :
    ∃ v' w', (Builtin.append_ #[138, 138] 138 #[v, .slice (some ⟨w.heap.size, 0, none⟩) 1 1]).run Tryz.prog (w.alloc (.cells #[p] 22)) = .ok v' w' ∧ OwnsRecs w' base v' (ll ++ [l]) ∧ Keeps (fun b => v.ownBlock = some b) w w' := by
  obtain ⟨ps, h1, h2, h3⟩ := h
  have hp1 : p.oneCell' = true := by obtain ⟨a, c, rfl, _⟩ := hp.bytes.form; rfl
  have h1' := row_keep h1 hk0 (fun _ _ e => e)
  obtain ⟨v', w', hr, ho, hk, _⟩ := row_push h1' (Nat.le_trans hz hk0.size) hp1 hb
  refine ⟨v', w', hr, ⟨ps ++ [p], by rw [List.length_append]; exact ho, ?_, ?_⟩, hk⟩
  · have hp2 : Owns w' w0.heap.size p l := owns_keep hp hk (fun b hb e => row_ne h1' hp e hb)
    refine Rel2.append (h2.mono (fun q m hq => ?_)) ⟨hp2.base hz, trivial⟩
    have hq' := hq.keep hk0
    exact owns_keep hq' hk (fun b hb e => row_ne h1' hq' e hb)
  · rw [List.pairwise_append]
    refine ⟨h3, List.pairwise_singleton .., fun q hq r hr b hb e => ?_⟩
    simp at hr
    subst hr
    obtain ⟨m, hm⟩ := h2.mem q hq
    have e1 := owns_lt hm b hb
    have e2 := owns_lt hp b e
    omega
theorem copy_run {w : World} {pv : Value} {p : List UInt8} (hp : Reads w pv p) (hb : p.length ≤ 140737488355328) :
    ∃ v' w', (Builtin.append_ #[22, 22] 22 #[.slice (some ⟨w.heap.size, 0, none⟩) 0 0, pv]).run Tryz.prog (w.alloc (.cells #[] 5)) = .ok v' w' ∧ Owns w' w.heap.size v' p ∧ Keeps (fun _ => False) w w' := by
  have hk : Keeps (fun _ => False) w (w.alloc (.cells #[] 5)) := (Keeps.refl _ w).alloc _
  have ho : Owns (w.alloc (.cells #[] 5)) w.heap.size (.slice (some ⟨w.heap.size, 0, none⟩) 0 0) [] :=
    ⟨rfl, .inr ⟨w.heap.size, 0, #[], rfl, Nat.le_refl _, heap_alloc_new w _, Nat.le_refl _, Nat.zero_le _, by simp, by simp⟩⟩
  obtain ⟨v', w', hr, h2, hk2⟩ := ho.grow (by simp) (hp.keep hk) (by simpa using hb)
  refine ⟨v', w', hr, by simpa using h2, hk.trans hk2 (fun b hb e => ?_)⟩
  have : w.heap.size = b := by simpa [Value.ownBlock] using e
  omega
def RPost (w : World) (ll : List (List UInt8)) (n : Int) (e : Ending) (w' : World) : Prop := ∃ v, e = .returned (.tuple #[v, .int .i64 n]) ∧ OwnsRecs w' w.heap.size v ll ∧ Keeps (fun _ => False) w w'
end Go.Proofs.YtlcnhpjggjgnpaaGreatDoor
