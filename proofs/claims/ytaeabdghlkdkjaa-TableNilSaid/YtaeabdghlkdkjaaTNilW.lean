/- TableNil: the walk. -/
import Derived.Test.YtaeabdghlkdkjaaTAwk
namespace Go.Proofs.Ytaeabdghlkdkjaa
set_option linter.unusedVariables false
open Go.RowKit Go.MapKept

def keyK : ByteArray := ⟨#[107]⟩
def chK : TCh := ⟨keyK, false, []⟩
/-- A block of 257 changes, the first k of which have their key. -/
def ManyAt (w : World) (B k : Nat) : Prop := ∃ cur : Array Value, w.heap[B]? = some (.cells cur 51 (0, 0)) ∧ 771 ≤ cur.size ∧ ∀ i, i < 257 → cur[i * 3]? = some (.string (if i < k then ⟨#[107]⟩ else ⟨#[]⟩)) ∧ cur[i * 3 + 1]? = some (.bool false) ∧ cur[i * 3 + 2]? = some (.slice none 0 0)
theorem many_make (w : World) : ∃ w', (Instr.makeSlice 35 (.int .i64 257) (.int .i64 257)).run Try.prog w = .ok (.slice (some ⟨w.heap.size, 0, none⟩) 257 257) w' ∧ ManyAt w' w.heap.size 0 ∧ Keeps (fun _ => False) w w' := by
  obtain ⟨i0, hi, hz0, hz1, hz2⟩ := info_parts info_tchange
  obtain ⟨w', hr, ho, hg⟩ := run_make_full (P := Try.prog) w w.heap.size 35 51 i0 _ 3 Try.underlying35 hi hz0 hz1 .i64 .i64 257 (by rw [hz2]; omega) (by unfold maxLen; omega) (Nat.le_refl _)
  refine ⟨w', hr, ?_, (Keeps.of_grown hg).mono (fun _ _ e => by cases e)⟩
  rcases ho.2 with ⟨e, _⟩ | ⟨g, cap, cur, e, h1, h2, h3, h4, h5, h6⟩
  · cases e
  · cases e
    have hsz : cur.size = 257 * 3 := h5
    have hget : ∀ i, i < 771 → cur[i]? = (madeCells (Value.agg #[.string ⟨#[]⟩, .bool false, .slice none 0 0]).cells (257 * 3))[i]? := fun i hi => by
      have e1 : cur.toList.take (257 * 3) = (madeCells (Value.agg #[.string ⟨#[]⟩, .bool false, .slice none 0 0]).cells (257 * 3)).toList := h6
      have e2 := congrArg (fun l => l[i]?) e1
      simp only [List.getElem?_take, Array.getElem?_toList] at e2
      rw [if_pos (by omega)] at e2
      exact e2
    have hm : ∀ i, i < 771 → (madeCells (Value.agg #[.string ⟨#[]⟩, .bool false, .slice none 0 0]).cells (257 * 3))[i]? = some ((#[Value.string ⟨#[]⟩, .bool false, .slice none 0 0] : Array Value).getD (i % 3) undef) := fun i hi => by
      have hz : (Value.agg #[.string ⟨#[]⟩, .bool false, .slice none 0 0]).cells = #[.string ⟨#[]⟩, .bool false, .slice none 0 0] := by rfl
      rw [hz]
      unfold madeCells
      rw [Array.getElem?_map, Array.getElem?_range, if_pos (by omega)]
      simp only [Option.map_some]
      rcases (by omega : i % 3 = 0 ∨ i % 3 = 1 ∨ i % 3 = 2) with h | h | h
      · simp [h]
      · simp [h]
      · simp [h]
    refine ⟨cur, h2, by omega, fun i hi => ⟨?_, ?_, ?_⟩⟩
    · rw [hget _ (by omega), hm _ (by omega), show i * 3 % 3 = 0 by omega]; simp
    · rw [hget _ (by omega), hm _ (by omega), show (i * 3 + 1) % 3 = 1 by omega]; simp
    · rw [hget _ (by omega), hm _ (by omega), show (i * 3 + 2) % 3 = 2 by omega]; simp
theorem ManyAt.set {w : World} {B k : Nat} (h : ManyAt w B k) (hk : k < 257) : ManyAt (w.setCell ⟨B, k * 3, none⟩ (.string ⟨#[107]⟩)) B (k + 1) ∧ w.cell? ⟨B, k * 3, none⟩ = some (.string ⟨#[]⟩) ∧ w.frozen? ⟨B, k * 3, none⟩ = false := by
  obtain ⟨cur, h1, h2, h3⟩ := h
  refine ⟨⟨_, heap_setCell_eq h1 _ _, by simpa using h2, fun i hi => ?_⟩, cell_at h1 (by have := (h3 k hk).1; rw [if_neg (by omega)] at this; exact this), free_at h1 _⟩
  obtain ⟨g0, g1, g2⟩ := h3 i hi
  refine ⟨?_, ?_, ?_⟩
  · by_cases e : i = k
    · subst e
      rw [if_pos (by omega), Array.getElem?_setIfInBounds_self_of_lt (by omega)]
    · rw [Array.getElem?_setIfInBounds_ne (by omega), g0]
      by_cases h4 : i < k
      · rw [if_pos h4, if_pos (by omega)]
      · rw [if_neg h4, if_neg (by omega)]
  · rw [Array.getElem?_setIfInBounds_ne (by omega), g1]
  · rw [Array.getElem?_setIfInBounds_ne (by omega), g2]
theorem ManyAt.ins {w : World} {B n : Nat} (h : ManyAt w B 257) (hn : n ≤ 257) : TChsIn w (some ⟨B, 0, none⟩) (List.replicate n chK) := fun i c hc => by
  obtain ⟨cur, h1, h2, h3⟩ := h
  rw [List.getElem?_replicate] at hc
  split at hc
  · rename_i hi
    cases hc
    obtain ⟨g0, g1, g2⟩ := h3 i (by omega)
    rw [if_pos (by omega)] at g0
    refine ⟨_, _, rfl, ?_, ?_, ?_, reads_nil w⟩
    · rw [Addr.add_lit, Nat.zero_add]; exact cell_at h1 g0
    · rw [Addr.add_lit, Nat.zero_add]; exact cell_at h1 g1
    · rw [Addr.add_lit, Nat.zero_add]; exact cell_at h1 g2
  · cases hc
theorem enc_257 : encOf (List.replicate 257 chK) = (8, []) := by unfold encOf; rw [if_pos (by rw [List.length_replicate]; omega)]
theorem chK_ok : badCh chK = false := by decide +kernel
theorem chK_len : (encCh chK).length = 4 := by
  have ha : keyK.toList.length = 1 := by decide +kernel
  have e1 := text_len keyK.toList (by omega)
  have e2 := text_len [] (by simp)
  show (1 :: textOf keyK.toList ++ textOf []).length = 4
  rw [List.length_append, List.length_cons, e1, e2, ha]; rfl
theorem flat_replicate (n : Nat) : ((List.replicate n chK).map encCh).flatten.length = n * 4 := by
  induction n with
  | zero => rfl
  | succ n ih => rw [List.replicate_succ, List.map_cons, List.flatten_cons, List.length_append, ih, chK_len]; omega
theorem enc_256 : (encOf (List.replicate 256 chK)).1 = 0 := enc_fits (by rw [List.length_replicate]; omega) (fun c hc => by rw [List.eq_of_mem_replicate hc]; exact chK_ok) (by rw [flat_replicate]; omega)
/-- Four changes of a value as long as may be are too long. -/
theorem enc_big {zs : List UInt8} (hz : zs.length = 262144) : encOf [⟨keyK, false, zs⟩, ⟨keyK, false, zs⟩, ⟨keyK, false, zs⟩, ⟨keyK, false, zs⟩] = (8, []) := by
  have ha : keyK.toList.length = 1 := by decide +kernel
  have hs : keyK.size = 1 := by decide +kernel
  have e1 := text_len keyK.toList (by omega)
  have hc := countOf_len 2 zs.length (by rw [hz]; decide)
  have hb : badCh ⟨keyK, false, zs⟩ = false := by unfold badCh; simp [hs, hz]
  have hl : (encCh ⟨keyK, false, zs⟩).length = 3 + ((countOf zs.length).length + 262144) := by
    show (1 :: textOf keyK.toList ++ textOf zs).length = _
    rw [List.length_append, List.length_cons, e1, ha]
    unfold textOf
    rw [List.length_append, hz]
  have h4 := countOf_len10 (n := 4) (by omega)
  unfold encOf
  rw [if_neg (by simp)]
  show encFrom _ (countOf 4) = _
  rw [encFrom, hb, if_neg (by simp), if_neg (by simp only [List.length_append]; omega), encFrom, hb, if_neg (by simp), if_neg (by simp only [List.length_append]; omega), encFrom, hb, if_neg (by simp), if_neg (by simp only [List.length_append]; omega), encFrom, hb, if_neg (by simp), if_pos (by simp only [List.length_append]; omega)]

set_option maxRecDepth 100000 in
set_option maxHeartbeats 1000000 in
theorem tnil_walk (key : ByteArray) (w : World) : Calls Try.prog 4 #[.string key] w fun e w' => e = .returned (.bool true) ∧ Below w.heap.size w w' := by
  obtain ⟨w1, hmk, hma, hmk1⟩ := many_make w
  have HMK := Lib.hid hmk
  have HMA := Lib.hid hma
  have HK1 := Lib.hid hmk1
  clear hma hmk1
  go_enter Try.func4, Try.ntmps4
  go_wp2_with fail
  refine (tget_nil w key).out.mono ?_; rintro e w' ⟨rfl, rfl⟩
  go_wp2_with fail
  go_loopw [24] (fun iv wx => ∃ k : Nat, k ≤ 257 ∧ iv = .int .i64 (k : Int) ∧ ManyAt wx w.heap.size k ∧ Keeps (fun _ => False) w wx) (fun iv _ => 257 - (intOf iv).toNat)
  case atStart => exact ⟨0, by omega, rfl, HMA.out, HK1.out⟩
  case round =>
    obtain ⟨k, hk, rfl, hma, hq⟩ := hrel
    clear HMA HK1 HMK
    have k0 : (0 : Int) ≤ k := by omega
    by_cases hlt : k < 257
    · obtain ⟨hma2, c0, f0⟩ := hma.set hlt
      have hq2 : Keeps (fun _ => False) w (wr.setCell ⟨w.heap.size, k * 3, none⟩ (.string ⟨#[107]⟩)) := hq.setCell (fun h => absurd h (Nat.lt_irrefl _)) _
      have HREL := Lib.hid (⟨k + 1, by omega, rfl, hma2, hq2⟩ : ∃ k' : Nat, k' ≤ 257 ∧ Value.int .i64 ((k + 1 : Nat) : Int) = .int .i64 (k' : Int) ∧ ManyAt (wr.setCell ⟨w.heap.size, k * 3, none⟩ (.string ⟨#[107]⟩)) w.heap.size k' ∧ Keeps (fun _ => False) w (wr.setCell ⟨w.heap.size, k * 3, none⟩ (.string ⟨#[107]⟩)))
      have k1 : (k : Int) < 257 := by omega
      clear hma hma2 hq hq2 hk hlt
      go_wp2_with fail
      go_roundw
      case rel => exact HREL.out
      case measure => simp [intOf]; omega
    · obtain rfl : k = 257 := by omega
      have hen1 := tencode_calls (hma.ins (n := 257) (by omega)) (c := 257) (by rw [List.length_replicate]; omega) (by unfold maxLen; omega)
      rw [enc_257, List.length_replicate] at hen1
      have HEN1 := Lib.hid hen1
      have HMA := Lib.hid hma
      have HQ := Lib.hid hq
      clear hen1 hma hq hk hlt k0
      go_wp2_with fail
      refine HEN1.out.mono ?_
      rintro e w2 ⟨v2, rfl, hv2, hk2⟩
      obtain ⟨a2, n2, c2, rfl⟩ := slice_form hv2
      have hma2 : ManyAt w2 w.heap.size 257 := by
        obtain ⟨cur, g1, g2⟩ := HMA.out
        exact ⟨cur, hk2.at g1 (fun e => e), g2⟩
      have hen2 := tencode_calls (hma2.ins (n := 256) (by omega)) (c := 257) (by rw [List.length_replicate]; omega) (by unfold maxLen; omega)
      rw [List.length_replicate] at hen2
      have HEN2 := Lib.hid hen2
      have HQ2 := Lib.hid (HQ.out.trans hk2 (fun _ _ e => e))
      clear hen2 hma2 hv2 hk2 HEN1 HMA HQ
      go_wp2_with fail
      refine HEN2.out.mono ?_
      rintro e w3 ⟨v3, rfl, hv3, hk3⟩
      obtain ⟨a3, n3, c3, rfl⟩ := slice_form hv3
      obtain ⟨w4, hmk4, ho4, hk4⟩ := make_owns w3 262144 (by omega)
      have hmk4' : (Instr.makeSlice 41 (.int .i64 262144) (.int .i64 262144)).run Try.prog w3 = .ok (.slice (some ⟨w3.heap.size, 0, none⟩) 262144 262144) w4 := hmk4
      have he2 := enc_256
      generalize (encOf (List.replicate 256 chK)).1 = ec at he2 ⊢
      subst he2
      obtain ⟨zs, hzs⟩ : ∃ zs, zs = List.replicate 262144 (0 : UInt8) := ⟨_, rfl⟩
      have hzl : zs.length = 262144 := by rw [hzs, List.length_replicate]
      rw [← hzs] at ho4
      clear hzs hmk4
      have hW := heap_alloc_new (w4.alloc (.cells #[.string ⟨#[107]⟩, .bool false, .slice (some ⟨w3.heap.size, 0, none⟩) 262144 262144] 51)) (.cells #[.string ⟨#[107]⟩, .bool false, .slice (some ⟨w3.heap.size, 0, none⟩) 262144 262144, .string ⟨#[107]⟩, .bool false, .slice (some ⟨w3.heap.size, 0, none⟩) 262144 262144, .string ⟨#[107]⟩, .bool false, .slice (some ⟨w3.heap.size, 0, none⟩) 262144 262144, .string ⟨#[107]⟩, .bool false, .slice (some ⟨w3.heap.size, 0, none⟩) 262144 262144] 51)
      rw [World.size_alloc] at hW
      have hrd := (ho4.bytes.reads.keep ((Keeps.refl _ w4).alloc (.cells #[.string ⟨#[107]⟩, .bool false, .slice (some ⟨w3.heap.size, 0, none⟩) 262144 262144] 51))).keep ((Keeps.refl _ _).alloc (.cells #[.string ⟨#[107]⟩, .bool false, .slice (some ⟨w3.heap.size, 0, none⟩) 262144 262144, .string ⟨#[107]⟩, .bool false, .slice (some ⟨w3.heap.size, 0, none⟩) 262144 262144, .string ⟨#[107]⟩, .bool false, .slice (some ⟨w3.heap.size, 0, none⟩) 262144 262144, .string ⟨#[107]⟩, .bool false, .slice (some ⟨w3.heap.size, 0, none⟩) 262144 262144] 51))
      have hins : TChsIn ((w4.alloc (.cells #[.string ⟨#[107]⟩, .bool false, .slice (some ⟨w3.heap.size, 0, none⟩) 262144 262144] 51)).alloc (.cells #[.string ⟨#[107]⟩, .bool false, .slice (some ⟨w3.heap.size, 0, none⟩) 262144 262144, .string ⟨#[107]⟩, .bool false, .slice (some ⟨w3.heap.size, 0, none⟩) 262144 262144, .string ⟨#[107]⟩, .bool false, .slice (some ⟨w3.heap.size, 0, none⟩) 262144 262144, .string ⟨#[107]⟩, .bool false, .slice (some ⟨w3.heap.size, 0, none⟩) 262144 262144] 51)) (some ⟨w4.heap.size + 1, 0, none⟩) [⟨keyK, false, zs⟩, ⟨keyK, false, zs⟩, ⟨keyK, false, zs⟩, ⟨keyK, false, zs⟩] := fun i c hc => by
        match i, hc with
        | 0, hc => cases hc; exact ⟨_, _, rfl, cell_at hW rfl, cell_at hW rfl, cell_at hW rfl, hrd⟩
        | 1, hc => cases hc; exact ⟨_, _, rfl, cell_at hW rfl, cell_at hW rfl, cell_at hW rfl, hrd⟩
        | 2, hc => cases hc; exact ⟨_, _, rfl, cell_at hW rfl, cell_at hW rfl, cell_at hW rfl, hrd⟩
        | 3, hc => cases hc; exact ⟨_, _, rfl, cell_at hW rfl, cell_at hW rfl, cell_at hW rfl, hrd⟩
        | i + 4, hc => simp at hc
      have hen3 := tencode_calls hins (c := 4) (by simp) (by unfold maxLen; omega)
      rw [enc_big hzl] at hen3
      have HEN3 := Lib.hid hen3
      have HQ4 := Lib.hid ((((HQ2.out.trans hk3 (fun _ _ e => e)).trans hk4 (fun _ _ e => e)).alloc (.cells #[.string ⟨#[107]⟩, .bool false, .slice (some ⟨w3.heap.size, 0, none⟩) 262144 262144] 51)).alloc (.cells #[.string ⟨#[107]⟩, .bool false, .slice (some ⟨w3.heap.size, 0, none⟩) 262144 262144, .string ⟨#[107]⟩, .bool false, .slice (some ⟨w3.heap.size, 0, none⟩) 262144 262144, .string ⟨#[107]⟩, .bool false, .slice (some ⟨w3.heap.size, 0, none⟩) 262144 262144, .string ⟨#[107]⟩, .bool false, .slice (some ⟨w3.heap.size, 0, none⟩) 262144 262144] 51))
      clear hen3 hins hrd hW ho4 hk4 hv3 hk3 HEN2 HQ2 hzl
      go_wp2_with fail
      refine HEN3.out.mono ?_
      rintro e w5 ⟨v5, rfl, hv5, hk5⟩
      obtain ⟨a5, n5, c5, rfl⟩ := slice_form hv5
      have HQ5 := Lib.hid (HQ4.out.trans hk5 (fun _ _ e => e))
      clear hv5 hk5 HEN3 HQ4 hmk4'
      go_wp2_with fail
      refine (awake11_calls w5).mono ?_
      rintro e w6 ⟨rfl, hk6⟩
      have HF := Lib.hid (HQ5.out.trans hk6 (fun _ _ e => e))
      clear hk6 HQ5
      have q1 := tapply_nil w6 (.slice none 0 0)
      have q2 := tfold_nil w6
      have q3 := tkeys_nil w6 ⟨#[]⟩ ⟨#[]⟩ 9
      have q4 := tlen_nil w6
      have q5 := tsize_nil w6
      have Q1 := Lib.hid q1
      have Q2 := Lib.hid q2
      have Q3 := Lib.hid q3
      have Q4 := Lib.hid q4
      have Q5 := Lib.hid q5
      clear q1 q2 q3 q4 q5
      go_wp2_with fail
      refine Q1.out.out.mono ?_; rintro e w' ⟨rfl, rfl⟩
      go_wp2_with fail
      refine Q2.out.out.mono ?_; rintro e w' ⟨rfl, rfl⟩
      go_wp2_with fail
      refine Q3.out.out.mono ?_; rintro e w' ⟨rfl, rfl⟩
      go_wp2_with fail
      refine Q4.out.out.mono ?_; rintro e w' ⟨rfl, rfl⟩
      go_wp2_with fail
      refine Q5.out.out.mono ?_; rintro e w' ⟨rfl, rfl⟩
      go_wp2_with fail
      go_ret
      exact ⟨rfl, HF.out.below⟩
end Go.Proofs.Ytaeabdghlkdkjaa
