/- The digits of bytes. -/
import Derived.Test.YtaeabdghlkdkjaaGreatPkE
namespace Go.Proofs.YtaeabdghlkdkjaaGreat
set_option linter.unusedVariables false
open Go.RowKit Go.MapKept

def hexd (n : Nat) : UInt8 := if n < 10 then UInt8.ofNat (48 + n) else UInt8.ofNat (87 + n)
def hexOf (l : List UInt8) : List UInt8 := l.flatMap (fun c => [hexd (c.toNat / 16), hexd (c.toNat % 16)])
theorem hexOf_append (l m : List UInt8) : hexOf (l ++ m) = hexOf l ++ hexOf m := by simp [hexOf]
theorem hexOf_length (l : List UInt8) : (hexOf l).length = 2 * l.length := by
  induction l with
  | nil => rfl
  | cons c l ih => rw [show c :: l = [c] ++ l from rfl, hexOf_append, List.length_append, ih]; simp [hexOf]; omega
theorem nat_mask4 (n : Nat) : n &&& 15 = n % 16 := Nat.and_two_pow_sub_one_eq_mod n 4
theorem hexd_run (n : Nat) (hn : n < 16) (W : World) : (Instr.index 9 (.string ⟨#[48, 49, 50, 51, 52, 53, 54, 55, 56, 57, 97, 98, 99, 100, 101, 102]⟩) (.int .u8 (n : Int))).run Tryz.prog W = .ok (.int .u8 ((hexd n).toNat : Int)) W := by
  rw [run_index_string W 9 _ _ _ Tryz.underlying9]
  match n, hn with
  | 0, _ => rfl
  | 1, _ => rfl
  | 2, _ => rfl
  | 3, _ => rfl
  | 4, _ => rfl
  | 5, _ => rfl
  | 6, _ => rfl
  | 7, _ => rfl
  | 8, _ => rfl
  | 9, _ => rfl
  | 10, _ => rfl
  | 11, _ => rfl
  | 12, _ => rfl
  | 13, _ => rfl
  | 14, _ => rfl
  | 15, _ => rfl
  | n + 16, hn => omega
theorem Reads.text {w : World} {v : Value} {l : List UInt8} (h : Reads w v l) : (convert 36 9 v).run Tryz.prog w = .ok (.string ⟨l.toArray⟩) w := by
  rcases h with ⟨rfl, rfl⟩ | ⟨x, c, rfl, h1, h2, h3⟩
  · exact Lib.run_convert_nil_bytes w 36 9 5 0 Tryz.underlying36 Tryz.underlying5 Tryz.underlying9
  · refine run_convert_bytes_back w 36 9 5 x c l Tryz.underlying36 Tryz.underlying5 Tryz.underlying9 (fun j hj => ?_)
    exact h3 j (u8v l[j]) (by simp [hj])
theorem two_bytes (w : World) (c d : UInt8) : Reads (w.alloc (.cells #[.int .u8 (c.toNat : Int), .int .u8 (d.toNat : Int)] 5)) (.slice (some ⟨w.heap.size, 0, none⟩) 2 2) [c, d] := by
  refine .inr ⟨_, 2, rfl, Nat.le_refl _, by simp [maxLen], fun j u hu => ?_⟩
  rw [Addr.add_lit]
  match j, hu with
  | 0, hu =>
    simp only [List.map_cons, List.map_nil, List.getElem?_cons_zero, Option.some.injEq] at hu
    rw [← hu]
    exact cell_at (heap_alloc_new w _) rfl
  | 1, hu =>
    simp only [List.map_cons, List.map_nil, List.getElem?_cons_succ, List.getElem?_cons_zero, Option.some.injEq] at hu
    rw [← hu]
    exact cell_at (heap_alloc_new w _) rfl
  | j + 2, hu => simp at hu
set_option maxRecDepth 100000 in
set_option maxHeartbeats 1000000 in
theorem hex_calls {w : World} {v : Value} {l : List UInt8} (h : Reads w v l) (hb : l.length ≤ 65536) : Calls Tryz.prog 111 #[v] w (QuietP w (.string ⟨(hexOf l).toArray⟩)) := by
  obtain ⟨a, c, rfl, hc1, hc2⟩ := h.form
  have H := Lib.hid h
  have j9 : (l.length : Int) ≤ 65536 := by omega
  clear h
  obtain ⟨i0, hi, hz0, hz1, hz2⟩ := info_parts info_u8
  obtain ⟨w1, hmk, ho1, hg1⟩ := run_make_own (P := Tryz.prog) w w.heap.size 36 5 i0 _ 1 Tryz.underlying36 hi hz0 hz1 .i64 .i64 (2 * l.length) (by rw [hz2]; omega) (by unfold maxLen; omega) (Nat.le_refl _)
  have hmk2 : (Instr.makeSlice 36 (.int .i64 0) (.int .i64 (2 * (l.length : Int)))).run Tryz.prog w = .ok (.slice (some ⟨w.heap.size, 0, none⟩) 0 (2 * l.length)) w1 := by
    have : ((2 * l.length : Nat) : Int) = 2 * (l.length : Int) := by omega
    rw [← this]; exact hmk
  have hO : Owns w1 w.heap.size (.slice (some ⟨w.heap.size, 0, none⟩) 0 (2 * l.length)) [] := ho1
  have hq1 : Keeps (fun _ => False) w w1 := (Keeps.of_grown hg1).mono (fun b _ e => by cases e)
  have HO := Lib.hid hO
  have HQ := Lib.hid hq1
  have HB := Lib.hid hb
  clear hmk hO hq1 ho1 hg1 hi hz0 hz1 hz2 hb
  go_enter Tryz.func111, Tryz.ntmps111
  go_wp2_with fail
  go_loopw [3, 12] (fun av i wr => ∃ k : Nat, k ≤ l.length ∧ i = .int .i64 (k : Int) ∧ Owns wr w.heap.size av (hexOf (l.take k)) ∧ Keeps (fun _ => False) w wr) (fun _ i _ => l.length - (intOf i).toNat)
  case atStart => exact ⟨0, Nat.zero_le _, rfl, HO.out, HQ.out⟩
  case round =>
    obtain ⟨k, hk, rfl, ho, hq⟩ := hrel
    clear hmk2
    obtain ⟨aa, ac, rfl, q1, q2⟩ := ho.bytes.form
    by_cases hlt : k < l.length
    · obtain ⟨x, rfl, hx⟩ := (H.out.keep hq).cell rfl hlt
      have j0 : (0 : Int) ≤ k := by omega
      have j1 : (k : Int) < l.length := by omega
      have hcl := l[k].toNat_lt
      have hnx : hexOf (l.take (k + 1)) = hexOf (l.take k) ++ [hexd (l[k].toNat / 16), hexd (l[k].toNat % 16)] := by rw [List.take_succ_eq_append_getElem hlt, hexOf_append]; rfl
      have hbb := HB.out
      have hq2 : Keeps (fun _ => False) wr (wr.drew.alloc (.cells #[.int .u8 ((hexd (l[k].toNat / 16)).toNat : Int), .int .u8 ((hexd (l[k].toNat % 16)).toNat : Int)] 5)) := ((Keeps.refl _ wr).drew).alloc _
      have hqz := hq.size
      obtain ⟨v', w3, hrun, ho3, hk3⟩ := Owns.grow (by simp only [World.size_alloc, World.drew]; omega) (ho.keep hq2) (two_bytes wr.drew (hexd (l[k].toNat / 16)) (hexd (l[k].toNat % 16))) (by rw [hexOf_length, List.length_take]; simp only [List.length_cons, List.length_nil]; omega)
      rw [← hnx] at ho3
      have hq3 : Keeps (fun _ => False) w w3 := (hq.trans hq2 (fun _ _ e => e)).trans hk3 (fun b hb e => by have := owns_lt ho b e; omega)
      obtain ⟨aa', ac', rfl, _, _⟩ := ho3.bytes.form
      have HR := Lib.hid (⟨k + 1, by omega, rfl, ho3, hq3⟩ : ∃ k' : Nat, k' ≤ l.length ∧ Value.int .i64 ((k + 1 : Nat) : Int) = .int .i64 (k' : Int) ∧ Owns w3 w.heap.size _ (hexOf (l.take k')) ∧ Keeps (fun _ => False) w w3)
      have Hrun := Lib.hid hrun
      have e1 : (l[k].toNat : Int) / 16 = ((l[k].toNat / 16 : Nat) : Int) := by omega
      have e2 : bits .and .u8 (l[k].toNat : Int) 15 = ((l[k].toNat % 16 : Nat) : Int) := by
        have := u8_and_nat l[k].toNat 15 hcl (by omega)
        rw [nat_mask4] at this; exact this
      have d1 := fun W => hexd_run (l[k].toNat / 16) (by omega) W
      have d2 := fun W => hexd_run (l[k].toNat % 16) (by omega) W
      generalize l[k].toNat / 16 = n1 at e1 d1 Hrun
      generalize l[k].toNat % 16 = n2 at e2 d2 Hrun
      generalize (hexd n1).toNat = m1 at d1 Hrun
      generalize (hexd n2).toNat = m2 at d2 Hrun
      generalize l[k].toNat = ck at hx hcl e1 e2
      clear ho hq hq2 ho3 hk3 hq3 hrun hnx hbb
      go_wp2_with fail
      go_region_law (first | (refine step_append_run rfl _ _ _ _ rfl rfl rfl Hrun.out ?_) | fail)
      all_goals
        clear d1 d2 e1 e2 hx
        go_wp2_with fail
        go_roundw
        case rel => exact HR.out
        case measure => simp [intOf]; omega
    · obtain rfl : k = l.length := by omega
      rw [List.take_length] at ho
      have hst := ho.bytes.reads.text
      have e : (l.take l.length) = l := List.take_length
      rw [e] at *
      have HK := Lib.hid hq
      clear hlt hk hq ho
      go_wp2_with fail
      go_ret
      exact ⟨rfl, HK.out⟩
end Go.Proofs.YtaeabdghlkdkjaaGreat
