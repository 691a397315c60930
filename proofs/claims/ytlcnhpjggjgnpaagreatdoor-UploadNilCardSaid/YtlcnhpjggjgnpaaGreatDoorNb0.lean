/- A part of the proof. -/
import Derived.Test.YtlcnhpjggjgnpaaGreatDoorNa4
import Derived.Test.YtlcnhpjggjgnpaaGreatDoorNa5
import Derived.Test.YtlcnhpjggjgnpaaGreatDoorNa7
import Derived.Outline
namespace Go.Proofs.YtlcnhpjggjgnpaaGreatDoor
set_option linter.unusedVariables false
open Go.RowKit Go.MapKept
def hexd (n : Nat) : UInt8 := if n < 10 then UInt8.ofNat (48 + n) else UInt8.ofNat (87 + n)
def hexOf (l : List UInt8) : List UInt8 := l.flatMap (fun c => [hexd (c.toNat / 16), hexd (c.toNat % 16)])
theorem hexOf_append (l m : List UInt8) : hexOf (l ++ m) = hexOf l ++ hexOf m := by simp [hexOf]
theorem hexOf_length (l : List UInt8) : (hexOf l).length = 2 * l.length := by
  induction l with
  | nil => rfl
  | cons c l ih => rw [show c :: l = [c] ++ l from rfl, hexOf_append, List.length_append, ih]; simp [hexOf]; omega
theorem nat_mask4 (n : Nat) : n &&& 15 = n % 16 := Nat.and_two_pow_sub_one_eq_mod n 4
theorem hexd_run (n : Nat) (hn : n < 16) (W : World) : (Instr.index 9 (.string ⟨#[48, 49, 50, 51, 52, 53, 54, 55, 56, 57, 97, 98, 99, 100, 101, 102]⟩) (.int .u8 (n : Int))).run Tryz.prog W = .ok (.int .u8 ((hexd n).toNat : Int)) W := by
  rw [run_index_string W 9 _ _ _ Tryz.underlying9]
  match n, hn with
  | 0, _ => rfl
  | 1, _ => rfl
  | 2, _ => rfl
  | 3, _ => rfl
  | 4, _ => rfl
  | 5, _ => rfl
  | 6, _ => rfl
  | 7, _ => rfl
  | 8, _ => rfl
  | 9, _ => rfl
  | 10, _ => rfl
  | 11, _ => rfl
  | 12, _ => rfl
  | 13, _ => rfl
  | 14, _ => rfl
  | 15, _ => rfl
  | n + 16, hn => omega
theorem Reads.text {w : World} {v : Value} {l : List UInt8} (h : Reads w v l) : (convert 22 9 v).run Tryz.prog w = .ok (.string ⟨l.toArray⟩) w := by
  rcases h with ⟨rfl, rfl⟩ | ⟨x, c, rfl, h1, h2, h3⟩
  · exact Lib.run_convert_nil_bytes w 22 9 5 0 Tryz.underlying22 Tryz.underlying5 Tryz.underlying9
  · refine run_convert_bytes_back w 22 9 5 x c l Tryz.underlying22 Tryz.underlying5 Tryz.underlying9 (fun j hj => ?_)
    exact h3 j (u8v l[j]) (by simp [hj])
theorem two_bytes (w : World) (c d : UInt8) : Reads (w.alloc (.cells #[.int .u8 (c.toNat : Int), .int .u8 (d.toNat : Int)] 5)) (.slice (some ⟨w.heap.size, 0, none⟩) 2 2) [c, d] := by
  refine .inr ⟨_, 2, rfl, Nat.le_refl _, by simp [maxLen], fun j u hu => ?_⟩
  rw [Addr.add_lit]
  match j, hu with
  | 0, hu =>
    simp only [List.map_cons, List.map_nil, List.getElem?_cons_zero, Option.some.injEq] at hu
    rw [← hu]
    exact cell_at (heap_alloc_new w _) rfl
  | 1, hu =>
    simp only [List.map_cons, List.map_nil, List.getElem?_cons_succ, List.getElem?_cons_zero, Option.some.injEq] at hu
    rw [← hu]
    exact cell_at (heap_alloc_new w _) rfl
  | j + 2, hu => simp at hu
set_option maxRecDepth 100000 in
set_option maxHeartbeats 1000000 in
theorem hex_calls {w : World} {v : Value} {l : List UInt8} (h : Reads w v l) (hb : l.length ≤ 65536) : Calls Tryz.prog 71 #[v] w (QuietP w (.string ⟨(hexOf l).toArray⟩)) := by
  obtain ⟨a, c, rfl, hc1, hc2⟩ := h.form
  have H := Lib.hid h
  have j9 : (l.length : Int) ≤ 65536 := by omega
  clear h
  obtain ⟨i0, hi, hz0, hz1, hz2⟩ := info_parts info_u8
  obtain ⟨w1, hmk, ho1, hg1⟩ := run_make_own (P := Tryz.prog) w w.heap.size 22 5 i0 _ 1 Tryz.underlying22 hi hz0 hz1 .i64 .i64 (2 * l.length) (by rw [hz2]; omega) (by unfold maxLen; omega) (Nat.le_refl _)
  have hmk2 : (Instr.makeSlice 22 (.int .i64 0) (.int .i64 (2 * (l.length : Int)))).run Tryz.prog w = .ok (.slice (some ⟨w.heap.size, 0, none⟩) 0 (2 * l.length)) w1 := by
    have : ((2 * l.length : Nat) : Int) = 2 * (l.length : Int) := by omega
    rw [← this]; exact hmk
  have hO : Owns w1 w.heap.size (.slice (some ⟨w.heap.size, 0, none⟩) 0 (2 * l.length)) [] := ho1
  have hq1 : Keeps (fun _ => False) w w1 := (Keeps.of_grown hg1).mono (fun b _ e => by cases e)
  have HO := Lib.hid hO
  have HQ := Lib.hid hq1
  have HB := Lib.hid hb
  clear hmk hO hq1 ho1 hg1 hi hz0 hz1 hz2 hb
  go_enter Tryz.func71, Tryz.ntmps71
  go_wp2_with fail
  go_loopw [3, 12] (fun av i wr => ∃ k : Nat, k ≤ l.length ∧ i = .int .i64 (k : Int) ∧ Owns wr w.heap.size av (hexOf (l.take k)) ∧ Keeps (fun _ => False) w wr) (fun _ i _ => l.length - (intOf i).toNat)
  case atStart => exact ⟨0, Nat.zero_le _, rfl, HO.out, HQ.out⟩
  case round =>
    obtain ⟨k, hk, rfl, ho, hq⟩ := hrel
    clear hmk2
    obtain ⟨aa, ac, rfl, q1, q2⟩ := ho.bytes.form
    by_cases hlt : k < l.length
    · obtain ⟨x, rfl, hx⟩ := (H.out.keep hq).cell rfl hlt
      have j0 : (0 : Int) ≤ k := by omega
      have j1 : (k : Int) < l.length := by omega
      have hcl := l[k].toNat_lt
      have hnx : hexOf (l.take (k + 1)) = hexOf (l.take k) ++ [hexd (l[k].toNat / 16), hexd (l[k].toNat % 16)] := by rw [List.take_succ_eq_append_getElem hlt, hexOf_append]; rfl
      have hbb := HB.out
      have hq2 : Keeps (fun _ => False) wr (wr.drew.alloc (.cells #[.int .u8 ((hexd (l[k].toNat / 16)).toNat : Int), .int .u8 ((hexd (l[k].toNat % 16)).toNat : Int)] 5)) := ((Keeps.refl _ wr).drew).alloc _
      have hqz := hq.size
      obtain ⟨v', w3, hrun, ho3, hk3⟩ := Owns.grow (by simp only [World.size_alloc, World.drew]; omega) (ho.keep hq2) (two_bytes wr.drew (hexd (l[k].toNat / 16)) (hexd (l[k].toNat % 16))) (by rw [hexOf_length, List.length_take]; simp only [List.length_cons, List.length_nil]; omega)
      rw [← hnx] at ho3
      have hq3 : Keeps (fun _ => False) w w3 := (hq.trans hq2 (fun _ _ e => e)).trans hk3 (fun b hb e => by have := owns_lt ho b e; omega)
      obtain ⟨aa', ac', rfl, _, _⟩ := ho3.bytes.form
      have HR := Lib.hid (⟨k + 1, by omega, rfl, ho3, hq3⟩ : ∃ k' : Nat, k' ≤ l.length ∧ Value.int .i64 ((k + 1 : Nat) : Int) = .int .i64 (k' : Int) ∧ Owns w3 w.heap.size _ (hexOf (l.take k')) ∧ Keeps (fun _ => False) w w3)
      have Hrun := Lib.hid hrun
      have e1 : (l[k].toNat : Int) / 16 = ((l[k].toNat / 16 : Nat) : Int) := by omega
      have e2 : bits .and .u8 (l[k].toNat : Int) 15 = ((l[k].toNat % 16 : Nat) : Int) := by
        have := u8_and_nat l[k].toNat 15 hcl (by omega)
        rw [nat_mask4] at this; exact this
      have d1 := fun W => hexd_run (l[k].toNat / 16) (by omega) W
      have d2 := fun W => hexd_run (l[k].toNat % 16) (by omega) W
      generalize l[k].toNat / 16 = n1 at e1 d1 Hrun
      generalize l[k].toNat % 16 = n2 at e2 d2 Hrun
      generalize (hexd n1).toNat = m1 at d1 Hrun
      generalize (hexd n2).toNat = m2 at d2 Hrun
      generalize l[k].toNat = ck at hx hcl e1 e2
      clear ho hq hq2 ho3 hk3 hq3 hrun hnx hbb
      go_wp2_with fail
      go_region_law (first | (refine step_append_run rfl _ _ _ _ rfl rfl rfl Hrun.out ?_) | fail)
      all_goals
        clear d1 d2 e1 e2 hx
        go_wp2_with fail
        go_roundw
        case rel => exact HR.out
        case measure => simp [intOf]; omega
    · obtain rfl : k = l.length := by omega
      rw [List.take_length] at ho
      have hst := ho.bytes.reads.text
      have e : (l.take l.length) = l := List.take_length
      rw [e] at *
      have HK := Lib.hid hq
      clear hlt hk hq ho
      go_wp2_with fail
      go_ret
      exact ⟨rfl, HK.out⟩
end Go.Proofs.YtlcnhpjggjgnpaaGreatDoor
namespace Go.Proofs.YtlcnhpjggjgnpaaGreatDoor
set_option linter.unusedVariables false
set_option linter.unusedSimpArgs false
open Go.RowKit Go.MapKept
theorem hexd_lo (g : Nat) (h : g < 10) : (hexd g).toNat = 48 + g := by unfold hexd; rw [if_pos h]; simp; omega
theorem hexd_hi (g : Nat) (h : ¬ g < 10) (h2 : g < 16) : (hexd g).toNat = 87 + g := by unfold hexd; rw [if_neg h]; simp; omega
set_option maxRecDepth 100000 in
set_option maxHeartbeats 1000000 in
theorem rhex_calls {w : World} {v : Value} {l : List UInt8} (h : Reads w v l) (hb : l.length ≤ 65536) : Calls Tryz.prog 72 #[v] w (QuietP w (.string ⟨(hexOf l).toArray⟩)) := by
  obtain ⟨a, c, rfl, hc1, hc2⟩ := h.form
  have H := Lib.hid h
  have j9 : (l.length : Int) ≤ 65536 := by omega
  have HB := Lib.hid hb
  clear h hb
  go_enter Tryz.func72, Tryz.ntmps72
  go_wp2_with fail
  go_loopw [3, 4] (fun av i wr => ∃ k : Nat, k ≤ l.length ∧ i = .int .i64 (k : Int) ∧ Owns wr w.heap.size av (hexOf (l.take k)) ∧ Keeps (fun _ => False) w wr) (fun _ i _ => l.length - (intOf i).toNat)
  case atStart => exact ⟨0, Nat.zero_le _, rfl, Owns.nil _ _, Keeps.refl _ _⟩
  case round =>
    obtain ⟨k, hk, rfl, ho, hq⟩ := hrel
    obtain ⟨aa, ac, rfl, q1, q2⟩ := ho.bytes.form
    by_cases hlt : k < l.length
    · have j0 : (0 : Int) ≤ k := by omega
      have j1 : (k : Int) < l.length := by omega
      have hcl := l[k].toNat_lt
      have hnx : hexOf (l.take (k + 1)) = hexOf (l.take k) ++ [hexd (l[k].toNat / 16), hexd (l[k].toNat % 16)] := by rw [List.take_succ_eq_append_getElem hlt, hexOf_append]; rfl
      obtain ⟨dg, hdg⟩ : ∃ dg : List UInt8, dg = [hexd (l[k].toNat / 16), hexd (l[k].toNat % 16)] := ⟨_, rfl⟩
      rw [← hdg] at hnx
      have HNX := Lib.hid hnx
      have HDG := Lib.hid hdg
      have hll : (hexOf (l.take k)).length ≤ 140000 := by have := HB.out; rw [hexOf_length, List.length_take]; omega
      have HLL := Lib.hid hll
      generalize hexOf (l.take k) = pre at ho HNX HLL
      have HO := Lib.hid ho
      have HQ := Lib.hid hq
      clear ho hq hnx hdg hll
      go_wp2_with fail
      go_loopw [3, 5] (fun av j wx => ∃ i : Nat, i ≤ 2 ∧ j = .int .i64 (i : Int) ∧ Owns wx w.heap.size av (pre ++ dg.take i) ∧ Keeps (fun _ => False) w wx) (fun _ j _ => 2 - (intOf j).toNat)
      case atStart => exact ⟨0, by omega, rfl, by rw [List.take_zero, List.append_nil]; exact HO.out, HQ.out⟩
      case round =>
        obtain ⟨i, hi, rfl, ho, hq⟩ := hrel
        obtain ⟨ab, ad, rfl, q3, q4⟩ := ho.bytes.form
        by_cases hi2 : i < 2
        · obtain ⟨x, rfl, hx⟩ := (H.out.keep hq).cell rfl hlt
          obtain ⟨g, hg, hg16, hgd⟩ : ∃ g, (i = 0 ∧ g = l[k].toNat / 16 ∨ i = 1 ∧ g = l[k].toNat % 16) ∧ g < 16 ∧ dg.take (i + 1) = dg.take i ++ [hexd g] := by
            have hd := HDG.out
            match i, hi2 with
            | 0, _ => exact ⟨_, .inl ⟨rfl, rfl⟩, by omega, by rw [hd]; rfl⟩
            | 1, _ => exact ⟨_, .inr ⟨rfl, rfl⟩, by omega, by rw [hd]; rfl⟩
          have hq2 : Keeps (fun _ => False) wr (wr.alloc (.cells #[.int .u8 ((hexd g).toNat : Int)] 5)) := (Keeps.refl _ _).alloc _
          have hqz := hq.size
          obtain ⟨v', w3, hrun, ho3, hk3⟩ := Owns.grow (by simp only [World.size_alloc]; omega) (ho.keep hq2) (one_byte wr (hexd g)) (by have := HLL.out; have hd := congrArg List.length HDG.out; rw [List.length_append, List.length_take]; simp only [List.length_cons, List.length_nil] at hd ⊢; omega)
          rw [List.append_assoc, ← hgd] at ho3
          have hq3 : Keeps (fun _ => False) w w3 := (hq.trans hq2 (fun _ _ e => e)).trans hk3 (fun b hb e => by have := owns_lt ho b e; omega)
          obtain ⟨aa', ac', rfl, -, -⟩ := ho3.bytes.form
          have HR := Lib.hid (⟨i + 1, by omega, rfl, ho3, hq3⟩ : ∃ i' : Nat, i' ≤ 2 ∧ Value.int .i64 ((i + 1 : Nat) : Int) = .int .i64 (i' : Int) ∧ Owns w3 w.heap.size _ (pre ++ dg.take i') ∧ Keeps (fun _ => False) w w3)
          have Hrun := Lib.hid hrun
          have m1 : g < 10 → ((hexd g).toNat : Int) = 48 + g := fun h => by rw [hexd_lo g h]; omega
          have m2 : ¬ g < 10 → ((hexd g).toNat : Int) = 87 + g := fun h => by rw [hexd_hi g h hg16]; omega
          generalize (hexd g).toNat = mm at m1 m2 Hrun
          generalize l[k].toNat = ck at hx hcl hg
          have M1 := Lib.hid m1
          have M2 := Lib.hid m2
          have HG16 := Lib.hid hg16
          clear ho hq hq2 ho3 hk3 hq3 hrun hgd m1 m2 hqz q3 q4
          obtain ⟨n1, hn1⟩ : ∃ n1, n1 = ck / 16 := ⟨_, rfl⟩
          obtain ⟨n2, hn2⟩ : ∃ n2, n2 = ck % 16 := ⟨_, rfl⟩
          rw [← hn1, ← hn2] at hg
          have e1 : (ck : Int) / 16 = (n1 : Int) := by omega
          have e2 : (ck : Int).tdiv 16 = (n1 : Int) := by rw [Int.tdiv_eq_ediv_of_nonneg (by omega)]; omega
          have e3 : (ck : Int) % 16 = (n2 : Int) := by omega
          have e4 : (ck : Int).tmod 16 = (n2 : Int) := by rw [Int.tmod_eq_emod_of_nonneg (by omega)]; omega
          have e5 : IntKind.u8.wrap (n1 : Int) = (n1 : Int) := by rw [IntKind.wrap_u8]; omega
          have e6 : IntKind.u8.wrap (n2 : Int) = (n2 : Int) := by rw [IntKind.wrap_u8]; omega
          clear hn1 hn2 hg16 hcl
          generalize (pre ++ dg.take i).length = L1 at Hrun ⊢
          generalize (pre ++ dg.take (i + 1)).length = L2 at Hrun HR
          rcases hg with ⟨rfl, rfl⟩ | ⟨rfl, rfl⟩
          · rw [show ((0 : Nat) : Int) = 0 from rfl]
            by_cases hg10 : g < 10
            · have d1 : IntKind.u8.wrap (48 + (g : Int)) = (mm : Int) := by have := M1.out hg10; rw [IntKind.wrap_u8]; omega
              have d0 : (g : Int) < 10 := by omega
              clear M1 M2 hg10 HG16
              go_wp2_with (at_builtin; refine wpList_append_run rfl _ _ _ _ rfl rfl rfl Hrun.out ?_)
              go_roundw
              case rel => exact HR.out
              case measure => simp [intOf]
            · obtain ⟨pp, hpp⟩ : ∃ pp, pp = 97 + g := ⟨_, rfl⟩
              have d1 : IntKind.u8.wrap (97 + (g : Int)) = (pp : Int) := by have := HG16.out; rw [IntKind.wrap_u8]; omega
              have d2 : IntKind.u8.wrap ((pp : Int) - 10) = (mm : Int) := by have := HG16.out; have := M2.out hg10; rw [IntKind.wrap_u8]; omega
              have d0 : ¬ (g : Int) < 10 := by omega
              clear M1 M2 hg10 HG16 hpp
              go_wp2_with (at_builtin; refine wpList_append_run rfl _ _ _ _ rfl rfl rfl Hrun.out ?_)
              go_roundw
              case rel => exact HR.out
              case measure => simp [intOf]
          · rw [show ((1 : Nat) : Int) = 1 from rfl]
            by_cases hg10 : g < 10
            · have d1 : IntKind.u8.wrap (48 + (g : Int)) = (mm : Int) := by have := M1.out hg10; rw [IntKind.wrap_u8]; omega
              have d0 : (g : Int) < 10 := by omega
              clear M1 M2 hg10 HG16
              go_wp2_with (at_builtin; refine wpList_append_run rfl _ _ _ _ rfl rfl rfl Hrun.out ?_)
              go_roundw
              case rel => exact HR.out
              case measure => simp [intOf]
            · obtain ⟨pp, hpp⟩ : ∃ pp, pp = 97 + g := ⟨_, rfl⟩
              have d1 : IntKind.u8.wrap (97 + (g : Int)) = (pp : Int) := by have := HG16.out; rw [IntKind.wrap_u8]; omega
              have d2 : IntKind.u8.wrap ((pp : Int) - 10) = (mm : Int) := by have := HG16.out; have := M2.out hg10; rw [IntKind.wrap_u8]; omega
              have d0 : ¬ (g : Int) < 10 := by omega
              clear M1 M2 hg10 HG16 hpp
              go_wp2_with (at_builtin; refine wpList_append_run rfl _ _ _ _ rfl rfl rfl Hrun.out ?_)
              go_roundw
              case rel => exact HR.out
              case measure => simp [intOf]
        · obtain rfl : i = 2 := by omega
          have hfin : pre ++ dg.take 2 = hexOf (l.take (k + 1)) := by
            rw [HNX.out, List.take_of_length_le (by have hd := congrArg List.length HDG.out; simp at hd; omega)]
          rw [hfin] at ho
          have hsl : (pre ++ dg.take 2).length = (hexOf (l.take (k + 1))).length := by rw [hfin]
          rw [hsl]
          have HR := Lib.hid (⟨k + 1, by omega, rfl, ho, hq⟩ : ∃ k' : Nat, k' ≤ l.length ∧ Value.int .i64 ((k + 1 : Nat) : Int) = .int .i64 (k' : Int) ∧ Owns wr w.heap.size _ (hexOf (l.take k')) ∧ Keeps (fun _ => False) w wr)
          generalize (hexOf (l.take (k + 1))).length = L1 at HR ⊢
          rw [show ((2 : Nat) : Int) = 2 from rfl]
          clear ho hq hfin hsl hi hi2 q3 q4
          go_wp2_with fail
          go_roundw
          case rel => exact HR.out
          case measure => simp [intOf]; omega
    · obtain rfl : k = l.length := by omega
      simp only [List.take_length] at ho q1 ⊢
      have hst := ho.bytes.reads.text
      have HK := Lib.hid hq
      clear hlt hk hq ho
      go_wp2_with fail
      go_ret
      exact ⟨rfl, HK.out⟩
end Go.Proofs.YtlcnhpjggjgnpaaGreatDoor
namespace Go.Proofs.YtlcnhpjggjgnpaaGreatDoor
set_option linter.unusedVariables false
open Go.RowKit Go.MapKept
def keyOf (x : Nat) : ByteArray := (⟨#[103, 47]⟩ : ByteArray) ++ (⟨(hexOf (putOf x 4)).toArray⟩ : ByteArray)
end Go.Proofs.YtlcnhpjggjgnpaaGreatDoor
namespace Go.Proofs.YtlcnhpjggjgnpaaGreatDoor
open Go.RowKit Go.MapKept
def clearOf (m : DM) (t : ByteArray) : Int × DM := if (removeOf m t).1 = 6 then (0, (removeOf m t).2) else removeOf m t
def writeFrom (t : ByteArray) (b : List UInt8) : Nat → DM → Nat → Int × DM
  | 0, m, _ => (0, m)
  | f + 1, m, i => if i < b.length then (if (appendOf m t ((b.drop i).take 1048576)).1 = 0 then writeFrom t b f (appendOf m t ((b.drop i).take 1048576)).2 (i + 1048576) else appendOf m t ((b.drop i).take 1048576)) else (0, m)
def writeOf (m : DM) (t : ByteArray) (b : List UInt8) : Int × DM := writeFrom t b (b.length / 1048576 + 1) m 0
theorem clear_good {m : DM} {n : Nat} (h : Good m n) (t : ByteArray) : Good (clearOf m t).2 (n + 1) := by
  unfold clearOf; split <;> exact h.remove t
theorem write_good {t : ByteArray} {b : List UInt8} : ∀ (f : Nat) {m : DM} {n i : Nat}, Good m n → Good (writeFrom t b f m i).2 (n + f)
  | 0, m, n, i, h => h
  | f + 1, m, n, i, h => by
    rw [writeFrom]
    split
    · split
      · have := write_good (t := t) (b := b) f (i := i + 1048576) (h.append t ((b.drop i).take 1048576))
        rw [show n + (f + 1) = n + 1 + f by omega]; exact this
      · exact (h.append t _).mono (by omega)
    · exact h.mono (by omega)
section
variable {w wr : World} {d : Nat} {m : DM} {rs : List (Res w.heap.size)}
set_option maxRecDepth 100000 in
theorem lay2_calls (h : Own w wr (rDisk w.heap.size d m :: rs)) {n b3 b11 : Nat} {t : ByteArray} (hg : Good m n) (hn : n < 1099511627776)
    (h3 : rObj w.heap.size b3 (.cells #[.pointer (some ⟨d, 0, none⟩)] 30) ∈ rs) (h11 : rObj w.heap.size b11 (.cells #[.string t] 9) ∈ rs) :
    Calls Tryz.prog 160 #[.pointer (some ⟨b3, 0, none⟩), .pointer (some ⟨b11, 0, none⟩)] wr (DOwn w d rs (clearOf m t)) := by
  have c3 := cell_at (i := 0) (h.at (List.mem_cons_of_mem _ h3)).1 rfl
  have c11 := cell_at (i := 0) (h.at (List.mem_cons_of_mem _ h11)).1 rfl
  obtain ⟨w1, hr, h1⟩ := h.remove t hg.fuse (hg.loose hn)
  unfold clearOf
  have H1 := Lib.hid h1
  clear h h3 h11 h1 hg
  generalize (removeOf m t) = r at hr H1
  obtain ⟨c, m'⟩ := r
  by_cases hc : c = 6
  · subst hc
    simp only [if_true]
    go_enter Tryz.func160, Tryz.ntmps160
    go_wp2_with fail
    refine hr.out.mono ?_; rintro e w' ⟨rfl, rfl⟩
    go_wp2_with fail
    go_ret
    exact ⟨rfl, H1.out⟩
  · simp only [hc, if_false]
    have hb : (c == 6) = false := by simpa using hc
    go_enter Tryz.func160, Tryz.ntmps160
    go_wp2_with fail
    refine hr.out.mono ?_; rintro e w' ⟨rfl, rfl⟩
    go_wp2_with fail
    go_ret
    exact ⟨rfl, H1.out⟩
set_option maxRecDepth 100000 in
theorem lay3_calls (h : Own w wr (rDisk w.heap.size d m :: rs)) {n b3 b11 : Nat} {t : ByteArray} (hg : Good m n) (hn : n < 1099511627776)
    (h3 : rObj w.heap.size b3 (.cells #[.pointer (some ⟨d, 0, none⟩)] 30) ∈ rs) (h11 : rObj w.heap.size b11 (.cells #[.string t] 9) ∈ rs) :
    Calls Tryz.prog 161 #[.pointer (some ⟨b3, 0, none⟩), .pointer (some ⟨b11, 0, none⟩)] wr (DOwn w d rs (createOf m t)) := by
  have c3 := cell_at (i := 0) (h.at (List.mem_cons_of_mem _ h3)).1 rfl
  have c11 := cell_at (i := 0) (h.at (List.mem_cons_of_mem _ h11)).1 rfl
  obtain ⟨w1, hr, h1⟩ := h.create t hg.fuse (hg.loose hn)
  have H1 := Lib.hid h1
  clear h h3 h11 h1 hg
  go_enter Tryz.func161, Tryz.ntmps161
  go_wp2_with fail
  refine hr.out.mono ?_; rintro e w' ⟨rfl, rfl⟩
  go_wp2_with fail
  go_ret
  exact ⟨rfl, H1.out⟩
theorem Own.rename (h : Own w wr (rDisk w.heap.size d m :: rs)) (n k : ByteArray) (hf : m.fuse ≤ 9223372036854775807) (hl : m.loose.length < 1099511627776) :
    ∃ w', Runs 84 #[.pointer (some ⟨d, 0, none⟩), .string n, .string k] wr (.int .i64 (renameOf m n k).1) w' ∧ Own w w' (rDisk w.heap.size d (renameOf m n k).2 :: rs) := by
  obtain ⟨F, h1, back⟩ := h.disk
  obtain ⟨w', hr, h2, k⟩ := rename_runs h1 n k hf hl
  exact ⟨w', hr, (back _ (.returned (.int .i64 (renameOf m n _).1)) w' ⟨rfl, h2, k⟩).2⟩
set_option maxRecDepth 100000 in
theorem lay4_calls (h : Own w wr (rDisk w.heap.size d m :: rs)) {n b3 b11 b4 : Nat} {t nm : ByteArray} (hg : Good m n) (hn : n < 1099511627776)
    (h3 : rObj w.heap.size b3 (.cells #[.pointer (some ⟨d, 0, none⟩)] 30) ∈ rs) (h11 : rObj w.heap.size b11 (.cells #[.string t] 9) ∈ rs) (h4 : rObj w.heap.size b4 (.cells #[.string nm] 9) ∈ rs) :
    Calls Tryz.prog 162 #[.pointer (some ⟨b3, 0, none⟩), .pointer (some ⟨b11, 0, none⟩), .pointer (some ⟨b4, 0, none⟩)] wr (DOwn w d rs (renameOf m t nm)) := by
  have c3 := cell_at (i := 0) (h.at (List.mem_cons_of_mem _ h3)).1 rfl
  have c11 := cell_at (i := 0) (h.at (List.mem_cons_of_mem _ h11)).1 rfl
  have c4 := cell_at (i := 0) (h.at (List.mem_cons_of_mem _ h4)).1 rfl
  obtain ⟨w1, hr, h1⟩ := h.rename t nm hg.fuse (hg.loose hn)
  have H1 := Lib.hid h1
  clear h h3 h11 h4 h1 hg
  go_enter Tryz.func162, Tryz.ntmps162
  go_wp2_with fail
  refine hr.out.mono ?_; rintro e w' ⟨rfl, rfl⟩
  go_wp2_with fail
  go_ret
  exact ⟨rfl, H1.out⟩
set_option maxRecDepth 100000 in
set_option maxHeartbeats 1000000 in
theorem lay1_calls (h : Own w wr (rDisk w.heap.size d m :: rs)) {n b3 b11 b8 : Nat} {t : ByteArray} {bv : Value} {b : List UInt8} (hg : Good m n) (hn : n + b.length < 1099511627776)
    (h3 : rObj w.heap.size b3 (.cells #[.pointer (some ⟨d, 0, none⟩)] 30) ∈ rs) (h11 : rObj w.heap.size b11 (.cells #[.string t] 9) ∈ rs) (h8 : rObj w.heap.size b8 (.cells #[bv] 22) ∈ rs) (hb : rBytes w.heap.size bv b ∈ rs) :
    Calls Tryz.prog 159 #[.pointer (some ⟨b8, 0, none⟩), .pointer (some ⟨b3, 0, none⟩), .pointer (some ⟨b11, 0, none⟩)] wr (DOwn w d rs (writeOf m t b)) := by
  obtain ⟨ba, bc, rfl, hbc, hbm⟩ := (h.bytes (List.mem_cons_of_mem _ hb)).2
  have hw0 : ∃ r, writeFrom t b (b.length / 1048576 + 1) m 0 = r := ⟨_, rfl⟩
  obtain ⟨r, hr⟩ := hw0
  unfold writeOf
  rw [hr]
  have HR := Lib.hid hr
  have HO := Lib.hid h
  have HG := Lib.hid hg
  unfold maxLen at hbm
  have i5 : (bc : Int) ≤ 9223372036854775807 := by omega
  have i6 : (b.length : Int) ≤ bc := by omega
  clear h hg hr hbm hbc
  go_enter Tryz.func159, Tryz.ntmps159
  go_wp2_with fail
  go_loopw [4] (fun i wx => ∃ (k f : Nat) (m' : DM) (n' : Nat), i = .int .i64 (k : Int) ∧ Own w wx (rDisk w.heap.size d m' :: rs) ∧ Good m' n' ∧ n' ≤ n + k ∧ writeFrom t b f m' k = r ∧ b.length < k + f * 1048576 ∧ k ≤ b.length + 1048576) (fun i _ => b.length - (intOf i).toNat)
  case atStart => exact ⟨0, b.length / 1048576 + 1, m, n, rfl, HO.out, HG.out, Nat.le_refl _, HR.out, by omega, by omega⟩
  case round =>
    obtain ⟨k, f, m', n', rfl, ho, hg, hnn, hwf, hf, hkb⟩ := hrel
    have c3 := cell_at (i := 0) (ho.at (List.mem_cons_of_mem _ h3)).1 rfl
    have c11 := cell_at (i := 0) (ho.at (List.mem_cons_of_mem _ h11)).1 rfl
    have c8 := cell_at (i := 0) (ho.at (List.mem_cons_of_mem _ h8)).1 rfl
    have hrd := (ho.bytes (List.mem_cons_of_mem _ hb)).1
    have j0 : (0 : Int) ≤ k := by omega
    by_cases hlt : k < b.length
    · obtain ⟨f, rfl⟩ : ∃ f', f = f' + 1 := ⟨f - 1, by omega⟩
      rw [writeFrom, if_pos hlt] at hwf
      obtain ⟨x, rfl⟩ : ∃ x, ba = some x := by
        rcases hrd with ⟨e, e2⟩ | ⟨x, c', e, _⟩
        · subst e2; simp at hlt
        · cases e; exact ⟨x, rfl⟩
      obtain ⟨j, hj⟩ : ∃ j, j = ((b.drop k).take 1048576).length := ⟨_, rfl⟩
      have hjl : j = if b.length < k + 1048576 then b.length - k else 1048576 := by
        rw [hj, List.length_take, List.length_drop]; split <;> omega
      have hmin : (if (b.length : Int) < (k : Int) + 1048576 then (b.length : Int) else (k : Int) + 1048576) = (k : Int) + (j : Int) := by
        rw [hjl]; split <;> split <;> omega
      have hjk : k + j ≤ b.length := by rw [hjl]; split <;> omega
      have hj0 : 0 < j := by rw [hjl]; split <;> omega
      have hcut := hrd.cut k j hjk
      have hcb : ¬ bc = k := by omega
      rw [if_neg hcb] at hcut
      have hjt : (b.drop k).take j = (b.drop k).take 1048576 := by
        have := List.take_length (l := (b.drop k).take 1048576)
        rw [← hj, List.take_take] at this
        rw [Nat.min_eq_left (by rw [hj, List.length_take]; omega)] at this
        exact this
      rw [hjt] at hcut
      have hap := (ho.drew).append t hcut hg.room0 hg.room1 hg.unow hg.fuse (hg.loose (by omega))
      have hg2 := hg.append t ((b.drop k).take 1048576)
      generalize (b.drop k).take 1048576 = p at hap hg2 hwf
      have HAP := Lib.hid hap
      have HG2 := Lib.hid hg2
      have HWF := Lib.hid hwf
      have i7 : (k : Int) + j ≤ b.length := by omega
      have i8 : (0 : Int) ≤ j := by omega
      have i9 : (b.length : Int) ≤ 1099511627776 := by omega
      have i10 : (k : Int) < b.length := by omega
      have HX := Lib.hid (⟨hn, hkb, hf, hnn, hlt, hjk, Nat.le_trans hjk (by omega)⟩ : n + b.length < 1099511627776 ∧ k ≤ b.length + 1048576 ∧ b.length < k + (f + 1) * 1048576 ∧ n' ≤ n + k ∧ k < b.length ∧ k + j ≤ b.length ∧ k + j ≤ bc)
      clear hn hkb hf hnn hlt hjk
      have HMIN := Lib.hid hmin
      clear ho hg hcut hap hg2 hwf hjt hjl hj hrd HR HO HG hj0 hmin
      go_wp2_with fail
      have hmin := HMIN.out
      have hwr : IntKind.i64.wrap ((k : Int) + 1048576) = (k : Int) + 1048576 := IntWalk.i64_in _ (by omega)
      have hsl := fun w2 => slice_run w2 x b.length bc k j HX.out.2.2.2.2.2.2
      rw [if_neg hcb] at hsl
      go_still_tail 10, (by kernel_rfl)
      change wpList _ _ _ _ _ (World.drew _)
      clear hmin hwr hsl
      go_wp2_with fail
      refine HAP.out.mono ?_
      rintro e w1 ⟨rfl, h1⟩
      have H1 := Lib.hid h1
      clear h1 HAP
      generalize hq : appendOf m' t p = q at H1 HG2 HWF ⊢
      obtain ⟨qc, qm⟩ := q
      clear hq
      by_cases hq0 : qc = 0
      · subst hq0
        have hwf := HWF.out
        simp only [if_true] at hwf
        have HREL := Lib.hid (⟨k + 1048576, f, qm, n' + 1, rfl, H1.out, HG2.out, by have := HX.out; omega, hwf, by have := HX.out; omega, by have := HX.out; omega⟩ : ∃ (k' f' : Nat) (m' : DM) (n' : Nat), Value.int .i64 ((k + 1048576 : Nat) : Int) = .int .i64 (k' : Int) ∧ Own w w1 (rDisk w.heap.size d m' :: rs) ∧ Good m' n' ∧ n' ≤ n + k' ∧ writeFrom t b f' m' k' = r ∧ b.length < k' + f' * 1048576 ∧ k' ≤ b.length + 1048576)
        have hwr : IntKind.i64.wrap ((k : Int) + 1048576) = (k : Int) + 1048576 := IntWalk.i64_in _ (by omega)
        have HMEAS := Lib.hid (show b.length - ((k : Int) + 1048576).toNat < b.length - (k : Int).toNat by have := HX.out; omega)
        clear hwf H1 HG2 HWF i5 i6 i7 i8 i9 i10
        go_wp2_with fail
        go_roundw
        case rel => exact HREL.out
        case measure => exact HMEAS.out
      · have hwf := HWF.out
        simp only [hq0, if_false] at hwf
        have HE := Lib.hid hwf
        have hb0 : (qc != 0) = true := by simpa using hq0
        clear HG2 HWF i5 i6 i7 i8 i9 i10 hwf hq0 hcb c3 c8 c11 j0
        go_wp2_with fail
        go_ret
        rw [← HE.out]
        exact ⟨rfl, H1.out⟩
    · have HO2 := Lib.hid ho
      have e : (0, m') = r := by
        rw [← hwf]
        cases f with
        | zero => rfl
        | succ f => rw [writeFrom, if_neg hlt]
      have HE := Lib.hid e
      clear ho hwf hg hnn hf e HR HO HG
      go_wp2_with fail
      go_ret
      rw [← HE.out]
      exact ⟨rfl, HO2.out⟩
end
end Go.Proofs.YtlcnhpjggjgnpaaGreatDoor
