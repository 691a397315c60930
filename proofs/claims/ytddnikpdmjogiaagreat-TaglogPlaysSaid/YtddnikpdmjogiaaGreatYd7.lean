/- A part of the proof. -/
import Derived.Test.YtddnikpdmjogiaaGreatYa3
import Derived.Test.YtddnikpdmjogiaaGreatYa4
import Derived.Test.YtddnikpdmjogiaaGreatYb1
namespace Go.Proofs.YtddnikpdmjogiaaGreat
set_option linter.unusedVariables false
open Go.RowKit Go.MapKept
def hexd (n : Nat) : UInt8 := if n < 10 then UInt8.ofNat (48 + n) else UInt8.ofNat (87 + n)
def hexOf (l : List UInt8) : List UInt8 := l.flatMap (fun c => [hexd (c.toNat / 16), hexd (c.toNat % 16)])
theorem hexOf_append (l m : List UInt8) : hexOf (l ++ m) = hexOf l ++ hexOf m := by simp [hexOf]
theorem hexOf_length (l : List UInt8) : (hexOf l).length = 2 * l.length := by
 induction l with
 | nil => rfl
 | cons c l ih => rw [show c :: l = [c] ++ l from rfl, hexOf_append, List.length_append, ih]; simp [hexOf]; omega
theorem nat_mask4 (n : Nat) : n &&& 15 = n % 16 := Nat.and_two_pow_sub_one_eq_mod n 4
theorem hexd_run (n : Nat) (hn : n < 16) (W : World) : (Instr.index 9 (.string ⟨#[48, 49, 50, 51, 52, 53, 54, 55, 56, 57, 97, 98, 99, 100, 101, 102]⟩) (.int .u8 (n : Int))).run Tryz.prog W = .ok (.int .u8 ((hexd n).toNat : Int)) W := by
 rw [run_index_string W 9 _ _ _ Tryz.underlying9]
 match n, hn with
 | 0, _ => rfl
 | 1, _ => rfl
 | 2, _ => rfl
 | 3, _ => rfl
 | 4, _ => rfl
 | 5, _ => rfl
 | 6, _ => rfl
 | 7, _ => rfl
 | 8, _ => rfl
 | 9, _ => rfl
 | 10, _ => rfl
 | 11, _ => rfl
 | 12, _ => rfl
 | 13, _ => rfl
 | 14, _ => rfl
 | 15, _ => rfl
 | n + 16, hn => omega
theorem Reads.text {w : World} {v : Value} {l : List UInt8} (h : Reads w v l) : (convert 36 9 v).run Tryz.prog w = .ok (.string ⟨l.toArray⟩) w := by
 rcases h with ⟨rfl, rfl⟩ | ⟨x, c, rfl, h1, h2, h3⟩
 ·exact Lib.run_convert_nil_bytes w 36 9 5 0 Tryz.underlying36 Tryz.underlying5 Tryz.underlying9
 ·refine run_convert_bytes_back w 36 9 5 x c l Tryz.underlying36 Tryz.underlying5 Tryz.underlying9 (fun j hj => ?_)
  exact h3 j (u8v l[j]) (by simp [hj])
theorem two_bytes (w : World) (c d : UInt8) : Reads (w.alloc (.cells #[.int .u8 (c.toNat : Int), .int .u8 (d.toNat : Int)] 5)) (.slice (some ⟨w.heap.size, 0, none⟩) 2 2) [c, d] := by
 refine .inr ⟨_, 2, rfl, Nat.le_refl _, by simp [maxLen], fun j u hu => ?_⟩
 rw [Addr.add_lit]
 match j, hu with
 | 0, hu =>
  simp only [List.map_cons, List.map_nil, List.getElem?_cons_zero, Option.some.injEq] at hu
  rw [← hu]
  exact cell_at (heap_alloc_new w _) rfl
 | 1, hu =>
  simp only [List.map_cons, List.map_nil, List.getElem?_cons_succ, List.getElem?_cons_zero, Option.some.injEq] at hu
  rw [← hu]
  exact cell_at (heap_alloc_new w _) rfl
 | j + 2, hu => simp at hu
set_option maxRecDepth 100000 in
set_option maxHeartbeats 1000000 in
theorem hex_calls {w : World} {v : Value} {l : List UInt8} (h : Reads w v l) (hb : l.length ≤ 65536) : Calls Tryz.prog 105 #[v] w (QuietP w (.string ⟨(hexOf l).toArray⟩)) := by
 obtain ⟨a, c, rfl, hc1, hc2⟩ := h.form
 have H := hyd h
 have j9 : (l.length : Int) ≤ 65536 := by omega
 clear h
 obtain ⟨i0, hi, hz0, hz1, hz2⟩ := info_parts info_u8
 obtain ⟨w1, hmk, ho1, hg1⟩ := run_make_own (P := Tryz.prog) w w.heap.size 36 5 i0 _ 1 Tryz.underlying36 hi hz0 hz1 .i64 .i64 (2 * l.length) (by rw [hz2]; omega) (by unfold maxLen; omega) (Nat.le_refl _)
 have hmk2 : (Instr.makeSlice 36 (.int .i64 0) (.int .i64 (2 * (l.length : Int)))).run Tryz.prog w = .ok (.slice (some ⟨w.heap.size, 0, none⟩) 0 (2 * l.length)) w1 := by
  have : ((2 * l.length : Nat) : Int) = 2 * (l.length : Int) := by omega
  rw [← this]; exact hmk
 have hO : Owns w1 w.heap.size (.slice (some ⟨w.heap.size, 0, none⟩) 0 (2 * l.length)) [] := ho1
 have hq1 : Keeps (fun _ => False) w w1 := (Keeps.of_grown hg1).mono (fun b _ e => by cases e)
 have HO := hyd hO
 have HQ := hyd hq1
 have HB := hyd hb
 clear hmk hO hq1 ho1 hg1 hi hz0 hz1 hz2 hb
 go_enter Tryz.func105, Tryz.ntmps105
 go_wp2_with fail
 go_loopw [3, 12] (fun av i wr => ∃ k : Nat, k ≤ l.length ∧ i = .int .i64 (k : Int) ∧ Owns wr w.heap.size av (hexOf (l.take k)) ∧ Keeps (fun _ => False) w wr) (fun _ i _ => l.length - (intOf i).toNat)
 case atStart => exact ⟨0, Nat.zero_le _, rfl, HO.out, HQ.out⟩
 case round =>
  obtain ⟨k, hk, rfl, ho, hq⟩ := hrel
  clear hmk2
  obtain ⟨aa, ac, rfl, q1, q2⟩ := ho.bytes.form
  by_cases hlt : k < l.length
  ·obtain ⟨x, rfl, hx⟩ := (H.out.keep hq).cell rfl hlt
   have j0 : (0 : Int) ≤ k := by omega
   have j1 : (k : Int) < l.length := by omega
   have hcl := l[k].toNat_lt
   have hnx : hexOf (l.take (k + 1)) = hexOf (l.take k) ++ [hexd (l[k].toNat / 16), hexd (l[k].toNat % 16)] := by rw [List.take_succ_eq_append_getElem hlt, hexOf_append]; rfl
   have hbb := HB.out
   have hq2 : Keeps (fun _ => False) wr (wr.drew.alloc (.cells #[.int .u8 ((hexd (l[k].toNat / 16)).toNat : Int), .int .u8 ((hexd (l[k].toNat % 16)).toNat : Int)] 5)) := ((Keeps.refl _ wr).drew).alloc _
   have hqz := hq.size
   obtain ⟨v', w3, hrun, ho3, hk3⟩ := Owns.grow (by simp only [World.size_alloc, World.drew]; omega) (ho.keep hq2) (two_bytes wr.drew (hexd (l[k].toNat / 16)) (hexd (l[k].toNat % 16))) (by rw [hexOf_length, List.length_take]; simp only [List.length_cons, List.length_nil]; omega)
   rw [← hnx] at ho3
   have hq3 : Keeps (fun _ => False) w w3 := (hq.trans hq2 (fun _ _ e => e)).trans hk3 (fun b hb e => by have := owns_lt ho b e; omega)
   obtain ⟨aa', ac', rfl, _, _⟩ := ho3.bytes.form
   have HR := hyd (⟨k + 1, by omega, rfl, ho3, hq3⟩ : ∃ k' : Nat, k' ≤ l.length ∧ Value.int .i64 ((k + 1 : Nat) : Int) = .int .i64 (k' : Int) ∧ Owns w3 w.heap.size _ (hexOf (l.take k')) ∧ Keeps (fun _ => False) w w3)
   have Hrun := hyd hrun
   have e1 : (l[k].toNat : Int) / 16 = ((l[k].toNat / 16 : Nat) : Int) := by omega
   have e2 : bits .and .u8 (l[k].toNat : Int) 15 = ((l[k].toNat % 16 : Nat) : Int) := by
    have := u8_and_nat l[k].toNat 15 hcl (by omega)
    rw [nat_mask4] at this; exact this
   have d1 := fun W => hexd_run (l[k].toNat / 16) (by omega) W
   have d2 := fun W => hexd_run (l[k].toNat % 16) (by omega) W
   generalize l[k].toNat / 16 = n1 at e1 d1 Hrun
   generalize l[k].toNat % 16 = n2 at e2 d2 Hrun
   generalize (hexd n1).toNat = m1 at d1 Hrun
   generalize (hexd n2).toNat = m2 at d2 Hrun
   generalize l[k].toNat = ck at hx hcl e1 e2
   clear ho hq hq2 ho3 hk3 hq3 hrun hnx hbb
   go_wp2_with fail
   go_region_law (first | (refine step_append_run rfl _ _ _ _ rfl rfl rfl Hrun.out ?_) | fail)
   all_goals
    clear d1 d2 e1 e2 hx
    go_wp2_with fail
    go_roundw
    case rel => exact HR.out
    case measure => simp [intOf]; omega
  ·obtain rfl : k = l.length := by omega
   rw [List.take_length] at ho
   have hst := ho.bytes.reads.text
   have e : (l.take l.length) = l := List.take_length
   rw [e] at *
   have HK := hyd hq
   clear hlt hk hq ho
   go_wp2_with fail
   go_ret
   exact ⟨rfl, HK.out⟩
set_option linter.unusedSimpArgs false
theorem hexd_lo (g : Nat) (h : g < 10) : (hexd g).toNat = 48 + g := by unfold hexd; rw [if_pos h]; simp; omega
theorem hexd_hi (g : Nat) (h : ¬ g < 10) (h2 : g < 16) : (hexd g).toNat = 87 + g := by unfold hexd; rw [if_neg h]; simp; omega
set_option maxRecDepth 100000 in
set_option maxHeartbeats 1000000 in
theorem rhex_calls {w : World} {v : Value} {l : List UInt8} (h : Reads w v l) (hb : l.length ≤ 65536) : Calls Tryz.prog 107 #[v] w (QuietP w (.string ⟨(hexOf l).toArray⟩)) := by
 obtain ⟨a, c, rfl, hc1, hc2⟩ := h.form
 have H := hyd h
 have j9 : (l.length : Int) ≤ 65536 := by omega
 have HB := hyd hb
 clear h hb
 go_enter Tryz.func107, Tryz.ntmps107
 go_wp2_with fail
 go_loopw [3, 4] (fun av i wr => ∃ k : Nat, k ≤ l.length ∧ i = .int .i64 (k : Int) ∧ Owns wr w.heap.size av (hexOf (l.take k)) ∧ Keeps (fun _ => False) w wr) (fun _ i _ => l.length - (intOf i).toNat)
 case atStart => exact ⟨0, Nat.zero_le _, rfl, Owns.nil _ _, Keeps.refl _ _⟩
 case round =>
  obtain ⟨k, hk, rfl, ho, hq⟩ := hrel
  obtain ⟨aa, ac, rfl, q1, q2⟩ := ho.bytes.form
  by_cases hlt : k < l.length
  ·have j0 : (0 : Int) ≤ k := by omega
   have j1 : (k : Int) < l.length := by omega
   have hcl := l[k].toNat_lt
   have hnx : hexOf (l.take (k + 1)) = hexOf (l.take k) ++ [hexd (l[k].toNat / 16), hexd (l[k].toNat % 16)] := by rw [List.take_succ_eq_append_getElem hlt, hexOf_append]; rfl
   obtain ⟨dg, hdg⟩ : ∃ dg : List UInt8, dg = [hexd (l[k].toNat / 16), hexd (l[k].toNat % 16)] := ⟨_, rfl⟩
   rw [← hdg] at hnx
   have HNX := hyd hnx
   have HDG := hyd hdg
   have hll : (hexOf (l.take k)).length ≤ 140000 := by have := HB.out; rw [hexOf_length, List.length_take]; omega
   have HLL := hyd hll
   generalize hexOf (l.take k) = pre at ho HNX HLL
   have HO := hyd ho
   have HQ := hyd hq
   clear ho hq hnx hdg hll
   go_wp2_with fail
   go_loopw [3, 5] (fun av j wx => ∃ i : Nat, i ≤ 2 ∧ j = .int .i64 (i : Int) ∧ Owns wx w.heap.size av (pre ++ dg.take i) ∧ Keeps (fun _ => False) w wx) (fun _ j _ => 2 - (intOf j).toNat)
   case atStart => exact ⟨0, by omega, rfl, by rw [List.take_zero, List.append_nil]; exact HO.out, HQ.out⟩
   case round =>
    obtain ⟨i, hi, rfl, ho, hq⟩ := hrel
    obtain ⟨ab, ad, rfl, q3, q4⟩ := ho.bytes.form
    by_cases hi2 : i < 2
    ·obtain ⟨x, rfl, hx⟩ := (H.out.keep hq).cell rfl hlt
     obtain ⟨g, hg, hg16, hgd⟩ : ∃ g, (i = 0 ∧ g = l[k].toNat / 16 ∨ i = 1 ∧ g = l[k].toNat % 16) ∧ g < 16 ∧ dg.take (i + 1) = dg.take i ++ [hexd g] := by
      have hd := HDG.out
      match i, hi2 with
      | 0, _ => exact ⟨_, .inl ⟨rfl, rfl⟩, by omega, by rw [hd]; rfl⟩
      | 1, _ => exact ⟨_, .inr ⟨rfl, rfl⟩, by omega, by rw [hd]; rfl⟩
     have hq2 : Keeps (fun _ => False) wr (wr.alloc (.cells #[.int .u8 ((hexd g).toNat : Int)] 5)) := (Keeps.refl _ _).alloc _
     have hqz := hq.size
     obtain ⟨v', w3, hrun, ho3, hk3⟩ := Owns.grow (by simp only [World.size_alloc]; omega) (ho.keep hq2) (one_byte wr (hexd g)) (by have := HLL.out; have hd := congrArg List.length HDG.out; rw [List.length_append, List.length_take]; simp only [List.length_cons, List.length_nil] at hd ⊢; omega)
     rw [List.append_assoc, ← hgd] at ho3
     have hq3 : Keeps (fun _ => False) w w3 := (hq.trans hq2 (fun _ _ e => e)).trans hk3 (fun b hb e => by have := owns_lt ho b e; omega)
     obtain ⟨aa', ac', rfl, -, -⟩ := ho3.bytes.form
     have HR := hyd (⟨i + 1, by omega, rfl, ho3, hq3⟩ : ∃ i' : Nat, i' ≤ 2 ∧ Value.int .i64 ((i + 1 : Nat) : Int) = .int .i64 (i' : Int) ∧ Owns w3 w.heap.size _ (pre ++ dg.take i') ∧ Keeps (fun _ => False) w w3)
     have Hrun := hyd hrun
     have m1 : g < 10 → ((hexd g).toNat : Int) = 48 + g := fun h => by rw [hexd_lo g h]; omega
     have m2 : ¬ g < 10 → ((hexd g).toNat : Int) = 87 + g := fun h => by rw [hexd_hi g h hg16]; omega
     generalize (hexd g).toNat = mm at m1 m2 Hrun
     generalize l[k].toNat = ck at hx hcl hg
     have M1 := hyd m1
     have M2 := hyd m2
     have HG16 := hyd hg16
     clear ho hq hq2 ho3 hk3 hq3 hrun hgd m1 m2 hqz q3 q4
     obtain ⟨n1, hn1⟩ : ∃ n1, n1 = ck / 16 := ⟨_, rfl⟩
     obtain ⟨n2, hn2⟩ : ∃ n2, n2 = ck % 16 := ⟨_, rfl⟩
     rw [← hn1, ← hn2] at hg
     have e1 : (ck : Int) / 16 = (n1 : Int) := by omega
     have e2 : (ck : Int).tdiv 16 = (n1 : Int) := by rw [Int.tdiv_eq_ediv_of_nonneg (by omega)]; omega
     have e3 : (ck : Int) % 16 = (n2 : Int) := by omega
     have e4 : (ck : Int).tmod 16 = (n2 : Int) := by rw [Int.tmod_eq_emod_of_nonneg (by omega)]; omega
     have e5 : IntKind.u8.wrap (n1 : Int) = (n1 : Int) := by rw [IntKind.wrap_u8]; omega
     have e6 : IntKind.u8.wrap (n2 : Int) = (n2 : Int) := by rw [IntKind.wrap_u8]; omega
     clear hn1 hn2 hg16 hcl
     generalize (pre ++ dg.take i).length = L1 at Hrun ⊢
     generalize (pre ++ dg.take (i + 1)).length = L2 at Hrun HR
     rcases hg with ⟨rfl, rfl⟩ | ⟨rfl, rfl⟩
     ·rw [show ((0 : Nat) : Int) = 0 from rfl]
      by_cases hg10 : g < 10
      ·have d1 : IntKind.u8.wrap (48 + (g : Int)) = (mm : Int) := by have := M1.out hg10; rw [IntKind.wrap_u8]; omega
       have d0 : (g : Int) < 10 := by omega
       clear M1 M2 hg10 HG16
       go_wp2_with (at_builtin; refine wpList_append_run rfl _ _ _ _ rfl rfl rfl Hrun.out ?_)
       go_roundw
       case rel => exact HR.out
       case measure => simp [intOf]
      ·obtain ⟨pp, hpp⟩ : ∃ pp, pp = 97 + g := ⟨_, rfl⟩
       have d1 : IntKind.u8.wrap (97 + (g : Int)) = (pp : Int) := by have := HG16.out; rw [IntKind.wrap_u8]; omega
       have d2 : IntKind.u8.wrap ((pp : Int) - 10) = (mm : Int) := by have := HG16.out; have := M2.out hg10; rw [IntKind.wrap_u8]; omega
       have d0 : ¬ (g : Int) < 10 := by omega
       clear M1 M2 hg10 HG16 hpp
       go_wp2_with (at_builtin; refine wpList_append_run rfl _ _ _ _ rfl rfl rfl Hrun.out ?_)
       go_roundw
       case rel => exact HR.out
       case measure => simp [intOf]
     ·rw [show ((1 : Nat) : Int) = 1 from rfl]
      by_cases hg10 : g < 10
      ·have d1 : IntKind.u8.wrap (48 + (g : Int)) = (mm : Int) := by have := M1.out hg10; rw [IntKind.wrap_u8]; omega
       have d0 : (g : Int) < 10 := by omega
       clear M1 M2 hg10 HG16
       go_wp2_with (at_builtin; refine wpList_append_run rfl _ _ _ _ rfl rfl rfl Hrun.out ?_)
       go_roundw
       case rel => exact HR.out
       case measure => simp [intOf]
      ·obtain ⟨pp, hpp⟩ : ∃ pp, pp = 97 + g := ⟨_, rfl⟩
       have d1 : IntKind.u8.wrap (97 + (g : Int)) = (pp : Int) := by have := HG16.out; rw [IntKind.wrap_u8]; omega
       have d2 : IntKind.u8.wrap ((pp : Int) - 10) = (mm : Int) := by have := HG16.out; have := M2.out hg10; rw [IntKind.wrap_u8]; omega
       have d0 : ¬ (g : Int) < 10 := by omega
       clear M1 M2 hg10 HG16 hpp
       go_wp2_with (at_builtin; refine wpList_append_run rfl _ _ _ _ rfl rfl rfl Hrun.out ?_)
       go_roundw
       case rel => exact HR.out
       case measure => simp [intOf]
    ·obtain rfl : i = 2 := by omega
     have hfin : pre ++ dg.take 2 = hexOf (l.take (k + 1)) := by
      rw [HNX.out, List.take_of_length_le (by have hd := congrArg List.length HDG.out; simp at hd; omega)]
     rw [hfin] at ho
     have hsl : (pre ++ dg.take 2).length = (hexOf (l.take (k + 1))).length := by rw [hfin]
     rw [hsl]
     have HR := hyd (⟨k + 1, by omega, rfl, ho, hq⟩ : ∃ k' : Nat, k' ≤ l.length ∧ Value.int .i64 ((k + 1 : Nat) : Int) = .int .i64 (k' : Int) ∧ Owns wr w.heap.size _ (hexOf (l.take k')) ∧ Keeps (fun _ => False) w wr)
     generalize (hexOf (l.take (k + 1))).length = L1 at HR ⊢
     rw [show ((2 : Nat) : Int) = 2 from rfl]
     clear ho hq hfin hsl hi hi2 q3 q4
     go_wp2_with fail
     go_roundw
     case rel => exact HR.out
     case measure => simp [intOf]; omega
  ·obtain rfl : k = l.length := by omega
   simp only [List.take_length] at ho q1 ⊢
   have hst := ho.bytes.reads.text
   have HK := hyd hq
   clear hlt hk hq ho
   go_wp2_with fail
   go_ret
   exact ⟨rfl, HK.out⟩
def keyOf (x : Nat) : ByteArray := (⟨#[103, 47]⟩ : ByteArray) ++ (⟨(hexOf (putOf x 4)).toArray⟩ : ByteArray)
set_option maxRecDepth 100000 in
theorem key_calls (w : World) (i : Int) (x : Nat) (hx : IntKind.u64.wrap i = (x : Int)) (hx2 : x < 18446744073709551616) : Calls Tryz.prog 43 #[.int .i64 i] w (QuietP w (.string (keyOf x))) := by
 have hp := put_calls w x 4 hx2 (by omega)
 have HP := hyd hp
 unfold keyOf
 clear hp hx2
 go_enter Tryz.func43, Tryz.ntmps43
 go_wp2_with fail
 refine HP.out.mono ?_
 rintro e w1 ⟨v1, rfl, ho, hk⟩
 have hh := hex_calls ho.bytes.reads (by rw [putOf_length]; omega)
 obtain ⟨a, c, rfl, -, -⟩ := ho.bytes.form
 have HH := hyd hh
 have HK := hyd hk
 clear hh ho hk HP hx
 generalize (putOf x 4).length = n4 at HH ⊢
 go_wp2_with fail
 refine HH.out.mono ?_
 rintro e w2 ⟨rfl, hk2⟩
 have HF := hyd (HK.out.trans hk2 (fun _ _ e => e))
 clear hk2 HH
 go_wp2_with fail
 go_ret
 exact ⟨rfl, HF.out⟩
set_option maxRecDepth 100000 in
theorem rkey_calls (w : World) (i : Int) (x : Nat) (hx : IntKind.u64.wrap i = (x : Int)) (hx2 : x < 18446744073709551616) : Calls Tryz.prog 46 #[.int .i64 i] w (QuietP w (.string (keyOf x))) := by
 have hp := rput_calls w x 4 hx2 (by omega) (by omega)
 have HP := hyd hp
 unfold keyOf
 clear hp hx2
 go_enter Tryz.func46, Tryz.ntmps46
 go_wp2_with fail
 refine HP.out.mono ?_
 rintro e w1 ⟨v1, rfl, ho, hk⟩
 have hh := rhex_calls ho.bytes.reads (by rw [putOf_length]; omega)
 obtain ⟨a, c, rfl, -, -⟩ := ho.bytes.form
 have HH := hyd hh
 have HK := hyd hk
 clear hh ho hk HP hx
 generalize (putOf x 4).length = n4 at HH ⊢
 go_wp2_with fail
 refine HH.out.mono ?_
 rintro e w2 ⟨rfl, hk2⟩
 have HF := hyd (HK.out.trans hk2 (fun _ _ e => e))
 clear hk2 HH
 go_wp2_with fail
 go_ret
 exact ⟨rfl, HF.out⟩
theorem Own.pushRec {w wr w1 : World} {rs : List (Res w.heap.size)} {v p : Value} {ll : List (List UInt8)} {l : List UInt8} (h : Own w wr (rRows w.heap.size v ll :: rs)) (hp : Owns w1 wr.heap.size p l) (hk : Keeps (fun _ => False) wr w1) (hb : ll.length < 1099511627776) :
  ∃ a c w', (Builtin.append_ #[50, 50] 50 #[v, .slice (some ⟨w1.heap.size, 0, none⟩) 1 1]).run Tryz.prog (w1.alloc (.cells #[p] 36)) = .ok (.slice a (ll.length + 1) c) w' ∧ Own w w' (rRows w.heap.size (.slice a (ll.length + 1) c) (ll ++ [l]) :: rs) := by
 have hz := h.keeps.size
 obtain ⟨F, ⟨ps, G, h1, h2, h3, h4⟩, hF, back⟩ := h.open1
 have hp1 : p.oneCell' = true := by obtain ⟨a, c, rfl, _⟩ := hp.bytes.form; rfl
 have h1' := row_keep h1 hk (fun _ _ e => e)
 obtain ⟨v', w', hr, ho, hk2, hat⟩ := row_push h1' (Nat.zero_le _) hp1 hb
 obtain ⟨a, c, e⟩ := ownsRow_slice ho
 subst e
 have hkF : Keeps F wr w' := (hk.mono (fun _ _ e => e.elim)).trans hk2 (fun b _ e => (h4 b e).1)
 have hsz := hk.size
 have hsz2 := hk2.size
 have hp2 : Owns w' wr.heap.size p l := owns_keep hp hk2 (fun b hb e => row_ne h1' hp e hb)
 refine ⟨a, c, w', hr, back w' (rRows _ (.slice a (ll.length + 1) c) (ll ++ [l])) hkF ⟨ps ++ [p], fun b => G b ∨ p.ownBlock = some b, by rw [List.length_append]; exact ho, Rel2.append ?_ ⟨?_, trivial⟩, fun b hb => ?_, fun b hb => ?_⟩⟩
 ·refine h2.mono (fun q m hq => (hq.keep (fun b hb => ?_)).wider (fun b hb => .inl hb))
  have hlt : b < wr.heap.size := by
   rcases hb with hb | hb
   ·exact (hF b (h3 b hb)).2
   ·omega
  refine (hk2.block b (by omega) (fun e => ?_)).trans (hk.block b hlt (fun e => e))
  obtain ⟨_, e2, e3⟩ := h4 b e
  rcases hb with hb | hb
  ·exact e3 hb
  ·omega
 ·exact (ReadsF.of_owns hp2).wider (fun b hb => .inr hb)
 ·rcases hb with hb | hb
  ·exact .inl (h3 b hb)
  ·have := owns_lt hp b hb
   exact .inr ⟨by omega, by omega⟩
 ·have hlt := row_lt ho b hb
  rcases hat with hat | hat
  ·rw [hat] at hb
   obtain ⟨e1, e2, e3⟩ := h4 b hb
   exact ⟨.inl e1, e2, fun e => by rcases e with e | e; exact e3 e; exact row_ne h1' hp hb e⟩
  ·rw [hat] at hb
   cases hb
   refine ⟨.inr ⟨by omega, hlt.1⟩, by omega, fun e => ?_⟩
   rcases e with e | e
   ·have := hF _ (h3 _ e); omega
   ·have := owns_lt hp _ e; omega
end Go.Proofs.YtddnikpdmjogiaaGreat
