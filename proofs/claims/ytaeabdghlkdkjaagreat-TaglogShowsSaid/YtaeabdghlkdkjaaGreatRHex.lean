/- The document's digits of bytes. -/
import Derived.Test.YtaeabdghlkdkjaaGreatHex
namespace Go.Proofs.YtaeabdghlkdkjaaGreat
set_option linter.unusedVariables false
set_option linter.unusedSimpArgs false
open Go.RowKit Go.MapKept

theorem hexd_lo (g : Nat) (h : g < 10) : (hexd g).toNat = 48 + g := by unfold hexd; rw [if_pos h]; simp; omega
theorem hexd_hi (g : Nat) (h : ¬ g < 10) (h2 : g < 16) : (hexd g).toNat = 87 + g := by unfold hexd; rw [if_neg h]; simp; omega
set_option maxRecDepth 100000 in
set_option maxHeartbeats 1000000 in
theorem rhex_calls {w : World} {v : Value} {l : List UInt8} (h : Reads w v l) (hb : l.length ≤ 65536) : Calls Tryz.prog 113 #[v] w (QuietP w (.string ⟨(hexOf l).toArray⟩)) := by
  obtain ⟨a, c, rfl, hc1, hc2⟩ := h.form
  have H := Lib.hid h
  have j9 : (l.length : Int) ≤ 65536 := by omega
  have HB := Lib.hid hb
  clear h hb
  go_enter Tryz.func113, Tryz.ntmps113
  go_wp2_with fail
  go_loopw [3, 4] (fun av i wr => ∃ k : Nat, k ≤ l.length ∧ i = .int .i64 (k : Int) ∧ Owns wr w.heap.size av (hexOf (l.take k)) ∧ Keeps (fun _ => False) w wr) (fun _ i _ => l.length - (intOf i).toNat)
  case atStart => exact ⟨0, Nat.zero_le _, rfl, Owns.nil _ _, Keeps.refl _ _⟩
  case round =>
    obtain ⟨k, hk, rfl, ho, hq⟩ := hrel
    obtain ⟨aa, ac, rfl, q1, q2⟩ := ho.bytes.form
    by_cases hlt : k < l.length
    · have j0 : (0 : Int) ≤ k := by omega
      have j1 : (k : Int) < l.length := by omega
      have hcl := l[k].toNat_lt
      have hnx : hexOf (l.take (k + 1)) = hexOf (l.take k) ++ [hexd (l[k].toNat / 16), hexd (l[k].toNat % 16)] := by rw [List.take_succ_eq_append_getElem hlt, hexOf_append]; rfl
      obtain ⟨dg, hdg⟩ : ∃ dg : List UInt8, dg = [hexd (l[k].toNat / 16), hexd (l[k].toNat % 16)] := ⟨_, rfl⟩
      rw [← hdg] at hnx
      have HNX := Lib.hid hnx
      have HDG := Lib.hid hdg
      have hll : (hexOf (l.take k)).length ≤ 140000 := by have := HB.out; rw [hexOf_length, List.length_take]; omega
      have HLL := Lib.hid hll
      generalize hexOf (l.take k) = pre at ho HNX HLL
      have HO := Lib.hid ho
      have HQ := Lib.hid hq
      clear ho hq hnx hdg hll
      go_wp2_with fail
      go_loopw [3, 5] (fun av j wx => ∃ i : Nat, i ≤ 2 ∧ j = .int .i64 (i : Int) ∧ Owns wx w.heap.size av (pre ++ dg.take i) ∧ Keeps (fun _ => False) w wx) (fun _ j _ => 2 - (intOf j).toNat)
      case atStart => exact ⟨0, by omega, rfl, by rw [List.take_zero, List.append_nil]; exact HO.out, HQ.out⟩
      case round =>
        obtain ⟨i, hi, rfl, ho, hq⟩ := hrel
        obtain ⟨ab, ad, rfl, q3, q4⟩ := ho.bytes.form
        by_cases hi2 : i < 2
        · obtain ⟨x, rfl, hx⟩ := (H.out.keep hq).cell rfl hlt
          obtain ⟨g, hg, hg16, hgd⟩ : ∃ g, (i = 0 ∧ g = l[k].toNat / 16 ∨ i = 1 ∧ g = l[k].toNat % 16) ∧ g < 16 ∧ dg.take (i + 1) = dg.take i ++ [hexd g] := by
            have hd := HDG.out
            match i, hi2 with
            | 0, _ => exact ⟨_, .inl ⟨rfl, rfl⟩, by omega, by rw [hd]; rfl⟩
            | 1, _ => exact ⟨_, .inr ⟨rfl, rfl⟩, by omega, by rw [hd]; rfl⟩
          have hq2 : Keeps (fun _ => False) wr (wr.alloc (.cells #[.int .u8 ((hexd g).toNat : Int)] 5)) := (Keeps.refl _ _).alloc _
          have hqz := hq.size
          obtain ⟨v', w3, hrun, ho3, hk3⟩ := Owns.grow (by simp only [World.size_alloc]; omega) (ho.keep hq2) (one_byte wr (hexd g)) (by have := HLL.out; have hd := congrArg List.length HDG.out; rw [List.length_append, List.length_take]; simp only [List.length_cons, List.length_nil] at hd ⊢; omega)
          rw [List.append_assoc, ← hgd] at ho3
          have hq3 : Keeps (fun _ => False) w w3 := (hq.trans hq2 (fun _ _ e => e)).trans hk3 (fun b hb e => by have := owns_lt ho b e; omega)
          obtain ⟨aa', ac', rfl, -, -⟩ := ho3.bytes.form
          have HR := Lib.hid (⟨i + 1, by omega, rfl, ho3, hq3⟩ : ∃ i' : Nat, i' ≤ 2 ∧ Value.int .i64 ((i + 1 : Nat) : Int) = .int .i64 (i' : Int) ∧ Owns w3 w.heap.size _ (pre ++ dg.take i') ∧ Keeps (fun _ => False) w w3)
          have Hrun := Lib.hid hrun
          have m1 : g < 10 → ((hexd g).toNat : Int) = 48 + g := fun h => by rw [hexd_lo g h]; omega
          have m2 : ¬ g < 10 → ((hexd g).toNat : Int) = 87 + g := fun h => by rw [hexd_hi g h hg16]; omega
          generalize (hexd g).toNat = mm at m1 m2 Hrun
          generalize l[k].toNat = ck at hx hcl hg
          have M1 := Lib.hid m1
          have M2 := Lib.hid m2
          have HG16 := Lib.hid hg16
          clear ho hq hq2 ho3 hk3 hq3 hrun hgd m1 m2 hqz q3 q4
          obtain ⟨n1, hn1⟩ : ∃ n1, n1 = ck / 16 := ⟨_, rfl⟩
          obtain ⟨n2, hn2⟩ : ∃ n2, n2 = ck % 16 := ⟨_, rfl⟩
          rw [← hn1, ← hn2] at hg
          have e1 : (ck : Int) / 16 = (n1 : Int) := by omega
          have e2 : (ck : Int).tdiv 16 = (n1 : Int) := by rw [Int.tdiv_eq_ediv_of_nonneg (by omega)]; omega
          have e3 : (ck : Int) % 16 = (n2 : Int) := by omega
          have e4 : (ck : Int).tmod 16 = (n2 : Int) := by rw [Int.tmod_eq_emod_of_nonneg (by omega)]; omega
          have e5 : IntKind.u8.wrap (n1 : Int) = (n1 : Int) := by rw [IntKind.wrap_u8]; omega
          have e6 : IntKind.u8.wrap (n2 : Int) = (n2 : Int) := by rw [IntKind.wrap_u8]; omega
          clear hn1 hn2 hg16 hcl
          generalize (pre ++ dg.take i).length = L1 at Hrun ⊢
          generalize (pre ++ dg.take (i + 1)).length = L2 at Hrun HR
          rcases hg with ⟨rfl, rfl⟩ | ⟨rfl, rfl⟩
          · rw [show ((0 : Nat) : Int) = 0 from rfl]
            by_cases hg10 : g < 10
            · have d1 : IntKind.u8.wrap (48 + (g : Int)) = (mm : Int) := by have := M1.out hg10; rw [IntKind.wrap_u8]; omega
              have d0 : (g : Int) < 10 := by omega
              clear M1 M2 hg10 HG16
              go_wp2_with (at_builtin; refine wpList_append_run rfl _ _ _ _ rfl rfl rfl Hrun.out ?_)
              go_roundw
              case rel => exact HR.out
              case measure => simp [intOf]
            · obtain ⟨pp, hpp⟩ : ∃ pp, pp = 97 + g := ⟨_, rfl⟩
              have d1 : IntKind.u8.wrap (97 + (g : Int)) = (pp : Int) := by have := HG16.out; rw [IntKind.wrap_u8]; omega
              have d2 : IntKind.u8.wrap ((pp : Int) - 10) = (mm : Int) := by have := HG16.out; have := M2.out hg10; rw [IntKind.wrap_u8]; omega
              have d0 : ¬ (g : Int) < 10 := by omega
              clear M1 M2 hg10 HG16 hpp
              go_wp2_with (at_builtin; refine wpList_append_run rfl _ _ _ _ rfl rfl rfl Hrun.out ?_)
              go_roundw
              case rel => exact HR.out
              case measure => simp [intOf]
          · rw [show ((1 : Nat) : Int) = 1 from rfl]
            by_cases hg10 : g < 10
            · have d1 : IntKind.u8.wrap (48 + (g : Int)) = (mm : Int) := by have := M1.out hg10; rw [IntKind.wrap_u8]; omega
              have d0 : (g : Int) < 10 := by omega
              clear M1 M2 hg10 HG16
              go_wp2_with (at_builtin; refine wpList_append_run rfl _ _ _ _ rfl rfl rfl Hrun.out ?_)
              go_roundw
              case rel => exact HR.out
              case measure => simp [intOf]
            · obtain ⟨pp, hpp⟩ : ∃ pp, pp = 97 + g := ⟨_, rfl⟩
              have d1 : IntKind.u8.wrap (97 + (g : Int)) = (pp : Int) := by have := HG16.out; rw [IntKind.wrap_u8]; omega
              have d2 : IntKind.u8.wrap ((pp : Int) - 10) = (mm : Int) := by have := HG16.out; have := M2.out hg10; rw [IntKind.wrap_u8]; omega
              have d0 : ¬ (g : Int) < 10 := by omega
              clear M1 M2 hg10 HG16 hpp
              go_wp2_with (at_builtin; refine wpList_append_run rfl _ _ _ _ rfl rfl rfl Hrun.out ?_)
              go_roundw
              case rel => exact HR.out
              case measure => simp [intOf]
        · obtain rfl : i = 2 := by omega
          have hfin : pre ++ dg.take 2 = hexOf (l.take (k + 1)) := by
            rw [HNX.out, List.take_of_length_le (by have hd := congrArg List.length HDG.out; simp at hd; omega)]
          rw [hfin] at ho
          have hsl : (pre ++ dg.take 2).length = (hexOf (l.take (k + 1))).length := by rw [hfin]
          rw [hsl]
          have HR := Lib.hid (⟨k + 1, by omega, rfl, ho, hq⟩ : ∃ k' : Nat, k' ≤ l.length ∧ Value.int .i64 ((k + 1 : Nat) : Int) = .int .i64 (k' : Int) ∧ Owns wr w.heap.size _ (hexOf (l.take k')) ∧ Keeps (fun _ => False) w wr)
          generalize (hexOf (l.take (k + 1))).length = L1 at HR ⊢
          rw [show ((2 : Nat) : Int) = 2 from rfl]
          clear ho hq hfin hsl hi hi2 q3 q4
          go_wp2_with fail
          go_roundw
          case rel => exact HR.out
          case measure => simp [intOf]; omega
    · obtain rfl : k = l.length := by omega
      simp only [List.take_length] at ho q1 ⊢
      have hst := ho.bytes.reads.text
      have HK := Lib.hid hq
      clear hlt hk hq ho
      go_wp2_with fail
      go_ret
      exact ⟨rfl, HK.out⟩
end Go.Proofs.YtaeabdghlkdkjaaGreat
