/- A part of the proof. -/
import Derived.Test.YtlcnhpjggjgnpaaGreatDoorUlaa8
namespace Go.Proofs.YtlcnhpjggjgnpaaGreatDoor
set_option linter.unusedVariables false
set_option linter.unusedSimpArgs false
open Go.RowKit Go.MapKept
def isSm (c : UInt8) : Bool := (decide (97 ≤ c.toNat) && decide (c.toNat ≤ 122)) || (decide (48 ≤ c.toNat) && decide (c.toNat ≤ 57))
def markOf (l : List UInt8) : Nat := if l.take 2 = [95, 95] then 2 else if l.head? = some 46 ∨ l.head? = some 95 then 1 else (l.takeWhile (· == 45)).length
def partF : Nat → List UInt8 → Bool
 | 0, _ => false
 | f + 1, l =>
  if (l.takeWhile isSm).length = 0 ∨ (l.takeWhile isSm).length = l.length then decide (0 < (l.takeWhile isSm).length)
  else if markOf (l.drop (l.takeWhile isSm).length) = 0 then false
  else partF f ((l.drop (l.takeWhile isSm).length).drop (markOf (l.drop (l.takeWhile isSm).length)))
def partOf (l : List UInt8) : Bool := partF (l.length + 1) l
abbrev txt (l : List UInt8) : ByteArray := ⟨l.toArray⟩
theorem txt_size (l : List UInt8) : (txt l).size = l.length := by show l.toArray.size = _; simp
theorem txt_index {W : World} {l : List UInt8} {i : Nat} {c : UInt8} (h : l[i]? = some c) : (Instr.index 9 (.string (txt l)) (.int .i64 (i : Int))).run Tryz.prog W = .ok (.int .u8 (c.toNat : Int)) W := by
 obtain ⟨hi, hc⟩ := List.getElem?_eq_some_iff.1 h
 rw [run_index_string W 9 _ _ _ Tryz.underlying9]
 rw [dif_pos ⟨by omega, by rw [txt_size]; omega⟩]
 have : (txt l)[(i : Int).toNat]'(by rw [txt_size]; omega) = c := by
  rw [← hc]
  show l.toArray[(i : Int).toNat] = _
  simp
 rw [this]
theorem txt_extract (l : List UInt8) (i j : Nat) : (txt l).extract i j = txt ((l.drop i).take (j - i)) := by
 apply ByteArray.ext
 rw [ByteArray.data_extract]
 show l.toArray.extract i j = _
 simp [List.extract_eq_take_drop]
theorem txt_tail {W : World} {l : List UInt8} (i : Nat) (h : i ≤ l.length) : (Instr.sliceAt 9 (.string (txt l)) (some (.int .i64 (i : Int))) none none).run Tryz.prog W = .ok (.string (txt (l.drop i))) W := by
 rw [run_sliceAt_string _ _ _ _ _ _ Tryz.underlying9, run_slice_string_l W 9 (txt l) Tryz.underlying9 .i64 (i : Int) (by omega) (by rw [txt_size]; omega)]
 rw [Int.toNat_natCast, txt_extract, txt_size, List.take_of_length_le (by simp)]
set_option maxRecDepth 100000 in
theorem nsmall_runs (w : World) (c : UInt8) : Runs 151 #[.int .u8 (c.toNat : Int)] w (.bool (isSm c)) w := by
 unfold Runs isSm
 generalize c.toNat = n
 by_cases h1 : 97 ≤ n
 ·have i1 : (97 : Int) ≤ n := by omega
  have i3 : (48 : Int) ≤ n := by omega
  have i4 : ¬ (n : Int) ≤ 57 := by omega
  by_cases h2 : n ≤ 122
  ·have i2 : (n : Int) ≤ 122 := by omega
   go_enter Tryz.func151, Tryz.ntmps151
   go_wp2_with fail
   go_ret
   exact ⟨by simp [h1, h2], rfl⟩
  ·have i2 : ¬ (n : Int) ≤ 122 := by omega
   go_enter Tryz.func151, Tryz.ntmps151
   go_wp2_with fail
   go_ret
   exact ⟨by simp [h2]; omega, rfl⟩
 ·have i1 : ¬ (97 : Int) ≤ n := by omega
  by_cases h3 : 48 ≤ n
  ·have i3 : (48 : Int) ≤ n := by omega
   by_cases h4 : n ≤ 57
   ·have i4 : (n : Int) ≤ 57 := by omega
    go_enter Tryz.func151, Tryz.ntmps151
    go_wp2_with fail
    go_ret
    exact ⟨by simp [h1, h3, h4], rfl⟩
   ·have i4 : ¬ (n : Int) ≤ 57 := by omega
    go_enter Tryz.func151, Tryz.ntmps151
    go_wp2_with fail
    go_ret
    exact ⟨by simp [h1, h4], rfl⟩
  ·have i3 : ¬ (48 : Int) ≤ n := by omega
   go_enter Tryz.func151, Tryz.ntmps151
   go_wp2_with fail
   go_ret
   exact ⟨by simp [h1, h3], rfl⟩
theorem txt_head {W : World} {l : List UInt8} (j : Nat) (h : j ≤ l.length) : (Instr.sliceAt 9 (.string (txt l)) none (some (.int .i64 (j : Int))) none).run Tryz.prog W = .ok (.string (txt (l.take j))) W := by
 rw [run_sliceAt_string _ _ _ _ _ _ Tryz.underlying9, run_slice_string_h W 9 (txt l) Tryz.underlying9 .i64 (j : Int) (by omega) (by rw [txt_size]; omega)]
 rw [Int.toNat_natCast, txt_extract, List.drop_zero, Nat.sub_zero]
theorem txt_toList (l : List UInt8) : (txt l).toList = l := by
 rw [ByteArray.toList_eq]
theorem tw_in {p : UInt8 → Bool} : ∀ {l : List UInt8} {k : Nat}, k < (l.takeWhile p).length → ∃ c, l[k]? = some c ∧ p c = true
 | [], k, h => by simp at h
 | a :: l, k, h => by
  rw [List.takeWhile_cons] at h
  split at h
  ·rename_i ha
   cases k with
   | zero => exact ⟨a, rfl, ha⟩
   | succ k => exact tw_in (l := l) (k := k) (by simpa using h)
  ·simp at h
theorem tw_out {p : UInt8 → Bool} : ∀ (l : List UInt8), (l.takeWhile p).length = l.length ∨ ∃ c, l[(l.takeWhile p).length]? = some c ∧ p c = false
 | [] => .inl rfl
 | a :: l => by
  rw [List.takeWhile_cons]
  split
  ·rename_i ha
   rcases tw_out (p := p) l with h | ⟨c, h1, h2⟩
   ·exact .inl (by simp [h])
   ·exact .inr ⟨c, by simpa using h1, h2⟩
  ·rename_i ha
   exact .inr ⟨a, rfl, by simpa using ha⟩
theorem tw_le {p : UInt8 → Bool} (l : List UInt8) : (l.takeWhile p).length ≤ l.length := (List.takeWhile_sublist p).length_le
set_option maxRecDepth 100000 in
theorem shasprefix_runs (w : World) (l p : List UInt8) (hp : p.length ≤ 1048576) : Runs 214 #[.string (txt l), .string (txt p)] w (.bool (decide (p.length ≤ l.length) && (l.take p.length == p))) w := by
 unfold Runs
 have hz1 := txt_size l
 have hz2 := txt_size p
 by_cases h : p.length ≤ l.length
 ·obtain ⟨x, hx⟩ : ∃ x, x = txt (l.take p.length) := ⟨_, rfl⟩
  have hs : ∀ W, (Instr.sliceAt 9 (.string (txt l)) none (some (.int .i64 ((txt p).size : Int))) none).run Tryz.prog W = .ok (.string x) W := fun W => by rw [hx, hz2]; exact txt_head p.length h
  have hge : (txt p).size ≤ (txt l).size := by omega
  have hb : (x.toList == (txt p).toList) = (l.take p.length == p) := by rw [hx, txt_toList, txt_toList]
  have hd : decide (p.length ≤ l.length) = true := decide_eq_true h
  rw [hd, ← hb]
  generalize txt l = s at hs hge ⊢
  generalize txt p = t at hs hge ⊢
  clear hz1 hz2 hb h hd hx hp
  go_enter Tryz.func214, Tryz.ntmps214
  go_wp2_with fail
  go_ret
  exact ⟨by simp, rfl⟩
 ·have hge : ¬ (txt p).size ≤ (txt l).size := by omega
  have hd : decide (p.length ≤ l.length) = false := decide_eq_false h
  rw [hd, Bool.false_and]
  generalize txt l = s at hge ⊢
  generalize txt p = t at hge ⊢
  clear hz1 hz2 h hd hp
  go_enter Tryz.func214, Tryz.ntmps214
  go_wp2_with fail
  go_ret
  exact ⟨rfl, rfl⟩
set_option maxRecDepth 100000 in
theorem hasprefix_runs (w : World) (l p : List UInt8) (hp : p.length ≤ 1048576) : Runs 188 #[.string (txt l), .string (txt p)] w (.bool (decide (p.length ≤ l.length) && (l.take p.length == p))) w := by
 have h := shasprefix_runs w l p hp
 unfold Runs
 generalize (decide (p.length ≤ l.length) && (l.take p.length == p)) = b at h ⊢
 have H := Lib.hid h
 clear h hp
 generalize txt l = s at H ⊢
 generalize txt p = t at H ⊢
 go_enter Tryz.func188, Tryz.ntmps188
 go_wp2_with fail
 refine H.out.out.mono ?_
 rintro e w' ⟨rfl, rfl⟩
 go_wp2_with fail
 go_ret
 exact ⟨rfl, rfl⟩
def uu : List UInt8 := [95, 95]
set_option maxRecDepth 100000 in
set_option maxHeartbeats 1000000 in
theorem mark_runs (w : World) (c : UInt8) (l : List UInt8) (hl : l.length ≤ 1048576) : Runs 152 #[.string (txt (c :: l))] w (.int .i64 (markOf (c :: l) : Int)) w := by
 unfold Runs
 have hp := hasprefix_runs w (c :: l) uu (by decide)
 have hx : ∀ (k : Nat) (d : UInt8), (c :: l)[k]? = some d → ∀ W, (Instr.index 9 (.string (txt (c :: l))) (.int .i64 (k : Int))).run Tryz.prog W = .ok (.int .u8 (d.toNat : Int)) W := fun k d h W => txt_index h
 have hx0 := hx 0 c rfl
 have hz : ((txt (c :: l)).size : Int) = ((c :: l).length : Int) := by rw [txt_size]
 have hm : (decide (uu.length ≤ (c :: l).length) && ((c :: l).take uu.length == uu)) = decide ((c :: l).take 2 = [95, 95]) := by
  by_cases h : (c :: l).take 2 = [95, 95]
  ·have := congrArg List.length h
   rw [List.length_take] at this
   have h2 : uu.length ≤ (c :: l).length := by show 2 ≤ _; simp at this ⊢; omega
   have h3 : ((c :: l).take uu.length == uu) = true := by rw [beq_iff_eq]; exact h
   rw [decide_eq_true h, decide_eq_true h2, h3]; rfl
  ·have hb : ((c :: l).take uu.length == uu) = false := by rw [beq_eq_false_iff_ne]; exact h
   rw [decide_eq_false h, hb, Bool.and_false]
 rw [hm] at hp
 have e2 : txt uu = (⟨#[95, 95]⟩ : ByteArray) := rfl
 rw [e2] at hp
 have htw := tw_out (p := (· == 45)) (c :: l)
 have hti := fun k => tw_in (p := (· == 45)) (l := c :: l) (k := k)
 have htl := tw_le (p := (· == 45)) (c :: l)
 have hM : markOf (c :: l) = if (c :: l).take 2 = [95, 95] then 2 else if c = 46 ∨ c = 95 then 1 else ((c :: l).takeWhile (· == 45)).length := by
  unfold markOf; simp
 rw [hM]
 have hlen : (c :: l).length ≤ 1048577 := by rw [List.length_cons]; omega
 clear hm hM hl
 generalize ((c :: l).takeWhile (· == 45)).length = n at htw hti htl ⊢
 generalize hL : c :: l = L at hp hx hx0 hz htw hti htl hlen ⊢
 have HP := Lib.hid hp
 have HX := Lib.hid hx
 have HTW := Lib.hid htw
 have HTI := Lib.hid hti
 have hx0' : ∀ W, (Instr.index 9 (.string (txt L)) (.int .i64 0)).run Tryz.prog W = .ok (.int .u8 (c.toNat : Int)) W := hx0
 clear hp hx hx0 htw hti hL
 generalize txt L = s at HP HX hx0' hz ⊢
 by_cases h1 : L.take 2 = [95, 95]
 ·have HP2 := HP.out
  rw [decide_eq_true h1] at HP2
  rw [if_pos h1]
  have HP := Lib.hid HP2
  clear HP2 h1
  go_enter Tryz.func152, Tryz.ntmps152
  go_wp2_with fail
  refine HP.out.out.mono ?_
  rintro e w' ⟨rfl, rfl⟩
  go_wp2_with fail
  go_ret
  exact ⟨rfl, rfl⟩
 ·have HP2 := HP.out
  rw [decide_eq_false h1] at HP2
  rw [if_neg h1]
  have HP := Lib.hid HP2
  clear HP2 h1
  by_cases h2 : c = 46
  ·have j0 : (c.toNat : Int) = 46 := by rw [h2]; rfl
   rw [if_pos (.inl h2)]
   rw [j0] at hx0'
   clear h2 j0
   go_enter Tryz.func152, Tryz.ntmps152
   go_wp2_with fail
   refine HP.out.out.mono ?_
   rintro e w' ⟨rfl, rfl⟩
   go_wp2_with fail
   go_ret
   exact ⟨rfl, rfl⟩
  ·by_cases h3 : c = 95
   ·have j0 : (c.toNat : Int) = 95 := by rw [h3]; rfl
    rw [if_pos (.inr h3)]
    rw [j0] at hx0'
    clear h2 h3 j0
    go_enter Tryz.func152, Tryz.ntmps152
    go_wp2_with fail
    refine HP.out.out.mono ?_
    rintro e w' ⟨rfl, rfl⟩
    go_wp2_with fail
    go_ret
    exact ⟨rfl, rfl⟩
   ·rw [if_neg (by rintro (h | h); exact h2 h; exact h3 h)]
    have j2 : ((c.toNat : Int) == 46) = false := by
     rw [beq_eq_false_iff_ne]; intro h; exact h2 (UInt8.toNat_inj.1 (by rw [show (46 : UInt8).toNat = 46 from rfl]; omega))
    have j3 : ((c.toNat : Int) == 95) = false := by
     rw [beq_eq_false_iff_ne]; intro h; exact h3 (UInt8.toNat_inj.1 (by rw [show (95 : UInt8).toNat = 95 from rfl]; omega))
    clear h2 h3
    go_enter Tryz.func152, Tryz.ntmps152
    go_wp2_with fail
    refine HP.out.out.mono ?_
    rintro e w' ⟨rfl, rfl⟩
    clear HP
    go_wp2_with fail
    go_loopw [3] (fun nv wx => ∃ k : Nat, nv = .int .i64 (k : Int) ∧ k ≤ n ∧ w = wx) (fun nv _ => n - (intOf nv).toNat)
    case atStart => exact ⟨0, rfl, Nat.zero_le _, rfl⟩
    case round =>
     obtain ⟨k, rfl, hk, rfl⟩ := hrel
     have k0 : (0 : Int) ≤ k := by omega
     by_cases hlt : k < n
     ·obtain ⟨d, hd, he⟩ := HTI.out k hlt
      have hxk := HX.out k d hd
      have hd2 : d = 45 := by simpa using he
      subst hd2
      have j4 : (k : Int) < L.length := by omega
      have HLT := Lib.hid hlt
      clear hd he hlt hk
      go_wp2_with fail
      go_roundw
      case rel => exact ⟨k + 1, by simp, by have := HLT.out; omega, by first | rfl | trivial⟩
      case measure => have := HLT.out; simp [intOf]; omega
     ·obtain rfl : k = n := by omega
      rcases HTW.out with h | ⟨d, hd, he⟩
      ·have j4 : ¬ (k : Int) < L.length := by omega
       clear hlt hk h
       go_wp2_with fail
       go_ret
       exact ⟨rfl, rfl⟩
      ·have hxk := HX.out k d hd
       have hkl := (List.getElem?_eq_some_iff.1 hd).1
       have j4 : (k : Int) < L.length := by omega
       have j5 : ((d.toNat : Int) == 45) = false := by
        rw [beq_eq_false_iff_ne]; intro h
        have : d = 45 := UInt8.toNat_inj.1 (by rw [show (45 : UInt8).toNat = 45 from rfl]; omega)
        rw [this] at he; simp at he
       clear hlt hk hd he hkl
       go_wp2_with fail
       go_ret
       exact ⟨rfl, rfl⟩
def strLen : Value → Nat
 | .string s => s.size
 | _ => 0
set_option maxRecDepth 100000 in
set_option maxHeartbeats 400000 in
theorem part_runs (w : World) (l0 : List UInt8) (hl0 : l0.length ≤ 1048576) : Runs 103 #[.string (txt l0)] w (.bool (partOf l0)) w := by
 unfold Runs
 obtain ⟨R, hR⟩ : ∃ R, partOf l0 = R := ⟨_, rfl⟩
 have HR := Lib.hid hR
 have HL := Lib.hid hl0
 rw [hR]
 clear hR hl0
 go_enter Tryz.func103, Tryz.ntmps103
 go_wp2_with fail
 go_loopw [0, 3, 4] (fun sv _ _ wx => ∃ (l : List UInt8) (f : Nat), sv = .string (txt l) ∧ partF f l = R ∧ l.length < f ∧ l.length ≤ 1048576 ∧ w = wx) (fun sv _ _ _ => strLen sv)
 case atStart => exact ⟨l0, l0.length + 1, rfl, HR.out, Nat.lt_succ_self _, HL.out, rfl⟩
 case round =>
  obtain ⟨l, f, rfl, hp, hf, hl, rfl⟩ := hrel
  obtain ⟨f, rfl⟩ : ∃ g, f = g + 1 := ⟨f - 1, by omega⟩
  rw [partF] at hp
  have hz : ((txt l).size : Int) = (l.length : Int) := by rw [txt_size]
  have HX := Lib.hid (fun (k : Nat) (d : UInt8) (h : l[k]? = some d) W => txt_index (W := W) h)
  have HTW := Lib.hid (tw_out (p := isSm) l)
  have HTI := Lib.hid (fun k => tw_in (p := isSm) (l := l) (k := k))
  have HTL := Lib.hid (tw_le (p := isSm) l)
  have HS := Lib.hid (fun (W : World) (i : Nat) (h : i ≤ l.length) => txt_tail (W := W) (l := l) i h)
  obtain ⟨n, hn⟩ : ∃ n, n = (l.takeWhile isSm).length := ⟨_, rfl⟩
  rw [← hn] at hp
  have HTW2 := HTW.out
  have HTI2 := HTI.out
  have HTL2 := HTL.out
  rw [← hn] at HTW2 HTL2
  simp only [← hn] at HTI2
  have HTW := Lib.hid HTW2
  have HTI := Lib.hid HTI2
  have HP := Lib.hid hp
  have HF := Lib.hid (And.intro hf hl)
  clear HTW2 HTI2 hn hp hf hl HR HL
  obtain ⟨s, hs⟩ : ∃ s, s = txt l := ⟨_, rfl⟩
  have HSS := Lib.hid hs
  rw [← hs] at hz ⊢
  have HX2 := HX.out
  have HS2 := HS.out
  rw [← hs] at HX2 HS2
  have HX := Lib.hid HX2
  have HS := Lib.hid HS2
  clear HX2 HS2 hs
  go_wp2_with fail
  go_loopw [3] (fun nv wx => ∃ k : Nat, nv = .int .i64 (k : Int) ∧ k ≤ n ∧ w = wx) (fun nv _ => n - (intOf nv).toNat)
  case atStart => exact ⟨0, rfl, Nat.zero_le _, rfl⟩
  case round =>
   obtain ⟨k, rfl, hk, rfl⟩ := hrel
   have k0 : (0 : Int) ≤ k := by omega
   by_cases hlt : k < n
   ·obtain ⟨d, hd, he⟩ := HTI.out k hlt
    have hxk := HX.out k d hd
    have hsm := fun W => nsmall_runs W d
    rw [he] at hsm
    have j4 : (k : Int) < l.length := by omega
    have hwr : IntKind.i64.wrap ((k : Int) + 1) = ((k + 1 : Nat) : Int) := by have := HF.out; rw [IntWalk.i64_in _ (by omega)]; omega
    have HLT := Lib.hid hlt
    clear hd he hlt hk HTL2
    go_wp2_with (go_at_call 151; refine (hsm _).out.mono ?_; rintro e w' ⟨rfl, rfl⟩)
    go_roundw
    case rel => exact ⟨k + 1, rfl, by have := HLT.out; omega, by first | rfl | trivial⟩
    case measure => have := HLT.out; simp [intOf]; omega
   ·obtain rfl : k = n := by omega
    clear hlt hk
    have hcond : ∀ b : Bool, b = decide (k = l.length) → ((k : Int) == (l.length : Int)) = b := fun b hb => by
     rw [hb, Bool.eq_iff_iff]; simp; omega
    by_cases h0 : k = 0
    ·have hP : false = R := by have := HP.out; rw [if_pos (.inl h0), decide_eq_false (by omega)] at this; exact this
     subst hP
     have j5 : ((k : Int) == 0) = true := by simp [h0]
     have HK0 := Lib.hid (decide_eq_false (show ¬ 0 < k by omega))
     rcases HTW.out with h | ⟨d, hd, he⟩
     ·have j4 : ¬ (k : Int) < l.length := by omega
      clear h h0 hcond HTL2
      go_wp2_with fail
      go_ret
      exact ⟨congrArg (fun b => Ending.returned (Value.bool b)) HK0.out, rfl⟩
     ·have hxk := HX.out k d hd
      have hsm := fun W => nsmall_runs W d
      rw [he] at hsm
      have j4 : (k : Int) < l.length := by have := (List.getElem?_eq_some_iff.1 hd).1; omega
      clear hd he h0 hcond HTL2
      go_wp2_with (go_at_call 151; refine (hsm _).out.mono ?_; rintro e w' ⟨rfl, rfl⟩)
      go_ret
      exact ⟨congrArg (fun b => Ending.returned (Value.bool b)) HK0.out, rfl⟩
    ·by_cases h1 : k = l.length
     ·have hP : true = R := by have := HP.out; rw [if_pos (.inr h1), decide_eq_true (by omega)] at this; exact this
      subst hP
      have j4 : ¬ (k : Int) < l.length := by omega
      have j5 : ((k : Int) == 0) = false := by simpa using h0
      have j6 : ((k : Int) == (l.length : Int)) = true := hcond _ (decide_eq_true h1).symm
      have HK0 := Lib.hid (decide_eq_true (show 0 < k by omega))
      clear h0 h1 hcond HTL2
      go_wp2_with fail
      go_ret
      exact ⟨congrArg (fun b => Ending.returned (Value.bool b)) HK0.out, rfl⟩
     ·obtain ⟨d, hd, he⟩ : ∃ c, l[k]? = some c ∧ isSm c = false := by
       rcases HTW.out with h | h
       ·exact absurd h h1
       ·exact h
      have hP := HP.out
      rw [if_neg (by rintro (h | h); exact h0 h; exact h1 h)] at hP
      have hxk := HX.out k d hd
      have hsm := fun W => nsmall_runs W d
      rw [he] at hsm
      have hkl := (List.getElem?_eq_some_iff.1 hd).1
      have j4 : (k : Int) < l.length := by omega
      have j5 : ((k : Int) == 0) = false := by simpa using h0
      have j6 : ((k : Int) == (l.length : Int)) = false := hcond _ (decide_eq_false h1).symm
      have hs1 := fun W => HS.out W k (by omega)
      obtain ⟨x, hx⟩ : ∃ x, x = l.drop k := ⟨_, rfl⟩
      rw [← hx] at hP hs1
      obtain ⟨c, y, rfl⟩ : ∃ c y, x = c :: y := by
       cases x with
       | nil => have := congrArg List.length hx; rw [List.length_drop] at this; simp at this; omega
       | cons c y => exact ⟨c, y, rfl⟩
      have hyl : (c :: y).length ≤ 1048576 := by rw [hx, List.length_drop]; have := HF.out; omega
      have hyk : (c :: y).length = l.length - k := by rw [hx, List.length_drop]
      have hmr := fun W => mark_runs W c y (by rw [List.length_cons] at hyl; omega)
      have hml : markOf (c :: y) ≤ (c :: y).length := by
       unfold markOf
       split
       ·rename_i h
        have := congrArg List.length h
        rw [List.length_take] at this
        simp at this ⊢; omega
       ·split
        ·simp
        ·exact tw_le _
      have hs2 := fun W => txt_tail (W := W) (l := c :: y) (markOf (c :: y)) hml
      have HF2 := Lib.hid (show (¬ markOf (c :: y) = 0 → partF f ((c :: y).drop (markOf (c :: y))) = R) ∧ (markOf (c :: y) = 0 → R = false) from by
       by_cases h : markOf (c :: y) = 0
       ·rw [if_pos h] at hP; exact ⟨fun h2 => absurd h h2, fun _ => hP.symm⟩
       ·rw [if_neg h] at hP; exact ⟨fun _ => hP, fun h2 => absurd h2 h⟩)
      have hdl : ((c :: y).drop (markOf (c :: y))).length = l.length - k - markOf (c :: y) := by rw [List.length_drop, hyk]
      have HDL := Lib.hid hdl
      have HSZ := Lib.hid (txt_size ((c :: y).drop (markOf (c :: y))))
      have HK := Lib.hid (show 0 < k ∧ k < l.length by omega)
      generalize (c :: y).drop (markOf (c :: y)) = z at hs2 HF2 HDL HSZ
      generalize markOf (c :: y) = q at hs2 HF2 HDL hmr
      generalize txt (c :: y) = sx at hs1 hs2 hmr
      clear hx hyl hyk hml hdl hd he h0 h1 hcond HTL2 hP hkl
      by_cases hq : q = 0
      ·subst hq
       have hR := HF2.out.2 rfl
       subst hR
       go_wp2_with (first | (go_at_call 151; refine (hsm _).out.mono ?_; rintro e w' ⟨rfl, rfl⟩) | (go_at_call 152; refine (hmr _).out.mono ?_; rintro e w' ⟨rfl, rfl⟩))
       go_ret
       exact ⟨rfl, rfl⟩
      ·have j8 : ((q : Int) == 0) = false := by simpa using hq
       have hR := HF2.out.1 hq
       have HR := Lib.hid hR
       clear hq hR
       go_wp2_with (first | (go_at_call 151; refine (hsm _).out.mono ?_; rintro e w' ⟨rfl, rfl⟩) | (go_at_call 152; refine (hmr _).out.mono ?_; rintro e w' ⟨rfl, rfl⟩))
       go_roundw
       case rel => exact ⟨z, f, rfl, HR.out, by have := HDL.out; have := HF.out; have := HK.out; omega, by have := HDL.out; have := HF.out; omega, by first | rfl | trivial⟩
       case measure =>
        have h1 := HSZ.out
        have h2 := HDL.out
        have h3 := HK.out
        have h4 : (txt l).size = l.length := txt_size l
        have h5 := HSS.out
        subst h5
        simp only [strLen]
        omega
end Go.Proofs.YtlcnhpjggjgnpaaGreatDoor
