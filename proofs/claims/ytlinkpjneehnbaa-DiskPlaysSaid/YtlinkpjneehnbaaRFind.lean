/- The document's Find and Used: the walks. -/
import Derived.Test.YtlinkpjneehnbaaRFs
namespace Go.Proofs.Ytlinkpjneehnbaa
set_option linter.unusedVariables false
open Go.RowKit Go.MapKept

set_option maxRecDepth 100000 in
theorem rfind_runs {F : Nat → Prop} {w : World} {v : Value} {fs : FS} (h : FilesAt F w v fs) (n : ByteArray) (hb : fs.length < 1099511627776) : Runs 99 #[v, .string n] w (.int .i64 (findI fs n)) w := by
  unfold Runs
  obtain ⟨a, c, rfl, hlc, hcm⟩ := h.form
  have H := Lib.hid h
  have i1 : (fs.length : Int) ≤ 1099511627776 := by omega
  clear h
  go_enter Try.func99, Try.ntmps99
  go_wp2_with fail
  go_loopw [5] (fun i wx => ∃ k : Nat, k ≤ fs.length ∧ i = .int .i64 (k : Int) ∧ wx = w ∧ ∀ j q, j < k → fs[j]? = some q → q.1 ≠ n) (fun i _ => fs.length - (intOf i).toNat)
  case atStart => exact ⟨0, Nat.zero_le _, rfl, rfl, fun j q hj => by omega⟩
  case round =>
    obtain ⟨k, hk, rfl, rfl, hno⟩ := hrel
    have j0 : (0 : Int) ≤ k := by omega
    by_cases hlt : k < fs.length
    · obtain ⟨f, hf⟩ : ∃ f, fs[k]? = some f := ⟨fs[k], List.getElem?_eq_getElem hlt⟩
      obtain ⟨g, cap, p, e, hc1, hc2, _⟩ := H.out.cell hf
      simp only [Value.slice.injEq] at e
      obtain ⟨rfl, -, rfl⟩ := e
      have j1 : (k : Int) < fs.length := by omega
      by_cases he : f.1 = n
      · have hfin := findI_here hf hno he
        have HF := Lib.hid hfin
        have hq : (f.1.toList == n.toList) = true := by rw [he]; simp
        clear hfin hno hf he hlt
        go_wp2_with fail
        go_ret
        exact ⟨by rw [HF.out]; rfl, rfl⟩
      · have hno2 : ∀ j q, j < k + 1 → fs[j]? = some q → q.1 ≠ n := fun j q hj hq => by
          by_cases e : j = k
          · subst e; rw [hf] at hq; cases hq; exact he
          · exact hno j q (by omega) hq
        have HN := Lib.hid hno2
        have hq : (f.1.toList == n.toList) = false := by
          rw [Bool.eq_false_iff]; intro hc
          exact he (toList_inj (by simpa using hc))
        clear hno2 hno hf he
        go_wp2_with fail
        go_roundw
        case rel => exact ⟨k + 1, by omega, rfl, trivial, HN.out⟩
        case measure => simp [intOf]; omega
    · obtain rfl : k = fs.length := by omega
      have hfin : findI fs n = -1 := findI_none (fun j q hq => hno j q (List.getElem?_eq_some_iff.1 hq).1 hq)
      have HF := Lib.hid hfin
      clear hfin hno
      go_wp2_with fail
      go_ret
      exact ⟨by rw [HF.out]; rfl, rfl⟩

set_option maxRecDepth 100000 in
theorem rused_runs {F : Nat → Prop} {w : World} {v : Value} {fs : FS} (h : FilesAt F w v fs) (hb : fs.length < 1099511627776) (hu : used fs ≤ 4611686018427387904) : Runs 101 #[v] w (.int .i64 (used fs : Int)) w := by
  unfold Runs
  obtain ⟨a, c, rfl, hlc, hcm⟩ := h.form
  have H := Lib.hid h
  have i1 : (fs.length : Int) ≤ 1099511627776 := by omega
  have i2 : (used fs : Int) ≤ 4611686018427387904 := by omega
  clear h hu
  go_enter Try.func101, Try.ntmps101
  go_wp2_with fail
  go_loopw [3, 4] (fun n i wx => ∃ k : Nat, k ≤ fs.length ∧ i = .int .i64 (k : Int) ∧ n = .int .i64 (used (fs.take k) : Int) ∧ wx = w) (fun _ i _ => fs.length - (intOf i).toNat)
  case atStart => exact ⟨0, Nat.zero_le _, rfl, rfl, rfl⟩
  case round =>
    obtain ⟨k, hk, rfl, rfl, rfl⟩ := hrel
    have j0 : (0 : Int) ≤ k := by omega
    by_cases hlt : k < fs.length
    · obtain ⟨f, hf⟩ : ∃ f, fs[k]? = some f := ⟨fs[k], List.getElem?_eq_getElem hlt⟩
      obtain ⟨g, cap, p, e, hc1, hc2, hB⟩ := H.out.cell hf
      simp only [Value.slice.injEq] at e
      obtain ⟨rfl, -, rfl⟩ := e
      obtain ⟨pa, pc, rfl, _, _⟩ := hB.form
      have hst := used_step hf
      have hle := used_take_le fs (k + 1)
      have j1 : (k : Int) < fs.length := by omega
      have j2 : (used (fs.take k) : Int) + (f.2.length : Int) ≤ 4611686018427387904 := by omega
      have j3 : (0 : Int) ≤ (used (fs.take k) : Int) := by omega
      have j4 : (0 : Int) ≤ (f.2.length : Int) := by omega
      have HS := Lib.hid hst
      generalize used (fs.take k) = t at j2 j3 HS
      clear hst hle hB hf
      go_wp2_with fail
      go_roundw
      case rel => exact ⟨k + 1, by omega, rfl, by rw [HS.out]; rfl, trivial⟩
      case measure => simp [intOf]; omega
    · obtain rfl : k = fs.length := by omega
      rw [List.take_length]
      go_wp2_with fail
      go_ret
      exact ⟨rfl, rfl⟩

theorem risname_runs (s : ByteArray) (w : World) : Runs 53 #[.string s] w (.bool (isName s)) w := by
  have e : isName s = (decide ((1 : Int) ≤ (s.size : Int)) && decide ((s.size : Int) ≤ 160)) := by
    unfold isName
    congr 1
    rw [Bool.eq_iff_iff]
    have : s.toList.length = s.size := by rw [ByteArray.toList_eq, Array.length_toList]; rfl
    cases hl : s.toList with
    | nil => rw [hl] at this; simp at this ⊢; omega
    | cons x l => rw [hl] at this; simp at this ⊢; omega
  rw [e]
  unfold Runs
  have i0 : (0 : Int) ≤ (s.size : Int) := by omega
  generalize hx : decide ((1 : Int) ≤ (s.size : Int)) = x
  generalize hy : decide ((s.size : Int) ≤ 160) = y
  go_enter Try.func53, Try.ntmps53
  cases x <;> cases y
  all_goals go_wp2
  all_goals go_ret
  all_goals exact ⟨by simp, rfl⟩
end Go.Proofs.Ytlinkpjneehnbaa
