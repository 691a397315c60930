/- Whether two rows of bytes read the same: ref01's Same. -/
import Derived.Test.YtlinkpjneehnbaaUsed
import Derived.Deep.QuietTactic
import Derived.BigQuiet
namespace Go.Proofs.Ytlinkpjneehnbaa
open Go.RowKit Go.MapKept

theorem Reads.cell {w : World} {v : Value} {l : List UInt8} (h : Reads w v l) {a : Option Addr} {n c k : Nat} (hv : v = .slice a n c) (hk : k < l.length) : ∃ x, a = some x ∧ w.cell? (x.add k) = some (.int .u8 (l[k].toNat : Int)) := by
  rcases h with ⟨_, rfl⟩ | ⟨x, c', e, _, _, h3⟩
  · simp at hk
  · rw [hv] at e
    cases e
    exact ⟨x, rfl, h3 k _ (by rw [List.getElem?_map, List.getElem?_eq_getElem hk]; rfl)⟩

theorem take_step {l l' : List UInt8} {k : Nat} (hk : k < l.length) (hk' : k < l'.length) (h : l.take k = l'.take k) : (l[k].toNat = l'[k].toNat) ↔ l.take (k + 1) = l'.take (k + 1) := by
  constructor
  · intro e
    rw [List.take_succ_eq_append_getElem hk, List.take_succ_eq_append_getElem hk', h, UInt8.toNat_inj.1 e]
  · intro e
    have := congrArg (fun t : List UInt8 => t[k]?) e
    simp [hk, hk'] at this
    rw [this]

set_option maxRecDepth 100000 in
theorem same_raw (w : World) {l l' : List UInt8} {n : Nat} (hb : n ≤ maxLen) (hn : l.length = n) (hn' : l'.length = n) {a a' : Option Addr} {c c' : Nat} (h : Reads w (.slice a n c) l) (h' : Reads w (.slice a' n c') l') :
    Calls Try.prog 28 #[.slice a n c, .slice a' n c'] w (QuietP w (.bool (decide (l = l')))) := by
  unfold maxLen at hb
  have H := Lib.hid h
  have H' := Lib.hid h'
  have HN := Lib.hid hn
  have HN' := Lib.hid hn'
  clear h h' hn hn'
  go_enter Try.func28, Try.ntmps28
  go_wp2_with fail
  go_loopw [5] (fun i wr => ∃ k : Nat, k ≤ n ∧ i = .int .i64 (k : Int) ∧ Keeps (fun _ => False) w wr ∧ l.take k = l'.take k) (fun i _ => n - (intOf i).toNat)
  case atStart => exact ⟨0, Nat.zero_le _, rfl, Keeps.refl _ _, rfl⟩
  case round =>
    obtain ⟨k, hk, rfl, hq, heq⟩ := hrel
    by_cases hlt : k < n
    · obtain ⟨x, rfl, hx⟩ := (H.out.keep hq).cell rfl (k := k) (by have := HN.out; omega)
      obtain ⟨y, rfl, hy⟩ := (H'.out.keep hq).cell rfl (k := k) (by have := HN'.out; omega)
      have hpq := take_step (k := k) (by have := HN.out; omega) (by have := HN'.out; omega) heq
      generalize ((l[k]'(by have := HN.out; omega)).toNat) = p at hx hpq
      generalize ((l'[k]'(by have := HN'.out; omega)).toNat) = q at hy hpq
      have HP := Lib.hid hpq
      have j0 : (0 : Int) ≤ k := by omega
      have j1 : (k : Int) < n := by omega
      clear heq hpq
      by_cases hpq : p = q
      · have heq2 := HP.out.1 hpq
        have HE := Lib.hid heq2
        clear heq2 HP
        subst hpq
        go_wp2_with fail
        go_quiet (fail)
        go_wp2_with fail
        go_roundw
        case rel => exact ⟨k + 1, by omega, rfl, hq.drewN _, HE.out⟩
        case measure => simp [intOf]; omega
      · have hpq2 : ¬ (p : Int) = (q : Int) := by omega
        go_wp2_with fail
        go_quiet (fail)
        go_wp2_with fail
        go_ret
        refine ⟨?_, hq.drewN _⟩
        have : ¬ l = l' := fun e => hpq (HP.out.2 (by rw [e]))
        simp [this]
    · obtain rfl : k = n := by omega
      clear hlt hk
      have he : l = l' := by
        rw [List.take_of_length_le (by have := HN.out; omega), List.take_of_length_le (by have := HN'.out; omega)] at heq
        exact heq
      have HE := Lib.hid he
      clear he heq
      go_wp2_with fail
      go_ret
      exact ⟨by simp [HE.out], hq⟩

theorem same_calls {w : World} {v v' : Value} {l l' : List UInt8} (h : Reads w v l) (h' : Reads w v' l') : Calls Try.prog 28 #[v, v'] w (QuietP w (.bool (decide (l = l')))) := by
  obtain ⟨a, c, rfl, h1, h2⟩ := h.form
  obtain ⟨a', c', rfl, _, _⟩ := h'.form
  by_cases hl : l.length = l'.length
  · rw [← hl] at h' ⊢
    exact same_raw w (by omega) rfl hl.symm h h'
  · have hl2 : ¬ (l.length : Int) = (l'.length : Int) := by omega
    have hne : ¬ l = l' := fun e => hl (by rw [e])
    have HE := Lib.hid hne
    clear h h' hl hne
    go_enter Try.func28, Try.ntmps28
    go_wp2_with fail
    go_ret
    exact ⟨by simp [HE.out], Keeps.refl _ _⟩
end Go.Proofs.Ytlinkpjneehnbaa
