/- TaglogShows: what Check tells of a path, and bytes that are turned (plain). -/
import Derived.Test.YtaeabdghlkdkjaaGreatMrkH
namespace Go.Proofs.YtaeabdghlkdkjaaGreat
set_option linter.unusedVariables false
open Go.RowKit Go.MapKept

theorem clm_none {i last : Nat} {d : Dg} {way : List Dg} : ∀ (k t : Nat), clm t i last d way = none → clm (t + k) i last d way = none
  | 0, t, h => h
  | k + 1, t, h => by
    rw [← Nat.add_assoc, clm, clm_none k t h]
theorem check_path {L : List Dg} {i : Nat} {x : Dg} (hx : L[i]? = some x) {D : Dg} {ok : Bool} (h : ClimbIs i (L.length - 1) x (pathOf L i) D ok) : D = rootOf L ∧ ok = true := by
  have hi := (List.getElem?_eq_some_iff.1 hx).1
  have hp : ∀ t, L.length - 1 < 2 ^ t → clm t i (L.length - 1) x (pathOf L i) = some (rootOf L, []) := fun t ht => by
    have := clm_path t L i 0 (L.length - 1) x [] hx (by omega) (by omega) (.inl (by omega))
    rw [Nat.zero_mul, Nat.zero_add, List.append_nil] at this
    exact this
  rcases h with ⟨t, rest, ht, hc, ho⟩ | ⟨t, hc, ho⟩
  · rw [hp t ht] at hc
    cases hc
    exact ⟨rfl, by rw [ho]; rfl⟩
  · have h1 := clm_none (L.length) t hc
    rw [hp (t + L.length) (by
      have h1 : L.length < 2 ^ L.length := Nat.lt_two_pow_self
      have h2 : 2 ^ L.length ≤ 2 ^ (t + L.length) := Nat.pow_le_pow_right (by omega) (by omega)
      generalize 2 ^ L.length = a at *
      generalize 2 ^ (t + L.length) = b at *
      omega)] at h1
    cases h1
/-- Bytes of which the first are turned. -/
def turned (p : List UInt8) (k : Nat) : List UInt8 := (p.take k).map (fun x => x ^^^ 255) ++ p.drop k
theorem turned_len (p : List UInt8) (k : Nat) : (turned p k).length = p.length := by simp [turned]; omega
theorem turned_zero (p : List UInt8) : turned p 0 = p := by simp [turned]
theorem turned_get {p : List UInt8} {k : Nat} (hk : k < p.length) : (turned p k)[k]'(by rw [turned_len]; exact hk) = p[k] := by
  simp only [turned]
  rw [List.getElem_append_right (by simp; omega)]
  simp
  congr 1
  omega
theorem turned_step {p : List UInt8} {k : Nat} (hk : k < p.length) : (turned p k).set k (p[k] ^^^ 255) = turned p (k + 1) := by
  have hl : ((p.take k).map (fun x => x ^^^ 255)).length = k := by simp; omega
  unfold turned
  rw [List.set_append_right _ _ (by rw [hl]; exact Nat.le_refl k), hl, Nat.sub_self, List.drop_eq_getElem_cons hk, List.set_cons_zero, List.take_succ_eq_append_getElem hk, List.map_append, List.append_assoc]
  rfl
theorem turn_ne (x : UInt8) : x ^^^ 255 ≠ x := by
  intro h
  have h2 : x ^^^ (x ^^^ 255) = x ^^^ x := congrArg (fun y => x ^^^ y) h
  rw [← UInt8.xor_assoc, UInt8.xor_self, UInt8.zero_xor] at h2
  exact absurd h2 (by decide)
theorem turned_ne {p : List UInt8} (hp : 0 < p.length) : turned p p.length ≠ p := by
  match p, hp with
  | x :: l, _ =>
    intro h
    simp only [turned, List.length_cons, List.take_succ_cons, List.map_cons, List.cons_append] at h
    exact turn_ne x (List.cons.inj h).1
end Go.Proofs.YtaeabdghlkdkjaaGreat
