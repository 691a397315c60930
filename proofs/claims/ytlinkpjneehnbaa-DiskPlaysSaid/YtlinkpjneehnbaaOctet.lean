/- New rows of bytes: ref01's Twin and Put; octet's Put. -/
import Derived.Test.YtlinkpjneehnbaaSame
import Derived.Test.YtlinkpjneehnbaaSince
import Derived.Maps.AppendAt
namespace Go.Proofs.Ytlinkpjneehnbaa
open Go.RowKit Go.MapKept

theorem owns_keep {w w' : World} {base n : Nat} {v : Value} {xs : List Value} (h : w.ownsRow base 5 1 v n xs) {F : Nat → Prop} (hk : Keeps F w w') (hF : ∀ b, v.ownBlock = some b → ¬ F b) : w'.ownsRow base 5 1 v n xs := by
  obtain ⟨h1, h2⟩ := h
  refine ⟨h1, ?_⟩
  rcases h2 with h2 | ⟨g, cap, cur, rfl, hg, hb, h3, h4, h5, h6⟩
  · exact .inl h2
  · exact .inr ⟨g, cap, cur, rfl, hg, hk.at hb (hF g rfl), h3, h4, h5, h6⟩
theorem owns_lt {w : World} {base n : Nat} {v : Value} {xs : List Value} (h : w.ownsRow base 5 1 v n xs) : ∀ b, v.ownBlock = some b → b < w.heap.size ∧ base ≤ b := by
  rcases h.2 with ⟨rfl, _⟩ | ⟨g, cap, cur, rfl, hg, hb, _⟩
  · intro b hb; cases hb
  · intro b hb'
    cases hb'
    exact ⟨lt_of_heap hb, hg⟩
/-- A row of new memory that reads as l. -/
def Owns (w : World) (base : Nat) (v : Value) (l : List UInt8) : Prop := w.ownsRow base 5 1 v l.length (l.map u8v)
theorem Owns.nil (w : World) (base : Nat) : Owns w base (.slice none 0 0) [] := ⟨rfl, .inl ⟨rfl, rfl⟩⟩
theorem Owns.bytes {w : World} {base : Nat} {v : Value} {l : List UInt8} (h : Owns w base v l) : Bytes (fun b => base ≤ b) w v l := bytes_of_owns h
theorem Owns.keep {w w' : World} {base : Nat} {v : Value} {l : List UInt8} (h : Owns w base v l) (hk : Keeps (fun _ => False) w w') : Owns w' base v l := owns_keep h hk (fun _ _ e => e)
theorem Owns.base {w : World} {base base' : Nat} {v : Value} {l : List UInt8} (h : Owns w base v l) (hb : base' ≤ base) : Owns w base' v l := by
  obtain ⟨h1, h2⟩ := h
  refine ⟨h1, ?_⟩
  rcases h2 with h2 | ⟨g, cap, cur, rfl, hg, h3⟩
  · exact .inl h2
  · exact .inr ⟨g, cap, cur, rfl, by omega, h3⟩
theorem Owns.grow {wr : World} {base : Nat} {v : Value} {l : List UInt8} (hz : base ≤ wr.heap.size) (ho : Owns wr base v l) {pv : Value} {p : List UInt8} (hp : Reads wr pv p) (hb : l.length + p.length ≤ 140737488355328) :
    ∃ v' w', (Builtin.append_ #[31, 31] 31 #[v, pv]).run Try.prog wr = .ok v' w' ∧ Owns w' base v' (l ++ p) ∧ Keeps (fun b => v.ownBlock = some b) wr w' := by
  obtain ⟨i0, hi, hz0, hz1, hz2⟩ := info_parts info_u8
  rcases hp with ⟨rfl, rfl⟩ | ⟨x, c, rfl, h1, h2, h3⟩
  · refine ⟨v, wr, append_none 31 31 31 5 i0 Try.underlying31 Try.underlying31 hi (by rw [hz1]) (bytes_of_owns ho) (.inl ⟨rfl, rfl⟩), ?_, Keeps.refl _ _⟩
    rw [List.append_nil]; exact ho
  · obtain ⟨v', w', hrun, ho2, hg, _, hat⟩ := run_append_own_at (P := Try.prog) wr base 31 31 5 i0 _ 1 1 Try.underlying31 hi hz0 hz1 hz2 (by rfl) (by omega) v l.length (l.map u8v) ho x p.length c (p.map u8v) (by simp) h3 (u8v_one _) (by unfold maxLen; omega) (by omega) hz
    refine ⟨v', w', hrun, ?_, Keeps.of_grown hg⟩
    rw [← List.map_append, ← List.length_append] at ho2; exact ho2
/-- '[]byte{c}'. -/
theorem one_byte (w : World) (c : UInt8) : Reads (w.alloc (.cells #[.int .u8 (c.toNat : Int)] 5)) (.slice (some ⟨w.heap.size, 0, none⟩) 1 1) [c] := by
  refine .inr ⟨_, 1, rfl, Nat.le_refl _, by simp [maxLen], fun j u hu => ?_⟩
  match j, hu with
  | 0, hu =>
    simp only [List.map_cons, List.map_nil, List.getElem?_cons_zero, Option.some.injEq] at hu
    rw [← hu, Addr.add_lit]
    exact cell_at (heap_alloc_new w _) rfl
  | j + 1, hu => simp at hu

/-- A call that makes a row of bytes. -/
def OPost (w : World) (l : List UInt8) (e : Ending) (w' : World) : Prop := ∃ v, e = .returned v ∧ Owns w' w.heap.size v l ∧ Keeps (fun _ => False) w w'

set_option maxRecDepth 100000 in
theorem twin_calls {w : World} {v : Value} {l : List UInt8} (h : Reads w v l) (hb : l.length ≤ 140737488355328) : Calls Try.prog 29 #[v] w (OPost w l) := by
  obtain ⟨a, c, rfl, hc1, hc2⟩ := h.form
  have H := Lib.hid h
  unfold maxLen at hc2
  clear h
  go_enter Try.func29, Try.ntmps29
  go_wp2_with fail
  go_loopw [3, 4] (fun av i wr => ∃ k : Nat, k ≤ l.length ∧ i = .int .i64 (k : Int) ∧ Owns wr w.heap.size av (l.take k) ∧ Keeps (fun _ => False) w wr) (fun _ i _ => l.length - (intOf i).toNat)
  case atStart => exact ⟨0, Nat.zero_le _, rfl, Owns.nil _ _, Keeps.refl _ _⟩
  case round =>
    obtain ⟨k, hk, rfl, ho, hq⟩ := hrel
    obtain ⟨aa, ac, rfl, q1, q2⟩ := ho.bytes.form
    by_cases hlt : k < l.length
    · obtain ⟨x, rfl, hx⟩ := (H.out.keep hq).cell rfl hlt
      have hq2 : Keeps (fun _ => False) wr (wr.alloc (.cells #[.int .u8 (l[k].toNat : Int)] 5)) := (Keeps.refl _ _).alloc _
      have hq2z := hq.size
      obtain ⟨v', w3, hrun, ho3, hk3⟩ := Owns.grow (by simp only [World.size_alloc]; omega) (ho.keep hq2) (one_byte wr l[k]) (by simp only [List.length_take, List.length_cons, List.length_nil]; omega)
      rw [← List.take_succ_eq_append_getElem hlt] at ho3
      have hq3 : Keeps (fun _ => False) w w3 := (hq.trans hq2 (fun _ _ e => e)).trans hk3 (fun b hb e => by have := owns_lt ho b e; omega)
      obtain ⟨aa', ac', rfl, _, _⟩ := ho3.bytes.form
      have HR := Lib.hid (⟨k + 1, by omega, rfl, ho3, hq3⟩ : ∃ k' : Nat, k' ≤ l.length ∧ Value.int .i64 ((k + 1 : Nat) : Int) = .int .i64 (k' : Int) ∧ Owns w3 w.heap.size _ (l.take k') ∧ Keeps (fun _ => False) w w3)
      have Hrun := Lib.hid hrun
      have j0 : (0 : Int) ≤ k := by omega
      have j1 : (k : Int) < l.length := by omega
      generalize l[k].toNat = b at hx Hrun
      clear ho hq hq2 ho3 hk3 hq3 hrun
      go_wp2_with (at_builtin; refine wpList_append_run rfl _ _ _ _ rfl rfl rfl Hrun.out ?_)
      go_roundw
      case rel => have h := HR.out; simp only [List.length_take] at h; exact h
      case measure => simp [intOf]; omega
    · obtain rfl : k = l.length := by omega
      have HO := Lib.hid ho
      have HQ := Lib.hid hq
      clear hlt hk ho hq
      go_wp2_with fail
      go_ret
      refine ⟨.slice aa (l.take l.length).length ac, rfl, ?_, HQ.out⟩
      have h := HO.out
      generalize Value.slice aa (l.take l.length).length ac = v at h ⊢
      rw [List.take_length] at h
      exact h
end Go.Proofs.Ytlinkpjneehnbaa
