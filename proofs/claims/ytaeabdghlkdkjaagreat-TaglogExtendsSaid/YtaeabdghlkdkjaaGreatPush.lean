/- A record behind a row of records. -/
import Derived.Test.YtaeabdghlkdkjaaGreatPkJ
namespace Go.Proofs.YtaeabdghlkdkjaaGreat
set_option linter.unusedVariables false
open Go.RowKit Go.MapKept

/-- 'append(ll, p)'. -/
theorem Own.pushRec {w wr w1 : World} {rs : List (Res w.heap.size)} {v p : Value} {ll : List (List UInt8)} {l : List UInt8} (h : Own w wr (rRows w.heap.size v ll :: rs)) (hp : Owns w1 wr.heap.size p l) (hk : Keeps (fun _ => False) wr w1) (hb : ll.length < 1099511627776) :
    ∃ a c w', (Builtin.append_ #[22, 22] 22 #[v, .slice (some ⟨w1.heap.size, 0, none⟩) 1 1]).run Tryz.prog (w1.alloc (.cells #[p] 36)) = .ok (.slice a (ll.length + 1) c) w' ∧ Own w w' (rRows w.heap.size (.slice a (ll.length + 1) c) (ll ++ [l]) :: rs) := by
  have hz := h.keeps.size
  obtain ⟨F, ⟨ps, G, h1, h2, h3, h4⟩, hF, back⟩ := h.open1
  have hp1 : p.oneCell' = true := by obtain ⟨a, c, rfl, _⟩ := hp.bytes.form; rfl
  have h1' := row_keep h1 hk (fun _ _ e => e)
  obtain ⟨v', w', hr, ho, hk2, hat⟩ := row_push h1' (Nat.zero_le _) hp1 hb
  obtain ⟨a, c, e⟩ := ownsRow_slice ho
  subst e
  have hkF : Keeps F wr w' := (hk.mono (fun _ _ e => e.elim)).trans hk2 (fun b _ e => (h4 b e).1)
  have hsz := hk.size
  have hsz2 := hk2.size
  have hp2 : Owns w' wr.heap.size p l := owns_keep hp hk2 (fun b hb e => row_ne h1' hp e hb)
  refine ⟨a, c, w', hr, back w' (rRows _ (.slice a (ll.length + 1) c) (ll ++ [l])) hkF ⟨ps ++ [p], fun b => G b ∨ p.ownBlock = some b, by rw [List.length_append]; exact ho, Rel2.append ?_ ⟨?_, trivial⟩, fun b hb => ?_, fun b hb => ?_⟩⟩
  · refine h2.mono (fun q m hq => (hq.keep (fun b hb => ?_)).wider (fun b hb => .inl hb))
    have hlt : b < wr.heap.size := by
      rcases hb with hb | hb
      · exact (hF b (h3 b hb)).2
      · omega
    refine (hk2.block b (by omega) (fun e => ?_)).trans (hk.block b hlt (fun e => e))
    obtain ⟨_, e2, e3⟩ := h4 b e
    rcases hb with hb | hb
    · exact e3 hb
    · omega
  · exact (ReadsF.of_owns hp2).wider (fun b hb => .inr hb)
  · rcases hb with hb | hb
    · exact .inl (h3 b hb)
    · have := owns_lt hp b hb
      exact .inr ⟨by omega, by omega⟩
  · have hlt := row_lt ho b hb
    rcases hat with hat | hat
    · rw [hat] at hb
      obtain ⟨e1, e2, e3⟩ := h4 b hb
      exact ⟨.inl e1, e2, fun e => by rcases e with e | e; exact e3 e; exact row_ne h1' hp hb e⟩
    · rw [hat] at hb
      cases hb
      refine ⟨.inr ⟨by omega, hlt.1⟩, by omega, fun e => ?_⟩
      rcases e with e | e
      · have := hF _ (h3 _ e); omega
      · have := owns_lt hp _ e; omega
end Go.Proofs.YtaeabdghlkdkjaaGreat
