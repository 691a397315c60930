/- Rows of pairs as things. -/
import Derived.Test.YtaeabdghlkdkjaaTRDo
namespace Go.Proofs.Ytaeabdghlkdkjaa
set_option linter.unusedVariables false
open Go.RowKit Go.MapKept

/-- A row of pairs as a thing. -/
def rPairs (B : Nat) (v : Value) (fs : FS) : Res B := ⟨fun F w => PairsAt F w v fs, fun _ _ _ h hk => h.same (fun b hb => hk b (.inl hb))⟩
theorem Own.nilPairs {w wr : World} {rs : List (Res w.heap.size)} (h : Own w wr rs) : Own w wr (rPairs w.heap.size (.slice none 0 0) [] :: rs) :=
  h.add (Keeps.refl _ _) (r := rPairs w.heap.size (.slice none 0 0) []) (G := fun _ => False) (PairsAt.nil _ _) (fun b hb => hb.elim)
theorem Own.pairs {w wr : World} {rs : List (Res w.heap.size)} {v : Value} {fs : FS} (h : Own w wr rs) (hm : rPairs w.heap.size v fs ∈ rs) : ∃ F : Nat → Prop, PairsAt F wr v fs := by
  obtain ⟨F, hF, _⟩ := h.mem hm
  exact ⟨F, hF⟩
/-- The document's Do on a row that one owns. -/
theorem Own.rdo {w wr : World} {lv : Value} {fs : FS} {rs : List (Res w.heap.size)} (h : Own w wr (rPairs w.heap.size lv fs :: rs)) (hs : FSorted fs) {a : Option Addr} {c : Nat} {l : List TCh} (hc : TChsIn wr a l) (hl : fs.length + l.length < 1099511627775) (hv : ∀ x ∈ l, x.val.length ≤ 140737488355328) :
    Calls Try.prog 14 #[lv, .slice a l.length c] wr (fun e w' => ∃ v', e = .returned v' ∧ Own w w' (rPairs w.heap.size v' (tdos fs l) :: rs)) := by
  obtain ⟨F, hF, hb, hback⟩ := h.open1
  refine (rdo11_calls hF hs hc hl hv).mono ?_
  rintro e w' ⟨v', rfl, hp, hk⟩
  exact ⟨v', rfl, hback w' (rPairs w.heap.size v' (tdos fs l)) hk.any hp⟩
end Go.Proofs.Ytaeabdghlkdkjaa
