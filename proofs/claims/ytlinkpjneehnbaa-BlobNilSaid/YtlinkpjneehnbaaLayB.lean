/- The walk of the journal's lay. -/
import Derived.Test.YtlinkpjneehnbaaLay
import Derived.Test.YtlinkpjneehnbaaFrame
namespace Go.Proofs.Ytlinkpjneehnbaa
set_option linter.unusedVariables false
open Go.RowKit Go.MapKept

/-! ### Steps on a disk -/
def runSteps : List (DM → Int × DM) → DM → Int × DM
  | [], m => (0, m)
  | f :: fs, m => if (f m).1 = 0 then runSteps fs (f m).2 else f m
theorem runSteps_good {K : Nat} : ∀ (fs : List (DM → Int × DM)) {m : DM} {n : Nat}, (∀ f ∈ fs, ∀ m j, Good m j → Good (f m).2 (j + K)) → Good m n → Good (runSteps fs m).2 (n + fs.length * K)
  | [], m, n, _, h => by simpa [runSteps] using h
  | f :: fs, m, n, hf, h => by
    have h1 := hf f (List.mem_cons_self ..) m n h
    rw [runSteps, List.length_cons]
    split
    · have := runSteps_good fs (fun g hg => hf g (List.mem_cons_of_mem _ hg)) h1
      rw [show n + (fs.length + 1) * K = n + K + fs.length * K by rw [Nat.add_mul]; omega]
      exact this
    · exact h1.mono (by rw [Nat.add_mul]; omega)
theorem runSteps_drop {fs : List (DM → Int × DM)} {k : Nat} {f : DM → Int × DM} (h : fs[k]? = some f) (m : DM) : runSteps (fs.drop k) m = if (f m).1 = 0 then runSteps (fs.drop (k + 1)) (f m).2 else f m := by
  obtain ⟨hk, rfl⟩ := List.getElem?_eq_some_iff.1 h
  rw [List.drop_eq_getElem_cons hk]
  rfl

section
variable {w wr : World} {d : Nat} {m : DM} {rs : List (Res w.heap.size)}
theorem steps_disk (h : Own w wr (rDisk w.heap.size d m :: rs)) {n : Nat} (hg : Good m n) (fs : List (DM → Int × DM)) (hfs : fs.length ≤ 1000) (fid : Nat → FuncId) (fst cap : Nat → Array Value) (g c : Nat) (K : Nat) {row : Array Value} {T : TypeId}
    (hrow : rObj w.heap.size g (.cells row T) ∈ rs) (hcells : ∀ k, k < fs.length → row[k]? = some (.func (.func (fid k)) (fst k) (cap k)))
    (hent : ∀ k args w', (callFunc (fid k) args).run Try.prog w' = .ok (.enter (fid k) args) w')
    (hgood : ∀ f ∈ fs, ∀ m j, Good m j → Good (f m).2 (j + K))
    (hstep : ∀ k f w' m' j, fs[k]? = some f → Own w w' (rDisk w.heap.size d m' :: rs) → Good m' j → j ≤ n + fs.length * K → Calls Try.prog (fid k) (fst k ++ cap k) w' (DOwn w d rs (f m'))) :
    Calls Try.prog 86 #[.slice (some ⟨g, 0, none⟩) fs.length c] wr (DOwn w d rs (runSteps fs m)) := by
  refine (steps_calls g fs.length c fid fst cap (fun k w' => ∃ m' j, Own w w' (rDisk w.heap.size d m' :: rs) ∧ Good m' j ∧ j ≤ n + k * K ∧ runSteps (fs.drop k) m' = runSteps fs m)
    (fun r w' => r = (runSteps fs m).1 ∧ Own w w' (rDisk w.heap.size d (runSteps fs m).2 :: rs)) hfs ⟨m, n, h, hg, by omega, by simp⟩ hent ?_ ?_ ?_).mono ?_
  · rintro k w' hk ⟨m', j, ho, _⟩
    exact cell_at (ho.at (List.mem_cons_of_mem _ hrow)).1 (hcells k hk)
  · rintro k w' hk ⟨m', j, ho, hgj, hj, hr⟩
    obtain ⟨f, hf⟩ : ∃ f, fs[k]? = some f := ⟨fs[k], List.getElem?_eq_getElem hk⟩
    have hkK : k * K ≤ fs.length * K := Nat.mul_le_mul_right K (by omega)
    have hd := runSteps_drop hf m'
    rw [hr] at hd
    refine (hstep k f w' m' j hf ho hgj (by omega)).mono ?_
    rintro e w'' ⟨rfl, ho2⟩
    refine ⟨_, rfl, fun h0 => ⟨_, j + K, ho2, hgood f (List.mem_of_getElem? hf) m' j hgj, by rw [Nat.add_mul]; omega, ?_⟩, fun h0 => ?_⟩
    · rw [if_pos h0] at hd; exact hd.symm
    · rw [if_neg h0] at hd; rw [hd]; exact ⟨rfl, ho2⟩
  · rintro w' ⟨m', j, ho, _, _, hr⟩
    rw [List.drop_length] at hr
    rw [← hr]
    exact ⟨rfl, ho⟩
  · rintro e w' ⟨r, rfl, rfl, ho⟩
    exact ⟨rfl, ho⟩
end

/-! ### Two accounts joined -/
theorem rel_conv {B B' : Nat} {w : World} (hB : B' ≤ B) : ∀ {Fs : List (Nat → Prop)} {rs : List (Res B)} {rs' : List (Res B')}, Rel2 (ResAt B w) Fs rs → Rel2 (fun (r : Res B) (r' : Res B') => ∀ F, r.is F w → r'.is F w) rs rs' → Rel2 (ResAt B' w) Fs rs'
  | [], [], [], _, _ => trivial
  | F :: Fs, r :: rs, r' :: rs', h, k => ⟨⟨k.1 F h.1.1, fun b hb => ⟨Nat.le_trans hB (h.1.2 b hb).1, (h.1.2 b hb).2⟩⟩, rel_conv hB h.2 k.2⟩
  | [], _ :: _, _, h, _ => h.elim
  | _ :: _, [], _, h, _ => h.elim
  | [], [], _ :: _, _, k => k.elim
  | _ :: _, _ :: _, [], _, k => k.elim
/-- What was made since wr is laid beside what there was. -/
theorem Own.join {w wr wx : World} {rs : List (Res w.heap.size)} (h : Own w wr rs) {ns : List (Res wr.heap.size)} (k : Own wr wx ns) (ns' : List (Res w.heap.size)) (hc : Rel2 (fun (r : Res wr.heap.size) (r' : Res w.heap.size) => ∀ F, r.is F wx → r'.is F wx) ns ns') : Own w wx (ns' ++ rs) := by
  obtain ⟨k1, Gs, g1, g2⟩ := k
  obtain ⟨h1, Fs, f1, f2⟩ := h.quiet k1
  obtain ⟨k0, Fs0, e1, e2⟩ := h
  refine ⟨h1, Gs ++ Fs0, Rel2.append (rel_conv k0.size g1 hc) (rel_keeps k0.size k1 (fun _ e => e.elim) e1 (fun _ _ _ _ e => e)), ?_⟩
  rw [List.pairwise_append]
  refine ⟨g2, e2, fun F hF G hG b hb hb' => ?_⟩
  have a1 := rel_bound g1 F hF b hb
  have a2 := rel_bound e1 G hG b hb'
  omega

/-! ### lay -/
def tmpOf (nm : ByteArray) : ByteArray := nm ++ ⟨#[43]⟩
def laySteps (nm : ByteArray) (b : List UInt8) : List (DM → Int × DM) :=
  [fun m => clearOf m (tmpOf nm), fun m => createOf m (tmpOf nm), fun m => writeOf m (tmpOf nm) b, syncOf, fun m => renameOf m (tmpOf nm) nm, syncOf]
/-- Behind a step that found no room the half of a file is taken away. -/
def unfull (t : ByteArray) (r : Int × DM) : Int × DM := if r.1 = 4 then (if (clearOf r.2 t).1 = 0 then (4, (clearOf r.2 t).2) else clearOf r.2 t) else r
def layOf (m : DM) (nm : ByteArray) (b : List UInt8) : Int × DM := unfull (tmpOf nm) (runSteps (laySteps nm b) m)
theorem laySteps_good (nm : ByteArray) (b : List UInt8) : ∀ f ∈ laySteps nm b, ∀ m j, Good m j → Good (f m).2 (j + (b.length + 1)) := by
  intro f hf m j h
  simp only [laySteps, List.mem_cons, List.not_mem_nil, or_false] at hf
  rcases hf with rfl | rfl | rfl | rfl | rfl | rfl
  · exact (clear_good h _).mono (by omega)
  · exact (h.create _).mono (by omega)
  · exact (write_good _ h).mono (by omega)
  · exact h.sync.mono (by omega)
  · exact (h.rename _ _).mono (by omega)
  · exact h.sync.mono (by omega)
theorem unfull_good {r : Int × DM} {n : Nat} (h : Good r.2 n) (t : ByteArray) : Good (unfull t r).2 (n + 1) := by
  unfold unfull
  split
  · split
    · exact clear_good h t
    · exact clear_good h t
  · exact h.mono (by omega)
theorem lay_good {m : DM} {n : Nat} (h : Good m n) (nm : ByteArray) (b : List UInt8) : Good (layOf m nm b).2 (n + 6 * (b.length + 1) + 1) := unfull_good (runSteps_good _ (laySteps_good nm b) h) _

theorem fresh_runs (nm : ByteArray) (w : World) (hn : nm.size ≤ 65536) : Runs 85 #[.string nm] w (.string (tmpOf nm)) w := by
  have hadd : (Op.stringOp .add nm ⟨#[43]⟩).run Try.prog w = .ok (.string (nm ++ ⟨#[43]⟩)) w := run_string_add_sum w nm ⟨#[43]⟩ (by change nm.size + 1 ≤ _; omega)
  clear hn
  unfold Runs
  go_enter Try.func85, Try.ntmps85
  go_wp2
  go_ret
  exact ⟨rfl, rfl⟩
end Go.Proofs.Ytlinkpjneehnbaa
