/- Rows of files, as the document's disk has them: what a slice of files reads as, and a file more behind it. -/
import Derived.Test.YtlinkpjneehnbaaRefV
import Derived.Test.YtlinkpjneehnbaaOwn
namespace Go.Proofs.Ytlinkpjneehnbaa
set_option linter.unusedVariables false
open Go.RowKit Go.MapKept

def fileCells : List Value → FS → List Value
  | p :: ps, f :: fs => .string f.1 :: p :: fileCells ps fs
  | _, _ => []
theorem fileCells_snoc : ∀ (ps : List Value) (fs : FS) (p : Value) (f : ByteArray × List UInt8), ps.length = fs.length → fileCells (ps ++ [p]) (fs ++ [f]) = fileCells ps fs ++ [.string f.1, p]
  | [], [], _, _, _ => rfl
  | q :: ps, g :: fs, p, f, h => by simp [fileCells, fileCells_snoc ps fs p f (by simpa using h)]
  | [], _ :: _, _, _, h => by simp at h
  | _ :: _, [], _, _, h => by simp at h
theorem fileCells_get : ∀ {ps : List Value} {fs : FS} (i : Nat) {p : Value} {f : ByteArray × List UInt8}, ps[i]? = some p → fs[i]? = some f → (fileCells ps fs)[i * 2]? = some (.string f.1) ∧ (fileCells ps fs)[i * 2 + 1]? = some p
  | q :: ps, g :: fs, 0, p, f, hp, hf => by
    simp at hp hf; subst hp; subst hf
    exact ⟨rfl, rfl⟩
  | q :: ps, g :: fs, i + 1, p, f, hp, hf => by
    have := fileCells_get (ps := ps) (fs := fs) i (by simpa using hp) (by simpa using hf)
    rw [show (i + 1) * 2 = i * 2 + 1 + 1 by omega]
    simpa [fileCells] using this
  | [], _, i, _, _, hp, _ => by simp at hp
  | _ :: _, [], i, _, _, _, hf => by simp at hf

/-- The slice v is a row of these files; row and bytes lie in blocks of F. -/
def FilesAt (F : Nat → Prop) (w : World) (v : Value) (fs : FS) : Prop :=
  ∃ ps : List Value, Rel2 (fun p f => Bytes F w p f.2) ps fs ∧ w.ownsRow 0 86 2 v fs.length (fileCells ps fs) ∧ ∀ b, v.ownBlock = some b → F b
theorem rrow_keep {w w' : World} {base e n size : Nat} {v : Value} {xs : List Value} (h : w.ownsRow base e size v n xs) (hr : ∀ b, v.ownBlock = some b → w'.heap[b]? = w.heap[b]?) : w'.ownsRow base e size v n xs := by
  obtain ⟨h1, h2⟩ := h
  refine ⟨h1, h2.imp id ?_⟩
  rintro ⟨g, cap, cur, rfl, hg, hb, rest⟩
  exact ⟨g, cap, cur, rfl, hg, (hr g rfl).trans hb, rest⟩
theorem FilesAt.nil (F : Nat → Prop) (w : World) : FilesAt F w (.slice none 0 0) [] := ⟨[], trivial, ⟨rfl, .inl ⟨rfl, rfl⟩⟩, fun b hb => by cases hb⟩
theorem FilesAt.keep {F G : Nat → Prop} {w w' : World} {v : Value} {fs : FS} (h : FilesAt F w v fs) (hk : KeepU8 F w w') (hr : ∀ b, v.ownBlock = some b → w'.heap[b]? = w.heap[b]?) (hFG : ∀ b, F b → b < w.heap.size → G b) : FilesAt G w' v fs := by
  obtain ⟨ps, h1, h2, h3⟩ := h
  exact ⟨ps, h1.mono (fun p c hpc => hpc.keep hk hFG), rrow_keep h2 hr, fun b hb => hFG b (h3 b hb) (h2.lt b hb).2⟩
theorem FilesAt.same {F : Nat → Prop} {w w' : World} {v : Value} {fs : FS} (h : FilesAt F w v fs) (hk : ∀ b, F b → w'.heap[b]? = w.heap[b]?) : FilesAt F w' v fs := by
  obtain ⟨ps, h1, h2, h3⟩ := h
  exact FilesAt.keep ⟨ps, h1, h2, h3⟩ (fun g cs fz hF hb => (hk g hF).trans hb) (fun b hb => hk b (h3 b hb)) (fun _ h _ => h)
theorem FilesAt.quiet {F G : Nat → Prop} {w w' : World} {v : Value} {fs : FS} (h : FilesAt F w v fs) (hk : Keeps (fun _ => False) w w') (hFG : ∀ b, F b → b < w.heap.size → G b) : FilesAt G w' v fs := by
  obtain ⟨ps, h1, h2, h3⟩ := h
  exact FilesAt.keep ⟨ps, h1, h2, h3⟩ (KeepU8.of_none hk) (fun b hb => hk.block b (h2.lt b hb).2 (fun e => e)) hFG
theorem FilesAt.form {F : Nat → Prop} {w : World} {v : Value} {fs : FS} (h : FilesAt F w v fs) : ∃ a c, v = .slice a fs.length c ∧ fs.length ≤ c ∧ c ≤ maxLen := by
  obtain ⟨ps, h1, h2, h3⟩ := h
  rcases h2.2 with ⟨rfl, e⟩ | ⟨g, cap, cur, rfl, _, _, h4, h5, _⟩
  · rw [e]; exact ⟨none, 0, rfl, Nat.le_refl _, Nat.zero_le _⟩
  · exact ⟨_, cap, rfl, h4, h5⟩
/-- A file of it. -/
theorem FilesAt.cell {F : Nat → Prop} {w : World} {v : Value} {fs : FS} (h : FilesAt F w v fs) {i : Nat} {f : ByteArray × List UInt8} (hf : fs[i]? = some f) :
    ∃ g cap p, v = .slice (some ⟨g, 0, none⟩) fs.length cap ∧ w.cell? ⟨g, i * 2, none⟩ = some (.string f.1) ∧ w.cell? ⟨g, i * 2 + 1, none⟩ = some p ∧ Bytes F w p f.2 := by
  obtain ⟨ps, h1, h2, h3⟩ := h
  obtain ⟨p, hp, hB⟩ := h1.get' hf
  have hc := fileCells_get i hp hf
  rcases h2.2 with ⟨rfl, e⟩ | ⟨g, cap, cur, rfl, _, hb, _⟩
  · have := (List.getElem?_eq_some_iff.1 hf).1; omega
  · refine ⟨g, cap, p, rfl, ?_, ?_, hB⟩
    · have := h2.cells (g := g) rfl (i * 2) _ hc.1
      simpa [Addr.add_lit] using this
    · have := h2.cells (g := g) rfl (i * 2 + 1) _ hc.2
      simpa [Addr.add_lit] using this

/-- A row of files in the making: new memory from base on, the bytes in blocks of F. -/
def OutAt (base : Nat) (F : Nat → Prop) (w : World) (v : Value) (fs : FS) : Prop :=
  ∃ ps : List Value, Rel2 (fun p f => Bytes F w p f.2) ps fs ∧ w.ownsRow base 86 2 v fs.length (fileCells ps fs)
theorem OutAt.nil (base : Nat) (F : Nat → Prop) (w : World) : OutAt base F w (.slice none 0 0) [] := ⟨[], trivial, ⟨rfl, .inl ⟨rfl, rfl⟩⟩⟩
theorem OutAt.keep {base : Nat} {F : Nat → Prop} {w w' : World} {v : Value} {fs : FS} (h : OutAt base F w v fs) (hk : Keeps (fun _ => False) w w') : OutAt base F w' v fs := by
  obtain ⟨ps, h1, h2⟩ := h
  exact ⟨ps, h1.mono (fun p c hpc => hpc.keep (KeepU8.of_none hk) (fun _ h _ => h)), rrow_keep h2 (fun b hb => hk.block b (h2.lt b hb).2 (fun e => e))⟩
theorem OutAt.form {base : Nat} {F : Nat → Prop} {w : World} {v : Value} {fs : FS} (h : OutAt base F w v fs) : ∃ a c, v = .slice a fs.length c := by
  obtain ⟨ps, h1, h2⟩ := h
  exact ownsRow_slice h2
theorem ownsRow_base0 {w : World} {base e n size : Nat} {v : Value} {xs : List Value} (h : w.ownsRow base e size v n xs) {base' : Nat} (hb : base' ≤ base) : w.ownsRow base' e size v n xs := by
  obtain ⟨h1, h2⟩ := h
  refine ⟨h1, h2.imp id ?_⟩
  rintro ⟨g, cap, cur, rfl, hg, h3⟩
  exact ⟨g, cap, cur, rfl, by omega, h3⟩
theorem OutAt.base {base base' : Nat} {F : Nat → Prop} {w : World} {v : Value} {fs : FS} (h : OutAt base F w v fs) (hb : base' ≤ base) : OutAt base' F w v fs := by
  obtain ⟨ps, h1, h2⟩ := h
  exact ⟨ps, h1, ownsRow_base0 h2 hb⟩
theorem OutAt.files {base : Nat} {F G : Nat → Prop} {w : World} {v : Value} {fs : FS} (h : OutAt base F w v fs) (hF : ∀ b, F b → b < w.heap.size → G b) (hb : ∀ b, base ≤ b → b < w.heap.size → G b) : FilesAt G w v fs := by
  obtain ⟨ps, h1, h2⟩ := h
  exact ⟨ps, h1.mono (fun p c hpc => hpc.keep (KeepU8.refl _ _) hF), ownsRow_base0 h2 (Nat.zero_le _), fun b hb' => hb b (h2.lt b hb').1 (h2.lt b hb').2⟩

theorem info_rfile : (Try.prog.info? 86).map (fun i => (i.zero, i.size, i.bytes)) = some (some (.agg #[.string ⟨#[]⟩, .slice none 0 0]), 2, 40) := by kernel_rfl

/-- 'append(out, f)', f already stored in a row of its own. -/
theorem OutAt.push {base : Nat} {F : Nat → Prop} {w : World} {v p : Value} {fs : FS} {n : ByteArray} {l : List UInt8} (h : OutAt base F w v fs) (hz : base ≤ w.heap.size) (hp : Bytes F w p l) (hF : ∀ b, F b → b < base) (hb : fs.length < 1099511627776) :
    ∃ a c w', (Builtin.append_ #[81, 81] 81 #[v, .slice (some ⟨w.heap.size, 0, none⟩) 1 1]).run Try.prog (w.alloc (.cells #[.string n, p] 86)) = .ok (.slice a (fs.length + 1) c) w' ∧ OutAt base F w' (.slice a (fs.length + 1) c) (fs ++ [(n, l)]) ∧
      Keeps (fun b => v.ownBlock = some b) w w' ∧ ∀ b, v.ownBlock = some b → base ≤ b := by
  obtain ⟨ps, h1, h2⟩ := h
  have hlt := h2.lt
  obtain ⟨i0, hi, hz0, hz1, hz2⟩ := info_parts info_rfile
  have hp1 : p.oneCell' = true := by obtain ⟨a, c, rfl, _⟩ := hp.form; rfl
  obtain ⟨v', w', hrun, ho2, hg, _, hat⟩ := run_append_own_at (P := Try.prog) (w.alloc (.cells #[.string n, p] 86)) base 81 81 86 i0 _ 2 40 Try.underlying81 hi hz0 hz1 hz2 rfl (by omega) v fs.length (fileCells ps fs) (h2.alloc _) ⟨w.heap.size, 0, none⟩ 1 1 [.string n, p] rfl
    (fun j u hu => by
      rw [Addr.add_lit, Nat.zero_add]
      exact cell_at (heap_alloc_new w _) (by simpa using hu))
    (by intro u hu; simp at hu; rcases hu with rfl | rfl; rfl; exact hp1) (by unfold maxLen; omega) (by omega) (by simp only [World.size_alloc]; omega)
  obtain ⟨a, c, rfl⟩ := ownsRow_slice ho2
  have hk : Keeps (fun b => v.ownBlock = some b) w w' := ((Keeps.refl _ w).alloc _).trans (Keeps.of_grown hg) (fun _ _ h => h)
  have hku : KeepU8 F w w' := KeepU8.of_keeps hk (fun g cs fz hg he => by have := hF g hg; have := (hlt g he).1; omega)
  refine ⟨a, c, w', hrun, ⟨ps ++ [p], ?_, ?_⟩, hk, fun b hb => (hlt b hb).1⟩
  · exact (h1.mono (fun q f hq => hq.keep hku (fun _ h _ => h))).append ⟨hp.keep hku (fun _ h _ => h), trivial⟩
  · rw [fileCells_snoc _ _ _ _ h1.length, List.length_append]
    exact ho2

/-- A call that makes a row of files; its bytes are old ones, or new. -/
def FPost (F : Nat → Prop) (w : World) (fs : FS) (e : Ending) (w' : World) : Prop := ∃ v, e = .returned v ∧ FilesAt (Ext F w w') w' v fs ∧ Keeps (fun _ => False) w w'
theorem FPost.mk {F : Nat → Prop} {w w' : World} {v : Value} {fs : FS} (h : OutAt w.heap.size F w' v fs) (hk : Keeps (fun _ => False) w w') : FPost F w fs (.returned v) w' :=
  ⟨v, rfl, h.files (fun b hb _ => .inl hb) (fun b h1 h2 => .inr ⟨h1, h2⟩), hk⟩
end Go.Proofs.Ytlinkpjneehnbaa
