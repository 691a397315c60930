/- Rows of pairs in memory; the document's Find. -/
import Derived.Test.YtaeabdghlkdkjaaPkF
import Derived.Test.YtaeabdghlkdkjaaTGet
namespace Go.Proofs.Ytaeabdghlkdkjaa
set_option linter.unusedVariables false
open Go.RowKit Go.MapKept

/-- The slice v is a row of these pairs; row and bytes lie in blocks of F. -/
def PairsAt (F : Nat → Prop) (w : World) (v : Value) (fs : FS) : Prop :=
  ∃ ps : List Value, Rel2 (fun p f => Bytes F w p f.2) ps fs ∧ w.ownsRow 0 46 2 v fs.length (fileCells ps fs) ∧ ∀ b, v.ownBlock = some b → F b
theorem PairsAt.nil (F : Nat → Prop) (w : World) : PairsAt F w (.slice none 0 0) [] := ⟨[], trivial, ⟨rfl, .inl ⟨rfl, rfl⟩⟩, fun b hb => by cases hb⟩
theorem PairsAt.keep {F G : Nat → Prop} {w w' : World} {v : Value} {fs : FS} (h : PairsAt F w v fs) (hk : KeepU8 F w w') (hr : ∀ b, v.ownBlock = some b → w'.heap[b]? = w.heap[b]?) (hFG : ∀ b, F b → b < w.heap.size → G b) : PairsAt G w' v fs := by
  obtain ⟨ps, h1, h2, h3⟩ := h
  exact ⟨ps, h1.mono (fun p c hpc => hpc.keep hk hFG), rrow_keep h2 hr, fun b hb => hFG b (h3 b hb) (h2.lt b hb).2⟩
theorem PairsAt.same {F : Nat → Prop} {w w' : World} {v : Value} {fs : FS} (h : PairsAt F w v fs) (hk : ∀ b, F b → w'.heap[b]? = w.heap[b]?) : PairsAt F w' v fs := by
  obtain ⟨ps, h1, h2, h3⟩ := h
  exact PairsAt.keep ⟨ps, h1, h2, h3⟩ (fun g cs fz hF hb => (hk g hF).trans hb) (fun b hb => hk b (h3 b hb)) (fun _ h _ => h)
theorem PairsAt.quiet {F G : Nat → Prop} {w w' : World} {v : Value} {fs : FS} (h : PairsAt F w v fs) (hk : Keeps (fun _ => False) w w') (hFG : ∀ b, F b → b < w.heap.size → G b) : PairsAt G w' v fs := by
  obtain ⟨ps, h1, h2, h3⟩ := h
  exact PairsAt.keep ⟨ps, h1, h2, h3⟩ (KeepU8.of_none hk) (fun b hb => hk.block b (h2.lt b hb).2 (fun e => e)) hFG
theorem PairsAt.form {F : Nat → Prop} {w : World} {v : Value} {fs : FS} (h : PairsAt F w v fs) : ∃ a c, v = .slice a fs.length c ∧ fs.length ≤ c ∧ c ≤ maxLen := by
  obtain ⟨ps, h1, h2, h3⟩ := h
  rcases h2.2 with ⟨rfl, e⟩ | ⟨g, cap, cur, rfl, _, _, h4, h5, _⟩
  · rw [e]; exact ⟨none, 0, rfl, Nat.le_refl _, Nat.zero_le _⟩
  · exact ⟨_, cap, rfl, h4, h5⟩
/-- A pair of it. -/
theorem PairsAt.cell {F : Nat → Prop} {w : World} {v : Value} {fs : FS} (h : PairsAt F w v fs) {i : Nat} {f : ByteArray × List UInt8} (hf : fs[i]? = some f) :
    ∃ g cap p, v = .slice (some ⟨g, 0, none⟩) fs.length cap ∧ w.cell? ⟨g, i * 2, none⟩ = some (.string f.1) ∧ w.cell? ⟨g, i * 2 + 1, none⟩ = some p ∧ Bytes F w p f.2 := by
  obtain ⟨ps, h1, h2, h3⟩ := h
  obtain ⟨p, hp, hB⟩ := h1.get' hf
  have hc := fileCells_get i hp hf
  rcases h2.2 with ⟨rfl, e⟩ | ⟨g, cap, cur, rfl, _, hb, _⟩
  · have := (List.getElem?_eq_some_iff.1 hf).1; omega
  · refine ⟨g, cap, p, rfl, ?_, ?_, hB⟩
    · have := h2.cells (g := g) rfl (i * 2) _ hc.1
      simpa [Addr.add_lit] using this
    · have := h2.cells (g := g) rfl (i * 2 + 1) _ hc.2
      simpa [Addr.add_lit] using this

/-- A row of pairs in the making: new memory from base on, the bytes in blocks of F. -/
def POutAt (base : Nat) (F : Nat → Prop) (w : World) (v : Value) (fs : FS) : Prop :=
  ∃ ps : List Value, Rel2 (fun p f => Bytes F w p f.2) ps fs ∧ w.ownsRow base 46 2 v fs.length (fileCells ps fs)
theorem POutAt.nil (base : Nat) (F : Nat → Prop) (w : World) : POutAt base F w (.slice none 0 0) [] := ⟨[], trivial, ⟨rfl, .inl ⟨rfl, rfl⟩⟩⟩
theorem POutAt.keep {base : Nat} {F : Nat → Prop} {w w' : World} {v : Value} {fs : FS} (h : POutAt base F w v fs) (hk : Keeps (fun _ => False) w w') : POutAt base F w' v fs := by
  obtain ⟨ps, h1, h2⟩ := h
  exact ⟨ps, h1.mono (fun p c hpc => hpc.keep (KeepU8.of_none hk) (fun _ h _ => h)), rrow_keep h2 (fun b hb => hk.block b (h2.lt b hb).2 (fun e => e))⟩
theorem POutAt.form {base : Nat} {F : Nat → Prop} {w : World} {v : Value} {fs : FS} (h : POutAt base F w v fs) : ∃ a c, v = .slice a fs.length c := by
  obtain ⟨ps, h1, h2⟩ := h
  exact ownsRow_slice h2
theorem POutAt.base {base base' : Nat} {F : Nat → Prop} {w : World} {v : Value} {fs : FS} (h : POutAt base F w v fs) (hb : base' ≤ base) : POutAt base' F w v fs := by
  obtain ⟨ps, h1, h2⟩ := h
  exact ⟨ps, h1, ownsRow_base0 h2 hb⟩
theorem POutAt.files {base : Nat} {F G : Nat → Prop} {w : World} {v : Value} {fs : FS} (h : POutAt base F w v fs) (hF : ∀ b, F b → b < w.heap.size → G b) (hb : ∀ b, base ≤ b → b < w.heap.size → G b) : PairsAt G w v fs := by
  obtain ⟨ps, h1, h2⟩ := h
  exact ⟨ps, h1.mono (fun p c hpc => hpc.keep (KeepU8.refl _ _) hF), ownsRow_base0 h2 (Nat.zero_le _), fun b hb' => hb b (h2.lt b hb').1 (h2.lt b hb').2⟩

theorem info_pair : (Try.prog.info? 46).map (fun i => (i.zero, i.size, i.bytes)) = some (some (.agg #[.string ⟨#[]⟩, .slice none 0 0]), 2, 40) := by kernel_rfl

/-- 'append(out, f)', f already stored in a row of its own. -/
theorem POutAt.push {base : Nat} {F : Nat → Prop} {w : World} {v p : Value} {fs : FS} {n : ByteArray} {l : List UInt8} (h : POutAt base F w v fs) (hz : base ≤ w.heap.size) (hp : Bytes F w p l) (hF : ∀ b, F b → b < base) (hb : fs.length < 1099511627776) :
    ∃ a c w', (Builtin.append_ #[33, 33] 33 #[v, .slice (some ⟨w.heap.size, 0, none⟩) 1 1]).run Try.prog (w.alloc (.cells #[.string n, p] 46)) = .ok (.slice a (fs.length + 1) c) w' ∧ POutAt base F w' (.slice a (fs.length + 1) c) (fs ++ [(n, l)]) ∧
      Keeps (fun b => v.ownBlock = some b) w w' ∧ ∀ b, v.ownBlock = some b → base ≤ b := by
  obtain ⟨ps, h1, h2⟩ := h
  have hlt := h2.lt
  obtain ⟨i0, hi, hz0, hz1, hz2⟩ := info_parts info_pair
  have hp1 : p.oneCell' = true := by obtain ⟨a, c, rfl, _⟩ := hp.form; rfl
  obtain ⟨v', w', hrun, ho2, hg, _, hat⟩ := run_append_own_at (P := Try.prog) (w.alloc (.cells #[.string n, p] 46)) base 33 33 46 i0 _ 2 40 Try.underlying33 hi hz0 hz1 hz2 rfl (by omega) v fs.length (fileCells ps fs) (h2.alloc _) ⟨w.heap.size, 0, none⟩ 1 1 [.string n, p] rfl
    (fun j u hu => by
      rw [Addr.add_lit, Nat.zero_add]
      exact cell_at (heap_alloc_new w _) (by simpa using hu))
    (by intro u hu; simp at hu; rcases hu with rfl | rfl; rfl; exact hp1) (by unfold maxLen; omega) (by omega) (by simp only [World.size_alloc]; omega)
  obtain ⟨a, c, rfl⟩ := ownsRow_slice ho2
  have hk : Keeps (fun b => v.ownBlock = some b) w w' := ((Keeps.refl _ w).alloc _).trans (Keeps.of_grown hg) (fun _ _ h => h)
  have hku : KeepU8 F w w' := KeepU8.of_keeps hk (fun g cs fz hg he => by have := hF g hg; have := (hlt g he).1; omega)
  refine ⟨a, c, w', hrun, ⟨ps ++ [p], ?_, ?_⟩, hk, fun b hb => (hlt b hb).1⟩
  · exact (h1.mono (fun q f hq => hq.keep hku (fun _ h _ => h))).append ⟨hp.keep hku (fun _ h _ => h), trivial⟩
  · rw [fileCells_snoc _ _ _ _ h1.length, List.length_append]
    exact ho2

/-- A call that makes a row of pairs; its bytes are old ones, or new. -/
def PPost (F : Nat → Prop) (w : World) (fs : FS) (e : Ending) (w' : World) : Prop := ∃ v, e = .returned v ∧ PairsAt (Ext F w w') w' v fs ∧ Keeps (fun _ => False) w w'
theorem PPost.mk {F : Nat → Prop} {w w' : World} {v : Value} {fs : FS} (h : POutAt w.heap.size F w' v fs) (hk : Keeps (fun _ => False) w w') : PPost F w fs (.returned v) w' :=
  ⟨v, rfl, h.files (fun b hb _ => .inl hb) (fun b h1 h2 => .inr ⟨h1, h2⟩), hk⟩
theorem keyAt_step {fs : FS} {k : Nat} {f : ByteArray × List UInt8} (hf : fs[k]? = some f) (n : ByteArray) : keyAt (fs.drop k) n = if blt f.1 n = true then keyAt (fs.drop (k + 1)) n + 1 else 0 := by
  obtain ⟨hk, rfl⟩ := List.getElem?_eq_some_iff.1 hf
  rw [List.drop_eq_getElem_cons hk, keyAt]

set_option maxRecDepth 100000 in
theorem rfind11_runs {F : Nat → Prop} {w : World} {v : Value} {fs : FS} (h : PairsAt F w v fs) (n : ByteArray) (hb : fs.length < 1099511627776) : Runs 18 #[v, .string n] w (.int .i64 (keyAt fs n : Int)) w := by
  unfold Runs
  obtain ⟨a, c, rfl, hlc, hcm⟩ := h.form
  have H := Lib.hid h
  have i1 : (fs.length : Int) ≤ 1099511627776 := by omega
  clear h
  go_enter Try.func18, Try.ntmps18
  go_wp2_with fail
  go_loopw [5] (fun i wx => ∃ k : Nat, k ≤ fs.length ∧ i = .int .i64 (k : Int) ∧ wx = w ∧ keyAt fs n = k + keyAt (fs.drop k) n) (fun i _ => fs.length - (intOf i).toNat)
  case atStart => exact ⟨0, Nat.zero_le _, rfl, rfl, by simp⟩
  case round =>
    obtain ⟨k, hk, rfl, rfl, hno⟩ := hrel
    have j0 : (0 : Int) ≤ k := by omega
    by_cases hlt : k < fs.length
    · obtain ⟨f, hf⟩ : ∃ f, fs[k]? = some f := ⟨fs[k], List.getElem?_eq_getElem hlt⟩
      obtain ⟨g, cap, p, e, hc1, hc2, _⟩ := H.out.cell hf
      simp only [Value.slice.injEq] at e
      obtain ⟨rfl, -, rfl⟩ := e
      have j1 : (k : Int) < fs.length := by omega
      rw [keyAt_step hf] at hno
      cases hbl : blt f.1 n with
      | true =>
        rw [hbl, if_pos rfl] at hno
        unfold blt at hbl
        have HN := Lib.hid (show keyAt fs n = (k + 1) + keyAt (fs.drop (k + 1)) n by omega)
        clear hno hf hk hlt
        go_wp2_with fail
        go_roundw
        case rel => exact ⟨k + 1, by omega, rfl, by first | rfl | trivial, HN.out⟩
        case measure => simp [intOf]; omega
      | false =>
        rw [hbl, if_neg (by simp)] at hno
        unfold blt at hbl
        have HN := Lib.hid (show (keyAt fs n : Int) = k by omega)
        clear hno hf hk hlt
        go_wp2_with fail
        go_ret
        exact ⟨by rw [HN.out]; rfl, rfl⟩
    · obtain rfl : k = fs.length := by omega
      have HN := Lib.hid (show (keyAt fs n : Int) = fs.length by rw [List.drop_length] at hno; rw [hno]; simp [keyAt])
      clear hno hk hlt
      go_wp2_with fail
      go_ret
      exact ⟨by rw [HN.out]; rfl, rfl⟩
end Go.Proofs.Ytaeabdghlkdkjaa
