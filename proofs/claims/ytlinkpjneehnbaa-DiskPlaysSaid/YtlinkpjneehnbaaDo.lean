/- The contract of files.do: a change, done to a map of files. -/
import Derived.Test.YtlinkpjneehnbaaDiskA
namespace Go.Proofs.Ytlinkpjneehnbaa
open Go.RowKit Go.MapKept
open Go.ChangeMaps (setBlock)

theorem info_u8 : (Try.prog.info? 5).map (fun i => (i.zero, i.size, i.bytes)) = some (some (.int .u8 0), 1, 1) := by kernel_rfl

theorem Bytes.tight {F : Nat → Prop} {w : World} {a : Option Addr} {n c : Nat} {l : List UInt8} (h : Bytes F w (.slice a n c) l) : Bytes F w (.slice a l.length l.length) l := by
  rcases h with ⟨e, hl0⟩ | ⟨g, off, cap, cs, fz, e, hF, hbk, k1, k2, k3, k4⟩
  · simp only [Value.slice.injEq] at e
    obtain ⟨rfl, _, _⟩ := e
    subst hl0
    exact Bytes.nil _ _
  · simp only [Value.slice.injEq] at e
    obtain ⟨rfl, _, rfl⟩ := e
    exact .inr ⟨g, off, l.length, cs, fz, rfl, hF, hbk, Nat.le_refl _, by omega, by omega, k4⟩

theorem do_append {F : Nat → Prop} {w : World} {b : Nat} {fs : FS} (h : MapFs F w b fs) (x y : ByteArray) {pv : Value} {p : List UInt8} (hp : Bytes F w pv p) (hb : ((fget fs x).getD []).length + p.length ≤ 140737488355328) :
    ∃ w2, Runs 78 #[.map (some b), .agg #[.int .i64 1, .string x, .string y, pv]] w (.tuple #[]) w2 ∧ MapFs (fun i => F i ∨ w.heap.size ≤ i) w2 b (fput fs x ((fget fs x).getD [] ++ p)) ∧ Keeps (fun i => i = b) w w2 := by
  obtain ⟨i0, hi, hz0, hz1, hz2⟩ := info_parts info_u8
  have hblt := h.lt
  have h1 : MapFs F (w.alloc (.cells #[.int .i64 1, .string x, .string y, pv] 129)) b fs := h.keep (Below.heap_alloc _ _ _ hblt) ((KeepU8.refl _ _).alloc _) (fun _ h _ => h)
  have hp1 : Bytes F (w.alloc (.cells #[.int .i64 1, .string x, .string y, pv] 129)).drew pv p := hp.keep ((KeepU8.refl F w).alloc _).drew (fun _ h _ => h)
  obtain ⟨v, hv, _, hlook⟩ := look_now h1 x
  have hl := hlook false
  simp only [Bool.false_eq_true, if_false] at hl
  have hv1 : Bytes F (w.alloc (.cells #[.int .i64 1, .string x, .string y, pv] 129)).drew v ((fget fs x).getD []) := hv.keep (KeepU8.refl _ _).drew (fun _ h _ => h)
  clear hlook
  generalize (fget fs x).getD [] = l at *
  obtain ⟨va, vc, rfl, hlc, hcm⟩ := hv.form
  have hb0 : (0 : Int) ≤ (l.length : Int) := by omega
  have hb1 : (l.length : Int) ≤ (vc : Int) := by omega
  have hw1 := hv1.tight
  obtain ⟨v', w1, hrun, hB, hk, _⟩ := append_full (P := Try.prog) 31 31 31 5 i0 _ Try.underlying31 Try.underlying31 hi hz0 hz1 hz2 rfl hw1 hp1.reads rfl hb
  have hk0 : Keeps (fun _ => False) w w1 := ((Keeps.refl _ w).alloc _).trans hk.undrew (fun _ _ e => e)
  have h2 : MapFs (fun i => F i ∨ w.heap.size ≤ i) w1 b fs := h.keep (hk0.block b hblt (fun e => e)) (KeepU8.of_none hk0) (fun _ h _ => .inl h)
  obtain ⟨es, clock, hupd, h3⟩ := h2.update (P := Try.prog) Try.underlying122 Try.underlying9 x (hB.keep (KeepU8.refl _ _) (fun i h _ => h.imp id (fun e => by simp at e; omega)))
  have ka : w1.cell? ⟨w.heap.size, 1, none⟩ = some (.string x) ∧ w1.cell? ⟨w.heap.size, 3, none⟩ = some pv := by
    have := hk.at (b := w.heap.size) (o := .cells #[.int .i64 1, .string x, .string y, pv] 129) (heap_alloc_new _ _) (fun e => e)
    exact ⟨cell_at this rfl, cell_at this rfl⟩
  have kb : (setBlock w1 b (.map es clock)).cell? ⟨w.heap.size, 1, none⟩ = some (.string x) ∧ (setBlock w1 b (.map es clock)).cell? ⟨w.heap.size, 3, none⟩ = some pv := by
    have hne : w.heap.size ≠ b := by omega
    exact ⟨(World.cell?_of_block (w := w1) (heap_setBlock_ne _ _ _ hne)).trans ka.1, (World.cell?_of_block (w := w1) (heap_setBlock_ne _ _ _ hne)).trans ka.2⟩
  have Hrun := Lib.hid hrun
  have H3 := Lib.hid h3
  clear hrun hv hv1 hw1 hB h1 h2 hp1 hp h3
  refine ⟨_, ?_, H3.out, (hk0.mono (fun _ _ e => e.elim)).setBlock (F := fun i => i = b) (fun _ => rfl) _⟩
  unfold Runs
  go_enter Try.func78, Try.ntmps78
  go_wp2
  go_region_held3 (fun w' => w'.cell? ⟨w.heap.size, 1, none⟩ = some (.string x) ∧ w'.cell? ⟨w.heap.size, 3, none⟩ = some pv) (first | exact ka | exact kb | go_keep) (first | (refine step_append_run rfl _ _ _ _ rfl rfl rfl Hrun.out ?_))
  go_wp2
  go_end0
  exact ⟨rfl, rfl⟩

theorem do_create {F : Nat → Prop} {w : World} {b : Nat} {fs : FS} (h : MapFs F w b fs) (x y : ByteArray) (pv : Value) :
    ∃ w2, Runs 78 #[.map (some b), .agg #[.int .i64 0, .string x, .string y, pv]] w (.tuple #[]) w2 ∧ MapFs (fun i => F i ∨ w.heap.size ≤ i) w2 b (fput fs x []) ∧ Keeps (fun i => i = b) w w2 := by
  have hblt := h.lt
  have h1 : MapFs (fun i => F i ∨ w.heap.size ≤ i) (w.alloc (.cells #[.int .i64 0, .string x, .string y, pv] 129)) b fs := h.keep (Below.heap_alloc _ _ _ hblt) ((KeepU8.refl _ _).alloc _) (fun _ h _ => .inl h)
  obtain ⟨es, clock, hupd, h3⟩ := h1.update (P := Try.prog) Try.underlying122 Try.underlying9 x (Bytes.nil _ _)
  have H3 := Lib.hid h3
  clear h1 h3
  refine ⟨_, ?_, H3.out, ((Keeps.refl (fun i => i = b) w).alloc _).setBlock (fun _ => rfl) _⟩
  unfold Runs
  go_enter Try.func78, Try.ntmps78
  go_wp2
  go_end0
  exact ⟨rfl, rfl⟩

theorem do_remove {F : Nat → Prop} {w : World} {b : Nat} {fs : FS} (h : MapFs F w b fs) (x y : ByteArray) (pv : Value) :
    ∃ w2, Runs 78 #[.map (some b), .agg #[.int .i64 2, .string x, .string y, pv]] w (.tuple #[]) w2 ∧ MapFs (fun i => F i ∨ w.heap.size ≤ i) w2 b (fdel fs x) ∧ Keeps (fun i => i = b) w w2 := by
  have hblt := h.lt
  have h1 : MapFs (fun i => F i ∨ w.heap.size ≤ i) (w.alloc (.cells #[.int .i64 2, .string x, .string y, pv] 129)) b fs := h.keep (Below.heap_alloc _ _ _ hblt) ((KeepU8.refl _ _).alloc _) (fun _ h _ => .inl h)
  obtain ⟨es, clock, hdel, h3⟩ := h1.delete (P := Try.prog) Try.underlying122 Try.underlying9 x 9 0
  have H3 := Lib.hid h3
  clear h1 h3
  refine ⟨_, ?_, H3.out, ((Keeps.refl (fun i => i = b) w).alloc _).setBlock (fun _ => rfl) _⟩
  unfold Runs
  go_enter Try.func78, Try.ntmps78
  go_wp2
  go_end0
  exact ⟨rfl, rfl⟩

theorem do_rename {F : Nat → Prop} {w : World} {b : Nat} {fs : FS} (h : MapFs F w b fs) (x y : ByteArray) (pv : Value) (hxy : x ≠ y) :
    ∃ w2, Runs 78 #[.map (some b), .agg #[.int .i64 3, .string x, .string y, pv]] w (.tuple #[]) w2 ∧ MapFs (fun i => F i ∨ w.heap.size ≤ i) w2 b (fdel (fput fs y ((fget fs x).getD [])) x) ∧ Keeps (fun i => i = b) w w2 := by
  have hblt := h.lt
  have h1 : MapFs (fun i => F i ∨ w.heap.size ≤ i) (w.alloc (.cells #[.int .i64 3, .string x, .string y, pv] 129)) b fs := h.keep (Below.heap_alloc _ _ _ hblt) ((KeepU8.refl _ _).alloc _) (fun _ h _ => .inl h)
  obtain ⟨v, hv, _, hlook⟩ := look_now h1 x
  have hl := hlook false
  simp only [Bool.false_eq_true, if_false] at hl
  obtain ⟨es, clock, hupd, h3⟩ := h1.update (P := Try.prog) Try.underlying122 Try.underlying9 y hv
  obtain ⟨es2, clock2, hdel, h4⟩ := h3.delete (P := Try.prog) Try.underlying122 Try.underlying9 x 9 0
  have c1 : (setBlock (w.alloc (.cells #[.int .i64 3, .string x, .string y, pv] 129)) b (.map es clock)).cell? ⟨w.heap.size, 1, none⟩ = some (.string x) :=
    (World.cell?_of_block (w := w.alloc (.cells #[.int .i64 3, .string x, .string y, pv] 129)) (heap_setBlock_ne _ _ _ (by simp; omega))).trans (cell_at (heap_alloc_new _ _) rfl)
  have c2 : (setBlock (w.alloc (.cells #[.int .i64 3, .string x, .string y, pv] 129)) b (.map es clock)).cell? ⟨w.heap.size, 2, none⟩ = some (.string y) :=
    (World.cell?_of_block (w := w.alloc (.cells #[.int .i64 3, .string x, .string y, pv] 129)) (heap_setBlock_ne _ _ _ (by simp; omega))).trans (cell_at (heap_alloc_new _ _) rfl)
  have H4 := Lib.hid h4
  have hne : (x.toList == y.toList) = false := by rw [← beq_toListBytes]; exact Bool.eq_false_iff.2 (fun e => hxy ((bytes_beq x y).1 e))
  have HD := Lib.hid hdel
  clear h1 h3 h4 hlook hv hxy hdel
  refine ⟨_, ?_, H4.out, (((Keeps.refl (fun i => i = b) w).alloc _).setBlock (fun _ => rfl) _).setBlock (fun _ => rfl) _⟩
  unfold Runs
  go_enter Try.func78, Try.ntmps78
  go_wp2_with (at_delete; refine wpList_delete_run rfl _ _ _ _ rfl rfl rfl HD.out ?_)
  go_end0
  exact ⟨rfl, rfl⟩

theorem do_same {F : Nat → Prop} {w : World} {b : Nat} {fs : FS} (h : MapFs F w b fs) (x : ByteArray) (pv : Value) :
    ∃ w2, Runs 78 #[.map (some b), .agg #[.int .i64 3, .string x, .string x, pv]] w (.tuple #[]) w2 ∧ MapFs (fun i => F i ∨ w.heap.size ≤ i) w2 b (fput fs x ((fget fs x).getD [])) ∧ Keeps (fun i => i = b) w w2 := by
  have hblt := h.lt
  have h1 : MapFs (fun i => F i ∨ w.heap.size ≤ i) (w.alloc (.cells #[.int .i64 3, .string x, .string x, pv] 129)) b fs := h.keep (Below.heap_alloc _ _ _ hblt) ((KeepU8.refl _ _).alloc _) (fun _ h _ => .inl h)
  obtain ⟨v, hv, _, hlook⟩ := look_now h1 x
  have hl := hlook false
  simp only [Bool.false_eq_true, if_false] at hl
  obtain ⟨es, clock, hupd, h3⟩ := h1.update (P := Try.prog) Try.underlying122 Try.underlying9 x hv
  have c1 : (setBlock (w.alloc (.cells #[.int .i64 3, .string x, .string x, pv] 129)) b (.map es clock)).cell? ⟨w.heap.size, 1, none⟩ = some (.string x) :=
    (World.cell?_of_block (w := w.alloc (.cells #[.int .i64 3, .string x, .string x, pv] 129)) (heap_setBlock_ne _ _ _ (by simp; omega))).trans (cell_at (heap_alloc_new _ _) rfl)
  have c2 : (setBlock (w.alloc (.cells #[.int .i64 3, .string x, .string x, pv] 129)) b (.map es clock)).cell? ⟨w.heap.size, 2, none⟩ = some (.string x) :=
    (World.cell?_of_block (w := w.alloc (.cells #[.int .i64 3, .string x, .string x, pv] 129)) (heap_setBlock_ne _ _ _ (by simp; omega))).trans (cell_at (heap_alloc_new _ _) rfl)
  have H3 := Lib.hid h3
  clear h1 h3 hlook hv
  refine ⟨_, ?_, H3.out, ((Keeps.refl (fun i => i = b) w).alloc _).setBlock (fun _ => rfl) _⟩
  unfold Runs
  go_enter Try.func78, Try.ntmps78
  go_wp2
  go_end0
  exact ⟨rfl, rfl⟩

/-- The change may be done: bytes that aren't too many. -/
def Fits (fs : FS) (c : Ch) : Prop := (0 ≤ c.kind ∧ c.kind ≤ 3) ∧ (c.kind = 1 → ((fget fs c.a).getD []).length + c.p.length ≤ 140737488355328)

theorem do_calls {F : Nat → Prop} {w : World} {b : Nat} {fs : FS} (h : MapFs F w b fs) (c : Ch) {pv : Value} (hp : Bytes F w pv c.p) (hf : Fits fs c) :
    ∃ w2, Runs 78 #[.map (some b), .agg #[.int .i64 c.kind, .string c.a, .string c.b, pv]] w (.tuple #[]) w2 ∧ MapFs (fun i => F i ∨ w.heap.size ≤ i) w2 b (doCh fs c) ∧ Keeps (fun i => i = b) w w2 := by
  obtain ⟨⟨k0, k3⟩, hs⟩ := hf
  obtain ⟨k, x, y, p⟩ := c
  simp only at *
  have : k = 0 ∨ k = 1 ∨ k = 2 ∨ k = 3 := by omega
  rcases this with rfl | rfl | rfl | rfl
  · exact do_create h x y pv
  · exact do_append h x y hp (hs rfl)
  · exact do_remove h x y pv
  · by_cases e : x = y
    · subst e
      simpa [doCh] using do_same h x pv
    · simpa [doCh, e] using do_rename h x y pv e
end Go.Proofs.Ytlinkpjneehnbaa
