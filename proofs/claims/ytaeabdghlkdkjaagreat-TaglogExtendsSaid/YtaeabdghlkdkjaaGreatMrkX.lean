/- merkle's grow, and Extends. -/
import Derived.Test.YtaeabdghlkdkjaaGreatMrkG2
namespace Go.Proofs.YtaeabdghlkdkjaaGreat
set_option linter.unusedVariables false
open Go.RowKit Go.MapKept

theorem grow_len : ∀ (f : Nat) {old : Dg} {m n : Nat} {whole : Bool} {way : List Dg} {a b : Dg} {rest : List Dg}, growOf f old m n whole way = some (a, b, rest) → old.length = 32 → Len32 way → a.length = 32 ∧ b.length = 32 ∧ Len32 rest
  | 0, _, _, _, _, _, _, _, _, h, _, _ => by simp [growOf] at h
  | f + 1, old, m, n, whole, way, a, b, rest, h, ho, hw => by
    unfold growOf at h
    by_cases he : m = n
    · rw [if_pos he] at h
      cases whole with
      | true =>
        simp at h
        obtain ⟨rfl, rfl, rfl⟩ := h
        exact ⟨ho, ho, hw⟩
      | false =>
        cases way with
        | nil => simp at h
        | cons x way =>
          simp at h
          obtain ⟨rfl, rfl, rfl⟩ := h
          exact ⟨hw _ (List.mem_cons_self ..), hw _ (List.mem_cons_self ..), fun y hy => hw y (List.mem_cons_of_mem _ hy)⟩
    · rw [if_neg he] at h
      by_cases hm : m ≤ halfOf n
      · rw [if_pos hm] at h
        cases hg : growOf f old m (halfOf n) whole way with
        | none => rw [hg] at h; cases h
        | some r =>
          obtain ⟨a', b', rest'⟩ := r
          rw [hg] at h
          cases rest' with
          | nil => cases h
          | cons x rest' =>
            simp only [Option.some.injEq, Prod.mk.injEq] at h
            obtain ⟨rfl, rfl, rfl⟩ := h
            obtain ⟨h1, h2, h3⟩ := grow_len f hg ho hw
            exact ⟨h1, nodeOf_length _ _, fun y hy => h3 y (List.mem_cons_of_mem _ hy)⟩
      · rw [if_neg hm] at h
        cases hg : growOf f old (m - halfOf n) (n - halfOf n) false way with
        | none => rw [hg] at h; cases h
        | some r =>
          obtain ⟨a', b', rest'⟩ := r
          rw [hg] at h
          cases rest' with
          | nil => cases h
          | cons x rest' =>
            simp only [Option.some.injEq, Prod.mk.injEq] at h
            obtain ⟨rfl, rfl, rfl⟩ := h
            obtain ⟨h1, h2, h3⟩ := grow_len f hg ho hw
            exact ⟨nodeOf_length _ _, nodeOf_length _ _, fun y hy => h3 y (List.mem_cons_of_mem _ hy)⟩
theorem grow_calls : ∀ (f : Nat) {old : Dg} {m n : Nat} {whole : Bool} {way : List Dg} {a b : Dg} {rest : List Dg}, growOf f old m n whole way = some (a, b, rest) → n ≤ 256 → m ≤ n → 0 < m → old.length = 32 → ∀ (w0 w : World) (v : Value), Keeps (fun _ => False) w0 w → DgIn w0 v way →
    Calls Tryz.prog 121 #[.agg (old.map u8v).toArray, .int .i64 (m : Int), .int .i64 (n : Int), .bool whole, v] w (GrowPost w0 w a b rest)
  | 0, _, _, _, _, _, _, _, _, h, _, _, _, _, _, _, _, _, _ => by simp [growOf] at h
  | f + 1, old, m, n, whole, way, a, b, rest, h, hn, hmn, h0, ho, w0, w, v, hk, hd => by
    unfold growOf at h
    by_cases he : m = n
    · rw [if_pos he] at h
      subst he
      cases whole with
      | true =>
        simp at h
        obtain ⟨rfl, rfl, rfl⟩ := h
        exact grow_whole w0 w hk m ho hd
      | false =>
        cases way with
        | nil => simp at h
        | cons x way =>
          simp at h
          obtain ⟨rfl, rfl, rfl⟩ := h
          exact grow_way w0 w hk m hd
    · rw [if_neg he] at h
      have h2 : 2 ≤ n := by omega
      have hlt := half_lt h2
      have hpos := half_pos n
      by_cases hm : m ≤ halfOf n
      · rw [if_pos hm] at h
        cases hg : growOf f old m (halfOf n) whole way with
        | none => rw [hg] at h; cases h
        | some r =>
          obtain ⟨a', b', rest'⟩ := r
          rw [hg] at h
          cases rest' with
          | nil => cases h
          | cons x rest' =>
            simp only [Option.some.injEq, Prod.mk.injEq] at h
            obtain ⟨rfl, rfl, rfl⟩ := h
            obtain ⟨h1, h2', h3⟩ := grow_len f hg ho hd.1
            exact grow_left w0 w hk ho h2 hn rfl he hm whole hd h1 h2' (h3 _ (List.mem_cons_self ..)) (fun W hW => grow_calls f hg (by omega) hm h0 ho w0 W v hW hd)
      · rw [if_neg hm] at h
        cases hg : growOf f old (m - halfOf n) (n - halfOf n) false way with
        | none => rw [hg] at h; cases h
        | some r =>
          obtain ⟨a', b', rest'⟩ := r
          rw [hg] at h
          cases rest' with
          | nil => cases h
          | cons x rest' =>
            simp only [Option.some.injEq, Prod.mk.injEq] at h
            obtain ⟨rfl, rfl, rfl⟩ := h
            obtain ⟨h1, h2', h3⟩ := grow_len f hg ho hd.1
            exact grow_right w0 w hk ho h2 hn rfl he (by omega) hmn whole hd h1 h2' (h3 _ (List.mem_cons_self ..)) (fun W hW => grow_calls f hg (by omega) (by omega) (by omega) ho w0 W v hW hd)
set_option maxRecDepth 100000 in
set_option maxHeartbeats 4000000 in
/-- Extends, of fewer leaves that are some. -/
theorem extends_some {w : World} {L : List Dg} (hL : L.length ≤ 256) (h32 : Len32 L) {m : Nat} (h0 : 0 < m) (hm : m ≤ L.length) {v : Value} (h : DgIn w v (proofOf L m true)) :
    Calls Tryz.prog 51 #[.agg ((rootOf (L.take m)).map u8v).toArray, .int .i64 (m : Int), .agg ((rootOf L).map u8v).toArray, .int .i64 (L.length : Int), v] w (QuietP w (.bool true)) := by
  have hg := grow_proof L.length L m true (rootOf (L.take m)) [] (Nat.le_refl _) h0 hm (fun _ => rfl)
  rw [List.append_nil] at hg
  have ho := rootOf_length (h32.take m)
  have hr := rootOf_length h32
  have hgc := fun W (hk : Keeps (fun _ => False) w W) => grow_calls L.length hg hL hm h0 ho w W v hk h
  obtain ⟨va, vc, rfl, -, -⟩ := id h.form
  have HEQO := Lib.hid (fun W => dig_eq (rootOf (L.take m)) (rootOf (L.take m)) ho ho W)
  have HEQR := Lib.hid (fun W => dig_eq (rootOf L) (rootOf L) hr hr W)
  generalize rootOf (L.take m) = od at *
  generalize rootOf L = rd at *
  obtain ⟨ol, hol⟩ : ∃ ol : Array Value, ol = (od.map u8v).toArray := ⟨_, rfl⟩
  obtain ⟨rl, hrl⟩ : ∃ rl : Array Value, rl = (rd.map u8v).toArray := ⟨_, rfl⟩
  have hz : ∀ {d : Dg} {l : Array Value}, l = (d.map u8v).toArray → d.length = 32 → (Tryz.prog.info? 83).map (·.size) = some l.size ∧ zeroC.size = l.size ∧ l.all (·.oneCell') = true := fun {d l} e hd => by
    have hl : l.size = 32 := by rw [e]; simp [hd]
    exact ⟨dig_info hl, by rw [hl]; kernel_rfl, by rw [e]; exact bytes_one _⟩
  have HO := Lib.hid (hz hol ho)
  have HRR := Lib.hid (hz hrl hr)
  have HGC := Lib.hid (fun W hk => show Calls Tryz.prog 121 #[.agg ol, .int .i64 (m : Int), .int .i64 (L.length : Int), .bool true, .slice va (proofOf L m true).length vc] W (fun e w' => ∃ v, e = .returned (.tuple #[.agg ol, .agg rl, v, .bool true]) ∧ DgIn w v [] ∧ Keeps (fun _ => False) W w') by rw [hol, hrl]; exact hgc W hk)
  rw [← hol] at HEQO ⊢
  rw [← hrl] at HEQR ⊢
  have e1 : ∀ W, (Op.equalIn 10000 83 (.agg ol) (.agg ol)).run Tryz.prog W = .ok true W := fun W => by have h := HEQO.out W; simpa using h
  have e2 : ∀ W, (Op.equalIn 10000 83 (.agg rl) (.agg rl)).run Tryz.prog W = .ok true W := fun W => by have h := HEQR.out W; simpa using h
  have i0 : ¬ (m : Int) = 0 := by omega
  have i1 : (0 : Int) ≤ m := by omega
  have i2 : (m : Int) ≤ L.length := by omega
  have hk0 : Keeps (fun _ => False) w ((w.alloc (.cells ol 83)).alloc (.cells rl 83)) := ((Keeps.refl _ w).alloc _).alloc _
  have hb5 : ((w.alloc (.cells ol 83)).alloc (.cells rl 83)).heap[w.heap.size]? = some (.cells ol 83) := ((Keeps.refl (fun _ => False) _).alloc _).at (heap_alloc_new w _) (fun e => e)
  have hb7 : ((w.alloc (.cells ol 83)).alloc (.cells rl 83)).heap[w.heap.size + 1]? = some (.cells rl 83) := by
    have := heap_alloc_new (w.alloc (.cells ol 83)) (.cells rl 83)
    rw [World.size_alloc] at this
    exact this
  obtain ⟨W, hW⟩ : ∃ W, W = (w.alloc (.cells ol 83)).alloc (.cells rl 83) := ⟨_, rfl⟩
  rw [← hW] at hk0 hb5 hb7
  have HB5 := Lib.hid hb5
  have HB7 := Lib.hid hb7
  have HK0 := Lib.hid hk0
  have HW := Lib.hid hW
  clear hg ho hr hgc h hol hrl hz HEQO HEQR hk0 hb5 hb7 hm h0 hL h32 hW
  generalize (proofOf L m true).length = np at *
  generalize L.length = n at *
  go_enter Tryz.func51, Tryz.ntmps51
  go_wp2_with (refine wpList_load_rowG rfl 83 _ rfl w.heap.size rfl 83 ol (0, 0) _ (by have h := HB5.out; rw [HW.out] at h; exact h) Tryz.underlying83 rfl HO.out.1 ?_)
  rw [← HW.out]
  refine (HGC.out W HK0.out).mono ?_
  rintro e w5 ⟨v5, rfl, hd5, hk5⟩
  obtain ⟨a5, c5, rfl, -, -⟩ := hd5.form
  clear hd5
  obtain ⟨W5, hW5⟩ : ∃ W5, W5 = (w5.alloc (.cells zeroC 83)).alloc (.cells zeroC 83) := ⟨_, rfl⟩
  have hb11 : W5.heap[w5.heap.size]? = some (.cells zeroC 83) := by rw [hW5]; exact ((Keeps.refl (fun _ => False) _).alloc _).at (heap_alloc_new w5 _) (fun e => e)
  have hb12 : W5.heap[w5.heap.size + 1]? = some (.cells zeroC 83) := by
    have h := heap_alloc_new (w5.alloc (.cells zeroC 83)) (.cells zeroC 83)
    rw [World.size_alloc] at h
    rw [hW5]
    exact h
  have hb12' : (W5.setRow w5.heap.size ol).heap[w5.heap.size + 1]? = some (.cells zeroC 83) := (setRow_other W5 _ _ _ (by omega)).trans hb12
  obtain ⟨W6, hW6⟩ : ∃ W6, W6 = (W5.setRow w5.heap.size ol).setRow (w5.heap.size + 1) rl := ⟨_, rfl⟩
  have hk6 : Keeps (fun _ => False) w5 W6 := by
    rw [hW6, hW5]
    exact ((((Keeps.refl _ w5).alloc _).alloc _).trans (keeps_setRow _ w5.heap.size _) (fun b hb e => by omega)).trans (keeps_setRow _ (w5.heap.size + 1) _) (fun b hb e => by omega)
  have f11 : W6.heap[w5.heap.size]? = some (.cells ol 83 (0, 0)) := by rw [hW6]; exact (setRow_other _ _ _ _ (by omega)).trans (setRow_heap W5 _ _ _ _ _ hb11)
  have f12 : W6.heap[w5.heap.size + 1]? = some (.cells rl 83 (0, 0)) := by rw [hW6]; exact setRow_heap _ _ _ _ _ _ hb12'
  have HF := Lib.hid (⟨f11, f12, (hk5.trans hk6 (fun _ _ e => e)).at HB5.out (fun e => e), (hk5.trans hk6 (fun _ _ e => e)).at HB7.out (fun e => e), (HK0.out.trans hk5 (fun _ _ e => e)).trans hk6 (fun _ _ e => e)⟩ : W6.heap[w5.heap.size]? = some (.cells ol 83 (0, 0)) ∧ W6.heap[w5.heap.size + 1]? = some (.cells rl 83 (0, 0)) ∧ W6.heap[w.heap.size]? = some (.cells ol 83) ∧ W6.heap[w.heap.size + 1]? = some (.cells rl 83) ∧ Keeps (fun _ => False) w W6)
  have HS1 := Lib.hid hb11
  have HS2 := Lib.hid hb12'
  have HW5 := Lib.hid hW5
  have HW6 := Lib.hid hW6
  clear hb11 hb12 hb12' hW5 hW6 hk6 f11 f12 hk5 HGC HB5 HB7 HK0 HW
  go_upto_region 6 with (first | (refine wpList_store_row rfl 83 _ _ rfl w5.heap.size ol rfl rfl 83 zeroC (by have h := HS1.out; rw [HW5.out] at h; exact h) HO.out.1 HO.out.2.1 HO.out.2.2 ?_) | (refine wpList_store_row rfl 83 _ _ rfl (w5.heap.size + 1) rl rfl rfl 83 zeroC (by have h := HS2.out; rw [HW5.out] at h; exact h) HRR.out.1 HRR.out.2.1 HRR.out.2.2 ?_))
  change Code.wp _ _ _ _ ((((w5.alloc (.cells zeroC 83)).alloc (.cells zeroC 83)).setRow w5.heap.size ol).setRow (w5.heap.size + 1) rl)
  rw [← HW5.out, ← HW6.out]
  clear HS1 HS2 HW5 HW6
  generalize w5.heap.size = b11 at *
  go_wp2_with (first | (refine wpList_load_rowG (by rfl) 83 _ rfl b11 rfl 83 ol (0, 0) _ HF.out.1 Tryz.underlying83 rfl HO.out.1 ?_) | (refine wpList_load_rowG (by rfl) 83 _ rfl (b11 + 1) rfl 83 rl (0, 0) _ HF.out.2.1 Tryz.underlying83 rfl HRR.out.1 ?_) | (refine wpList_load_rowG (by rfl) 83 _ rfl w.heap.size rfl 83 ol (0, 0) _ HF.out.2.2.1 Tryz.underlying83 rfl HO.out.1 ?_) | (refine wpList_load_rowG (by rfl) 83 _ rfl (w.heap.size + 1) rfl 83 rl (0, 0) _ HF.out.2.2.2.1 Tryz.underlying83 rfl HRR.out.1 ?_))
  go_ret
  exact ⟨rfl, HF.out.2.2.2.2⟩
end Go.Proofs.YtaeabdghlkdkjaaGreat
