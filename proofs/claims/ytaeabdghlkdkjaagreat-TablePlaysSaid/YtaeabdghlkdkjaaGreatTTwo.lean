/- Both tables, with their disks, in memory. -/
import Derived.Test.YtaeabdghlkdkjaaGreatTTwoV
import Derived.Test.YtaeabdghlkdkjaaGreatTPoke
namespace Go.Proofs.YtaeabdghlkdkjaaGreat
set_option linter.unusedVariables false
open Go.RowKit Go.MapKept

theorem Own.flip {w wr : World} {A B rs : List (Res w.heap.size)} (h : Own w wr (A ++ (B ++ rs))) : Own w wr (B ++ (A ++ rs)) :=
  h.perm (by rw [← List.append_assoc, ← List.append_assoc]; exact List.perm_append_comm.append_right rs)
/-- Where both tables lie. -/
structure TAt where
  d : Nat
  j : Nat
  t : Nat
  b : Nat
  r : Nat
  q : Nat
  u : Nat
def TTwo (w0 w : World) (p : TAt) (nm : ByteArray) (m : DM) (recs : List (List UInt8)) (v lv : Value) (fs : FS) (dn : Bool) (rs : List (Res w0.heap.size)) : Prop :=
  Own w0 w (tRes w0.heap.size p.d p.j p.t p.b nm ⟨m, (framesOf recs).length, fs, dn⟩ ++ (rtRes w0.heap.size p.r p.q p.u nm m recs v lv fs dn ++ rs))
/-- Both tables are alike. -/
def TSt (w0 w : World) (d r : Nat) (nm : ByteArray) (i : Nat) (rs : List (Res w0.heap.size)) (tv uv : Value) : Prop :=
  ∃ (j t b q u : Nat) (m : DM) (recs : List (List UInt8)) (v lv : Value) (fs : FS) (dn : Bool), tv = .pointer (some ⟨t, 0, none⟩) ∧ uv = .pointer (some ⟨u, 0, none⟩) ∧ TI m recs fs i ∧ TTwo w0 w ⟨d, j, t, b, r, q, u⟩ nm m recs v lv fs dn rs
section
variable {w0 w : World} {d r : Nat} {nm : ByteArray} {i : Nat} {rs : List (Res w0.heap.size)} {tv uv : Value}
theorem TSt.keeps (h : TSt w0 w d r nm i rs tv uv) : Keeps (fun _ => False) w0 w := by
  obtain ⟨j, t, b, q, u, m, recs, v, lv, fs, dn, -, -, -, h⟩ := h
  exact Own.keeps h
theorem TSt.next (h : TSt w0 w d r nm i rs tv uv) : TSt w0 w d r nm (i + 1) rs tv uv := by
  obtain ⟨j, t, b, q, u, m, recs, v, lv, fs, dn, e1, e2, hi, h⟩ := h
  exact ⟨j, t, b, q, u, m, recs, v, lv, fs, dn, e1, e2, hi.next, h⟩
theorem TSt.quiet {w' : World} (h : TSt w0 w d r nm i rs tv uv) (hk : Keeps (fun _ => False) w w') : TSt w0 w' d r nm i rs tv uv := by
  obtain ⟨j, t, b, q, u, m, recs, v, lv, fs, dn, e1, e2, hi, h⟩ := h
  exact ⟨j, t, b, q, u, m, recs, v, lv, fs, dn, e1, e2, hi, Own.quiet h hk⟩
theorem TSt.box (h : TSt w0 w d r nm i rs tv uv) (o : Obj) : TSt w0 (w.alloc o) d r nm i (rObj w0.heap.size w.heap.size o :: rs) tv uv := by
  obtain ⟨j, t, b, q, u, m, recs, v, lv, fs, dn, e1, e2, hi, h⟩ := h
  exact ⟨j, t, b, q, u, m, recs, v, lv, fs, dn, e1, e2, hi, (Own.alloc h o).perm (List.perm_middle (l₁ := [_, _, _, _, _, _, _, _, _])).symm⟩
theorem TSt.unbox {x : Res w0.heap.size} (h : TSt w0 w d r nm i (x :: rs) tv uv) : TSt w0 w d r nm i rs tv uv := by
  obtain ⟨j, t, b, q, u, m, recs, v, lv, fs, dn, e1, e2, hi, h⟩ := h
  exact ⟨j, t, b, q, u, m, recs, v, lv, fs, dn, e1, e2, hi, (Own.pull (l₁ := [_, _, _, _, _, _, _, _, _]) h).drop⟩
theorem TSt.obj (h : TSt w0 w d r nm i rs tv uv) {t : Nat} {o : Obj} (hm : rObj w0.heap.size t o ∈ rs) : w.heap[t]? = some o := by
  obtain ⟨j, t', b, q, u, m, recs, v, lv, fs, dn, e1, e2, hi, h⟩ := h
  exact (Own.at h (b := t) (o := o) (by simp [hm])).1
theorem TSt.held (h : TSt w0 w d r nm i rs tv uv) {w' : World} {v : Value} {cs : List TCh} (ho : TChsAt 60 w.heap.size w' v cs) (hk : Keeps (fun _ => False) w w') : TSt w0 w' d r nm i (rTChsO w0.heap.size v cs :: rs) tv uv := by
  obtain ⟨j, t, b, q, u, m, recs, v2, lv, fs, dn, e1, e2, hi, h⟩ := h
  exact ⟨j, t, b, q, u, m, recs, v2, lv, fs, dn, e1, e2, hi, (Own.addHeld h ho hk).perm (List.perm_middle (l₁ := [_, _, _, _, _, _, _, _, _])).symm⟩
theorem Own.dr {D J T M R : Res w0.heap.size} (h : Own w0 w (D :: J :: T :: M :: R :: rs)) : Own w0 w (D :: R :: J :: T :: M :: rs) :=
  h.perm (List.Perm.cons _ ((List.perm_append_comm (l₁ := [J, T, M]) (l₂ := [R])).append_right rs))
theorem Own.undr {D J T M R : Res w0.heap.size} (h : Own w0 w (D :: R :: J :: T :: M :: rs)) : Own w0 w (D :: J :: T :: M :: R :: rs) :=
  h.perm (List.Perm.cons _ ((List.perm_append_comm (l₁ := [R]) (l₂ := [J, T, M])).append_right rs))
/-- Both disks alone. -/
theorem TTwo.disks {p : TAt} {m : DM} {recs : List (List UInt8)} {v lv : Value} {fs : FS} {dn : Bool} (h : TTwo w0 w p nm m recs v lv fs dn rs) : Own w0 w (rDisk w0.heap.size p.d m :: rRef w0.heap.size p.r m :: rs) := by
  have h1 : Own w0 w (rDisk w0.heap.size p.d m :: rRef w0.heap.size p.r m :: ([_, _, _, _, _, _, _] ++ rs)) := Own.dr h
  exact (h1.perm (List.perm_append_comm (l₁ := [_, _]) (l₂ := [_, _, _, _, _, _, _]) |>.append_right rs)).drop.drop.drop.drop.drop.drop.drop
/-- The disks' Does. -/
theorem TSt.does (h : TSt w0 w d r nm i rs tv uv) (hi : i ≤ 130) (kd n mm : Int) (hn : n ≤ 9223372036854775807) :
    Calls Tryz.prog 26 #[.pointer (some ⟨d, 0, none⟩), .pointer (some ⟨r, 0, none⟩), .agg #[.int .i64 kd, .string ⟨#[]⟩, .string ⟨#[]⟩, .slice none 0 0, .int .i64 n, .int .i64 mm]] w fun e w' => e = .returned (.bool true) ∧ TSt w0 w' d r nm (i + 1) rs tv uv := by
  obtain ⟨j, t, b, q, u, m, recs, v, lv, fs, dn, e1, e2, hti, h⟩ := h
  refine (does9_calls (Own.dr h) hti.tidy (by omega) (by omega) ⟨kd, ⟨#[]⟩, ⟨#[]⟩, [], n, mm⟩ (reads_nil w0) (by simp)).mono ?_
  rintro e w' ⟨rfl, ho⟩
  exact ⟨rfl, j, t, b, q, u, _, recs, v, lv, fs, dn, e1, e2, hti.does _ hn, Own.undr ho⟩
/-- Both fold. -/
theorem TSt.fold (h : TSt w0 w d r nm i rs tv uv) (hi : i ≤ 130) (hnm : nm.size ≤ 65536) :
    ∃ c : Int, Calls Tryz.prog 24 #[tv] w fun e w1 => e = .returned (.int .i64 c) ∧ ∀ w2, (w2 = w1 ∨ w2 = w1.drew) → Calls Tryz.prog 25 #[uv] w2 fun e w3 => e = .returned (.int .i64 c) ∧ TSt w0 w3 d r nm (i + 1) rs tv uv := by
  obtain ⟨j, t, b, q, u, m, recs, v, lv, fs, dn, rfl, rfl, hti, h⟩ := h
  obtain ⟨c, m', recs', dn', e1, e2, hti'⟩ := tfold_pair hti hi nm dn
  have hF := hti.folds hi
  have hl := hti.len
  have hw := hti.wt
  refine ⟨c, ?_⟩
  have h1 := tfold_calls (T := ⟨m, (framesOf recs).length, fs, dn⟩) h hti.tidy.good (by dsimp only; omega) hnm hti.ok (by dsimp only; omega)
  rw [e1] at h1
  refine h1.mono ?_
  rintro e w1 ⟨he, ho⟩
  refine ⟨he, fun w2 hw2 => ?_⟩
  have h2 := rfold11_calls (same_or_drew ho hw2).flip hti.tidy (by omega) (by omega) hnm hti.ok (by omega)
  rw [e2] at h2
  refine h2.mono ?_
  rintro e w3 ⟨he, v', lv', ho3⟩
  exact ⟨he, j, t, b, q, u, m', recs', v', lv', fs, dn', rfl, rfl, hti', ho3.flip⟩
/-- The one's Apply; then, whatever has become of the changes' own memory, the other's. -/
theorem TSt.apply {a : Option Addr} {c : Nat} {l : List TCh} (h : TSt w0 w d r nm i (rTChsO w0.heap.size (.slice a l.length c) l :: rs) tv uv) (hi : i ≤ 130) (hs : wtCh l ≤ 40000) (hlc : l.length ≤ c) (hc : c ≤ maxLen) {a2 : Option Addr} {c2 : Nat} (h2 : TChsIn w0 a2 l) (hlc2 : l.length ≤ c2) (hc2 : c2 ≤ maxLen) :
    ∃ co : Int, Calls Tryz.prog 22 #[tv, .slice a l.length c] w fun e w1 => e = .returned (.int .i64 co) ∧ (∀ t o, rObj w0.heap.size t o ∈ rs → w1.heap[t]? = some o) ∧ Keeps (fun _ => False) w0 w1 ∧
      ∃ F : Nat → Prop, TChsHeld F w1 (.slice a l.length c) l ∧ (∀ b, F b → w0.heap.size ≤ b ∧ b < w1.heap.size) ∧ ∀ w2, Keeps F w1 w2 → (∀ t o, rObj w0.heap.size t o ∈ rs → w2.heap[t]? = some o) ∧
        Calls Tryz.prog 23 #[uv, .slice a2 l.length c2] w2 fun e w3 => e = .returned (.int .i64 co) ∧ TSt w0 w3 d r nm (i + 1) rs tv uv := by
  obtain ⟨j, t, b, q, u, m, recs, v, lv, fs, dn, rfl, rfl, hti, h⟩ := h
  obtain ⟨co, m', recs', fs', dn', e1, e2, hti'⟩ := tapp_pair hti nm dn hs
  have hl := hti.len
  have hw := hti.wt
  have hr := hti.recs
  have hmany := frames_many recs
  refine ⟨co, ?_⟩
  have h1 := tapply_callsO (T := ⟨m, (framesOf recs).length, fs, dn⟩) h hti.tidy.good (by omega) (by dsimp only; omega) (a := a) (c := c) (l := l) (fun wr ls h => h.insHeld (n := l.length) (c := c) (by simp)) hlc hc
  rw [e1] at h1
  refine h1.mono ?_
  rintro e w1 ⟨he, ho⟩
  have ho1 : Own w0 w1 (tRes w0.heap.size d j t b nm ⟨m', (framesOf recs').length, fs', dn'⟩ ++ (rtRes w0.heap.size r q u nm m recs v lv fs dn ++ rTChsO w0.heap.size (.slice a l.length c) l :: rs)) := ho
  obtain ⟨F, hF, hFb, hback⟩ := (Own.pull (l₁ := [_, _, _, _, _, _, _, _, _]) ho1).open1
  refine ⟨he, fun t o hm => (ho1.at (b := t) (o := o) (by simp [hm])).1, ho1.keeps, F, hF, hFb, fun w2 hk => ?_⟩
  have h2' : Own w0 w2 (tRes w0.heap.size d j t b nm ⟨m', (framesOf recs').length, fs', dn'⟩ ++ (rtRes w0.heap.size r q u nm m recs v lv fs dn ++ rs)) :=
    (hback w2 ⟨fun _ _ => True, fun _ _ _ _ _ => trivial⟩ hk trivial).drop
  refine ⟨fun t o hm => (h2'.at (b := t) (o := o) (by simp [hm])).1, ?_⟩
  have h3 := rapply11_calls h2'.flip hti.tidy (by omega) (by omega) (by omega) hti.ok.sorted (a := a2) (c := c2) (l := l) (fun wr ls h => h2.keep h.keeps) hlc2 hc2 (by omega)
  rw [e2] at h3
  refine h3.mono ?_
  rintro e w3 ⟨he, v', lv', ho3⟩
  exact ⟨he, j, t, b, q, u, m', recs', v', lv', fs', dn', rfl, rfl, hti', ho3.flip⟩
/-- Both are opened. -/
theorem topen_both {m : DM} (h : Own w0 w (rDisk w0.heap.size d m :: rRef w0.heap.size r m :: rs)) (ht : Tidy m (4000000000 * i) (4000000000 * i)) (hi : i ≤ 130) (hnm : nm.size ≤ 65536) :
    Calls Tryz.prog 17 #[.pointer (some ⟨d, 0, none⟩), .string nm] w fun e w1 => ∃ tp : Option Addr, e = .returned (.tuple #[.pointer tp, .int .i64 (tOpenOf m nm).code]) ∧ (∀ t o, rObj w0.heap.size t o ∈ rs → w1.heap[t]? = some o) ∧ (tp = none ↔ (tOpenOf m nm).tab = none) ∧
      ∀ w2, (w2 = w1 ∨ w2 = w1.drew) → Calls Tryz.prog 18 #[.pointer (some ⟨r, 0, none⟩), .string nm] w2 fun e w3 => ∃ up : Option Addr, e = .returned (.tuple #[.pointer up, .int .i64 (tOpenOf m nm).code]) ∧ tp.isNone = up.isNone ∧ Keeps (fun _ => False) w0 w3 ∧ (tp ≠ none → (tOpenOf m nm).code = 0 ∧ TSt w0 w3 d r nm (i + 1) rs (.pointer tp) (.pointer up)) := by
  obtain ⟨htt, hop⟩ := TI.open ht nm
  refine (topen_calls h ht.good (by omega) nm).mono ?_
  have hro := fun (w2 : World) (rs2 : List (Res w0.heap.size)) (h2 : Own w0 w2 (rRef w0.heap.size r m :: rs2)) => r11open_calls h2 ht (by omega) (by omega) nm hnm
  rintro e w1 (⟨hn, he, ho⟩ | ⟨size, fs, j, t, b, hs, he, ho⟩)
  · refine ⟨none, he, fun t o hm => (ho.at (b := t) (o := o) (by simp [hm])).1, ⟨fun _ => hn, fun _ => rfl⟩, fun w2 hw => ?_⟩
    refine (hro w2 _ (same_or_drew ho hw).swap).mono ?_
    rintro e w3 (⟨hn2, he, ho3⟩ | ⟨size, fs, recs, q, u, v, lv, hs, _⟩)
    · exact ⟨none, he, rfl, ho3.keeps, fun e => absurd rfl e⟩
    · rw [hn] at hs; cases hs
  · refine ⟨some ⟨t, 0, none⟩, he, fun t o hm => (ho.at (b := t) (o := o) (by simp [hm])).1, ⟨fun e => (by cases e), fun e => by rw [hs] at e; cases e⟩, fun w2 hw => ?_⟩
    refine (hro w2 _ ((same_or_drew ho hw).perm ((List.perm_append_comm (l₁ := [_, _, _, _]) (l₂ := [_])).append_right rs))).mono ?_
    rintro e w3 (⟨hn2, he, ho3⟩ | ⟨size2, fs2, recs, q, u, v, lv, hs2, hr2, he, ho3⟩)
    · rw [hs] at hn2; cases hn2
    · rw [hs] at hs2
      simp only [Option.some.injEq, Prod.mk.injEq] at hs2
      obtain ⟨rfl, rfl⟩ := hs2
      obtain ⟨hu, hc, hti⟩ := hop _ _ _ hs hr2
      subst hu
      exact ⟨some ⟨u, 0, none⟩, he, rfl, ho3.keeps, fun _ => ⟨hc, j, t, b, q, u, _, recs, v, lv, fs, false, rfl, rfl, hti, Own.flip (A := rtRes w0.heap.size r q u nm (tOpenOf m nm).m recs v lv fs false) (B := [_, _, _, _]) ho3⟩⟩
/-- What the law asks behind each step. -/
theorem TSt.asks (h : TSt w0 w d r nm i rs tv uv) (hi : i ≤ 130) :
    (∀ W, Keeps (fun _ => False) w W → Calls Tryz.prog 27 #[.pointer (some ⟨d, 0, none⟩), .pointer (some ⟨r, 0, none⟩)] W (QuietP W (.bool true))) ∧
      ∃ (u q : Nat) (lv v : Value) (n : Nat), uv = .pointer (some ⟨u, 0, none⟩) ∧ (∃ a k c, lv = .slice a k c) ∧ (∃ a k c, v = .slice a k c) ∧
        (∀ W, Keeps (fun _ => False) w W → W.cell? ⟨u, 0, none⟩ = some (.pointer (some ⟨q, 0, none⟩)) ∧ W.cell? ⟨u, 1, none⟩ = some lv ∧ W.cell? ⟨q, 2, none⟩ = some v) ∧
        (∀ W, Keeps (fun _ => False) w W → Calls Tryz.prog 19 #[tv, lv] W (QuietP W (.bool true))) ∧
        (∀ W, Keeps (fun _ => False) w W → Runs 28 #[tv] W (.int .i64 (n : Int)) W) ∧ ∀ W, Keeps (fun _ => False) w W → Runs 29 #[v] W (.int .i64 (n : Int)) W := by
  obtain ⟨j, t, b, q, u, m, recs, v, lv, fs, dn, rfl, rfl, hti, h⟩ := h
  have hl := hti.len
  have hw := hti.wt
  have hr := hti.recs
  obtain ⟨F, hp⟩ := Own.pairs h (v := lv) (fs := fs) (by simp [tRes, rtRes])
  obtain ⟨pa, pc, rfl, -, -⟩ := hp.form
  obtain ⟨hrw, va, vc, rfl⟩ := Own.rows h (v := v) (ll := recs) (by simp [tRes, rtRes])
  refine ⟨fun W hk => is_calls (Own.dr (Own.quiet h hk)) hti.tidy (by omega), u, q, .slice pa fs.length pc, .slice va recs.length vc, (framesOf recs).length, rfl, ⟨_, _, _, rfl⟩, ⟨_, _, _, rfl⟩, fun W hk => ?_, fun W hk => ?_, fun W hk => ?_, fun W hk => rsize_runs (hrw.keep hk) (by omega)⟩
  · have hq := Own.quiet h hk
    obtain ⟨c0, c1, -, -⟩ := rtab_cells (Own.at hq (b := u) (o := rtabObj q (.slice pa fs.length pc) dn) (by simp [tRes, rtRes])).1
    obtain ⟨-, -, c2, -⟩ := rj_cells (Own.at hq (b := q) (o := rjObj r nm (.slice va recs.length vc)) (by simp [tRes, rtRes])).1
    exact ⟨c0, c1, c2⟩
  · have hq := Own.quiet h hk
    have htb := (Own.at hq (b := t) (o := tabObj j b dn) (by simp [tRes, rtRes])).1
    obtain ⟨G, hG, _⟩ := Own.mem hq (r := rMap w0.heap.size b fs) (by simp [tRes, rtRes])
    have his := is11_calls htb hG.2 hti.ok (by omega) (hp.quiet (G := F) hk (fun b hb _ => hb))
    simp only [decide_true] at his
    exact his
  · have hq := Own.quiet h hk
    exact tsize_runs (Own.at hq (b := t) (o := tabObj j b dn) (by simp [tRes, rtRes])).1 (Own.at hq (b := j) (o := jrnObj d nm (framesOf recs).length) (by simp [tRes, rtRes])).1
end
end Go.Proofs.YtaeabdghlkdkjaaGreat
