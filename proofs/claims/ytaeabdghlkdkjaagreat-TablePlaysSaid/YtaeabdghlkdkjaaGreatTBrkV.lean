/- TableBroken: what the disks hold, in plain words; both journals. -/
import Derived.Test.YtaeabdghlkdkjaaGreatR11Opn
import Derived.Test.YtaeabdghlkdkjaaGreatPkQ
import Derived.Test.YtaeabdghlkdkjaaGreatTAwk
namespace Go.Proofs.YtaeabdghlkdkjaaGreat
set_option linter.unusedVariables false
open Go.RowKit Go.MapKept

theorem decOf_good {b : List UInt8} {l : List TCh} (h : decOf b = some l) : ∀ c ∈ l, badCh c = false := fun c hc => by
  obtain ⟨h1, h2, h3⟩ := (decOf_small h).1 c hc
  unfold badCh
  simp only [Bool.or_eq_false_iff, decide_eq_false_iff_not]
  omega
theorem TabOk.tabOf : ∀ {recs : List (List UInt8)} {fs fs' : FS}, TabOk fs → tabOf recs fs = some fs' → TabOk fs' ∧ fs'.length ≤ fs.length + 256 * recs.length
  | [], fs, fs', h, e => by
    simp only [Go.Proofs.YtaeabdghlkdkjaaGreat.tabOf, Option.some.injEq] at e
    subst e; exact ⟨h, by omega⟩
  | r :: rs, fs, fs', h, e => by
    rw [Go.Proofs.YtaeabdghlkdkjaaGreat.tabOf] at e
    cases hd : decOf r with
    | none => rw [hd] at e; cases e
    | some l =>
      rw [hd] at e
      obtain ⟨h1, h2⟩ := TabOk.tabOf (TabOk.tdos l h (decOf_good hd)) e
      have h3 := length_tdos l fs
      have h4 := (decOf_small hd).2
      exact ⟨h1, by rw [List.length_cons]; omega⟩
/-- What both disks hold behind some appends. -/
structure BI (m : DM) (l : List (List UInt8)) (k : Nat) : Prop where
  ji : JI m (some l) (k + 1)
  calm : Calm m
  now : m.now = [(nmT, framesOf l)]
  room : m.room = 65536
  len : (framesOf l).length ≤ 2008 * k
theorem BI.start : BI (oneT 65536 []) [] 0 := by
  have h := JI.open (m := newOf 65536) (st := none) (i := 0) ⟨Tidy.new (by omega) (by omega), fun l e => by cases e⟩ nmT
  rw [open_emptyT] at h
  exact ⟨h, ⟨rfl, rfl⟩, rfl, rfl, by simp [framesOf]⟩
theorem BI.skip {m : DM} {l : List (List UInt8)} {k : Nat} (h : BI m l k) : BI m l (k + 1) := ⟨h.ji.next, h.calm, h.now, h.room, by have := h.len; omega⟩
theorem BI.append {m : DM} {l : List (List UInt8)} {k : Nat} (h : BI m l k) (hk : k < 10) {p : List UInt8} (hp : p.length ≤ 2000) :
    ∃ m', rAppendOf m nmT l p = (0, m', l ++ [p]) ∧ jAppendOf m nmT (framesOf l).length p = (0, m', (framesOf (l ++ [p])).length) ∧ BI m' (l ++ [p]) (k + 1) := by
  obtain ⟨c, m1, l1, e1, e2, hi⟩ := h.ji.append nmT p hp
  have hg : fget m.now nmT = some (framesOf l) := by rw [h.now]; simp [fget]
  have hu : used m.now = (framesOf l).length := by rw [h.now]; simp [used]
  have hfl := frameOf_length p
  have hlen := h.len
  have ha : appendOf m nmT (frameOf p) = (0, { m with now := fput m.now nmT (framesOf l ++ frameOf p), loose := m.loose ++ [⟨1, nmT, ⟨#[]⟩, frameOf p⟩] }) := by
    rw [h.calm.append (by rw [hg]; rfl) _ (by omega), if_neg (by rw [h.room, hu]; omega), hg]
    rfl
  have he : rAppendOf m nmT l p = (0, { m with now := fput m.now nmT (framesOf l ++ frameOf p), loose := m.loose ++ [⟨1, nmT, ⟨#[]⟩, frameOf p⟩] }, l ++ [p]) := by
    unfold rAppendOf
    rw [if_neg (by omega), ha, if_pos rfl]
  rw [he] at e1
  simp only [Prod.mk.injEq] at e1
  obtain ⟨rfl, rfl, rfl⟩ := e1
  refine ⟨_, he, e2, hi, ⟨h.calm.down, h.calm.fuse⟩, ?_, h.room, ?_⟩
  · show fput m.now nmT _ = _
    rw [h.now, framesOf_append, framesOf_cons, framesOf_nil, List.append_nil]
    simp [fput, fdel, fins]
  · rw [framesOf_append, framesOf_cons, framesOf_nil, List.append_nil, List.length_append]
    omega

section
variable {w0 w : World} {d r j q : Nat} {nm : ByteArray} {m : DM} {l : List (List UInt8)} {v : Value} {rs : List (Res w0.heap.size)}
/-- Both journals of new disks are opened. -/
theorem both_open (h : Own w0 w [rDisk w0.heap.size d (newOf 65536), rRef w0.heap.size r (newOf 65536)]) :
    Calls Tryz.prog 12 #[.pointer (some ⟨d, 0, none⟩), .string nmT] w fun e w1 => ∃ (j : Nat) (ra : Option Addr) (rc : Nat), e = .returned (.tuple #[.pointer (some ⟨j, 0, none⟩), .slice ra 0 rc, .int .i64 0]) ∧
      Calls Tryz.prog 13 #[.pointer (some ⟨r, 0, none⟩), .string nmT] w1 fun e w3 => ∃ (q : Nat) (v : Value), e = .returned (.tuple #[.pointer (some ⟨q, 0, none⟩), .int .i64 0]) ∧ JTwo w0 w3 d r j q nmT (oneT 65536 []) [] v [] := by
  have ht : Tidy (newOf 65536) 0 0 := Tidy.new (by omega) (by omega)
  have h1 := open_calls h ht.good (by omega) nmT
  rw [open_emptyT] at h1
  refine h1.mono ?_
  rintro e w1 (⟨hr, _⟩ | ⟨recs, used, j, v, hr, he, ho⟩)
  · cases hr
  simp only [Option.some.injEq, Prod.mk.injEq] at hr
  obtain ⟨rfl, rfl⟩ := hr
  obtain ⟨ra, rc, rfl, -, -⟩ := ho.rowsCap (v := v) (ll := []) (by simp)
  refine ⟨j, ra, rc, he, ?_⟩
  have h3 : Own w0 w1 [rRef w0.heap.size r (newOf 65536), rDisk w0.heap.size d (oneT 65536 []), rObj w0.heap.size j (jrnObj d nmT 0)] :=
    ((ho.perm (List.perm_append_comm (l₁ := [_, _, _]) (l₂ := [_]))).perm (List.perm_append_comm (l₁ := [_, _, _]) (l₂ := [_]))).drop
  have h2 := ropen_calls h3 ht (by omega) (by omega) nmT (by decide)
  rw [open_emptyT] at h2
  refine h2.mono ?_
  rintro e w3 (⟨hr, _⟩ | ⟨recs, used, q, v, hr, he, ho3⟩)
  · cases hr
  simp only [Option.some.injEq, Prod.mk.injEq] at hr
  obtain ⟨rfl, rfl⟩ := hr
  exact ⟨q, v, he, ho3.of_r⟩
/-- A record is appended to both. -/
theorem both_append {k : Nat} (h : JTwo w0 w d r j q nmT m l v rs) (hb : BI m l k) (hk : k < 10) {pv : Value} {p : List UInt8} (hp : Reads w0 pv p) (hpl : p.length ≤ 2000) :
    Calls Tryz.prog 15 #[.pointer (some ⟨j, 0, none⟩), pv] w fun e w1 => e = .returned (.int .i64 0) ∧
      Calls Tryz.prog 16 #[.pointer (some ⟨q, 0, none⟩), pv] w1 fun e w3 => e = .returned (.int .i64 0) ∧ ∃ m' l' v', BI m' l' (k + 1) ∧ JTwo w0 w3 d r j q nmT m' l' v' rs := by
  obtain ⟨m', e1, e2, hb'⟩ := hb.append hk hpl
  have hl := hb.len
  have hmany := frames_many l
  have h1 := jappend_calls h.to_j hb.ji.tidy.good (by omega) (by omega) (hp.keep h.keeps)
  rw [e2] at h1
  refine h1.mono ?_
  rintro e w1 ⟨he, ho⟩
  refine ⟨he, ?_⟩
  have h2 := rappend_calls ho.to_r hb.ji.tidy (by omega) (by omega) (by omega) hp
  rw [e1] at h2
  refine h2.mono ?_
  rintro e w3 ⟨he, v', ho3⟩
  exact ⟨he, m', _, v', hb', ho3.of_r⟩
/-- Both tables are opened. -/
theorem both_topen (h : JTwo w0 w d r j q nmT m l v []) {k : Nat} (hb : BI m l k) (hk : k ≤ 10) :
    Calls Tryz.prog 17 #[.pointer (some ⟨d, 0, none⟩), .string nmT] w fun e w1 => ∃ (c : Int) (tp : Option Addr), e = .returned (.tuple #[.pointer tp, .int .i64 c]) ∧
      Calls Tryz.prog 18 #[.pointer (some ⟨r, 0, none⟩), .string nmT] w1 fun e w3 => ∃ (up : Option Addr), e = .returned (.tuple #[.pointer up, .int .i64 c]) ∧ Keeps (fun _ => False) w0 w3 ∧ tp.isNone = up.isNone ∧
        ∀ ta ua, tp = some ta → up = some ua → ∃ lv, w3.cell? { block := ua.block, off := ua.off + 1 } = some lv ∧ (∃ a n c, lv = .slice a n c) ∧ Calls Tryz.prog 19 #[.pointer tp, lv] w3 (QuietP w3 (.bool true)) := by
  have h0 : Own w0 w [rDisk w0.heap.size d m, rRef w0.heap.size r m] := h.drop3
  have hrec := fun l u => open_recs (l := l) (u := u) hb.ji.tidy.good nmT
  have h1 := topen_calls h0 hb.ji.tidy.good (by omega) nmT
  have htab := fun fs' (recs : List (List UInt8)) => TabOk.tabOf (recs := recs) (fs' := fs') TabOk.nil
  have hro := fun (w2 : World) (rs2 : List (Res w0.heap.size)) (h2 : Own w0 w2 (rRef w0.heap.size r m :: rs2)) => r11open_calls h2 hb.ji.tidy (by omega) (by omega) nmT (by decide)
  refine h1.mono ?_
  rintro e w1 (⟨hn, he, ho⟩ | ⟨size, fs, j2, t, b, hs, he, ho⟩)
  · refine ⟨_, none, he, ?_⟩
    refine (hro w1 _ ho.swap).mono ?_
    rintro e w3 (⟨hn2, he, ho3⟩ | ⟨size, fs, recs, q2, t2, v2, lv, hs, _⟩)
    · exact ⟨none, he, ho3.keeps, rfl, fun ta ua e => by cases e⟩
    · rw [hn] at hs; cases hs
  · refine ⟨_, some ⟨t, 0, none⟩, he, ?_⟩
    refine (hro w1 _ (ho.perm (List.perm_append_comm (l₁ := [_, _, _, _]) (l₂ := [_])))).mono ?_
    rintro e w3 (⟨hn2, he, ho3⟩ | ⟨size2, fs2, recs, q2, t2, v2, lv, hs2, hr2, he, ho3⟩)
    · rw [hs] at hn2; cases hn2
    · rw [hs] at hs2
      simp only [Option.some.injEq, Prod.mk.injEq] at hs2
      obtain ⟨rfl, rfl⟩ := hs2
      have htf : tabOf recs [] = some fs := by
        have h9 := hs
        unfold tOpenOf at h9
        rw [hr2] at h9
        simp only at h9
        split at h9
        · cases h9
        · simp only [Option.some.injEq, Prod.mk.injEq] at h9
          rename_i hx
          rw [hx, h9.2]
      obtain ⟨hok, hlen⟩ := htab _ _ htf
      obtain ⟨-, hu, hul⟩ := hrec _ _ hr2
      have hmany := frames_many recs
      simp only [List.length_nil] at hlen
      obtain ⟨F, hp⟩ := ho3.pairs (v := lv) (fs := fs) (by simp [rtRes])
      have htb := (ho3.at (b := t) (o := tabObj j2 b false) (by simp [rtRes])).1
      obtain ⟨G, hG, _⟩ := ho3.mem (r := rMap w0.heap.size b fs) (by simp [rtRes])
      obtain ⟨-, hc1, -, -⟩ := rtab_cells (ho3.at (b := t2) (o := rtabObj q2 lv false) (by simp [rtRes])).1
      refine ⟨some ⟨t2, 0, none⟩, he, ho3.keeps, rfl, fun ta ua e1 e2 => ?_⟩
      cases e1; cases e2
      have his := is11_calls htb hG.2 hok (by omega) hp
      simp only [decide_true] at his
      obtain ⟨pa, pc, rfl, -, -⟩ := hp.form
      exact ⟨_, hc1, ⟨_, _, _, rfl⟩, his⟩
end
end Go.Proofs.YtaeabdghlkdkjaaGreat
