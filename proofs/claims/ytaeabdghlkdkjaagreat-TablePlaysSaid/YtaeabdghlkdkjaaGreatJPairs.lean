/- JournalPlays: what the two journals do, in plain words, and side by side. -/
import Derived.Test.YtaeabdghlkdkjaaGreatPkN
import Derived.Test.YtaeabdghlkdkjaaGreatPkM
import Derived.Test.YtaeabdghlkdkjaaGreatPkK
namespace Go.Proofs.YtaeabdghlkdkjaaGreat
set_option linter.unusedVariables false
open Go.RowKit Go.MapKept

/-! ### Plain -/
theorem Tidy.openJ {m : DM} {n t : Nat} (h : Tidy m n t) (nm : ByteArray) : Tidy (openOf m nm).m (n + 67108880) (t + 67108880) := by
  have hb := h.good.get nm
  have hs := scan_frames_le ((fget m.now nm).getD [])
  unfold openOf
  split
  · split
    · have hr : runSteps (createSteps nm) m = rthen (createOf m nm) syncOf := by
        unfold createSteps
        simp only [runSteps_fun, rthen_last]
      have h2 : Tidy (rthen (createOf m nm) syncOf).2 (n + 1 + 0) (t + 1 + 0) := (h.create nm).then (h.create nm).sync
      rw [hr]
      split <;> exact h2.mono (by omega) (by omega)
    · split
      · split
        · unfold openLay
          have := h.lay nm (framesOf (scanOf ((fget m.now nm).getD [])).1)
          split <;> exact this.mono (by omega) (by omega)
        · exact h.mono (by omega) (by omega)
      · exact h.mono (by omega) (by omega)
  · exact h.mono (by omega) (by omega)
theorem scan_used (b : List UInt8) : (scanOf b).2 = (framesOf (scanOf b).1).length := by
  have h := (scanFrom_frames (l := b) (b.length + 1) 0 (Nat.zero_le _)).1
  unfold scanOf
  omega
theorem open_recs {m : DM} {n : Nat} (h : Good m n) (nm : ByteArray) {l : List (List UInt8)} {u : Nat} (hr : (openOf m nm).res = some (l, u)) : (openOf m nm).code = 0 ∧ u = (framesOf l).length ∧ u ≤ 67108864 := by
  have hb := h.get nm
  have hs := scan_frames_le ((fget m.now nm).getD [])
  have hu := scan_used ((fget m.now nm).getD [])
  have key : ∀ s : List (List UInt8) × Nat, s = scanOf ((fget m.now nm).getD []) → s = (l, u) → u = (framesOf l).length ∧ u ≤ 67108864 := fun s h1 h2 => by
    subst h2
    rw [← h1] at hs hu
    simp only at hs hu
    omega
  unfold openOf at hr ⊢
  split at hr
  · rename_i h1
    rw [if_pos h1]
    split at hr
    · rename_i h2
      rw [if_pos h2]
      split at hr
      · rename_i h3
        rw [if_pos h3]
        simp only [Option.some.injEq, Prod.mk.injEq] at hr
        obtain ⟨rfl, rfl⟩ := hr
        exact ⟨rfl, rfl, Nat.zero_le _⟩
      · cases hr
    · rename_i h2
      rw [if_neg h2]
      split at hr
      · rename_i h3
        rw [if_pos h3]
        split at hr
        · rename_i h4
          rw [if_pos h4]
          unfold openLay at hr ⊢
          split at hr
          · rename_i h5
            rw [if_pos h5]
            simp only [Option.some.injEq] at hr
            exact ⟨rfl, key _ rfl hr⟩
          · cases hr
        · rename_i h4
          rw [if_neg h4]
          simp only [Option.some.injEq] at hr
          exact ⟨rfl, key _ rfl hr⟩
      · cases hr
  · cases hr
theorem open_fresh {room : Int} {nm : ByteArray} {l : List (List UInt8)} {u : Nat} (hr : (openOf (newOf room) nm).res = some (l, u)) : l = [] := by
  unfold openOf at hr
  split at hr
  · rw [if_pos (show thereOf (newOf room) nm = 6 from rfl)] at hr
    split at hr
    · simp only [Option.some.injEq, Prod.mk.injEq] at hr
      exact hr.1.symm
    · cases hr
  · cases hr
/-- What holds from step to step. -/
structure JI (m : DM) (st : Option (List (List UInt8))) (i : Nat) : Prop where
  tidy : Tidy m (68000000 * i) (68000000 * i)
  recs : ∀ l, st = some l → (framesOf l).length ≤ 67108864 + 3000 * i
theorem JI.next {m : DM} {st : Option (List (List UInt8))} {i : Nat} (h : JI m st i) : JI m st (i + 1) := ⟨h.tidy.mono (by omega) (by omega), fun l e => Nat.le_trans (h.recs l e) (by omega)⟩
theorem JI.open {m : DM} {st : Option (List (List UInt8))} {i : Nat} (h : JI m st i) (nm : ByteArray) : JI (openOf m nm).m ((openOf m nm).res.map (·.1)) (i + 1) := by
  refine ⟨(h.tidy.openJ nm).mono (by omega) (by omega), fun l e => ?_⟩
  cases hr : (openOf m nm).res with
  | none => rw [hr] at e; cases e
  | some s =>
    obtain ⟨l', u⟩ := s
    rw [hr] at e
    simp at e
    subst e
    have := (open_recs h.tidy.good nm hr).2
    omega
theorem JI.append {m : DM} {l : List (List UInt8)} {i : Nat} (h : JI m (some l) i) (nm : ByteArray) (p : List UInt8) (hp : p.length ≤ 2000) :
    ∃ c m' l', rAppendOf m nm l p = (c, m', l') ∧ jAppendOf m nm (framesOf l).length p = (c, m', (framesOf l').length) ∧ JI m' (some l') (i + 1) := by
  have ht := h.tidy.append nm (frameOf p)
  have hl := h.recs l rfl
  have hb : ¬ 1048568 < p.length := by omega
  unfold rAppendOf jAppendOf
  rw [if_neg hb, if_neg hb]
  by_cases hc : (appendOf m nm (frameOf p)).1 = 0
  · rw [if_pos hc, if_pos hc]
    have hlen : (framesOf (l ++ [p])).length = (framesOf l).length + (8 + p.length) := by
      rw [framesOf_append, List.length_append, framesOf_cons, framesOf_nil, List.append_nil, frameOf_length]
    exact ⟨_, _, _, rfl, by rw [hlen], ht.mono (by omega) (by omega), fun l' e => by rw [← Option.some.inj e]; omega⟩
  · rw [if_neg hc, if_neg hc]
    exact ⟨_, _, _, rfl, rfl, ht.mono (by omega) (by omega), fun l' e => by rw [← Option.some.inj e]; omega⟩
theorem JI.sync {m : DM} {st : Option (List (List UInt8))} {i : Nat} (h : JI m st i) : JI (syncOf m).2 st (i + 1) := ⟨h.tidy.sync.mono (by omega) (by omega), h.next.recs⟩
theorem JI.does {m : DM} {st : Option (List (List UInt8))} {i : Nat} (h : JI m st i) (o : Op9) (hn : o.n ≤ 9223372036854775807) : JI (does9 m o) st (i + 1) := ⟨(h.tidy.does9 o hn).mono (by omega) (by omega), h.next.recs⟩
theorem framesOf_all (ll : List (List UInt8)) : (framesOf ll).length = 8 * ll.length + total ll := by
  induction ll with
  | nil => rfl
  | cons p ll ih => rw [framesOf_cons, List.length_append, frameOf_length, ih, List.length_cons]; simp [total]; omega
/-- What Rewrite answers, what it leaves, and the records behind it. -/
def rRewriteOf (m : DM) (nm : ByteArray) (l ll : List (List UInt8)) : Int × DM × List (List UInt8) :=
  if (layOf m nm (framesOf ll)).1 = 0 then (0, (layOf m nm (framesOf ll)).2, ll) else ((layOf m nm (framesOf ll)).1, (layOf m nm (framesOf ll)).2, l)
theorem small_fits {ll : List (List UInt8)} (h : smallOf ll = true) : (framesOf ll).length ≤ 2200 ∧ ¬ tooLong ll := by
  obtain ⟨h1, h2, h3⟩ := smallOf_true h
  rw [framesOf_all]
  exact ⟨by omega, fun ⟨p, hp, hb⟩ => by have := h3 p hp; omega⟩
theorem JI.rewrite {m : DM} {l : List (List UInt8)} {i : Nat} (h : JI m (some l) i) (nm : ByteArray) {ll : List (List UInt8)} (hs : smallOf ll = true) :
    ∃ c m' l', rRewriteOf m nm l ll = (c, m', l') ∧ jRewriteOf m nm (framesOf l).length ll = (c, m', (framesOf l').length) ∧ JI m' (some l') (i + 1) := by
  have hf := (small_fits hs).1
  have ht := h.tidy.lay nm (framesOf ll)
  have hl := h.recs l rfl
  unfold rRewriteOf jRewriteOf
  by_cases hc : (layOf m nm (framesOf ll)).1 = 0
  · rw [if_pos hc, if_pos hc]
    exact ⟨_, _, _, rfl, rfl, ht.mono (by omega) (by omega), fun l' e => by rw [← Option.some.inj e]; exact Nat.le_trans hf (Nat.le_trans (by decide) (Nat.le_add_right 67108864 _))⟩
  · rw [if_neg hc, if_neg hc]
    exact ⟨_, _, _, rfl, rfl, ht.mono (by omega) (by omega), fun l' e => by rw [← Option.some.inj e]; omega⟩

/-! ### Side by side -/
/-- Both disks and both journals. -/
def JTwo (w0 w : World) (d r j k : Nat) (nm : ByteArray) (m : DM) (l : List (List UInt8)) (v : Value) (rs : List (Res w0.heap.size)) : Prop :=
  Own w0 w (rDisk w0.heap.size d m :: rRef w0.heap.size r m :: rObj w0.heap.size j (jrnObj d nm (framesOf l).length) :: rObj w0.heap.size k (rjObj r nm v) :: rRows w0.heap.size v l :: rs)
theorem Own.to_j {w0 w : World} {D R J : Res w0.heap.size} {rs : List (Res w0.heap.size)} (h : Own w0 w (D :: R :: J :: rs)) : Own w0 w (D :: J :: R :: rs) := h.perm (List.Perm.cons _ (List.Perm.swap ..))
theorem Own.to_r {w0 w : World} {D J R K V : Res w0.heap.size} {rs : List (Res w0.heap.size)} (h : Own w0 w (D :: J :: R :: K :: V :: rs)) : Own w0 w (R :: K :: V :: D :: J :: rs) :=
  h.perm ((List.perm_append_comm (l₁ := [D, J]) (l₂ := [R, K, V])).append_right rs)
theorem Own.of_r {w0 w : World} {D J R K V : Res w0.heap.size} {rs : List (Res w0.heap.size)} (h : Own w0 w (R :: K :: V :: D :: J :: rs)) : Own w0 w (D :: R :: J :: K :: V :: rs) :=
  (h.perm ((List.perm_append_comm (l₁ := [R, K, V]) (l₂ := [D, J])).append_right rs)).to_j
section
variable {w0 w : World} {d r j k : Nat} {nm : ByteArray} {m : DM} {l : List (List UInt8)} {v : Value} {rs : List (Res w0.heap.size)}
/-- A call of the one journal and then of the other answer the same number; both leave the same. -/
def Twice (w0 w : World) (d r j k : Nat) (nm : ByteArray) (rs : List (Res w0.heap.size)) (f g : FuncId) (a b : Array Value) (c : Int) (m' : DM) (l' : List (List UInt8)) : Prop :=
  Calls Tryz.prog f a w fun e w1 => e = .returned (.int .i64 c) ∧ (∀ t o, rObj w0.heap.size t o ∈ rs → w1.heap[t]? = some o) ∧
    ∀ w2, (w2 = w1 ∨ w2 = w1.drew) → Calls Tryz.prog g b w2 fun e w3 => e = .returned (.int .i64 c) ∧ ∃ v', JTwo w0 w3 d r j k nm m' l' v' rs
theorem same_or_drew {w0 w1 w2 : World} {rs : List (Res w0.heap.size)} (h : Own w0 w1 rs) (hw : w2 = w1 ∨ w2 = w1.drew) : Own w0 w2 rs := by
  rcases hw with rfl | rfl
  · exact h
  · exact h.drew
theorem objs_of {w1 : World} {x y z u s : Res w0.heap.size} (h : Own w0 w1 (x :: y :: z :: u :: s :: rs)) (t : Nat) (o : Obj) (hm : rObj w0.heap.size t o ∈ rs) : w1.heap[t]? = some o :=
  (h.at (b := t) (o := o) (by simp [hm])).1
theorem twice_append (h : JTwo w0 w d r j k nm m l v rs) {i : Nat} (hi : JI m (some l) i) (hi60 : i ≤ 100) {pv : Value} {p : List UInt8} (hp : Reads w0 pv p) (hpl : p.length ≤ 2000) :
    ∃ c m' l', JI m' (some l') (i + 1) ∧ Twice w0 w d r j k nm rs 15 16 #[.pointer (some ⟨j, 0, none⟩), pv] #[.pointer (some ⟨k, 0, none⟩), pv] c m' l' := by
  obtain ⟨c, m', l', e1, e2, hi'⟩ := hi.append nm p hpl
  have hl := hi.recs l rfl
  have hmany := frames_many l
  refine ⟨c, m', l', hi', ?_⟩
  have h1 := jappend_calls h.to_j hi.tidy.good (by omega) (by omega) (hp.keep h.keeps)
  rw [e2] at h1
  refine h1.mono ?_
  rintro e w1 ⟨he, ho⟩
  refine ⟨he, fun t o hm => objs_of ho t o hm, fun w2 hw => ?_⟩
  -- the one's disk reads as m', the other's still as m
  have h2 := rappend_calls (same_or_drew ho hw).to_r hi.tidy (by omega) (by omega) (by omega) hp
  rw [e1] at h2
  refine h2.mono ?_
  rintro e w3 ⟨he, v', ho3⟩
  exact ⟨he, v', ho3.of_r⟩
theorem twice_rewrite (h : JTwo w0 w d r j k nm m l v rs) {i : Nat} (hi : JI m (some l) i) (hi60 : i ≤ 100) (hnm : nm.size ≤ 200) {rv : Value} {ll : List (List UInt8)} (hr : RowsIn w0 rv ll) (hs : smallOf ll = true) :
    ∃ c m' l', JI m' (some l') (i + 1) ∧ Twice w0 w d r j k nm rs 87 88 #[.pointer (some ⟨j, 0, none⟩), rv] #[.pointer (some ⟨k, 0, none⟩), rv] c m' l' := by
  obtain ⟨c, m', l', e1, e2, hi'⟩ := hi.rewrite nm hs
  obtain ⟨hf, hlong⟩ := small_fits hs
  refine ⟨c, m', l', hi', ?_⟩
  have h1 := jrewrite_calls h.to_j hi.tidy.good (by omega) (hr.keep h.keeps) (by omega) (r := jRewriteOf m nm (framesOf l).length ll) (fun e => absurd e hlong) (fun _ => rfl)
  rw [e2] at h1
  refine h1.mono ?_
  rintro e w1 ⟨he, ho⟩
  refine ⟨he, fun t o hm => objs_of ho t o hm, fun w2 hw => ?_⟩
  have h2 := rrewrite_calls (same_or_drew ho hw).to_r hi.tidy (by omega) hr (by omega) (by omega) (R := rRewriteOf m nm l ll) (fun e => absurd e hlong) (fun _ => rfl)
  rw [e1] at h2
  refine h2.mono ?_
  rintro e w3 ⟨he, v', ho3⟩
  exact ⟨he, v', ho3.of_r⟩
theorem twice_sync (h : JTwo w0 w d r j k nm m l v rs) {i : Nat} (hi : JI m (some l) i) :
    ∃ c m', JI m' (some l) (i + 1) ∧ Twice w0 w d r j k nm rs 83 66 #[.pointer (some ⟨j, 0, none⟩)] #[.pointer (some ⟨r, 0, none⟩)] c m' l := by
  refine ⟨(syncOf m).1, (syncOf m).2, hi.sync, ?_⟩
  refine (jsync_calls h.to_j hi.tidy.good).mono ?_
  rintro e w1 ⟨he, ho⟩
  refine ⟨he, fun t o hm => objs_of ho t o hm, fun w2 hw => ?_⟩
  obtain ⟨w3, hr3, ho3⟩ := (same_or_drew ho hw).to_r.rsync hi.tidy
  refine hr3.mono ?_
  rintro e w' ⟨rfl, rfl⟩
  exact ⟨rfl, v, ho3.of_r⟩
/-- What both Opens leave. -/
def Opened (w0 w3 : World) (d r : Nat) (nm : ByteArray) (m' : DM) (rs : List (Res w0.heap.size)) (st : Option (List (List UInt8))) (jp kp ra : Option Addr) (n rc : Nat) : Prop :=
  (st = none ∧ jp = none ∧ kp = none ∧ n = 0 ∧ Own w0 w3 (rDisk w0.heap.size d m' :: rRef w0.heap.size r m' :: rs)) ∨
  ∃ (l : List (List UInt8)) (j q : Nat) (v : Value), st = some l ∧ jp = some ⟨j, 0, none⟩ ∧ kp = some ⟨q, 0, none⟩ ∧ n = l.length ∧ n ≤ rc ∧ rc ≤ maxLen ∧ JTwo w0 w3 d r j q nm m' l v (rRows w0.heap.size (.slice ra n rc) l :: rs)
theorem Own.rowsCap {w wr : World} {rs : List (Res w.heap.size)} {v : Value} {ll : List (List UInt8)} (h : Own w wr rs) (hm : rRows w.heap.size v ll ∈ rs) : ∃ a c, v = .slice a ll.length c ∧ ll.length ≤ c ∧ c ≤ maxLen := by
  obtain ⟨F, ⟨ps, G, h1, _⟩, _⟩ := h.mem hm
  rcases h1.2 with ⟨rfl, e⟩ | ⟨g, cap, cur, rfl, _, _, h4, h5, _⟩
  · exact ⟨none, 0, by rw [e], by omega, Nat.zero_le _⟩
  · exact ⟨_, cap, rfl, h4, h5⟩
theorem open_both {i : Nat} {st : Option (List (List UInt8))} (h : Own w0 w (rDisk w0.heap.size d m :: rRef w0.heap.size r m :: rs)) (hi : JI m st i) (hi60 : i ≤ 100) (hnm : nm.size ≤ 200) :
    ∃ c m' st', JI m' st' (i + 1) ∧ (∀ room, m = newOf room → ∀ l, st' = some l → l = []) ∧
      Calls Tryz.prog 12 #[.pointer (some ⟨d, 0, none⟩), .string nm] w fun e w1 => ∃ (jp ra : Option Addr) (n rc : Nat), e = .returned (.tuple #[.pointer jp, .slice ra n rc, .int .i64 c]) ∧ (st' = some [] ∨ st' = none → n = 0) ∧ (∀ t o, rObj w0.heap.size t o ∈ rs → w1.heap[t]? = some o) ∧
        ∀ w2, (w2 = w1 ∨ w2 = w1.drew) → Calls Tryz.prog 13 #[.pointer (some ⟨r, 0, none⟩), .string nm] w2 fun e w3 => ∃ kp : Option Addr, e = .returned (.tuple #[.pointer kp, .int .i64 c]) ∧ jp.isNone = kp.isNone ∧ Opened w0 w3 d r nm m' rs st' jp kp ra n rc := by
  have hrec := fun l u => open_recs (l := l) (u := u) hi.tidy.good nm
  refine ⟨(openOf m nm).code, (openOf m nm).m, (openOf m nm).res.map (·.1), hi.open nm, ?_, ?_⟩
  · rintro room rfl l e
    cases hr : (openOf (newOf room) nm).res with
    | none => rw [hr] at e; cases e
    | some s =>
      obtain ⟨l', u⟩ := s
      rw [hr] at e
      rw [← Option.some.inj e]
      exact open_fresh hr
  refine (open_calls h hi.tidy.good (by omega) nm).mono ?_
  have hro := fun (w2 : World) (rs2 : List (Res w0.heap.size)) (h2 : Own w0 w2 (rRef w0.heap.size r m :: rs2)) => ropen_calls h2 hi.tidy (by omega) (by omega) nm (by omega)
  generalize openOf m nm = R at hro hrec
  obtain ⟨Rc, Rm, Rr⟩ := R
  simp only at hro hrec
  rintro e w1 (⟨hn, he, ho⟩ | ⟨recs, used, j, v, hres, he, ho⟩)
  · simp only at hn he ho
    subst hn
    refine ⟨none, none, 0, 0, he, fun _ => rfl, fun t o hm => (ho.at (b := t) (o := o) (by simp [hm])).1, fun w2 hw => ?_⟩
    refine (hro w2 _ (same_or_drew ho hw).swap).mono ?_
    rintro e w3 (⟨hn, he, ho3⟩ | ⟨recs, used, q, v, hres, he, ho3⟩)
    · exact ⟨none, he, rfl, .inl ⟨rfl, rfl, rfl, rfl, ho3.swap⟩⟩
    · cases hres
  · simp only at hres he ho
    subst hres
    obtain ⟨hc, hu, hul⟩ := hrec _ _ rfl
    subst hc hu
    obtain ⟨ra, rc, rfl, c1, c2⟩ := ho.rowsCap (v := v) (ll := recs) (by simp)
    refine ⟨some ⟨j, 0, none⟩, ra, recs.length, rc, he, ?_, fun t o hm => (ho.at (b := t) (o := o) (by simp [hm])).1, fun w2 hw => ?_⟩
    · rintro (e | e)
      · have := Option.some.inj e
        simp only at this
        rw [this]; rfl
      · cases e
    have h4 : Own w0 w2 (rRef w0.heap.size r m :: rDisk w0.heap.size d Rm :: rObj w0.heap.size j (jrnObj d nm (framesOf recs).length) :: rRows w0.heap.size (.slice ra recs.length rc) recs :: rs) :=
      (same_or_drew ho hw).perm ((List.perm_append_comm (l₁ := [_, _, _]) (l₂ := [_])).append_right rs)
    refine (hro w2 _ h4).mono ?_
    rintro e w3 (⟨hn, he, ho3⟩ | ⟨recs3, used3, q, v, hres, he, ho3⟩)
    · cases hn
    · simp only [Option.some.injEq, Prod.mk.injEq] at hres
      obtain ⟨rfl, rfl⟩ := hres
      exact ⟨some ⟨q, 0, none⟩, he, rfl, .inr ⟨recs, j, q, v, rfl, rfl, rfl, rfl, c1, c2, ho3.of_r⟩⟩
theorem JTwo.box (h : JTwo w0 w d r j k nm m l v []) (o : Obj) : JTwo w0 (w.alloc o) d r j k nm m l v [rObj w0.heap.size w.heap.size o] :=
  (Own.alloc h o).perm (List.perm_append_comm (l₁ := [_]) (l₂ := [_, _, _, _, _]))
theorem JTwo.unbox {x : Res w0.heap.size} (h : JTwo w0 w d r j k nm m l v (x :: rs)) : JTwo w0 w d r j k nm m l v rs :=
  Own.drop (r := x) (h.perm ((List.perm_append_comm (l₁ := [_, _, _, _, _]) (l₂ := [x])).append_right rs))
theorem JTwo.drop3 (h : JTwo w0 w d r j k nm m l v rs) : Own w0 w (rDisk w0.heap.size d m :: rRef w0.heap.size r m :: rs) :=
  (Own.perm h ((List.perm_append_comm (l₁ := [_, _]) (l₂ := [_, _, _])).append_right rs)).drop.drop.drop
end
end Go.Proofs.YtaeabdghlkdkjaaGreat
