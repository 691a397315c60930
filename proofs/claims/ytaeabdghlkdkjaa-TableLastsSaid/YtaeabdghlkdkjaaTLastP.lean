/- The things of TableLasts: two rows of pairs that may share their bytes; a table on a disk whose power may go. -/
import Derived.Test.YtaeabdghlkdkjaaTLastV
import Derived.Test.YtaeabdghlkdkjaaRPr
import Derived.Test.YtaeabdghlkdkjaaTREnc
import Derived.Test.YtaeabdghlkdkjaaTOpsT
namespace Go.Proofs.Ytaeabdghlkdkjaa
set_option linter.unusedVariables false
open Go.RowKit Go.MapKept

/-- Two rows of pairs, which may share what they hold. -/
def rNN (B : Nat) (v : Value) (fs : FS) (v2 : Value) (fs2 : FS) : Res B := ⟨fun F w => PairsAt F w v fs ∧ PairsAt F w v2 fs2, fun _ _ _ h hk => ⟨h.1.same (fun b hb => hk b (.inl hb)), h.2.same (fun b hb => hk b (.inl hb))⟩⟩
section
variable {w wr : World} {rs : List (Res w.heap.size)} {v v2 : Value} {fs fs2 : FS}
theorem Own.nilNN (h : Own w wr rs) : Own w wr (rNN w.heap.size (.slice none 0 0) [] (.slice none 0 0) [] :: rs) :=
  h.add (Keeps.refl _ _) (r := rNN w.heap.size (.slice none 0 0) [] (.slice none 0 0) []) (G := fun _ => False) ⟨PairsAt.nil _ _, PairsAt.nil _ _⟩ (fun b hb => hb.elim)
theorem Own.nn (h : Own w wr rs) (hm : rNN w.heap.size v fs v2 fs2 ∈ rs) : ∃ F : Nat → Prop, PairsAt F wr v fs ∧ PairsAt F wr v2 fs2 := by
  obtain ⟨F, hF, _⟩ := h.mem hm
  exact ⟨F, hF⟩
theorem Own.nnTwice (h : Own w wr (rNN w.heap.size v fs v2 fs2 :: rs)) : Own w wr (rNN w.heap.size v fs v fs :: rs) := by
  obtain ⟨F, hF, hb, hback⟩ := h.open1
  exact hback wr (rNN w.heap.size v fs v fs) (Keeps.refl _ _) ⟨hF.1.quiet (Keeps.refl _ _) (fun b hb _ => .inl hb), hF.1.quiet (Keeps.refl _ _) (fun b hb _ => .inl hb)⟩
theorem Own.nnDo (h : Own w wr (rNN w.heap.size v fs v2 fs2 :: rs)) (hs : FSorted fs) {a : Option Addr} {c : Nat} {l : List TCh} (hc : TChsIn wr a l) (hl : fs.length + l.length < 1099511627775) (hv : ∀ x ∈ l, x.val.length ≤ 140737488355328) :
    Calls Try.prog 14 #[v, .slice a l.length c] wr (fun e w' => ∃ v', e = .returned v' ∧ Own w w' (rNN w.heap.size v' (tdos fs l) v2 fs2 :: rs) ∧ Own w w' (rNN w.heap.size v fs v' (tdos fs l) :: rs)) := by
  obtain ⟨F, hF, hb, hback⟩ := h.open1
  refine (rdo11_calls hF.1 hs hc hl hv).mono ?_
  rintro e w' ⟨v', rfl, hp, hk⟩
  exact ⟨v', rfl, hback w' (rNN w.heap.size v' (tdos fs l) v2 fs2) hk.any ⟨hp, hF.2.quiet hk (fun b hb _ => .inl hb)⟩, hback w' (rNN w.heap.size v fs v' (tdos fs l)) hk.any ⟨hF.1.quiet hk (fun b hb _ => .inl hb), hp⟩⟩
theorem Own.nnNew {w' : World} (h : Own w wr (rNN w.heap.size v fs v2 fs2 :: rs)) {v' : Value} {fs' : FS} (hp : PairsAt (fun b => wr.heap.size ≤ b) w' v' fs') (hk : Keeps (fun _ => False) wr w') : Own w w' (rNN w.heap.size v' fs' v2 fs2 :: rs) := by
  obtain ⟨F, hF, hb, hback⟩ := h.open1
  exact hback w' (rNN w.heap.size v' fs' v2 fs2) hk.any ⟨hp.quiet (Keeps.refl _ _) (fun b hb hlt => .inr ⟨hb, hlt⟩), hF.2.quiet hk (fun b hb _ => .inl hb)⟩
theorem Own.fuseT {d : Nat} {m : DM} (h : Own w wr (rDisk w.heap.size d m :: rs)) (n : Int) :
    ∃ w', Runs 26 #[.pointer (some ⟨d, 0, none⟩), .int .i64 n] wr (.int .i64 (fuseOf m n).1) w' ∧ Own w w' (rDisk w.heap.size d (fuseOf m n).2 :: rs) := by
  obtain ⟨F, h1, back⟩ := h.disk
  obtain ⟨w', hr, h2, k⟩ := fuse_runs h1 n
  exact ⟨w', hr, (back _ (.returned (.int .i64 (fuseOf m n).1)) w' ⟨rfl, h2, k⟩).2⟩
/-- A table opened, whatever comes of it. -/
theorem topen_any {d : Nat} {m : DM} (h : Own w wr (rDisk w.heap.size d m :: rs)) {n : Nat} (hg : Good m n) (hn : n < 549755813888) (nm : ByteArray) :
    Calls Try.prog 9 #[.pointer (some ⟨d, 0, none⟩), .string nm] wr (fun e w' => (∃ vv, e = .returned vv) ∧ Own w w' (rDisk w.heap.size d (tOpenOf m nm).m :: rs)) := by
  refine (topen_calls h hg hn nm).mono ?_
  rintro e w' (⟨_, rfl, h2⟩ | ⟨size, fs, j, t, b, _, rfl, h2⟩)
  · exact ⟨⟨_, rfl⟩, h2⟩
  · exact ⟨⟨_, rfl⟩, h2.drop2.drop2.drop2⟩
end

/-- What the loop of TableLasts holds to. -/
def TLs (w0 wx : World) (d k : Nat) (rs : List (Res w0.heap.size)) (tv av nv cv : Value) : Prop :=
  ∃ (j t b : Nat) (m : DM) (size : Nat) (now nxt : FS) (cut : Bool), tv = .pointer (some ⟨t, 0, none⟩) ∧ cv = .bool cut ∧ (∃ a c, av = .slice a now.length c) ∧ (∃ a n c, nv = .slice a n c) ∧ TLI 16777216 now nxt cut m size (40000 * k) (3000000 * (k + 1)) ∧
    Own w0 wx (tRes w0.heap.size d j t b nmT ⟨m, size, now, cut⟩ ++ rNN w0.heap.size av now nv nxt :: rs)
theorem TLs.mk {w0 wx : World} {d k j t b : Nat} {m : DM} {size : Nat} {now nxt : FS} {cut : Bool} {rs : List (Res w0.heap.size)} {av nv : Value} (hi : TLI 16777216 now nxt cut m size (40000 * k) (3000000 * (k + 1)))
    (h : Own w0 wx (tRes w0.heap.size d j t b nmT ⟨m, size, now, cut⟩ ++ rNN w0.heap.size av now nv nxt :: rs)) : TLs w0 wx d k rs (.pointer (some ⟨t, 0, none⟩)) av nv (.bool cut) := by
  obtain ⟨F, hF, hF2⟩ := h.nn (v := av) (fs := now) (v2 := nv) (fs2 := nxt) (by simp [tRes])
  obtain ⟨a1, c1, e1, -, -⟩ := hF.form
  obtain ⟨a2, c2, e2, -, -⟩ := hF2.form
  exact ⟨j, t, b, m, size, now, nxt, cut, rfl, rfl, ⟨a1, c1, e1⟩, ⟨a2, _, c2, e2⟩, hi, h⟩
theorem TLs.keeps {w0 wx : World} {d k : Nat} {rs : List (Res w0.heap.size)} {tv av nv cv : Value} (h : TLs w0 wx d k rs tv av nv cv) : Keeps (fun _ => False) w0 wx := by
  obtain ⟨j, t, b, m, size, now, nxt, cut, -, -, -, -, -, h⟩ := h
  exact Own.keeps h
theorem TLs.quiet {w0 wx w' : World} {d k : Nat} {rs : List (Res w0.heap.size)} {tv av nv cv : Value} (h : TLs w0 wx d k rs tv av nv cv) (hk : Keeps (fun _ => False) wx w') : TLs w0 w' d k rs tv av nv cv := by
  obtain ⟨j, t, b, m, size, now, nxt, cut, h1, h2, h3, h4, h5, h⟩ := h
  exact ⟨j, t, b, m, size, now, nxt, cut, h1, h2, h3, h4, h5, Own.quiet h hk⟩
theorem own_last {w wr : World} {a b c d e r : Res w.heap.size} {rs : List (Res w.heap.size)} (h : Own w wr (a :: b :: c :: d :: e :: r :: rs)) : Own w wr (a :: b :: c :: d :: e :: rs) := (Own.pull (l₁ := [a, b, c, d, e]) h).drop
theorem own_box {w wr : World} {a b c d e r : Res w.heap.size} {rs : List (Res w.heap.size)} (h : Own w wr (r :: a :: b :: c :: d :: e :: rs)) : Own w wr (a :: b :: c :: d :: e :: r :: rs) := h.perm (List.perm_middle (l₁ := [a, b, c, d, e])).symm
theorem own_four {w wr : World} {a b c d r : Res w.heap.size} {rs : List (Res w.heap.size)} (h : Own w wr (a :: b :: c :: d :: r :: rs)) : Own w wr (r :: a :: b :: c :: d :: rs) := Own.pull (l₁ := [a, b, c, d]) h
theorem own_five {w wr : World} {a b c d r : Res w.heap.size} {rs : List (Res w.heap.size)} (h : Own w wr (r :: a :: b :: c :: d :: rs)) : Own w wr (a :: b :: c :: d :: r :: rs) := h.perm (List.perm_middle (l₁ := [a, b, c, d])).symm
theorem TLs.unbox {w0 wx : World} {d k : Nat} {r : Res w0.heap.size} {rs : List (Res w0.heap.size)} {tv av nv cv : Value} (h : TLs w0 wx d k (r :: rs) tv av nv cv) : TLs w0 wx d k rs tv av nv cv := by
  obtain ⟨j, t, b, m, size, now, nxt, cut, h1, h2, h3, h4, h5, h⟩ := h
  exact ⟨j, t, b, m, size, now, nxt, cut, h1, h2, h3, h4, h5, own_last h⟩
theorem TLs.box {w0 wx : World} {d k : Nat} {rs : List (Res w0.heap.size)} {tv av nv cv : Value} (h : TLs w0 wx d k rs tv av nv cv) (o : Obj) : TLs w0 (wx.alloc o) d k (rObj w0.heap.size wx.heap.size o :: rs) tv av nv cv := by
  obtain ⟨j, t, b, m, size, now, nxt, cut, h1, h2, h3, h4, h5, h⟩ := h
  exact ⟨j, t, b, m, size, now, nxt, cut, h1, h2, h3, h4, h5, own_box (Own.alloc h o)⟩
theorem TLs.obj {w0 wx : World} {d k t : Nat} {o : Obj} {rs : List (Res w0.heap.size)} {tv av nv cv : Value} (h : TLs w0 wx d k rs tv av nv cv) (hm : rObj w0.heap.size t o ∈ rs) : wx.heap[t]? = some o := by
  obtain ⟨j, t', b, m, size, now, nxt, cut, h1, h2, h3, h4, h5, h⟩ := h
  exact (Own.at h (b := t) (o := o) (by simp [hm])).1
theorem TLs.next {w0 wx : World} {d k : Nat} {rs : List (Res w0.heap.size)} {tv av nv cv : Value} (h : TLs w0 wx d k rs tv av nv cv) : TLs w0 wx d (k + 1) rs tv av nv cv := by
  obtain ⟨j, t, b, m, size, now, nxt, cut, h1, h2, h3, h4, h5, h⟩ := h
  exact ⟨j, t, b, m, size, now, nxt, cut, h1, h2, h3, h4, h5.mono (by omega) (by omega), h⟩
theorem TLs.start {w0 wx : World} {d j t b : Nat} (h : Own w0 wx (tRes w0.heap.size d j t b nmT ⟨oneT 16777216 [], 0, [], false⟩)) : TLs w0 wx d 0 [] (.pointer (some ⟨t, 0, none⟩)) (.slice none 0 0) (.slice none 0 0) (.bool false) :=
  TLs.mk ((TLI.start (R := 16777216) (by omega) (by omega) []).mono (by omega) (by omega)) (own_five (Own.nilNN h))
/-- The table's memory. -/
theorem tab_mem {w0 wx : World} {d j t b : Nat} {T : TM} {rs : List (Res w0.heap.size)} (h : Own w0 wx (tRes w0.heap.size d j t b nmT T ++ rs)) : wx.heap[t]? = some (tabObj j b T.down) ∧ ∃ F : Nat → Prop, MapFs F wx b T.fs := by
  obtain ⟨F, ⟨_, hmap⟩, _⟩ := h.mem (r := rMap w0.heap.size b T.fs) (by simp [tRes])
  exact ⟨(h.at (b := t) (o := tabObj j b T.down) (by simp [tRes])).1, F, hmap⟩
theorem TLI.len {R : Int} {now nxt : FS} {cut : Bool} {m : DM} {size L n : Nat} (h : TLI R now nxt cut m size L n) : now.length ≤ L := by
  have h1 := w60_len now
  have h2 := h.wt
  omega
/-- Apply, of a small script's changes. -/
theorem TLI.app {now nxt : FS} {cut : Bool} {m : DM} {size k : Nat} (h : TLI 16777216 now nxt cut m size (40000 * k) (3000000 * (k + 1))) (hk : k < 60) {l : List TCh} (hs : smallB l = true) :
    (cut = true ∧ tAppOf ⟨m, size, now, cut⟩ nmT l = (5, ⟨m, size, now, cut⟩)) ∨
    (cut = false ∧ (encOf l).1 ≠ 0 ∧ tAppOf ⟨m, size, now, cut⟩ nmT l = ((encOf l).1, ⟨m, size, now, cut⟩)) ∨
    (cut = false ∧ (encOf l).1 = 0 ∧ ∃ m' s', tAppOf ⟨m, size, now, cut⟩ nmT l = (0, ⟨m', s', tdos now l, false⟩) ∧ TLI 16777216 (tdos now l) nxt false m' s' (40000 * (k + 1)) (3000000 * (k + 1 + 1))) ∨
    (cut = false ∧ (encOf l).1 = 0 ∧ ∃ m' s', tAppOf ⟨m, size, now, cut⟩ nmT l = (5, ⟨m', s', now, true⟩) ∧ TLI 16777216 now (tdos now l) true m' s' (40000 * (k + 1)) (3000000 * (k + 1 + 1))) := by
  obtain ⟨h1, h2⟩ := smallB_true hs
  have hw : ∀ l : List TCh, (∀ c ∈ l, c.key.size ≤ 400 ∧ c.val.length ≤ 500) → w60c l ≤ 960 * l.length := fun l hl => by
    induction l with
    | nil => exact Nat.le_refl _
    | cons c l ih =>
      have h3 := w60c_cons c l
      have h4 := ih (fun x hx => hl x (List.mem_cons_of_mem _ hx))
      have h5 := hl c (List.mem_cons_self ..)
      rw [List.length_cons]
      omega
  have hw2 := hw l h2
  rcases h.apply (l := l) (δ := 40000) (by omega) (by omega) (by omega) with h3 | h3 | ⟨a, b, m', s', e, h3⟩ | ⟨a, b, m', s', e, h3⟩
  · exact .inl h3
  · exact .inr (.inl h3)
  · exact .inr (.inr (.inl ⟨a, b, m', s', e, h3.mono (by omega) (by omega)⟩))
  · exact .inr (.inr (.inr ⟨a, b, m', s', e, h3.mono (by omega) (by omega)⟩))
end Go.Proofs.Ytaeabdghlkdkjaa
