/- A part of the proof. -/
import Derived.Test.YtddnikpdmjogiaaGreatYa5
import Derived.Test.YtddnikpdmjogiaaGreatYb6
import Derived.Test.YtddnikpdmjogiaaGreatYb9
import Derived.Test.YtddnikpdmjogiaaGreatYc5
namespace Go.Proofs.YtddnikpdmjogiaaGreat
set_option linter.unusedVariables false
open Go.RowKit Go.MapKept
def wtOf (fs : FS) : Nat := (fs.map (fun p => 1 + p.1.size + p.2.length)).sum
def wtCh (l : List TCh) : Nat := (l.map (fun c => 1 + c.key.size + c.val.length)).sum
theorem wt_filter (q : ByteArray × List UInt8 → Bool) : ∀ fs : FS, wtOf (fs.filter q) ≤ wtOf fs
 | [] => Nat.le_refl _
 | x :: l => by
  have := wt_filter q l
  unfold wtOf at *
  rw [List.filter_cons]
  split
  ·simp only [List.map_cons, List.sum_cons]; omega
  ·simp only [List.map_cons, List.sum_cons]; omega
theorem wt_tdo (fs : FS) (c : TCh) : wtOf (tdo fs c) ≤ wtOf fs + (1 + c.key.size + c.val.length) := by
 unfold tdo
 split
 ·have := wt_filter (fun p => p.1 ≠ c.key) fs
  unfold fdel
  omega
 ·have h1 := wt_filter (fun p => p.1 ≠ c.key) fs
  have h2 : wtOf (fput fs c.key c.val) = wtOf ((c.key, c.val) :: fdel fs c.key) := by
   unfold wtOf fput
   exact ((fins_perm _ _).map _).sum_nat
  rw [h2]
  unfold fdel
  unfold wtOf at *
  simp only [List.map_cons, List.sum_cons]
  omega
theorem wt_tdos : ∀ (l : List TCh) (fs : FS), wtOf (tdos fs l) ≤ wtOf fs + wtCh l
 | [], fs => by simp [tdos, wtCh]
 | c :: l, fs => by
  have h1 := wt_tdos l (tdo fs c)
  have h2 := wt_tdo fs c
  have h3 : wtCh (c :: l) = (1 + c.key.size + c.val.length) + wtCh l := by simp [wtCh]
  show wtOf (tdos (tdo fs c) l) ≤ _
  omega
theorem readText_wt (b : List UInt8) (most : Nat) (h : (readTextOf b most).2.2 = 0) : (readTextOf b most).1.length ≤ (readTextOf b most).2.1 := by
 unfold readTextOf at h ⊢
 split at h
 ·split at h
  ·cases h
  ·split at h
   ·cases h
   ·rename_i h1 h2 h3
    rw [if_pos h1, if_neg h2, if_neg h3, List.length_take]
    simp only
    omega
 ·rename_i h1
  exact absurd h h1
theorem decCh_wt {b b' : List UInt8} {c : TCh} (h : decCh b = some (c, b')) : 1 + c.key.size + c.val.length + b'.length ≤ b.length := by
 cases b with
 | nil => cases h
 | cons z b1 =>
  rw [decCh_cons] at h
  split at h
  ·cases h
  ·split at h
   ·rename_i hkey
    have hsz : (⟨(readTextOf b1 320).1.toArray⟩ : ByteArray).size = (readTextOf b1 320).1.length := by
     show (readTextOf b1 320).1.toArray.size = _
     simp
    have h1 := readText_wt b1 320 hkey.1
    have h2 := readText_le b1 320
    split at h
    ·cases h
     rw [hsz, List.length_drop, List.length_cons]
     simp only [List.length_nil]
     omega
    ·split at h
     ·rename_i hv
      cases h
      have h3 := readText_wt _ _ hv
      have h4 := readText_le (b1.drop (readTextOf b1 320).2.1) 262144
      rw [List.length_drop] at h4
      rw [hsz, List.length_drop, List.length_drop, List.length_cons]
      simp only
      omega
     ·cases h
   ·cases h
theorem decFrom_wt : ∀ (n : Nat) (b : List UInt8) (out l : List TCh), decFrom n b out = some l → wtCh l ≤ wtCh out + b.length
 | 0, b, out, l, h => by
  rw [decFrom] at h
  split at h
  ·cases h; omega
  ·cases h
 | n + 1, b, out, l, h => by
  rw [decFrom] at h
  cases hd : decCh b with
  | none => rw [hd] at h; cases h
  | some p =>
   obtain ⟨c, b'⟩ := p
   rw [hd] at h
   have h1 := decFrom_wt n b' (out ++ [c]) l h
   have h2 := decCh_wt hd
   have h3 : wtCh (out ++ [c]) = wtCh out + (1 + c.key.size + c.val.length) := by simp [wtCh]
   omega
theorem decOf_wt {b : List UInt8} {l : List TCh} (h : decOf b = some l) : wtCh l ≤ b.length := by
 unfold decOf at h
 split at h
 ·have h1 := decFrom_wt _ _ _ _ h
  have h2 : wtCh [] = 0 := rfl
  rw [List.length_drop] at h1
  omega
 ·cases h
theorem tabOf_wt : ∀ {recs : List (List UInt8)} {fs fs' : FS}, tabOf recs fs = some fs' → wtOf fs' ≤ wtOf fs + (framesOf recs).length
 | [], fs, fs', e => by
  simp only [tabOf, Option.some.injEq] at e
  subst e; omega
 | r :: rs, fs, fs', e => by
  rw [tabOf] at e
  cases hd : decOf r with
  | none => rw [hd] at e; cases e
  | some l =>
   rw [hd] at e
   have h1 := tabOf_wt e
   have h2 := wt_tdos l fs
   have h3 := decOf_wt hd
   rw [framesOf_cons, List.length_append, frameOf_length]
   omega
theorem textOf_leT (p : List UInt8) (h : p.length < 18446744073709551616) : (textOf p).length ≤ 10 + p.length := by
 have := countOf_len10 h
 unfold textOf
 rw [List.length_append]
 omega
theorem encCh_le {c : TCh} (h : badCh c = false) : (encCh c).length ≤ 21 + c.key.size + c.val.length := by
 obtain ⟨g0, g1, g2⟩ := badCh_false h
 have hk := key_len c.key
 have h1 := textOf_leT c.key.toList (by omega)
 have h2 := textOf_leT c.val (by omega)
 unfold encCh
 split
 ·rw [List.length_cons]; omega
 ·rw [List.length_append, List.length_cons]; omega
theorem encAll_le : ∀ (l : List TCh), (∀ c ∈ l, badCh c = false) → ((l.map encCh).flatten).length ≤ 21 * wtCh l
 | [], _ => Nat.le_refl _
 | c :: l, h => by
  have h1 := encAll_le l (fun x hx => h x (List.mem_cons_of_mem _ hx))
  have h2 := encCh_le (h c (List.mem_cons_self ..))
  have h3 : wtCh (c :: l) = (1 + c.key.size + c.val.length) + wtCh l := by simp [wtCh]
  rw [List.map_cons, List.flatten_cons, List.length_append]
  omega
theorem enc_le {l : List TCh} (h : (encOf l).1 = 0) : (encOf l).2.length ≤ 10 + 21 * wtCh l := by
 obtain ⟨h1, h2, h3, -⟩ := enc_ok h
 have h4 := encAll_le l h3
 have h5 := countOf_len10 (n := l.length) (by omega)
 rw [h2, List.length_append]
 omega
structure TI (m : DM) (recs : List (List UInt8)) (fs : FS) (i : Nat) : Prop where
 tidy : Tidy m (4000000000 * i) (4000000000 * i)
 recs : (framesOf recs).length ≤ 4000000000 + 1000000 * i
 wt : wtOf fs ≤ 68000000 + 50000 * i
 ok : TabOk fs
theorem TI.next {m : DM} {recs : List (List UInt8)} {fs : FS} {i : Nat} (h : TI m recs fs i) : TI m recs fs (i + 1) := ⟨h.tidy.mono (by omega) (by omega), Nat.le_trans h.recs (by omega), Nat.le_trans h.wt (by omega), h.ok⟩
theorem TI.len {m : DM} {recs : List (List UInt8)} {fs : FS} {i : Nat} (h : TI m recs fs i) : fs.length ≤ wtOf fs := by
 have : ∀ fs : FS, fs.length ≤ wtOf fs := fun fs => by
  induction fs with
  | nil => exact Nat.le_refl _
  | cons p l ih => unfold wtOf at *; simp only [List.map_cons, List.sum_cons, List.length_cons]; omega
 exact this fs
theorem TI.does {m : DM} {recs : List (List UInt8)} {fs : FS} {i : Nat} (h : TI m recs fs i) (o : Op9) (hn : o.n ≤ 9223372036854775807) : TI (does9 m o) recs fs (i + 1) :=
 ⟨(h.tidy.does9 o hn).mono (by omega) (by omega), h.next.recs, h.next.wt, h.ok⟩
theorem wt_small {l : List TCh} (h : smallB l = true) : wtCh l ≤ 36040 := by
 obtain ⟨h1, h2⟩ := smallB_true h
 have : ∀ l : List TCh, (∀ c ∈ l, c.key.size ≤ 400 ∧ c.val.length ≤ 500) → wtCh l ≤ 901 * l.length := fun l hl => by
  induction l with
  | nil => exact Nat.le_refl _
  | cons c l ih =>
   have h3 : wtCh (c :: l) = (1 + c.key.size + c.val.length) + wtCh l := by simp [wtCh]
   have h4 := ih (fun x hx => hl x (List.mem_cons_of_mem _ hx))
   have h5 := hl c (List.mem_cons_self ..)
   rw [List.length_cons]
   omega
 have := this l h2
 omega
theorem app_pair (m : DM) (nm : ByteArray) (recs : List (List UInt8)) (p : List UInt8) :
  ∃ c m' recs', rAppendOf m nm recs p = (c, m', recs') ∧ jAppendOf m nm (framesOf recs).length p = (c, m', (framesOf recs').length) ∧ (framesOf recs').length ≤ (framesOf recs).length + (8 + p.length) := by
 unfold rAppendOf jAppendOf
 split
 ·exact ⟨_, _, _, rfl, rfl, by omega⟩
 ·by_cases hc : (appendOf m nm (frameOf p)).1 = 0
  ·rw [if_pos hc, if_pos hc]
   have hlen : (framesOf (recs ++ [p])).length = (framesOf recs).length + (8 + p.length) := by
    rw [framesOf_append, List.length_append, framesOf_cons, framesOf_nil, List.append_nil, frameOf_length]
   exact ⟨_, _, _, rfl, by rw [hlen], by omega⟩
  ·rw [if_neg hc, if_neg hc]
   exact ⟨_, _, _, rfl, rfl, by omega⟩
theorem tapp_pair {m : DM} {recs : List (List UInt8)} {fs : FS} {i : Nat} (h : TI m recs fs i) (nm : ByteArray) (dn : Bool) {l : List TCh} (hs : wtCh l ≤ 40000) :
  ∃ c m' recs' fs' dn', tAppOf ⟨m, (framesOf recs).length, fs, dn⟩ nm l = (c, ⟨m', (framesOf recs').length, fs', dn'⟩) ∧ rtAppOf m nm recs fs dn l = (c, m', recs', fs', dn') ∧ TI m' recs' fs' (i + 1) := by
 unfold tAppOf rtAppOf
 dsimp only
 by_cases hd : dn = true
 ·rw [if_pos hd, if_pos hd]
  exact ⟨_, _, _, _, _, rfl, rfl, h.next⟩
 rw [if_neg hd, if_neg hd]
 by_cases he : (encOf l).1 = 0
 ·rw [if_pos he, if_pos he]
  have hwl := enc_le he
  obtain ⟨-, -, hgood, -⟩ := enc_ok he
  have ht := rAppend_tidy h.tidy nm recs (encOf l).2
  obtain ⟨c, m1, recs1, e1, e2, e3⟩ := app_pair m nm recs (encOf l).2
  rw [e1] at ht ⊢
  rw [e2]
  dsimp only at ht ⊢
  have hr1 : (framesOf recs1).length ≤ 4000000000 + 1000000 * (i + 1) := by have := h.recs; omega
  by_cases hc : c = 0
  ·rw [if_pos hc, if_pos hc]
   by_cases hsy : (syncOf m1).1 = 0
   ·rw [if_pos hsy, if_pos hsy]
    exact ⟨_, _, _, _, _, rfl, rfl, ht.sync.mono (by omega) (by omega), hr1, by have := wt_tdos l fs; have := h.wt; omega, TabOk.tdos l h.ok hgood⟩
   ·rw [if_neg hsy, if_neg hsy]
    exact ⟨_, _, _, _, _, rfl, rfl, ht.sync.mono (by omega) (by omega), hr1, h.next.wt, h.ok⟩
  ·rw [if_neg hc, if_neg hc]
   exact ⟨_, _, _, _, _, rfl, rfl, ht.mono (by omega) (by omega), hr1, h.next.wt, h.ok⟩
 ·rw [if_neg he, if_neg he]
  exact ⟨_, _, _, _, _, rfl, rfl, h.next⟩
theorem TI.open {m : DM} {i : Nat} (ht : Tidy m (4000000000 * i) (4000000000 * i)) (nm : ByteArray) : Tidy (tOpenOf m nm).m (4000000000 * (i + 1)) (4000000000 * (i + 1)) ∧
  ∀ size fs recs, (tOpenOf m nm).tab = some (size, fs) → (openOf m nm).res = some (recs, size) → size = (framesOf recs).length ∧ (tOpenOf m nm).code = 0 ∧ TI (tOpenOf m nm).m recs fs (i + 1) := by
 have hm : (tOpenOf m nm).m = (openOf m nm).m := by
  unfold tOpenOf
  split
  ·rfl
  ·split <;> rfl
 have h1 : Tidy (tOpenOf m nm).m (4000000000 * (i + 1)) (4000000000 * (i + 1)) := by rw [hm]; exact (ht.openJ nm).mono (by omega) (by omega)
 refine ⟨h1, fun size fs recs hs hr => ?_⟩
 obtain ⟨-, hu, hul⟩ := open_recs ht.good nm hr
 have htf : tabOf recs [] = some fs ∧ (tOpenOf m nm).code = 0 := by
  unfold tOpenOf at hs ⊢
  rw [hr] at hs ⊢
  simp only at hs ⊢
  split at hs
  ·cases hs
  ·simp only [Option.some.injEq, Prod.mk.injEq] at hs
   rename_i hx
   rw [hx, hs.2]
   exact ⟨rfl, rfl⟩
 have hw := tabOf_wt htf.1
 have hw0 : wtOf [] = 0 := rfl
 exact ⟨hu, htf.2, h1, by omega, by omega, (TabOk.tabOf TabOk.nil htf.1).1⟩
theorem ownsRow_base {w : World} {base e size n : Nat} {v : Value} {xs : List Value} (h : w.ownsRow base e size v n xs) : w.ownsRow 0 e size v n xs := by
 obtain ⟨h1, h2⟩ := h
 refine ⟨h1, h2.imp id ?_⟩
 rintro ⟨g, cap, cur, rfl, hg, rest⟩
 exact ⟨g, cap, cur, rfl, Nat.zero_le _, rest⟩
theorem Own.flip {w wr : World} {A B rs : List (Res w.heap.size)} (h : Own w wr (A ++ (B ++ rs))) : Own w wr (B ++ (A ++ rs)) :=
 h.perm (by rw [← List.append_assoc, ← List.append_assoc]; exact List.perm_append_comm.append_right rs)
end Go.Proofs.YtddnikpdmjogiaaGreat
