/- A part of the proof. -/
import Derived.Test.YtddnikpdmjogiaaGreatZc5
import Derived.Test.YtddnikpdmjogiaaGreatZd9
import Derived.Test.YtddnikpdmjogiaaGreatZe0
import Derived.Test.YtddnikpdmjogiaaGreatZe1
import Derived.Test.YtddnikpdmjogiaaGreatZe2
namespace Go.Proofs.YtddnikpdmjogiaaGreat
set_option linter.unusedVariables false
open Go.RowKit Go.MapKept
theorem tapp_pairC {m : DM} {recs : List (List UInt8)} {fs : FS} {i : Nat} (h : TI m recs fs i) (nm : ByteArray) (dn : Bool) {l : List TCh} (hs : (encOf l).1 = 0 → wtCh l ≤ 40000) :
    ∃ c m' recs' fs' dn', tAppOf ⟨m, (framesOf recs).length, fs, dn⟩ nm l = (c, ⟨m', (framesOf recs').length, fs', dn'⟩) ∧ rtAppOf m nm recs fs dn l = (c, m', recs', fs', dn') ∧ TI m' recs' fs' (i + 1) := by
  by_cases he : (encOf l).1 = 0
  · exact tapp_pair h nm dn (hs he)
  · unfold tAppOf rtAppOf
    dsimp only
    by_cases hd : dn = true
    · rw [if_pos hd, if_pos hd]
      exact ⟨_, _, _, _, _, rfl, rfl, h.next⟩
    rw [if_neg hd, if_neg hd, if_neg he, if_neg he]
    exact ⟨_, _, _, _, _, rfl, rfl, h.next⟩
def GSt (w0 w : World) (d r : Nat) (nm : ByteArray) (i n : Nat) (rs : List (Res w0.heap.size)) (tv uv : Value) : Prop :=
  ∃ (j t b q u : Nat) (m : DM) (recs : List (List UInt8)) (v lv : Value) (fs : FS) (dn : Bool), tv = .pointer (some ⟨t, 0, none⟩) ∧ uv = .pointer (some ⟨u, 0, none⟩) ∧ TI m recs fs i ∧ fs.length ≤ n ∧ TTwo w0 w ⟨d, j, t, b, r, q, u⟩ nm m recs v lv fs dn rs
def GMid (w0 w : World) (d r : Nat) (nm : ByteArray) (i n : Nat) (l : List TCh) (co : Int) (rs : List (Res w0.heap.size)) (tv uv : Value) : Prop :=
  ∃ (j t b q u : Nat) (m : DM) (recs : List (List UInt8)) (v lv : Value) (fs : FS) (dn : Bool) (m' : DM) (recs' : List (List UInt8)) (fs' : FS) (dn' : Bool), tv = .pointer (some ⟨t, 0, none⟩) ∧ uv = .pointer (some ⟨u, 0, none⟩) ∧ TI m recs fs i ∧ rtAppOf m nm recs fs dn l = (co, m', recs', fs', dn') ∧ TI m' recs' fs' (i + 1) ∧ fs'.length ≤ n + l.length ∧
    Own w0 w (tRes w0.heap.size d j t b nm ⟨m', (framesOf recs').length, fs', dn'⟩ ++ (rtRes w0.heap.size r q u nm m recs v lv fs dn ++ rs))
theorem app_len (m : DM) (nm : ByteArray) (recs : List (List UInt8)) (fs : FS) (dn : Bool) (l : List TCh) : (rtAppOf m nm recs fs dn l).2.2.2.1.length ≤ fs.length + l.length := by
  unfold rtAppOf
  split
  · exact Nat.le_add_right _ _
  · split
    · split
      · split
        · exact length_tdos l fs
        · exact Nat.le_add_right _ _
      · exact Nat.le_add_right _ _
    · exact Nat.le_add_right _ _
section
variable {w0 w : World} {d r : Nat} {nm : ByteArray} {i n : Nat} {rs rs' : List (Res w0.heap.size)} {tv uv : Value} {l : List TCh} {co : Int}
theorem GSt.keeps (h : GSt w0 w d r nm i n rs tv uv) : Keeps (fun _ => False) w0 w := by
  obtain ⟨j, t, b, q, u, m, recs, v, lv, fs, dn, -, -, -, -, h⟩ := h
  exact Own.keeps h
theorem GSt.quiet {w' : World} (h : GSt w0 w d r nm i n rs tv uv) (hk : Keeps (fun _ => False) w w') : GSt w0 w' d r nm i n rs tv uv := by
  obtain ⟨j, t, b, q, u, m, recs, v, lv, fs, dn, e1, e2, hi, hn, h⟩ := h
  exact ⟨j, t, b, q, u, m, recs, v, lv, fs, dn, e1, e2, hi, hn, Own.quiet h hk⟩
theorem GSt.box (h : GSt w0 w d r nm i n rs tv uv) (o : Obj) : GSt w0 (w.alloc o) d r nm i n (rObj w0.heap.size w.heap.size o :: rs) tv uv := by
  obtain ⟨j, t, b, q, u, m, recs, v, lv, fs, dn, e1, e2, hi, hn, h⟩ := h
  exact ⟨j, t, b, q, u, m, recs, v, lv, fs, dn, e1, e2, hi, hn, (Own.alloc h o).perm (List.perm_middle (l₁ := [_, _, _, _, _, _, _, _, _])).symm⟩
theorem GSt.unbox {x : Res w0.heap.size} (h : GSt w0 w d r nm i n (x :: rs) tv uv) : GSt w0 w d r nm i n rs tv uv := by
  obtain ⟨j, t, b, q, u, m, recs, v, lv, fs, dn, e1, e2, hi, hn, h⟩ := h
  exact ⟨j, t, b, q, u, m, recs, v, lv, fs, dn, e1, e2, hi, hn, (Own.pull (l₁ := [_, _, _, _, _, _, _, _, _]) h).drop⟩
theorem GSt.obj (h : GSt w0 w d r nm i n rs tv uv) {t : Nat} {o : Obj} (hm : rObj w0.heap.size t o ∈ rs) : w.heap[t]? = some o := by
  obtain ⟨j, t', b, q, u, m, recs, v, lv, fs, dn, e1, e2, hi, hn, h⟩ := h
  exact (Own.at h (b := t) (o := o) (by simp [hm])).1
theorem GSt.held (h : GSt w0 w d r nm i n rs tv uv) {w' : World} {v : Value} {cs : List TCh} (ho : TChsAt 112 w.heap.size w' v cs) (hk : Keeps (fun _ => False) w w') : GSt w0 w' d r nm i n (rTChsO w0.heap.size v cs :: rs) tv uv := by
  obtain ⟨j, t, b, q, u, m, recs, v2, lv, fs, dn, e1, e2, hi, hn, h⟩ := h
  exact ⟨j, t, b, q, u, m, recs, v2, lv, fs, dn, e1, e2, hi, hn, (Own.addHeld h ho hk).perm (List.perm_middle (l₁ := [_, _, _, _, _, _, _, _, _])).symm⟩
theorem GMid.box (h : GMid w0 w d r nm i n l co rs tv uv) (o : Obj) : GMid w0 (w.alloc o) d r nm i n l co (rObj w0.heap.size w.heap.size o :: rs) tv uv := by
  obtain ⟨j, t, b, q, u, m, recs, v, lv, fs, dn, m', recs', fs', dn', e1, e2, hi, e3, hi', hn, h⟩ := h
  exact ⟨j, t, b, q, u, m, recs, v, lv, fs, dn, m', recs', fs', dn', e1, e2, hi, e3, hi', hn, (Own.alloc h o).perm (List.perm_middle (l₁ := [_, _, _, _, _, _, _, _, _])).symm⟩
theorem GMid.obj (h : GMid w0 w d r nm i n l co rs tv uv) {t : Nat} {o : Obj} (hm : rObj w0.heap.size t o ∈ rs) : w.heap[t]? = some o := by
  obtain ⟨j, t', b, q, u, m, recs, v, lv, fs, dn, m', recs', fs', dn', e1, e2, hi, e3, hi', hn, h⟩ := h
  exact (Own.at h (b := t) (o := o) (by simp [hm])).1
theorem GSt.apply1 {a : Option Addr} {c : Nat} (h : GSt w0 w d r nm i n rs tv uv) (hin : ∀ (wr : World) (ls : List (Res w0.heap.size)), Own w0 wr (ls ++ rs) → TChsIn wr a l) (hi : i ≤ 130) (hs : (encOf l).1 = 0 → wtCh l ≤ 40000) (hlc : l.length ≤ c) (hc : c ≤ maxLen) :
    ∃ co : Int, Calls Tryz.prog 10 #[tv, .slice a l.length c] w fun e w1 => e = .returned (.int .i64 co) ∧ GMid w0 w1 d r nm i n l co rs tv uv := by
  obtain ⟨j, t, b, q, u, m, recs, v, lv, fs, dn, rfl, rfl, hti, hn, h⟩ := h
  obtain ⟨co, m', recs', fs', dn', e1, e2, hti'⟩ := tapp_pairC hti nm dn hs
  have hr := hti.recs
  have hal := app_len m nm recs fs dn l
  rw [e2] at hal
  refine ⟨co, ?_⟩
  have h1 := tapply_callsO (T := ⟨m, (framesOf recs).length, fs, dn⟩) h hti.tidy.good (by omega) (by dsimp only; omega) (a := a) (c := c) (l := l) (fun wr ls h => hin wr (ls ++ rtRes w0.heap.size r q u nm m recs v lv fs dn) (by rw [List.append_assoc]; exact h)) hlc hc
  rw [e1] at h1
  refine h1.mono ?_
  rintro e w1 ⟨he, ho⟩
  exact ⟨he, j, t, b, q, u, m, recs, v, lv, fs, dn, m', recs', fs', dn', rfl, rfl, hti, e2, hti', Nat.le_trans hal (by omega), ho⟩
theorem GMid.apply2 {a : Option Addr} {c : Nat} (h : GMid w0 w d r nm i n l co rs tv uv) (hin : ∀ (wr : World) (ls : List (Res w0.heap.size)), Own w0 wr (ls ++ rs) → TChsIn wr a l) (hi : i ≤ 130) (hlc : l.length ≤ c) (hc : c ≤ maxLen) :
    Calls Tryz.prog 12 #[uv, .slice a l.length c] w fun e w1 => e = .returned (.int .i64 co) ∧ GSt w0 w1 d r nm (i + 1) (n + l.length) rs tv uv := by
  obtain ⟨j, t, b, q, u, m, recs, v, lv, fs, dn, m', recs', fs', dn', rfl, rfl, hti, e2, hti', hn, h⟩ := h
  have hl := hti.len
  have hw := hti.wt
  have hr := hti.recs
  have hmany := frames_many recs
  have h3 := rapply11_calls (Own.flip h) hti.tidy (by omega) (by omega) (by omega) hti.ok.sorted (a := a) (c := c) (l := l) (fun wr ls h => hin wr (ls ++ tRes w0.heap.size d j t b nm ⟨m', (framesOf recs').length, fs', dn'⟩) (by rw [List.append_assoc]; exact h)) hlc hc (by omega)
  rw [e2] at h3
  refine h3.mono ?_
  rintro e w3 ⟨he, v', lv', ho3⟩
  exact ⟨he, j, t, b, q, u, m', recs', v', lv', fs', dn', rfl, rfl, hti', hn, ho3.flip⟩
theorem one_in {wr : World} {b : Nat} {key : ByteArray} {gone : Bool} {pv : Value} {val : List UInt8} {t : TypeId} (hb : wr.heap[b]? = some (.cells #[.string key, .bool gone, pv] t)) (hp : Reads wr pv val) : TChsIn wr (some ⟨b, 0, none⟩) [⟨key, gone, val⟩] := by
  intro i ch hc
  match i, hc with
  | 0, hc =>
    cases hc
    exact ⟨_, _, rfl, cell_at hb rfl, cell_at hb rfl, cell_at hb rfl, hp⟩
  | i + 1, hc => simp at hc
theorem range_of {wr : World} {b : Nat} {cl : List Value} {t : TypeId} (h : wr.heap[b]? = some (.cells cl.toArray t)) : wr.rangeAt b 0 cl := fun k u hu => by
  rw [Nat.zero_add]
  exact cell_at h (by rw [List.getElem?_toArray]; exact hu)
theorem wt_one {c : TCh} (hv : c.val.length ≤ 2000) (he : (encOf [c]).1 = 0) : wtCh [c] ≤ 40000 := by
  have := (enc_ok he).2.2.1 c (by simp)
  unfold badCh at this
  simp only [Bool.or_eq_false_iff, decide_eq_false_iff_not] at this
  unfold wtCh
  simp only [List.map_cons, List.map_nil, List.sum_cons, List.sum_nil]
  omega
theorem first_both {j t b : Nat} {room : Int} (h0 : 0 ≤ room) (h1 : room ≤ 67108864) (h : Own w0 w (rRef w0.heap.size r (newOf room) :: (tRes w0.heap.size d j t b nmT ⟨oneT room [], 0, [], false⟩ ++ []))) :
    Calls Tryz.prog 8 #[.pointer (some ⟨r, 0, none⟩), .string nmT] w fun e w1 => ∃ u : Nat, e = .returned (.tuple #[.pointer (some ⟨u, 0, none⟩), .int .i64 0]) ∧ GSt w0 w1 d r nmT 1 0 [] (.pointer (some ⟨t, 0, none⟩)) (.pointer (some ⟨u, 0, none⟩)) := by
  have ht : Tidy (newOf room) (4000000000 * 0) (4000000000 * 0) := Tidy.new h0 h1
  obtain ⟨htt, hop⟩ := TI.open ht nmT
  refine (r11open_calls h ht (by omega) (by omega) nmT (by decide)).mono ?_
  rw [show RTOpenPost w0 r nmT (tRes w0.heap.size d j t b nmT ⟨oneT room [], 0, [], false⟩ ++ []) (newOf room) = RTOpenPost w0 r nmT (tRes w0.heap.size d j t b nmT ⟨oneT room [], 0, [], false⟩ ++ []) (newOf room) from rfl]
  rintro e w3 (⟨hn2, he, ho3⟩ | ⟨size2, fs2, recs, q, u, v, lv, hs2, hr2, he, ho3⟩)
  · rw [topen_empty] at hn2; cases hn2
  · obtain ⟨hu, hc, hti⟩ := hop _ _ _ hs2 hr2
    rw [topen_empty] at hs2 he ho3 hti
    simp only [Option.some.injEq, Prod.mk.injEq] at hs2
    obtain ⟨rfl, rfl⟩ := hs2
    refine ⟨u, he, j, t, b, q, u, _, recs, v, lv, _, false, rfl, rfl, hti, Nat.le_refl _, ?_⟩
    unfold TTwo
    dsimp only
    rw [← hu]
    exact Own.flip (A := rtRes w0.heap.size r q u nmT (oneT room []) recs v lv [] false) (B := tRes w0.heap.size d j t b nmT ⟨oneT room [], 0, [], false⟩) ho3
end
end Go.Proofs.YtddnikpdmjogiaaGreat
