/- A part of the proof. -/
import Derived.Test.YtddnikpdmjogiaaGreatYb0
import Derived.Test.YtddnikpdmjogiaaGreatYb6
import Derived.Test.YtddnikpdmjogiaaGreatYb7
import Derived.Test.YtddnikpdmjogiaaGreatYb9
import Derived.Test.YtddnikpdmjogiaaGreatYc0
import Derived.Test.YtddnikpdmjogiaaGreatYc4
import Derived.Lib.SlBytesConst
namespace Go.Proofs.YtddnikpdmjogiaaGreat
set_option linter.unusedVariables false
open Go.RowKit Go.MapKept
def rtabObj (q : Nat) (lv : Value) (dn : Bool) : Obj := .cells #[.pointer (some ⟨q, 0, none⟩), lv, .bool dn] 74 (0, 0)
def rtRes (B r q t : Nat) (nm : ByteArray) (m : DM) (recs : List (List UInt8)) (v lv : Value) (fs : FS) (dn : Bool) : List (Res B) :=
 [rRef B r m, rObj B q (rjObj r nm v), rRows B v recs, rObj B t (rtabObj q lv dn), rPairs B lv fs]
def RTOpenPost (w : World) (r : Nat) (nm : ByteArray) (rs : List (Res w.heap.size)) (m : DM) (e : Ending) (w' : World) : Prop :=
 ((tOpenOf m nm).tab = none ∧ e = .returned (.tuple #[.pointer none, .int .i64 (tOpenOf m nm).code]) ∧ Own w w' (rRef w.heap.size r (tOpenOf m nm).m :: rs)) ∨
 ∃ (size : Nat) (fs : FS) (recs : List (List UInt8)) (q t : Nat) (v lv : Value), (tOpenOf m nm).tab = some (size, fs) ∧ (openOf m nm).res = some (recs, size) ∧ e = .returned (.tuple #[.pointer (some ⟨t, 0, none⟩), .int .i64 (tOpenOf m nm).code]) ∧
  Own w w' (rtRes w.heap.size r q t nm (tOpenOf m nm).m recs v lv fs false ++ rs)
theorem rtab_cells {wr : World} {q t : Nat} {lv : Value} {dn : Bool} (h : wr.heap[t]? = some (rtabObj q lv dn)) : wr.cell? ⟨t, 0, none⟩ = some (.pointer (some ⟨q, 0, none⟩)) ∧ wr.cell? ⟨t, 1, none⟩ = some lv ∧ wr.cell? ⟨t, 2, none⟩ = some (.bool dn) ∧ ∀ i, wr.frozen? ⟨t, i, none⟩ = false :=
 ⟨cell_at (i := 0) h rfl, cell_at (i := 1) h rfl, cell_at (i := 2) h rfl, fun i => free_at h i⟩
set_option maxRecDepth 100000 in
set_option maxHeartbeats 1000000 in
theorem r11open_calls {w w0 : World} {r : Nat} {m : DM} {rs : List (Res w.heap.size)} (h : Own w w0 (rRef w.heap.size r m :: rs)) {n t : Nat} (ht : Tidy m n t) (hn : n + 67108880 < 549755813888) (htt : t + 67108880 < 549755813888) (nm : ByteArray) (hnm : nm.size ≤ 65536) :
  Calls Tryz.prog 8 #[.pointer (some ⟨r, 0, none⟩), .string nm] w0 (RTOpenPost w r nm rs m) := by
 have hop := ropen_calls h ht hn htt nm hnm
 have hres := open_res m nm
 have hrec := fun l u => open_recs (l := l) (u := u) ht.good nm
 have HOP := hyd hop
 have HRES := hyd hres
 have HREC := hyd hrec
 clear h ht hn htt hnm hop hres hrec
 obtain ⟨T, hT⟩ : ∃ T, tOpenOf m nm = T := ⟨_, rfl⟩
 have HT := hyd hT
 obtain ⟨P, hP⟩ : ∃ P, RTOpenPost w r nm rs m = P := ⟨_, rfl⟩
 have HP := hyd hP
 unfold RTOpenPost at HP
 rw [hT] at HP
 rw [hP]
 clear hT hP
 go_enter Tryz.func8, Tryz.ntmps8
 go_wp2_with fail
 refine HOP.out.mono ?_
 rintro e w1 (⟨hr, rfl, h1⟩ | ⟨recs, used, q, v, hr, rfl, h1⟩)
 ·have hc : ((openOf m nm).code != 0) = true := by simpa using HRES.out.1 hr
  have HF := hyd (show P (.returned (.tuple #[.pointer none, .int .i64 (openOf m nm).code])) w1 by
   have ht := HT.out
   unfold tOpenOf at ht
   rw [hr] at ht
   simp only at ht
   rw [← HP.out, ← ht]
   exact .inl ⟨rfl, rfl, h1⟩)
  generalize (openOf m nm).code = rc at hc HF ⊢
  clear HOP HRES HREC hr h1 HT HP
  go_wp2_with fail
  exact HF.out
 ·obtain ⟨hc, hrl⟩ := HRES.out.2 recs used hr
  obtain ⟨-, hu, hul⟩ := HREC.out recs used hr
  have hmany := frames_many recs
  have HRL := hyd hrl
  have HNR := hyd (show recs.length ≤ 67108864 by omega)
  have HT2 := hyd (show T = match tabOf recs [] with | none => ⟨200, (openOf m nm).m, none⟩ | some fs => ⟨0, (openOf m nm).m, some (used, fs)⟩ by rw [← HT.out]; unfold tOpenOf; rw [hr]; rfl)
  rw [hc]
  obtain ⟨-, va, vc, rfl⟩ := h1.rows (v := v) (ll := recs) (by simp)
  have hh := ((h1.alloc (rtabObj q (.slice none 0 0) false)).nilPairs)
  rw [hr] at HP
  generalize (openOf m nm).m = m1 at hh HT2
  have HH := hyd hh
  have i0 : (0 : Int) ≤ recs.length := by omega
  have i1 : (recs.length : Int) ≤ 67108864 := by omega
  have hqc := h1.at (b := q) (o := rjObj r nm (.slice va recs.length vc)) (by simp)
  obtain ⟨-, -, qc, -⟩ := rj_cells hqc.1
  have qc2 : (w1.alloc (rtabObj q (.slice none 0 0) false)).cell? ⟨q, 2, none⟩ = some (.slice va recs.length vc) := cell_keep qc ((Keeps.refl _ w1).alloc _)
  clear HOP HRES HREC hr h1 hc hrl hu hul hh hmany HT hqc qc
  unfold rtabObj at qc2
  go_wp2_with fail
  go_loopw [9] (fun iv wx => ∃ (k : Nat) (fs : FS) (lv : Value), k ≤ recs.length ∧ iv = .int .i64 (k : Int) ∧ tabOf recs [] = tabOf (recs.drop k) fs ∧ FSorted fs ∧ fs.length ≤ 256 * k ∧ Own w wx (rPairs w.heap.size lv fs :: rObj w.heap.size w1.heap.size (rtabObj q lv false) :: rRef w.heap.size r m1 :: rObj w.heap.size q (rjObj r nm (.slice va recs.length vc)) :: rRows w.heap.size (.slice va recs.length vc) recs :: rs)) (fun iv _ => recs.length - (intOf iv).toNat)
  case atStart => exact ⟨0, [], _, Nat.zero_le _, rfl, rfl, FSorted.nil, Nat.zero_le _, HH.out⟩
  case round =>
   obtain ⟨k, fs, lv, hk, rfl, hinv, hso, hfl, ho⟩ := hrel
   clear HH qc2
   have k0 : (0 : Int) ≤ k := by omega
   obtain ⟨-, -, qc, -⟩ := rj_cells (ho.at (b := q) (o := rjObj r nm (.slice va recs.length vc)) (by simp)).1
   by_cases hlt : k < recs.length
   ·obtain ⟨rec, hrec⟩ : ∃ rec, recs[k]? = some rec := ⟨recs[k], List.getElem?_eq_getElem hlt⟩
    obtain ⟨⟨_, _, e, hrows⟩, _⟩ := ho.rows (v := .slice va recs.length vc) (ll := recs) (by simp)
    cases e
    obtain ⟨x, p, rfl, hx, hp⟩ := hrows k rec hrec
    have hpl := HRL.out rec (List.mem_of_getElem? hrec)
    rw [tabOf_step hrec] at hinv
    have HDC := hyd (rdecode_calls hp (by omega))
    obtain ⟨pa, pc, rfl, -, -⟩ := hp.form
    have k1 : (k : Int) < recs.length := by omega
    have hk1 : k + 1 ≤ recs.length := by omega
    have HINV := hyd hinv
    have HO := hyd ho
    have HSO := hyd hso
    have HFL := hyd hfl
    clear hrows hp hpl hinv ho hrec hlt hk HRL hso hfl
    go_wp2_with fail
    refine HDC.out.mono ?_
    rintro e w2 ⟨cv, rfl, hk2, hl2⟩
    cases hd : decOf rec with
    | none =>
     have hinv := HINV.out
     rw [hd] at hinv
     have HF := hyd (show P (.returned (.tuple #[.pointer none, .int .i64 200])) w2 by
      rw [← HP.out, HT2.out, hinv]
      exact .inl ⟨rfl, rfl, ((HO.out.quiet hk2).drop.drop.drop2.drop2)⟩)
     clear hinv hd hk2 hl2 HINV HO HDC
     simp only [Option.isSome_none]
     go_wp2_with fail
     exact HF.out
    | some l =>
     have hinv := HINV.out
     rw [hd] at hinv
     have hat := hl2 l hd
     obtain ⟨la, lc, rfl⟩ := hat.form
     obtain ⟨hs1, hs2⟩ := decOf_small hd
     have ho2 := HO.out.quiet hk2
     obtain ⟨-, tc, -, tf⟩ := rtab_cells (ho2.at (b := w1.heap.size) (o := rtabObj q lv false) (by simp)).1
     have hfl := HFL.out
     have hnr := HNR.out
     have hdo := ho2.rdo (c := lc) HSO.out hat.ins (by omega) (fun x hx => by have := (hs1 x hx).1; omega)
     have HDO := hyd hdo
     have HINV2 := hyd hinv
     have HS2 := hyd (FSorted.tdos l HSO.out)
     have HL2 := hyd (show (tdos fs l).length ≤ 256 * (k + 1) by have := length_tdos l fs; omega)
     obtain ⟨F, hpa⟩ := ho2.pairs (v := lv) (fs := fs) (by simp)
     obtain ⟨lva, lvc, rfl, -, -⟩ := hpa.form
     clear hinv hd hat hk2 hl2 HINV HO HDC hs1 hs2 ho2 hdo HSO HFL hpa hfl hnr tf
     simp only [Option.isSome_some]
     go_wp2_with fail
     refine HDO.out.mono ?_
     rintro e w3 ⟨v3, rfl, h3⟩
     obtain ⟨-, tc3, -, tf3⟩ := rtab_cells (h3.at (b := w1.heap.size) (o := rtabObj q (.slice lva fs.length lvc) false) (by simp)).1
     have tf1 := tf3 1
     obtain ⟨F, hpa⟩ := h3.pairs (v := v3) (fs := tdos fs l) (by simp)
     obtain ⟨l3a, l3c, rfl, -, -⟩ := hpa.form
     have h4 := (h3.swap.store 1 (.slice l3a (tdos fs l).length l3c)).swap
     have HREL := hyd (⟨k + 1, tdos fs l, _, hk1, rfl, HINV2.out, HS2.out, HL2.out, h4⟩ : ∃ (k' : Nat) (fs' : FS) (lv' : Value), k' ≤ recs.length ∧ Value.int .i64 ((k + 1 : Nat) : Int) = .int .i64 (k' : Int) ∧ tabOf recs [] = tabOf (recs.drop k') fs' ∧ FSorted fs' ∧ fs'.length ≤ 256 * k' ∧ Own w (w3.setCell ⟨w1.heap.size, 1, none⟩ (.slice l3a (tdos fs l).length l3c)) (rPairs w.heap.size lv' fs' :: rObj w.heap.size w1.heap.size (rtabObj q lv' false) :: rRef w.heap.size r m1 :: rObj w.heap.size q (rjObj r nm (.slice (some x) recs.length vc)) :: rRows w.heap.size (.slice (some x) recs.length vc) recs :: rs))
     clear h3 h4 hpa tf3 HDO HINV2 HS2 HL2
     go_wp2_with fail
     go_roundw
     case rel => exact HREL.out
     case measure => simp [intOf]; omega
   ·obtain rfl : k = recs.length := by omega
    rw [List.drop_length, tabOf] at hinv
    have HF := hyd (show P (.returned (.tuple #[.pointer (some ⟨w1.heap.size, 0, none⟩), .int .i64 0])) wr by
     rw [← HP.out, HT2.out, hinv]
     exact .inr ⟨used, fs, recs, q, _, _, lv, rfl, rfl, rfl, ho.perm (List.perm_append_comm (l₁ := [_, _]) (l₂ := [_, _, _]) |>.append_right rs |>.trans (((List.Perm.swap ..).append_left [_, _, _])))⟩)
    clear hinv ho hlt hk HRL hso hfl
    go_wp2_with fail
    exact HF.out
structure TM where
 m : DM
 size : Nat
 fs : FS
 down : Bool
def tAppOf (t : TM) (nm : ByteArray) (l : List TCh) : Int × TM :=
 if t.down = true then (5, t)
 else if (encOf l).1 = 0 then
  (if (jAppendOf t.m nm t.size (encOf l).2).1 = 0 then
   (if (syncOf (jAppendOf t.m nm t.size (encOf l).2).2.1).1 = 0 then (0, ⟨(syncOf (jAppendOf t.m nm t.size (encOf l).2).2.1).2, (jAppendOf t.m nm t.size (encOf l).2).2.2, tdos t.fs l, false⟩)
    else ((syncOf (jAppendOf t.m nm t.size (encOf l).2).2.1).1, ⟨(syncOf (jAppendOf t.m nm t.size (encOf l).2).2.1).2, (jAppendOf t.m nm t.size (encOf l).2).2.2, t.fs, (syncOf (jAppendOf t.m nm t.size (encOf l).2).2.1).1 == 5⟩))
   else ((jAppendOf t.m nm t.size (encOf l).2).1, ⟨(jAppendOf t.m nm t.size (encOf l).2).2.1, (jAppendOf t.m nm t.size (encOf l).2).2.2, t.fs, (jAppendOf t.m nm t.size (encOf l).2).1 == 5⟩))
 else ((encOf l).1, ⟨t.m, t.size, t.fs, (encOf l).1 == 5⟩)
def tRes (B d j t b : Nat) (nm : ByteArray) (T : TM) : List (Res B) := [rDisk B d T.m, rObj B j (jrnObj d nm T.size), rObj B t (tabObj j b T.down), rMap B b T.fs]
def TPost (w : World) (d j t b : Nat) (nm : ByteArray) (rs : List (Res w.heap.size)) (r : Int × TM) (e : Ending) (w' : World) : Prop := e = .returned (.int .i64 r.1) ∧ Own w w' (tRes w.heap.size d j t b nm r.2 ++ rs)
theorem Own.tabDown {w wr : World} {x y : Res w.heap.size} {t j b : Nat} {dn : Bool} {rs : List (Res w.heap.size)} (h : Own w wr (x :: y :: rObj w.heap.size t (tabObj j b dn) :: rs)) (dn' : Bool) : Own w (wr.setCell ⟨t, 2, none⟩ (.bool dn')) (x :: y :: rObj w.heap.size t (tabObj j b dn') :: rs) :=
 (h.third.store 2 (.bool dn')).tuck2
theorem Own.toDo {w wr : World} {d j t m : Res w.heap.size} {rs : List (Res w.heap.size)} (h : Own w wr (d :: j :: t :: m :: rs)) : Own w wr (m :: t :: d :: j :: rs) := by
 have h1 := Own.pull (l₁ := [d, j, t]) h
 exact (Own.pull (l₁ := [m, d, j]) h1).swap
theorem Own.ofDo {w wr : World} {d j t m : Res w.heap.size} {rs : List (Res w.heap.size)} (h : Own w wr (m :: t :: d :: j :: rs)) : Own w wr (d :: j :: t :: m :: rs) := by
 have h1 := Own.pull (l₁ := [m]) h
 have h2 := Own.pull (l₁ := [t, m, d]) h1
 exact Own.pull (l₁ := [j, t, m]) h2
theorem jAppend_good {m : DM} {n : Nat} (h : Good m n) (nm : ByteArray) (size : Nat) (p : List UInt8) : Good (jAppendOf m nm size p).2.1 (n + 1) := by
 unfold jAppendOf
 split
 ·exact h.mono (by omega)
 ·split <;> exact h.append nm (frameOf p)
set_option maxRecDepth 100000 in
set_option maxHeartbeats 1000000 in
theorem tapply_callsO {w w0 : World} {d j t b : Nat} {nm : ByteArray} {T : TM} {rs : List (Res w.heap.size)} (h : Own w w0 (tRes w.heap.size d j t b nm T ++ rs)) {n : Nat} (hg : Good T.m n) (hn : n < 549755813888) (hs : T.size ≤ 1099511627776)
  {a : Option Addr} {c : Nat} {l : List TCh} (hm : ∀ (wr : World) (ls : List (Res w.heap.size)), Own w wr (ls ++ rs) → TChsIn wr a l) (hlc : l.length ≤ c) (hc : c ≤ maxLen) :
  Calls Tryz.prog 10 #[.pointer (some ⟨t, 0, none⟩), .slice a l.length c] w0 (TPost w d j t b nm rs (tAppOf T nm l)) := by
 obtain ⟨m, size, fs, down⟩ := T
 dsimp only at hg hs
 have h0 : Own w w0 (rDisk w.heap.size d m :: rObj w.heap.size j (jrnObj d nm size) :: rObj w.heap.size t (tabObj j b down) :: rMap w.heap.size b fs :: rs) := h
 have hup := tup_runs (h0.at (b := t) (o := tabObj j b down) (by simp)).1
 obtain ⟨R, hR⟩ : ∃ R, tAppOf ⟨m, size, fs, down⟩ nm l = R := ⟨_, rfl⟩
 have HR := hyd hR
 rw [hR]
 unfold tAppOf at HR
 dsimp only at HR
 have H0 := hyd h0
 have HUP := hyd hup
 have HG := hyd hg
 have HEN := hyd (tencode_calls (hm w0 [_, _, _, _] h0) hlc hc)
 have HM := hyd hm
 have HLC := hyd hlc
 have HN := hyd hn
 have HS := hyd hs
 clear h h0 hup hR hg hm hlc hc hn hs
 cases down with
 | true =>
  rw [if_pos rfl] at HR
  have HF := hyd (show TPost w d j t b nm rs R (.returned (.int .i64 5)) w0 by rw [← HR.out]; exact ⟨rfl, H0.out⟩)
  clear HEN HR
  go_enter Tryz.func10, Tryz.ntmps10
  go_wp2_with (first | (go_at_call 34; refine HUP.out.out.mono ?_; rintro e w' ⟨rfl, rfl⟩))
  go_ret
  exact HF.out
 | false =>
  rw [if_neg (by simp)] at HR
  go_enter Tryz.func10, Tryz.ntmps10
  go_wp2_with (first | (go_at_call 34; refine HUP.out.out.mono ?_; rintro e w' ⟨rfl, rfl⟩))
  refine HEN.out.mono ?_
  rintro e w1 ⟨v, rfl, hv, hk⟩
  obtain ⟨va, vc, rfl, _, _⟩ := hv.bytes.form
  have h1 := H0.out.quiet hk
  have ht1 := tab_cells (h1.at (b := t) (o := tabObj j b false) (by simp)).1
  have H1 := hyd h1
  have HV := hyd hv
  obtain ⟨t10, _, t12, t13⟩ := ht1
  have t1f := t13 2
  clear HEN HUP H0 hv hk h1 t13
  by_cases he : (encOf l).1 = 0
  ·rw [if_pos he] at HR
   have HAP := hyd (jappend_calls H1.out HG.out HN.out HS.out HV.out.bytes.reads)
   have HG2 := hyd (jAppend_good HG.out nm size (encOf l).2)
   have HE := hyd (enc_ok he)
   generalize jAppendOf m nm size (encOf l).2 = A at HR HAP HG2
   rw [he]
   generalize (encOf l).2 = rec at HAP HV ⊢
   obtain ⟨ac, am, az⟩ := A
   dsimp only at HR HG2
   have HLL := HLC
   clear he H1 HV HG HS HLC
   go_wp2_with fail
   refine HAP.out.mono ?_
   rintro e w2 ⟨rfl, h2⟩
   dsimp only at h2
   obtain ⟨t20, _, t22, t23⟩ := tab_cells (h2.at (b := t) (o := tabObj j b false) (by simp)).1
   have t2f := t23 2
   have H2 := hyd h2
   clear h2 t23 HAP t10 t12 t1f
   dsimp only
   by_cases hac : ac = 0
   ·subst hac
    rw [if_pos rfl] at HR
    have HSY := hyd (jsync_calls H2.out HG2.out)
    generalize syncOf am = S at HR HSY
    obtain ⟨sc, sm⟩ := S
    dsimp only at HR
    clear HG2 H2
    go_wp2_with fail
    refine HSY.out.mono ?_
    rintro e w3 ⟨rfl, h3⟩
    dsimp only at h3
    obtain ⟨t30, _, t32, t33⟩ := tab_cells (h3.at (b := t) (o := tabObj j b false) (by simp)).1
    have t3f := t33 2
    have H3 := hyd h3
    clear h3 t33 HSY t20 t22 t2f
    dsimp only
    by_cases hsc : sc = 0
    ·subst hsc
     rw [if_pos rfl] at HR
     have hdo := tdo_callsO (Own.toDo H3.out) (a := a) (c := c) (l := l) (fun wr ls h => HM.out wr (ls ++ [_, _]) (by rw [List.append_assoc]; exact h)) (by have := HE.out.1; omega) (fun x hx => by have := (badCh_false (HE.out.2.2.1 x hx)).2.2; omega)
     have HDO := hyd hdo
     clear hdo H3 HM HE HN
     go_wp2_with fail
     refine HDO.out.mono ?_
     rintro e w4 ⟨rfl, h4⟩
     have h5 := Own.ofDo h4
     obtain ⟨t40, _, t42, t43⟩ := tab_cells (h5.at (b := t) (o := tabObj j b false) (by simp)).1
     have t4f := t43 2
     have HF := hyd (show TPost w d j t b nm rs R (.returned (.int .i64 0)) (w4.setCell ⟨t, 2, none⟩ (.bool false)) by rw [← HR.out]; exact ⟨rfl, h5.tabDown _⟩)
     clear h4 h5 t43 HDO t30 t32 t3f HR
     go_wp2_with fail
     go_ret
     exact HF.out
    ·rw [if_neg hsc] at HR
     have he2 : (sc == 0) = false := by simpa using hsc
     have HF := hyd (show TPost w d j t b nm rs R (.returned (.int .i64 sc)) (w3.setCell ⟨t, 2, none⟩ (.bool (sc == 5))) by rw [← HR.out]; exact ⟨rfl, H3.out.tabDown _⟩)
     clear hsc HR H3 HM HE HN
     go_wp2_with fail
     go_ret
     exact HF.out
   ·rw [if_neg hac] at HR
    have he2 : (ac == 0) = false := by simpa using hac
    have HF := hyd (show TPost w d j t b nm rs R (.returned (.int .i64 ac)) (w2.setCell ⟨t, 2, none⟩ (.bool (ac == 5))) by rw [← HR.out]; exact ⟨rfl, H2.out.tabDown _⟩)
    clear hac HR H2 HM HE HN HG2
    go_wp2_with fail
    go_ret
    exact HF.out
  ·rw [if_neg he] at HR
   have he2 : ((encOf l).1 == 0) = false := by simpa using he
   have HF := hyd (show TPost w d j t b nm rs R (.returned (.int .i64 (encOf l).1)) (w1.setCell ⟨t, 2, none⟩ (.bool ((encOf l).1 == 5))) by rw [← HR.out]; exact ⟨rfl, H1.out.tabDown _⟩)
   generalize (encOf l).1 = ec at he2 HF ⊢
   generalize (encOf l).2 = rec at HV ⊢
   clear he HR H1 HV HM HN HS HG HLC
   go_wp2_with fail
   go_ret
   exact HF.out
def nmT : ByteArray := ⟨#[116]⟩
theorem nmT_name : isName nmT = true ∧ isName (tmpOf nmT) = true := by
 constructor
 ·simp [isName, nmT]; rfl
 ·have h1 : (tmpOf nmT).toList = [116, 43] := by decide +kernel
  have h2 : (tmpOf nmT).size = 2 := by decide +kernel
  simp [isName, h1, h2]
def oneT (room : Int) (b : List UInt8) : DM := { newOf room with now := [(nmT, b)], sure := [(nmT, b)], loose := [] }
theorem open_emptyT (room : Int) : openOf (newOf room) nmT = ⟨0, oneT room [], some ([], 0)⟩ := by
 have h1 : createOf (newOf room) nmT = (0, { newOf room with now := [(nmT, [])], loose := [⟨0, nmT, ⟨#[]⟩, []⟩] }) := by
  rw [Calm.create ⟨rfl, rfl⟩ nmT_name.1 rfl (by simp [newOf])]
  rfl
 have h2 : runSteps (createSteps nmT) (newOf room) = (0, oneT room []) := by
  unfold createSteps runSteps
  simp only [h1, if_true]
  unfold runSteps
  have h3 : syncOf { newOf room with now := [(nmT, [])], loose := [⟨0, nmT, ⟨#[]⟩, []⟩] } = (0, oneT room []) := by
   simp [syncOf, newOf, synced, spendOf, oneT, doCh, fput, fdel, fins]
  simp only [h3, if_true]
  rfl
 unfold openOf
 rw [if_pos nmT_name, if_pos (by simp [thereOf, newOf, fget]), h2]
 rfl
theorem topen_empty (room : Int) : tOpenOf (newOf room) nmT = ⟨0, oneT room [], some (0, [])⟩ := by
 unfold tOpenOf
 rw [open_emptyT]
 rfl
theorem app_oneT {room : Int} {b : List UInt8} {size : Nat} {fs : FS} {l : List TCh} (he : (encOf l).1 = 0) (hr : (b.length : Int) + (8 + (encOf l).2.length) ≤ room) : tAppOf ⟨oneT room b, size, fs, false⟩ nmT l = (0, ⟨oneT room (b ++ frameOf (encOf l).2), size + (8 + (encOf l).2.length), tdos fs l, false⟩) := by
 have hlen := (enc_ok he).2.2.2
 have hroom : ¬ ((oneT room b).room - (used (oneT room b).now : Int) < ((frameOf (encOf l).2).length : Int)) := by
  have h1 : used (oneT room b).now = b.length := by simp [oneT, used]
  have h2 : (oneT room b).room = room := rfl
  rw [frameOf_length, h1, h2]
  omega
 have h1 : jAppendOf (oneT room b) nmT size (encOf l).2 = (0, { newOf room with now := [(nmT, b ++ frameOf (encOf l).2)], sure := [(nmT, b)], loose := [⟨1, nmT, ⟨#[]⟩, frameOf (encOf l).2⟩] }, size + (8 + (encOf l).2.length)) := by
  unfold jAppendOf
  rw [if_neg (by omega), Calm.append ⟨rfl, rfl⟩ (by simp [oneT, fget]) _ (by rw [frameOf_length]; omega), if_neg hroom]
  simp [oneT, newOf, fput, fdel, fins, fget]
 have h2 : syncOf { newOf room with now := [(nmT, b ++ frameOf (encOf l).2)], sure := [(nmT, b)], loose := [⟨1, nmT, ⟨#[]⟩, frameOf (encOf l).2⟩] } = (0, oneT room (b ++ frameOf (encOf l).2)) := by
  simp [syncOf, newOf, synced, spendOf, oneT, doCh, fput, fdel, fins, fget]
 unfold tAppOf
 rw [if_neg (by simp), if_pos he, h1, if_pos rfl, h2, if_pos rfl]
theorem encFrom_fits : ∀ (l : List TCh) (out : List UInt8), (∀ c ∈ l, badCh c = false) → out.length + (l.map encCh).flatten.length ≤ 1048568 → (encFrom l out).1 = 0
 | [], out, _, _ => rfl
 | c :: l, out, h, hl => by
  rw [List.map_cons, List.flatten_cons, List.length_append] at hl
  rw [encFrom, if_neg (by rw [h c (List.mem_cons_self ..)]; simp), if_neg (by rw [List.length_append]; omega)]
  exact encFrom_fits l _ (fun x hx => h x (List.mem_cons_of_mem _ hx)) (by rw [List.length_append]; omega)
theorem enc_fits {l : List TCh} (hl : l.length ≤ 256) (h : ∀ c ∈ l, badCh c = false) (hs : 10 + (l.map encCh).flatten.length ≤ 1048568) : (encOf l).1 = 0 := by
 unfold encOf
 rw [if_neg (by omega)]
 exact encFrom_fits l _ h (by have := countOf_len10 (n := l.length) (by omega); omega)
theorem decOf_good {b : List UInt8} {l : List TCh} (h : decOf b = some l) : ∀ c ∈ l, badCh c = false := fun c hc => by
 obtain ⟨h1, h2, h3⟩ := (decOf_small h).1 c hc
 unfold badCh
 simp only [Bool.or_eq_false_iff, decide_eq_false_iff_not]
 omega
theorem TabOk.tabOf : ∀ {recs : List (List UInt8)} {fs fs' : FS}, TabOk fs → tabOf recs fs = some fs' → TabOk fs' ∧ fs'.length ≤ fs.length + 256 * recs.length
 | [], fs, fs', h, e => by
  simp only [Go.Proofs.YtddnikpdmjogiaaGreat.tabOf, Option.some.injEq] at e
  subst e; exact ⟨h, by omega⟩
 | r :: rs, fs, fs', h, e => by
  rw [Go.Proofs.YtddnikpdmjogiaaGreat.tabOf] at e
  cases hd : decOf r with
  | none => rw [hd] at e; cases e
  | some l =>
   rw [hd] at e
   obtain ⟨h1, h2⟩ := TabOk.tabOf (TabOk.tdos l h (decOf_good hd)) e
   have h3 := length_tdos l fs
   have h4 := (decOf_small hd).2
   exact ⟨h1, by rw [List.length_cons]; omega⟩
set_option maxRecDepth 100000 in
set_option maxHeartbeats 1000000 in
theorem rencode_calls {w : World} {a : Option Addr} {c : Nat} {l : List TCh} (h : TChsIn w a l) (hlc : l.length ≤ c) (hc : c ≤ maxLen) : Calls Tryz.prog 38 #[.slice a l.length c] w (EncPost w (encOf l)) := by
 have H := hyd h
 unfold maxLen at hc
 have i0 : (l.length : Int) ≤ 9223372036854775807 := by omega
 have i1 : (0 : Int) ≤ (l.length : Int) := by omega
 clear h hlc hc
 by_cases hbig : 256 < l.length
 ·have he : encOf l = (8, []) := by unfold encOf; rw [if_pos hbig]
  have j1 : (256 : Int) < l.length := by omega
  rw [he]
  clear hbig he
  go_enter Tryz.func38, Tryz.ntmps38
  go_wp2_with fail
  go_ret2
  exact ⟨_, rfl, Owns.nil _ _, Keeps.refl _ _⟩
 have he : encOf l = encFrom l (countOf l.length) := by unfold encOf; rw [if_neg hbig]
 have j1 : (l.length : Int) ≤ 256 := by omega
 have HCN := hyd (fun W => rcount_calls W l.length (by omega))
 have hcl := countOf_len10 (n := l.length) (by omega)
 rw [he]
 have HCL := hyd hcl
 clear he hcl hbig
 go_enter Tryz.func38, Tryz.ntmps38
 go_wp2_with fail
 refine (HCN.out w).mono ?_
 rintro e w1 ⟨cv, rfl, ho1, hk1⟩
 have HO1 := hyd ho1
 have HK1 := hyd hk1
 clear ho1 hk1 HCN
 go_wp2_with fail
 go_loopw [4, 5] (fun ov iv wx => ∃ (k : Nat) (out : List UInt8), k ≤ l.length ∧ iv = .int .i64 (k : Int) ∧ Owns wx w.heap.size ov out ∧ encFrom l (countOf l.length) = encFrom (l.drop k) out ∧ out.length ≤ 1048568 ∧ Keeps (fun _ => False) w wx) (fun _ iv _ => l.length - (intOf iv).toNat)
 case atStart => exact ⟨0, _, Nat.zero_le _, rfl, HO1.out, rfl, by have := HCL.out; omega, HK1.out⟩
 case round =>
  obtain ⟨k, out, hk, rfl, ho, hinv, hol, hq⟩ := hrel
  clear HO1 HK1 HCL
  have j0 : (0 : Int) ≤ k := by omega
  obtain ⟨oa, on, oc, rfl⟩ := slice_form ho
  by_cases hlt : k < l.length
  ·obtain ⟨ch, hch⟩ : ∃ ch, l[k]? = some ch := ⟨l[k], List.getElem?_eq_getElem hlt⟩
   obtain ⟨x, p, rfl, c0, c1, c2, hp⟩ := H.out.cells hch
   have hinv2 : encFrom (l.drop k) out = if badCh ch = true then (1, []) else if 1048568 < (out ++ encCh ch).length then (8, []) else encFrom (l.drop (k + 1)) (out ++ encCh ch) := by
    obtain ⟨hk', he⟩ := List.getElem?_eq_some_iff.1 hch
    rw [List.drop_eq_getElem_cons hk', encFrom, he]
   rw [hinv2] at hinv
   clear hinv2
   obtain ⟨key, gone, val⟩ := ch
   dsimp only at c0 c1 c2 hp
   obtain ⟨pa, pc, rfl, -, -⟩ := hp.form
   have CC := hyd (fun (W : World) (hk : Keeps (fun _ => False) w W) => (⟨cell_keep c0 hk, cell_keep c1 hk, cell_keep c2 hk⟩ : W.cell? (x.add (k * 3)) = some (.string key) ∧ W.cell? { block := (x.add (k * 3)).block, off := (x.add (k * 3)).off + 1 } = some (.bool gone) ∧ W.cell? { block := (x.add (k * 3)).block, off := (x.add (k * 3)).off + 2 } = some (.slice pa val.length pc)))
   obtain ⟨q0, q1, q2⟩ := CC.out wr hq
   have j2 : (k : Int) < l.length := by omega
   have hk1 : k + 1 ≤ l.length := by omega
   have o0 : (0 : Int) ≤ (key.size : Int) := by omega
   have o1 : (0 : Int) ≤ (val.length : Int) := by omega
   have HINV := hyd hinv
   have HO := hyd ho
   have HQ := hyd hq
   have HP := hyd hp
   have HOL := hyd hol
   clear hinv ho hq hp hk hlt hch hol c0 c1 c2
   by_cases hb : badCh ⟨key, gone, val⟩ = true
   ·rw [if_pos hb] at HINV
    have HFIN := hyd (⟨_, by rw [HINV.out], by rw [HINV.out]; exact Owns.nil _ _, HQ.out⟩ : EncPost w (encFrom l (countOf l.length)) (.returned (.tuple #[.slice none 0 0, .int .i64 1])) wr)
    unfold badCh at hb
    simp only [Bool.or_eq_true, decide_eq_true_eq] at hb
    clear HINV HP HO HQ HOL
    by_cases e0 : key.size = 0
    ·have b1 : key.toList.isEmpty = true := by rw [List.isEmpty_iff]; exact List.eq_nil_of_length_eq_zero (by rw [key_len]; exact e0)
     clear hb e0
     go_wp2_with fail
     go_ret2
     exact HFIN.out
    ·have b1 : key.toList.isEmpty = false := by rw [← Bool.not_eq_true, List.isEmpty_iff]; exact fun e => e0 (by rw [← key_len, e]; rfl)
     by_cases e1 : 320 < key.size
     ·have b2 : decide ((320 : Int) < (key.size : Int)) = true := decide_eq_true (by omega)
      clear hb e0 e1
      go_wp2_with fail
      go_ret2
      exact HFIN.out
     ·have b2 : decide ((320 : Int) < (key.size : Int)) = false := decide_eq_false (by omega)
      have b3 : decide ((262144 : Int) < (val.length : Int)) = true := decide_eq_true (by omega)
      clear hb e0 e1
      go_wp2_with fail
      go_ret2
      exact HFIN.out
   ·rw [if_neg hb] at HINV
    obtain ⟨g0, g1, g2⟩ := badCh_false (by simpa using hb : badCh ⟨key, gone, val⟩ = false)
    dsimp only at g0 g1 g2
    have b1 : key.toList.isEmpty = false := by rw [← Bool.not_eq_true, List.isEmpty_iff]; exact fun e => by rw [← key_len, e] at g0; simp at g0
    have b2 : decide ((320 : Int) < (key.size : Int)) = false := decide_eq_false (by omega)
    have b3 : decide ((262144 : Int) < (val.length : Int)) = false := decide_eq_false (by omega)
    have hkl : (textOf key.toList).length ≤ 400 := by
     have hk' := key_len key
     have h1 := countOf_len10 (n := key.toList.length) (by omega)
     unfold textOf; rw [List.length_append]; omega
    have hvl : (textOf val).length ≤ 300000 := by
     have h1 := countOf_len10 (n := val.length) (by omega)
     unfold textOf; rw [List.length_append]; omega
    -- the kind
    obtain ⟨kb, hkb⟩ : ∃ kb : UInt8, (if gone = true then (0 : UInt8) else 1) = kb := ⟨_, rfl⟩
    have hgr : ∃ v' w', (Builtin.append_ #[36, 36] 36 #[.slice oa on oc, .slice (some ⟨wr.heap.size, 0, none⟩) 1 1]).run Tryz.prog (wr.alloc (.cells #[.int .u8 (kb.toNat : Int)] 5)) = .ok v' w' ∧ Owns w' w.heap.size v' (out ++ [kb]) ∧ Keeps (fun _ => False) w w' := by
     obtain ⟨v', w', h1, h2, h3⟩ := Owns.grow (wr := wr.alloc (.cells #[.int .u8 (kb.toNat : Int)] 5)) (by rw [World.size_alloc]; have := HQ.out.size; omega) (HO.out.keep ((Keeps.refl (fun _ => False) wr).alloc _)) (one_byte wr kb) (by have := HOL.out; simp; omega)
     exact ⟨v', w', h1, h2, (HQ.out.trans ((Keeps.refl (fun _ => False) wr).alloc _) (fun _ _ e => e)).trans h3 (fun b hb e => by have := owns_lt HO.out b e; omega)⟩
    obtain ⟨v2, w2, hr2, ho2, hk2⟩ := hgr
    obtain ⟨a2, n2, c2', rfl⟩ := slice_form ho2
    obtain ⟨cc, w3, hcv, hrd3, hk3⟩ := conv_bytes key (by omega) w2
    have ht3 := rtext_calls hrd3 (by rw [key_len]; omega)
    obtain ⟨r0, r1, r2⟩ := CC.out w2 hk2
    have HR2 := hyd hr2
    have HT3 := hyd ht3
    have HG3 := hyd (fun (W : World) (tv : Value) (hk : Keeps (fun _ => False) w3 W) (ht : Reads W tv (textOf key.toList)) => (ho2.keep (hk3.trans hk (fun _ _ e => e))).more (w := w) ((hk2.trans (hk3.trans hk (fun _ _ e => e)) (fun _ _ e => e)).size) ht (by have := HOL.out; simp; omega) (hk2.trans (hk3.trans hk (fun _ _ e => e)) (fun _ _ e => e)) (Nat.le_refl _))
    have HVL := hyd hvl
    have HKL := hyd hkl
    have HG2 := hyd g2
    clear hr2 ho2 hk2 hrd3 hk3 ht3 hb g0 g1 g2 hkl hvl HO HQ
    cases gone with
    | true =>
     obtain rfl : (0 : UInt8) = kb := hkb
     go_wp2_with (first | (at_builtin; refine wpList_append_run rfl _ _ _ _ rfl rfl rfl HR2.out ?_) | fail)
     refine HT3.out.mono ?_
     rintro e w4 ⟨tv, rfl, ho4, hk4⟩
     obtain ⟨v5, w5, hr5, ho5, hk5⟩ := HG3.out w4 tv hk4 ho4.bytes.reads
     obtain ⟨ta, tn, tc, rfl⟩ := slice_form ho4
     obtain ⟨s0, s1, s2⟩ := CC.out w5 hk5
     clear HR2 HT3 HG3 hcv r0 r1 r2 q0 q1 q2 ho4 hk4
     have hinv := HINV.out
     have he : out ++ [0] ++ textOf key.toList = out ++ encCh ⟨key, true, val⟩ := by simp [encCh]
     rw [he] at ho5
     obtain ⟨n9, hn9⟩ : ∃ n, n = (out ++ encCh ⟨key, true, val⟩).length := ⟨_, rfl⟩
     obtain ⟨a9, c9, rfl, -, -⟩ := ho5.bytes.form
     rw [← hn9] at hinv ho5 hr5
     have HRR := hyd hr5
     clear HINV HP HOL CC HKL HVL HG2 he hr5
     by_cases hl : 1048568 < n9
     ·rw [if_pos hl] at hinv
      have bl : decide ((1048568 : Int) < (n9 : Int)) = true := decide_eq_true (by omega)
      have HFIN := hyd (⟨_, by rw [hinv], by rw [hinv]; exact Owns.nil _ _, hk5⟩ : EncPost w (encFrom l (countOf l.length)) (.returned (.tuple #[.slice none 0 0, .int .i64 8])) _)
      clear hl hn9 ho5 hk5 hinv
      go_wp2_with (first | (at_builtin; refine wpList_append_run rfl _ _ _ _ rfl rfl rfl HRR.out ?_) | fail)
      go_ret2
      exact HFIN.out
     ·rw [if_neg hl] at hinv
      have bl : decide ((1048568 : Int) < (n9 : Int)) = false := decide_eq_false (by omega)
      have HO9 := hyd ho5
      have HK9 := hyd hk5
      have HI9 := hyd hinv
      have HN9 := hyd (show (out ++ encCh ⟨key, true, val⟩).length ≤ 1048568 by omega)
      clear hl hn9 ho5 hk5 hinv
      go_wp2_with (first | (at_builtin; refine wpList_append_run rfl _ _ _ _ rfl rfl rfl HRR.out ?_) | fail)
      go_roundw
      case rel => exact ⟨k + 1, out ++ encCh ⟨key, true, val⟩, hk1, rfl, HO9.out, HI9.out, HN9.out, HK9.out⟩
      case measure => simp [intOf]; omega
    | false =>
     obtain rfl : (1 : UInt8) = kb := hkb
     go_wp2_with (first | (at_builtin; refine wpList_append_run rfl _ _ _ _ rfl rfl rfl HR2.out ?_) | fail)
     refine HT3.out.mono ?_
     rintro e w4 ⟨tv, rfl, ho4, hk4⟩
     obtain ⟨v5, w5, hr5, ho5, hk5⟩ := HG3.out w4 tv hk4 ho4.bytes.reads
     obtain ⟨ta, tn, tc, rfl⟩ := slice_form ho4
     obtain ⟨a5, n5, c5, rfl⟩ := slice_form ho5
     obtain ⟨s0, s1, s2⟩ := CC.out w5 hk5
     have HT5 := hyd (rtext_calls (HP.out.keep hk5) (by have := HG2.out; omega))
     have HG5 := hyd (fun (W : World) (tv : Value) (hk : Keeps (fun _ => False) w5 W) (ht : Reads W tv (textOf val)) => (ho5.keep hk).more (w := w) ((hk5.trans hk (fun _ _ e => e)).size) ht (by have := HOL.out; have := HKL.out; have := HVL.out; simp only [List.length_append, List.length_cons, List.length_nil]; omega) (hk5.trans hk (fun _ _ e => e)) (Nat.le_refl _))
     have HR5 := hyd hr5
     clear HR2 HT3 HG3 hcv r0 r1 r2 q0 q1 q2 ho4 hk4 hr5 ho5 hk5
     go_wp2_with (first | (at_builtin; refine wpList_append_run rfl _ _ _ _ rfl rfl rfl HR5.out ?_) | fail)
     refine HT5.out.mono ?_
     rintro e w6 ⟨tv, rfl, ho6, hk6⟩
     obtain ⟨v7, w7, hr7, ho7, hk7⟩ := HG5.out w6 tv hk6 ho6.bytes.reads
     obtain ⟨ta, tn, tc, rfl⟩ := slice_form ho6
     obtain ⟨t0, t1, t2⟩ := CC.out w7 hk7
     clear HR5 HT5 HG5 s0 s1 s2 ho6 hk6
     have hinv := HINV.out
     have he : out ++ [1] ++ textOf key.toList ++ textOf val = out ++ encCh ⟨key, false, val⟩ := by simp [encCh]
     rw [he] at ho7
     obtain ⟨n9, hn9⟩ : ∃ n, n = (out ++ encCh ⟨key, false, val⟩).length := ⟨_, rfl⟩
     obtain ⟨a9, c9, rfl, -, -⟩ := ho7.bytes.form
     rw [← hn9] at hinv ho7 hr7
     have HRR := hyd hr7
     clear HINV HP HOL CC HKL HVL HG2 he hr7
     by_cases hl : 1048568 < n9
     ·rw [if_pos hl] at hinv
      have bl : decide ((1048568 : Int) < (n9 : Int)) = true := decide_eq_true (by omega)
      have HFIN := hyd (⟨_, by rw [hinv], by rw [hinv]; exact Owns.nil _ _, hk7⟩ : EncPost w (encFrom l (countOf l.length)) (.returned (.tuple #[.slice none 0 0, .int .i64 8])) _)
      clear hl hn9 ho7 hk7 hinv
      go_wp2_with (first | (at_builtin; refine wpList_append_run rfl _ _ _ _ rfl rfl rfl HRR.out ?_) | fail)
      go_ret2
      exact HFIN.out
     ·rw [if_neg hl] at hinv
      have bl : decide ((1048568 : Int) < (n9 : Int)) = false := decide_eq_false (by omega)
      have HO9 := hyd ho7
      have HK9 := hyd hk7
      have HI9 := hyd hinv
      have HN9 := hyd (show (out ++ encCh ⟨key, false, val⟩).length ≤ 1048568 by omega)
      clear hl hn9 ho7 hk7 hinv
      go_wp2_with (first | (at_builtin; refine wpList_append_run rfl _ _ _ _ rfl rfl rfl HRR.out ?_) | fail)
      go_roundw
      case rel => exact ⟨k + 1, out ++ encCh ⟨key, false, val⟩, hk1, rfl, HO9.out, HI9.out, HN9.out, HK9.out⟩
      case measure => simp [intOf]; omega
  ·obtain rfl : k = l.length := by omega
   rw [List.drop_length] at hinv
   have HFIN := hyd (⟨_, by rw [hinv]; rfl, by rw [hinv]; exact ho, hq⟩ : EncPost w (encFrom l (countOf l.length)) (.returned (.tuple #[.slice oa on oc, .int .i64 0])) wr)
   clear hinv ho hq hol hlt hk
   go_wp2_with fail
   go_ret2
   exact HFIN.out
def rtAppOf (m : DM) (nm : ByteArray) (recs : List (List UInt8)) (fs : FS) (dn : Bool) (l : List TCh) : Int × DM × List (List UInt8) × FS × Bool :=
 if dn = true then (5, m, recs, fs, dn)
 else if (encOf l).1 = 0 then
  (if (rAppendOf m nm recs (encOf l).2).1 = 0 then
   (if (syncOf (rAppendOf m nm recs (encOf l).2).2.1).1 = 0 then (0, (syncOf (rAppendOf m nm recs (encOf l).2).2.1).2, (rAppendOf m nm recs (encOf l).2).2.2, tdos fs l, false)
    else ((syncOf (rAppendOf m nm recs (encOf l).2).2.1).1, (syncOf (rAppendOf m nm recs (encOf l).2).2.1).2, (rAppendOf m nm recs (encOf l).2).2.2, fs, (syncOf (rAppendOf m nm recs (encOf l).2).2.1).1 == 5))
   else ((rAppendOf m nm recs (encOf l).2).1, (rAppendOf m nm recs (encOf l).2).2.1, (rAppendOf m nm recs (encOf l).2).2.2, fs, (rAppendOf m nm recs (encOf l).2).1 == 5))
 else ((encOf l).1, m, recs, fs, (encOf l).1 == 5)
def RTabPost (w : World) (r q u : Nat) (nm : ByteArray) (rs : List (Res w.heap.size)) (R : Int × DM × List (List UInt8) × FS × Bool) (e : Ending) (w' : World) : Prop :=
 e = .returned (.int .i64 R.1) ∧ ∃ v lv, Own w w' (rtRes w.heap.size r q u nm R.2.1 R.2.2.1 v lv R.2.2.2.1 R.2.2.2.2 ++ rs)
theorem rAppend_tidy {m : DM} {n t : Nat} (h : Tidy m n t) (nm : ByteArray) (recs : List (List UInt8)) (p : List UInt8) : Tidy (rAppendOf m nm recs p).2.1 (n + 1) (t + 1) := by
 unfold rAppendOf
 split
 ·exact h.mono (by omega) (by omega)
 ·split <;> exact (h.append nm (frameOf p)).mono (by omega) (by omega)
theorem Own.rdown {w wr : World} {x y z p : Res w.heap.size} {q u : Nat} {lv : Value} {dn : Bool} {rs : List (Res w.heap.size)} (h : Own w wr (x :: y :: z :: rObj w.heap.size u (rtabObj q lv dn) :: p :: rs)) (dn' : Bool) :
  Own w (wr.setCell ⟨u, 2, none⟩ (.bool dn')) (x :: y :: z :: rObj w.heap.size u (rtabObj q lv dn') :: p :: rs) :=
 ((Own.pull (l₁ := [x, y, z]) h).store 2 (.bool dn')).perm (List.perm_middle (l₁ := [x, y, z])).symm
set_option maxRecDepth 100000 in
set_option maxHeartbeats 1000000 in
theorem rapply11_calls {w w0 : World} {r q u : Nat} {nm : ByteArray} {m : DM} {recs : List (List UInt8)} {v lv : Value} {fs : FS} {dn : Bool} {rs : List (Res w.heap.size)} (h : Own w w0 (rtRes w.heap.size r q u nm m recs v lv fs dn ++ rs)) {n t : Nat} (ht : Tidy m n t) (hn : n + 8 < 549755813888) (htt : t + 8 < 549755813888) (hrl : recs.length < 1099511627776) (hso : FSorted fs)
  {a : Option Addr} {c : Nat} {l : List TCh} (hm : ∀ (wr : World) (ls : List (Res w.heap.size)), Own w wr (ls ++ rs) → TChsIn wr a l) (hlc : l.length ≤ c) (hc : c ≤ maxLen) (hfl : fs.length + 256 < 1099511627775) :
  Calls Tryz.prog 12 #[.pointer (some ⟨u, 0, none⟩), .slice a l.length c] w0 (RTabPost w r q u nm rs (rtAppOf m nm recs fs dn l)) := by
 have h0 : Own w w0 (rRef w.heap.size r m :: rObj w.heap.size q (rjObj r nm v) :: rRows w.heap.size v recs :: rObj w.heap.size u (rtabObj q lv dn) :: rPairs w.heap.size lv fs :: rs) := h
 obtain ⟨F, hpa⟩ := h0.pairs (v := lv) (fs := fs) (by simp)
 obtain ⟨la, lc, rfl, -, -⟩ := hpa.form
 obtain ⟨R, hR⟩ : ∃ R, rtAppOf m nm recs fs dn l = R := ⟨_, rfl⟩
 have HR := hyd hR
 rw [hR]
 unfold rtAppOf at HR
 obtain ⟨c0, -, c2, cf⟩ := rtab_cells (h0.at (b := u) (o := rtabObj q (.slice la fs.length lc) dn) (by simp)).1
 have H0 := hyd h0
 have HT := hyd ht
 have HEN := hyd (rencode_calls (hm w0 [_, _, _, _, _] h0) hlc hc)
 have HM := hyd hm
 have HN := hyd (show n + 9 ≤ 549755813888 ∧ t + 9 ≤ 549755813888 by omega)
 have HRL := hyd (show recs.length ≤ 1099511627775 by omega)
 have HSO := hyd hso
 have HFL := hyd (show fs.length + 257 ≤ 1099511627775 by omega)
 have HLC := hyd hlc
 have HC := hyd hc
 clear h h0 hR ht hn htt hrl hso hm hfl hlc hc hpa
 cases dn with
 | true =>
  rw [if_pos rfl] at HR
  have HF := hyd (show RTabPost w r q u nm rs R (.returned (.int .i64 5)) w0 by rw [← HR.out]; exact ⟨rfl, _, _, H0.out⟩)
  clear HEN HR cf
  go_enter Tryz.func12, Tryz.ntmps12
  go_wp2_with fail
  go_ret
  exact HF.out
 | false =>
  rw [if_neg (by simp)] at HR
  clear cf
  go_enter Tryz.func12, Tryz.ntmps12
  go_wp2_with fail
  refine HEN.out.mono ?_
  rintro e w1 ⟨ev, rfl, hv, hk⟩
  obtain ⟨ea, ec, rfl, -, -⟩ := hv.bytes.form
  have h1 : Own w w1 (rRef w.heap.size r m :: rObj w.heap.size q (rjObj r nm v) :: rRows w.heap.size v recs :: rObj w.heap.size u (rtabObj q (.slice la fs.length lc) false) :: rPairs w.heap.size (.slice la fs.length lc) fs :: rBytes w.heap.size (.slice ea (encOf l).2.length ec) (encOf l).2 :: rs) :=
   (H0.out.addBytes hv hk).perm (List.perm_middle (l₁ := [_, _, _, _, _])).symm
  obtain ⟨t10, -, t12, tf⟩ := rtab_cells (h1.at (b := u) (o := rtabObj q (.slice la fs.length lc) false) (by simp)).1
  have t1f := tf 2
  have H1 := hyd h1
  clear HEN H0 hv hk h1 tf c0 c2
  by_cases he : (encOf l).1 = 0
  ·rw [if_pos he] at HR
   have HAP := hyd (rappend_callsO (p := (encOf l).2) H1.out HT.out (by have := HN.out; omega) (by have := HN.out; omega) (by have := HRL.out; omega) (fun wr ls h => (h.bytes (v := .slice ea (encOf l).2.length ec) (l := (encOf l).2) (by simp)).1))
   have HT2 := hyd (rAppend_tidy HT.out nm recs (encOf l).2)
   have HE := hyd (enc_ok he)
   generalize rAppendOf m nm recs (encOf l).2 = A at HR HAP HT2
   rw [he]
   generalize (encOf l).2 = rec at HAP ⊢
   obtain ⟨ac, am, ar⟩ := A
   dsimp only at HR HT2
   clear he H1 HT HRL
   go_wp2_with fail
   refine HAP.out.mono ?_
   rintro e w2 ⟨rfl, v2, h2⟩
   dsimp only at h2
   obtain ⟨t20, -, t22, tf⟩ := rtab_cells (h2.at (b := u) (o := rtabObj q (.slice la fs.length lc) false) (by simp)).1
   have t2f := tf 2
   obtain ⟨r20, -, -, -⟩ := rj_cells (h2.at (b := q) (o := rjObj r nm v2) (by simp)).1
   have H2 := hyd h2
   clear h2 tf HAP t10 t12 t1f
   dsimp only
   by_cases hac : ac = 0
   ·subst hac
    rw [if_pos rfl] at HR
    obtain ⟨w3, hsy, h3⟩ := H2.out.rsync HT2.out
    have HSY := hyd hsy
    generalize syncOf am = S at HR HSY h3
    obtain ⟨sc, sm⟩ := S
    dsimp only at HR h3
    obtain ⟨t30, t31, t32, tf⟩ := rtab_cells (h3.at (b := u) (o := rtabObj q (.slice la fs.length lc) false) (by simp)).1
    have t3f := tf 2
    have H3 := hyd h3
    clear HT2 H2 hsy h3 tf
    go_wp2_with fail
    refine HSY.out.out.mono ?_; rintro e w' ⟨rfl, rfl⟩
    clear HSY t20 t22 t2f r20
    dsimp only
    by_cases hsc : sc = 0
    ·subst hsc
     rw [if_pos rfl] at HR
     have h3p : Own w w3 (rPairs w.heap.size (.slice la fs.length lc) fs :: rObj w.heap.size u (rtabObj q (.slice la fs.length lc) false) :: rRef w.heap.size r sm :: rObj w.heap.size q (rjObj r nm v2) :: rRows w.heap.size v2 ar :: rs) :=
      ((Own.pull (l₁ := [_, _, _, _, _]) H3.out).drop.perm ((List.perm_append_comm (l₁ := [_, _, _]) (l₂ := [_, _])).append_right rs)).swap
     have hdo := h3p.rdo (c := c) HSO.out (HM.out w3 [_, _, _, _, _] h3p) (by have := HFL.out; have := HE.out.1; omega) (fun x hx => by have := (badCh_false (HE.out.2.2.1 x hx)).2.2; omega)
     have HDO := hyd hdo
     clear hdo H3 HM HE HN h3p
     go_wp2_with fail
     refine HDO.out.mono ?_
     rintro e w4 ⟨v4, rfl, h4⟩
     obtain ⟨F, hpa⟩ := h4.pairs (v := v4) (fs := tdos fs l) (by simp)
     obtain ⟨l4a, l4c, rfl, -, -⟩ := hpa.form
     obtain ⟨t40, t41, t42, tf⟩ := rtab_cells (h4.at (b := u) (o := rtabObj q (.slice la fs.length lc) false) (by simp)).1
     have t4f := tf 1
     have h5 : Own w (w4.setCell ⟨u, 1, none⟩ (.slice l4a (tdos fs l).length l4c)) (rRef w.heap.size r sm :: rObj w.heap.size q (rjObj r nm v2) :: rRows w.heap.size v2 ar :: rObj w.heap.size u (rtabObj q (.slice l4a (tdos fs l).length l4c) false) :: rPairs w.heap.size (.slice l4a (tdos fs l).length l4c) (tdos fs l) :: rs) :=
      (h4.swap.store 1 (.slice l4a (tdos fs l).length l4c)).perm ((List.perm_append_comm (l₁ := [_, _]) (l₂ := [_, _, _])).append_right rs)
     have HF := hyd (show RTabPost w r q u nm rs R (.returned (.int .i64 0)) ((w4.setCell ⟨u, 1, none⟩ (.slice l4a (tdos fs l).length l4c)).setCell ⟨u, 2, none⟩ (.bool false)) by rw [← HR.out]; exact ⟨rfl, _, _, h5.rdown _⟩)
     obtain ⟨t50, t51, t52, tf5⟩ := rtab_cells (h5.at (b := u) (o := rtabObj q (.slice l4a (tdos fs l).length l4c) false) (by simp)).1
     have t5f := tf5 2
     clear h4 h5 tf tf5 HDO t30 t31 t32 t3f HR hpa
     go_wp2_with fail
     go_ret
     exact HF.out
    ·rw [if_neg hsc] at HR
     have he2 : (sc == 0) = false := by simpa using hsc
     have HF := hyd (show RTabPost w r q u nm rs R (.returned (.int .i64 sc)) (w3.setCell ⟨u, 2, none⟩ (.bool (sc == 5))) by rw [← HR.out]; exact ⟨rfl, _, _, (Own.pull (l₁ := [_, _, _, _, _]) H3.out).drop.rdown _⟩)
     clear hsc HR H3 HM HE HN
     go_wp2_with fail
     go_ret
     exact HF.out
   ·rw [if_neg hac] at HR
    have he2 : (ac == 0) = false := by simpa using hac
    have HF := hyd (show RTabPost w r q u nm rs R (.returned (.int .i64 ac)) (w2.setCell ⟨u, 2, none⟩ (.bool (ac == 5))) by rw [← HR.out]; exact ⟨rfl, _, _, (Own.pull (l₁ := [_, _, _, _, _]) H2.out).drop.rdown _⟩)
    clear hac HR H2 HM HE HN HT2
    go_wp2_with fail
    go_ret
    exact HF.out
  ·rw [if_neg he] at HR
   have he2 : ((encOf l).1 == 0) = false := by simpa using he
   have HF := hyd (show RTabPost w r q u nm rs R (.returned (.int .i64 (encOf l).1)) (w1.setCell ⟨u, 2, none⟩ (.bool ((encOf l).1 == 5))) by rw [← HR.out]; exact ⟨rfl, _, _, (Own.pull (l₁ := [_, _, _, _, _]) H1.out).drop.rdown _⟩)
   generalize (encOf l).1 = ec1 at he2 HF ⊢
   clear he HR H1 HM HN HT
   go_wp2_with fail
   go_ret
   exact HF.out
end Go.Proofs.YtddnikpdmjogiaaGreat
