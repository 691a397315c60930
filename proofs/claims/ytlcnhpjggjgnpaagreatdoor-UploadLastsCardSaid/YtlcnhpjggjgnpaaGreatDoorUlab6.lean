/- A part of the proof. -/
import Derived.Test.YtlcnhpjggjgnpaaGreatDoorUlab4
import Derived.Test.YtlcnhpjggjgnpaaGreatDoorUlab5
import Derived.Lib.SlBytesConst
namespace Go.Proofs.YtlcnhpjggjgnpaaGreatDoor
set_option linter.unusedVariables false
open Go.RowKit Go.MapKept
structure TM where
 m : DM
 size : Nat
 fs : FS
 down : Bool
def tAppOf (t : TM) (nm : ByteArray) (l : List TCh) : Int × TM :=
 if t.down = true then (5, t)
 else if (encOf l).1 = 0 then
  (if (jAppendOf t.m nm t.size (encOf l).2).1 = 0 then
   (if (syncOf (jAppendOf t.m nm t.size (encOf l).2).2.1).1 = 0 then (0, ⟨(syncOf (jAppendOf t.m nm t.size (encOf l).2).2.1).2, (jAppendOf t.m nm t.size (encOf l).2).2.2, tdos t.fs l, false⟩)
    else ((syncOf (jAppendOf t.m nm t.size (encOf l).2).2.1).1, ⟨(syncOf (jAppendOf t.m nm t.size (encOf l).2).2.1).2, (jAppendOf t.m nm t.size (encOf l).2).2.2, t.fs, (syncOf (jAppendOf t.m nm t.size (encOf l).2).2.1).1 == 5⟩))
   else ((jAppendOf t.m nm t.size (encOf l).2).1, ⟨(jAppendOf t.m nm t.size (encOf l).2).2.1, (jAppendOf t.m nm t.size (encOf l).2).2.2, t.fs, (jAppendOf t.m nm t.size (encOf l).2).1 == 5⟩))
 else ((encOf l).1, ⟨t.m, t.size, t.fs, (encOf l).1 == 5⟩)
def tRes (B d j t b : Nat) (nm : ByteArray) (T : TM) : List (Res B) := [rDisk B d T.m, rObj B j (jrnObj d nm T.size), rObj B t (tabObj j b T.down), rMap B b T.fs]
def TPost (w : World) (d j t b : Nat) (nm : ByteArray) (rs : List (Res w.heap.size)) (r : Int × TM) (e : Ending) (w' : World) : Prop := e = .returned (.int .i64 r.1) ∧ Own w w' (tRes w.heap.size d j t b nm r.2 ++ rs)
theorem Own.tabDown {w wr : World} {x y : Res w.heap.size} {t j b : Nat} {dn : Bool} {rs : List (Res w.heap.size)} (h : Own w wr (x :: y :: rObj w.heap.size t (tabObj j b dn) :: rs)) (dn' : Bool) : Own w (wr.setCell ⟨t, 2, none⟩ (.bool dn')) (x :: y :: rObj w.heap.size t (tabObj j b dn') :: rs) :=
 (h.third.store 2 (.bool dn')).tuck2
theorem Own.toDo {w wr : World} {d j t m : Res w.heap.size} {rs : List (Res w.heap.size)} (h : Own w wr (d :: j :: t :: m :: rs)) : Own w wr (m :: t :: d :: j :: rs) := by
 have h1 := Own.pull (l₁ := [d, j, t]) h
 exact (Own.pull (l₁ := [m, d, j]) h1).swap
theorem Own.ofDo {w wr : World} {d j t m : Res w.heap.size} {rs : List (Res w.heap.size)} (h : Own w wr (m :: t :: d :: j :: rs)) : Own w wr (d :: j :: t :: m :: rs) := by
 have h1 := Own.pull (l₁ := [m]) h
 have h2 := Own.pull (l₁ := [t, m, d]) h1
 exact Own.pull (l₁ := [j, t, m]) h2
theorem jAppend_good {m : DM} {n : Nat} (h : Good m n) (nm : ByteArray) (size : Nat) (p : List UInt8) : Good (jAppendOf m nm size p).2.1 (n + 1) := by
 unfold jAppendOf
 split
 ·exact h.mono (by omega)
 ·split <;> exact h.append nm (frameOf p)
set_option maxRecDepth 100000 in
set_option maxHeartbeats 1000000 in
theorem tapply_callsO {w w0 : World} {d j t b : Nat} {nm : ByteArray} {T : TM} {rs : List (Res w.heap.size)} (h : Own w w0 (tRes w.heap.size d j t b nm T ++ rs)) {n : Nat} (hg : Good T.m n) (hn : n < 549755813888) (hs : T.size ≤ 1099511627776)
  {a : Option Addr} {c : Nat} {l : List TCh} (hm : ∀ (wr : World) (ls : List (Res w.heap.size)), Own w wr (ls ++ rs) → TChsIn wr a l) (hlc : l.length ≤ c) (hc : c ≤ maxLen) :
  Calls Tryz.prog 42 #[.pointer (some ⟨t, 0, none⟩), .slice a l.length c] w0 (TPost w d j t b nm rs (tAppOf T nm l)) := by
 obtain ⟨m, size, fs, down⟩ := T
 dsimp only at hg hs
 have h0 : Own w w0 (rDisk w.heap.size d m :: rObj w.heap.size j (jrnObj d nm size) :: rObj w.heap.size t (tabObj j b down) :: rMap w.heap.size b fs :: rs) := h
 have hup := tup_runs (h0.at (b := t) (o := tabObj j b down) (by simp)).1
 obtain ⟨R, hR⟩ : ∃ R, tAppOf ⟨m, size, fs, down⟩ nm l = R := ⟨_, rfl⟩
 have HR := Lib.hid hR
 rw [hR]
 unfold tAppOf at HR
 dsimp only at HR
 have H0 := Lib.hid h0
 have HUP := Lib.hid hup
 have HG := Lib.hid hg
 have HEN := Lib.hid (tencode_calls (hm w0 [_, _, _, _] h0) hlc hc)
 have HM := Lib.hid hm
 have HLC := Lib.hid hlc
 have HN := Lib.hid hn
 have HS := Lib.hid hs
 clear h h0 hup hR hg hm hlc hc hn hs
 cases down with
 | true =>
  rw [if_pos rfl] at HR
  have HF := Lib.hid (show TPost w d j t b nm rs R (.returned (.int .i64 5)) w0 by rw [← HR.out]; exact ⟨rfl, H0.out⟩)
  clear HEN HR
  go_enter Tryz.func42, Tryz.ntmps42
  go_wp2_with (first | (go_at_call 106; refine HUP.out.out.mono ?_; rintro e w' ⟨rfl, rfl⟩))
  go_ret
  exact HF.out
 | false =>
  rw [if_neg (by simp)] at HR
  go_enter Tryz.func42, Tryz.ntmps42
  go_wp2_with (first | (go_at_call 106; refine HUP.out.out.mono ?_; rintro e w' ⟨rfl, rfl⟩))
  refine HEN.out.mono ?_
  rintro e w1 ⟨v, rfl, hv, hk⟩
  obtain ⟨va, vc, rfl, _, _⟩ := hv.bytes.form
  have h1 := H0.out.quiet hk
  have ht1 := tab_cells (h1.at (b := t) (o := tabObj j b false) (by simp)).1
  have H1 := Lib.hid h1
  have HV := Lib.hid hv
  obtain ⟨t10, _, t12, t13⟩ := ht1
  have t1f := t13 2
  clear HEN HUP H0 hv hk h1 t13
  by_cases he : (encOf l).1 = 0
  ·rw [if_pos he] at HR
   have HAP := Lib.hid (jappend_calls H1.out HG.out HN.out HS.out HV.out.bytes.reads)
   have HG2 := Lib.hid (jAppend_good HG.out nm size (encOf l).2)
   have HE := Lib.hid (enc_ok he)
   generalize jAppendOf m nm size (encOf l).2 = A at HR HAP HG2
   rw [he]
   generalize (encOf l).2 = rec at HAP HV ⊢
   obtain ⟨ac, am, az⟩ := A
   dsimp only at HR HG2
   have HLL := HLC
   clear he H1 HV HG HS HLC
   go_wp2_with fail
   refine HAP.out.mono ?_
   rintro e w2 ⟨rfl, h2⟩
   dsimp only at h2
   obtain ⟨t20, _, t22, t23⟩ := tab_cells (h2.at (b := t) (o := tabObj j b false) (by simp)).1
   have t2f := t23 2
   have H2 := Lib.hid h2
   clear h2 t23 HAP t10 t12 t1f
   dsimp only
   by_cases hac : ac = 0
   ·subst hac
    rw [if_pos rfl] at HR
    have HSY := Lib.hid (jsync_calls H2.out HG2.out)
    generalize syncOf am = S at HR HSY
    obtain ⟨sc, sm⟩ := S
    dsimp only at HR
    clear HG2 H2
    go_wp2_with fail
    refine HSY.out.mono ?_
    rintro e w3 ⟨rfl, h3⟩
    dsimp only at h3
    obtain ⟨t30, _, t32, t33⟩ := tab_cells (h3.at (b := t) (o := tabObj j b false) (by simp)).1
    have t3f := t33 2
    have H3 := Lib.hid h3
    clear h3 t33 HSY t20 t22 t2f
    dsimp only
    by_cases hsc : sc = 0
    ·subst hsc
     rw [if_pos rfl] at HR
     have hdo := tdo_callsO (Own.toDo H3.out) (a := a) (c := c) (l := l) (fun wr ls h => HM.out wr (ls ++ [_, _]) (by rw [List.append_assoc]; exact h)) (by have := HE.out.1; omega) (fun x hx => by have := (badCh_false (HE.out.2.2.1 x hx)).2.2; omega)
     have HDO := Lib.hid hdo
     clear hdo H3 HM HE HN
     go_wp2_with fail
     refine HDO.out.mono ?_
     rintro e w4 ⟨rfl, h4⟩
     have h5 := Own.ofDo h4
     obtain ⟨t40, _, t42, t43⟩ := tab_cells (h5.at (b := t) (o := tabObj j b false) (by simp)).1
     have t4f := t43 2
     have HF := Lib.hid (show TPost w d j t b nm rs R (.returned (.int .i64 0)) (w4.setCell ⟨t, 2, none⟩ (.bool false)) by rw [← HR.out]; exact ⟨rfl, h5.tabDown _⟩)
     clear h4 h5 t43 HDO t30 t32 t3f HR
     go_wp2_with fail
     go_ret
     exact HF.out
    ·rw [if_neg hsc] at HR
     have he2 : (sc == 0) = false := by simpa using hsc
     have HF := Lib.hid (show TPost w d j t b nm rs R (.returned (.int .i64 sc)) (w3.setCell ⟨t, 2, none⟩ (.bool (sc == 5))) by rw [← HR.out]; exact ⟨rfl, H3.out.tabDown _⟩)
     clear hsc HR H3 HM HE HN
     go_wp2_with fail
     go_ret
     exact HF.out
   ·rw [if_neg hac] at HR
    have he2 : (ac == 0) = false := by simpa using hac
    have HF := Lib.hid (show TPost w d j t b nm rs R (.returned (.int .i64 ac)) (w2.setCell ⟨t, 2, none⟩ (.bool (ac == 5))) by rw [← HR.out]; exact ⟨rfl, H2.out.tabDown _⟩)
    clear hac HR H2 HM HE HN HG2
    go_wp2_with fail
    go_ret
    exact HF.out
  ·rw [if_neg he] at HR
   have he2 : ((encOf l).1 == 0) = false := by simpa using he
   have HF := Lib.hid (show TPost w d j t b nm rs R (.returned (.int .i64 (encOf l).1)) (w1.setCell ⟨t, 2, none⟩ (.bool ((encOf l).1 == 5))) by rw [← HR.out]; exact ⟨rfl, H1.out.tabDown _⟩)
   generalize (encOf l).1 = ec at he2 HF ⊢
   generalize (encOf l).2 = rec at HV ⊢
   clear he HR H1 HV HM HN HS HG HLC
   go_wp2_with fail
   go_ret
   exact HF.out
def nmT : ByteArray := ⟨#[116]⟩
theorem nmT_name : isName nmT = true ∧ isName (tmpOf nmT) = true := by
 constructor
 ·simp [isName, nmT]; rfl
 ·have h1 : (tmpOf nmT).toList = [116, 43] := by decide +kernel
  have h2 : (tmpOf nmT).size = 2 := by decide +kernel
  simp [isName, h1, h2]
def oneT (room : Int) (b : List UInt8) : DM := { newOf room with now := [(nmT, b)], sure := [(nmT, b)], loose := [] }
theorem open_emptyT (room : Int) : openOf (newOf room) nmT = ⟨0, oneT room [], some ([], 0)⟩ := by
 have h1 : createOf (newOf room) nmT = (0, { newOf room with now := [(nmT, [])], loose := [⟨0, nmT, ⟨#[]⟩, []⟩] }) := by
  rw [Calm.create ⟨rfl, rfl⟩ nmT_name.1 rfl (by simp [newOf])]
  rfl
 have h2 : runSteps (createSteps nmT) (newOf room) = (0, oneT room []) := by
  unfold createSteps runSteps
  simp only [h1, if_true]
  unfold runSteps
  have h3 : syncOf { newOf room with now := [(nmT, [])], loose := [⟨0, nmT, ⟨#[]⟩, []⟩] } = (0, oneT room []) := by
   simp [syncOf, newOf, synced, spendOf, oneT, doCh, fput, fdel, fins]
  simp only [h3, if_true]
  rfl
 unfold openOf
 rw [if_pos nmT_name, if_pos (by simp [thereOf, newOf, fget]), h2]
 rfl
theorem topen_empty (room : Int) : tOpenOf (newOf room) nmT = ⟨0, oneT room [], some (0, [])⟩ := by
 unfold tOpenOf
 rw [open_emptyT]
 rfl
theorem encFrom_fits : ∀ (l : List TCh) (out : List UInt8), (∀ c ∈ l, badCh c = false) → out.length + (l.map encCh).flatten.length ≤ 1048568 → (encFrom l out).1 = 0
 | [], out, _, _ => rfl
 | c :: l, out, h, hl => by
  rw [List.map_cons, List.flatten_cons, List.length_append] at hl
  rw [encFrom, if_neg (by rw [h c (List.mem_cons_self ..)]; simp), if_neg (by rw [List.length_append]; omega)]
  exact encFrom_fits l _ (fun x hx => h x (List.mem_cons_of_mem _ hx)) (by rw [List.length_append]; omega)
theorem enc_fits {l : List TCh} (hl : l.length ≤ 256) (h : ∀ c ∈ l, badCh c = false) (hs : 10 + (l.map encCh).flatten.length ≤ 1048568) : (encOf l).1 = 0 := by
 unfold encOf
 rw [if_neg (by omega)]
 exact encFrom_fits l _ h (by have := countOf_len10 (n := l.length) (by omega); omega)
end Go.Proofs.YtlcnhpjggjgnpaaGreatDoor
