/- The document's table: Apply. -/
import Derived.Test.YtaeabdghlkdkjaaGreatR11Opn
import Derived.Test.YtaeabdghlkdkjaaGreatTREnc
namespace Go.Proofs.YtaeabdghlkdkjaaGreat
set_option linter.unusedVariables false
open Go.RowKit Go.MapKept

/-- What Apply answers, and what it leaves: the disk, the records, the pairs, whether it is down. -/
def rtAppOf (m : DM) (nm : ByteArray) (recs : List (List UInt8)) (fs : FS) (dn : Bool) (l : List TCh) : Int × DM × List (List UInt8) × FS × Bool :=
  if dn = true then (5, m, recs, fs, dn)
  else if (encOf l).1 = 0 then
    (if (rAppendOf m nm recs (encOf l).2).1 = 0 then
      (if (syncOf (rAppendOf m nm recs (encOf l).2).2.1).1 = 0 then (0, (syncOf (rAppendOf m nm recs (encOf l).2).2.1).2, (rAppendOf m nm recs (encOf l).2).2.2, tdos fs l, false)
       else ((syncOf (rAppendOf m nm recs (encOf l).2).2.1).1, (syncOf (rAppendOf m nm recs (encOf l).2).2.1).2, (rAppendOf m nm recs (encOf l).2).2.2, fs, (syncOf (rAppendOf m nm recs (encOf l).2).2.1).1 == 5))
     else ((rAppendOf m nm recs (encOf l).2).1, (rAppendOf m nm recs (encOf l).2).2.1, (rAppendOf m nm recs (encOf l).2).2.2, fs, (rAppendOf m nm recs (encOf l).2).1 == 5))
  else ((encOf l).1, m, recs, fs, (encOf l).1 == 5)
def RTabPost (w : World) (r q u : Nat) (nm : ByteArray) (rs : List (Res w.heap.size)) (R : Int × DM × List (List UInt8) × FS × Bool) (e : Ending) (w' : World) : Prop :=
  e = .returned (.int .i64 R.1) ∧ ∃ v lv, Own w w' (rtRes w.heap.size r q u nm R.2.1 R.2.2.1 v lv R.2.2.2.1 R.2.2.2.2 ++ rs)
theorem rAppend_tidy {m : DM} {n t : Nat} (h : Tidy m n t) (nm : ByteArray) (recs : List (List UInt8)) (p : List UInt8) : Tidy (rAppendOf m nm recs p).2.1 (n + 1) (t + 1) := by
  unfold rAppendOf
  split
  · exact h.mono (by omega) (by omega)
  · split <;> exact (h.append nm (frameOf p)).mono (by omega) (by omega)
theorem Own.rdown {w wr : World} {x y z p : Res w.heap.size} {q u : Nat} {lv : Value} {dn : Bool} {rs : List (Res w.heap.size)} (h : Own w wr (x :: y :: z :: rObj w.heap.size u (rtabObj q lv dn) :: p :: rs)) (dn' : Bool) :
    Own w (wr.setCell ⟨u, 2, none⟩ (.bool dn')) (x :: y :: z :: rObj w.heap.size u (rtabObj q lv dn') :: p :: rs) :=
  ((Own.pull (l₁ := [x, y, z]) h).store 2 (.bool dn')).perm (List.perm_middle (l₁ := [x, y, z])).symm

set_option maxRecDepth 100000 in
set_option maxHeartbeats 1000000 in
theorem rapply11_calls {w w0 : World} {r q u : Nat} {nm : ByteArray} {m : DM} {recs : List (List UInt8)} {v lv : Value} {fs : FS} {dn : Bool} {rs : List (Res w.heap.size)} (h : Own w w0 (rtRes w.heap.size r q u nm m recs v lv fs dn ++ rs)) {n t : Nat} (ht : Tidy m n t) (hn : n + 8 < 549755813888) (htt : t + 8 < 549755813888) (hrl : recs.length < 1099511627776) (hso : FSorted fs)
    {a : Option Addr} {c : Nat} {l : List TCh} (hm : ∀ (wr : World) (ls : List (Res w.heap.size)), Own w wr (ls ++ rs) → TChsIn wr a l) (hlc : l.length ≤ c) (hc : c ≤ maxLen) (hfl : fs.length + 256 < 1099511627775) :
    Calls Tryz.prog 23 #[.pointer (some ⟨u, 0, none⟩), .slice a l.length c] w0 (RTabPost w r q u nm rs (rtAppOf m nm recs fs dn l)) := by
  have h0 : Own w w0 (rRef w.heap.size r m :: rObj w.heap.size q (rjObj r nm v) :: rRows w.heap.size v recs :: rObj w.heap.size u (rtabObj q lv dn) :: rPairs w.heap.size lv fs :: rs) := h
  obtain ⟨F, hpa⟩ := h0.pairs (v := lv) (fs := fs) (by simp)
  obtain ⟨la, lc, rfl, -, -⟩ := hpa.form
  obtain ⟨R, hR⟩ : ∃ R, rtAppOf m nm recs fs dn l = R := ⟨_, rfl⟩
  have HR := Lib.hid hR
  rw [hR]
  unfold rtAppOf at HR
  obtain ⟨c0, -, c2, cf⟩ := rtab_cells (h0.at (b := u) (o := rtabObj q (.slice la fs.length lc) dn) (by simp)).1
  have H0 := Lib.hid h0
  have HT := Lib.hid ht
  have HEN := Lib.hid (rencode_calls (hm w0 [_, _, _, _, _] h0) hlc hc)
  have HM := Lib.hid hm
  have HN := Lib.hid (show n + 9 ≤ 549755813888 ∧ t + 9 ≤ 549755813888 by omega)
  have HRL := Lib.hid (show recs.length ≤ 1099511627775 by omega)
  have HSO := Lib.hid hso
  have HFL := Lib.hid (show fs.length + 257 ≤ 1099511627775 by omega)
  have HLC := Lib.hid hlc
  have HC := Lib.hid hc
  clear h h0 hR ht hn htt hrl hso hm hfl hlc hc hpa
  cases dn with
  | true =>
    rw [if_pos rfl] at HR
    have HF := Lib.hid (show RTabPost w r q u nm rs R (.returned (.int .i64 5)) w0 by rw [← HR.out]; exact ⟨rfl, _, _, H0.out⟩)
    clear HEN HR cf
    go_enter Tryz.func23, Tryz.ntmps23
    go_wp2_with fail
    go_ret
    exact HF.out
  | false =>
    rw [if_neg (by simp)] at HR
    clear cf
    go_enter Tryz.func23, Tryz.ntmps23
    go_wp2_with fail
    refine HEN.out.mono ?_
    rintro e w1 ⟨ev, rfl, hv, hk⟩
    obtain ⟨ea, ec, rfl, -, -⟩ := hv.bytes.form
    have h1 : Own w w1 (rRef w.heap.size r m :: rObj w.heap.size q (rjObj r nm v) :: rRows w.heap.size v recs :: rObj w.heap.size u (rtabObj q (.slice la fs.length lc) false) :: rPairs w.heap.size (.slice la fs.length lc) fs :: rBytes w.heap.size (.slice ea (encOf l).2.length ec) (encOf l).2 :: rs) :=
      (H0.out.addBytes hv hk).perm (List.perm_middle (l₁ := [_, _, _, _, _])).symm
    obtain ⟨t10, -, t12, tf⟩ := rtab_cells (h1.at (b := u) (o := rtabObj q (.slice la fs.length lc) false) (by simp)).1
    have t1f := tf 2
    have H1 := Lib.hid h1
    clear HEN H0 hv hk h1 tf c0 c2
    by_cases he : (encOf l).1 = 0
    · rw [if_pos he] at HR
      have HAP := Lib.hid (rappend_callsO (p := (encOf l).2) H1.out HT.out (by have := HN.out; omega) (by have := HN.out; omega) (by have := HRL.out; omega) (fun wr ls h => (h.bytes (v := .slice ea (encOf l).2.length ec) (l := (encOf l).2) (by simp)).1))
      have HT2 := Lib.hid (rAppend_tidy HT.out nm recs (encOf l).2)
      have HE := Lib.hid (enc_ok he)
      generalize rAppendOf m nm recs (encOf l).2 = A at HR HAP HT2
      rw [he]
      generalize (encOf l).2 = rec at HAP ⊢
      obtain ⟨ac, am, ar⟩ := A
      dsimp only at HR HT2
      clear he H1 HT HRL
      go_wp2_with fail
      refine HAP.out.mono ?_
      rintro e w2 ⟨rfl, v2, h2⟩
      dsimp only at h2
      obtain ⟨t20, -, t22, tf⟩ := rtab_cells (h2.at (b := u) (o := rtabObj q (.slice la fs.length lc) false) (by simp)).1
      have t2f := tf 2
      obtain ⟨r20, -, -, -⟩ := rj_cells (h2.at (b := q) (o := rjObj r nm v2) (by simp)).1
      have H2 := Lib.hid h2
      clear h2 tf HAP t10 t12 t1f
      dsimp only
      by_cases hac : ac = 0
      · subst hac
        rw [if_pos rfl] at HR
        obtain ⟨w3, hsy, h3⟩ := H2.out.rsync HT2.out
        have HSY := Lib.hid hsy
        generalize syncOf am = S at HR HSY h3
        obtain ⟨sc, sm⟩ := S
        dsimp only at HR h3
        obtain ⟨t30, t31, t32, tf⟩ := rtab_cells (h3.at (b := u) (o := rtabObj q (.slice la fs.length lc) false) (by simp)).1
        have t3f := tf 2
        have H3 := Lib.hid h3
        clear HT2 H2 hsy h3 tf
        go_wp2_with fail
        refine HSY.out.out.mono ?_; rintro e w' ⟨rfl, rfl⟩
        clear HSY t20 t22 t2f r20
        dsimp only
        by_cases hsc : sc = 0
        · subst hsc
          rw [if_pos rfl] at HR
          have h3p : Own w w3 (rPairs w.heap.size (.slice la fs.length lc) fs :: rObj w.heap.size u (rtabObj q (.slice la fs.length lc) false) :: rRef w.heap.size r sm :: rObj w.heap.size q (rjObj r nm v2) :: rRows w.heap.size v2 ar :: rs) :=
            ((Own.pull (l₁ := [_, _, _, _, _]) H3.out).drop.perm ((List.perm_append_comm (l₁ := [_, _, _]) (l₂ := [_, _])).append_right rs)).swap
          have hdo := h3p.rdo (c := c) HSO.out (HM.out w3 [_, _, _, _, _] h3p) (by have := HFL.out; have := HE.out.1; omega) (fun x hx => by have := (badCh_false (HE.out.2.2.1 x hx)).2.2; omega)
          have HDO := Lib.hid hdo
          clear hdo H3 HM HE HN h3p
          go_wp2_with fail
          refine HDO.out.mono ?_
          rintro e w4 ⟨v4, rfl, h4⟩
          obtain ⟨F, hpa⟩ := h4.pairs (v := v4) (fs := tdos fs l) (by simp)
          obtain ⟨l4a, l4c, rfl, -, -⟩ := hpa.form
          obtain ⟨t40, t41, t42, tf⟩ := rtab_cells (h4.at (b := u) (o := rtabObj q (.slice la fs.length lc) false) (by simp)).1
          have t4f := tf 1
          have h5 : Own w (w4.setCell ⟨u, 1, none⟩ (.slice l4a (tdos fs l).length l4c)) (rRef w.heap.size r sm :: rObj w.heap.size q (rjObj r nm v2) :: rRows w.heap.size v2 ar :: rObj w.heap.size u (rtabObj q (.slice l4a (tdos fs l).length l4c) false) :: rPairs w.heap.size (.slice l4a (tdos fs l).length l4c) (tdos fs l) :: rs) :=
            (h4.swap.store 1 (.slice l4a (tdos fs l).length l4c)).perm ((List.perm_append_comm (l₁ := [_, _]) (l₂ := [_, _, _])).append_right rs)
          have HF := Lib.hid (show RTabPost w r q u nm rs R (.returned (.int .i64 0)) ((w4.setCell ⟨u, 1, none⟩ (.slice l4a (tdos fs l).length l4c)).setCell ⟨u, 2, none⟩ (.bool false)) by rw [← HR.out]; exact ⟨rfl, _, _, h5.rdown _⟩)
          obtain ⟨t50, t51, t52, tf5⟩ := rtab_cells (h5.at (b := u) (o := rtabObj q (.slice l4a (tdos fs l).length l4c) false) (by simp)).1
          have t5f := tf5 2
          clear h4 h5 tf tf5 HDO t30 t31 t32 t3f HR hpa
          go_wp2_with fail
          go_ret
          exact HF.out
        · rw [if_neg hsc] at HR
          have he2 : (sc == 0) = false := by simpa using hsc
          have HF := Lib.hid (show RTabPost w r q u nm rs R (.returned (.int .i64 sc)) (w3.setCell ⟨u, 2, none⟩ (.bool (sc == 5))) by rw [← HR.out]; exact ⟨rfl, _, _, (Own.pull (l₁ := [_, _, _, _, _]) H3.out).drop.rdown _⟩)
          clear hsc HR H3 HM HE HN
          go_wp2_with fail
          go_ret
          exact HF.out
      · rw [if_neg hac] at HR
        have he2 : (ac == 0) = false := by simpa using hac
        have HF := Lib.hid (show RTabPost w r q u nm rs R (.returned (.int .i64 ac)) (w2.setCell ⟨u, 2, none⟩ (.bool (ac == 5))) by rw [← HR.out]; exact ⟨rfl, _, _, (Own.pull (l₁ := [_, _, _, _, _]) H2.out).drop.rdown _⟩)
        clear hac HR H2 HM HE HN HT2
        go_wp2_with fail
        go_ret
        exact HF.out
    · rw [if_neg he] at HR
      have he2 : ((encOf l).1 == 0) = false := by simpa using he
      have HF := Lib.hid (show RTabPost w r q u nm rs R (.returned (.int .i64 (encOf l).1)) (w1.setCell ⟨u, 2, none⟩ (.bool ((encOf l).1 == 5))) by rw [← HR.out]; exact ⟨rfl, _, _, (Own.pull (l₁ := [_, _, _, _, _]) H1.out).drop.rdown _⟩)
      generalize (encOf l).1 = ec1 at he2 HF ⊢
      clear he HR H1 HM HN HT
      go_wp2_with fail
      go_ret
      exact HF.out
end Go.Proofs.YtaeabdghlkdkjaaGreat
