/- A part of the proof. -/
import Derived.Test.YtddnikpdmjogiaaGreatYc5
import Derived.Test.YtddnikpdmjogiaaGreatYd7
import Derived.Test.YtddnikpdmjogiaaGreatYd9
namespace Go.Proofs.YtddnikpdmjogiaaGreat
set_option linter.unusedVariables false
open Go.RowKit Go.MapKept
def rFrom : FS → List (List UInt8) → Option (List (List UInt8))
 | [], es => some es
 | f :: fs, es => if beginsB f.1 hdG = true then (if f.1 = keyOf es.length then rFrom fs (es ++ [f.2]) else none) else rFrom fs es
theorem rFrom_step {fs : FS} {k : Nat} {f : ByteArray × List UInt8} (hf : fs[k]? = some f) (es : List (List UInt8)) : rFrom (fs.drop k) es = if beginsB f.1 hdG = true then (if f.1 = keyOf es.length then rFrom (fs.drop (k + 1)) (es ++ [f.2]) else none) else rFrom (fs.drop (k + 1)) es := by
 obtain ⟨hk, rfl⟩ := List.getElem?_eq_some_iff.1 hf
 rw [List.drop_eq_getElem_cons hk, rFrom]
theorem wpList_strneq {P : Program} {ops : Array Oper} {rest : List Oper} {o : Oper} {a : Act} {w : World} {Q : Exit → Act → World → Prop} (hgd : Region.wanted o (yielded ops a.tmps) = true) (t t' : TypeId) (x y : Operand) (ho : o.op = .binOp .neq t x y t')
  (s1 s2 : ByteArray) (hx : a.eval x = .string s1) (hy : a.eval y = .string s2) (b : Bool) (hb : (!(s1.toList == s2.toList)) = b) (h : wpList P ops Q rest (a.put o.dst (.bool b)) w) : wpList P ops Q (o :: rest) a w :=
 wpList_step fun K hK => by
  rw [if_pos hgd]
  unfold Oper.wp execOp
  simp only [ho, hx, hy, binOp_string_neq, hb, Sem.run_bind, Sem.run_pure]
  exact hK _ _ h
def ROpen15Post (w : World) (u : Nat) (fs : FS) (rs : List (Res w.heap.size)) (e : Ending) (w' : World) : Prop :=
 match rFrom fs [] with
 | none => e = .returned (.tuple #[.pointer none, .int .i64 200]) ∧ Own w w' rs
 | some es => ∃ g ve, e = .returned (.tuple #[.pointer (some ⟨g, 0, none⟩), .int .i64 0]) ∧ Own w w' (rRows w.heap.size ve es :: rObj w.heap.size g (rlogObj u ve) :: rs)
theorem ropen15_none {w w' : World} {u : Nat} {fs : FS} {rs : List (Res w.heap.size)} (hr : rFrom fs [] = none) (h : Own w w' rs) : ROpen15Post w u fs rs (.returned (.tuple #[.pointer none, .int .i64 200])) w' := by
 unfold ROpen15Post
 rw [hr]
 exact ⟨rfl, h⟩
theorem ropen15_some {w w' : World} {u g : Nat} {ve : Value} {es : List (List UInt8)} {fs : FS} {rs : List (Res w.heap.size)} (hr : rFrom fs [] = some es) (h : Own w w' (rRows w.heap.size ve es :: rObj w.heap.size g (rlogObj u ve) :: rs)) : ROpen15Post w u fs rs (.returned (.tuple #[.pointer (some ⟨g, 0, none⟩), .int .i64 0])) w' := by
 unfold ROpen15Post
 rw [hr]
 exact ⟨g, ve, rfl, h⟩
set_option maxRecDepth 100000 in
set_option maxHeartbeats 4000000 in
theorem ropen15_calls {w w0 : World} {u q : Nat} {lv : Value} {fs : FS} {dn : Bool} {rs : List (Res w.heap.size)} (h : Own w w0 rs) (hu : rObj w.heap.size u (rtabObj q lv dn) ∈ rs) (hp : rPairs w.heap.size lv fs ∈ rs) (hl : fs.length < 1048576) (hv : ∀ f ∈ fs, f.2.length ≤ 140737488355328) :
  Calls Tryz.prog 14 #[.pointer (some ⟨u, 0, none⟩)] w0 (ROpen15Post w u fs rs) := by
 have HU := hyd hu
 have HP := hyd hp
 have HV := hyd (And.intro hl hv)
 have H1 := hyd ((h.alloc (rlogObj u (.slice none 0 0))).nilRows)
 obtain ⟨R, hR⟩ : ∃ R, R = rFrom fs [] := ⟨_, rfl⟩
 have HR := hyd hR
 obtain ⟨F0, hp0⟩ := h.pairs hp
 obtain ⟨pa, pc, rfl, _, _⟩ := hp0.form
 clear h hu hp hl hv hR hp0
 go_enter Tryz.func14, Tryz.ntmps14
 go_upto_region 2 with fail
 change Code.wp _ _ _ _ (w0.alloc (rlogObj u (.slice none 0 0)))
 generalize w0.alloc (rlogObj u (.slice none 0 0)) = w1 at *
 generalize w0.heap.size = g at *
 go_wp2_with fail
 go_loopw [5] (fun i wx => ∃ (k : Nat) (ve : Value) (es : List (List UInt8)), i = .int .i64 (k : Int) ∧ k ≤ fs.length ∧ es.length ≤ k ∧ rFrom (fs.drop k) es = R ∧ Own w wx (rRows w.heap.size ve es :: rObj w.heap.size g (rlogObj u ve) :: rs)) (fun i _ => fs.length - (intOf i).toNat)
 case atStart => exact ⟨0, _, [], rfl, by omega, Nat.le_refl _, HR.out.symm, H1.out⟩
 case round =>
  obtain ⟨k, ve, es, rfl, hk, hek, hfr, hown⟩ := hrel
  clear H1
  obtain ⟨c0, c1, -, -⟩ := rtab_cells (hown.at (b := u) (o := rtabObj q (.slice pa fs.length pc) dn) (by simp [HU.out])).1
  obtain ⟨g0, g1, -⟩ := rlog_cells (hown.at (b := g) (o := rlogObj u ve) (by simp)).1
  obtain ⟨va, vc, rfl⟩ := rows_form (hown.rows (v := ve) (ll := es) (by simp)).1
  have j0 : (0 : Int) ≤ k := by omega
  have j2 : (k : Int) < 1048576 := by have := HV.out.1; omega
  by_cases hlt : k < fs.length
  ·have j1 : (k : Int) < fs.length := by omega
   obtain ⟨f, hf⟩ : ∃ f, fs[k]? = some f := ⟨_, List.getElem?_eq_getElem hlt⟩
   obtain ⟨F, hpr⟩ := hown.pairs (v := .slice pa fs.length pc) (fs := fs) (by simp [HP.out])
   obtain ⟨g2, cap, p, e2, k0, k1, hB⟩ := hpr.cell hf
   cases e2
   obtain ⟨key, val⟩ := f
   dsimp only at k0 k1 hB
   have hstep := rFrom_step hf es
   dsimp only at hstep
   rw [hfr] at hstep
   have HO := hyd hown
   have HS := hyd hstep
   have HX := hyd (And.intro hlt hek)
   have HBY := hyd (show ∀ W, Keeps (fun _ => False) wr W → Reads W p val from fun W hk => hB.reads.keep hk)
   have HVL := hyd (HV.out.2 _ (List.mem_of_getElem? hf))
   clear hstep hfr hlt hek hf hpr hB hown hk
   by_cases hz : (key.size : Int) < 2
   ·have hb : beginsB key hdG = false := by
     unfold beginsB
     rw [decide_eq_false (by show ¬ (((2 : Nat) : Int) ≤ _); omega), Bool.false_and]
    have HB := hyd hb
    clear hb
    go_wp2_with fail
    go_roundw
    case rel => exact ⟨k + 1, _, es, rfl, HX.out.1, by have := HX.out.2; omega, by have := HS.out; rw [if_neg (by rw [HB.out]; decide)] at this; exact this.symm, HO.out⟩
    case measure => have := HX.out; simp only [intOf]; omega
   ·obtain ⟨bb, hbb⟩ : ∃ b, ((key.extract 0 2).toList == (⟨#[103, 47]⟩ : ByteArray).toList) = b := ⟨_, rfl⟩
    have hb : beginsB key hdG = bb := by
     unfold beginsB
     rw [decide_eq_true (by show ((2 : Nat) : Int) ≤ _; omega), Bool.true_and]
     exact hbb
    have HB := hyd hb
    have hsl : ∀ W, (Instr.sliceAt 9 (.string key) none (some (.int .i64 2)) none).run Tryz.prog W = .ok (.string (key.extract 0 2)) W := by
     have hz2 : (2 : Int) ≤ key.size := by omega
     intro W
     go_simp
    obtain ⟨k2, hk2⟩ : ∃ k2, k2 = key.extract 0 2 := ⟨_, rfl⟩
    rw [← hk2] at hsl hbb
    have HBB := hyd (show (!(k2.toList == (⟨#[103, 47]⟩ : ByteArray).toList)) = !bb by rw [hbb])
    clear hb hk2 hbb
    cases bb with
    | false =>
     go_wp2_with (refine wpList_strneq (by rfl) _ _ _ _ rfl k2 _ rfl rfl true HBB.out ?_)
     go_roundw
     case rel => exact ⟨k + 1, _, es, rfl, HX.out.1, by have := HX.out.2; omega, by have := HS.out; rw [if_neg (by rw [HB.out]; decide)] at this; exact this.symm, HO.out⟩
     case measure => have := HX.out; simp only [intOf]; omega
    | true =>
     have hS := HS.out
     rw [if_pos HB.out] at hS
     have HKY := hyd (fun W => rkey_calls W (es.length : Int) es.length (by have := HX.out.2; exact IntWalk.u64_in _ (by omega)) (by have := HX.out.2; omega))
     have HS2 := hyd hS
     clear hS HS
     go_wp2_with (refine wpList_strneq (by rfl) _ _ _ _ rfl k2 _ rfl rfl false HBB.out ?_)
     refine (HKY.out _).mono ?_
     rintro e w5 ⟨rfl, hk5⟩
     obtain ⟨kk, hkk⟩ : ∃ kk, kk = keyOf es.length := ⟨_, rfl⟩
     have hO5 := HO.out.quiet hk5
     have HO5 := hyd hO5
     have HK5 := hyd hk5
     by_cases hke : key = keyOf es.length
     ·have HNE := hyd (show (!(key.toList == (keyOf es.length).toList)) = false by rw [← hke]; simp)
      have hS3 := HS2.out
      rw [if_pos hke] at hS3
      have HS3 := hyd hS3
      rw [← hkk] at HNE ⊢
      obtain ⟨c0', c1', -, -⟩ := rtab_cells (hO5.at (b := u) (o := rtabObj q (.slice (some ⟨g2, 0, none⟩) fs.length pc) dn) (by simp [HU.out])).1
      obtain ⟨g0', g1', -⟩ := rlog_cells (hO5.at (b := g) (o := rlogObj u (.slice va es.length vc)) (by simp)).1
      have k1' := hk5.at0 k1
      have hby := HBY.out w5 hk5
      obtain ⟨xa, xc, rfl, _, _⟩ := hby.form
      have hd5 := hO5.drew
      have HTW := hyd (twin_calls (hby.keep (Keeps.refl _ w5).drew) HVL.out)
      have HD5 := hyd hd5
      have HEL := hyd (show es.length < 1099511627776 by have := HX.out.2; have := HV.out.1; omega)
      clear hke hkk hS3 c0 c1 g0 g1 k0 k1 hk5 hO5 hd5 hby HKY HS2 HB HBB hsl
      have hcmp := HNE.out
      clear hz
      go_wp2_with fail
      have j5 : (k : Int) < fs.length := by have := HX.out.1; omega
      go_region_law (first | (refine step_append_run rfl _ _ _ _ rfl rfl rfl hrun8 ?_) | (refine step_wanted' rfl ?_; go_simp; go_at_call 20; refine HTW.out.mono ?_; rintro e w7 ⟨tv, rfl, ho7, hk7⟩; obtain ⟨ta, tc, rfl, _, _⟩ := ho7.bytes.form; have h7 := HD5.out.quiet hk7; obtain ⟨-, g17, -⟩ := rlog_cells (h7.at (b := g) (o := rlogObj u (.slice va es.length vc)) (by simp)).1; obtain ⟨-, g17a, -⟩ := rlog_cells ((h7.quiet ((Keeps.refl _ w7).alloc (.cells #[.slice ta val.length tc] 36))).at (b := g) (o := rlogObj u (.slice va es.length vc)) (by simp)).1; obtain ⟨da, dc, w8, hrun8, h8⟩ := HD5.out.pushRec ho7 hk7 HEL.out; obtain ⟨-, g18, f18⟩ := rlog_cells (h8.at (b := g) (o := rlogObj u (.slice va es.length vc)) (by simp)).1; have f18' := f18 1) | fail)
      all_goals
       have h9 : Own w (w8.setCell ⟨g, 1, none⟩ (.slice da (es.length + 1) dc)) (rObj w.heap.size g (rlogObj u (.slice da (es.length + 1) dc)) :: rRows w.heap.size (.slice da (es.length + 1) dc) (es ++ [val]) :: rs) := h8.swap.store 1 (.slice da (es.length + 1) dc)
       have HG := hyd h9.swap
       clear h9 h8 h7 ho7 hk7 hrun8 g17 g17a g18 f18 f18' hcmp c0' c1' g0' g1' k1'
       go_wp2_with fail
       go_roundw
       case rel => exact ⟨k + 1, _, es ++ [val], rfl, HX.out.1, by rw [List.length_append, List.length_singleton]; have := HX.out.2; omega, HS3.out.symm, HG.out⟩
       case measure => have := HX.out; simp only [intOf]; omega
     ·have HNE := hyd (show (!(key.toList == (keyOf es.length).toList)) = true by rw [← beq_toListBytes, Bool.eq_false_iff.2 (fun e => hke ((bytes_beq key _).1 e))]; rfl)
      have hS3 := HS2.out
      rw [if_neg hke] at hS3
      have HF := hyd (ropen15_none (u := u) (w := w) (HR.out.symm.trans hS3) hO5.drop.drop)
      rw [← hkk] at HNE ⊢
      clear hke hkk hS3 c0 c1 g0 g1 k0 k1 hk5 hO5 HKY HS2 HB HBB hsl
      have hcmp := HNE.out
      clear hz
      go_wp2_with fail
      go_ret2
      exact HF.out
  ·obtain rfl : k = fs.length := by omega
   rw [List.drop_length, rFrom] at hfr
   have HF := hyd (ropen15_some (g := g) (u := u) (w := w) (HR.out.symm.trans hfr.symm) hown)
   clear hfr hown hlt hk hek
   go_wp2_with fail
   go_ret2
   exact HF.out
end Go.Proofs.YtddnikpdmjogiaaGreat
