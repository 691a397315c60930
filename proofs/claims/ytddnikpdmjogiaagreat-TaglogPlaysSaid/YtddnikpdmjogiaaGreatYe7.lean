/- A part of the proof. -/
import Derived.Test.YtddnikpdmjogiaaGreatYc5
import Derived.Test.YtddnikpdmjogiaaGreatYd8
import Derived.Test.YtddnikpdmjogiaaGreatYe2
import Derived.Test.YtddnikpdmjogiaaGreatYe4
import Derived.Test.YtddnikpdmjogiaaGreatYe6
namespace Go.Proofs.YtddnikpdmjogiaaGreat
set_option linter.unusedVariables false
open Go.RowKit Go.MapKept
theorem less_append : ∀ {a b : List UInt8} (x y : List UInt8), a.length = b.length → Op.bytesLess a b = true → Op.bytesLess (a ++ x) (b ++ y) = true
 | [], [], x, y, _, h => by simp [Op.bytesLess] at h
 | [], _ :: _, x, y, h, _ => by simp at h
 | _ :: _, [], x, y, h, _ => by simp at h
 | c :: a, d :: b, x, y, hl, h => by
  simp only [Op.bytesLess, Bool.or_eq_true, Bool.and_eq_true, List.cons_append] at h ⊢
  rcases h with h | ⟨h1, h2⟩
  ·exact .inl h
  ·exact .inr ⟨h1, less_append x y (by simpa using hl) h2⟩
theorem less_same (a : List UInt8) {x y : List UInt8} (h : Op.bytesLess x y = true) : Op.bytesLess (a ++ x) (a ++ y) = true := by
 induction a with
 | nil => exact h
 | cons c a ih => simp only [Op.bytesLess, Bool.or_eq_true, Bool.and_eq_true, List.cons_append]; exact .inr ⟨by simp, ih⟩
theorem hexd_mono : ∀ a : Nat, a < 16 → ∀ b : Nat, b < 16 → a < b → hexd a < hexd b := by decide +kernel
theorem hex2_mono {x y : Nat} (h : x < y) (hy : y < 256) : Op.bytesLess [hexd (x / 16), hexd (x % 16)] [hexd (y / 16), hexd (y % 16)] = true := by
 simp only [Op.bytesLess, Bool.or_eq_true, Bool.and_eq_true, decide_eq_true_eq, beq_iff_eq]
 by_cases h1 : x / 16 < y / 16
 ·exact .inl (hexd_mono _ (by omega) _ (by omega) h1)
 ·exact .inr ⟨by rw [show x / 16 = y / 16 by omega], .inl (hexd_mono _ (by omega) _ (by omega) (by omega))⟩
theorem hexput_mono : ∀ (s i j : Nat), i < j → j < 256 ^ s → Op.bytesLess (hexOf (putOf i s)) (hexOf (putOf j s)) = true
 | 0, i, j, h, hj => by simp at hj; omega
 | s + 1, i, j, h, hj => by
  have hx : ∀ n : Nat, hexOf (putOf n (s + 1)) = hexOf (putOf (n / 256) s) ++ [hexd (n % 256 / 16), hexd (n % 256 % 16)] := fun n => by
   rw [putOf, hexOf_append]
   congr 1
   simp [hexOf]
  rw [hx, hx]
  by_cases hd : i / 256 < j / 256
  ·exact less_append _ _ (by simp [hexOf_length, putOf_length]) (hexput_mono s _ _ hd (by rw [Nat.pow_succ] at hj; omega))
  ·rw [show i / 256 = j / 256 by omega]
   exact less_same _ (hex2_mono (by omega) (by omega))
theorem keyOf_list (i : Nat) : (keyOf i).toList = [103, 47] ++ hexOf (putOf i 4) := by
 unfold keyOf
 simp [ByteArray.toList_eq]
theorem keyOf_mono {i j : Nat} (h : i < j) (hj : j < 4294967296) : blt (keyOf i) (keyOf j) = true := by
 unfold blt
 rw [keyOf_list, keyOf_list]
 exact less_same _ (hexput_mono 4 i j h (by simpa using hj))
def logFrom : Nat → List (List UInt8) → FS
 | _, [] => []
 | k, e :: es => (keyOf k, e) :: logFrom (k + 1) es
def logFs (es : List (List UInt8)) : FS := logFrom 0 es
theorem logFrom_length : ∀ (es : List (List UInt8)) (k : Nat), (logFrom k es).length = es.length
 | [], _ => rfl
 | e :: es, k => by simp [logFrom, logFrom_length es]
theorem logFrom_mem : ∀ (es : List (List UInt8)) (k : Nat) {q : ByteArray × List UInt8}, q ∈ logFrom k es → ∃ i, k ≤ i ∧ i < k + es.length ∧ q.1 = keyOf i ∧ es[i - k]? = some q.2
 | [], k, q, h => by simp [logFrom] at h
 | e :: es, k, q, h => by
  rcases List.mem_cons.1 h with rfl | h
  ·exact ⟨k, Nat.le_refl _, by simp, rfl, by simp⟩
  ·obtain ⟨i, h1, h2, h3, h4⟩ := logFrom_mem es (k + 1) h
   refine ⟨i, by omega, by simp; omega, h3, ?_⟩
   rw [show i - k = i - (k + 1) + 1 by omega]
   simpa using h4
theorem logFrom_append : ∀ (es : List (List UInt8)) (k : Nat) (p : List UInt8), logFrom k (es ++ [p]) = logFrom k es ++ [(keyOf (k + es.length), p)]
 | [], k, p => rfl
 | e :: es, k, p => by
  simp only [List.cons_append, logFrom, logFrom_append es (k + 1) p, List.length_cons]
  rw [show k + 1 + es.length = k + (es.length + 1) by omega]
theorem gfins_last : ∀ {fs : FS} {f : ByteArray × List UInt8}, (∀ q ∈ fs, blt f.1 q.1 = false) → fins fs f = fs ++ [f]
 | [], f, _ => rfl
 | x :: l, f, h => by
  rw [fins, if_neg (by rw [h x (List.mem_cons_self ..)]; simp), gfins_last (fun q hq => h q (List.mem_cons_of_mem _ hq))]
  rfl
theorem logFs_add (es : List (List UInt8)) (p : List UInt8) (h : es.length < 4294967296) : tdo (logFs es) (entCh es.length p) = logFs (es ++ [p]) := by
 have hb : ∀ q ∈ logFs es, blt q.1 (keyOf es.length) = true := fun q hq => by
  obtain ⟨i, _, h2, h3, _⟩ := logFrom_mem es 0 hq
  rw [h3]
  exact keyOf_mono (by omega) h
 unfold tdo entCh logFs
 rw [if_neg (by simp), logFrom_append, fput]
 have hd : fdel (logFrom 0 es) (keyOf es.length) = logFrom 0 es := by
  unfold fdel
  refine List.filter_eq_self.2 (fun q hq => ?_)
  have := hb q hq
  simp only [decide_eq_true_eq, ne_eq]
  intro e
  rw [e, blt_irrefl] at this
  cases this
 rw [hd, Nat.zero_add]
 exact gfins_last (fun q hq => blt_asym (hb q hq))
theorem key_begins (i : Nat) : beginsB (keyOf i) hdG = true := by
 unfold beginsB
 have hs := keyOf_size i
 have h2 : hdG.size = 2 := rfl
 have he : ((keyOf i).extract 0 hdG.size).toList = hdG.toList := by
  rw [h2, ByteArray.toList_eq, ByteArray.toList_eq]
  unfold keyOf hdG
  simp [ByteArray.data_extract]
 rw [he, hs, h2]
 simp
theorem Up.appendR {room : Int} {P : Fn → Prop} {g : Fn} {m : DM} {n : Nat} (h : Up room P g m n) {f : ByteArray} {b : List UInt8} (hf : g f = some b) (p : List UInt8) :
  ((appendOf m f p).1 = 0 ∧ Up room (fun x => P x ∨ ∃ i, x = fset g f (b ++ p.take i)) (fset g f (b ++ p)) (appendOf m f p).2 (n + 1)) ∨ ((appendOf m f p).1 = 5 ∧ Dn room P (appendOf m f p).2 (n + 1)) ∨
  ((appendOf m f p).1 ≠ 0 ∧ (appendOf m f p).1 ≠ 5 ∧ (appendOf m f p).2 = m) := by
 have hth : thereOf m f = 0 := by rw [h.there, hf]; rfl
 by_cases h1 : (1048576 : Int) < (p.length : Int)
 ·have hr : appendOf m f p = (8, m) := by unfold appendOf; rw [if_pos hth, if_pos h1]
  rw [hr]; exact .inr (.inr ⟨by simp, by simp, rfl⟩)
 by_cases h2 : m.room - (used m.now : Int) < (p.length : Int)
 ·have hr : appendOf m f p = (4, m) := by unfold appendOf; rw [if_pos hth, if_neg h1, if_pos h2]
  rw [hr]; exact .inr (.inr ⟨by simp, by simp, rfl⟩)
 have hr : appendOf m f p = doesOf m ⟨1, f, ⟨#[]⟩, p⟩ := by unfold appendOf; rw [if_pos hth, if_neg h1, if_neg h2]
 rcases h.step ⟨1, f, ⟨#[]⟩, p⟩ hr (h.good.append f p) with ⟨c, hu2⟩ | ⟨c, hd⟩
 ·rw [doF1, hf] at hu2
  refine .inl ⟨c, hu2.mono (fun x hx => hx.imp id (fun hx => ?_)) (Nat.le_refl _)⟩
  rcases hx with ⟨e, _⟩ | ⟨_, i, e⟩
  ·exact absurd rfl e
  ·refine ⟨i, ?_⟩
   rw [e]
   show doF g ⟨1, f, ⟨#[]⟩, p.take i⟩ = _
   rw [doF1, hf]; rfl
 ·exact .inr (.inl ⟨c, hd⟩)
theorem Up.createS {room : Int} {P : Fn → Prop} {g : Fn} {m : DM} {n : Nat} (h : Up room P g m n) {f : ByteArray} (hn : isName f = true) (hf : g f = none) (hc : (createOf m f).1 = 0) :
  Up room (fun x => P x ∨ x = fset g f []) (fset g f []) (createOf m f).2 (n + 1) := by
 by_cases hl : (4096 : Int) ≤ (m.now.length : Int)
 ·have hr : createOf m f = (4, m) := by
   unfold createOf
   rw [h.down, hn, h.now, hf]
   simp only [Bool.false_eq_true, if_false, Bool.not_true, Option.isSome_none]
   rw [if_pos (by simpa using hl)]
  rw [hr] at hc; cases hc
 have hr : createOf m f = doesOf m ⟨0, f, ⟨#[]⟩, []⟩ := by
  unfold createOf
  rw [h.down, hn, h.now, hf]
  simp only [Bool.false_eq_true, if_false, Bool.not_true, Option.isSome_none]
  rw [if_neg (by simpa using hl)]
 rcases h.step ⟨0, f, ⟨#[]⟩, []⟩ hr (h.good.create f) with ⟨c, hu2⟩ | ⟨c, hd⟩
 ·rw [doF0] at hu2
  refine hu2.mono (fun x hx => hx.imp id (fun hx => ?_)) (Nat.le_refl _)
  rcases hx with ⟨_, e⟩ | ⟨e, _⟩
  ·rw [e, doF0]
  ·simp at e
 ·rw [c] at hc; cases hc
theorem Up.writeS {room : Int} {g : Fn} {t : ByteArray} {B : List UInt8} :
  ∀ (f : Nat) {P : Fn → Prop} {m : DM} {n i : Nat}, B.length ≤ i + 1048576 * f → Up room P (fset g t (B.take i)) m n → (writeFrom t B f m i).1 = 0 →
  ∃ Q : Fn → Prop, Up room Q (fset g t B) (writeFrom t B f m i).2 (n + f)
 | 0, P, m, n, i, hi, h, _ => by
  rw [List.take_of_length_le (by omega)] at h
  exact ⟨P, h⟩
 | f + 1, P, m, n, i, hi, h, hc => by
  rw [writeFrom] at hc ⊢
  by_cases hlt : i < B.length
  ·rw [if_pos hlt] at hc ⊢
   by_cases h0 : (appendOf m t ((B.drop i).take 1048576)).1 = 0
   ·rw [if_pos h0] at hc ⊢
    have hap := h.appendR (fset_same _ _ _) ((B.drop i).take 1048576)
    rw [fset_fset, take_piece] at hap
    rcases hap with ⟨c, hu2⟩ | ⟨c, hd⟩ | ⟨c, _⟩
    ·obtain ⟨Q, hq⟩ := Up.writeS f (by omega) hu2 hc
     exact ⟨Q, hq.mono (fun _ h => h) (by omega)⟩
    ·rw [c] at h0; cases h0
    ·exact absurd h0 c
   ·rw [if_neg h0] at hc; exact absurd hc h0
  ·rw [if_neg hlt]
   rw [List.take_of_length_le (by omega)] at h
   exact ⟨P, h.mono (fun _ h => h) (by omega)⟩
theorem Up.layS {room : Int} {P : Fn → Prop} {g : Fn} {m : DM} {n : Nat} (h : Up room P g m n) {nm : ByteArray} (hnm : isName nm = true) (htn : isName (tmpOf nm) = true) (hne : tmpOf nm ≠ nm) (B : List UInt8) (hc : (layOf m nm B).1 = 0) :
  Up room (fun x => x = fclr (fset g nm B) (tmpOf nm)) (fclr (fset g nm B) (tmpOf nm)) (layOf m nm B).2 (n + (B.length + 4)) := by
 have hpc := write_pieces B
 have hdv : B.length / 1048576 ≤ B.length := Nat.div_le_self _ _
 have hl : layOf m nm B = runSteps (laySteps nm B) m := by
  unfold layOf unfull at hc ⊢
  by_cases h4 : (runSteps (laySteps nm B) m).1 = 4
  ·rw [if_pos h4] at hc
   by_cases h5 : (clearOf (runSteps (laySteps nm B) m).2 (tmpOf nm)).1 = 0
   ·rw [if_pos h5] at hc; cases hc
   ·rw [if_neg h5] at hc; exact absurd hc h5
  ·rw [if_neg h4]
 rw [hl] at hc ⊢
 have hstep : ∀ (f : DM → Int × DM) (fs : List (DM → Int × DM)) (m : DM), (runSteps (f :: fs) m).1 = 0 → (f m).1 = 0 ∧ runSteps (f :: fs) m = runSteps fs (f m).2 := fun f fs m hc => by
  rw [runSteps] at hc ⊢
  by_cases h0 : (f m).1 = 0
  ·exact ⟨h0, if_pos h0⟩
  ·rw [if_neg h0] at hc; exact absurd hc h0
 rw [show laySteps nm B = [fun m => clearOf m (tmpOf nm), fun m => createOf m (tmpOf nm), fun m => writeOf m (tmpOf nm) B, syncOf, fun m => renameOf m (tmpOf nm) nm, syncOf] from rfl] at hc ⊢
 obtain ⟨c1, e1⟩ := hstep _ _ _ hc
 rw [e1] at hc ⊢
 have h1 : Up room (fun x => P x ∨ x = fclr g (tmpOf nm)) (fclr g (tmpOf nm)) (clearOf m (tmpOf nm)).2 (n + 1) := by
  rcases h.clear (tmpOf nm) with ⟨_, h1⟩ | ⟨c, _⟩
  ·exact h1
  ·rw [c] at c1; cases c1
 obtain ⟨c2, e2⟩ := hstep _ _ _ hc
 rw [e2] at hc ⊢
 have h2 := h1.createS htn (fclr_same _ _) c2
 rw [fset_fclr] at h2
 obtain ⟨P2, h2'⟩ : ∃ P2, Up room P2 (fset g (tmpOf nm) (B.take 0)) (createOf (clearOf m (tmpOf nm)).2 (tmpOf nm)).2 (n + 1 + 1) := ⟨_, by rw [List.take_zero]; exact h2⟩
 obtain ⟨c3, e3⟩ := hstep _ _ _ hc
 rw [e3] at hc ⊢
 obtain ⟨Q, h3⟩ := Up.writeS (B.length / 1048576 + 1) hpc h2' c3
 obtain ⟨c4, e4⟩ := hstep _ _ _ hc
 rw [e4] at hc ⊢
 have h4 : Up room (fun x => x = fset g (tmpOf nm) B) (fset g (tmpOf nm) B) (syncOf (writeOf (createOf (clearOf m (tmpOf nm)).2 (tmpOf nm)).2 (tmpOf nm) B).2).2 (n + 1 + 1 + (B.length / 1048576 + 1)) := by
  rcases h3.sync with ⟨_, h4⟩ | ⟨c, _⟩
  ·exact h4
  ·change (syncOf (writeOf (createOf (clearOf m (tmpOf nm)).2 (tmpOf nm)).2 (tmpOf nm) B).2).1 = 5 at c
   rw [c] at c4; cases c4
 obtain ⟨c5, e5⟩ := hstep _ _ _ hc
 rw [e5] at hc ⊢
 have hfin : fclr (fset (fset g (tmpOf nm) B) nm B) (tmpOf nm) = fclr (fset g nm B) (tmpOf nm) := by
  funext x; simp only [fset, fclr]
  by_cases e1 : x = tmpOf nm
  ·simp only [e1, if_true]
  ·simp only [e1, if_false]
 rcases h4.rename (fset_same _ _ _) hnm hne with ⟨_, h5⟩ | ⟨c, _⟩
 ·rw [hfin] at h5
  obtain ⟨c6, e6⟩ := hstep _ _ _ hc
  rw [e6]
  rcases h5.sync with ⟨_, h6⟩ | ⟨c, _⟩
  ·exact h6.mono (fun _ h => h) (by omega)
  ·rw [c] at c6; cases c6
 ·rw [c] at c5; cases c5
theorem Up.openS {room : Int} {g : Fn} {m : DM} {n : Nat} (h : Up room (fun x => x = g) g m n) {nm : ByteArray} (hnm : isName nm = true) (htn : isName (tmpOf nm) = true) (hne : tmpOf nm ≠ nm) {b : List UInt8} {rs : List (List UInt8)}
  (hb : g nm = some b) (hs : scanOf b = (rs, (framesOf rs).length)) :
  ((openOf m nm).code ≠ 0 ∧ (openOf m nm).res = none) ∨ ((openOf m nm).code = 0 ∧ (openOf m nm).res = some (rs, (framesOf rs).length) ∧ ∃ g', g' nm = some (framesOf rs) ∧ Up room (fun x => x = g') g' (openOf m nm).m (n + (b.length + 4))) := by
 have hth : thereOf m nm = 0 := by rw [h.there, hb]; rfl
 have hle := scanOf_le b
 rw [hs] at hle
 simp only at hle
 have hpre : framesOf rs = b.take (framesOf rs).length := by
  have := (scanFrom_frames (l := b) (b.length + 1) 0 (Nat.zero_le _)).2
  unfold scanOf at hs
  rw [hs, List.drop_zero] at this
  exact this.symm
 unfold openOf
 rw [if_pos ⟨hnm, htn⟩, if_neg (by rw [hth]; omega), if_pos hth, h.now, hb, Option.getD_some, hs]
 by_cases hlt : (framesOf rs).length < b.length
 ·simp only [hlt, if_true]
  unfold openLay
  by_cases hc : (layOf m nm (framesOf rs)).1 = 0
  ·rw [if_pos hc]
   exact .inr ⟨rfl, rfl, _, by rw [fclr_other _ (Ne.symm hne), fset_same], (h.layS hnm htn hne (framesOf rs) hc).mono (fun _ h => h) (by omega)⟩
  ·rw [if_neg hc]
   exact .inl ⟨hc, rfl⟩
 ·simp only [hlt, if_false]
  have e : b = framesOf rs := by rw [hpre, List.take_of_length_le (by omega)]
  exact .inr ⟨by simp, by simp, g, by rw [hb, e], h.mono (fun _ h => h) (by omega)⟩
theorem rFrom_of_sel : ∀ (fs : FS) (es ys : List (List UInt8)), gSel fs = logFrom es.length ys → rFrom fs es = some (es ++ ys)
 | [], es, ys, h => by
  cases ys with
  | nil => simp [rFrom]
  | cons y ys => simp [gSel, logFrom] at h
 | f :: fs, es, ys, h => by
  unfold rFrom
  by_cases hb : beginsB f.1 hdG = true
  ·have e : gSel (f :: fs) = f :: gSel fs := by simp [gSel, hb]
   rw [e] at h
   cases ys with
   | nil => simp [logFrom] at h
   | cons y ys =>
    simp only [logFrom, List.cons.injEq] at h
    obtain ⟨rfl, h2⟩ := h
    rw [if_pos hb, if_pos rfl, rFrom_of_sel fs _ ys (by rw [List.length_append, List.length_singleton]; exact h2)]
    simp
  ·have e : gSel (f :: fs) = gSel fs := by simp [gSel, hb]
   rw [e] at h
   rw [if_neg hb]
   exact rFrom_of_sel fs es ys h
theorem sel_cons_in {f : ByteArray × List UInt8} {fs : FS} (h : beginsB f.1 hdG = true) : gSel (f :: fs) = f :: gSel fs := by simp [gSel, h]
theorem sel_cons_out {f : ByteArray × List UInt8} {fs : FS} (h : ¬ beginsB f.1 hdG = true) : gSel (f :: fs) = gSel fs := by simp [gSel, h]
theorem sel_fins : ∀ (fs : FS) (f : ByteArray × List UInt8), FSorted fs → gSel (fins fs f) = if beginsB f.1 hdG = true then fins (gSel fs) f else gSel fs
 | [], f, _ => by
  by_cases hb : beginsB f.1 hdG = true
  ·rw [if_pos hb]; simp [gSel, fins, hb]
  ·rw [if_neg hb]; simp [gSel, fins, hb]
 | x :: fs, f, hs => by
  have hs2 := List.pairwise_cons.1 hs
  have ih := sel_fins fs f hs2.2
  rw [fins_cons]
  by_cases hlt : blt f.1 x.1 = true
  ·rw [if_pos hlt]
   have hall : ∀ y ∈ gSel (x :: fs), blt f.1 y.1 = true := fun y hy => by
    have hy2 := (List.mem_filter.1 hy).1
    rcases List.mem_cons.1 hy2 with rfl | hy2
    ·exact hlt
    ·exact blt_trans hlt (hs2.1 y hy2)
   by_cases hb : beginsB f.1 hdG = true
   ·rw [if_pos hb, sel_cons_in hb, fins_ahead hall]
   ·rw [if_neg hb, sel_cons_out hb]
  ·rw [if_neg hlt]
   by_cases hx : beginsB x.1 hdG = true
   ·rw [sel_cons_in hx, sel_cons_in hx, ih]
    by_cases hb : beginsB f.1 hdG = true
    ·rw [if_pos hb, if_pos hb, fins_cons, if_neg hlt]
    ·rw [if_neg hb, if_neg hb]
   ·rw [sel_cons_out hx, sel_cons_out hx, ih]
theorem sel_fdel (fs : FS) (k : ByteArray) : gSel (fdel fs k) = fdel (gSel fs) k := by
 unfold gSel fdel
 rw [List.filter_filter, List.filter_filter]
 congr 1
 funext x
 exact Bool.and_comm _ _
theorem fdel_sel_out {fs : FS} {k : ByteArray} (h : ¬ beginsB k hdG = true) : fdel (gSel fs) k = gSel fs := by
 unfold fdel
 refine List.filter_eq_self.2 (fun q hq => ?_)
 have hq2 := (List.mem_filter.1 hq).2
 simp only [decide_eq_true_eq, ne_eq]
 intro e
 rw [e] at hq2
 exact h hq2
theorem sel_tdo_out {fs : FS} (hs : FSorted fs) {c : TCh} (h : ¬ beginsB c.key hdG = true) : gSel (tdo fs c) = gSel fs := by
 unfold tdo
 split
 ·rw [sel_fdel, fdel_sel_out h]
 ·unfold fput
  rw [sel_fins _ _ (hs.fdel _), if_neg h, sel_fdel, fdel_sel_out h]
theorem sel_tdo_in {fs : FS} (hs : FSorted fs) {c : TCh} (h : beginsB c.key hdG = true) : gSel (tdo fs c) = tdo (gSel fs) c := by
 unfold tdo
 split
 ·rw [sel_fdel]
 ·unfold fput
  rw [sel_fins _ _ (hs.fdel _), if_pos h, sel_fdel]
theorem sel_tdos : ∀ (l : List TCh) {fs : FS}, FSorted fs → (∀ c ∈ l, ¬ beginsB c.key hdG = true) → gSel (tdos fs l) = gSel fs ∧ FSorted (tdos fs l)
 | [], fs, hs, _ => ⟨rfl, hs⟩
 | c :: l, fs, hs, h => by
  obtain ⟨h1, h2⟩ := sel_tdos l (hs.tdo c) (fun x hx => h x (List.mem_cons_of_mem _ hx))
  exact ⟨h1.trans (sel_tdo_out hs (h c (List.mem_cons_self ..))), h2⟩
theorem tdos_snoc : ∀ (l : List TCh) (fs : FS) (c : TCh), tdos fs (l ++ [c]) = tdo (tdos fs l) c
 | [], fs, c => rfl
 | x :: l, fs, c => tdos_snoc l (tdo fs x) c
theorem sel_add {fs : FS} (hs : FSorted fs) {es : List (List UInt8)} (he : gSel fs = logFs es) (hl : es.length < 4294967296) {l : List TCh} (h : ∀ c ∈ l, ¬ beginsB c.key hdG = true) (p : List UInt8) :
  gSel (tdos fs (l ++ [entCh es.length p])) = logFs (es ++ [p]) := by
 obtain ⟨h1, h2⟩ := sel_tdos l hs h
 rw [tdos_snoc, sel_tdo_in h2 (key_begins _), h1, he, logFs_add es p hl]
theorem sel_open {fs : FS} (hs : FSorted fs) (hl : fs.length < 1048576) {es : List (List UInt8)} (he : gSel fs = logFs es) : gOpenOf fs = some es ∧ rFrom fs [] = some es := by
 have h1 : rFrom fs [] = some es := rFrom_of_sel fs [] es he
 exact ⟨(gopen_rfrom hs hl).trans h1, h1⟩
structure LogOk (fs : FS) (k : Nat) : Prop where
 ok : TabOk fs
 len : fs.length ≤ 6 * k
 log : ∃ es, gSel fs = logFs es ∧ es.length ≤ k
theorem LogOk.mono {fs : FS} {k k' : Nat} (h : LogOk fs k) (hk : k ≤ k') : LogOk fs k' := by
 obtain ⟨h1, h2, es, h3, h4⟩ := h
 exact ⟨h1, by omega, es, h3, by omega⟩
theorem LogOk.add {fs : FS} {k : Nat} (h : LogOk fs k) {es : List (List UInt8)} (he : gSel fs = logFs es) (hk : k < 4294967295) {l : List TCh} (hf : ∀ c ∈ l, ¬ beginsB c.key hdG = true) (hl : l.length ≤ 5) {p : List UInt8} (hg : ∀ c ∈ l ++ [entCh es.length p], badCh c = false) :
  LogOk (tdos fs (l ++ [entCh es.length p])) (k + 1) := by
 obtain ⟨h1, h2, es', h3, h4⟩ := h
 have e : es.length = es'.length := by
  have := congrArg List.length (he.symm.trans h3)
  rwa [logFs, logFs, logFrom_length, logFrom_length] at this
 have hlen := length_tdos (l ++ [entCh es.length p]) fs
 rw [List.length_append, List.length_singleton] at hlen
 exact ⟨TabOk.tdos _ h1 hg, by omega, es ++ [p], sel_add h1.sorted he (by omega) hf p, by rw [List.length_append, List.length_singleton]; omega⟩
def JG (k : Nat) (x : Fn) : Prop := ∃ b rs fs, x nmT = some b ∧ scanOf b = (rs, (framesOf rs).length) ∧ (∀ p ∈ rs, p.length ≤ 1048568) ∧ tabOf rs [] = some fs ∧ LogOk fs k
def PJ (R : Int) (recs : List (List UInt8)) (fs : FS) (dn : Bool) (m : DM) (k : Nat) : Prop :=
 LogOk fs k ∧ ((dn = false ∧ (∀ p ∈ recs, p.length ≤ 1048568) ∧ tabOf recs [] = some fs ∧ ∃ g n, g nmT = some (framesOf recs) ∧ Up R (fun x => x = g) g m n) ∨ (dn = true ∧ ∃ n, Dn R (JG k) m n))
theorem JG.of {recs : List (List UInt8)} {fs : FS} {k : Nat} {g : Fn} (h1 : ∀ p ∈ recs, p.length ≤ 1048568) (h2 : tabOf recs [] = some fs) (h3 : LogOk fs k) (hg : g nmT = some (framesOf recs)) : JG k g :=
 ⟨_, recs, fs, hg, scan_whole (fun p hp => by have := h1 p hp; omega), h1, h2, h3⟩
theorem JG.mono {k k' : Nat} {x : Fn} (h : JG k x) (hk : k ≤ k') : JG k' x := by
 obtain ⟨b, rs, fs, h1, h2, h3, h4, h5⟩ := h
 exact ⟨b, rs, fs, h1, h2, h3, h4, h5.mono hk⟩
theorem PJ.mono {R : Int} {recs : List (List UInt8)} {fs : FS} {dn : Bool} {m : DM} {k k' : Nat} (h : PJ R recs fs dn m k) (hk : k ≤ k') : PJ R recs fs dn m k' :=
 ⟨h.1.mono hk, h.2.imp id (fun ⟨a, n, h1⟩ => ⟨a, n, h1.mono (fun _ h => h.mono hk) (Nat.le_refl _)⟩)⟩
theorem PJ.start {R : Int} (h0 : 0 ≤ R) (h1 : R ≤ 67108864) : PJ R [] [] false (oneT R []) 0 := by
 have h := (TLI.start h0 h1 []).st
 refine ⟨⟨TabOk.nil, by simp, [], rfl, by simp⟩, .inl ⟨rfl, by simp, rfl, ?_⟩⟩
 rcases h with ⟨_, g, all, _, h2, h3, hu⟩ | ⟨e, _⟩
 ·have hg : g = fget (oneT R []).now := hu.now.symm
  refine ⟨g, _, ?_, hu⟩
  rw [hg]; rfl
 ·cases e
theorem PJ.apply {R : Int} {recs : List (List UInt8)} {fs : FS} {dn : Bool} {m : DM} {k : Nat} (h : PJ R recs fs dn m k) {es : List (List UInt8)} (he : gSel fs = logFs es) (hk : k < 4294967295) {L : List TCh} (hf : ∀ c ∈ L, ¬ beginsB c.key hdG = true) (hl : L.length ≤ 5) {p : List UInt8}
  {c : Int} {m' : DM} {recs' : List (List UInt8)} {fs' : FS} {dn' : Bool} (ha : rtAppOf m nmT recs fs dn (L ++ [entCh es.length p]) = (c, m', recs', fs', dn')) :
  PJ R recs' fs' dn' m' (k + 1) ∧ gSel fs' = logFs (if c = 0 then es ++ [p] else es) := by
 obtain ⟨hlo, hst⟩ := h
 have hl1 : LogOk fs (k + 1) := hlo.mono (Nat.le_succ _)
 unfold rtAppOf at ha
 rcases hst.symm with ⟨rfl, n, hd⟩ | ⟨rfl, hsm, htab, g, n, hg, hu⟩
 ·rw [if_pos rfl] at ha
  simp only [Prod.mk.injEq] at ha
  obtain ⟨rfl, rfl, rfl, rfl, rfl⟩ := ha
  exact ⟨⟨hl1, .inr ⟨rfl, n, hd.mono (fun _ h => h.mono (Nat.le_succ _)) (Nat.le_refl _)⟩⟩, he⟩
 rw [if_neg (by simp)] at ha
 by_cases hen : ¬ (encOf (L ++ [entCh es.length p])).1 = 0
 ·rw [if_neg hen] at ha
  simp only [Prod.mk.injEq] at ha
  obtain ⟨rfl, rfl, rfl, rfl, rfl⟩ := ha
  have h5 : ((encOf (L ++ [entCh es.length p])).1 == 5) = false := by rw [beq_eq_false_iff_ne]; exact encOf_code _
  rw [h5, if_neg hen]
  exact ⟨⟨hl1, .inl ⟨rfl, hsm, htab, g, n, hg, hu⟩⟩, he⟩
 replace hen := Decidable.not_not.1 hen
 rw [if_pos hen] at ha
 obtain ⟨-, -, hgood, hlen⟩ := enc_ok hen
 have hla := hlo.add he hk hf hl hgood
 have hsel := sel_add hlo.ok.sorted he (by
  obtain ⟨_, _, es', h3, h4⟩ := hlo
  have := congrArg List.length (he.symm.trans h3)
  rw [logFs, logFs, logFrom_length, logFrom_length] at this
  omega) hf p
 obtain ⟨E, hE⟩ : ∃ E, E = (encOf (L ++ [entCh es.length p])).2 := ⟨_, rfl⟩
 rw [← hE] at ha hlen
 have hsm' : ∀ q ∈ recs ++ [E], q.length ≤ 1048568 := fun q hq => by
  rcases List.mem_append.1 hq with hq | hq
  ·exact hsm q hq
  ·rw [List.mem_singleton] at hq; rw [hq]; exact hlen
 have htab' : tabOf (recs ++ [E]) [] = some (tdos fs (L ++ [entCh es.length p])) := by
  rw [tabOf_append, htab]
  show tabOf [E] fs = _
  simp only [tabOf, hE, dec_enc hen, tdos_norm]
 have hfr : framesOf (recs ++ [E]) = framesOf recs ++ frameOf E := frames_snoc recs E
 have hfl := frameOf_length E
 -- whatever is left of the append
 have hcut : ∀ x : Fn, (x = g ∨ ∃ i, x = fset g nmT (framesOf recs ++ (frameOf E).take i)) → JG (k + 1) x := fun x hx => by
  rcases hx with rfl | ⟨i, rfl⟩
  ·exact JG.of hsm htab hl1 hg
  ·by_cases hi : i < (frameOf E).length
   ·exact ⟨_, recs, fs, fset_same _ _ _, torn_scan (fun q hq => by have := hsm q hq; omega) (by omega) hi rfl, hsm, htab, hl1⟩
   ·rw [List.take_of_length_le (by omega), ← hfr]
    exact JG.of hsm' htab' hla (fset_same _ _ _)
 have hj : rAppendOf m nmT recs E = if (appendOf m nmT (frameOf E)).1 = 0 then (0, (appendOf m nmT (frameOf E)).2, recs ++ [E]) else ((appendOf m nmT (frameOf E)).1, (appendOf m nmT (frameOf E)).2, recs) := by
  unfold rAppendOf; rw [if_neg (by omega)]
 rw [hj] at ha
 rcases hu.appendR hg (frameOf E) with ⟨c0, hu2⟩ | ⟨c0, hd2⟩ | ⟨c0, c5, hm⟩
 ·rw [if_pos c0] at ha
  dsimp only at ha
  rw [if_pos rfl, ← hfr] at *
  rcases hu2.sync with ⟨c3, hu3⟩ | ⟨c3, hd3⟩
  ·rw [if_pos c3] at ha
   simp only [Prod.mk.injEq] at ha
   obtain ⟨rfl, rfl, rfl, rfl, rfl⟩ := ha
   rw [if_pos rfl]
   exact ⟨⟨hla, .inl ⟨rfl, hsm', htab', _, _, fset_same _ _ _, hu3⟩⟩, hsel⟩
  ·rw [if_neg (by rw [c3]; omega), c3] at ha
   simp only [Prod.mk.injEq] at ha
   obtain ⟨rfl, rfl, rfl, rfl, rfl⟩ := ha
   rw [if_neg (by omega)]
   exact ⟨⟨hl1, .inr ⟨rfl, _, hd3.mono hcut (Nat.le_refl _)⟩⟩, he⟩
 ·have c0' : ¬ (appendOf m nmT (frameOf E)).1 = 0 := by rw [c0]; omega
  rw [if_neg c0'] at ha
  dsimp only at ha
  rw [if_neg c0', c0] at ha
  simp only [Prod.mk.injEq] at ha
  obtain ⟨rfl, rfl, rfl, rfl, rfl⟩ := ha
  rw [if_neg (by omega)]
  exact ⟨⟨hl1, .inr ⟨rfl, _, hd2.mono (fun x hx => hcut x (.inl hx)) (Nat.le_refl _)⟩⟩, he⟩
 ·rw [if_neg c0] at ha
  dsimp only at ha
  rw [if_neg c0] at ha
  simp only [Prod.mk.injEq] at ha
  obtain ⟨rfl, rfl, rfl, rfl, rfl⟩ := ha
  rw [if_neg c0]
  have h5 : ((appendOf m nmT (frameOf E)).1 == 5) = false := by rw [beq_eq_false_iff_ne]; exact c5
  rw [h5, hm]
  exact ⟨⟨hl1, .inl ⟨rfl, hsm, htab, g, n, hg, hu⟩⟩, he⟩
theorem PJ.fuse {R : Int} {recs : List (List UInt8)} {fs : FS} {dn : Bool} {m : DM} {k : Nat} (h : PJ R recs fs dn m k) (j : Int) (hj : j ≤ 9223372036854775807) : PJ R recs fs dn (fuseOf m j).2 k :=
 ⟨h.1, h.2.imp (fun ⟨a, h1, h2, g, n, h3, h4⟩ => ⟨a, h1, h2, g, n, h3, h4.fuse j hj⟩) (fun ⟨a, n, h1⟩ => ⟨a, n, h1.fuse j⟩)⟩
def PC (R : Int) (m : DM) (k : Nat) : Prop := ∃ x, JG k x ∧ Up R (fun y => y = x) x m 0
theorem PJ.crash {R : Int} {recs : List (List UInt8)} {fs : FS} {dn : Bool} {m : DM} {k : Nat} (h : PJ R recs fs dn m k) (keep part : Int) : PC R (crashOf m keep part) k := by
 obtain ⟨hlo, hst⟩ := h
 rcases hst with ⟨_, hsm, htab, g, n, hg, hu⟩ | ⟨_, n, hd⟩
 ·obtain ⟨x, h1, h2, -⟩ := crash_upF (P := fun y => y = g) hu.good hu.room hu.img keep part
  subst h1
  exact ⟨_, JG.of hsm htab hlo hg, h2⟩
 ·obtain ⟨x, h1, h2, -⟩ := crash_upF (P := JG k) hd.good hd.room hd.img keep part
  exact ⟨x, h1, h2⟩
theorem PC.open {R : Int} {m : DM} {k : Nat} (h : PC R m k) : ((tOpenOf m nmT).tab = none ∧ (tOpenOf m nmT).code ≠ 0) ∨
  ∃ rs size fs, (openOf m nmT).res = some (rs, size) ∧ (tOpenOf m nmT).tab = some (size, fs) ∧ (tOpenOf m nmT).code = 0 ∧ PJ R rs fs false (tOpenOf m nmT).m k := by
 obtain ⟨x, ⟨b, rs, fs, hb, hs, hsm, htab, hlo⟩, hu⟩ := h
 rcases hu.openS nmT_name.1 nmT_name.2 tmpT_ne hb hs with ⟨c, r⟩ | ⟨c, r, g, hg, hu2⟩
 ·refine .inl ?_
  unfold tOpenOf
  rw [r]
  exact ⟨rfl, c⟩
 ·refine .inr ⟨rs, (framesOf rs).length, fs, r, ?_⟩
  rw [tOpen_m]
  unfold tOpenOf
  rw [r]
  simp only [htab]
  exact ⟨trivial, trivial, hlo, .inl ⟨rfl, hsm, htab, g, _, hg, hu2⟩⟩
def qRes (B d r j t b q u gl gy : Nat) (m : DM) (recs : List (List UInt8)) (fs : FS) (dn : Bool) (m2 : DM) (recs2 : List (List UInt8)) (fs2 : FS) (dn2 : Bool) (es es2 : List (List UInt8)) (v lv ve vl re : Value) : List (Res B) :=
 tRes B d j t b nmT ⟨m, (framesOf recs).length, fs, dn⟩ ++ (gRes B gl t ve vl es ++ (rtRes B r q u nmT m2 recs2 v lv fs2 dn2 ++ [rRows B re es2, rObj B gy (rlogObj u re)]))
def QOwn (w0 w : World) (d r j t b q u gl gy : Nat) (m : DM) (recs : List (List UInt8)) (fs : FS) (dn : Bool) (m2 : DM) (recs2 : List (List UInt8)) (fs2 : FS) (dn2 : Bool) (es es2 : List (List UInt8)) (rs : List (Res w0.heap.size)) : Prop :=
 ∃ v lv ve vl re, Own w0 w (qRes w0.heap.size d r j t b q u gl gy m recs fs dn m2 recs2 fs2 dn2 es es2 v lv ve vl re ++ rs)
def QSt (w0 w : World) (d r : Nat) (R : Int) (i k : Nat) (es : List (List UInt8)) (rs : List (Res w0.heap.size)) (lo tv uv gv : Value) : Prop :=
 ∃ (j t b q u gl gy : Nat) (m : DM) (recs : List (List UInt8)) (fs : FS) (dn : Bool), lo = .pointer (some ⟨gl, 0, none⟩) ∧ tv = .pointer (some ⟨t, 0, none⟩) ∧ uv = .pointer (some ⟨u, 0, none⟩) ∧ gv = .pointer (some ⟨gy, 0, none⟩) ∧
  TI m recs fs i ∧ PJ R recs fs dn m k ∧ gSel fs = logFs es ∧ QOwn w0 w d r j t b q u gl gy m recs fs dn m recs fs dn es es rs
def QMid (w0 w : World) (d r : Nat) (R : Int) (i k : Nat) (es : List (List UInt8)) (p : List UInt8) (L : List TCh) (co : Int) (rs : List (Res w0.heap.size)) (lo tv uv gv : Value) : Prop :=
 ∃ (j t b q u gl gy : Nat) (m : DM) (recs : List (List UInt8)) (fs : FS) (dn : Bool) (m' : DM) (recs' : List (List UInt8)) (fs' : FS) (dn' : Bool), lo = .pointer (some ⟨gl, 0, none⟩) ∧ tv = .pointer (some ⟨t, 0, none⟩) ∧ uv = .pointer (some ⟨u, 0, none⟩) ∧ gv = .pointer (some ⟨gy, 0, none⟩) ∧
  TI m recs fs i ∧ TI m' recs' fs' (i + 1) ∧ PJ R recs' fs' dn' m' (k + 1) ∧ gSel fs' = logFs (if co = 0 then es ++ [p] else es) ∧ es.length ≤ k ∧ rtAppOf m nmT recs fs dn (L ++ [⟨keyOf es.length, false, p⟩]) = (co, m', recs', fs', dn') ∧
  QOwn w0 w d r j t b q u gl gy m' recs' fs' dn' m recs fs dn (if co = 0 then es ++ [p] else es) es rs
theorem pj_len {R : Int} {recs : List (List UInt8)} {fs : FS} {dn : Bool} {m : DM} {k : Nat} (h : PJ R recs fs dn m k) {es : List (List UInt8)} (he : gSel fs = logFs es) : es.length ≤ k := by
 obtain ⟨⟨_, _, es', h3, h4⟩, _⟩ := h
 have := congrArg List.length (he.symm.trans h3)
 rw [logFs, logFs, logFrom_length, logFrom_length] at this
 omega
section
variable {w0 w : World} {d r : Nat} {R : Int} {i k : Nat} {es : List (List UInt8)} {rs rs' : List (Res w0.heap.size)} {lo tv uv gv : Value} {co : Int} {p : List UInt8} {L : List TCh}
theorem QSt.keeps (h : QSt w0 w d r R i k es rs lo tv uv gv) : Keeps (fun _ => False) w0 w := by
 obtain ⟨j, t, b, q, u, gl, gy, m, recs, fs, dn, -, -, -, -, -, -, -, v, lv, ve, vl, re, h⟩ := h
 exact Own.keeps h
theorem QSt.quiet {w' : World} (h : QSt w0 w d r R i k es rs lo tv uv gv) (hk : Keeps (fun _ => False) w w') : QSt w0 w' d r R i k es rs lo tv uv gv := by
 obtain ⟨j, t, b, q, u, gl, gy, m, recs, fs, dn, e1, e2, e3, e4, h1, h2, h3, v, lv, ve, vl, re, h⟩ := h
 exact ⟨j, t, b, q, u, gl, gy, m, recs, fs, dn, e1, e2, e3, e4, h1, h2, h3, v, lv, ve, vl, re, Own.quiet h hk⟩
theorem QSt.more (h : QSt w0 w d r R i k es rs lo tv uv gv) : QSt w0 w d r R (i + 1) (k + 1) es rs lo tv uv gv := by
 obtain ⟨j, t, b, q, u, gl, gy, m, recs, fs, dn, e1, e2, e3, e4, h1, h2, h3, h⟩ := h
 exact ⟨j, t, b, q, u, gl, gy, m, recs, fs, dn, e1, e2, e3, e4, h1.next, h2.mono (Nat.le_succ _), h3, h⟩
theorem QSt.box (h : QSt w0 w d r R i k es rs lo tv uv gv) (o : Obj) : QSt w0 (w.alloc o) d r R i k es (rObj w0.heap.size w.heap.size o :: rs) lo tv uv gv := by
 obtain ⟨j, t, b, q, u, gl, gy, m, recs, fs, dn, e1, e2, e3, e4, h1, h2, h3, v, lv, ve, vl, re, h⟩ := h
 exact ⟨j, t, b, q, u, gl, gy, m, recs, fs, dn, e1, e2, e3, e4, h1, h2, h3, v, lv, ve, vl, re, (Own.alloc h o).perm List.perm_middle.symm⟩
theorem QSt.heldP {w' : World} {mv : Value} (h : QSt w0 w d r R i k es rs lo tv uv gv) (ho : TChsAt 112 w.heap.size w' mv L) (hk : Keeps (fun _ => False) w w') : ∃ ps, QSt w0 w' d r R i k es (rHeldP w0.heap.size mv ps L :: rs) lo tv uv gv := by
 obtain ⟨j, t, b, q, u, gl, gy, m, recs, fs, dn, e1, e2, e3, e4, h1, h2, h3, v, lv, ve, vl, re, h⟩ := h
 obtain ⟨ps, h⟩ := Own.addHeldP h ho hk
 exact ⟨ps, j, t, b, q, u, gl, gy, m, recs, fs, dn, e1, e2, e3, e4, h1, h2, h3, v, lv, ve, vl, re, h.perm List.perm_middle.symm⟩
theorem QSt.addBytes {w' : World} {pv : Value} (h : QSt w0 w d r R i k es rs lo tv uv gv) (ho : Owns w' w.heap.size pv p) (hk : Keeps (fun _ => False) w w') : QSt w0 w' d r R i k es (rBytes w0.heap.size pv p :: rs) lo tv uv gv := by
 obtain ⟨j, t, b, q, u, gl, gy, m, recs, fs, dn, e1, e2, e3, e4, h1, h2, h3, v, lv, ve, vl, re, h⟩ := h
 exact ⟨j, t, b, q, u, gl, gy, m, recs, fs, dn, e1, e2, e3, e4, h1, h2, h3, v, lv, ve, vl, re, (Own.addBytes h ho hk).perm List.perm_middle.symm⟩
theorem QSt.drop {x : Res w0.heap.size} (h : QSt w0 w d r R i k es (x :: rs) lo tv uv gv) : QSt w0 w d r R i k es rs lo tv uv gv := by
 obtain ⟨j, t, b, q, u, gl, gy, m, recs, fs, dn, e1, e2, e3, e4, h1, h2, h3, v, lv, ve, vl, re, h⟩ := h
 exact ⟨j, t, b, q, u, gl, gy, m, recs, fs, dn, e1, e2, e3, e4, h1, h2, h3, v, lv, ve, vl, re, (Own.drop (h.perm List.perm_middle))⟩
theorem QSt.obj (h : QSt w0 w d r R i k es rs lo tv uv gv) {t : Nat} {o : Obj} (hm : rObj w0.heap.size t o ∈ rs) : w.heap[t]? = some o := by
 obtain ⟨j, t, b, q, u, gl, gy, m, recs, fs, dn, e1, e2, e3, e4, h1, h2, h3, v, lv, ve, vl, re, h⟩ := h
 exact (Own.at h (o := o) (List.mem_append_right _ hm)).1
theorem QMid.drop {x : Res w0.heap.size} (h : QMid w0 w d r R i k es p L co (x :: rs) lo tv uv gv) : QMid w0 w d r R i k es p L co rs lo tv uv gv := by
 obtain ⟨j, t, b, q, u, gl, gy, m, recs, fs, dn, m', recs', fs', dn', e1, e2, e3, e4, h1, h1', h2, h3, hl, ha, v, lv, ve, vl, re, h⟩ := h
 exact ⟨j, t, b, q, u, gl, gy, m, recs, fs, dn, m', recs', fs', dn', e1, e2, e3, e4, h1, h1', h2, h3, hl, ha, v, lv, ve, vl, re, (Own.drop (h.perm List.perm_middle))⟩
theorem QMid.obj (h : QMid w0 w d r R i k es p L co rs lo tv uv gv) {t : Nat} {o : Obj} (hm : rObj w0.heap.size t o ∈ rs) : w.heap[t]? = some o := by
 obtain ⟨j, t, b, q, u, gl, gy, m, recs, fs, dn, m', recs', fs', dn', e1, e2, e3, e4, h1, h1', h2, h3, hl, ha, v, lv, ve, vl, re, h⟩ := h
 exact (Own.at h (o := o) (List.mem_append_right _ hm)).1
theorem QSt.add1 (h : QSt w0 w d r R i k es rs lo tv uv gv) (hi : i ≤ 130) (hk : k ≤ 130) {pv mv : Value} {ps : List Value} (hpl : p.length ≤ 500) (hp : rBytes w0.heap.size pv p ∈ rs) (hm : rHeldP w0.heap.size mv ps L ∈ rs) (hL : L.length ≤ 5) (hc : ∀ c ∈ L, c.key.size ≤ 400 ∧ c.val.length ≤ 300) (hf : ∀ c ∈ L, ¬ beginsB c.key hdG = true) :
  ∃ co : Int, Calls Tryz.prog 19 #[lo, pv, mv] w fun e w1 => e = .returned (.int .i64 co) ∧ QMid w0 w1 d r R i k es p L co rs lo tv uv gv := by
 obtain ⟨j, t, b, q, u, gl, gy, m, recs, fs, dn, rfl, rfl, rfl, rfl, hti, hpj, hsel, v, lv, ve, vl, re, h⟩ := h
 have hek := pj_len hpj hsel
 have hwt : (encOf (L ++ [⟨keyOf es.length, false, p⟩])).1 = 0 → wtCh (L ++ [⟨keyOf es.length, false, p⟩]) ≤ 40000 := fun _ => by
  have hs : smallB (L ++ [⟨keyOf es.length, false, p⟩]) = true := by
   unfold smallB
   simp only [Bool.and_eq_true, decide_eq_true_eq, List.all_eq_true, List.length_append, List.length_singleton]
   refine ⟨by omega, fun c hcm => ?_⟩
   rcases List.mem_append.1 hcm with hcm | hcm
   ·have := hc c hcm
    omega
   ·rw [List.mem_singleton] at hcm
    subst hcm
    have := keyOf_size es.length
    dsimp only
    omega
  have := wt_small hs
  omega
 obtain ⟨co, m', recs', fs', dn', e1, e2, hti'⟩ := tapp_pairC hti nmT dn hwt
 obtain ⟨hpj', hsel'⟩ := hpj.apply hsel (by omega) hf hL (p := p) e2
 have hr := hti.recs
 refine ⟨co, ?_⟩
 have h1 := gAddM_calls (T := ⟨m, (framesOf recs).length, fs, dn⟩) (rs := rtRes w0.heap.size r q u nmT m recs v lv fs dn ++ (rRows w0.heap.size re es :: rObj w0.heap.size gy (rlogObj u re) :: rs)) h hti.tidy.good (by omega) (by dsimp only; omega) (by omega) (pv := pv) (p := p) (by omega)
  (fun wr ls ho => (ho.bytes (v := pv) (l := p) (by simp [hp])).1) (mv := mv) (ps := ps) (L := L) (by simp [hm]) (by omega)
 rw [e1] at h1
 refine h1.mono ?_
 rintro e w1 ⟨ve', vl', he, ho⟩
 exact ⟨he, j, t, b, q, u, gl, gy, m, recs, fs, dn, m', recs', fs', dn', rfl, rfl, rfl, rfl, hti, hti', hpj', hsel', hek, e2, v, lv, ve', vl', re, ho⟩
theorem QMid.add2 (h : QMid w0 w d r R i k es p L co rs lo tv uv gv) (hi : i ≤ 130) (hk : k ≤ 130) {pv : Value} (hpl : p.length ≤ 500) (hp : Reads w0 pv p) {la : Option Addr} {lc : Nat} (hL : TChsIn w0 la L) (hlL : L.length ≤ 5) :
  Calls Tryz.prog 21 #[gv, pv, .slice la L.length lc] w fun e w1 => e = .returned (.int .i64 co) ∧ QSt w0 w1 d r R (i + 1) (k + 1) (if co = 0 then es ++ [p] else es) rs lo tv uv gv := by
 obtain ⟨j, t, b, q, u, gl, gy, m, recs, fs, dn, m', recs', fs', dn', rfl, rfl, rfl, rfl, hti, hti', hpj', hsel', hek, e2, v, lv, ve, vl, re, h⟩ := h
 have hl := hti.len
 have hw := hti.wt
 have hr := hti.recs
 have hmany := frames_many recs
 obtain ⟨es', hes'⟩ : ∃ x, x = if co = 0 then es ++ [p] else es := ⟨_, rfl⟩
 rw [← hes'] at h hsel' ⊢
 have h0 : Own w0 w ((tRes w0.heap.size d j t b nmT ⟨m', (framesOf recs').length, fs', dn'⟩ ++ gRes w0.heap.size gl t ve vl es') ++ (rtRes w0.heap.size r q u nmT m recs v lv fs dn ++ (rRows w0.heap.size re es :: rObj w0.heap.size gy (rlogObj u re) :: rs))) := h
 have h1 : Own w0 w (rtRes w0.heap.size r q u nmT m recs v lv fs dn ++ (rRows w0.heap.size re es :: rObj w0.heap.size gy (rlogObj u re) :: ((tRes w0.heap.size d j t b nmT ⟨m', (framesOf recs').length, fs', dn'⟩ ++ gRes w0.heap.size gl t ve vl es') ++ rs))) :=
  Own.flip (A := tRes w0.heap.size d j t b nmT ⟨m', (framesOf recs').length, fs', dn'⟩ ++ gRes w0.heap.size gl t ve vl es') (B := rtRes w0.heap.size r q u nmT m recs v lv fs dn ++ [rRows w0.heap.size re es, rObj w0.heap.size gy (rlogObj u re)]) h0
 have h2 := radd15_calls h1 hti.tidy (by omega) (by omega) (by omega) hti.ok.sorted (by omega) (by omega) hp (by omega) (lc := lc) hL (by omega)
 rw [e2] at h2
 refine h2.mono ?_
 rintro e w3 ⟨he, v', lv', re', ho⟩
 dsimp only at ho
 rw [← hes'] at ho
 have h3 := Own.flip (A := rtRes w0.heap.size r q u nmT m' recs' v' lv' fs' dn' ++ [rRows w0.heap.size re' es', rObj w0.heap.size gy (rlogObj u re')]) (B := tRes w0.heap.size d j t b nmT ⟨m', (framesOf recs').length, fs', dn'⟩ ++ gRes w0.heap.size gl t ve vl es') ho
 exact ⟨he, j, t, b, q, u, gl, gy, m', recs', fs', dn', rfl, rfl, rfl, rfl, hti', hpj', hsel', v', lv', ve, vl, re', h3⟩
theorem qown_disks {d r j t b q u gl gy : Nat} {m : DM} {recs : List (List UInt8)} {fs : FS} {dn : Bool} {v lv ve vl re : Value} (h : Own w0 w (qRes w0.heap.size d r j t b q u gl gy m recs fs dn m recs fs dn es es v lv ve vl re ++ rs)) :
  ∃ X : List (Res w0.heap.size), X.length = 12 ∧ Own w0 w (rDisk w0.heap.size d m :: rRef w0.heap.size r m :: (X ++ rs)) ∧ ∀ w' m', Own w0 w' (rDisk w0.heap.size d m' :: rRef w0.heap.size r m' :: (X ++ rs)) → Own w0 w' (qRes w0.heap.size d r j t b q u gl gy m' recs fs dn m' recs fs dn es es v lv ve vl re ++ rs) := by
 have hp : ∀ (D J T M G0 G1 G2 Rr Q : Res w0.heap.size) (Z : List (Res w0.heap.size)), (D :: J :: T :: M :: G0 :: G1 :: G2 :: Rr :: Z).Perm (D :: Rr :: J :: T :: M :: G0 :: G1 :: G2 :: Z) := fun D J T M G0 G1 G2 Rr Q Z => List.Perm.cons _ (List.perm_middle (l₁ := [J, T, M, G0, G1, G2]))
 refine ⟨[_, _, _, _, _, _, _, _, _, _, _, _], rfl, Own.perm h (hp _ _ _ _ _ _ _ _ (rRef w0.heap.size r m) _), fun w' m' h' => Own.perm h' (hp _ _ _ _ _ _ _ _ (rRef w0.heap.size r m) _).symm⟩
theorem own_drops : ∀ {X : List (Res w0.heap.size)} {x y : Res w0.heap.size}, Own w0 w (x :: y :: (X ++ rs)) → Own w0 w (x :: y :: rs)
 | [], _, _, h => h
 | z :: X, x, y, h => own_drops (X := X) (Own.drop (h.perm (List.perm_middle (l₁ := [x, y]))))
theorem QSt.fuse (h : QSt w0 w d r R i k es rs lo tv uv gv) (hi : i ≤ 130) (n mm : Int) (hn : n ≤ 9223372036854775807) :
  Calls Tryz.prog 22 #[.pointer (some ⟨d, 0, none⟩), .pointer (some ⟨r, 0, none⟩), .agg #[.int .i64 5, .string ⟨#[]⟩, .string ⟨#[]⟩, .slice none 0 0, .int .i64 n, .int .i64 mm]] w fun e w' => e = .returned (.bool true) ∧ QSt w0 w' d r R (i + 1) (k + 1) es rs lo tv uv gv := by
 obtain ⟨j, t, b, q, u, gl, gy, m, recs, fs, dn, e1, e2, e3, e4, hti, hpj, hsel, v, lv, ve, vl, re, h⟩ := h
 obtain ⟨X, -, h1, hback⟩ := qown_disks h
 refine (does9_calls h1 hti.tidy (by omega) (by omega) ⟨5, ⟨#[]⟩, ⟨#[]⟩, [], n, mm⟩ (reads_nil w0) (by simp)).mono ?_
 rintro e w' ⟨rfl, ho⟩
 exact ⟨rfl, j, t, b, q, u, gl, gy, _, recs, fs, dn, e1, e2, e3, e4, hti.does ⟨5, ⟨#[]⟩, ⟨#[]⟩, [], n, mm⟩ hn, (hpj.fuse n hn).mono (Nat.le_succ _), hsel, v, lv, ve, vl, re, hback _ _ ho⟩
def QC (w0 w : World) (d r : Nat) (R : Int) (i k : Nat) (m : DM) (rs : List (Res w0.heap.size)) : Prop :=
 Tidy m (4000000000 * i) (4000000000 * i) ∧ PC R m k ∧ Own w0 w (rDisk w0.heap.size d m :: rRef w0.heap.size r m :: rs)
theorem QSt.crash (h : QSt w0 w d r R i k es rs lo tv uv gv) (hi : i ≤ 130) (n mm : Int) (hn : n ≤ 9223372036854775807) :
  Calls Tryz.prog 22 #[.pointer (some ⟨d, 0, none⟩), .pointer (some ⟨r, 0, none⟩), .agg #[.int .i64 6, .string ⟨#[]⟩, .string ⟨#[]⟩, .slice none 0 0, .int .i64 n, .int .i64 mm]] w fun e w' => e = .returned (.bool true) ∧ ∃ m, QC w0 w' d r R (i + 1) k m rs := by
 obtain ⟨j, t, b, q, u, gl, gy, m, recs, fs, dn, e1, e2, e3, e4, hti, hpj, hsel, v, lv, ve, vl, re, h⟩ := h
 obtain ⟨X, -, h1, hback⟩ := qown_disks h
 refine (does9_calls h1 hti.tidy (by omega) (by omega) ⟨6, ⟨#[]⟩, ⟨#[]⟩, [], n, mm⟩ (reads_nil w0) (by simp)).mono ?_
 rintro e w' ⟨rfl, ho⟩
 exact ⟨rfl, _, (hti.does ⟨6, ⟨#[]⟩, ⟨#[]⟩, [], n, mm⟩ hn).tidy, hpj.crash n mm, own_drops ho⟩
theorem tab_facts {fs : FS} {k : Nat} (h : LogOk fs k) (hk : k ≤ 130) : FSorted fs ∧ (∀ p ∈ fs, p.1.size ≤ maxLen) ∧ fs.length ≤ 1099511627775 ∧ ∀ p ∈ fs, p.2.length ≤ 70368744177662 :=
 ⟨h.ok.sorted, fun p hp => by have := (h.ok.each p hp).2.1; unfold maxLen; omega, by have := h.len; omega, fun p hp => by have := (h.ok.each p hp).2.2; omega⟩
theorem QC.open {m : DM} (h : QC w0 w d r R i k m rs) (hi : i ≤ 130) (hk : k ≤ 130) :
  ∃ c : Int, Calls Tryz.prog 17 #[.pointer (some ⟨d, 0, none⟩)] w fun e w1 => 
   (c ≠ 0 ∧ e = .returned (.tuple #[.pointer none, .pointer none, .int .i64 c]) ∧ (∀ t o, rObj w0.heap.size t o ∈ rs → w1.heap[t]? = some o) ∧ Keeps (fun _ => False) w0 w1 ∧ Calls Tryz.prog 8 #[.pointer (some ⟨r, 0, none⟩), .string nmT] w1 fun e w2 => e = .returned (.tuple #[.pointer none, .int .i64 c]) ∧ Keeps (fun _ => False) w0 w2) ∨
   (c = 0 ∧ ∃ lo tv : Addr, e = .returned (.tuple #[.pointer (some lo), .pointer (some tv), .int .i64 0]) ∧ (∀ t o, rObj w0.heap.size t o ∈ rs → w1.heap[t]? = some o) ∧ Keeps (fun _ => False) w0 w1 ∧ Calls Tryz.prog 8 #[.pointer (some ⟨r, 0, none⟩), .string nmT] w1 fun e w2 => ∃ uv : Addr, e = .returned (.tuple #[.pointer (some uv), .int .i64 0]) ∧ (∀ t o, rObj w0.heap.size t o ∈ rs → w2.heap[t]? = some o) ∧ Keeps (fun _ => False) w0 w2 ∧
    Calls Tryz.prog 14 #[.pointer (some uv)] w2 fun e w3 => ∃ (gv : Addr) (es : List (List UInt8)), e = .returned (.tuple #[.pointer (some gv), .int .i64 0]) ∧ QSt w0 w3 d r R (i + 1) k es rs (.pointer (some lo)) (.pointer (some tv)) (.pointer (some uv)) (.pointer (some gv))) := by
 obtain ⟨ht, hpc, ho⟩ := h
 obtain ⟨htt, hop⟩ := TI.open ht nmT
 have hr11 := fun (w2 : World) (rs2 : List (Res w0.heap.size)) (h2 : Own w0 w2 (rRef w0.heap.size r m :: rs2)) => r11open_calls h2 ht (by omega) (by omega) nmT (by decide)
 refine ⟨(tOpenOf m nmT).code, ?_⟩
 rcases hpc.open with ⟨hn, hc⟩ | ⟨recs, size, fs, hres, htab, hcode, hpj⟩
 ·refine (opened15_calls ho ht.good (by omega) (fun size fs e => by rw [hn] at e; cases e)).mono ?_
  rintro e w1 (⟨-, he, h1⟩ | ⟨size, fs, j, t, b, e2, -⟩ | ⟨size, fs, j, t, b, g, ve, vl, es, e2, -⟩)
  ·refine .inl ⟨hc, he, fun t o hm => (h1.at (b := t) (o := o) (by simp [hm])).1, h1.keeps, ?_⟩
   refine (hr11 w1 _ h1.swap).mono ?_
   rintro e w3 (⟨hn2, he, ho3⟩ | ⟨size, fs, recs, q, u, v, lv, hs, _⟩)
   ·exact ⟨he, ho3.keeps⟩
   ·rw [hn] at hs; cases hs
  ·rw [hn] at e2; cases e2
  ·rw [hn] at e2; cases e2
 ·obtain ⟨es, hes, hek⟩ := hpj.1.log
  have hsz := hpj.1.len
  obtain ⟨hg, hrf⟩ := sel_open hpj.1.ok.sorted (by omega) hes
  obtain ⟨hsize, -, hti⟩ := hop _ _ _ htab hres
  refine (opened15_calls ho ht.good (by omega) (fun size' fs' e => by rw [htab] at e; cases e; exact tab_facts hpj.1 hk)).mono ?_
  rintro e w1 (⟨e2, -⟩ | ⟨size', fs', j, t, b, e2, e3, -⟩ | ⟨size', fs', j, t, b, g, ve, vl, es', e2, e3, he, h1⟩)
  ·rw [htab] at e2; cases e2
  ·rw [htab] at e2; cases e2; rw [hg] at e3; cases e3
  ·rw [htab] at e2; cases e2
   rw [hg] at e3; cases e3
   refine .inr ⟨hcode, _, _, he, fun t o hm => (h1.at (b := t) (o := o) (by simp [hm])).1, h1.keeps, ?_⟩
   have h1' : Own w0 w1 ((tRes w0.heap.size d j t b nmT ⟨(tOpenOf m nmT).m, size, fs, false⟩ ++ gRes w0.heap.size g t ve vl es) ++ (rRef w0.heap.size r m :: rs)) := h1
   have h2 : Own w0 w1 (rRef w0.heap.size r m :: ((tRes w0.heap.size d j t b nmT ⟨(tOpenOf m nmT).m, size, fs, false⟩ ++ gRes w0.heap.size g t ve vl es) ++ rs)) := h1'.perm List.perm_middle
   refine (hr11 w1 _ h2).mono ?_
   rintro e w3 (⟨hn2, he, ho3⟩ | ⟨size2, fs2, recs2, q, u, v, lv, hs, hs2, he, ho3⟩)
   ·rw [htab] at hn2; cases hn2
   ·rw [htab] at hs; cases hs
    rw [hres] at hs2; cases hs2
    rw [hcode] at he
    refine ⟨_, he, fun t o hm => (ho3.at (b := t) (o := o) (by simp [hm])).1, ho3.keeps, ?_⟩
    refine (ropen15_calls ho3 (u := u) (q := q) (lv := lv) (fs := fs) (dn := false) (by simp [rtRes]) (by simp [rtRes]) (by omega) (fun f hf => by have := (tab_facts hpj.1 hk).2.2.2 f hf; omega)).mono ?_
    intro e w4 hp
    unfold ROpen15Post at hp
    rw [hrf] at hp
    obtain ⟨gy, re, he, h5⟩ := hp
    refine ⟨_, es, he, j, t, b, q, u, g, gy, _, recs, fs, false, rfl, rfl, rfl, rfl, hti, hpj, hes, v, lv, ve, vl, re, ?_⟩
    subst hsize
    have h6 := Own.flip (A := rRows w0.heap.size re es :: rObj w0.heap.size gy (rlogObj u re) :: rtRes w0.heap.size r q u nmT (tOpenOf m nmT).m recs v lv fs false) (B := tRes w0.heap.size d j t b nmT ⟨(tOpenOf m nmT).m, (framesOf recs).length, fs, false⟩ ++ gRes w0.heap.size g t ve vl es) h5
    exact Own.perm h6 (List.Perm.append_left (tRes w0.heap.size d j t b nmT ⟨(tOpenOf m nmT).m, (framesOf recs).length, fs, false⟩ ++ gRes w0.heap.size g t ve vl es) ((List.perm_append_comm (l₁ := [rRows w0.heap.size re es, rObj w0.heap.size gy (rlogObj u re)]) (l₂ := rtRes w0.heap.size r q u nmT (tOpenOf m nmT).m recs v lv fs false)).append_right rs))
theorem logFrom_has : ∀ (es : List (List UInt8)) (n : Nat) {p : List UInt8}, p ∈ es → ∃ f ∈ logFrom n es, f.2 = p
 | [], _, _, h => by simp at h
 | x :: es, n, p, h => by
  rcases List.mem_cons.1 h with rfl | h
  ·exact ⟨_, List.mem_cons_self, rfl⟩
  ·obtain ⟨f, hf, e⟩ := logFrom_has es (n + 1) h
   exact ⟨f, List.mem_cons_of_mem _ hf, e⟩
theorem pj_ents {m : DM} {recs : List (List UInt8)} {fs : FS} {dn : Bool} (h : PJ R recs fs dn m k) (he : gSel fs = logFs es) {p : List UInt8} (hp : p ∈ es) : p.length ≤ 262144 := by
 obtain ⟨f, hf, rfl⟩ := logFrom_has es 0 hp
 have hf2 : f ∈ gSel fs := by rw [he]; exact hf
 unfold gSel at hf2
 exact (h.1.ok.each f (List.mem_filter.1 hf2).1).2.2
theorem QSt.askq (h : QSt w0 w d r R i k es rs lo tv uv gv) (hi : i ≤ 130) (hk : k ≤ 130) :
  (∀ W, Keeps (fun _ => False) w W → Calls Tryz.prog 23 #[.pointer (some ⟨d, 0, none⟩), .pointer (some ⟨r, 0, none⟩)] W (QuietP W (.bool true))) ∧ es.length ≤ k ∧
   (∀ W, Keeps (fun _ => False) w W → Runs 15 #[lo] W (.int .i64 (es.length : Int)) W) ∧
   (∀ (a b c : Int) W, Keeps (fun _ => False) w W → Calls Tryz.prog 16 #[lo, gv, .int .i64 a, .int .i64 b, .int .i64 c] W (QuietP W (.bool true))) ∧
   ∃ (u gy : Nat) (la : Option Addr) (ln lc : Nat) (ra : Option Addr) (rc : Nat), uv = .pointer (some ⟨u, 0, none⟩) ∧ gv = .pointer (some ⟨gy, 0, none⟩) ∧
    (∀ W, Keeps (fun _ => False) w W → W.cell? ⟨u, 1, none⟩ = some (.slice la ln lc) ∧ W.cell? ⟨gy, 1, none⟩ = some (.slice ra es.length rc)) ∧
    (∀ W, Keeps (fun _ => False) w W → Calls Tryz.prog 24 #[tv, .slice la ln lc] W (QuietP W (.bool true))) := by
 obtain ⟨j, t, b, q, u, gl, gy, m, recs, fs, dn, rfl, rfl, rfl, rfl, hti, hpj, hsel, v, lv, ve, vl, re, h⟩ := h
 have hl := hti.len
 have hw := hti.wt
 have hr := hti.recs
 have hek := pj_len hpj hsel
 obtain ⟨F, hp⟩ := Own.pairs h (v := lv) (fs := fs) (by simp [qRes, tRes, rtRes])
 obtain ⟨pa, pc, rfl, -, -⟩ := hp.form
 obtain ⟨hrw, ra, rc, rfl⟩ := Own.rows h (v := re) (ll := es) (by simp [qRes, tRes, rtRes])
 have hlog : ∀ W, Keeps (fun _ => False) w W → LogAt W gl t ve vl es := fun W hk => (Own.quiet h hk).logAt (by simp [qRes, gRes]) (by simp [qRes, gRes]) (by simp [qRes, gRes])
 have hrlog : ∀ W, Keeps (fun _ => False) w W → RLogAt W gy u (.slice ra es.length rc) es := fun W hk => ⟨(Own.at (Own.quiet h hk) (b := gy) (o := rlogObj u (.slice ra es.length rc)) (by simp [qRes])).1, (Own.rows (Own.quiet h hk) (v := .slice ra es.length rc) (ll := es) (by simp [qRes])).1⟩
 obtain ⟨X, -, hd, -⟩ := qown_disks h
 refine ⟨fun W hk => is_calls (Own.quiet hd hk) hti.tidy (by omega), hek, fun W hk => gsize_runs (hlog W hk), fun a b c W hk => tells_calls (hlog W hk) (hrlog W hk) (by omega) (fun p hp => by have := pj_ents hpj hsel hp; omega) a b c, u, gy, pa, fs.length, pc, ra, rc, rfl, rfl, fun W hk => ?_, fun W hk => ?_⟩
 ·have hq := Own.quiet h hk
  obtain ⟨-, c1, -, -⟩ := rtab_cells (Own.at hq (b := u) (o := rtabObj q (.slice pa fs.length pc) dn) (by simp [qRes, tRes, rtRes])).1
  obtain ⟨-, c2, -⟩ := rlog_cells (hrlog W hk).obj
  exact ⟨c1, c2⟩
 ·have hq := Own.quiet h hk
  have htb := (Own.at hq (b := t) (o := tabObj j b dn) (by simp [qRes, tRes, rtRes])).1
  obtain ⟨G, hG, _⟩ := Own.mem hq (r := rMap w0.heap.size b fs) (by simp [qRes, tRes, rtRes])
  have his := is11_calls htb hG.2 hti.ok (by omega) (hp.quiet (G := F) hk (fun b hb _ => hb))
  simp only [decide_true] at his
  exact his
end
end Go.Proofs.YtddnikpdmjogiaaGreat
