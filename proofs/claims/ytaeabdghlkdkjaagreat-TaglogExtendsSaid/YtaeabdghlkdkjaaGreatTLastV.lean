/- A table on a disk whose power may go: what holds from step to step. Plain. -/
import Derived.Test.YtaeabdghlkdkjaaGreatPkX
import Derived.Test.YtaeabdghlkdkjaaGreatTFold
import Derived.Test.YtaeabdghlkdkjaaGreatTAwk
namespace Go.Proofs.YtaeabdghlkdkjaaGreat
set_option linter.unusedVariables false
open Go.RowKit Go.MapKept

/-! ### How much pairs weigh -/
def w60 (fs : FS) : Nat := (fs.map (fun p => 60 + p.1.size + p.2.length)).sum
def w60c (l : List TCh) : Nat := (l.map (fun c => 60 + c.key.size + c.val.length)).sum
theorem w60_cons (p : ByteArray × List UInt8) (l : FS) : w60 (p :: l) = (60 + p.1.size + p.2.length) + w60 l := by simp [w60]
theorem w60c_cons (c : TCh) (l : List TCh) : w60c (c :: l) = (60 + c.key.size + c.val.length) + w60c l := by simp [w60c]
theorem w60_filter (q : ByteArray × List UInt8 → Bool) : ∀ fs : FS, w60 (fs.filter q) ≤ w60 fs
  | [] => Nat.le_refl _
  | x :: l => by
    have := w60_filter q l
    rw [List.filter_cons, w60_cons]
    split
    · rw [w60_cons]; omega
    · omega
theorem w60_tdo (fs : FS) (c : TCh) : w60 (tdo fs c) ≤ w60 fs + (60 + c.key.size + c.val.length) := by
  have h1 := w60_filter (fun p => p.1 ≠ c.key) fs
  unfold tdo
  split
  · unfold fdel; omega
  · have h2 : w60 (fput fs c.key c.val) = w60 ((c.key, c.val) :: fdel fs c.key) := by
      unfold w60 fput
      exact ((fins_perm _ _).map _).sum_nat
    rw [h2, w60_cons]
    unfold fdel
    dsimp only
    omega
theorem w60_tdos : ∀ (l : List TCh) (fs : FS), w60 (tdos fs l) ≤ w60 fs + w60c l
  | [], fs => by simp [tdos, w60c]
  | c :: l, fs => by
    have h1 := w60_tdos l (tdo fs c)
    have h2 := w60_tdo fs c
    have h3 := w60c_cons c l
    show w60 (tdos (tdo fs c) l) ≤ _
    omega
theorem w60_len : ∀ fs : FS, 60 * fs.length ≤ w60 fs
  | [] => Nat.le_refl _
  | p :: l => by have := w60_len l; rw [w60_cons, List.length_cons]; omega
theorem encCh_le60 {c : TCh} (h : badCh c = false) : (encCh c).length ≤ 21 + c.key.size + c.val.length := by
  obtain ⟨g0, g1, g2⟩ := badCh_false h
  have hk := key_len c.key
  have h1 := countOf_len10 (n := c.key.toList.length) (by omega)
  have h2 := countOf_len10 (n := c.val.length) (by omega)
  unfold encCh textOf
  split
  · rw [List.length_cons, List.length_append]; omega
  · rw [List.length_append, List.length_cons, List.length_append, List.length_append]; omega
theorem encAll_le60 : ∀ (l : List TCh), (∀ c ∈ l, badCh c = false) → ((l.map encCh).flatten).length + 39 * l.length ≤ w60c l
  | [], _ => Nat.le_refl _
  | c :: l, h => by
    have h1 := encAll_le60 l (fun x hx => h x (List.mem_cons_of_mem _ hx))
    have h2 := encCh_le60 (h c (List.mem_cons_self ..))
    have h3 := w60c_cons c l
    rw [List.map_cons, List.flatten_cons, List.length_append, List.length_cons]
    omega
theorem enc_le60 {l : List TCh} (h : (encOf l).1 = 0) : (encOf l).2.length + 39 * l.length ≤ 10 + w60c l := by
  obtain ⟨h1, h2, h3, -⟩ := enc_ok h
  have h4 := encAll_le60 l h3
  have h5 := countOf_len10 (n := l.length) (by omega)
  rw [h2, List.length_append]
  omega
theorem foldRec_le {p : ByteArray × List UInt8} (h : 0 < p.1.size ∧ p.1.size ≤ 320 ∧ p.2.length ≤ 262144) : (foldRec p).length + 8 ≤ 60 + p.1.size + p.2.length := by
  have h2 := enc_le60 (foldRec_ok h)
  have h3 : w60c [(⟨p.1, false, p.2⟩ : TCh)] = 60 + p.1.size + p.2.length := by simp [w60c]
  have h5 : (foldRec p).length = (encOf [(⟨p.1, false, p.2⟩ : TCh)]).2.length := rfl
  have h6 : [(⟨p.1, false, p.2⟩ : TCh)].length = 1 := rfl
  omega
theorem folds_le : ∀ {fs : FS}, (∀ p ∈ fs, 0 < p.1.size ∧ p.1.size ≤ 320 ∧ p.2.length ≤ 262144) → (framesOf (foldRecs fs)).length ≤ w60 fs
  | [], _ => Nat.le_refl _
  | p :: fs, h => by
    have h1 := folds_le (fs := fs) (fun x hx => h x (List.mem_cons_of_mem _ hx))
    have h2 := foldRec_le (h p (List.mem_cons_self ..))
    have h4 := w60_cons p fs
    show (framesOf (foldRec p :: foldRecs fs)).length ≤ _
    rw [framesOf_cons, List.length_append, frameOf_length]
    omega

/-! ### Records that come to pairs -/
theorem tabOf_append : ∀ (a b : List (List UInt8)) (fs : FS), tabOf (a ++ b) fs = match tabOf a fs with | none => none | some fs' => tabOf b fs'
  | [], b, fs => rfl
  | r :: a, b, fs => by
    simp only [List.cons_append, tabOf]
    cases decOf r with
    | none => rfl
    | some l => exact tabOf_append a b _
structure TGo (fs : FS) (rs : List (List UInt8)) (L : Nat) : Prop where
  tab : tabOf rs [] = some fs
  small : ∀ p ∈ rs, p.length ≤ 1048568
  len : (framesOf rs).length ≤ L
theorem TGo.mono {fs : FS} {rs : List (List UInt8)} {L L' : Nat} (h : TGo fs rs L) (hL : L ≤ L') : TGo fs rs L' := ⟨h.tab, h.small, Nat.le_trans h.len hL⟩
theorem TGo.whole {fs : FS} {rs : List (List UInt8)} {L : Nat} (h : TGo fs rs L) : scanOf (framesOf rs) = (rs, (framesOf rs).length) := scan_whole (fun p hp => by have := h.small p hp; omega)
theorem frames_snoc (rs : List (List UInt8)) (p : List UInt8) : framesOf (rs ++ [p]) = framesOf rs ++ frameOf p := by rw [framesOf_append]; simp [framesOf]
theorem TGo.push {fs : FS} {rs : List (List UInt8)} {L L' : Nat} (h : TGo fs rs L) {l : List TCh} (he : (encOf l).1 = 0) (hL : L + 18 + w60c l ≤ L') : TGo (tdos fs l) (rs ++ [(encOf l).2]) L' := by
  have h1 := enc_le60 he
  refine ⟨?_, fun p hp => ?_, ?_⟩
  · rw [tabOf_append, h.tab]
    show tabOf [(encOf l).2] fs = _
    simp only [tabOf, dec_enc he, tdos_norm]
  · rcases List.mem_append.1 hp with hp | hp
    · exact h.small p hp
    · rw [List.mem_singleton] at hp
      rw [hp]; exact (enc_ok he).2.2.2
  · have := h.len
    rw [frames_snoc, List.length_append, frameOf_length]
    omega
theorem fins_last : ∀ {a : FS} {f : ByteArray × List UInt8}, (∀ x ∈ a, blt x.1 f.1 = true) → fins a f = a ++ [f]
  | [], f, _ => rfl
  | x :: a, f, h => by
    rw [fins_tail (blt_asym (h x (List.mem_cons_self ..))), fins_last (fun y hy => h y (List.mem_cons_of_mem _ hy))]
    rfl
theorem tab_folds : ∀ (b a : FS), FSorted (a ++ b) → (∀ p ∈ b, 0 < p.1.size ∧ p.1.size ≤ 320 ∧ p.2.length ≤ 262144) → tabOf (foldRecs b) a = some (a ++ b)
  | [], a, _, _ => by simp [foldRecs, tabOf]
  | p :: b, a, hs, hb => by
    have he := foldRec_ok (hb p (List.mem_cons_self ..))
    have hs2 := List.pairwise_append.1 hs
    have hlt : ∀ x ∈ a, blt x.1 p.1 = true := fun x hx => hs2.2.2 x hx p (List.mem_cons_self ..)
    have hab : fdel a p.1 = a := fdel_absent (fun hm => by
      obtain ⟨y, hy, e⟩ := List.mem_map.1 hm
      have := hlt y hy
      rw [e, blt_irrefl] at this
      cases this)
    have hd : tdos a [(⟨p.1, false, p.2⟩ : TCh)] = a ++ [p] := by
      show tdo a ⟨p.1, false, p.2⟩ = _
      unfold tdo
      rw [if_neg (by simp)]
      unfold fput
      rw [hab, fins_last hlt]
    show tabOf (foldRec p :: foldRecs b) a = _
    rw [tabOf, show foldRec p = (encOf [⟨p.1, false, p.2⟩]).2 from rfl, dec_enc he]
    simp only
    rw [tdos_norm, hd, tab_folds b (a ++ [p]) (by rw [List.append_assoc]; exact hs) (fun x hx => hb x (List.mem_cons_of_mem _ hx)), List.append_assoc]
    rfl
theorem TGo.fold {fs : FS} {L : Nat} (h : TabOk fs) (hL : w60 fs ≤ L) : TGo fs (foldRecs fs) L := by
  refine ⟨tab_folds fs [] (by simpa using h.sorted) h.each, fun p hp => ?_, Nat.le_trans (folds_le h.each) hL⟩
  unfold foldRecs at hp
  obtain ⟨x, hx, rfl⟩ := List.mem_map.1 hp
  exact foldRec_len (h.each x hx)

/-! ### The disk's two files -/
theorem tmpT_ne : tmpOf nmT ≠ nmT := by
  intro h
  have h1 : (tmpOf nmT).size = 2 := by decide +kernel
  have h2 : nmT.size = 1 := by decide +kernel
  rw [h, h2] at h1
  cases h1
structure Two (g : Fn) (L : Nat) : Prop where
  only : ∀ n, n ≠ nmT → n ≠ tmpOf nmT → g n = none
  tmp : ((g (tmpOf nmT)).getD []).length ≤ L
theorem Two.mono {g : Fn} {L L' : Nat} (h : Two g L) (hL : L ≤ L') : Two g L' := ⟨h.only, Nat.le_trans h.tmp hL⟩
theorem Two.holds1 {g : Fn} {L : Nat} {b : List UInt8} (h : Two g L) (hb : g nmT = some b) (hl : b.length ≤ L) : Holds (fclr g (tmpOf nmT)) L 1 := by
  have h0 : fclr (fclr g (tmpOf nmT)) nmT = fun _ => none := by
    funext x
    simp only [fclr]
    split
    · rfl
    · split
      · rfl
      · rename_i e1 e2; exact h.only x e1 e2
  have := Holds.of_clr (g := fclr g (tmpOf nmT)) (n := nmT) (U := 0) (K := 0) (L := L) (by rw [h0]; exact Holds.empty) (by rw [fclr_other _ (Ne.symm tmpT_ne), hb]; exact hl)
  rw [Nat.zero_add, Nat.zero_add] at this
  exact this
theorem Two.holds2 {g : Fn} {L : Nat} {b : List UInt8} (h : Two g L) (hb : g nmT = some b) (hl : b.length ≤ L) : Holds g (L + L) 2 :=
  Holds.of_clr (h.holds1 hb hl) h.tmp
theorem Two.setJ {g : Fn} {L : Nat} (h : Two g L) (b : List UInt8) : Two (fset g nmT b) L :=
  ⟨fun n h1 h2 => by rw [fset_other _ _ h1]; exact h.only n h1 h2, by rw [fset_other _ _ tmpT_ne]; exact h.tmp⟩
theorem Two.setT {g : Fn} {L : Nat} (h : Two g L) {b : List UInt8} (hb : b.length ≤ L) : Two (fset g (tmpOf nmT) b) L :=
  ⟨fun n h1 h2 => by rw [fset_other _ _ h2]; exact h.only n h1 h2, by rw [fset_same]; exact hb⟩
theorem Two.clrT {g : Fn} {L : Nat} (h : Two g L) : Two (fclr g (tmpOf nmT)) L :=
  ⟨fun n h1 h2 => by rw [fclr_other _ h2]; exact h.only n h1 h2, by rw [fclr_same]; simp⟩
/-- The journal's file comes to one of the two. -/
structure JF (now nxt : FS) (cut : Bool) (L : Nat) (x : Fn) : Prop where
  two : Two x L
  jrn : ∃ b rs, x nmT = some b ∧ b.length ≤ L ∧ scanOf b = (rs, (framesOf rs).length) ∧ (TGo now rs L ∨ (cut = true ∧ TGo nxt rs L))
theorem JF.mono {now nxt : FS} {cut : Bool} {L L' : Nat} {x : Fn} (h : JF now nxt cut L x) (hL : L ≤ L') : JF now nxt cut L' x := by
  obtain ⟨b, rs, h1, h2, h3, h4⟩ := h.jrn
  exact ⟨h.two.mono hL, b, rs, h1, Nat.le_trans h2 hL, h3, h4.imp (fun h => h.mono hL) (fun h => ⟨h.1, h.2.mono hL⟩)⟩
/-- Whatever a lay that was cut leaves, if what is laid comes to one of the two. -/
theorem JF.lay {now nxt : FS} {cut : Bool} {L : Nat} {x y : Fn} (h : JF now nxt cut L x) {rs : List (List UInt8)} (hr : TGo now rs L ∨ (cut = true ∧ TGo nxt rs L)) (hy : LayIm x nmT (framesOf rs) y) : JF now nxt cut L y := by
  obtain ⟨b, rs0, h1, h2, h3, h4⟩ := h.jrn
  have hlen : (framesOf rs).length ≤ L := by rcases hr with hr | hr; exact hr.len; exact hr.2.len
  have hwh : scanOf (framesOf rs) = (rs, (framesOf rs).length) := by rcases hr with hr | hr; exact hr.whole; exact hr.2.whole
  rcases hy with rfl | ⟨k, rfl⟩ | rfl
  · exact ⟨h.two.clrT, b, rs0, by rw [fclr_other _ (Ne.symm tmpT_ne)]; exact h1, h2, h3, h4⟩
  · exact ⟨h.two.setT (Nat.le_trans (List.length_take_le' _ _) hlen), b, rs0, by rw [fset_other _ _ (Ne.symm tmpT_ne)]; exact h1, h2, h3, h4⟩
  · exact ⟨(h.two.setJ _).clrT, framesOf rs, rs, by rw [fclr_other _ (Ne.symm tmpT_ne), fset_same], hlen, hwh, hr⟩

/-! ### What holds from step to step -/
structure TLI (R : Int) (now nxt : FS) (cut : Bool) (m : DM) (size L n : Nat) : Prop where
  ok : TabOk now
  wt : w60 now ≤ L
  nok : cut = true → TabOk nxt ∧ w60 nxt ≤ L
  size : size ≤ L
  st : (cut = false ∧ ∃ g all, Two g L ∧ g nmT = some (framesOf all) ∧ TGo now all L ∧ Up R (fun x => x = g) g m n) ∨ (cut = true ∧ Dn R (JF now nxt true L) m n)
theorem TLI.good {R : Int} {now nxt : FS} {cut : Bool} {m : DM} {size L n : Nat} (h : TLI R now nxt cut m size L n) : Good m n := by
  rcases h.st with ⟨_, g, all, _, _, _, h⟩ | ⟨_, h⟩
  · exact h.good
  · exact h.good
theorem TLI.room {R : Int} {now nxt : FS} {cut : Bool} {m : DM} {size L n : Nat} (h : TLI R now nxt cut m size L n) : m.room = R := by
  rcases h.st with ⟨_, g, all, _, _, _, h⟩ | ⟨_, h⟩
  · exact h.room
  · exact h.room
theorem JF.of {now nxt : FS} {cut : Bool} {L : Nat} {g : Fn} {all : List (List UInt8)} (h1 : Two g L) (h2 : g nmT = some (framesOf all)) (h3 : TGo now all L) : JF now nxt cut L g :=
  ⟨h1, _, all, h2, h3.len, h3.whole, .inl h3⟩
theorem TLI.img {R : Int} {now nxt : FS} {cut : Bool} {m : DM} {size L n : Nat} (h : TLI R now nxt cut m size L n) : Img m (fun fs => JF now nxt cut L (fget fs)) := by
  rcases h.st with ⟨rfl, g, all, h1, h2, h3, hu⟩ | ⟨rfl, hu⟩
  · exact hu.img.mono (fun fs e => by rw [e]; exact JF.of h1 h2 h3)
  · exact hu.img
theorem TLI.mono {R : Int} {now nxt : FS} {cut : Bool} {m : DM} {size L n L' n' : Nat} (h : TLI R now nxt cut m size L n) (hL : L ≤ L') (hn : n ≤ n') : TLI R now nxt cut m size L' n' :=
  ⟨h.ok, Nat.le_trans h.wt hL, fun e => ⟨(h.nok e).1, Nat.le_trans (h.nok e).2 hL⟩, Nat.le_trans h.size hL, h.st.imp
    (fun ⟨a, g, all, h1, h2, h3, h4⟩ => ⟨a, g, all, h1.mono hL, h2, h3.mono hL, h4.mono (fun _ h => h) hn⟩) (fun ⟨a, h4⟩ => ⟨a, h4.mono (fun _ h => h.mono hL) hn⟩)⟩
theorem TLI.other {R : Int} {now nxt nxt' : FS} {m : DM} {size L n : Nat} (h : TLI R now nxt false m size L n) : TLI R now nxt' false m size L n :=
  ⟨h.ok, h.wt, (fun e => by cases e), h.size, h.st.imp id (fun ⟨a, _⟩ => by cases a)⟩
theorem TLI.start {R : Int} (h0 : 0 ≤ R) (h1 : R ≤ 67108864) (nxt : FS) : TLI R [] nxt false (oneT R []) 0 0 4 := by
  have hg : Good (oneT R []) 4 := by
    have h := open_good (Good.new (room := R) h0 h1) nmT
    rw [open_emptyT] at h
    exact ⟨h.room0, h.room1, h.fuse0, h.fuse, by simp [oneT], h.nsure, h.now, h.used, h.kinds⟩
  have hgt : fget [(nmT, ([] : List UInt8))] = fset (fun _ => none) nmT [] := by
    funext x
    simp only [fset]
    split
    · rename_i e; subst e; simp [fget]
    · rename_i e; simp [fget, Ne.symm e]
  refine ⟨TabOk.nil, Nat.le_refl _, (fun e => by cases e), Nat.le_refl _, .inl ⟨rfl, _, [], ⟨fun n h1 h2 => ?_, ?_⟩, ?_, ⟨rfl, fun p hp => by simp at hp, Nat.le_refl _⟩, hg, rfl, rfl, Img.one rfl ?_, hgt⟩⟩
  · rw [fset_other _ _ h1]
  · rw [fset_other _ _ tmpT_ne]; simp
  · rw [fset_same, framesOf_nil]
  · exact hgt
theorem down_append2 {m : DM} (h : m.down = true) (f : ByteArray) (p : List UInt8) : appendOf m f p = (5, m) := by
  unfold appendOf thereOf; rw [h]; rfl
theorem encOf_code (l : List TCh) : (encOf l).1 ≠ 5 := by
  have : ∀ (l : List TCh) (o : List UInt8), (encFrom l o).1 ≠ 5 := by
    intro l
    induction l with
    | nil => intro o; simp [encFrom]
    | cons c l ih =>
      intro o
      rw [encFrom]
      split
      · simp
      · split
        · simp
        · exact ih _
  unfold encOf
  split
  · simp
  · exact this l _
/-- Apply. -/
theorem TLI.apply {R : Int} {now nxt : FS} {cut : Bool} {m : DM} {size L n : Nat} (h : TLI R now nxt cut m size L n) {l : List TCh} {δ : Nat} (hδ : 18 + w60c l ≤ δ) (hR : 3 * ((L + δ : Nat) : Int) ≤ R) (h1M : 18 + w60c l ≤ 1048576) :
    (cut = true ∧ tAppOf ⟨m, size, now, cut⟩ nmT l = (5, ⟨m, size, now, cut⟩)) ∨
    (cut = false ∧ (encOf l).1 ≠ 0 ∧ tAppOf ⟨m, size, now, cut⟩ nmT l = ((encOf l).1, ⟨m, size, now, cut⟩)) ∨
    (cut = false ∧ (encOf l).1 = 0 ∧ ∃ m' s', tAppOf ⟨m, size, now, cut⟩ nmT l = (0, ⟨m', s', tdos now l, false⟩) ∧ TLI R (tdos now l) nxt false m' s' (L + δ) (n + 1)) ∨
    (cut = false ∧ (encOf l).1 = 0 ∧ ∃ m' s', tAppOf ⟨m, size, now, cut⟩ nmT l = (5, ⟨m', s', now, true⟩) ∧ TLI R now (tdos now l) true m' s' (L + δ) (n + 1)) := by
  rcases h.st.symm with ⟨rfl, hd⟩ | ⟨rfl, g, all, h1, h2, h3, hu⟩
  · refine .inl ⟨rfl, ?_⟩
    unfold tAppOf
    rw [if_pos rfl]
  by_cases he : ¬ (encOf l).1 = 0
  · refine .inr (.inl ⟨rfl, he, ?_⟩)
    have h5 : ((encOf l).1 == 5) = false := by rw [beq_eq_false_iff_ne]; exact encOf_code l
    unfold tAppOf
    rw [if_neg (by simp), if_neg he, h5]
  replace he := Decidable.not_not.1 he
  have hel := enc_le60 he
  have hgood := (enc_ok he).2.2.1
  have hfl := frameOf_length (encOf l).2
  have hlong : ¬ 1048568 < (encOf l).2.length := by have := (enc_ok he).2.2.2; omega
  have hlen := h3.len
  have hsz := h.size
  have hwt := w60_tdos l now
  have hwn := h.wt
  have hTn : TabOk (tdos now l) := TabOk.tdos l h.ok hgood
  have hpush := h3.push he (L' := L + δ) (by omega)
  have hap := hu.append h2 (frameOf (encOf l).2) (by omega) (h1.holds2 h2 hlen) (by omega)
  rw [← frames_snoc] at hap
  have hg2 : (fset g nmT (framesOf (all ++ [(encOf l).2]))) nmT = some (framesOf (all ++ [(encOf l).2])) := fset_same _ _ _
  have hcut : ∀ x : Fn, (x = g ∨ ∃ i, x = fset g nmT (framesOf all ++ (frameOf (encOf l).2).take i)) → JF now (tdos now l) true (L + δ) x := fun x hx => by
    rcases hx with rfl | ⟨i, rfl⟩
    · exact (JF.of h1 h2 h3).mono (by omega)
    · by_cases hi : i < (frameOf (encOf l).2).length
      · have ht := List.length_take_le' i (frameOf (encOf l).2)
        exact ⟨(h1.setJ _).mono (by omega), _, all, fset_same _ _ _, by rw [List.length_append]; omega, torn_scan (fun q hq => by have := h3.small q hq; omega) (by omega) hi rfl, .inl (h3.mono (by omega))⟩
      · rw [List.take_of_length_le (by omega), ← frames_snoc]
        exact ⟨(h1.setJ _).mono (by omega), _, _, fset_same _ _ _, hpush.len, hpush.whole, .inr ⟨rfl, hpush⟩⟩
  have hj : jAppendOf m nmT size (encOf l).2 = if (appendOf m nmT (frameOf (encOf l).2)).1 = 0 then (0, (appendOf m nmT (frameOf (encOf l).2)).2, size + (8 + (encOf l).2.length)) else ((appendOf m nmT (frameOf (encOf l).2)).1, (appendOf m nmT (frameOf (encOf l).2)).2, size) := by
    unfold jAppendOf; rw [if_neg hlong]
  unfold tAppOf
  dsimp only
  rw [if_neg (by simp), if_pos he, hj]
  rcases hap with ⟨c, hu2⟩ | ⟨c, hd2⟩
  · rw [if_pos c]
    dsimp only
    rw [if_pos rfl]
    rcases hu2.sync with ⟨c3, hu3⟩ | ⟨c3, hd3⟩
    · rw [if_pos c3]
      exact .inr (.inr (.inl ⟨rfl, he, _, _, rfl, hTn, by omega, (fun e => by cases e), by omega, .inl ⟨rfl, _, _, (h1.setJ _).mono (by omega), hg2, hpush, hu3⟩⟩))
    · rw [if_neg (by rw [c3]; omega), c3]
      refine .inr (.inr (.inr ⟨rfl, he, _, _, rfl, h.ok, by omega, fun _ => ⟨hTn, by omega⟩, ?_, .inr ⟨rfl, hd3.mono hcut (Nat.le_refl _)⟩⟩))
      show size + (8 + (encOf l).2.length) ≤ L + δ
      omega
  · rw [if_neg (show ¬ (appendOf m nmT (frameOf (encOf l).2)).1 = 0 by rw [c]; omega), c]
    rw [if_neg (show ¬ (5 : Int) = 0 by omega)]
    refine .inr (.inr (.inr ⟨rfl, he, _, _, rfl, h.ok, by omega, fun _ => ⟨hTn, by omega⟩, (by show size ≤ L + δ; omega), .inr ⟨rfl, hd2.mono (fun x hx => hcut x (.inl hx)) (Nat.le_refl _)⟩⟩))
/-- Fold. -/
theorem TLI.fold {R : Int} {now nxt : FS} {cut : Bool} {m : DM} {size L n : Nat} (h : TLI R now nxt cut m size L n) (hR : 3 * (L : Int) ≤ R) :
    (cut = true ∧ tFoldOf ⟨m, size, now, cut⟩ nmT = (5, ⟨m, size, now, cut⟩)) ∨
    (cut = false ∧ ∃ m' s', tFoldOf ⟨m, size, now, cut⟩ nmT = (0, ⟨m', s', now, false⟩) ∧ TLI R now nxt false m' s' L (n + (L + 4))) ∨
    (cut = false ∧ ∃ m' s', tFoldOf ⟨m, size, now, cut⟩ nmT = (5, ⟨m', s', now, true⟩) ∧ TLI R now now true m' s' L (n + (L + 4))) := by
  rcases h.st.symm with ⟨rfl, hd⟩ | ⟨rfl, g, all, h1, h2, h3, hu⟩
  · refine .inl ⟨rfl, ?_⟩
    unfold tFoldOf
    rw [if_pos rfl]
  have hF := TGo.fold h.ok h.wt
  have hlen := h3.len
  have hfl := hF.len
  have hwt := h.wt
  have hsz := h.size
  unfold tFoldOf
  dsimp only
  rw [if_neg (by simp)]
  unfold jRewriteOf
  rcases hu.lay nmT_name.1 nmT_name.2 tmpT_ne (framesOf (foldRecs now)) (h1.holds1 h2 hlen) (by omega) (by omega) with ⟨c, hu2⟩ | ⟨c, hd2⟩
  · rw [if_pos c]
    refine .inr (.inl ⟨rfl, _, _, rfl, h.ok, hwt, (fun e => by cases e), hfl, .inl ⟨rfl, _, foldRecs now, (h1.setJ _).clrT, by rw [fclr_other _ (Ne.symm tmpT_ne), fset_same], hF, hu2.mono (fun _ h => h) (by omega)⟩⟩)
  · rw [if_neg (by rw [c]; omega), c]
    refine .inr (.inr ⟨rfl, _, _, rfl, h.ok, hwt, fun _ => ⟨h.ok, hwt⟩, hsz, .inr ⟨rfl, hd2.mono (fun x hx => ?_) (by omega)⟩⟩)
    rcases hx with rfl | hx
    · exact JF.of h1 h2 h3
    · exact (JF.of h1 h2 h3).lay (.inl hF) hx
/-- A fuse. -/
theorem TLI.fuse {R : Int} {now nxt : FS} {cut : Bool} {m : DM} {size L n : Nat} (h : TLI R now nxt cut m size L n) (k : Int) (hk : k ≤ 9223372036854775807) : TLI R now nxt cut (fuseOf m k).2 size L n :=
  ⟨h.ok, h.wt, h.nok, h.size, h.st.imp (fun ⟨a, g, all, h1, h2, h3, h4⟩ => ⟨a, g, all, h1, h2, h3, h4.fuse k hk⟩) (fun ⟨a, h4⟩ => ⟨a, h4.fuse k⟩)⟩

/-! ### A crash, and opening -/
structure TWok (R : Int) (now nxt : FS) (cut : Bool) (m : DM) (L : Nat) : Prop where
  ex : ∃ x, JF now nxt cut L x ∧ Up R (fun y => y = x) x m 0
  fuse : m.fuse = -1
  ok : TabOk now ∧ w60 now ≤ L
  nok : cut = true → TabOk nxt ∧ w60 nxt ≤ L
theorem TLI.crash {R : Int} {now nxt : FS} {cut : Bool} {m : DM} {size L n : Nat} (h : TLI R now nxt cut m size L n) (keep part : Int) : TWok R now nxt cut (crashOf m keep part) L := by
  obtain ⟨x, h1, h2, h3⟩ := crash_upF (P := JF now nxt cut L) h.good h.room h.img keep part
  exact ⟨⟨x, h1, h2⟩, h3, ⟨h.ok, h.wt⟩, h.nok⟩
theorem tOpen_m (m : DM) (nm : ByteArray) : (tOpenOf m nm).m = (openOf m nm).m := by
  unfold tOpenOf
  split
  · rfl
  · split <;> rfl
theorem JF.opened {now nxt : FS} {cut : Bool} {L : Nat} {x : Fn} (h : JF now nxt cut L x) {R : Int} {m : DM} {n : Nat} (hu : Up R (fun y => y = x) x m n) (hR : 3 * (L : Int) ≤ R) :
    ∃ rs, (TGo now rs L ∨ (cut = true ∧ TGo nxt rs L)) ∧
    (((openOf m nmT).code = 0 ∧ (openOf m nmT).res = some (rs, (framesOf rs).length) ∧ ∃ g', JF now nxt cut L g' ∧ g' nmT = some (framesOf rs) ∧ Up R (fun y => y = g') g' (openOf m nmT).m (n + (L + 4))) ∨
    (Dn R (fun y => JF now nxt cut L y) (openOf m nmT).m (n + (L + 4)) ∧ m.fuse ≠ -1)) := by
  obtain ⟨b, rs, h1, h2, h3, h4⟩ := h.jrn
  refine ⟨rs, h4, ?_⟩
  rcases hu.openJ nmT_name.1 nmT_name.2 tmpT_ne h1 h3 (h.two.holds1 h1 h2) (by omega) (by omega) with ⟨c, r, g', hg', hj, hu2⟩ | ⟨c, r, hd, hf⟩
  · refine .inl ⟨c, r, g', ?_, hj, hu2.mono (fun y hy => ?_) (by omega)⟩
    · rcases hg' with rfl | rfl
      · exact h
      · exact h.lay h4 (.inr (.inr rfl))
    · rcases hy with ⟨rfl, rfl⟩ | rfl
      · rfl
      · rfl
  · refine .inr ⟨hd.mono (fun y hy => ?_) (by omega), hf⟩
    rcases hy with rfl | hy
    · exact h
    · exact h.lay h4 hy
/-- It is opened under a fuse, and crashes once more. -/
theorem TWok.again {R : Int} {now nxt : FS} {cut : Bool} {m : DM} {L : Nat} (h : TWok R now nxt cut m L) (hR : 3 * (L : Int) ≤ R) (k : Int) (hk : k ≤ 9223372036854775807) (keep part : Int) :
    Good (fuseOf m k).2 0 ∧ Good (tOpenOf (fuseOf m k).2 nmT).m (L + 4) ∧ TWok R now nxt cut (crashOf (tOpenOf (fuseOf m k).2 nmT).m keep part) L := by
  obtain ⟨⟨x, hx, hu⟩, _, hok, hnok⟩ := h
  have hu2 := hu.fuse k hk
  refine ⟨hu2.good, ?_⟩
  rw [tOpen_m]
  obtain ⟨rs, hrs, ho⟩ := hx.opened hu2 hR
  rw [Nat.zero_add] at ho
  rcases ho with ⟨_, _, g', hg', _, hu3⟩ | ⟨hd3, _⟩
  · refine ⟨hu3.good, ?_⟩
    obtain ⟨y, h1, h2, h3⟩ := crash_upF (P := fun y => y = g') hu3.good hu3.room hu3.img keep part
    subst h1
    exact ⟨⟨_, hg', h2⟩, h3, hok, hnok⟩
  · refine ⟨hd3.good, ?_⟩
    obtain ⟨y, h1, h2, h3⟩ := crash_upF (P := fun y => JF now nxt cut L y) hd3.good hd3.room hd3.img keep part
    exact ⟨⟨y, h1, h2⟩, h3, hok, hnok⟩
/-- It is opened. -/
theorem TWok.opened {R : Int} {now nxt : FS} {cut : Bool} {m : DM} {L : Nat} (h : TWok R now nxt cut m L) (hR : 3 * (L : Int) ≤ R) :
    Good m 0 ∧ ∃ fs m' size, (fs = now ∨ (cut = true ∧ fs = nxt)) ∧ tOpenOf m nmT = ⟨0, m', some (size, fs)⟩ ∧ ∀ nxt', TLI R fs nxt' false m' size L (L + 4) := by
  obtain ⟨⟨x, hx, hu⟩, hf, hok, hnok⟩ := h
  refine ⟨hu.good, ?_⟩
  obtain ⟨rs, hrs, ho⟩ := hx.opened hu hR
  rw [Nat.zero_add] at ho
  rcases ho with ⟨c, r, g', hg', hj, hu3⟩ | ⟨_, hne⟩
  · have key : ∃ fs, (fs = now ∨ (cut = true ∧ fs = nxt)) ∧ TGo fs rs L ∧ TabOk fs ∧ w60 fs ≤ L := by
      rcases hrs with hrs | ⟨hc, hrs⟩
      · exact ⟨now, .inl rfl, hrs, hok⟩
      · exact ⟨nxt, .inr ⟨hc, rfl⟩, hrs, hnok hc⟩
    obtain ⟨fs, hfs, hgo, hk1, hk2⟩ := key
    refine ⟨fs, (openOf m nmT).m, (framesOf rs).length, hfs, ?_, fun nxt' => ⟨hk1, hk2, (fun e => by cases e), hgo.len, .inl ⟨rfl, g', rs, hg'.two, hj, hgo, hu3⟩⟩⟩
    unfold tOpenOf
    rw [r]
    simp only
    rw [hgo.tab]
  · exact absurd hf hne
end Go.Proofs.YtaeabdghlkdkjaaGreat
