/- TaglogExtends: how its things are moved about. -/
import Derived.Test.YtaeabdghlkdkjaaGreatGExP
import Derived.Test.YtaeabdghlkdkjaaGreatGAwk
import Derived.Test.YtaeabdghlkdkjaaGreatPush
namespace Go.Proofs.YtaeabdghlkdkjaaGreat
set_option linter.unusedVariables false
open Go.RowKit Go.MapKept

theorem Own.fuseG {w wr : World} {rs : List (Res w.heap.size)} {d : Nat} {m : DM} (h : Own w wr (rDisk w.heap.size d m :: rs)) (n : Int) :
    ∃ w', Runs 49 #[.pointer (some ⟨d, 0, none⟩), .int .i64 n] wr (.int .i64 (fuseOf m n).1) w' ∧ Own w w' (rDisk w.heap.size d (fuseOf m n).2 :: rs) := by
  obtain ⟨F, h1, back⟩ := h.disk
  obtain ⟨w', hr, h2, k⟩ := fuse_runs h1 n
  exact ⟨w', hr, (back _ (.returned (.int .i64 (fuseOf m n).1)) w' ⟨rfl, h2, k⟩).2⟩
/-- The table, the log, the roots, the entries that were noted, and what else there is. -/
def EO (w0 wx : World) (d j t b g : Nat) (T : TM) (ve vl : Value) (es : List (List UInt8)) (rv : Value) (R : List Dg) (av : Value) (al : List (List UInt8)) (rs : List (Res w0.heap.size)) : Prop :=
  Own w0 wx (tRes w0.heap.size d j t b nmT T ++ (gRes w0.heap.size g t ve vl es ++ (rDigs w0.heap.size rv R :: rRows w0.heap.size av al :: rs)))
section
variable {w0 wx : World} {d j t b g : Nat} {T : TM} {ve vl : Value} {es : List (List UInt8)} {rv : Value} {R : List Dg} {av : Value} {al : List (List UInt8)} {rs : List (Res w0.heap.size)}
theorem EO.own (h : EO w0 wx d j t b g T ve vl es rv R av al rs) : Own w0 wx (tRes w0.heap.size d j t b nmT T ++ (gRes w0.heap.size g t ve vl es ++ (rDigs w0.heap.size rv R :: rRows w0.heap.size av al :: rs))) := h
theorem EO.keeps (h : EO w0 wx d j t b g T ve vl es rv R av al rs) : Keeps (fun _ => False) w0 wx := Own.keeps h
theorem EO.quiet {w' : World} (h : EO w0 wx d j t b g T ve vl es rv R av al rs) (hk : Keeps (fun _ => False) wx w') : EO w0 w' d j t b g T ve vl es rv R av al rs := Own.quiet h hk
theorem EO.log (h : EO w0 wx d j t b g T ve vl es rv R av al rs) : LogAt wx g t ve vl es := logAtAdd h
theorem EO.box (h : EO w0 wx d j t b g T ve vl es rv R av al rs) (o : Obj) : EO w0 (wx.alloc o) d j t b g T ve vl es rv R av al (rObj w0.heap.size wx.heap.size o :: rs) := by
  have h1 := Own.alloc h.own o
  refine h1.perm ?_
  exact (List.perm_middle (a := rObj w0.heap.size wx.heap.size o) (l₁ := tRes w0.heap.size d j t b nmT T ++ (gRes w0.heap.size g t ve vl es ++ [rDigs w0.heap.size rv R, rRows w0.heap.size av al])) (l₂ := rs)).symm
theorem EO.unbox {r : Res w0.heap.size} (h : EO w0 wx d j t b g T ve vl es rv R av al (r :: rs)) : EO w0 wx d j t b g T ve vl es rv R av al rs :=
  Own.dropMid (r := r) (l₁ := tRes w0.heap.size d j t b nmT T ++ (gRes w0.heap.size g t ve vl es ++ [rDigs w0.heap.size rv R, rRows w0.heap.size av al])) (l₂ := rs) h
theorem EO.at {k : Nat} {o : Obj} (h : EO w0 wx d j t b g T ve vl es rv R av al (rObj w0.heap.size k o :: rs)) : wx.heap[k]? = some o := (Own.at h (b := k) (o := o) (by simp)).1
theorem EO.setRow {k : Nat} {cs : Array Value} {ty : TypeId} (h : EO w0 wx d j t b g T ve vl es rv R av al (rObj w0.heap.size k (.cells cs ty (0, 0)) :: rs)) (cs' : Array Value) : EO w0 (wx.setRow k cs') d j t b g T ve vl es rv R av al (rObj w0.heap.size k (.cells cs' ty (0, 0)) :: rs) := by
  have h1 := Own.setRow (Own.pull (r := rObj w0.heap.size k (.cells cs ty (0, 0))) (l₁ := tRes w0.heap.size d j t b nmT T ++ (gRes w0.heap.size g t ve vl es ++ [rDigs w0.heap.size rv R, rRows w0.heap.size av al])) (l₂ := rs) h) cs'
  refine h1.perm ?_
  exact (List.perm_middle (a := rObj w0.heap.size k (.cells cs' ty (0, 0))) (l₁ := tRes w0.heap.size d j t b nmT T ++ (gRes w0.heap.size g t ve vl es ++ [rDigs w0.heap.size rv R, rRows w0.heap.size av al])) (l₂ := rs)).symm
theorem EO.root (h : EO w0 wx d j t b g T ve vl es rv R av al rs) : Digs 0 wx rv R := Own.digs (v := rv) (L := R) h (by simp)
theorem EO.pushRoot (h : EO w0 wx d j t b g T ve vl es rv R av al rs) {x : List UInt8} (hx : x.length = 32) {k : Nat} (hb : wx.rangeAt k 0 (x.map u8v)) (hL : R.length < 1099511627776) :
    ∃ a c w', (Builtin.append_ #[88, 88] 88 #[rv, .slice (some ⟨k, 0, none⟩) 1 1]).run Tryz.prog wx = .ok (.slice a (R.length + 1) c) w' ∧ EO w0 w' d j t b g T ve vl es (.slice a (R.length + 1) c) (R ++ [x]) av al rs := by
  obtain ⟨a, c, w', h1, h2⟩ := Own.pushDig (Own.pull (r := rDigs w0.heap.size rv R) (l₁ := tRes w0.heap.size d j t b nmT T ++ gRes w0.heap.size g t ve vl es) (l₂ := rRows w0.heap.size av al :: rs) h) hx hb hL
  refine ⟨a, c, w', h1, h2.perm ?_⟩
  exact (List.perm_middle (a := rDigs w0.heap.size (.slice a (R.length + 1) c) (R ++ [x])) (l₁ := tRes w0.heap.size d j t b nmT T ++ gRes w0.heap.size g t ve vl es) (l₂ := rRows w0.heap.size av al :: rs)).symm
/-- The next root, put into a block of its own. -/
theorem EO.fill {r : Nat} (h : EO w0 wx d j t b g T ve vl es rv (rootsOf es r) av al rs) {dl : List Value} (hdl : dl = (rootOf ((leavesOf es).take r)).map u8v) (hL : r < 1099511627776) :
    ∃ a c w', (Builtin.append_ #[88, 88] 88 #[rv, .slice (some ⟨wx.heap.size, 0, none⟩) 1 1]).run Tryz.prog (wx.alloc (.cells dl.toArray 83)) = .ok (.slice a (r + 1) c) w' ∧ EO w0 w' d j t b g T ve vl es (.slice a (r + 1) c) (rootsOf es (r + 1)) av al rs := by
  have hb := heap_alloc_new wx (.cells dl.toArray 83)
  obtain ⟨a, c, w', h1, h2⟩ := (h.box (.cells dl.toArray 83)).pushRoot (x := rootOf ((leavesOf es).take r)) (rootOf_length ((leaves32 es).take r)) (k := wx.heap.size) (fun k u hu => by
    rw [Nat.zero_add]
    exact cell_at hb (by rw [List.getElem?_toArray, hdl]; exact hu)) (by rw [rootsOf_length]; exact hL)
  rw [← rootsOf_step] at h2
  rw [rootsOf_length] at h1 h2
  exact ⟨a, c, w', h1, h2.unbox⟩
theorem EO.pushAll {w1 : World} (h : EO w0 wx d j t b g T ve vl es rv R av al rs) {p : Value} {l : List UInt8} (hp : Owns w1 wx.heap.size p l) (hk : Keeps (fun _ => False) wx w1) (hL : al.length < 1099511627776) :
    ∃ a c w', (Builtin.append_ #[22, 22] 22 #[av, .slice (some ⟨w1.heap.size, 0, none⟩) 1 1]).run Tryz.prog (w1.alloc (.cells #[p] 36)) = .ok (.slice a (al.length + 1) c) w' ∧ EO w0 w' d j t b g T ve vl es rv R (.slice a (al.length + 1) c) (al ++ [l]) rs := by
  obtain ⟨a, c, w', h1, h2⟩ := Own.pushRec (Own.pull (r := rRows w0.heap.size av al) (l₁ := tRes w0.heap.size d j t b nmT T ++ (gRes w0.heap.size g t ve vl es ++ [rDigs w0.heap.size rv R])) (l₂ := rs) h) hp hk hL
  refine ⟨a, c, w', h1, h2.perm ?_⟩
  exact (List.perm_middle (a := rRows w0.heap.size (.slice a (al.length + 1) c) (al ++ [l])) (l₁ := tRes w0.heap.size d j t b nmT T ++ (gRes w0.heap.size g t ve vl es ++ [rDigs w0.heap.size rv R])) (l₂ := rs)).symm
theorem EO.fuse (h : EO w0 wx d j t b g T ve vl es rv R av al rs) (n : Int) :
    ∃ w', Runs 49 #[.pointer (some ⟨d, 0, none⟩), .int .i64 n] wx (.int .i64 (fuseOf T.m n).1) w' ∧ EO w0 w' d j t b g { T with m := (fuseOf T.m n).2 } ve vl es rv R av al rs := by
  obtain ⟨w', h1, h2⟩ := Own.fuseG h n
  exact ⟨w', h1, h2⟩
theorem EO.forms (h : EO w0 wx d j t b g T ve vl es rv R av al rs) : (∃ a c, rv = .slice a R.length c) ∧ ∃ a c, av = .slice a al.length c := by
  obtain ⟨a, c, e, -, -⟩ := (Own.digs (v := rv) (L := R) h (by simp)).form
  exact ⟨⟨a, c, e⟩, (Own.rows (v := av) (ll := al) h (by simp)).2⟩
theorem EO.rows (h : EO w0 wx d j t b g T ve vl es rv R av al rs) : RowsIn wx av al := (Own.rows (v := av) (ll := al) h (by simp)).1
/-- The disk alone, the roots and the entries that were noted. -/
theorem EO.disk (h : EO w0 wx d j t b g T ve vl es rv R av al rs) : Own w0 wx (rDisk w0.heap.size d T.m :: rDigs w0.heap.size rv R :: rRows w0.heap.size av al :: rs) := Own.diskOnly h
/-- The crash. -/
theorem EO.crash {es1 : List (List UInt8)} {nx : List UInt8} {cut : Bool} {m : DM} {size k : Nat} (h : EO w0 wx d j t b g ⟨m, size, logFs es1, cut⟩ ve vl es rv R av al rs) (hi : GLI es1 nx cut m size k) (kp pt : Int) :
    Calls Tryz.prog 50 #[.pointer (some ⟨d, 0, none⟩), .int .i64 kp, .int .i64 pt] wx (fun e w' => (∃ x, e = .returned x) ∧ GWok es1 nx cut (crashOf m kp pt) k ∧ Own w0 w' (rDisk w0.heap.size d (crashOf m kp pt) :: rDigs w0.heap.size rv R :: rRows w0.heap.size av al :: rs)) := by
  refine (Own.crash h.disk kp pt hi.st.good.fits).mono ?_
  rintro e w' ⟨rfl, h'⟩
  exact ⟨⟨_, rfl⟩, hi.crash kp pt, h'⟩
end
/-- The walk's state, behind k steps. -/
def ES (w0 wx : World) (d k : Nat) (rs : List (Res w0.heap.size)) (lv rv av : Value) : Prop :=
  ∃ (j t b g : Nat) (es : List (List UInt8)) (nx : List UInt8) (cut : Bool) (m : DM) (size : Nat) (ve vl : Value) (r : Nat), lv = .pointer (some ⟨g, 0, none⟩) ∧ r ≤ es.length + 1 ∧ (∃ a c, rv = .slice a r c) ∧ (∃ a c, av = .slice a es.length c) ∧ GLI es nx cut m size k ∧
    EO w0 wx d j t b g ⟨m, size, logFs es, cut⟩ ve vl es rv (rootsOf es r) av es rs
section
variable {w0 wx : World} {d j t b g k : Nat} {es : List (List UInt8)} {nx : List UInt8} {cut : Bool} {m : DM} {size r : Nat} {ve vl rv av lv : Value} {rs : List (Res w0.heap.size)}
theorem ES.mk (hr : r ≤ es.length + 1) (hi : GLI es nx cut m size k) (h : EO w0 wx d j t b g ⟨m, size, logFs es, cut⟩ ve vl es rv (rootsOf es r) av es rs) : ES w0 wx d k rs (.pointer (some ⟨g, 0, none⟩)) rv av := by
  obtain ⟨h1, h2⟩ := h.forms
  rw [rootsOf_length] at h1
  exact ⟨j, t, b, g, es, nx, cut, m, size, ve, vl, r, rfl, hr, h1, h2, hi, h⟩
theorem ES.keeps (h : ES w0 wx d k rs lv rv av) : Keeps (fun _ => False) w0 wx := by
  obtain ⟨_, _, _, _, _, _, _, _, _, _, _, _, _, _, _, _, _, h⟩ := h
  exact EO.keeps h
theorem ES.quiet {w' : World} (h : ES w0 wx d k rs lv rv av) (hk : Keeps (fun _ => False) wx w') : ES w0 w' d k rs lv rv av := by
  obtain ⟨j, t, b, g, es, nx, cut, m, size, ve, vl, r, h1, h2, h3, h4, h5, h⟩ := h
  exact ⟨j, t, b, g, es, nx, cut, m, size, ve, vl, r, h1, h2, h3, h4, h5, EO.quiet h hk⟩
theorem ES.mono {k' : Nat} (h : ES w0 wx d k rs lv rv av) (hk : k ≤ k') : ES w0 wx d k' rs lv rv av := by
  obtain ⟨j, t, b, g, es, nx, cut, m, size, ve, vl, r, h1, h2, h3, h4, h5, h⟩ := h
  exact ⟨j, t, b, g, es, nx, cut, m, size, ve, vl, r, h1, h2, h3, h4, h5.mono hk, h⟩
theorem ES.box (h : ES w0 wx d k rs lv rv av) (o : Obj) : ES w0 (wx.alloc o) d k (rObj w0.heap.size wx.heap.size o :: rs) lv rv av := by
  obtain ⟨j, t, b, g, es, nx, cut, m, size, ve, vl, r, h1, h2, h3, h4, h5, h⟩ := h
  exact ⟨j, t, b, g, es, nx, cut, m, size, ve, vl, r, h1, h2, h3, h4, h5, EO.box h o⟩
theorem ES.unbox {x : Res w0.heap.size} (h : ES w0 wx d k (x :: rs) lv rv av) : ES w0 wx d k rs lv rv av := by
  obtain ⟨j, t, b, g, es, nx, cut, m, size, ve, vl, r, h1, h2, h3, h4, h5, h⟩ := h
  exact ⟨j, t, b, g, es, nx, cut, m, size, ve, vl, r, h1, h2, h3, h4, h5, EO.unbox h⟩
theorem ES.at {n : Nat} {o : Obj} (h : ES w0 wx d k (rObj w0.heap.size n o :: rs) lv rv av) : wx.heap[n]? = some o := by
  obtain ⟨_, _, _, _, _, _, _, _, _, _, _, _, _, _, _, _, _, h⟩ := h
  exact EO.at h
/-- A crash, and the log is opened: what may be there. -/
theorem GWok.opened15 (hi : GWok es nx cut m k) (hk : k ≤ 60) (h : Own w0 wx (rDisk w0.heap.size d m :: rDigs w0.heap.size rv (rootsOf es r) :: rRows w0.heap.size av es :: rs)) (hr : r ≤ es.length + 1) :
    Calls Tryz.prog 43 #[.pointer (some ⟨d, 0, none⟩)] wx (fun e w' => ∃ (es' : List (List UInt8)) (m' : DM) (size' j t b g : Nat) (ve vl : Value), e = .returned (.tuple #[.pointer (some ⟨g, 0, none⟩), .pointer (some ⟨t, 0, none⟩), .int .i64 0]) ∧ (es' = es ∨ es' = es ++ [nx]) ∧ nx.length ≤ 500 ∧ rootsOf es' r = rootsOf es r ∧ GLI es' [] false m' size' k ∧
      EO w0 w' d j t b g ⟨m', size', logFs es', false⟩ ve vl es' rv (rootsOf es' r) av es rs) := by
  refine (hi.openCalls hk h).mono ?_
  rintro e w' ⟨es', m', size', j, t, b, g, ve, vl, rfl, hes, hl, ho⟩
  have hq : rootsOf es' r = rootsOf es r := by
    rcases hes with rfl | ⟨-, rfl⟩
    · rfl
    · exact rootsOf_append es [nx] hr
  refine ⟨es', m', size', j, t, b, g, ve, vl, rfl, ?_, hi.small.2, hq, hl, by rw [hq]; exact ho⟩
  rcases hes with rfl | ⟨-, rfl⟩
  · exact .inl rfl
  · exact .inr rfl
end
end Go.Proofs.YtaeabdghlkdkjaaGreat
