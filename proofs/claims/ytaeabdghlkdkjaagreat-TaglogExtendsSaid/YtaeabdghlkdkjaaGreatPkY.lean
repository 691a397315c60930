/- A log's pairs; the law of power cuts of a log. -/
import Derived.Test.YtaeabdghlkdkjaaGreatPkW
import Derived.Test.YtaeabdghlkdkjaaGreatTLastV
namespace Go.Proofs.YtaeabdghlkdkjaaGreat
set_option linter.unusedVariables false
open Go.RowKit Go.MapKept

theorem less_append : ∀ {a b : List UInt8} (x y : List UInt8), a.length = b.length → Op.bytesLess a b = true → Op.bytesLess (a ++ x) (b ++ y) = true
  | [], [], x, y, _, h => by simp [Op.bytesLess] at h
  | [], _ :: _, x, y, h, _ => by simp at h
  | _ :: _, [], x, y, h, _ => by simp at h
  | c :: a, d :: b, x, y, hl, h => by
    simp only [Op.bytesLess, Bool.or_eq_true, Bool.and_eq_true, List.cons_append] at h ⊢
    rcases h with h | ⟨h1, h2⟩
    · exact .inl h
    · exact .inr ⟨h1, less_append x y (by simpa using hl) h2⟩
theorem less_same (a : List UInt8) {x y : List UInt8} (h : Op.bytesLess x y = true) : Op.bytesLess (a ++ x) (a ++ y) = true := by
  induction a with
  | nil => exact h
  | cons c a ih => simp only [Op.bytesLess, Bool.or_eq_true, Bool.and_eq_true, List.cons_append]; exact .inr ⟨by simp, ih⟩
theorem hexd_mono : ∀ a : Nat, a < 16 → ∀ b : Nat, b < 16 → a < b → hexd a < hexd b := by decide +kernel
theorem hex2_mono {x y : Nat} (h : x < y) (hy : y < 256) : Op.bytesLess [hexd (x / 16), hexd (x % 16)] [hexd (y / 16), hexd (y % 16)] = true := by
  simp only [Op.bytesLess, Bool.or_eq_true, Bool.and_eq_true, decide_eq_true_eq, beq_iff_eq]
  by_cases h1 : x / 16 < y / 16
  · exact .inl (hexd_mono _ (by omega) _ (by omega) h1)
  · exact .inr ⟨by rw [show x / 16 = y / 16 by omega], .inl (hexd_mono _ (by omega) _ (by omega) (by omega))⟩
theorem hexput_mono : ∀ (s i j : Nat), i < j → j < 256 ^ s → Op.bytesLess (hexOf (putOf i s)) (hexOf (putOf j s)) = true
  | 0, i, j, h, hj => by simp at hj; omega
  | s + 1, i, j, h, hj => by
    have hx : ∀ n : Nat, hexOf (putOf n (s + 1)) = hexOf (putOf (n / 256) s) ++ [hexd (n % 256 / 16), hexd (n % 256 % 16)] := fun n => by
      rw [putOf, hexOf_append]
      congr 1
      simp [hexOf]
    rw [hx, hx]
    by_cases hd : i / 256 < j / 256
    · exact less_append _ _ (by simp [hexOf_length, putOf_length]) (hexput_mono s _ _ hd (by rw [Nat.pow_succ] at hj; omega))
    · rw [show i / 256 = j / 256 by omega]
      exact less_same _ (hex2_mono (by omega) (by omega))
theorem keyOf_list (i : Nat) : (keyOf i).toList = [103, 47] ++ hexOf (putOf i 4) := by
  unfold keyOf
  simp [ByteArray.toList_eq]
theorem keyOf_mono {i j : Nat} (h : i < j) (hj : j < 4294967296) : blt (keyOf i) (keyOf j) = true := by
  unfold blt
  rw [keyOf_list, keyOf_list]
  exact less_same _ (hexput_mono 4 i j h (by simpa using hj))
/-- The pairs of a log's entries, from a number on. -/
def logFrom : Nat → List (List UInt8) → FS
  | _, [] => []
  | k, e :: es => (keyOf k, e) :: logFrom (k + 1) es
def logFs (es : List (List UInt8)) : FS := logFrom 0 es
theorem logFrom_length : ∀ (es : List (List UInt8)) (k : Nat), (logFrom k es).length = es.length
  | [], _ => rfl
  | e :: es, k => by simp [logFrom, logFrom_length es]
theorem logFrom_mem : ∀ (es : List (List UInt8)) (k : Nat) {q : ByteArray × List UInt8}, q ∈ logFrom k es → ∃ i, k ≤ i ∧ i < k + es.length ∧ q.1 = keyOf i ∧ es[i - k]? = some q.2
  | [], k, q, h => by simp [logFrom] at h
  | e :: es, k, q, h => by
    rcases List.mem_cons.1 h with rfl | h
    · exact ⟨k, Nat.le_refl _, by simp, rfl, by simp⟩
    · obtain ⟨i, h1, h2, h3, h4⟩ := logFrom_mem es (k + 1) h
      refine ⟨i, by omega, by simp; omega, h3, ?_⟩
      rw [show i - k = i - (k + 1) + 1 by omega]
      simpa using h4
theorem logFrom_append : ∀ (es : List (List UInt8)) (k : Nat) (p : List UInt8), logFrom k (es ++ [p]) = logFrom k es ++ [(keyOf (k + es.length), p)]
  | [], k, p => rfl
  | e :: es, k, p => by
    simp only [List.cons_append, logFrom, logFrom_append es (k + 1) p, List.length_cons]
    rw [show k + 1 + es.length = k + (es.length + 1) by omega]
theorem gfins_last : ∀ {fs : FS} {f : ByteArray × List UInt8}, (∀ q ∈ fs, blt f.1 q.1 = false) → fins fs f = fs ++ [f]
  | [], f, _ => rfl
  | x :: l, f, h => by
    rw [fins, if_neg (by rw [h x (List.mem_cons_self ..)]; simp), gfins_last (fun q hq => h q (List.mem_cons_of_mem _ hq))]
    rfl
theorem logFs_add (es : List (List UInt8)) (p : List UInt8) (h : es.length < 4294967296) : tdo (logFs es) (entCh es.length p) = logFs (es ++ [p]) := by
  have hb : ∀ q ∈ logFs es, blt q.1 (keyOf es.length) = true := fun q hq => by
    obtain ⟨i, _, h2, h3, _⟩ := logFrom_mem es 0 hq
    rw [h3]
    exact keyOf_mono (by omega) h
  unfold tdo entCh logFs
  rw [if_neg (by simp), logFrom_append, fput]
  have hd : fdel (logFrom 0 es) (keyOf es.length) = logFrom 0 es := by
    unfold fdel
    refine List.filter_eq_self.2 (fun q hq => ?_)
    have := hb q hq
    simp only [decide_eq_true_eq, ne_eq]
    intro e
    rw [e, blt_irrefl] at this
    cases this
  rw [hd, Nat.zero_add]
  exact gfins_last (fun q hq => blt_asym (hb q hq))
theorem key_begins (i : Nat) : beginsB (keyOf i) hdG = true := by
  unfold beginsB
  have hs := keyOf_size i
  have h2 : hdG.size = 2 := rfl
  have he : ((keyOf i).extract 0 hdG.size).toList = hdG.toList := by
    rw [h2, ByteArray.toList_eq, ByteArray.toList_eq]
    unfold keyOf hdG
    simp [ByteArray.data_extract]
  rw [he, hs, h2]
  simp
theorem key_some (i : Nat) : blt ⟨#[]⟩ (keyOf i) = true := blt_empty (by rw [keyOf_size]; omega)
theorem gkeys_all : ∀ (fs : FS) (out : List ByteArray) (n : Int), (∀ p ∈ fs, beginsB p.1 hdG = true ∧ blt ⟨#[]⟩ p.1 = true) → (out.length : Int) + fs.length ≤ n → keysFrom hdG ⟨#[]⟩ n fs out = out ++ fs.map (·.1)
  | [], out, n, _, _ => by simp [keysFrom]
  | p :: fs, out, n, h, hn => by
    rw [List.length_cons] at hn
    rw [keysFrom, if_neg (by omega), if_pos (h p (List.mem_cons_self ..)), gkeys_all fs _ n (fun q hq => h q (List.mem_cons_of_mem _ hq)) (by rw [List.length_append]; simp; omega)]
    simp
theorem logFs_sorted : ∀ (es : List (List UInt8)) (k : Nat), k + es.length < 4294967296 → FSorted (logFrom k es)
  | [], k, _ => FSorted.nil
  | e :: es, k, h => by
    simp only [List.length_cons] at h
    refine List.Pairwise.cons (fun q hq => ?_) (logFs_sorted es (k + 1) (by omega))
    obtain ⟨i, h1, h2, h3, _⟩ := logFrom_mem es (k + 1) hq
    rw [h3]
    exact keyOf_mono (by omega) (by omega)
theorem gFrom_all (fs : FS) (hn : FNodup fs) : ∀ (es done : List (List UInt8)), (∀ q ∈ logFrom done.length es, q ∈ fs) → done.length + es.length ≤ 1048576 → gFrom fs ((logFrom done.length es).map (·.1)) done = some (done ++ es)
  | [], done, _, _ => by simp [logFrom, gFrom]
  | e :: es, done, h, hl => by
    simp only [List.length_cons] at hl
    have hg := fget_mem hn (h (keyOf done.length, e) (by simp [logFrom]))
    have ih := gFrom_all fs hn es (done ++ [e]) (fun q hq => h q (by rw [List.length_append] at hq; simp [logFrom]; exact .inr hq)) (by rw [List.length_append]; simp; omega)
    rw [List.length_append] at ih
    simp only [logFrom, List.map_cons, gFrom]
    rw [if_pos ⟨trivial, by omega⟩, hg]
    simpa using ih
theorem logFs_open (es : List (List UInt8)) (h : es.length ≤ 1048576) : gOpenOf (logFs es) = some es := by
  unfold gOpenOf keysOf
  rw [gkeys_all _ _ _ (fun p hp => by
    obtain ⟨i, _, _, h3, _⟩ := logFrom_mem es 0 hp
    rw [h3]
    exact ⟨key_begins i, key_some i⟩) (by simp)]
  have := gFrom_all (logFs es) (logFs_sorted es 0 (by omega)).nodup es [] (fun q hq => hq) (by simpa using h)
  simpa [logFs] using this
end Go.Proofs.YtaeabdghlkdkjaaGreat

namespace Go.Proofs.YtaeabdghlkdkjaaGreat
set_option linter.unusedVariables false
open Go.RowKit Go.MapKept

/-- A log's entries, the one that was cut, and its disk, behind some steps. -/
structure GLI (es : List (List UInt8)) (nx : List UInt8) (cut : Bool) (m : DM) (size k : Nat) : Prop where
  st : TLI 1048576 (logFs es) (logFs (es ++ [nx])) cut m size (700 * k) (3000000 * (k + 1))
  len : es.length + (if cut = true then 1 else 0) ≤ k
  small : (∀ p ∈ es, p.length ≤ 500) ∧ nx.length ≤ 500
theorem w60c_ent (k : Nat) (p : List UInt8) : w60c [entCh k p] = 70 + p.length := by
  have h := keyOf_size k
  simp only [w60c, entCh, List.map_cons, List.map_nil, List.sum_cons, List.sum_nil, h]
  omega
theorem GLI.mono {es : List (List UInt8)} {nx : List UInt8} {cut : Bool} {m : DM} {size k k' : Nat} (h : GLI es nx cut m size k) (hk : k ≤ k') : GLI es nx cut m size k' :=
  ⟨h.st.mono (by omega) (by omega), Nat.le_trans h.len hk, h.small⟩
theorem GLI.app {es : List (List UInt8)} {nx : List UInt8} {cut : Bool} {m : DM} {size k : Nat} (h : GLI es nx cut m size k) (hk : k < 60) {p : List UInt8} (hp : p.length ≤ 500) :
    (cut = true ∧ tAppOf ⟨m, size, logFs es, cut⟩ nmT [entCh es.length p] = (5, ⟨m, size, logFs es, cut⟩)) ∨
    (cut = false ∧ ∃ m' s', tAppOf ⟨m, size, logFs es, cut⟩ nmT [entCh es.length p] = (0, ⟨m', s', logFs (es ++ [p]), false⟩) ∧ GLI (es ++ [p]) nx false m' s' (k + 1)) ∨
    (cut = false ∧ ∃ m' s', tAppOf ⟨m, size, logFs es, cut⟩ nmT [entCh es.length p] = (5, ⟨m', s', logFs es, true⟩) ∧ GLI es p true m' s' (k + 1)) := by
  have hl : es.length ≤ k := by have := h.len; omega
  have hput : tdos (logFs es) [entCh es.length p] = logFs (es ++ [p]) := logFs_add es p (by omega)
  have hs : ∀ q ∈ es ++ [p], q.length ≤ 500 := fun q hq => by
    rcases List.mem_append.1 hq with hq | hq
    · exact h.small.1 q hq
    · rw [List.mem_singleton.1 hq]; exact hp
  have he := (ent_enc es.length hp).1
  have hw := w60c_ent es.length p
  rcases TLI.apply h.st (l := [entCh es.length p]) (δ := 700) (by omega) (by omega) (by omega) with ⟨e, h1⟩ | ⟨e, h1, _⟩ | ⟨e, _, m', s', h1, h2⟩ | ⟨e, _, m', s', h1, h2⟩
  · exact .inl ⟨e, h1⟩
  · exact absurd he h1
  · rw [hput] at h1 h2
    refine .inr (.inl ⟨e, m', s', h1, ⟨(h2.other (nxt' := logFs (es ++ [p] ++ [nx]))).mono (by omega) (by omega), by simp; omega, hs, h.small.2⟩⟩)
  · rw [hput] at h2
    exact .inr (.inr ⟨e, m', s', h1, ⟨h2.mono (by omega) (by omega), by simp; omega, h.small.1, hp⟩⟩)
theorem GLI.start (nx : List UInt8) (hn : nx.length ≤ 500) : GLI [] nx false (oneT 1048576 []) 0 0 :=
  ⟨(TLI.start (R := 1048576) (by omega) (by omega) _).mono (by omega) (by omega), by simp, (by simp), hn⟩
theorem GLI.fuse {es : List (List UInt8)} {nx : List UInt8} {cut : Bool} {m : DM} {size k : Nat} (h : GLI es nx cut m size k) (f : Int) (hf : f ≤ 9223372036854775807) : GLI es nx cut (fuseOf m f).2 size k :=
  ⟨h.st.fuse f hf, h.len, h.small⟩
/-- A disk that was crashed, and holds a log. -/
structure GWok (es : List (List UInt8)) (nx : List UInt8) (cut : Bool) (m : DM) (k : Nat) : Prop where
  st : TWok 1048576 (logFs es) (logFs (es ++ [nx])) cut m (700 * k)
  len : es.length + (if cut = true then 1 else 0) ≤ k
  small : (∀ p ∈ es, p.length ≤ 500) ∧ nx.length ≤ 500
theorem GLI.crash {es : List (List UInt8)} {nx : List UInt8} {cut : Bool} {m : DM} {size k : Nat} (h : GLI es nx cut m size k) (keep part : Int) : GWok es nx cut (crashOf m keep part) k :=
  ⟨h.st.crash keep part, h.len, h.small⟩
theorem GWok.again {es : List (List UInt8)} {nx : List UInt8} {cut : Bool} {m : DM} {k : Nat} (h : GWok es nx cut m k) (hk : k ≤ 60) (f : Int) (hf : f ≤ 9223372036854775807) (keep part : Int) :
    Good (fuseOf m f).2 0 ∧ Good (tOpenOf (fuseOf m f).2 nmT).m (700 * k + 4) ∧ GWok es nx cut (crashOf (tOpenOf (fuseOf m f).2 nmT).m keep part) k := by
  obtain ⟨h1, h2, h3⟩ := h.st.again (by omega) f hf keep part
  exact ⟨h1, h2, h3, h.len, h.small⟩
theorem GWok.opened {es : List (List UInt8)} {nx : List UInt8} {cut : Bool} {m : DM} {k : Nat} (h : GWok es nx cut m k) (hk : k ≤ 60) :
    Good m 0 ∧ ∃ es' m' size, (es' = es ∨ (cut = true ∧ es' = es ++ [nx])) ∧ tOpenOf m nmT = ⟨0, m', some (size, logFs es')⟩ ∧ GLI es' [] false m' size k := by
  obtain ⟨h1, fs, m', size, hfs, ho, hi⟩ := h.st.opened (by omega)
  have hl := h.len
  have fin : ∀ es', fs = logFs es' → (es' = es ∨ (cut = true ∧ es' = es ++ [nx])) → es'.length ≤ k → (∀ p ∈ es', p.length ≤ 500) → Good m 0 ∧ ∃ es' m' size, (es' = es ∨ (cut = true ∧ es' = es ++ [nx])) ∧ tOpenOf m nmT = ⟨0, m', some (size, logFs es')⟩ ∧ GLI es' [] false m' size k := fun es' e hc hl' hs => by
    subst e
    exact ⟨h1, es', m', size, hc, ho, (hi _).mono (Nat.le_refl _) (by omega), by simpa using hl', hs, by simp⟩
  rcases hfs with e | ⟨hc, e⟩
  · exact fin es e (.inl rfl) (by omega) h.small.1
  · rw [if_pos hc] at hl
    refine fin (es ++ [nx]) e (.inr ⟨hc, rfl⟩) (by simp; omega) (fun q hq => ?_)
    rcases List.mem_append.1 hq with hq | hq
    · exact h.small.1 q hq
    · rw [List.mem_singleton.1 hq]; exact h.small.2
/-- What Open of the log wants of the pairs. -/
theorem logFs_facts {es : List (List UInt8)} (hl : es.length ≤ 1048576) (hs : ∀ p ∈ es, p.length ≤ 500) : FSorted (logFs es) ∧ (∀ p ∈ logFs es, p.1.size ≤ maxLen) ∧ (logFs es).length ≤ 1099511627775 ∧ ∀ p ∈ logFs es, p.2.length ≤ 70368744177662 := by
  refine ⟨logFs_sorted es 0 (by omega), fun p hp => ?_, ?_, fun p hp => ?_⟩
  · obtain ⟨i, _, _, h3, _⟩ := logFrom_mem es 0 hp
    rw [h3, keyOf_size]
    unfold maxLen
    omega
  · unfold logFs
    rw [logFrom_length]
    omega
  · obtain ⟨i, _, _, _, h4⟩ := logFrom_mem es 0 hp
    have := hs _ (List.mem_of_getElem? h4)
    omega
/-- Whatever a table is opened as, under whatever fuse. -/
theorem JF.openTab {now nxt : FS} {cut : Bool} {L : Nat} {x : Fn} (h : JF now nxt cut L x) {R : Int} {m : DM} {n : Nat} (hu : Up R (fun y => y = x) x m n) (hR : 3 * (L : Int) ≤ R) {size : Nat} {fs : FS} (ht : (tOpenOf m nmT).tab = some (size, fs)) : fs = now ∨ (cut = true ∧ fs = nxt) := by
  obtain ⟨b, rs, h1, h2, h3, h4⟩ := h.jrn
  unfold tOpenOf at ht
  rcases hu.openJ nmT_name.1 nmT_name.2 tmpT_ne h1 h3 (h.two.holds1 h1 h2) (by omega) (by omega) with ⟨_, r, _⟩ | ⟨_, r, _⟩
  · rw [r] at ht
    dsimp only at ht
    rcases h4 with h4 | ⟨hc, h4⟩
    · rw [h4.tab] at ht
      cases ht
      exact .inl rfl
    · rw [h4.tab] at ht
      cases ht
      exact .inr ⟨hc, rfl⟩
  · rw [r] at ht
    cases ht
theorem GWok.facts {es : List (List UInt8)} {nx : List UInt8} {cut : Bool} {m : DM} {k : Nat} (h : GWok es nx cut m k) (hk : k ≤ 60) {fs : FS} (hfs : fs = logFs es ∨ (cut = true ∧ fs = logFs (es ++ [nx]))) :
    FSorted fs ∧ (∀ p ∈ fs, p.1.size ≤ maxLen) ∧ fs.length ≤ 1099511627775 ∧ ∀ p ∈ fs, p.2.length ≤ 70368744177662 := by
  have hl := h.len
  rcases hfs with rfl | ⟨hc, rfl⟩
  · exact logFs_facts (by omega) h.small.1
  · refine logFs_facts (by simp; omega) (fun q hq => ?_)
    rcases List.mem_append.1 hq with hq | hq
    · exact h.small.1 q hq
    · rw [List.mem_singleton.1 hq]; exact h.small.2
/-- What the opening under a fuse wants (opened15_calls). -/
theorem GWok.tabs {es : List (List UInt8)} {nx : List UInt8} {cut : Bool} {m : DM} {k : Nat} (h : GWok es nx cut m k) (hk : k ≤ 60) (f : Int) (hf : f ≤ 9223372036854775807) (size : Nat) (fs : FS) (ht : (tOpenOf (fuseOf m f).2 nmT).tab = some (size, fs)) :
    FSorted fs ∧ (∀ p ∈ fs, p.1.size ≤ maxLen) ∧ fs.length ≤ 1099511627775 ∧ ∀ p ∈ fs, p.2.length ≤ 70368744177662 := by
  obtain ⟨⟨x, hx, hu⟩, -, -, -⟩ := h.st
  exact h.facts hk (hx.openTab (hu.fuse f hf) (by omega) ht)
end Go.Proofs.YtaeabdghlkdkjaaGreat

namespace Go.Proofs.YtaeabdghlkdkjaaGreat
set_option linter.unusedVariables false
open Go.RowKit Go.MapKept

section
variable {w w0 : World} {d j t b g k size : Nat} {m : DM} {ve vl : Value} {es : List (List UInt8)} {nx : List UInt8} {cut : Bool} {rs : List (Res w.heap.size)}
/-- An Add: done, or cut. -/
theorem GLI.addCalls (hi : GLI es nx cut m size k) (hk : k < 60) (h : Own w w0 (tRes w.heap.size d j t b nmT ⟨m, size, logFs es, cut⟩ ++ (gRes w.heap.size g t ve vl es ++ rs)))
    {pv : Value} {p : List UInt8} (hpl : p.length ≤ 500) (hp : ∀ (wr : World) (ls : List (Res w.heap.size)), Own w wr (ls ++ rs) → Reads wr pv p) :
    Calls Tryz.prog 40 #[.pointer (some ⟨g, 0, none⟩), pv, .slice none 0 0] w0 (fun e w' => ∃ (c : Int) (es' : List (List UInt8)) (nx' : List UInt8) (cut' : Bool) (m' : DM) (size' : Nat) (ve' vl' : Value), e = .returned (.int .i64 c) ∧ ((c = 0 ∧ es' = es ++ [p]) ∨ (c = 5 ∧ es' = es)) ∧ GLI es' nx' cut' m' size' (k + 1) ∧
      Own w w' (tRes w.heap.size d j t b nmT ⟨m', size', logFs es', cut'⟩ ++ (gRes w.heap.size g t ve' vl' es' ++ rs))) := by
  have hl : es.length ≤ k := by have := hi.len; omega
  have hc := gAdd_calls h hi.st.good (by omega) (by have := hi.st.size; dsimp only; omega) (by omega) (pv := pv) (p := p) (by omega) hp
  have ha := hi.app hk hpl
  unfold entCh at ha
  rcases ha with ⟨e, h1⟩ | ⟨e, m', s', h1, h2⟩ | ⟨e, m', s', h1, h2⟩
  · rw [h1] at hc
    refine hc.mono ?_
    rintro e' w' ⟨ve', vl', rfl, ho⟩
    exact ⟨5, es, nx, cut, m, size, ve', vl', rfl, .inr ⟨rfl, rfl⟩, hi.mono (by omega), by simpa using ho⟩
  · rw [h1] at hc
    refine hc.mono ?_
    rintro e' w' ⟨ve', vl', rfl, ho⟩
    exact ⟨0, es ++ [p], nx, false, m', s', ve', vl', rfl, .inl ⟨rfl, rfl⟩, h2, by simpa using ho⟩
  · rw [h1] at hc
    refine hc.mono ?_
    rintro e' w' ⟨ve', vl', rfl, ho⟩
    exact ⟨5, es, p, true, m', s', ve', vl', rfl, .inr ⟨rfl, rfl⟩, h2, by simpa using ho⟩
theorem Own.diskAlone {T : TM} (h : Own w w0 (tRes w.heap.size d j t b nmT T ++ rs)) : Own w w0 (rDisk w.heap.size d T.m :: rs) := (Own.drop2 (Own.drop2 (Own.drop2 h)))
theorem Own.diskOnly {T : TM} (h : Own w w0 (tRes w.heap.size d j t b nmT T ++ (gRes w.heap.size g t ve vl es ++ rs))) : Own w w0 (rDisk w.heap.size d T.m :: rs) := (Own.drop2 (Own.drop2 (Own.drop2 h.diskAlone)))
/-- The log is opened behind a crash. -/
theorem GWok.openCalls (hi : GWok es nx cut m k) (hk : k ≤ 60) (h : Own w w0 (rDisk w.heap.size d m :: rs)) :
    Calls Tryz.prog 43 #[.pointer (some ⟨d, 0, none⟩)] w0 (fun e w' => ∃ (es' : List (List UInt8)) (m' : DM) (size' j t b g : Nat) (ve vl : Value), e = .returned (.tuple #[.pointer (some ⟨g, 0, none⟩), .pointer (some ⟨t, 0, none⟩), .int .i64 0]) ∧ (es' = es ∨ (cut = true ∧ es' = es ++ [nx])) ∧ GLI es' [] false m' size' k ∧
      Own w w' (tRes w.heap.size d j t b nmT ⟨m', size', logFs es', false⟩ ++ (gRes w.heap.size g t ve vl es' ++ rs))) := by
  obtain ⟨hg, es', m', size', hes, ho, hl⟩ := hi.opened hk
  have hc := opened15_calls h hg (by omega) (fun size fs e => by
    rw [ho] at e
    cases e
    exact hi.facts hk (by rcases hes with rfl | ⟨hc, rfl⟩; exact .inl rfl; exact .inr ⟨hc, rfl⟩))
  rw [ho] at hc
  refine hc.mono ?_
  have hop := logFs_open es' (by have := hl.len; omega)
  rintro e w' (⟨hn, _⟩ | ⟨size, fs, j, t, b, hres, hg, _⟩ | ⟨size, fs, j, t, b, g, ve, vl, es2, hres, hg, rfl, h2⟩)
  · cases hn
  · cases hres
    rw [hop] at hg
    cases hg
  · cases hres
    rw [hop] at hg
    cases hg
    exact ⟨es', m', size', j, t, b, g, ve, vl, rfl, hes, hl, h2⟩
/-- It is opened under a fuse. -/
theorem GWok.fuseCalls (hi : GWok es nx cut m k) (hk : k ≤ 60) (f : Int) (hf : f ≤ 9223372036854775807) (h : Own w w0 (rDisk w.heap.size d (fuseOf m f).2 :: rs)) :
    Calls Tryz.prog 43 #[.pointer (some ⟨d, 0, none⟩)] w0 (fun e w' => (∃ a b c, e = .returned (.tuple #[a, b, c])) ∧ Own w w' (rDisk w.heap.size d (tOpenOf (fuseOf m f).2 nmT).m :: rs)) := by
  obtain ⟨hg, -, -⟩ := hi.again hk f hf 0 0
  refine (opened15_calls h hg (by omega) (fun size fs e => hi.tabs hk f hf size fs e)).mono ?_
  rintro e w' (⟨_, rfl, h2⟩ | ⟨size, fs, j, t, b, _, _, rfl, h2⟩ | ⟨size, fs, j, t, b, g, ve, vl, es2, _, _, rfl, h2⟩)
  · exact ⟨⟨_, _, _, rfl⟩, h2⟩
  · exact ⟨⟨_, _, _, rfl⟩, h2.diskAlone⟩
  · exact ⟨⟨_, _, _, rfl⟩, h2.diskOnly⟩
end
end Go.Proofs.YtaeabdghlkdkjaaGreat
