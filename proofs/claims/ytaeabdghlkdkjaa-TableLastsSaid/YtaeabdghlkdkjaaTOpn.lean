/- A table's Open. -/
import Derived.Test.YtaeabdghlkdkjaaTDo
import Derived.Test.YtaeabdghlkdkjaaTDec
namespace Go.Proofs.Ytaeabdghlkdkjaa
set_option linter.unusedVariables false
open Go.RowKit Go.MapKept

/-- What records come to. -/
def tabOf : List (List UInt8) → FS → Option FS
  | [], fs => some fs
  | r :: rs, fs => match decOf r with | none => none | some l => tabOf rs (tdos fs l)
theorem tabOf_step {recs : List (List UInt8)} {k : Nat} {r : List UInt8} (h : recs[k]? = some r) (fs : FS) : tabOf (recs.drop k) fs = match decOf r with | none => none | some l => tabOf (recs.drop (k + 1)) (tdos fs l) := by
  obtain ⟨hk, rfl⟩ := List.getElem?_eq_some_iff.1 h
  rw [List.drop_eq_getElem_cons hk, tabOf]
theorem FSorted.tabOf : ∀ {recs : List (List UInt8)} {fs fs' : FS}, FSorted fs → tabOf recs fs = some fs' → FSorted fs'
  | [], fs, fs', h, e => by
    simp only [Go.Proofs.Ytaeabdghlkdkjaa.tabOf, Option.some.injEq] at e
    subst e; exact h
  | r :: rs, fs, fs', h, e => by
    rw [Go.Proofs.Ytaeabdghlkdkjaa.tabOf] at e
    cases hd : decOf r with
    | none => rw [hd] at e; cases e
    | some l => rw [hd] at e; exact FSorted.tabOf (FSorted.tdos l h) e
theorem decCh_small {b b' : List UInt8} {c : TCh} (h : decCh b = some (c, b')) : c.val.length ≤ 262144 ∧ 0 < c.key.size ∧ c.key.size ≤ 320 := by
  cases b with
  | nil => cases h
  | cons z b1 =>
    rw [decCh_cons] at h
    split at h
    · cases h
    · split at h
      · rename_i hkey
        have hsz : (⟨(readTextOf b1 320).1.toArray⟩ : ByteArray).size = (readTextOf b1 320).1.length := by
          show (readTextOf b1 320).1.toArray.size = _
          simp
        have h1 := readText_le b1 320
        have h2 := List.length_pos_iff.2 hkey.2
        split at h
        · cases h
          exact ⟨by simp, by rw [hsz]; omega, by rw [hsz]; omega⟩
        · split at h
          · cases h
            have h3 := readText_le (b1.drop (readTextOf b1 320).2.1) 262144
            exact ⟨h3.2.2, by rw [hsz]; omega, by rw [hsz]; omega⟩
          · cases h
      · cases h
theorem decFrom_small : ∀ (n : Nat) (b : List UInt8) (out l : List TCh), decFrom n b out = some l → (∀ x ∈ out, x.val.length ≤ 262144 ∧ 0 < x.key.size ∧ x.key.size ≤ 320) → (∀ x ∈ l, x.val.length ≤ 262144 ∧ 0 < x.key.size ∧ x.key.size ≤ 320) ∧ l.length = out.length + n
  | 0, b, out, l, h, ho => by
    rw [decFrom] at h
    split at h
    · cases h; exact ⟨ho, rfl⟩
    · cases h
  | n + 1, b, out, l, h, ho => by
    rw [decFrom] at h
    cases hd : decCh b with
    | none => rw [hd] at h; cases h
    | some p =>
      obtain ⟨c, b'⟩ := p
      rw [hd] at h
      obtain ⟨h1, h2⟩ := decFrom_small n b' (out ++ [c]) l h (fun x hx => by
        rcases List.mem_append.1 hx with hx | hx
        · exact ho x hx
        · rw [List.mem_singleton] at hx
          subst hx
          exact decCh_small hd)
      exact ⟨h1, by rw [h2]; simp; omega⟩
theorem decOf_small {b : List UInt8} {l : List TCh} (h : decOf b = some l) : (∀ x ∈ l, x.val.length ≤ 262144 ∧ 0 < x.key.size ∧ x.key.size ≤ 320) ∧ l.length ≤ 256 := by
  unfold decOf at h
  split at h
  · rename_i hn
    obtain ⟨h1, h2⟩ := decFrom_small _ _ _ _ h (fun x hx => by simp at hx)
    exact ⟨h1, by rw [h2]; simp; exact hn.2⟩
  · cases h

/-- What an Open of a journal tells: a code just where there is none; no record is too long. -/
theorem open_res (m : DM) (nm : ByteArray) : ((openOf m nm).res = none → (openOf m nm).code ≠ 0) ∧ ∀ recs used, (openOf m nm).res = some (recs, used) → (openOf m nm).code = 0 ∧ ∀ p ∈ recs, p.length ≤ 1048576 := by
  unfold openOf
  split
  · split
    · split
      · rename_i h0
        exact ⟨(fun e => by cases e), fun recs used e => by cases e; exact ⟨rfl, fun p hp => by simp at hp⟩⟩
      · rename_i h0
        exact ⟨fun _ => h0, fun recs used e => by cases e⟩
    · split
      · split
        · unfold openLay
          split
          · exact ⟨(fun e => by cases e), fun recs used e => ⟨rfl, fun p hp => by
              have e' : scanOf ((fget m.now nm).getD []) = (recs, used) := Option.some.inj e
              have : recs = (scanOf ((fget m.now nm).getD [])).1 := by rw [e']
              rw [this] at hp
              exact scanFrom_small _ _ p hp⟩⟩
          · rename_i h0
            exact ⟨fun _ => h0, fun recs used e => by cases e⟩
        · exact ⟨(fun e => by cases e), fun recs used e => ⟨rfl, fun p hp => by
            have e' : scanOf ((fget m.now nm).getD []) = (recs, used) := Option.some.inj e
            have : recs = (scanOf ((fget m.now nm).getD [])).1 := by rw [e']
            rw [this] at hp
            exact scanFrom_small _ _ p hp⟩⟩
      · rename_i h0
        exact ⟨fun _ => h0, fun recs used e => by cases e⟩
  · exact ⟨fun _ => by simp, fun recs used e => by cases e⟩

structure TabR where
  code : Int
  m : DM
  tab : Option (Nat × FS)
def tOpenOf (m : DM) (nm : ByteArray) : TabR :=
  match (openOf m nm).res with
  | none => ⟨(openOf m nm).code, (openOf m nm).m, none⟩
  | some s => match tabOf s.1 [] with | none => ⟨200, (openOf m nm).m, none⟩ | some fs => ⟨0, (openOf m nm).m, some (s.2, fs)⟩
/-- A table is told, or a code. -/
def TOpenPost (w : World) (d : Nat) (nm : ByteArray) (rs : List (Res w.heap.size)) (r : TabR) (e : Ending) (w' : World) : Prop :=
  (r.tab = none ∧ e = .returned (.tuple #[.pointer none, .int .i64 r.code]) ∧ Own w w' (rDisk w.heap.size d r.m :: rs)) ∨
  ∃ (size : Nat) (fs : FS) (j t b : Nat), r.tab = some (size, fs) ∧ e = .returned (.tuple #[.pointer (some ⟨t, 0, none⟩), .int .i64 r.code]) ∧ Own w w' (rDisk w.heap.size d r.m :: rObj w.heap.size j (jrnObj d nm size) :: rObj w.heap.size t (tabObj j b false) :: rMap w.heap.size b fs :: rs)
theorem Own.pull {w wr : World} {r : Res w.heap.size} {l₁ l₂ : List (Res w.heap.size)} (h : Own w wr (l₁ ++ r :: l₂)) : Own w wr (r :: (l₁ ++ l₂)) := h.perm List.perm_middle
/-- From the order in the making to the order of a table. -/
theorem Own.tabOrder {w wr : World} {m t d j r : Res w.heap.size} {rs : List (Res w.heap.size)} (h : Own w wr (m :: t :: d :: j :: r :: rs)) : Own w wr (d :: j :: t :: m :: rs) := by
  have h1 := (Own.pull (l₁ := [m, t, d, j]) h).drop
  have h2 := Own.pull (l₁ := [m]) h1
  have h3 := Own.pull (l₁ := [t, m, d]) h2
  exact Own.pull (l₁ := [j, t, m]) h3
theorem Own.newMap {w wr : World} {rs : List (Res w.heap.size)} (h : Own w wr rs) : Own w (wr.alloc (.map #[] 0)) (rMap w.heap.size wr.heap.size [] :: rs) :=
  h.add ((Keeps.refl _ wr).alloc _) (r := rMap w.heap.size wr.heap.size []) (G := fun b => b = wr.heap.size) ⟨rfl, #[], 0, [], heap_alloc_new wr _, stamped_empty 0, trivial, List.Perm.refl _⟩ (fun b hb => by rw [World.size_alloc]; omega)

set_option maxRecDepth 100000 in
set_option maxHeartbeats 1000000 in
theorem topen_calls {w w0 : World} {d : Nat} {m : DM} {rs : List (Res w.heap.size)} (h : Own w w0 (rDisk w.heap.size d m :: rs)) {n : Nat} (hg : Good m n) (hn : n < 549755813888) (nm : ByteArray) :
    Calls Try.prog 9 #[.pointer (some ⟨d, 0, none⟩), .string nm] w0 (TOpenPost w d nm rs (tOpenOf m nm)) := by
  have hop := open_calls h hg hn nm
  have hres := open_res m nm
  have HOP := Lib.hid hop
  have HRES := Lib.hid hres
  have hmm := @run_makeMap Try.prog
  clear h hg hn hop hres
  obtain ⟨T, hT⟩ : ∃ T, tOpenOf m nm = T := ⟨_, rfl⟩
  have HT := Lib.hid hT
  rw [hT]
  clear hT
  go_enter Try.func9, Try.ntmps9
  go_wp2_with fail
  refine HOP.out.mono ?_
  rintro e w1 (⟨hr, rfl, h1⟩ | ⟨recs, used, j, v, hr, rfl, h1⟩)
  · have hc : ((openOf m nm).code != 0) = true := by simpa using HRES.out.1 hr
    have HF := Lib.hid (show TOpenPost w d nm rs T (.returned (.tuple #[.pointer none, .int .i64 (openOf m nm).code])) w1 by
      rw [← HT.out]; unfold tOpenOf; rw [hr]; exact .inl ⟨rfl, rfl, h1⟩)
    generalize (openOf m nm).code = rc at hc HF ⊢
    clear HOP HRES hr h1 hmm HT
    go_wp2_with fail
    go_ret2
    exact HF.out
  · obtain ⟨hc, hrl⟩ := HRES.out.2 recs used hr
    have HT2 := Lib.hid (show T = match tabOf recs [] with | none => ⟨200, (openOf m nm).m, none⟩ | some fs => ⟨0, (openOf m nm).m, some (used, fs)⟩ by rw [← HT.out]; unfold tOpenOf; rw [hr])
    rw [hc]
    have hh := ((h1.newMap).alloc (tabObj j w1.heap.size false)).swap
    rw [World.size_alloc] at hh
    obtain ⟨-, va, vc, rfl⟩ := h1.rows (v := v) (ll := recs) (by simp)
    have hrn : (recs.length : Int) ≤ 9223372036854775807 := by
      obtain ⟨F, ⟨ps, G, hrow, _⟩, _⟩ := h1.mem (r := rRows w.heap.size (.slice va recs.length vc) recs) (by simp)
      rcases hrow.2 with ⟨e1, e2⟩ | ⟨g, cap, cur, _, _, _, h3, h4, _⟩
      · rw [e2]; simp
      · unfold maxLen at h4; omega
    have HL := Lib.hid hrl
    have HH := Lib.hid hh
    have i0 : (0 : Int) ≤ recs.length := by omega
    generalize (openOf m nm).m = m1 at HH HT2
    clear HOP HRES hr h1 hc hrl hh HT
    go_wp2_with fail
    go_loopw [30] (fun iv wx => ∃ (k : Nat) (fs : FS), k ≤ recs.length ∧ iv = .int .i64 (k : Int) ∧ tabOf recs [] = tabOf (recs.drop k) fs ∧ Own w wx (rMap w.heap.size w1.heap.size fs :: rObj w.heap.size (w1.heap.size + 1) (tabObj j w1.heap.size false) :: rDisk w.heap.size d m1 :: rObj w.heap.size j (jrnObj d nm used) :: rRows w.heap.size (.slice va recs.length vc) recs :: rs)) (fun iv _ => recs.length - (intOf iv).toNat)
    case atStart => exact ⟨0, [], Nat.zero_le _, rfl, rfl, HH.out⟩
    case round =>
      obtain ⟨k, fs, hk, rfl, hinv, ho⟩ := hrel
      clear HH
      have k0 : (0 : Int) ≤ k := by omega
      by_cases hlt : k < recs.length
      · obtain ⟨rec, hrec⟩ : ∃ rec, recs[k]? = some rec := ⟨recs[k], List.getElem?_eq_getElem hlt⟩
        obtain ⟨⟨_, _, e, hrows⟩, _⟩ := ho.rows (v := .slice va recs.length vc) (ll := recs) (by simp)
        cases e
        obtain ⟨x, p, rfl, hx, hp⟩ := hrows k rec hrec
        have hpl := HL.out rec (List.mem_of_getElem? hrec)
        rw [tabOf_step hrec] at hinv
        have HDC := Lib.hid (tdecode_calls hp (by omega))
        obtain ⟨pa, pc, rfl, _, _⟩ := hp.form
        have k1 : (k : Int) < recs.length := by omega
        have hk1 : k + 1 ≤ recs.length := by omega
        have HINV := Lib.hid hinv
        have HO := Lib.hid ho
        clear hrows hp hpl hinv ho hrec hlt hk HL
        go_wp2_with fail
        refine HDC.out.mono ?_
        rintro e w2 ⟨lv, rfl, hk2, hl2⟩
        cases hd : decOf rec with
        | none =>
          have hinv := HINV.out
          rw [hd] at hinv
          have hfin : TOpenPost w d nm rs T (.returned (.tuple #[.pointer none, .int .i64 200])) w2 := by
            rw [HT2.out, hinv]
            exact .inl ⟨rfl, rfl, ((HO.out.quiet hk2).drop.drop.drop3.swap.drop)⟩
          have HF := Lib.hid hfin
          clear hfin hinv hd hk2 hl2 HINV HO HDC
          simp only [Option.isSome_none]
          go_wp2_with fail
          go_ret2
          exact HF.out
        | some l =>
          have hinv := HINV.out
          rw [hd] at hinv
          have hat := hl2 l hd
          obtain ⟨la, lc, rfl⟩ := hat.form
          obtain ⟨hs1, hs2⟩ := decOf_small hd
          have ho2 := (HO.out.addTChs hat hk2).tuck2
          have hdo := tdo_calls ho2 (a := la) (c := lc) (l := l) (by simp) (by omega) (fun x hx => by have := (hs1 x hx).1; omega)
          have HDO := Lib.hid hdo
          have HINV2 := Lib.hid hinv
          clear hinv hd hat hk2 hl2 HINV HO HDC hs1 hs2 ho2 hdo
          simp only [Option.isSome_some]
          go_wp2_with fail
          refine HDO.out.mono ?_
          rintro e w3 ⟨rfl, h3⟩
          have HREL := Lib.hid (⟨k + 1, tdos fs l, hk1, rfl, HINV2.out, h3.drop3⟩ : ∃ (k' : Nat) (fs' : FS), k' ≤ recs.length ∧ Value.int .i64 ((k + 1 : Nat) : Int) = .int .i64 (k' : Int) ∧ tabOf recs [] = tabOf (recs.drop k') fs' ∧ Own w w3 (rMap w.heap.size w1.heap.size fs' :: rObj w.heap.size (w1.heap.size + 1) (tabObj j w1.heap.size false) :: rDisk w.heap.size d m1 :: rObj w.heap.size j (jrnObj d nm used) :: rRows w.heap.size (.slice (some x) recs.length vc) recs :: rs))
          clear h3 HDO HINV2
          go_wp2_with fail
          go_roundw
          case rel => exact HREL.out
          case measure => simp [intOf]; omega
      · obtain rfl : k = recs.length := by omega
        rw [List.drop_length, tabOf] at hinv
        have hfin : TOpenPost w d nm rs T (.returned (.tuple #[.pointer (some ⟨w1.heap.size + 1, 0, none⟩), .int .i64 0])) wr := by
          rw [HT2.out, hinv]
          exact .inr ⟨used, fs, j, _, _, rfl, rfl, ho.tabOrder⟩
        have HF := Lib.hid hfin
        clear hfin hinv ho hlt hk HL
        go_wp2_with fail
        go_ret2
        exact HF.out
end Go.Proofs.Ytaeabdghlkdkjaa
