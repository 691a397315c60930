/- The document's table: Open. -/
import Derived.Test.YtaeabdghlkdkjaaGreatR11Dec
import Derived.Test.YtaeabdghlkdkjaaGreatPkQ
import Derived.Test.YtaeabdghlkdkjaaGreatJPairs
namespace Go.Proofs.YtaeabdghlkdkjaaGreat
set_option linter.unusedVariables false
open Go.RowKit Go.MapKept

/-- The document's table's block. -/
def rtabObj (q : Nat) (lv : Value) (dn : Bool) : Obj := .cells #[.pointer (some ⟨q, 0, none⟩), lv, .bool dn] 48 (0, 0)
/-- The things of the document's table. -/
def rtRes (B r q t : Nat) (nm : ByteArray) (m : DM) (recs : List (List UInt8)) (v lv : Value) (fs : FS) (dn : Bool) : List (Res B) :=
  [rRef B r m, rObj B q (rjObj r nm v), rRows B v recs, rObj B t (rtabObj q lv dn), rPairs B lv fs]
/-- The document's table is told, or a code. -/
def RTOpenPost (w : World) (r : Nat) (nm : ByteArray) (rs : List (Res w.heap.size)) (m : DM) (e : Ending) (w' : World) : Prop :=
  ((tOpenOf m nm).tab = none ∧ e = .returned (.tuple #[.pointer none, .int .i64 (tOpenOf m nm).code]) ∧ Own w w' (rRef w.heap.size r (tOpenOf m nm).m :: rs)) ∨
  ∃ (size : Nat) (fs : FS) (recs : List (List UInt8)) (q t : Nat) (v lv : Value), (tOpenOf m nm).tab = some (size, fs) ∧ (openOf m nm).res = some (recs, size) ∧ e = .returned (.tuple #[.pointer (some ⟨t, 0, none⟩), .int .i64 (tOpenOf m nm).code]) ∧
    Own w w' (rtRes w.heap.size r q t nm (tOpenOf m nm).m recs v lv fs false ++ rs)
theorem rtab_cells {wr : World} {q t : Nat} {lv : Value} {dn : Bool} (h : wr.heap[t]? = some (rtabObj q lv dn)) : wr.cell? ⟨t, 0, none⟩ = some (.pointer (some ⟨q, 0, none⟩)) ∧ wr.cell? ⟨t, 1, none⟩ = some lv ∧ wr.cell? ⟨t, 2, none⟩ = some (.bool dn) ∧ ∀ i, wr.frozen? ⟨t, i, none⟩ = false :=
  ⟨cell_at (i := 0) h rfl, cell_at (i := 1) h rfl, cell_at (i := 2) h rfl, fun i => free_at h i⟩
theorem length_tdos_le {l : List TCh} {fs : FS} {k n : Nat} (h : fs.length ≤ n) (hl : l.length ≤ k) : (tdos fs l).length ≤ n + k := by
  have := length_tdos l fs
  omega

set_option maxRecDepth 100000 in
set_option maxHeartbeats 1000000 in
theorem r11open_calls {w w0 : World} {r : Nat} {m : DM} {rs : List (Res w.heap.size)} (h : Own w w0 (rRef w.heap.size r m :: rs)) {n t : Nat} (ht : Tidy m n t) (hn : n + 67108880 < 549755813888) (htt : t + 67108880 < 549755813888) (nm : ByteArray) (hnm : nm.size ≤ 65536) :
    Calls Tryz.prog 18 #[.pointer (some ⟨r, 0, none⟩), .string nm] w0 (RTOpenPost w r nm rs m) := by
  have hop := ropen_calls h ht hn htt nm hnm
  have hres := open_res m nm
  have hrec := fun l u => open_recs (l := l) (u := u) ht.good nm
  have HOP := Lib.hid hop
  have HRES := Lib.hid hres
  have HREC := Lib.hid hrec
  clear h ht hn htt hnm hop hres hrec
  obtain ⟨T, hT⟩ : ∃ T, tOpenOf m nm = T := ⟨_, rfl⟩
  have HT := Lib.hid hT
  obtain ⟨P, hP⟩ : ∃ P, RTOpenPost w r nm rs m = P := ⟨_, rfl⟩
  have HP := Lib.hid hP
  unfold RTOpenPost at HP
  rw [hT] at HP
  rw [hP]
  clear hT hP
  go_enter Tryz.func18, Tryz.ntmps18
  go_wp2_with fail
  refine HOP.out.mono ?_
  rintro e w1 (⟨hr, rfl, h1⟩ | ⟨recs, used, q, v, hr, rfl, h1⟩)
  · have hc : ((openOf m nm).code != 0) = true := by simpa using HRES.out.1 hr
    have HF := Lib.hid (show P (.returned (.tuple #[.pointer none, .int .i64 (openOf m nm).code])) w1 by
      have ht := HT.out
      unfold tOpenOf at ht
      rw [hr] at ht
      simp only at ht
      rw [← HP.out, ← ht]
      exact .inl ⟨rfl, rfl, h1⟩)
    generalize (openOf m nm).code = rc at hc HF ⊢
    clear HOP HRES HREC hr h1 HT HP
    go_wp2_with fail
    exact HF.out
  · obtain ⟨hc, hrl⟩ := HRES.out.2 recs used hr
    obtain ⟨-, hu, hul⟩ := HREC.out recs used hr
    have hmany := frames_many recs
    have HRL := Lib.hid hrl
    have HNR := Lib.hid (show recs.length ≤ 67108864 by omega)
    have HT2 := Lib.hid (show T = match tabOf recs [] with | none => ⟨200, (openOf m nm).m, none⟩ | some fs => ⟨0, (openOf m nm).m, some (used, fs)⟩ by rw [← HT.out]; unfold tOpenOf; rw [hr]; rfl)
    rw [hc]
    obtain ⟨-, va, vc, rfl⟩ := h1.rows (v := v) (ll := recs) (by simp)
    have hh := ((h1.alloc (rtabObj q (.slice none 0 0) false)).nilPairs)
    rw [hr] at HP
    generalize (openOf m nm).m = m1 at hh HT2
    have HH := Lib.hid hh
    have i0 : (0 : Int) ≤ recs.length := by omega
    have i1 : (recs.length : Int) ≤ 67108864 := by omega
    have hqc := h1.at (b := q) (o := rjObj r nm (.slice va recs.length vc)) (by simp)
    obtain ⟨-, -, qc, -⟩ := rj_cells hqc.1
    have qc2 : (w1.alloc (rtabObj q (.slice none 0 0) false)).cell? ⟨q, 2, none⟩ = some (.slice va recs.length vc) := cell_keep qc ((Keeps.refl _ w1).alloc _)
    clear HOP HRES HREC hr h1 hc hrl hu hul hh hmany HT hqc qc
    unfold rtabObj at qc2
    go_wp2_with fail
    go_loopw [9] (fun iv wx => ∃ (k : Nat) (fs : FS) (lv : Value), k ≤ recs.length ∧ iv = .int .i64 (k : Int) ∧ tabOf recs [] = tabOf (recs.drop k) fs ∧ FSorted fs ∧ fs.length ≤ 256 * k ∧ Own w wx (rPairs w.heap.size lv fs :: rObj w.heap.size w1.heap.size (rtabObj q lv false) :: rRef w.heap.size r m1 :: rObj w.heap.size q (rjObj r nm (.slice va recs.length vc)) :: rRows w.heap.size (.slice va recs.length vc) recs :: rs)) (fun iv _ => recs.length - (intOf iv).toNat)
    case atStart => exact ⟨0, [], _, Nat.zero_le _, rfl, rfl, FSorted.nil, Nat.zero_le _, HH.out⟩
    case round =>
      obtain ⟨k, fs, lv, hk, rfl, hinv, hso, hfl, ho⟩ := hrel
      clear HH qc2
      have k0 : (0 : Int) ≤ k := by omega
      obtain ⟨-, -, qc, -⟩ := rj_cells (ho.at (b := q) (o := rjObj r nm (.slice va recs.length vc)) (by simp)).1
      by_cases hlt : k < recs.length
      · obtain ⟨rec, hrec⟩ : ∃ rec, recs[k]? = some rec := ⟨recs[k], List.getElem?_eq_getElem hlt⟩
        obtain ⟨⟨_, _, e, hrows⟩, _⟩ := ho.rows (v := .slice va recs.length vc) (ll := recs) (by simp)
        cases e
        obtain ⟨x, p, rfl, hx, hp⟩ := hrows k rec hrec
        have hpl := HRL.out rec (List.mem_of_getElem? hrec)
        rw [tabOf_step hrec] at hinv
        have HDC := Lib.hid (rdecode_calls hp (by omega))
        obtain ⟨pa, pc, rfl, -, -⟩ := hp.form
        have k1 : (k : Int) < recs.length := by omega
        have hk1 : k + 1 ≤ recs.length := by omega
        have HINV := Lib.hid hinv
        have HO := Lib.hid ho
        have HSO := Lib.hid hso
        have HFL := Lib.hid hfl
        clear hrows hp hpl hinv ho hrec hlt hk HRL hso hfl
        go_wp2_with fail
        refine HDC.out.mono ?_
        rintro e w2 ⟨cv, rfl, hk2, hl2⟩
        cases hd : decOf rec with
        | none =>
          have hinv := HINV.out
          rw [hd] at hinv
          have HF := Lib.hid (show P (.returned (.tuple #[.pointer none, .int .i64 200])) w2 by
            rw [← HP.out, HT2.out, hinv]
            exact .inl ⟨rfl, rfl, ((HO.out.quiet hk2).drop.drop.drop2.drop2)⟩)
          clear hinv hd hk2 hl2 HINV HO HDC
          simp only [Option.isSome_none]
          go_wp2_with fail
          exact HF.out
        | some l =>
          have hinv := HINV.out
          rw [hd] at hinv
          have hat := hl2 l hd
          obtain ⟨la, lc, rfl⟩ := hat.form
          obtain ⟨hs1, hs2⟩ := decOf_small hd
          have ho2 := HO.out.quiet hk2
          obtain ⟨-, tc, -, tf⟩ := rtab_cells (ho2.at (b := w1.heap.size) (o := rtabObj q lv false) (by simp)).1
          have hfl := HFL.out
          have hnr := HNR.out
          have hdo := ho2.rdo (c := lc) HSO.out hat.ins (by omega) (fun x hx => by have := (hs1 x hx).1; omega)
          have HDO := Lib.hid hdo
          have HINV2 := Lib.hid hinv
          have HS2 := Lib.hid (FSorted.tdos l HSO.out)
          have HL2 := Lib.hid (show (tdos fs l).length ≤ 256 * (k + 1) by have := length_tdos l fs; omega)
          obtain ⟨F, hpa⟩ := ho2.pairs (v := lv) (fs := fs) (by simp)
          obtain ⟨lva, lvc, rfl, -, -⟩ := hpa.form
          clear hinv hd hat hk2 hl2 HINV HO HDC hs1 hs2 ho2 hdo HSO HFL hpa hfl hnr tf
          simp only [Option.isSome_some]
          go_wp2_with fail
          refine HDO.out.mono ?_
          rintro e w3 ⟨v3, rfl, h3⟩
          obtain ⟨-, tc3, -, tf3⟩ := rtab_cells (h3.at (b := w1.heap.size) (o := rtabObj q (.slice lva fs.length lvc) false) (by simp)).1
          have tf1 := tf3 1
          obtain ⟨F, hpa⟩ := h3.pairs (v := v3) (fs := tdos fs l) (by simp)
          obtain ⟨l3a, l3c, rfl, -, -⟩ := hpa.form
          have h4 := (h3.swap.store 1 (.slice l3a (tdos fs l).length l3c)).swap
          have HREL := Lib.hid (⟨k + 1, tdos fs l, _, hk1, rfl, HINV2.out, HS2.out, HL2.out, h4⟩ : ∃ (k' : Nat) (fs' : FS) (lv' : Value), k' ≤ recs.length ∧ Value.int .i64 ((k + 1 : Nat) : Int) = .int .i64 (k' : Int) ∧ tabOf recs [] = tabOf (recs.drop k') fs' ∧ FSorted fs' ∧ fs'.length ≤ 256 * k' ∧ Own w (w3.setCell ⟨w1.heap.size, 1, none⟩ (.slice l3a (tdos fs l).length l3c)) (rPairs w.heap.size lv' fs' :: rObj w.heap.size w1.heap.size (rtabObj q lv' false) :: rRef w.heap.size r m1 :: rObj w.heap.size q (rjObj r nm (.slice (some x) recs.length vc)) :: rRows w.heap.size (.slice (some x) recs.length vc) recs :: rs))
          clear h3 h4 hpa tf3 HDO HINV2 HS2 HL2
          go_wp2_with fail
          go_roundw
          case rel => exact HREL.out
          case measure => simp [intOf]; omega
      · obtain rfl : k = recs.length := by omega
        rw [List.drop_length, tabOf] at hinv
        have HF := Lib.hid (show P (.returned (.tuple #[.pointer (some ⟨w1.heap.size, 0, none⟩), .int .i64 0])) wr by
          rw [← HP.out, HT2.out, hinv]
          exact .inr ⟨used, fs, recs, q, _, _, lv, rfl, rfl, rfl, ho.perm (List.perm_append_comm (l₁ := [_, _]) (l₂ := [_, _, _]) |>.append_right rs |>.trans (((List.Perm.swap ..).append_left [_, _, _])))⟩)
        clear hinv ho hlt hk HRL hso hfl
        go_wp2_with fail
        exact HF.out
end Go.Proofs.YtaeabdghlkdkjaaGreat
