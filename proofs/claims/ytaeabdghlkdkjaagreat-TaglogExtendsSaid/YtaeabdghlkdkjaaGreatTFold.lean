/- A table's Fold. -/
import Derived.Test.YtaeabdghlkdkjaaGreatTApp
import Derived.Test.YtaeabdghlkdkjaaGreatPkQ
namespace Go.Proofs.YtaeabdghlkdkjaaGreat
set_option linter.unusedVariables false
open Go.RowKit Go.MapKept

/-- The record of one pair. -/
def foldRec (p : ByteArray × List UInt8) : List UInt8 := (encOf [⟨p.1, false, p.2⟩]).2
def foldRecs (fs : FS) : List (List UInt8) := fs.map foldRec
theorem foldRec_ok {p : ByteArray × List UInt8} (h : 0 < p.1.size ∧ p.1.size ≤ 320 ∧ p.2.length ≤ 262144) : (encOf [⟨p.1, false, p.2⟩]).1 = 0 := by
  have hb : badCh ⟨p.1, false, p.2⟩ = false := by
    unfold badCh
    rw [decide_eq_false (by dsimp only; omega), decide_eq_false (by dsimp only; omega), decide_eq_false (by dsimp only; omega)]
    rfl
  have hk := key_len p.1
  have h1 := countOf_len10 (n := p.1.toList.length) (by omega)
  have h2 := countOf_len10 (n := p.2.length) (by omega)
  have h3 := countOf_len10 (n := [(⟨p.1, false, p.2⟩ : TCh)].length) (by simp)
  have hl : (encCh ⟨p.1, false, p.2⟩).length ≤ 300000 := by
    show (1 :: textOf p.1.toList ++ textOf p.2).length ≤ _
    unfold textOf
    simp only [List.length_append, List.length_cons]
    omega
  unfold encOf
  rw [if_neg (by simp), encFrom, hb, if_neg (by simp), if_neg (by rw [List.length_append]; omega)]
  rfl
theorem foldRec_len {p : ByteArray × List UInt8} (h : 0 < p.1.size ∧ p.1.size ≤ 320 ∧ p.2.length ≤ 262144) : (foldRec p).length ≤ 1048568 := (enc_ok (foldRec_ok h)).2.2.2
def tFoldOf (T : TM) (nm : ByteArray) : Int × TM :=
  if T.down = true then (5, T) else ((jRewriteOf T.m nm T.size (foldRecs T.fs)).1, ⟨(jRewriteOf T.m nm T.size (foldRecs T.fs)).2.1, (jRewriteOf T.m nm T.size (foldRecs T.fs)).2.2, T.fs, (jRewriteOf T.m nm T.size (foldRecs T.fs)).1 == 5⟩)
theorem foldRecs_snoc {fs : FS} {k : Nat} {f : ByteArray × List UInt8} (hf : fs[k]? = some f) : foldRecs (fs.take (k + 1)) = foldRecs (fs.take k) ++ [foldRec f] := by
  unfold foldRecs
  rw [take_snoc hf, List.map_append]
  rfl
set_option maxRecDepth 100000 in
set_option maxHeartbeats 1000000 in
theorem tfold_calls {w w0 : World} {d j t b : Nat} {nm : ByteArray} {T : TM} {rs : List (Res w.heap.size)} (h : Own w w0 (tRes w.heap.size d j t b nm T ++ rs)) {n : Nat} (hg : Good T.m n) (hn : n + 7 * ((framesOf (foldRecs T.fs)).length + 1) + 1 < 1099511627776) (hnm : nm.size ≤ 65536) (hok : TabOk T.fs) (hl : T.fs.length ≤ 1099511627774) :
    Calls Tryz.prog 24 #[.pointer (some ⟨t, 0, none⟩)] w0 (TPost w d j t b nm rs (tFoldOf T nm)) := by
  obtain ⟨m, size, fs, down⟩ := T
  dsimp only at hg hn hok hl
  have h0 : Own w w0 (rDisk w.heap.size d m :: rObj w.heap.size j (jrnObj d nm size) :: rObj w.heap.size t (tabObj j b down) :: rMap w.heap.size b fs :: rs) := h
  have htab := (h0.at (b := t) (o := tabObj j b down) (by simp)).1
  have hup := tup_runs htab
  obtain ⟨R, hR⟩ : ∃ R, tFoldOf ⟨m, size, fs, down⟩ nm = R := ⟨_, rfl⟩
  have HR := Lib.hid hR
  rw [hR]
  unfold tFoldOf at HR
  dsimp only at HR
  have H0 := Lib.hid h0
  have HUP := Lib.hid hup
  have HG := Lib.hid hg
  have HN := Lib.hid hn
  have HNM := Lib.hid hnm
  have HOK := Lib.hid hok
  have HLL := Lib.hid hl
  have HT := Lib.hid htab
  have i1 : (fs.length : Int) ≤ 1099511627774 := by omega
  clear h h0 hup hR hg hn hnm hok hl htab
  cases down with
  | true =>
    rw [if_pos rfl] at HR
    have HF := Lib.hid (show TPost w d j t b nm rs R (.returned (.int .i64 5)) w0 by rw [← HR.out]; exact ⟨rfl, H0.out⟩)
    clear HR
    go_enter Tryz.func24, Tryz.ntmps24
    go_wp2_with (first | (go_at_call 81; refine HUP.out.out.mono ?_; rintro e w' ⟨rfl, rfl⟩))
    go_ret
    exact HF.out
  | false =>
    rw [if_neg (by simp)] at HR
    obtain ⟨F, ⟨_, hmap⟩, _⟩ := H0.out.mem (r := rMap w.heap.size b fs) (by simp)
    have hsc := msorted_calls hmap HOK.out.sorted HOK.out.names (by have := HLL.out; omega)
    have HMAP := Lib.hid hmap
    have HSC := Lib.hid hsc
    obtain ⟨c0, c1, -, -⟩ := tab_cells HT.out
    clear hmap hsc
    go_enter Tryz.func24, Tryz.ntmps24
    go_wp2_with (first | (go_at_call 81; refine HUP.out.out.mono ?_; rintro e w' ⟨rfl, rfl⟩))
    refine (mkeys_runs (some b) w0).out.mono ?_
    rintro e w' ⟨rfl, rfl⟩
    go_wp2_with fail
    refine HSC.out.mono ?_
    rintro e w1 ⟨v1, rfl, ho1, hk1⟩
    obtain ⟨a1, k1, rfl⟩ := ownsRow_slice ho1
    have HO1 := Lib.hid ho1
    have HK1 := Lib.hid hk1
    clear ho1 hk1 HSC c0 c1
    go_wp2_with fail
    go_loopw [4, 22] (fun ov iv wx => ∃ k : Nat, k ≤ fs.length ∧ iv = .int .i64 (k : Int) ∧ OwnsRecs wx w1.heap.size ov (foldRecs (fs.take k)) ∧ Keeps (fun _ => False) w1 wx) (fun _ iv _ => fs.length - (intOf iv).toNat)
    case atStart => exact ⟨0, Nat.zero_le _, rfl, by rw [List.take_zero]; exact OwnsRecs.nil _ _, Keeps.refl _ _⟩
    case round =>
      obtain ⟨k, hk, rfl, ho, hq⟩ := hrel
      have k0 : (0 : Int) ≤ k := by omega
      obtain ⟨w2, hw2⟩ : ∃ w2, w2 = wr := ⟨_, rfl⟩
      subst hw2
      have hk2 : Keeps (fun _ => False) w0 w2 := HK1.out.trans hq (fun _ _ e => e)
      obtain ⟨d0, d1, -, -⟩ := tab_cells (hk2.at HT.out (fun e => e))
      obtain ⟨oa, on, oc, rfl⟩ : ∃ a n c, u4 = .slice a n c := by obtain ⟨a, c, e⟩ := ho.form; exact ⟨a, _, c, e⟩
      by_cases hlt : k < fs.length
      · obtain ⟨f, hf⟩ : ∃ f, fs[k]? = some f := ⟨fs[k], List.getElem?_eq_getElem hlt⟩
        have hst : StrsAt w0.heap.size w1 (.slice a1 fs.length k1) (fs.map (·.1)) := by
          have := HO1.out
          unfold StrsAt
          rw [List.map_map, List.length_map]
          exact this
        obtain ⟨g, rfl, hc, hle, _⟩ := (hst.keep hq).cell (i := k) (s := f.1) (by rw [List.getElem?_map, hf]; rfl)
        have hmem := List.mem_of_getElem? hf
        have hfg := fget_mem HOK.out.sorted.nodup (show (f.1, f.2) ∈ fs from hmem)
        obtain ⟨v, hv, _, hlook⟩ := (HMAP.out.later hk2).look (P := Tryz.prog) (T := 112) Tryz.underlying112 Tryz.underlying9 (zero_bytesT w2) f.1
        rw [hfg] at hv
        simp only [Option.getD_some] at hv
        obtain ⟨va, vc, rfl, -, -⟩ := hv.form
        have hl2 := hlook false
        have hB := heap_alloc_new w2 (.cells #[.string f.1, .bool false, .slice va f.2.length vc] 60)
        have hins : TChsIn (w2.alloc (.cells #[.string f.1, .bool false, .slice va f.2.length vc] 60)) (some ⟨w2.heap.size, 0, none⟩) [⟨f.1, false, f.2⟩] := fun i c hc => by
          match i, hc with
          | 0, hc => cases hc; exact ⟨_, _, rfl, cell_at hB rfl, cell_at hB rfl, cell_at hB rfl, hv.reads.keep ((Keeps.refl _ w2).alloc _)⟩
          | i + 1, hc => simp at hc
        have hen := tencode_calls hins (c := 1) (by simp) (by unfold maxLen; omega)
        have hcode := foldRec_ok (HOK.out.each f hmem)
        obtain ⟨ec, er, her⟩ : ∃ ec er, encOf [⟨f.1, false, f.2⟩] = (ec, er) := ⟨_, _, rfl⟩
        have hrec : foldRec f = er := by unfold foldRec; rw [her]
        rw [her] at hen hcode
        dsimp only at hcode
        subst hcode
        have HEN := Lib.hid hen
        have j1 : (k : Int) < fs.length := by omega
        have hk1' : k + 1 ≤ fs.length := by omega
        have HPU := Lib.hid (fun (w3 : World) (p : Value) (hk3 : Keeps (fun _ => False) w2 w3) (hp : Owns w3 w2.heap.size p er) => ho.push hq.size hk3 hp (by unfold foldRecs; rw [List.length_map, List.length_take]; have := HLL.out; omega))
        rw [← hrec, ← foldRecs_snoc hf, hrec] at HPU
        have HQ := Lib.hid hq
        have HBASE := Lib.hid (fun (bb : Nat) (e : (Value.slice oa on oc).ownBlock = some bb) => (show w1.heap.size ≤ bb by obtain ⟨ps, r1, _⟩ := ho; exact (row_lt r1 bb e).2))
        clear hst hmem hfg hv hlook hB hins hen her hrec ho hq hk2 hf hlt hk hle
        go_wp2_with fail
        refine HEN.out.mono ?_
        rintro e w3 ⟨rv, rfl, hrv, hk3⟩
        obtain ⟨ra, rn, rc, rfl⟩ := slice_form2 hrv
        have hk23 : Keeps (fun _ => False) w2 w3 := ((Keeps.refl _ w2).alloc _).trans hk3 (fun _ _ e => e)
        obtain ⟨pv, w4, hrun, hor, hk4⟩ := HPU.out w3 (.slice ra rn rc) hk23 (hrv.base (by rw [World.size_alloc]; omega))
        obtain ⟨pa, pc, e⟩ := hor.form
        obtain ⟨pn, rfl⟩ : ∃ pn, pv = .slice pa pn pc := ⟨_, e⟩
        have HREL := Lib.hid (⟨k + 1, hk1', rfl, hor, (HQ.out.trans hk23 (fun _ _ e => e)).trans hk4 (fun bb hb e => by have := HBASE.out bb e; omega)⟩ : ∃ k' : Nat, k' ≤ fs.length ∧ Value.int .i64 ((k + 1 : Nat) : Int) = .int .i64 (k' : Int) ∧ OwnsRecs w4 w1.heap.size (.slice pa pn pc) (foldRecs (fs.take k')) ∧ Keeps (fun _ => False) w1 w4)
        have HRUN := Lib.hid hrun
        clear e hor hrun hk4 hk23 hk3 hrv HPU HEN HBASE HQ
        go_wp2_with (at_builtin; (first | (refine wpList_append_run (w := w3.alloc (.cells #[.slice ra rn rc] 36)) rfl _ _ _ _ rfl rfl rfl HRUN.out ?_)))
        go_roundw
        case rel => exact HREL.out
        case measure => simp [intOf]; omega
      · obtain rfl : k = fs.length := by omega
        rw [List.take_length] at ho
        have h2 := H0.out.quiet hk2
        have hnl : ¬ tooLong (foldRecs fs) := by
          rintro ⟨p, hp, hlong⟩
          unfold foldRecs at hp
          obtain ⟨q, hq', rfl⟩ := List.mem_map.1 hp
          have := foldRec_len (HOK.out.each q hq')
          omega
        have hrw := jrewrite_calls h2 HG.out HNM.out ho.rows HN.out (r := jRewriteOf m nm size (foldRecs fs)) (fun hh => absurd hh hnl) (fun _ => rfl)
        generalize jRewriteOf m nm size (foldRecs fs) = A at HR hrw
        obtain ⟨ac, am, az⟩ := A
        dsimp only at HR
        have HRW := Lib.hid hrw
        clear hrw h2 hnl ho hq hk2 hlt hk HO1 HK1
        go_wp2_with fail
        refine HRW.out.mono ?_
        rintro e w3 ⟨rfl, h3⟩
        dsimp only at h3
        obtain ⟨t30, _, t32, t33⟩ := tab_cells (h3.at (b := t) (o := tabObj j b false) (by simp)).1
        have t3f := t33 2
        have HF := Lib.hid (show TPost w d j t b nm rs R (.returned (.int .i64 ac)) (w3.setCell ⟨t, 2, none⟩ (.bool (ac == 5))) by rw [← HR.out]; exact ⟨rfl, h3.tabDown _⟩)
        clear h3 t33 HRW HR d0 d1
        dsimp only
        go_wp2_with fail
        go_ret
        exact HF.out
end Go.Proofs.YtaeabdghlkdkjaaGreat
