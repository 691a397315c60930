/- merkle.Path, Proof, climb, Check. -/
import Derived.Test.YtaeabdghlkdkjaaGreatMrkP
import Derived.Deep.DeepCutAuto
import Derived.Deep.CutBlock
namespace Go.Proofs.YtaeabdghlkdkjaaGreat
set_option linter.unusedVariables false
open Go.RowKit Go.MapKept

/-- Path and Proof: a row of digests, or a code. -/
def DigsPost2 (w : World) (L : List Dg) (c : Int) (e : Ending) (w' : World) : Prop := ∃ v, e = .returned (.tuple #[v, .int .i64 c]) ∧ Digs w.heap.size w' v L ∧ Keeps (fun _ => False) w w'
set_option maxRecDepth 100000 in
theorem mpath_calls {L : List Dg} (hL : L.length ≤ 256) (w : World) (v : Value) (i : Int) (h : DgIn w v L) : Calls Tryz.prog 108 #[v, .int .i64 i] w (DigsPost2 w (if 0 ≤ i ∧ i < L.length then pathOf L i.toNat else []) (if 0 ≤ i ∧ i < L.length then 0 else 1)) := by
  obtain ⟨a, c, rfl, -, -⟩ := id h.form
  by_cases hi : 0 ≤ i ∧ i < L.length
  · rw [if_pos hi, if_pos hi]
    obtain ⟨k, rfl⟩ : ∃ k : Nat, i = k := ⟨i.toNat, by omega⟩
    have hp := path_calls1 256 L hL hL w _ k h (by omega)
    rw [Int.toNat_natCast]
    have HP := Lib.hid hp
    have i0 : (0 : Int) ≤ k := by omega
    have i1 : (k : Int) < L.length := by omega
    generalize pathOf L k = pt at *
    clear h hp hi
    go_enter Tryz.func108, Tryz.ntmps108
    go_wp2_with fail
    refine HP.out.mono ?_
    rintro e w1 ⟨v1, rfl, hd, hk⟩
    have HF := Lib.hid (⟨_, rfl, hd, hk⟩ : DigsPost2 w pt 0 (.returned (.tuple #[v1, .int .i64 0])) w1)
    clear hd hk HP
    go_wp2_with fail
    go_ret2
    exact HF.out
  · rw [if_neg hi, if_neg hi]
    by_cases h0 : i < 0
    · clear h hi
      go_enter Tryz.func108, Tryz.ntmps108
      go_wp2_with fail
      go_ret2
      exact ⟨_, rfl, Digs.nil _ _, Keeps.refl _ _⟩
    · have h1 : (L.length : Int) ≤ i := by omega
      clear h hi
      go_enter Tryz.func108, Tryz.ntmps108
      go_wp2_with fail
      go_ret2
      exact ⟨_, rfl, Digs.nil _ _, Keeps.refl _ _⟩
set_option maxRecDepth 100000 in
theorem mproof_calls {L : List Dg} (hL : L.length ≤ 256) (w : World) (v : Value) (m : Int) (h : DgIn w v L) : Calls Tryz.prog 109 #[v, .int .i64 m] w (DigsPost2 w (if 0 < m ∧ m ≤ L.length then proofOf L m.toNat true else []) (if 0 ≤ m ∧ m ≤ L.length then 0 else 1)) := by
  obtain ⟨a, c, rfl, -, -⟩ := id h.form
  by_cases h0 : m < 0
  · rw [if_neg (by omega), if_neg (by omega)]
    clear h
    go_enter Tryz.func109, Tryz.ntmps109
    go_wp2_with fail
    go_ret2
    exact ⟨_, rfl, Digs.nil _ _, Keeps.refl _ _⟩
  · by_cases h1 : (L.length : Int) < m
    · rw [if_neg (by omega), if_neg (by omega)]
      clear h
      go_enter Tryz.func109, Tryz.ntmps109
      go_wp2_with fail
      go_ret2
      exact ⟨_, rfl, Digs.nil _ _, Keeps.refl _ _⟩
    · by_cases h2 : m = 0
      · subst h2
        rw [if_neg (by omega), if_pos (by omega)]
        have j1 : (0 : Int) ≤ L.length := by omega
        clear h h1 h0
        go_enter Tryz.func109, Tryz.ntmps109
        go_wp2_with fail
        go_ret2
        exact ⟨_, rfl, Digs.nil _ _, Keeps.refl _ _⟩
      · obtain ⟨k, rfl⟩ : ∃ k : Nat, m = k := ⟨m.toNat, by omega⟩
        rw [if_pos (by omega), if_pos (by omega), Int.toNat_natCast]
        have hp := proof_calls1 256 L hL hL w _ k true h (by omega) (by omega)
        have HP := Lib.hid hp
        have e0 : ((k : Int) == 0) = false := by rw [beq_eq_false_iff_ne]; exact h2
        generalize proofOf L k true = pt at *
        clear h hp h2
        go_enter Tryz.func109, Tryz.ntmps109
        go_wp2_with fail
        refine HP.out.mono ?_
        rintro e w1 ⟨v1, rfl, hd, hk⟩
        have HF := Lib.hid (⟨_, rfl, hd, hk⟩ : DigsPost2 w pt 0 (.returned (.tuple #[v1, .int .i64 0])) w1)
        clear hd hk HP
        go_wp2_with fail
        go_ret2
        exact HF.out
end Go.Proofs.YtaeabdghlkdkjaaGreat

namespace Go.Proofs.YtaeabdghlkdkjaaGreat
set_option linter.unusedVariables false
open Go.RowKit Go.MapKept

/-- What a climb tells. -/
def ClimbIs (I last : Nat) (leaf : Dg) (way : List Dg) (D : Dg) (ok : Bool) : Prop :=
  (∃ t rest, last < 2 ^ t ∧ clm t I last leaf way = some (D, rest) ∧ ok = decide (rest = [])) ∨ (∃ t, clm t I last leaf way = none ∧ ok = false)
def ClimbPost (w : World) (I last : Nat) (leaf : Dg) (way : List Dg) (e : Ending) (w' : World) : Prop :=
  ∃ D ok, D.length = 32 ∧ e = .returned (.tuple #[.agg (D.map u8v).toArray, .bool ok]) ∧ ClimbIs I last leaf way D ok ∧ Keeps (fun _ => False) w w'
theorem clm_len : ∀ (t i last : Nat) (d : Dg) (way : List Dg), d.length = 32 → ∀ d' way', clm t i last d way = some (d', way') → d'.length = 32
  | 0, i, last, d, way, h, d', way', e => by
    rw [clm] at e
    cases e; exact h
  | t + 1, i, last, d, way, h, d', way', e => by
    rw [clm] at e
    cases hc : clm t i last d way with
    | none => rw [hc] at e; cases e
    | some p =>
      obtain ⟨d1, w1⟩ := p
      rw [hc] at e
      have h1 := clm_len t i last d way h d1 w1 hc
      simp only at e
      unfold clmStep at e
      split at e
      · split at e
        · cases e
        · cases e
          split <;> exact nodeOf_length _ _
      · cases e; exact h1
theorem clmStep_nil {i last : Nat} {d : Dg} (h : i % 2 = 1 ∨ i < last) : clmStep i last d [] = none := by unfold clmStep; rw [if_pos h]
theorem clmStep_odd {i last : Nat} {d x : Dg} {r : List Dg} (h : i % 2 = 1) : clmStep i last d (x :: r) = some (nodeOf x d, r) := by unfold clmStep; rw [if_pos (.inl h)]; simp [h]
theorem clmStep_even {i last : Nat} {d x : Dg} {r : List Dg} (h : ¬ i % 2 = 1) (h2 : i < last) : clmStep i last d (x :: r) = some (nodeOf d x, r) := by unfold clmStep; rw [if_pos (.inr h2)]; simp [h]
theorem clmStep_skip {i last : Nat} {d : Dg} {way : List Dg} (h : ¬ (i % 2 = 1 ∨ i < last)) : clmStep i last d way = some (d, way) := by unfold clmStep; rw [if_neg h]
/-- The state of a climb. -/
structure ClimbRel (w wx : World) (b : Nat) (I last : Nat) (leaf : Dg) (way : List Dg) (t : Nat) (d : Dg) (way' : List Dg) (v' : Value) : Prop where
  clm : clm t I last leaf way = some (d, way')
  len : d.length = 32
  ins : DgIn w v' way'
  res : wx.heap[b]? = some (.cells zeroC 83)
  box : wx.heap[b + 1]? = some (.cells (d.map u8v).toArray 83)
  keeps : Keeps (fun _ => False) w wx

theorem ClimbRel.next {w wx w7 : World} {I last : Nat} {leaf : Dg} {way : List Dg} {t : Nat} {d : Dg} {way' : List Dg} {v' : Value} (h : ClimbRel w wx (w.heap.size + 1) I last leaf way t d way' v') {d' : Dg} {rest : List Dg} (hs : clmStep (I / 2 ^ t) (last / 2 ^ t) d way' = some (d', rest)) (hd : d'.length = 32)
    (hk : Keeps (fun _ => False) wx w7) {vw : Value} (hw : DgIn w vw rest) : ClimbRel w (w7.setRow (w.heap.size + 1 + 1) (d'.map u8v).toArray) (w.heap.size + 1) I last leaf way (t + 1) d' rest vw := by
  have hks := keeps_setRow w7 (w.heap.size + 1 + 1) (d'.map u8v).toArray
  have hb := hk.at h.box (fun e => e)
  have hlt := lt_of_heap hb
  refine ⟨by rw [Go.Proofs.YtaeabdghlkdkjaaGreat.clm, h.clm]; exact hs, hd, hw, hks.at (hk.at h.res (fun e => e)) (fun e => by omega), setRow_heap w7 (w.heap.size + 1 + 1) _ (d'.map u8v).toArray 83 _ hb, (h.keeps.trans hk (fun _ _ e => e)).trans hks (fun b hb e => by omega)⟩
set_option maxRecDepth 100000 in
set_option maxHeartbeats 4000000 in
theorem climb_calls {w : World} {n I : Nat} (hI : I < n) (hn : n ≤ 4611686018427387904) {leaf : Dg} (hl : leaf.length = 32) {v : Value} {way : List Dg} (h : DgIn w v way) :
    Calls Tryz.prog 115 #[.int .i64 (n : Int), .int .i64 (I : Int), .agg (leaf.map u8v).toArray, v] w (ClimbPost w I (n - 1) leaf way) := by
  obtain ⟨va, vc, rfl, -, -⟩ := id h.form
  obtain ⟨cl, hcl⟩ : ∃ cl : Array Value, cl = (leaf.map u8v).toArray := ⟨_, rfl⟩
  rw [← hcl]
  have hsz : cl.size = 32 := by rw [hcl]; simp [hl]
  have hone : cl.all (·.oneCell') = true := by rw [hcl]; exact bytes_one _
  have hb6 : (((w.alloc (.cells cl 83)).alloc (.cells zeroC 83))).heap[w.heap.size]? = some (.cells cl 83) := ((Keeps.refl (fun _ => False) _).alloc _).at (heap_alloc_new w _) (fun e => e)
  have hb8 : ((((w.alloc (.cells cl 83)).alloc (.cells zeroC 83)).alloc (.cells zeroC 83))).heap[w.heap.size + 1]? = some (.cells zeroC 83) := by
    have := ((Keeps.refl (fun _ => False) _).alloc (.cells zeroC 83)).at (heap_alloc_new (w.alloc (.cells cl 83)) (.cells zeroC 83)) (fun e => e)
    rw [World.size_alloc] at this; exact this
  have hb11 : ((((w.alloc (.cells cl 83)).alloc (.cells zeroC 83)).alloc (.cells zeroC 83))).heap[w.heap.size + 1 + 1]? = some (.cells zeroC 83) := by
    have := heap_alloc_new ((w.alloc (.cells cl 83)).alloc (.cells zeroC 83)) (.cells zeroC 83)
    rw [World.size_alloc, World.size_alloc] at this; exact this
  have hk3 : Keeps (fun _ => False) w (((w.alloc (.cells cl 83)).alloc (.cells zeroC 83)).alloc (.cells zeroC 83)) := (((Keeps.refl _ w).alloc _).alloc _).alloc _
  generalize hW3 : (((w.alloc (.cells cl 83)).alloc (.cells zeroC 83)).alloc (.cells zeroC 83)) = W3 at hb8 hb11 hk3
  have hks := keeps_setRow W3 (w.heap.size + 1 + 1) cl
  have hkw : Keeps (fun _ => False) w (W3.setRow (w.heap.size + 1 + 1) cl) := hk3.trans hks (fun b hb e => by omega)
  have hr0 : ClimbRel w (W3.setRow (w.heap.size + 1 + 1) cl) (w.heap.size + 1) I (n - 1) leaf way 0 leaf way (.slice va way.length vc) := by
    refine ⟨rfl, hl, h, hks.at hb8 (fun e => by omega), ?_, hkw⟩
    rw [← hcl]
    exact setRow_heap W3 (w.heap.size + 1 + 1) _ cl 83 _ hb11
  have hw1 : wrap64 ((n : Int) - 1) = ((n - 1 : Nat) : Int) := by rw [IntWalk.wrap64_in _ (by omega)]; omega
  have i0 : (0 : Int) ≤ I := by omega
  have HB6 := Lib.hid hb6
  have HINF := Lib.hid (dig_info hsz)
  have HONE := Lib.hid hone
  have HSZ := Lib.hid hsz
  have HR0 := Lib.hid hr0
  have HW3 := Lib.hid hW3
  rw [← hW3] at hb11
  have HNB := Lib.hid hb11
  obtain ⟨last, hlast⟩ : ∃ last, last = n - 1 := ⟨_, rfl⟩
  rw [← hlast] at hw1 HR0 ⊢
  have HN := Lib.hid (⟨by omega, by omega⟩ : I ≤ last ∧ last ≤ 4611686018427387904)
  clear h hl hcl hsz hone hb6 hb8 hb11 hk3 hks hkw hr0 hI hn hW3 hlast
  go_enter Tryz.func115, Tryz.ntmps115
  go_wp2_with (first | (refine wpList_load_row rfl 83 _ rfl w.heap.size rfl 83 cl (0, 0) _ HB6.out Tryz.underlying83 rfl HINF.out ?_) | (refine wpList_store_row rfl 83 _ _ rfl (w.heap.size + 1 + 1) cl rfl rfl 83 _ HNB.out HINF.out (by rw [HSZ.out]; kernel_rfl) HONE.out ?_))
  change Code.wp _ _ _ _ ((((w.alloc (.cells cl 83)).alloc (.cells zeroC 83)).alloc (.cells zeroC 83)).setRow (w.heap.size + 1 + 1) cl)
  rw [HW3.out]
  dsimp only [Act.put]
  go_loopw [1, 3, 10] (fun iv vv lv wx => ∃ (t : Nat) (d : Dg) (way' : List Dg), iv = .int .i64 ((I / 2 ^ t : Nat) : Int) ∧ lv = .int .i64 ((last / 2 ^ t : Nat) : Int) ∧ ClimbRel w wx (w.heap.size + 1) I last leaf way t d way' vv) (fun _ _ lv _ => (intOf lv).toNat)
  case atStart => exact ⟨0, leaf, way, by simp, by simp, HR0.out⟩
  case round =>
    obtain ⟨t, d, way', rfl, rfl, hr⟩ := hrel
    clear HR0 HB6 HNB
    have hnext : clm (t + 1) I last leaf way = clmStep (I / 2 ^ t) (last / 2 ^ t) d way' := by rw [clm, hr.clm]
    have hi1 : I / 2 ^ (t + 1) = I / 2 ^ t / 2 := by rw [Nat.pow_succ, Nat.div_div_eq_div_mul]
    have hl1 : last / 2 ^ (t + 1) = last / 2 ^ t / 2 := by rw [Nat.pow_succ, Nat.div_div_eq_div_mul]
    have hit : I / 2 ^ t ≤ 4611686018427387904 := Nat.le_trans (Nat.div_le_self _ _) (by have := HN.out; omega)
    have hlt : last / 2 ^ t ≤ 4611686018427387904 := Nat.le_trans (Nat.div_le_self _ _) HN.out.2
    have hend : last / 2 ^ t = 0 → last < 2 ^ t := fun e => by
      rcases Nat.div_eq_zero_iff.1 e with h | h
      · have := Nat.two_pow_pos t; omega
      · exact h
    generalize hIt : I / 2 ^ t = It at *
    generalize hLt : last / 2 ^ t = Lt at *
    obtain ⟨wa, wc, hwv, -, -⟩ := hr.ins.form
    subst hwv
    have d32 := hr.len
    obtain ⟨dl, hdl⟩ : ∃ dl : Array Value, dl = (d.map u8v).toArray := ⟨_, rfl⟩
    have hbox := hr.box
    rw [← hdl] at hbox
    have hdz : dl.size = 32 := by rw [hdl]; simp [d32]
    have hdone : dl.all (·.oneCell') = true := by rw [hdl]; exact bytes_one _
    have HDI := Lib.hid (dig_info hdz)
    have HDZ := Lib.hid hdz
    have HDO := Lib.hid hdone
    have HDL := Lib.hid hdl
    have HBX := Lib.hid hbox
    have HRR := Lib.hid hr
    have HNX := Lib.hid hnext
    have HI1 := Lib.hid (⟨hi1, hl1⟩ : I / 2 ^ (t + 1) = It / 2 ∧ last / 2 ^ (t + 1) = Lt / 2)
    have HIL := Lib.hid (⟨hIt, hLt⟩ : I / 2 ^ t = It ∧ last / 2 ^ t = Lt)
    have it0 : (0 : Int) ≤ It := by omega
    have lt0 : (0 : Int) ≤ Lt := by omega
    have itm : (It : Int) ≤ 4611686018427387904 := by omega
    have ltm : (Lt : Int) ≤ 4611686018427387904 := by omega
    have hq1 : wrap64 ((It : Int).tdiv 2) = ((It / 2 : Nat) : Int) := by rw [show (It : Int).tdiv 2 = ((It / 2 : Nat) : Int) from (Int.ofNat_tdiv It 2).symm, IntWalk.wrap64_in _ (by omega)]
    have hq2 : wrap64 ((Lt : Int).tdiv 2) = ((Lt / 2 : Nat) : Int) := by rw [show (Lt : Int).tdiv 2 = ((Lt / 2 : Nat) : Int) from (Int.ofNat_tdiv Lt 2).symm, IntWalk.wrap64_in _ (by omega)]
    have hres := hr.res
    have HRES := Lib.hid hres
    obtain ⟨wlen, hwlen⟩ : ∃ wlen, wlen = way'.length := ⟨_, rfl⟩
    rw [← hwlen]
    clear hIt hLt hr hnext hi1 hl1 hbox hdz hdone hdl d32 hres hit hlt
    by_cases hL0 : Lt = 0
    · subst hL0
      have hfin := hend rfl
      have hb : ((wlen : Int) == 0) = decide (way' = []) := by
        rw [hwlen]
        cases way' with
        | nil => simp
        | cons x l => simp; omega
      have HF := Lib.hid (⟨d, _, HRR.out.len, rfl, .inl ⟨t, way', hfin, HRR.out.clm, rfl⟩, HRR.out.keeps.trans (keeps_setRow wr (w.heap.size + 1) dl) (fun b hb e => by omega)⟩ : ClimbPost w I last leaf way (.returned (.tuple #[.agg (d.map u8v).toArray, .bool (decide (way' = []))])) (wr.setRow (w.heap.size + 1) dl))
      rw [← HDL.out] at HF
      have HRW := Lib.hid (setRow_heap wr (w.heap.size + 1) _ dl 83 _ HRES.out)
      generalize decide (way' = []) = bb at hb HF
      clear hend hfin hwlen
      go_wp2_with (first | (refine wpList_load_row rfl 83 _ rfl (w.heap.size + 1 + 1) rfl 83 dl (0, 0) _ HBX.out Tryz.underlying83 rfl HDI.out ?_) | (refine wpList_store_row rfl 83 _ _ rfl (w.heap.size + 1) dl rfl rfl 83 _ HRES.out HDI.out (by rw [HDZ.out]; kernel_rfl) HDO.out ?_))
      refine bodyPost_ret (res_dig2 Tryz.results115 _ _ (w.heap.size + 1) dl HDZ.out rfl HRW.out) rfl ?_
      exact HF.out
    · have hlt1 : (0 : Int) < Lt := by omega
      clear hL0 hend
      by_cases hodd : It % 2 = 1
      · have bm2 : ((It : Int) % 2 == 1) = true := by rw [beq_iff_eq]; omega
        have bm : ((It : Int).tmod 2 == 1) = true := by rw [beq_iff_eq, show (It : Int).tmod 2 = ((It % 2 : Nat) : Int) from (Int.ofNat_tmod It 2).symm, hodd]; rfl
        cases way' with
        | nil =>
          simp only [List.length_nil] at hwlen
          subst hwlen
          have HF := Lib.hid (⟨zero32, false, rfl, rfl, .inr ⟨t + 1, by rw [HNX.out]; exact clmStep_nil (.inl hodd), rfl⟩, HRR.out.keeps.trans (keeps_setRow wr (w.heap.size + 1) zeroC) (fun b hb e => by omega)⟩ : ClimbPost w I last leaf way (.returned (.tuple #[.agg zeroC, .bool false])) (wr.setRow (w.heap.size + 1) zeroC))
          have HRW := Lib.hid (setRow_heap wr (w.heap.size + 1) _ zeroC 83 _ HRES.out)
          clear hodd
          go_wp2_with (first | (refine wpList_build_as rfl 83 _ rfl zeroC zeroC_built ?_) | (refine wpList_store_row rfl 83 _ _ rfl (w.heap.size + 1) zeroC rfl rfl 83 _ HRES.out (dig_info zeroC_size) rfl (by kernel_rfl) ?_))
          refine bodyPost_ret (res_dig2 Tryz.results115 _ _ (w.heap.size + 1) zeroC zeroC_size rfl HRW.out) rfl ?_
          exact HF.out
        | cons x rest =>
          have hb : ((wlen : Int) == 0) = false := by rw [hwlen, beq_eq_false_iff_ne]; simp; omega
          obtain ⟨-, a2, c2, e2, -, -, h3⟩ := HRR.out.ins.keep HRR.out.keeps
          simp only [Value.slice.injEq] at e2
          obtain ⟨rfl, -, rfl⟩ := e2
          obtain ⟨b', o', rfl, hrg⟩ := h3 0 x rfl
          rw [Nat.zero_mul, Nat.add_zero] at hrg
          obtain ⟨vw, hsl, hdw⟩ := HRR.out.ins.drop (k := 1) (by simp)
          have x32 := HRR.out.ins.1 x (by simp)
          have hslw : ∀ W, (Instr.sliceAt 88 (.slice (some ⟨b', o', none⟩) wlen wc) (some (.int .i64 1)) none none).run Tryz.prog W = .ok vw W := by rw [hwlen]; exact hsl
          have hn1 : (1 : Int) ≤ wlen := by rw [hwlen]; simp; omega
          have hn0 : 0 < wlen := by omega
          obtain ⟨xl, hxl⟩ : ∃ xl : List Value, xl = x.map u8v := ⟨_, rfl⟩
          rw [← hxl] at hrg
          have HXR := Lib.hid hrg
          have HXI := Lib.hid (show (Tryz.prog.info? 83).map (·.size) = some xl.length by rw [hxl, List.length_map, x32]; kernel_rfl)
          have HXL := Lib.hid hxl
          have HX32 := Lib.hid x32
          have HDW := Lib.hid hdw
          clear hsl h3 hwlen hxl hrg x32 hdw
          go_upto_region 8 with fail
          refine wp_region_still_tail 4 (by kernel_rfl) (by kernel_rfl) ?_
          simp only [List.take_succ_cons, List.take_zero, List.drop_succ_cons, List.drop_zero]
          still_step
          still_step
          refine still_load_mid (by rfl) 83 _ rfl b' o' rfl xl _ HXR.out Tryz.underlying83 rfl HXI.out ?_
          refine still_load_row (by rfl) 83 _ rfl (w.heap.size + 1 + 1) rfl 83 dl (0, 0) _ HBX.out Tryz.underlying83 rfl HDI.out ?_
          refine wpStill_nil ?_
          change wpList _ _ _ _ _ wr.drew
          simp only [Act.put, List.setIfInBounds_toArray, List.set_cons_zero, List.set_cons_succ]
          have hnode := node_calls wr.drew x d HX32.out HRR.out.len
          rw [← HXL.out, ← HDL.out] at hnode
          have hds32 := nodeOf_length x d
          have hnx := clmStep_odd (last := Lt) (d := d) (x := x) (r := rest) hodd
          have HST := Lib.hid (fun (w7 : World) (hk : Keeps (fun _ => False) wr.drew w7) => HRR.out.next (by rw [HIL.out.1, HIL.out.2]; exact hnx) hds32 (((Keeps.refl _ wr).drew).trans hk (fun _ _ e => e)) HDW.out)
          obtain ⟨ds, hds⟩ : ∃ ds : Array Value, ds = ((nodeOf x d).map u8v).toArray := ⟨_, rfl⟩
          rw [← hds] at hnode HST
          have hdsz : ds.size = 32 := by rw [hds]; simp [hds32]
          have hdso : ds.all (·.oneCell') = true := by rw [hds]; exact bytes_one _
          have HNODE := Lib.hid hnode
          have HSI := Lib.hid (dig_info hdsz)
          have HSZD := Lib.hid (show dl.size = ds.size by rw [hdsz]; exact HDZ.out)
          have HSO := Lib.hid hdso
          clear hnode hds32 hnx hds hdsz hdso
          go_wp2_with fail
          refine HNODE.out.mono ?_
          rintro e w7 ⟨rfl, hk7⟩
          have HB7 := Lib.hid (hk7.at (w := wr.drew) HBX.out (fun e => e))
          have HREL := Lib.hid (⟨t + 1, nodeOf x d, rest, by rw [HI1.out.1], by rw [HI1.out.2], HST.out w7 hk7⟩ : ∃ (t' : Nat) (d' : Dg) (way'' : List Dg), Value.int .i64 ((It / 2 : Nat) : Int) = .int .i64 ((I / 2 ^ t' : Nat) : Int) ∧ Value.int .i64 ((Lt / 2 : Nat) : Int) = .int .i64 ((last / 2 ^ t' : Nat) : Int) ∧ ClimbRel w (w7.setRow (w.heap.size + 1 + 1) ds) (w.heap.size + 1) I last leaf way t' d' way'' vw)
          clear hk7 HNODE HST hodd hb hn0
          go_wp2_with (refine wpList_store_row rfl 83 _ _ rfl (w.heap.size + 1 + 1) ds rfl rfl 83 _ HB7.out HSI.out HSZD.out HSO.out ?_)
          go_roundw
          case rel => exact HREL.out
          case measure => simp [intOf]; omega
      · have bm2 : ((It : Int) % 2 == 1) = false := by rw [beq_eq_false_iff_ne]; omega
        have bm : ((It : Int).tmod 2 == 1) = false := by rw [beq_eq_false_iff_ne, show (It : Int).tmod 2 = ((It % 2 : Nat) : Int) from (Int.ofNat_tmod It 2).symm]; omega
        by_cases hil : It < Lt
        · have bl : (It : Int) < Lt := by omega
          cases way' with
          | nil =>
            simp only [List.length_nil] at hwlen
            subst hwlen
            have HF := Lib.hid (⟨zero32, false, rfl, rfl, .inr ⟨t + 1, by rw [HNX.out]; exact clmStep_nil (.inr hil), rfl⟩, HRR.out.keeps.trans (keeps_setRow wr (w.heap.size + 1) zeroC) (fun b hb e => by omega)⟩ : ClimbPost w I last leaf way (.returned (.tuple #[.agg zeroC, .bool false])) (wr.setRow (w.heap.size + 1) zeroC))
            have HRW := Lib.hid (setRow_heap wr (w.heap.size + 1) _ zeroC 83 _ HRES.out)
            clear hodd hil
            go_wp2_with (first | (refine wpList_build_as rfl 83 _ rfl zeroC zeroC_built ?_) | (refine wpList_store_row rfl 83 _ _ rfl (w.heap.size + 1) zeroC rfl rfl 83 _ HRES.out (dig_info zeroC_size) rfl (by kernel_rfl) ?_))
            refine bodyPost_ret (res_dig2 Tryz.results115 _ _ (w.heap.size + 1) zeroC zeroC_size rfl HRW.out) rfl ?_
            exact HF.out
          | cons x rest =>
            have hb : ((wlen : Int) == 0) = false := by rw [hwlen, beq_eq_false_iff_ne]; simp; omega
            obtain ⟨-, a2, c2, e2, -, -, h3⟩ := HRR.out.ins.keep HRR.out.keeps
            simp only [Value.slice.injEq] at e2
            obtain ⟨rfl, -, rfl⟩ := e2
            obtain ⟨b', o', rfl, hrg⟩ := h3 0 x rfl
            rw [Nat.zero_mul, Nat.add_zero] at hrg
            obtain ⟨vw, hsl, hdw⟩ := HRR.out.ins.drop (k := 1) (by simp)
            have x32 := HRR.out.ins.1 x (by simp)
            have hslw : ∀ W, (Instr.sliceAt 88 (.slice (some ⟨b', o', none⟩) wlen wc) (some (.int .i64 1)) none none).run Tryz.prog W = .ok vw W := by rw [hwlen]; exact hsl
            have hn1 : (1 : Int) ≤ wlen := by rw [hwlen]; simp; omega
            have hn0 : 0 < wlen := by omega
            obtain ⟨xl, hxl⟩ : ∃ xl : List Value, xl = x.map u8v := ⟨_, rfl⟩
            rw [← hxl] at hrg
            have HXR := Lib.hid hrg
            have HXI := Lib.hid (show (Tryz.prog.info? 83).map (·.size) = some xl.length by rw [hxl, List.length_map, x32]; kernel_rfl)
            have HXL := Lib.hid hxl
            have HX32 := Lib.hid x32
            have HDW := Lib.hid hdw
            clear hsl h3 hwlen hxl hrg x32 hdw
            go_upto_region 9 with fail
            refine wp_region_still_tail 4 (by kernel_rfl) (by kernel_rfl) ?_
            simp only [List.take_succ_cons, List.take_zero, List.drop_succ_cons, List.drop_zero]
            refine still_load_row (by rfl) 83 _ rfl (w.heap.size + 1 + 1) rfl 83 dl (0, 0) _ HBX.out Tryz.underlying83 rfl HDI.out ?_
            still_step
            still_step
            refine still_load_mid (by rfl) 83 _ rfl b' o' rfl xl _ HXR.out Tryz.underlying83 rfl HXI.out ?_
            refine wpStill_nil ?_
            change wpList _ _ _ _ _ wr.drew
            simp only [Act.put, List.setIfInBounds_toArray, List.set_cons_zero, List.set_cons_succ]
            have hnode := node_calls wr.drew d x HRR.out.len HX32.out
            rw [← HXL.out, ← HDL.out] at hnode
            have hds32 := nodeOf_length d x
            have hnx := clmStep_even (last := Lt) (d := d) (x := x) (r := rest) hodd hil
            have HST := Lib.hid (fun (w7 : World) (hk : Keeps (fun _ => False) wr.drew w7) => HRR.out.next (by rw [HIL.out.1, HIL.out.2]; exact hnx) hds32 (((Keeps.refl _ wr).drew).trans hk (fun _ _ e => e)) HDW.out)
            obtain ⟨ds, hds⟩ : ∃ ds : Array Value, ds = ((nodeOf d x).map u8v).toArray := ⟨_, rfl⟩
            rw [← hds] at hnode HST
            have hdsz : ds.size = 32 := by rw [hds]; simp [hds32]
            have hdso : ds.all (·.oneCell') = true := by rw [hds]; exact bytes_one _
            have HNODE := Lib.hid hnode
            have HSI := Lib.hid (dig_info hdsz)
            have HSZD := Lib.hid (show dl.size = ds.size by rw [hdsz]; exact HDZ.out)
            have HSO := Lib.hid hdso
            clear hnode hds32 hnx hds hdsz hdso
            go_wp2_with fail
            refine HNODE.out.mono ?_
            rintro e w7 ⟨rfl, hk7⟩
            have HB7 := Lib.hid (hk7.at (w := wr.drew) HBX.out (fun e => e))
            have HREL := Lib.hid (⟨t + 1, nodeOf d x, rest, by rw [HI1.out.1], by rw [HI1.out.2], HST.out w7 hk7⟩ : ∃ (t' : Nat) (d' : Dg) (way'' : List Dg), Value.int .i64 ((It / 2 : Nat) : Int) = .int .i64 ((I / 2 ^ t' : Nat) : Int) ∧ Value.int .i64 ((Lt / 2 : Nat) : Int) = .int .i64 ((last / 2 ^ t' : Nat) : Int) ∧ ClimbRel w (w7.setRow (w.heap.size + 1 + 1) ds) (w.heap.size + 1) I last leaf way t' d' way'' vw)
            clear hk7 HNODE HST hodd hil hb hn0
            go_wp2_with (refine wpList_store_row rfl 83 _ _ rfl (w.heap.size + 1 + 1) ds rfl rfl 83 _ HB7.out HSI.out HSZD.out HSO.out ?_)
            go_roundw
            case rel => exact HREL.out
            case measure => simp [intOf]; omega
        · have bl : ¬ (It : Int) < Lt := by omega
          have hsk : clm (t + 1) I last leaf way = some (d, way') := by rw [HNX.out]; exact clmStep_skip (by omega)
          have HREL := Lib.hid (⟨t + 1, d, way', by rw [HI1.out.1], by rw [HI1.out.2], ⟨hsk, HRR.out.len, by rw [hwlen]; exact HRR.out.ins, HRR.out.res, HRR.out.box, HRR.out.keeps⟩⟩ : ∃ (t' : Nat) (d' : Dg) (way'' : List Dg), Value.int .i64 ((It / 2 : Nat) : Int) = .int .i64 ((I / 2 ^ t' : Nat) : Int) ∧ Value.int .i64 ((Lt / 2 : Nat) : Int) = .int .i64 ((last / 2 ^ t' : Nat) : Int) ∧ ClimbRel w wr (w.heap.size + 1) I last leaf way t' d' way'' (.slice wa wlen wc))
          clear hsk hodd hil hwlen
          go_wp2_with fail
          go_roundw
          case rel => exact HREL.out
          case measure => simp [intOf]; omega
end Go.Proofs.YtaeabdghlkdkjaaGreat

namespace Go.Proofs.YtaeabdghlkdkjaaGreat
set_option linter.unusedVariables false
open Go.RowKit Go.MapKept

/-- What Check tells of a place of a tree. -/
def CheckPost (w : World) (root : Dg) (I last : Nat) (leaf : Dg) (way : List Dg) (e : Ending) (w' : World) : Prop :=
  ∃ D ok, ClimbIs I last leaf way D ok ∧ e = .returned (.bool (ok && decide (D = root))) ∧ Keeps (fun _ => False) w w'
set_option maxRecDepth 100000 in
set_option maxHeartbeats 2000000 in
theorem check_calls {w : World} {n I : Nat} (hI : I < n) (hn : n ≤ 4611686018427387904) {root leaf : Dg} (hr : root.length = 32) (hl : leaf.length = 32) {v : Value} {way : List Dg} (h : DgIn w v way) :
    Calls Tryz.prog 44 #[.agg (root.map u8v).toArray, .int .i64 (n : Int), .int .i64 (I : Int), .agg (leaf.map u8v).toArray, v] w (CheckPost w root I (n - 1) leaf way) := by
  obtain ⟨va, vc, rfl, -, -⟩ := id h.form
  obtain ⟨rl, hrl⟩ : ∃ rl : Array Value, rl = (root.map u8v).toArray := ⟨_, rfl⟩
  obtain ⟨cl, hcl⟩ : ∃ cl : Array Value, cl = (leaf.map u8v).toArray := ⟨_, rfl⟩
  have hkw : Keeps (fun _ => False) w ((w.alloc (.cells rl 83)).alloc (.cells cl 83)) := ((Keeps.refl _ w).alloc _).alloc _
  have hb5 : ((w.alloc (.cells rl 83)).alloc (.cells cl 83)).heap[w.heap.size]? = some (.cells rl 83) := ((Keeps.refl (fun _ => False) _).alloc _).at (heap_alloc_new w _) (fun e => e)
  have hb8 : ((w.alloc (.cells rl 83)).alloc (.cells cl 83)).heap[w.heap.size + 1]? = some (.cells cl 83) := by
    have := heap_alloc_new (w.alloc (.cells rl 83)) (.cells cl 83)
    rw [World.size_alloc] at this; exact this
  have hcb := climb_calls hI hn hl (h.keep hkw)
  rw [← hcl] at hcb
  rw [← hrl, ← hcl]
  have hrz : rl.size = 32 := by rw [hrl]; simp [hr]
  have hcz : cl.size = 32 := by rw [hcl]; simp [hl]
  have HRI := Lib.hid (dig_info hrz)
  have HCI := Lib.hid (dig_info hcz)
  have HB5 := Lib.hid hb5
  have HB8 := Lib.hid hb8
  have HCB := Lib.hid hcb
  have HRL := Lib.hid (⟨hrl, hr⟩ : rl = (root.map u8v).toArray ∧ root.length = 32)
  have HKW := Lib.hid hkw
  have i0 : (0 : Int) ≤ I := by omega
  have i1 : (I : Int) < n := by omega
  obtain ⟨P, hP⟩ : ∃ P, CheckPost w root I (n - 1) leaf way = P := ⟨_, rfl⟩
  have HP := Lib.hid hP
  rw [hP]
  clear h hkw hb5 hb8 hcb hrl hcl hrz hcz hI hn hr hl hP
  go_enter Tryz.func44, Tryz.ntmps44
  go_wp2_with (first | (refine wpList_load_row rfl 83 _ rfl (w.heap.size + 1) rfl 83 cl (0, 0) _ HB8.out Tryz.underlying83 rfl HCI.out ?_))
  refine HCB.out.mono ?_
  rintro e w3 ⟨D, ok, hD, rfl, hcl, hk3⟩
  obtain ⟨dl, hdl⟩ : ∃ dl : Array Value, dl = (D.map u8v).toArray := ⟨_, rfl⟩
  rw [← hdl]
  have hdz : dl.size = 32 := by rw [hdl]; simp [hD]
  have hdo : dl.all (·.oneCell') = true := by rw [hdl]; exact bytes_one _
  have hb5' : ((w3.alloc (.cells zeroC 83)).setRow w3.heap.size dl).heap[w.heap.size]? = some (.cells rl 83) := by
    have h1 := hk3.at HB5.out (fun e => e)
    have h2 := lt_of_heap h1
    exact (keeps_setRow _ _ _).at (((Keeps.refl (fun _ => False) _).alloc _).at h1 (fun e => e)) (fun e => by omega)
  have hb11 := setRow_heap (w3.alloc (.cells zeroC 83)) w3.heap.size _ dl 83 _ (heap_alloc_new w3 (.cells zeroC 83))
  have hkf : Keeps (fun _ => False) w ((w3.alloc (.cells zeroC 83)).setRow w3.heap.size dl) := ((HKW.out.trans hk3 (fun _ _ e => e)).trans ((Keeps.refl _ w3).alloc _) (fun _ _ e => e)).trans (keeps_setRow _ _ _) (fun b hb e => by
    have h1 := lt_of_heap (hk3.at HB5.out (fun e => e))
    omega)
  have heq := fun W => dig_eq D root hD HRL.out.2 W
  rw [← hdl, ← HRL.out.1] at heq
  have HF := Lib.hid (show P (.returned (.bool (ok && decide (D = root)))) ((w3.alloc (.cells zeroC 83)).setRow w3.heap.size dl) by rw [← HP.out]; exact ⟨D, ok, hcl, rfl, hkf⟩)
  have HDI := Lib.hid (dig_info hdz)
  have HDO := Lib.hid hdo
  have HDZ := Lib.hid (show zeroC.size = dl.size by rw [hdz]; kernel_rfl)
  have HNB := Lib.hid (heap_alloc_new w3 (.cells zeroC 83))
  have HB5' := Lib.hid hb5'
  have HB11 := Lib.hid hb11
  generalize decide (D = root) = bd at heq HF
  clear hdl hdz hdo hb5' hb11 hkf hk3 hcl HCB HKW HB8 HB5
  cases ok with
  | false =>
    go_wp2_with (first | (refine wpList_store_row rfl 83 _ _ rfl w3.heap.size dl rfl rfl 83 _ HNB.out HDI.out HDZ.out HDO.out ?_))
    exact HF.out
  | true =>
    go_wp2_with (first | (refine wpList_store_row rfl 83 _ _ rfl w3.heap.size dl rfl rfl 83 _ HNB.out HDI.out HDZ.out HDO.out ?_) | (refine wpList_load_rowG (by rfl) 83 _ rfl w3.heap.size rfl 83 dl (0, 0) _ HB11.out Tryz.underlying83 rfl HDI.out ?_) | (refine wpList_load_rowG (by rfl) 83 _ rfl w.heap.size rfl 83 rl (0, 0) _ HB5'.out Tryz.underlying83 rfl HRI.out ?_))
    exact HF.out
end Go.Proofs.YtaeabdghlkdkjaaGreat
