/- TaglogShows: the walk. -/
import Derived.Test.YtaeabdghlkdkjaaGreatGAwk
import Derived.Test.YtaeabdghlkdkjaaGreatGShV
namespace Go.Proofs.YtaeabdghlkdkjaaGreat
set_option linter.unusedVariables false
open Go.RowKit Go.MapKept

/-- A log on a disk with room, behind some entries. -/
def GSt (w wx : World) (d j t b g : Nat) (es : List (List UInt8)) (k : Nat) : Prop :=
  ∃ (bb : List UInt8) (size : Nat) (fs : FS) (ve vl : Value), es.length ≤ k ∧ (∀ p ∈ es, p.length ≤ 500) ∧ bb.length ≤ 560 * k ∧ size ≤ 560 * k ∧ Own w wx (tRes w.heap.size d j t b nmT ⟨oneT 1048576 bb, size, fs, false⟩ ++ (gRes w.heap.size g t ve vl es ++ []))
theorem GSt.mono {w wx : World} {d j t b g k k' : Nat} {es : List (List UInt8)} (h : GSt w wx d j t b g es k) (hk : k ≤ k') : GSt w wx d j t b g es k' := by
  obtain ⟨bb, size, fs, ve, vl, h1, h2, h3, h4, h5⟩ := h
  exact ⟨bb, size, fs, ve, vl, by omega, h2, by omega, by omega, h5⟩
theorem GSt.keeps {w wx : World} {d j t b g k : Nat} {es : List (List UInt8)} (h : GSt w wx d j t b g es k) : Keeps (fun _ => False) w wx := by
  obtain ⟨_, _, _, _, _, _, _, _, _, h5⟩ := h
  exact h5.keeps
theorem GSt.add {w wx : World} {d j t b g k : Nat} {es : List (List UInt8)} (h : GSt w wx d j t b g es k) (hk : k < 30) {pv : Value} {p : List UInt8} (hp : Reads w pv p) (hl : p.length ≤ 500) :
    Calls Tryz.prog 40 #[.pointer (some ⟨g, 0, none⟩), pv, .slice none 0 0] wx fun e w' => e = .returned (.int .i64 0) ∧ GSt w w' d j t b g (es ++ [p]) (k + 1) := by
  obtain ⟨bb, size, fs, ve, vl, h1, h2, h3, h4, h5⟩ := h
  obtain ⟨b', s', ha, hb, hs⟩ := add_oneT (room := 1048576) (b := bb) (size := size) (fs := fs) es.length hl (by omega)
  have hc := gAdd_calls h5 (n := 0) (oneT_good (by omega) (by omega)) (by omega) (by dsimp only; omega) (by omega) (pv := pv) (p := p) (by omega) (fun wr ls ho => hp.keep ho.keeps)
  unfold entCh at ha
  rw [ha] at hc
  refine hc.mono ?_
  rintro e w' ⟨ve', vl', rfl, h6⟩
  exact ⟨rfl, b', s', _, ve', vl', by simp; omega, fun q hq => by
    rcases List.mem_append.1 hq with hq | hq
    · exact h2 q hq
    · rw [List.mem_singleton.1 hq]; exact hl, by omega, by omega, by simpa using h6⟩
theorem rows_dig {w : World} {v : Value} {L : List Dg} (h : DgIn w v L) : ∃ a c, v = .slice a L.length c := by
  obtain ⟨-, a, c, e, -⟩ := h
  exact ⟨a, c, e⟩
set_option maxRecDepth 100000 in
set_option maxHeartbeats 4000000 in
theorem gshows_walk (a : Option Addr) (cap : Nat) (ll : List (List UInt8)) (n : Int) (w : World) (hlc : ll.length ≤ cap) (hcm : cap ≤ maxLen) (hrows : RowsIn w (.slice a ll.length cap) ll) :
    Calls Tryz.prog 7 #[.slice a ll.length cap, .int .i64 n] w fun e w' => e = .returned (.bool true) ∧ Below w.heap.size w w' := by
  obtain ⟨d, w1, hnew, h1⟩ := (Own.start w).new 1048576 (by omega) (by omega)
  have hop := opened15_calls h1 (Good.new (room := 1048576) (by omega) (by omega)) (by omega) (by rw [topen_empty]; intro size fs e; cases e; exact ⟨FSorted.nil, (by simp), (by simp), (by simp)⟩)
  rw [topen_empty] at hop
  obtain ⟨K, hK⟩ : ∃ K : Nat, min (ll.length : Int) 30 = (K : Int) := ⟨min ll.length 30, by omega⟩
  have hK1 : K ≤ 30 ∧ K ≤ ll.length := by omega
  have k0 : (0 : Int) ≤ K := by omega
  have k1 : (K : Int) ≤ cap := by omega
  have HOP := Lib.hid hop
  have HNEW := Lib.hid hnew
  have HAW := Lib.hid awake15_calls
  have HROWS := Lib.hid hrows
  have HKK := Lib.hid hK1
  clear hop hnew h1 hrows hK1
  go_enter Tryz.func7, Tryz.ntmps7
  go_wp2_with fail
  refine HNEW.out.out.mono ?_; rintro e w' ⟨rfl, rfl⟩
  go_wp2_with fail
  refine HOP.out.mono ?_
  rintro e w2 (⟨hn, _⟩ | ⟨size, fs, j, t, b, hres, hg, _⟩ | ⟨size, fs, j, t, b, g, ve, vl, es, hres, hg, rfl, h2⟩)
  · cases hn
  · cases hres
    cases hg
  cases hres
  cases hg
  have H2 := Lib.hid h2
  clear h2 HOP HNEW
  go_wp2_with fail
  refine (HAW.out _).mono ?_
  rintro e w3 ⟨rfl, hk3⟩
  have HS := Lib.hid (show GSt w w3 d j t b g [] 0 from ⟨_, _, _, _, _, Nat.zero_le _, (by simp), Nat.zero_le _, Nat.zero_le _, H2.out.quiet hk3⟩)
  clear H2 HAW hk3
  have hcb : (ll.length : Int) ≤ cap := by omega
  go_wp2_with fail
  go_loopw [48] (fun iv wx => ∃ (k : Nat) (es : List (List UInt8)), k ≤ K ∧ iv = .int .i64 (k : Int) ∧ GSt w wx d j t b g es k) (fun iv _ => K - (intOf iv).toNat)
  case atStart => exact ⟨0, [], Nat.zero_le _, rfl, HS.out⟩
  case round =>
    obtain ⟨k, es, hk, rfl, ho⟩ := hrel
    have i0 : (0 : Int) ≤ k := by omega
    by_cases hlt : k < K
    · have hlk : k < ll.length := by have := HKK.out; omega
      obtain ⟨p, hp⟩ : ∃ p, ll[k]? = some p := ⟨ll[k], List.getElem?_eq_getElem hlk⟩
      obtain ⟨x, pv, rfl, hx, hpr⟩ : ∃ x pv, a = some x ∧ w.cell? (x.add k) = some pv ∧ Reads w pv p := by
        obtain ⟨a', c', e, h⟩ := HROWS.out
        cases e
        exact h k p hp
      have hxr : wr.cell? (x.add k) = some pv := by
        rw [World.cell?_of_block (ho.keeps.block _ (World.block_lt_of_cell? w _ hx) (fun e => e))]
        exact hx
      obtain ⟨pa, pc, hpv, -, -⟩ := hpr.form
      have hpm : (p.length : Int) ≤ 9223372036854775807 := by
        obtain ⟨pa', pc', e, h1, h2⟩ := hpr.form
        unfold maxLen at h2
        omega
      subst hpv
      have i1 : (k : Int) < K := by omega
      have i2 : k + 1 ≤ K := by omega
      have i3 : (k : Int) < ll.length := by omega
      have HPR := Lib.hid hpr
      have HO := Lib.hid ho
      have HLK := Lib.hid (show k < 30 by have := HKK.out; omega)
      clear hpr ho hp hx hlt hlk hk
      by_cases hz : p.length ≤ 500
      · have z1 : (p.length : Int) ≤ 500 := by omega
        have HAD := Lib.hid (HO.out.add HLK.out HPR.out hz)
        clear HPR HO hz
        generalize p.length = np at *
        go_wp2_with fail
        refine HAD.out.mono ?_
        rintro e w4 ⟨rfl, h4⟩
        have HREL := Lib.hid (⟨k + 1, _, i2, rfl, h4⟩ : ∃ (k' : Nat) (es : List (List UInt8)), k' ≤ K ∧ Value.int .i64 ((k + 1 : Nat) : Int) = .int .i64 (k' : Int) ∧ GSt w w4 d j t b g es k')
        clear h4 HAD
        go_wp2_with fail
        go_roundw
        case rel => exact HREL.out
        case measure => simp [intOf]; omega
      · have z1 : (500 : Int) < p.length := by omega
        have HREL := Lib.hid (⟨k + 1, es, i2, rfl, HO.out.mono (by omega)⟩ : ∃ (k' : Nat) (es : List (List UInt8)), k' ≤ K ∧ Value.int .i64 ((k + 1 : Nat) : Int) = .int .i64 (k' : Int) ∧ GSt w wr d j t b g es k')
        clear HPR HO hz
        generalize p.length = np at *
        go_wp2_with fail
        go_roundw
        case rel => exact HREL.out
        case measure => simp [intOf]; omega
    · obtain rfl : k = K := by omega
      have HO := Lib.hid ho
      clear ho hlt hk
      obtain ⟨bb, size, fs, ve, vl, he1, he2, -, -, h5⟩ := HO.out
      have hsz := gsize_runs (logAtAdd h5)
      obtain ⟨n1, hn1⟩ : ∃ n1 : Nat, n1 = es.length + 1 := ⟨_, rfl⟩
      have hkk := HKK.out
      have hw1 : wrap64 ((es.length : Int) + 1) = (n1 : Int) := by rw [IntWalk.wrap64_in _ (by omega)]; omega
      have hw2 : IntKind.u64.wrap (n1 : Int) = (n1 : Int) := IntWalk.u64_in _ (by omega)
      have hz1 : ¬ ((n1 : Int) = 0) := by omega
      obtain ⟨N, hN, hN2⟩ := uint_mod n n1 (by omega) (by omega)
      have hrt := groot_calls (logAtAdd h5) (by omega) (n := N) (by omega)
      have HE := Lib.hid (⟨by omega, by omega, he2⟩ : N ≤ es.length ∧ es.length ≤ 256 ∧ ∀ p ∈ es, p.length ≤ 500)
      have HSZ := Lib.hid hsz
      have HRT := Lib.hid hrt
      have H5 := Lib.hid h5
      obtain ⟨ds, hds⟩ : ∃ ds : Array Value, ds = ((rootOf ((leavesOf es).take N)).map u8v).toArray := ⟨_, rfl⟩
      have hr32 := rootOf_length ((leaves32 es).take N)
      have hdz : ds.size = 32 := by rw [hds]; simp [hr32]
      have hone : ds.all (·.oneCell') = true := by rw [hds]; exact bytes_one _
      have HDS := Lib.hid (⟨hds, hr32, hdz, hone⟩ : ds = ((rootOf ((leavesOf es).take N)).map u8v).toArray ∧ (rootOf ((leavesOf es).take N)).length = 32 ∧ ds.size = 32 ∧ ds.all (·.oneCell') = true)
      clear h5 hsz hrt he1 he2 hkk HO HKK hn1 hN2 hds hr32 hdz hone k1 HROWS
      go_wp2_with fail
      refine HSZ.out.out.mono ?_; rintro e w' ⟨rfl, rfl⟩
      generalize es.length = el at hw1 ⊢
      go_wp2_with fail
      refine HRT.out.mono ?_
      rintro e w5 ⟨rfl, hk5⟩
      rw [← HDS.out.1]
      have HB5 := Lib.hid (heap_alloc_new w5 (.cells zeroC 83))
      have HINF := Lib.hid (dig_info HDS.out.2.2.1)
      have HZZ := Lib.hid (show zeroC.size = ds.size by rw [HDS.out.2.2.1]; kernel_rfl)
      have HONE := Lib.hid HDS.out.2.2.2
      have h6 := Own.setRow (b := w5.heap.size) (cs := zeroC) (t := 83) ((H5.out.quiet hk5).alloc (.cells zeroC 83)) ds
      have H6 := Lib.hid h6
      clear h6 H5 hk5 HRT HSZ hw1 hw2 hz1
      go_wp2_with (refine wpList_store_row rfl 83 _ _ rfl w5.heap.size ds rfl rfl 83 _ HB5.out HINF.out HZZ.out HONE.out ?_)
      obtain ⟨w6, hw6⟩ : ∃ w6, w6 = (w5.alloc (.cells zeroC 83)).setRow w5.heap.size ds := ⟨_, rfl⟩
      rw [← hw6] at H6
      change Code.wp _ _ _ _ ((w5.alloc (.cells zeroC 83)).setRow w5.heap.size ds)
      rw [← hw6]
      clear HB5 hw6 HINF HZZ HONE
      generalize w5.heap.size = rb at *
      go_loopw [77] (fun iv wx => ∃ i : Nat, i ≤ N ∧ iv = .int .i64 (i : Int) ∧ Own w wx (rObj w.heap.size rb (.cells ds 83 (0, 0)) :: (tRes w.heap.size d j t b nmT ⟨oneT 1048576 bb, size, fs, false⟩ ++ (gRes w.heap.size g t ve vl es ++ [])))) (fun iv _ => N - (intOf iv).toNat)
      case atStart => exact ⟨0, Nat.zero_le _, rfl, H6.out⟩
      case round =>
        obtain ⟨i, hi, rfl, ho⟩ := hrel
        have i0 : (0 : Int) ≤ i := by omega
        by_cases hlt : i < N
        · have i1 : (i : Int) < N := by omega
          have i2 : i + 1 ≤ N := by omega
          have iN : (N : Int) ≤ 256 := by have := HE.out; omega
          obtain ⟨hE1, hE2, hE3⟩ := HE.out
          obtain ⟨p, hp⟩ : ∃ p, es[i]? = some p := ⟨es[i]'(by omega), List.getElem?_eq_getElem _⟩
          have hp5 : p.length ≤ 500 := hE3 p (List.mem_of_getElem? hp)
          have HEN := Lib.hid (gentry_calls (logAtAdd ho.drop) hp (by omega))
          have HO := Lib.hid ho
          have HP := Lib.hid (⟨hp, hp5⟩ : es[i]? = some p ∧ p.length ≤ 500)
          clear ho hE1 hE2 hE3 hp hp5 hlt hi H6
          go_wp2_with fail
          refine HEN.out.mono ?_
          rintro e w7 ⟨v, rfl, hv, hk7⟩
          have h7 := HO.out.addBytes hv hk7
          obtain ⟨va, vc, rfl, -, -⟩ := hv.bytes.form
          have hpa := gpath_calls (logAtAdd h7.drop.drop) HE.out.2.1 (i : Int) (n := N) HE.out.1
          rw [if_pos ⟨i0, i1⟩, if_pos ⟨i0, i1⟩] at hpa
          have HPA := Lib.hid hpa
          have H7 := Lib.hid h7
          clear hpa h7 hv hk7 HEN HO
          go_wp2_with fail
          refine HPA.out.mono ?_
          rintro e w8 ⟨v2, rfl, hd2, hk8⟩
          have H8 := Lib.hid (H7.out.quiet hk8)
          have hdin := hd2.ins
          obtain ⟨pa2, pc2, hv2⟩ := rows_dig hdin
          obtain ⟨pn, hpn⟩ : ∃ pn, pn = (pathOf ((leavesOf es).take N) (i : Int).toNat).length := ⟨_, rfl⟩
          rw [← hpn] at hv2
          subst hv2
          obtain ⟨dl, hdl⟩ : ∃ dl : List Value, dl = (rootOf ((leavesOf es).take N)).map u8v := ⟨_, rfl⟩
          have hdsl : ds = dl.toArray := by rw [hdl]; exact HDS.out.1
          have HRB := Lib.hid (fun w' (h : Keeps (fun _ => False) w8 w') => show w'.rangeAt rb 0 dl from fun k u hu => by
            rw [Nat.zero_add]
            exact cell_at (h.at ((H8.out.at (b := rb) (o := .cells ds 83 (0, 0)) (by simp)).1) (fun e => e)) (by rw [hdsl, List.getElem?_toArray]; exact hu))
          have HCI := Lib.hid (show (Tryz.prog.info? 83).map (·.size) = some dl.length by have h := dig_info HDS.out.2.2.1; rw [hdsl, List.size_toArray] at h; exact h)
          have HLF := Lib.hid (fun w' (h : Keeps (fun _ => False) w8 w') => leaf_calls (((H8.out.bytes (v := .slice va p.length vc) (l := p) (by simp)).1).keep h) (by have := HP.out.2; omega))
          have HCK := Lib.hid (fun w' (h : Keeps (fun _ => False) w8 w') => show Calls Tryz.prog 44 #[.agg dl.toArray, .int .i64 (N : Int), .int .i64 (i : Int), .agg ((leafOf p).map u8v).toArray, .slice pa2 pn pc2] w' (QuietP w' (.bool true)) from by
            have hx : ((leavesOf es).take N)[i]? = some (leafOf p) := by
              rw [List.getElem?_take_of_lt (by omega)]
              unfold leavesOf
              rw [List.getElem?_map, HP.out.1]
              rfl
            have hc := check_calls (I := i) (n := N) (by omega) (by have := HE.out; omega) HDS.out.2.1 (leafOf_length p) (hdin.keep h)
            rw [← hdl] at hc
            refine hc.mono ?_
            rintro e w'' ⟨D, ok, hcl, rfl, hk⟩
            have hln : ((leavesOf es).take N).length = N := by
              have h1 : (leavesOf es).length = es.length := List.length_map _
              rw [List.length_take, h1]
              have := HE.out.1
              omega
            obtain ⟨rfl, rfl⟩ := check_path hx (by rw [hln]; exact hcl)
            exact ⟨by simp, hk⟩)
          clear hd2 hk8 hdl H7 HPA hdin hpn hdsl
          go_wp2_with fail
          refine wp_region_held_drew (S := fun w' => Keeps (fun _ => False) w8 w') (by kernel_rfl) (by exact (Keeps.refl _ w8).drew) (fun hHeld => ?_)
          refine wpAnyH_take (i := 0) (oi := { dst := some 93, op := _, type := _, pos := _, after := _, guard := _ }) (v := .int .i64 0) rfl (by kernel_rfl) (by kernel_rfl) (by kernel_rfl) (fun _ _ _ h => h) (Or.inl ⟨by rfl, by intro w hSw; (try dsimp only at hSw); go_simp⟩) hHeld ?_
          try simp only [Act.put, List.setIfInBounds_toArray, List.set_cons_zero, List.set_cons_succ]
          refine wpAnyH_take (i := 1) (oi := { dst := some 94, op := _, type := _, pos := _, after := _, guard := _ }) (v := .bool false) rfl (by kernel_rfl) (by kernel_rfl) (by kernel_rfl) (fun _ _ _ h => h) (Or.inl ⟨by rfl, by intro w hSw; (try dsimp only at hSw); go_simp⟩) hHeld ?_
          try simp only [Act.put, List.setIfInBounds_toArray, List.set_cons_zero, List.set_cons_succ]
          refine wpAnyH_take (i := 2) (oi := { dst := some 95, op := _, type := _, pos := _, after := _, guard := _ }) (v := .bool false) rfl (by kernel_rfl) (by kernel_rfl) (by kernel_rfl) (fun _ _ _ h => h) (Or.inl ⟨by rfl, by intro w hSw; (try dsimp only at hSw); go_simp⟩) hHeld ?_
          try simp only [Act.put, List.setIfInBounds_toArray, List.set_cons_zero, List.set_cons_succ]
          refine wpAnyH_take (i := 3) (oi := { dst := some 96, op := _, type := _, pos := _, after := _, guard := _ }) (v := .int .i64 0) rfl (by kernel_rfl) (by kernel_rfl) (by kernel_rfl) (fun _ _ _ h => h) (Or.inl ⟨by rfl, by intro w hSw; (try dsimp only at hSw); go_simp⟩) hHeld ?_
          try simp only [Act.put, List.setIfInBounds_toArray, List.set_cons_zero, List.set_cons_succ]
          refine wpAnyH_take (i := 4) (oi := { dst := some 97, op := _, type := _, pos := _, after := _, guard := _ }) (v := .bool false) rfl (by kernel_rfl) (by kernel_rfl) (by kernel_rfl) (fun _ _ _ h => h) (Or.inl ⟨by rfl, by intro w hSw; (try dsimp only at hSw); go_simp⟩) hHeld ?_
          try simp only [Act.put, List.setIfInBounds_toArray, List.set_cons_zero, List.set_cons_succ]
          refine wpAnyH_take (i := 5) (oi := { dst := some 98, op := _, type := _, pos := _, after := _, guard := _ }) (v := .bool false) rfl (by kernel_rfl) (by kernel_rfl) (by kernel_rfl) (fun _ _ _ h => h) (Or.inl ⟨by rfl, by intro w hSw; (try dsimp only at hSw); go_simp⟩) hHeld ?_
          try simp only [Act.put, List.setIfInBounds_toArray, List.set_cons_zero, List.set_cons_succ]
          refine wpAnyH_take (i := 6) (oi := { dst := some 99, op := _, type := _, pos := _, after := _, guard := _ }) (v := .bool false) rfl (by kernel_rfl) (by kernel_rfl) (by kernel_rfl) (fun _ _ _ h => h) (Or.inl ⟨by rfl, by intro w hSw; (try dsimp only at hSw); go_simp⟩) hHeld ?_
          try simp only [Act.put, List.setIfInBounds_toArray, List.set_cons_zero, List.set_cons_succ]
          refine wpAnyH_take (i := 7) (oi := { dst := some 100, op := _, type := _, pos := _, after := _, guard := _ }) (v := .int .i64 0) rfl (by kernel_rfl) (by kernel_rfl) (by kernel_rfl) (fun _ _ _ h => h) (Or.inl ⟨by rfl, by intro w hSw; (try dsimp only at hSw); go_simp⟩) hHeld ?_
          try simp only [Act.put, List.setIfInBounds_toArray, List.set_cons_zero, List.set_cons_succ]
          refine wpAnyH_take (i := 8) (oi := { dst := some 101, op := _, type := _, pos := _, after := _, guard := _ }) (v := .bool false) rfl (by kernel_rfl) (by kernel_rfl) (by kernel_rfl) (fun _ _ _ h => h) (Or.inl ⟨by rfl, by intro w hSw; (try dsimp only at hSw); go_simp⟩) hHeld ?_
          try simp only [Act.put, List.setIfInBounds_toArray, List.set_cons_zero, List.set_cons_succ]
          refine wpAnyH_take (i := 9) (oi := { dst := some 102, op := _, type := _, pos := _, after := _, guard := _ }) (v := .bool false) rfl (by kernel_rfl) (by kernel_rfl) (by kernel_rfl) (fun _ _ _ h => h) (Or.inl ⟨by rfl, by intro w hSw; (try dsimp only at hSw); go_simp⟩) hHeld ?_
          try simp only [Act.put, List.setIfInBounds_toArray, List.set_cons_zero, List.set_cons_succ]
          refine wpAnyH_take (i := 10) (oi := { dst := some 103, op := _, type := _, pos := _, after := _, guard := _ }) (v := .bool false) rfl (by kernel_rfl) (by kernel_rfl) (by kernel_rfl) (fun _ _ _ h => h) (Or.inl ⟨by rfl, by intro w hSw; (try dsimp only at hSw); go_simp⟩) hHeld ?_
          try simp only [Act.put, List.setIfInBounds_toArray, List.set_cons_zero, List.set_cons_succ]
          refine wpAnyH_take (i := 11) (oi := { dst := some 104, op := _, type := _, pos := _, after := _, guard := _ }) (v := .agg (dl).toArray) rfl (by kernel_rfl) (by kernel_rfl) (by kernel_rfl) (fun _ _ _ h => h) (yieldsIf_load_mid (by rfl) _ _ rfl (rb) 0 rfl (dl) _ (fun w' h => HRB.out w' h) Tryz.underlying83 rfl HCI.out) hHeld ?_
          try simp only [Act.put, List.setIfInBounds_toArray, List.set_cons_zero, List.set_cons_succ]
          refine wpAnyH_take (i := 12) (oi := { dst := some 105, op := _, type := _, pos := _, after := _, guard := _ }) (v := .int .i64 (N : Int)) rfl (by kernel_rfl) (by kernel_rfl) (by kernel_rfl) (fun _ _ _ h => h) (Or.inl ⟨by rfl, by intro w hSw; (try dsimp only at hSw); go_simp⟩) hHeld ?_
          try simp only [Act.put, List.setIfInBounds_toArray, List.set_cons_zero, List.set_cons_succ]
          refine wpAnyH_take (i := 13) (oi := { dst := some 106, op := _, type := _, pos := _, after := _, guard := _ }) (v := .int .i64 (i : Int)) rfl (by kernel_rfl) (by kernel_rfl) (by kernel_rfl) (fun _ _ _ h => h) (Or.inl ⟨by rfl, by intro w hSw; (try dsimp only at hSw); go_simp⟩) hHeld ?_
          try simp only [Act.put, List.setIfInBounds_toArray, List.set_cons_zero, List.set_cons_succ]
          refine wpAnyH_take (i := 14) (oi := { dst := some 107, op := _, type := _, pos := _, after := _, guard := _ }) (v := .slice va p.length vc) rfl (by kernel_rfl) (by kernel_rfl) (by kernel_rfl) (fun _ _ _ h => h) (Or.inl ⟨by rfl, by intro w hSw; (try dsimp only at hSw); go_simp⟩) hHeld ?_
          try simp only [Act.put, List.setIfInBounds_toArray, List.set_cons_zero, List.set_cons_succ]
          refine wpAnyH_take (i := 16) (oi := { dst := some 109, op := _, type := _, pos := _, after := _, guard := _ }) (v := .slice pa2 pn pc2) rfl (by kernel_rfl) (by kernel_rfl) (by kernel_rfl) (fun _ _ _ h => h) (Or.inl ⟨by rfl, by intro w hSw; (try dsimp only at hSw); go_simp⟩) hHeld ?_
          try simp only [Act.put, List.setIfInBounds_toArray, List.set_cons_zero, List.set_cons_succ]
          refine wpAnyH_ready (rs := [15]) (by kernel_rfl) (by simp) ?_
          refine AllReadyH.cons (o := { dst := some 108, op := _, type := _, pos := _, after := _, guard := _ }) rfl (fun K hK => ?_) AllReadyH.nil
          go_simp
          go_at_call 45
          refine (HLF.out _ hHeld).mono ?_
          rintro e w9 ⟨rfl, hk9⟩
          refine hK.out _ _ (by exact hHeld.trans hk9 (fun _ _ e => e)) (fun hHeld1 => ?_)
          clear hK K
          try simp only [Act.put, List.setIfInBounds_toArray, List.set_cons_zero, List.set_cons_succ]
          refine wpAnyH_ready (rs := [17]) (by kernel_rfl) (by simp) ?_
          refine AllReadyH.cons (o := { dst := some 110, op := _, type := _, pos := _, after := _, guard := _ }) rfl (fun K hK => ?_) AllReadyH.nil
          go_simp
          go_at_call 44
          refine (HCK.out _ hHeld1).mono ?_
          rintro e w10 ⟨rfl, hk10⟩
          refine hK.out _ _ (by exact hHeld1.trans hk10 (fun _ _ e => e)) (fun hHeld2 => ?_)
          clear hK K
          try simp only [Act.put, List.setIfInBounds_toArray, List.set_cons_zero, List.set_cons_succ]
          refine wpAnyH_take (i := 18) (oi := { dst := some 111, op := _, type := _, pos := _, after := _, guard := _ }) (v := .bool false) rfl (by kernel_rfl) (by kernel_rfl) (by kernel_rfl) (fun _ _ _ h => h) (Or.inl ⟨by rfl, by intro w hSw; (try dsimp only at hSw); go_simp⟩) hHeld2 ?_
          try simp only [Act.put, List.setIfInBounds_toArray, List.set_cons_zero, List.set_cons_succ]
          refine wpAnyH_take (i := 19) (oi := { dst := some 112, op := _, type := _, pos := _, after := _, guard := _ }) (v := .bool false) rfl (by kernel_rfl) (by kernel_rfl) (by kernel_rfl) (fun _ _ _ h => h) (Or.inl ⟨by rfl, by intro w hSw; (try dsimp only at hSw); go_simp⟩) hHeld2 ?_
          try simp only [Act.put, List.setIfInBounds_toArray, List.set_cons_zero, List.set_cons_succ]
          refine wpAnyH_done (by kernel_rfl) ?_ _
          have HO10 := Lib.hid (H8.out.quiet hHeld2)
          have HOL := Lib.hid (show ∀ wx, Own w wx (rObj w.heap.size rb (.cells ds 83 (0, 0)) :: (tRes w.heap.size d j t b nmT ⟨oneT 1048576 bb, size, fs, false⟩ ++ (gRes w.heap.size g t ve vl es ++ []))) → ∃ i' : Nat, i' ≤ N ∧ Value.int .i64 ((i + 1 : Nat) : Int) = .int .i64 (i' : Int) ∧ Own w wx (rObj w.heap.size rb (.cells ds 83 (0, 0)) :: (tRes w.heap.size d j t b nmT ⟨oneT 1048576 bb, size, fs, false⟩ ++ (gRes w.heap.size g t ve vl es ++ []))) from fun wx h => ⟨i + 1, i2, rfl, h⟩)
          clear H8 HRB HCI HLF HCK HDS
          have i9 : (p.length : Int) ≤ 500 := by have := HP.out.2; omega
          go_wp2_with fail
          go_loopw [115] (fun kv wx => ∃ k : Nat, k ≤ p.length ∧ kv = .int .i64 (k : Int) ∧ Own w wx (rBytes w.heap.size (.slice va p.length vc) (turned p k) :: rObj w.heap.size rb (.cells ds 83 (0, 0)) :: (tRes w.heap.size d j t b nmT ⟨oneT 1048576 bb, size, fs, false⟩ ++ (gRes w.heap.size g t ve vl es ++ [])))) (fun kv _ => p.length - (intOf kv).toNat)
          case atStart => exact ⟨0, Nat.zero_le _, rfl, by rw [turned_zero]; exact HO10.out⟩
          case round =>
            obtain ⟨k, hk, rfl, ho⟩ := hrel
            have j0 : (0 : Int) ≤ k := by omega
            by_cases hkl : k < p.length
            · have j1 : (k : Int) < p.length := by omega
              have hkl' : k < (turned p k).length := by rw [turned_len]; exact hkl
              obtain ⟨gp, e, _, hnc, hcq, hfq, hst⟩ := ho.setByte hkl' (p[k] ^^^ 255)
              subst e
              rw [turned_get hkl] at hcq
              replace hst := hst wr.drawn
              rw [turned_step hkl] at hst
              have e1 : bits .xor .u8 (p[k].toNat : Int) 255 = ((p[k] ^^^ 255).toNat : Int) := by
                rw [UInt8.toNat_xor]; exact u8_xor_nat _ 255 (UInt8.toNat_lt _) (by omega)
              have hby := p[k].toNat_lt
              have HST := Lib.hid (⟨k + 1, by omega, rfl, hst⟩ : ∃ k2 : Nat, k2 ≤ p.length ∧ Value.int .i64 ((k + 1 : Nat) : Int) = .int .i64 (k2 : Int) ∧ Own w (World.setCell wr ⟨gp, k, none⟩ (.int .u8 ((p[k] ^^^ 255).toNat : Int))) (rBytes w.heap.size (.slice (some ⟨gp, 0, none⟩) p.length vc) (turned p k2) :: rObj w.heap.size rb (.cells ds 83 (0, 0)) :: (tRes w.heap.size d j t b nmT ⟨oneT 1048576 bb, size, fs, false⟩ ++ (gRes w.heap.size g t ve vl es ++ []))))
              generalize p[k] ^^^ 255 = yb at e1 HST
              generalize p[k].toNat = xb at hcq e1 hby
              have j5 : (xb : Int) < 256 := by omega
              have j6 : (0 : Int) ≤ xb := by omega
              have HKL := Lib.hid hkl
              clear ho hst hby hkl hk hkl' HO10 HP HOL
              go_wp2_with fail
              go_roundw
              case rel => exact HST.out
              case measure => have := HKL.out; simp [intOf]; omega
            · obtain rfl : k = p.length := by omega
              have HEN := Lib.hid (gentry_calls (logAtAdd ho.drop.drop) HP.out.1 (by have := HP.out.2; omega))
              have HO := Lib.hid ho
              clear ho hkl hk HO10
              go_wp2_with fail
              refine HEN.out.mono ?_
              rintro e w11 ⟨v3, rfl, hv3, hk11⟩
              have HO11 := Lib.hid ((HO.out.quiet hk11).drop)
              have hr1 := ((HO.out.bytes (v := .slice va p.length vc) (l := turned p p.length) (by simp)).1).keep hk11
              have hsm := same_calls hr1 hv3.bytes.reads
              obtain ⟨va3, vc3, rfl, -, -⟩ := hv3.bytes.form
              by_cases hz : 0 < p.length
              · have z1 : (0 : Int) < p.length := by omega
                rw [decide_eq_false (turned_ne hz)] at hsm
                have HSM := Lib.hid hsm
                clear hsm hr1 hv3 hk11 HEN HO hz HP
                go_wp2_with fail
                refine HSM.out.mono ?_
                rintro e w12 ⟨rfl, hk12⟩
                have HREL := Lib.hid (HOL.out _ (HO11.out.quiet hk12))
                clear hk12 HSM HO11 HOL
                go_wp2_with fail
                go_roundw
                case rel => exact HREL.out
                case measure => simp [intOf]; omega
              · have z0 : p.length = 0 := by omega
                have HREL := Lib.hid (HOL.out _ HO11.out)
                clear hsm hr1 hv3 hk11 HEN HO hz HP HO11 HOL
                rw [z0]
                go_wp2_with fail
                go_roundw
                case rel => exact HREL.out
                case measure => simp [intOf]; omega
        · obtain rfl : i = N := by omega
          have HF := Lib.hid ho.below
          clear ho hlt hi H6
          go_wp2_with fail
          go_ret
          exact ⟨rfl, HF.out⟩
end Go.Proofs.YtaeabdghlkdkjaaGreat
