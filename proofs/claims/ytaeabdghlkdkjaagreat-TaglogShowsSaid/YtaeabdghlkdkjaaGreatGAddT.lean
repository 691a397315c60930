/- taglog: Add, of an entry alone. -/
import Derived.Test.YtaeabdghlkdkjaaGreatGAdd
import Derived.Test.YtaeabdghlkdkjaaGreatTApp
namespace Go.Proofs.YtaeabdghlkdkjaaGreat
set_option linter.unusedVariables false
open Go.RowKit Go.MapKept

set_option maxRecDepth 100000 in
theorem chclone_nil (w : World) : Calls Tryz.prog 110 #[.slice none 0 0] w fun e w' => e = .returned (.slice none 0 0) ∧ w = w' := by
  have hq := Lib.run_eql_slice_nil (P := Tryz.prog) w 56 60 none 0 0 0 0 Tryz.underlying56
  go_enter Tryz.func110, Tryz.ntmps110
  go_wp2
  go_ret
  exact ⟨rfl, rfl⟩
/-- A row of cells of one's own. -/
def rRaw (B : Nat) (v : Value) (T size n : Nat) (xs : List Value) : Res B := ⟨fun F w => w.ownsRow 0 T size v n xs ∧ ∀ b, v.ownBlock = some b → F b, fun _ _ _ h hk => ⟨rrow_keep h.1 (fun b hb => hk b (.inl (h.2 b hb))), h.2⟩⟩
theorem own_after4 {w wr : World} {a b c d r : Res w.heap.size} {rs : List (Res w.heap.size)} (h : Own w wr (r :: a :: b :: c :: d :: rs)) : Own w wr (a :: b :: c :: d :: r :: rs) := h.perm (List.perm_middle (l₁ := [a, b, c, d])).symm
theorem own_before4 {w wr : World} {a b c d r : Res w.heap.size} {rs : List (Res w.heap.size)} (h : Own w wr (a :: b :: c :: d :: r :: rs)) : Own w wr (r :: a :: b :: c :: d :: rs) := Own.pull (l₁ := [a, b, c, d]) h
/-- 'append(nil, c)': a row of one change; its bytes lie where they lay. -/
theorem one_change (w : World) (k : ByteArray) {pv : Value} (hpv : pv.oneCell' = true) : ∃ a c w', (Builtin.append_ #[56, 56] 56 #[.slice none 0 0, .slice (some ⟨w.heap.size, 0, none⟩) 1 1]).run Tryz.prog (w.alloc (.cells #[.string k, .bool false, pv] 60)) = .ok (.slice a 1 c) w' ∧
    w'.ownsRow w.heap.size 60 3 (.slice a 1 c) 1 [.string k, .bool false, pv] ∧ Keeps (fun _ => False) w w' := by
  obtain ⟨i0, hi, hz0', hz1, hz2⟩ := info_parts info_tchange
  obtain ⟨v', w', hrun, ho2, hg, _, hat⟩ := run_append_own_at (P := Tryz.prog) (w.alloc (.cells #[.string k, .bool false, pv] 60)) w.heap.size 56 56 60 i0 _ 3 48 Tryz.underlying56 hi hz0' hz1 hz2 rfl (by omega) (.slice none 0 0) 0 [] ⟨rfl, .inl ⟨rfl, rfl⟩⟩ ⟨w.heap.size, 0, none⟩ 1 1 [.string k, .bool false, pv] rfl
    (fun j u hu => by
      rw [Addr.add_lit, Nat.zero_add]
      exact cell_at (heap_alloc_new w _) (by simpa using hu))
    (by intro u hu; simp at hu; rcases hu with rfl | rfl | rfl; rfl; rfl; exact hpv) (by unfold maxLen; omega) (by omega) (by simp only [World.size_alloc]; omega)
  obtain ⟨a, c, rfl⟩ := ownsRow_slice ho2
  exact ⟨a, c, w', hrun, ho2, ((Keeps.refl _ w).alloc _).trans ((Keeps.of_grown hg).mono (fun b _ e => by cases e)) (fun _ _ e => e)⟩
theorem raw_in {w wr : World} {rs : List (Res w.heap.size)} {a : Option Addr} {n c : Nat} {k : ByteArray} {pv : Value} {p : List UInt8} (h : Own w wr rs) (hm : rRaw w.heap.size (.slice a n c) 60 3 1 [.string k, .bool false, pv] ∈ rs) (hp : Reads wr pv p) : TChsIn wr a [⟨k, false, p⟩] := by
  obtain ⟨F, ⟨ho, _⟩, _⟩ := h.mem hm
  rcases ho.2 with ⟨-, e⟩ | ⟨g, cap, cur, e, _, hb, _⟩
  · omega
  · simp only [Value.slice.injEq] at e
    obtain ⟨rfl, -, -⟩ := e
    intro i ch hc
    match i, hc with
    | 0, hc =>
      cases hc
      have h0 := ho.cells (g := g) rfl 0 _ rfl
      have h1 := ho.cells (g := g) rfl 1 _ rfl
      have h2 := ho.cells (g := g) rfl 2 _ rfl
      exact ⟨_, _, rfl, h0, h1, h2, hp⟩
    | i + 1, hc => simp at hc
/-- What Add of an entry leaves. -/
def GAddPost (w : World) (d j t b g : Nat) (nm : ByteArray) (rs : List (Res w.heap.size)) (es : List (List UInt8)) (p : List UInt8) (r : Int × TM) (e : Ending) (w' : World) : Prop :=
  ∃ ve vl, e = .returned (.int .i64 r.1) ∧ Own w w' (tRes w.heap.size d j t b nm r.2 ++ (gRes w.heap.size g t ve vl (if r.1 = 0 then es ++ [p] else es) ++ rs))
theorem u64_small {k : Nat} (h : k < 18446744073709551616) : IntKind.u64.wrap (k : Int) = (k : Int) := by
  simp only [IntKind.wrap, IntKind.signed, IntKind.bits]
  simp
  omega
set_option maxRecDepth 100000 in
set_option maxHeartbeats 4000000 in
theorem gAdd_calls {w w0 : World} {d j t b g : Nat} {nm : ByteArray} {T : TM} {ve vl : Value} {es : List (List UInt8)} {rs : List (Res w.heap.size)} (h : Own w w0 (tRes w.heap.size d j t b nm T ++ (gRes w.heap.size g t ve vl es ++ rs)))
    {n : Nat} (hg : Good T.m n) (hn : n < 549755813888) (hs : T.size ≤ 1099511627776) (hl : es.length < 1048576) {pv : Value} {p : List UInt8} (hpl : p.length ≤ 70368744177662) (hp : ∀ (wr : World) (ls : List (Res w.heap.size)), Own w wr (ls ++ rs) → Reads wr pv p) :
    Calls Tryz.prog 40 #[.pointer (some ⟨g, 0, none⟩), pv, .slice none 0 0] w0 (GAddPost w d j t b g nm rs es p (tAppOf T nm [⟨keyOf es.length, false, p⟩])) := by
  have hd0 := h.drew
  have hob : ∀ {W : World} {T' : TM}, Own w W (tRes w.heap.size d j t b nm T' ++ (gRes w.heap.size g t ve vl es ++ rs)) → W.cell? ⟨g, 0, none⟩ = some (.pointer (some ⟨t, 0, none⟩)) ∧ W.cell? ⟨g, 1, none⟩ = some ve := fun {W T'} h => by
    obtain ⟨c0, c1, -, -⟩ := log_cells (h.at (b := g) (o := logObj t ve vl) (by simp [gRes])).1
    exact ⟨c0, c1⟩
  obtain ⟨va, vc, hve⟩ : ∃ a c, ve = .slice a es.length c := rows_form (h.rows (v := ve) (ll := es) (by simp [gRes])).1
  subst hve
  obtain ⟨pa, pc, hpv, -, -⟩ := (hp w0 (tRes w.heap.size d j t b nm T ++ gRes w.heap.size g t _ vl es) (by rw [List.append_assoc]; exact h)).form
  subst hpv
  have hk0 := key_calls w0.drew (es.length : Int) es.length (u64_small (by omega)) (by omega)
  -- behind the key: the row of one change
  have hX : ∀ w1, Keeps (fun _ => False) w0.drew w1 → ∃ a c w2, (Builtin.append_ #[56, 56] 56 #[.slice none 0 0, .slice (some ⟨w1.heap.size, 0, none⟩) 1 1]).run Tryz.prog (w1.alloc (.cells #[.string (keyOf es.length), .bool false, .slice pa p.length pc] 60)) = .ok (.slice a 1 c) w2 ∧
      (w2.cell? ⟨g, 0, none⟩ = some (.pointer (some ⟨t, 0, none⟩)) ∧ w2.cell? ⟨g, 1, none⟩ = some (.slice va es.length vc)) ∧ ((w1.alloc (.cells #[.string (keyOf es.length), .bool false, .slice pa p.length pc] 60)).cell? ⟨g, 0, none⟩ = some (.pointer (some ⟨t, 0, none⟩)) ∧ (w1.alloc (.cells #[.string (keyOf es.length), .bool false, .slice pa p.length pc] 60)).cell? ⟨g, 1, none⟩ = some (.slice va es.length vc)) ∧
      Calls Tryz.prog 22 #[.pointer (some ⟨t, 0, none⟩), .slice a 1 c] w2 (fun e w3 => e = .returned (.int .i64 (tAppOf T nm [⟨keyOf es.length, false, p⟩]).1) ∧ Own w w3 (tRes w.heap.size d j t b nm (tAppOf T nm [⟨keyOf es.length, false, p⟩]).2 ++ (gRes w.heap.size g t (.slice va es.length vc) vl es ++ rs))) := fun w1 hk1 => by
    obtain ⟨a, c, w2, hrun, hrow, hk2⟩ := one_change w1 (keyOf es.length) (pv := .slice pa p.length pc) rfl
    have h1 := hd0.quiet hk1
    have h2 : Own w w2 (rRaw w.heap.size (.slice a 1 c) 60 3 1 [.string (keyOf es.length), .bool false, .slice pa p.length pc] :: (tRes w.heap.size d j t b nm T ++ (gRes w.heap.size g t (.slice va es.length vc) vl es ++ rs))) :=
      h1.add hk2 (r := rRaw _ (.slice a 1 c) 60 3 1 [.string (keyOf es.length), .bool false, .slice pa p.length pc]) (G := fun b => (Value.slice a 1 c).ownBlock = some b) ⟨ownsRow_base0 hrow (Nat.zero_le _), fun _ hb => hb⟩ (fun b hb => by
        have := hrow.lt b hb
        omega)
    have h3 : Own w w2 (tRes w.heap.size d j t b nm T ++ (rRaw w.heap.size (.slice a 1 c) 60 3 1 [.string (keyOf es.length), .bool false, .slice pa p.length pc] :: (gRes w.heap.size g t (.slice va es.length vc) vl es ++ rs))) := own_after4 h2
    have hcm : 1 ≤ c ∧ c ≤ maxLen := by
      rcases hrow.2 with ⟨-, e⟩ | ⟨g', cap, cur, e, _, _, k1, k2, _⟩
      · omega
      · cases e; exact ⟨k1, k2⟩
    refine ⟨a, c, w2, hrun, hob (h2.drop), hob (h1.alloc _).drop, ?_⟩
    refine (tapply_callsO h3 hg hn hs (a := a) (c := c) (l := [⟨keyOf es.length, false, p⟩]) (fun wr ls ho => raw_in (n := 1) (c := c) ho (by simp) (hp wr (ls ++ (rRaw w.heap.size (.slice a 1 c) 60 3 1 [.string (keyOf es.length), .bool false, .slice pa p.length pc] :: gRes w.heap.size g t (.slice va es.length vc) vl es)) (by rw [List.append_assoc]; exact ho))) hcm.1 hcm.2).mono ?_
    rintro e w3 ⟨rfl, h4⟩
    exact ⟨rfl, (own_before4 h4).drop⟩
  obtain ⟨R, hR⟩ : ∃ R, tAppOf T nm [⟨keyOf es.length, false, p⟩] = R := ⟨_, rfl⟩
  rw [hR] at hX ⊢
  obtain ⟨rc, rT⟩ := R
  have hfin : ∀ w3, Own w w3 (tRes w.heap.size d j t b nm rT ++ (gRes w.heap.size g t (.slice va es.length vc) vl es ++ rs)) → Calls Tryz.prog 99 #[.pointer (some ⟨g, 0, none⟩), .slice pa p.length pc] w3 (fun e w' => e = .returned (.tuple #[]) ∧ ∃ ve' vl', Own w w' (tRes w.heap.size d j t b nm rT ++ (gRes w.heap.size g t ve' vl' (es ++ [p]) ++ rs))) := fun w3 h3 => by
    have h4 : Own w w3 (gRes w.heap.size g t (.slice va es.length vc) vl es ++ (tRes w.heap.size d j t b nm rT ++ rs)) := h3.perm (by rw [← List.append_assoc, ← List.append_assoc]; exact (List.perm_append_comm).append_right _)
    refine (gadd_calls h4 (by omega) hpl (fun wr ls ho => hp wr (ls ++ tRes w.heap.size d j t b nm rT) (by rw [List.append_assoc]; exact ho))).mono ?_
    rintro e w' ⟨rfl, ve', vl', h5⟩
    exact ⟨rfl, ve', vl', h5.perm (by rw [← List.append_assoc, ← List.append_assoc]; exact (List.perm_append_comm).append_right _)⟩
  obtain ⟨c0, c1⟩ := hob h
  have hc0 := hob hd0
  have HX := Lib.hid hX
  have HOB := Lib.hid (fun W T' h => hob (W := W) (T' := T') h)
  have HFIN := Lib.hid hfin
  have HK0 := Lib.hid hk0
  have HC1 := Lib.hid (fun w1 (hk : Keeps (fun _ => False) w0.drew w1) => hob (hd0.quiet hk))
  have i1 : (es.length : Int) < 1048576 := by omega
  have j1 : decide ((1048576 : Int) ≤ (es.length : Int)) = false := decide_eq_false (by omega)
  have HK00 := Lib.hid (Keeps.refl (fun _ => False) w0.drew)
  dsimp only at HX
  generalize keyOf es.length = ky at *
  clear h hd0 hob hk0 hX hR hfin hg hn hs hp hpl hl i1
  go_enter Tryz.func40, Tryz.ntmps40
  go_upto_region 5 with fail
  go_region_held3 (fun w' => w'.cell? ⟨g, 0, none⟩ = some (.pointer (some ⟨t, 0, none⟩)) ∧ w'.cell? ⟨g, 1, none⟩ = some (.slice va es.length vc)) (first | exact hc0 | exact hc1 | exact hc2 | exact hc2a | exact hc3 | go_keep) (first | (refine step_append_run rfl _ _ _ _ rfl rfl rfl hrun2 ?_) | (go_at_call 110; refine (chclone_nil _).mono ?_; rintro e w' ⟨rfl, rfl⟩) | (go_at_call 41; refine HK0.out.mono ?_; rintro e w1 ⟨rfl, hk1⟩; have hc1 := HC1.out w1 hk1; obtain ⟨xa, xc, w2, hrun2, hc2, hc2a, hap2⟩ := HX.out w1 hk1) | (go_at_call 22; refine hap2.mono ?_; rintro e w3 ⟨rfl, h3⟩; have hc3 := HOB.out _ _ h3))
  all_goals
    have H3 := Lib.hid h3
    clear hc0 hc1 hc2 hc2a hc3 hrun2 hap2 hk1 h3 HX HK0 HC1 HK00 HOB c0 c1
    by_cases h0 : rc = 0
    · subst h0
      have HA := Lib.hid (HFIN.out w3 H3.out)
      clear HFIN H3
      go_wp2_with fail
      refine HA.out.mono ?_
      rintro e w4 ⟨rfl, ve', vl', h4⟩
      have HF := Lib.hid (show GAddPost w d j t b g nm rs es p (0, rT) (.returned (.int .i64 0)) w4 from ⟨ve', vl', rfl, by rw [if_pos rfl]; exact h4⟩)
      clear h4 HA
      go_wp2_with fail
      go_ret
      exact HF.out
    · have b0 : (rc == 0) = false := by rw [beq_eq_false_iff_ne]; exact h0
      have HF := Lib.hid (show GAddPost w d j t b g nm rs es p (rc, rT) (.returned (.int .i64 rc)) w3 from ⟨_, _, rfl, by rw [if_neg h0]; exact H3.out⟩)
      clear HFIN H3 h0
      go_wp2_with fail
      go_ret
      exact HF.out
theorem gAdd_nil (w : World) (pv av : Value) : Runs 40 #[.pointer none, pv, av] w (.int .i64 2) w := by
  unfold Runs
  go_enter Tryz.func40, Tryz.ntmps40
  go_wp2_with fail
  go_ret
  exact ⟨rfl, rfl⟩
end Go.Proofs.YtaeabdghlkdkjaaGreat
