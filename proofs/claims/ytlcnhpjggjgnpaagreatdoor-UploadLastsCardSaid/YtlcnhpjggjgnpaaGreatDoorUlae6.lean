/- A part of the proof. -/
import Derived.Test.YtlcnhpjggjgnpaaGreatDoorUlae0
import Derived.Test.YtlcnhpjggjgnpaaGreatDoorUlae5
namespace Go.Proofs.YtlcnhpjggjgnpaaGreatDoor
set_option linter.unusedVariables false
set_option linter.unusedSimpArgs false
open Go.RowKit Go.MapKept
theorem slice_tailP (w : World) (a : Option Addr) (n c i : Nat) (h1 : i ≤ n) (h2 : n ≤ c) :
  (Instr.sliceAt 22 (.slice a n c) (some (.int .i64 (i : Int))) none none).run Tryz.prog w = .ok (.slice (if c = i then a else Option.map (fun x => x.add i) a) (n - i) (c - i)) w := by
 rw [run_sliceAt_slice _ _ _ _ _ _ elem_bytes, run_slice_any w 22 a n c elem_bytes]
 simp [Instr.sliceBounds, run_sliceBound, size_u8, Result.andThen, sliced, h1, h2, (by omega : (i : Int) ≤ (n : Int)), Nat.mul_one]
section
variable {w wr : World} {rs : List (Res w.heap.size)}
theorem Own.rdsBytes {S : List (Value × List UInt8)} {v : Value} {l : List UInt8} (h : Own w wr (rBytes w.heap.size v l :: rRds w.heap.size S :: rs)) : Own w wr (rRds w.heap.size ((v, l) :: S) :: rs) := by
 refine h.merge (fun F G hF hG p hp => ?_)
 rcases List.mem_cons.1 hp with rfl | hp
 ·exact ⟨Owns.bytes (show Owns wr 0 v l from hF.1) |>.reads, fun x n c e hne => .inl (.inl (hF.2 _ (by dsimp only at e; rw [e]; rfl)))⟩
 ·obtain ⟨q1, q2⟩ := (show ∀ p ∈ S, _ from hG) p hp
  exact ⟨q1, fun x n c e hne => (q2 x n c e hne).imp .inr id⟩
def UFh (y u d kb : Nat) (cl : List Value) (W : World) : Prop := (W.cell? ⟨y, 0, none⟩ = some (.pointer (some ⟨d, 0, none⟩)) ∧ W.cell? ⟨y, 3, none⟩ = some (.pointer (some ⟨u, 0, none⟩))) ∧ W.rangeAt kb 0 cl
theorem UFh.of {W : World} {y d st t u kb : Nat} {cl : List Value} {M : List (Res w.heap.size)} (h : Own w W M) (hy : rObj w.heap.size y (yObj d st t u) ∈ M) (hk : rObj w.heap.size kb (.cells cl.toArray 71) ∈ M) : UFh y u d kb cl W := by
 obtain ⟨k0, -, -, k3⟩ := y_cells (h.at (b := y) (o := yObj d st t u) hy).1
 refine ⟨⟨k0, k3⟩, fun k v hv => ?_⟩
 rw [Nat.zero_add]
 exact cell_at (h.at (b := kb) (o := .cells cl.toArray 71) hk).1 (by rw [List.getElem?_toArray]; exact hv)
def FndPost (w : World) (d u st t mp j b : Nat) (T : TM) (next : Int) (L : UL) (rs : List (Res w.heap.size)) (hv : List Kp) (e : Ending) (w' : World) : Prop :=
 ∃ (a : Option Addr) (c : Nat) (l : List KV) (S : List (Value × List UInt8)), e = .returned (.tuple #[.slice a l.length c, .bool true]) ∧ KRel S hv l ∧ Own w w' (tRes w.heap.size d j t b nmT T ++ (uRes w.heap.size d u st t mp next L ++ (rKRow w.heap.size (.slice a l.length c) l.length (kvs l) :: rRds w.heap.size S :: rs)))
variable {d u st t mp j b y : Nat} {T : TM} {next : Int} {L : UL}
theorem Own.kin {a : Option Addr} {c : Nat} {l : List KV} (h : Own w wr rs) (hm : rKRow w.heap.size (.slice a l.length c) l.length (kvs l) ∈ rs) : KIn wr a l := by
 obtain ⟨F, hr, -⟩ := h.kr hm
 exact KRow.kin hr
theorem Own.toHead {x : Res w.heap.size} {A B M : List (Res w.heap.size)} (h : Own w wr (A ++ (B ++ (x :: M)))) : Own w wr (x :: (A ++ (B ++ M))) := h.perm (by
 have h1 : (B ++ (x :: M)).Perm (x :: (B ++ M)) := List.perm_middle
 exact (h1.append_left A).trans List.perm_middle)
def UFg (g9 kb : Nat) (n : Int) (cl : List Value) (W : World) : Prop := W.cell? ⟨g9, 2, none⟩ = some (.int .i64 n) ∧ W.rangeAt kb 0 cl
theorem UFg.of {W : World} {g9 kb : Nat} {r : ByteArray} {til n : Int} {cl : List Value} {M : List (Res w.heap.size)} (h : Own w W M) (hy : rObj w.heap.size g9 (.cells #[.string r, .int .i64 til, .int .i64 n] 43) ∈ M) (hk : rObj w.heap.size kb (.cells cl.toArray 71) ∈ M) : UFg g9 kb n cl W := by
 refine ⟨cell_at (i := 2) (h.at (b := g9) (o := .cells #[.string r, .int .i64 til, .int .i64 n] 43) hy).1 rfl, fun k v hv => ?_⟩
 rw [Nat.zero_add]
 exact cell_at (h.at (b := kb) (o := .cells cl.toArray 71) hk).1 (by rw [List.getElem?_toArray]; exact hv)
theorem Own.fndPut {A B M : List (Res w.heap.size)} {g k : Res w.heap.size} {v : Value} {bb : List UInt8} {S : List (Value × List UInt8)} {ov : Value} {n : Nat} {xs : List Value}
  (h : Own w wr (A ++ (B ++ (rBytes w.heap.size v bb :: g :: k :: rKRow w.heap.size ov n xs :: rRds w.heap.size S :: M)))) : Own w wr (rKRow w.heap.size ov n xs :: rRds w.heap.size ((v, bb) :: S) :: (A ++ (B ++ M))) := by
 have h1 := h.toHead
 have h2 : Own w wr (g :: rBytes w.heap.size v bb :: (A ++ (B ++ (k :: rKRow w.heap.size ov n xs :: rRds w.heap.size S :: M)))) := Own.toHead (A := rBytes w.heap.size v bb :: A) h1
 have h3 := h2.drop
 have h4 : Own w wr (k :: rBytes w.heap.size v bb :: (A ++ (B ++ (rKRow w.heap.size ov n xs :: rRds w.heap.size S :: M)))) := Own.toHead (A := rBytes w.heap.size v bb :: A) h3
 have h5 := h4.drop
 have h6 : Own w wr (rKRow w.heap.size ov n xs :: rBytes w.heap.size v bb :: (A ++ (B ++ (rRds w.heap.size S :: M)))) := Own.toHead (A := rBytes w.heap.size v bb :: A) h5
 have h7 : Own w wr (rRds w.heap.size S :: rKRow w.heap.size ov n xs :: rBytes w.heap.size v bb :: (A ++ (B ++ M))) := Own.toHead (A := rKRow w.heap.size ov n xs :: rBytes w.heap.size v bb :: A) h6
 have h8 : Own w wr (rBytes w.heap.size v bb :: rRds w.heap.size S :: rKRow w.heap.size ov n xs :: (A ++ (B ++ M))) := h7.perm (by
  refine (List.Perm.cons _ (List.Perm.swap ..)).trans ?_
  exact List.Perm.swap ..)
 exact h8.rdsBytes.swap
theorem Own.twoEnd {A B M : List (Res w.heap.size)} {x y : Res w.heap.size} (h : Own w wr (x :: y :: (A ++ (B ++ M)))) : Own w wr (A ++ (B ++ (x :: y :: M))) := by
 have h1 : Own w wr (y :: x :: (A ++ (B ++ M))) := h.swap
 have h2 : Own w wr (x :: (A ++ (B ++ (y :: M)))) := Own.toEnd (A := x :: A) h1
 exact h2.toEnd
theorem in_end {r : Res w.heap.size} {A B M : List (Res w.heap.size)} (h : r ∈ M) : r ∈ A ++ (B ++ M) := List.mem_append_right _ (List.mem_append_right _ h)
theorem in_end2 {r x y : Res w.heap.size} {A B M : List (Res w.heap.size)} (h : r ∈ M) : r ∈ A ++ (B ++ (x :: y :: M)) := in_end (List.mem_cons_of_mem _ (List.mem_cons_of_mem _ h))
theorem found_step {S : List Ses} {hv : List Kp} {k : Nat} {kp : Kp} (hk : hv[k]? = some kp) : foundOf (hv.take (k + 1)) S = foundOf (hv.take k) S ++ (match ofId S kp.id with | some x => [⟨kp.id, x.b, [], false⟩] | none => []) := by
 obtain ⟨hlt, rfl⟩ := List.getElem?_eq_some_iff.1 hk
 rw [List.take_succ_eq_append_getElem hlt]
 unfold foundOf
 rw [List.filterMap_append]
 congr 1
 cases h : ofId S hv[k].id <;> simp [h]
set_option maxRecDepth 100000 in
set_option maxHeartbeats 4000000 in
theorem found13_calls {w0 : World} (h : Own w w0 (tRes w.heap.size d j t b nmT T ++ (uRes w.heap.size d u st t mp next L ++ rs))) (hy : rObj w.heap.size y (yObj d st t u) ∈ rs) {S0 : List (Value × List UInt8)} (hr : rRds w.heap.size S0 ∈ rs) {a : Option Addr} {c : Nat} {l : List KV} (hkr : rKRow w.heap.size (.slice a l.length c) l.length (kvs l) ∈ rs) {hv : List Kp} (hR : KRel S0 hv l) (hF : FoundOk hv (L.map (·.1)) T.m) (hlen : l.length ≤ 1000) :
  Calls Tryz.prog 32 #[.pointer (some ⟨y, 0, none⟩), .slice a l.length c] w0 (FndPost w d u st t mp j b T next L rs (foundOf hv (L.map (·.1)))) := by
 have H := Lib.hid h
 have HY := Lib.hid hy
 have HR := Lib.hid hr
 have HKR := Lib.hid hkr
 have HREL := Lib.hid hR
 have HF := Lib.hid hF
 have i0 : (l.length : Int) ≤ 1000 := by omega
 have i1 : (0 : Int) ≤ (l.length : Int) := by omega
 clear h hy hr hkr hR hF
 go_enter Tryz.func32, Tryz.ntmps32
 go_wp2_with fail
 go_loopw [6, 15] (fun ov iv wx => ∃ (k : Nat) (oa : Option Addr) (oc : Nat) (lo : List KV) (S : List (Value × List UInt8)), k ≤ l.length ∧ iv = .int .i64 (k : Int) ∧ ov = .slice oa lo.length oc ∧ lo.length ≤ k ∧ KRel S (foundOf (hv.take k) (L.map (·.1))) lo ∧ (Value.slice none 0 0, []) ∈ S ∧ Own w wx (tRes w.heap.size d j t b nmT T ++ (uRes w.heap.size d u st t mp next L ++ (rKRow w.heap.size (.slice oa lo.length oc) lo.length (kvs lo) :: rRds w.heap.size S :: rs)))) (fun _ iv _ => l.length - (intOf iv).toNat)
 case atStart =>
  refine ⟨0, none, 0, [], [(.slice none 0 0, [])], Nat.zero_le _, rfl, rfl, Nat.le_refl _, KRel.nil, by simp, ?_⟩
  have h1 := (H.out.rdsNil.rdsOld (v := .slice none 0 0) (l := []) (.inl ⟨rfl, rfl⟩)).toEnd
  exact h1.krNil.toEnd
 case round =>
  obtain ⟨k, oa, oc, lo, S, hk, rfl, rfl, hlk, hrel2, hS0, ho⟩ := hrel
  have kk : (0 : Int) ≤ k := by omega
  by_cases hlt : k < l.length
  ·obtain ⟨kp, hkp⟩ : ∃ kp, hv[k]? = some kp := ⟨hv[k]'(by rw [← HREL.out.1]; exact hlt), List.getElem?_eq_getElem _⟩
   obtain ⟨x, hx, hone⟩ := HREL.out.at hkp
   obtain ⟨yy, e0, c0, c1, c2, c3⟩ := (ho.kin (in_end2 HKR.out)).at hx
   have hrs := ho.rds (S := S0) (in_end2 HR.out) hone.2.2.1
   have hrm := ho.rds (S := S0) (in_end2 HR.out) hone.2.2.2
   obtain ⟨sa, sc, hs, hs1, hs2⟩ := hrs.form
   obtain ⟨ma, mc, hm, hm1, hm2⟩ := hrm.form
   obtain ⟨xi, xs, xm, xe⟩ := x
   obtain ⟨q1, q2, q3, q4⟩ := hone
   dsimp only at q1 q2 q3 q4 hs hm c0 c1 c2 c3
   subst hs hm q1 q2
   subst e0
   have HX := Lib.hid hx
   have HREL2 := Lib.hid hrel2
   have HRS := Lib.hid q3
   have HRM := Lib.hid q4
   have HFO := Lib.hid (HF.out kp (List.mem_of_getElem? hkp))
   have HST := Lib.hid (found_step (S := L.map (·.1)) hkp)
   have HLEN := Lib.hid (And.intro hk (And.intro hlk hlt))
   have HS0 := Lib.hid hS0
   have j2 : (k : Int) < l.length := by omega
   have h1 := ho.endObj (.cells #[.int .i64 (kp.id : Int), .slice sa kp.sure.length sc, .slice ma kp.may.length mc, .bool kp.ends] 71)
   have H1 := Lib.hid h1
   clear h1 ho hx hrel2 q3 q4 hS0 hkp hk hlk hlt hrs hrm
   obtain ⟨id, sure, may, ends⟩ := kp
   dsimp only at *
   have HSL := Lib.hid (And.intro hs1 (And.intro hs2 (And.intro hm1 hm2)))
   generalize hsl : sure.length = sl at *
   generalize hml : may.length = ml at *
   have HSLE := Lib.hid hsl
   have HMLE := Lib.hid hml
   clear hs1 hs2 hm1 hm2 hsl hml
   obtain ⟨r, til, sz, cd, hlk⟩ : ∃ r til sz cd, lookOf L (id : Int) = (.agg #[.string r, .int .i64 til, .int .i64 sz], cd) := by
    unfold lookOf sesV
    cases uget L (id : Int) with
    | none => exact ⟨_, _, _, _, rfl⟩
    | some x => exact ⟨_, _, _, _, rfl⟩
   have HLK := Lib.hid (show ∀ W (M : List (Res w.heap.size)), Own w W (tRes w.heap.size d j t b nmT T ++ (uRes w.heap.size d u st t mp next L ++ M)) → Calls Tryz.prog 13 #[.pointer (some ⟨u, 0, none⟩), .int .i64 (id : Int)] W (QuietP W (.tuple #[.agg #[.string r, .int .i64 til, .int .i64 sz], .int .i64 cd])) from fun W M hW => by
    have := ulook_any hW (id : Int)
    rw [hlk] at this
    exact this)
   have HLKE := Lib.hid hlk
   clear hlk
   go_upto_region 5 with fail
   generalize wr.alloc (.cells #[.int .i64 (id : Int), .slice sa sl sc, .slice ma ml mc, .bool ends] 71) = w1 at *
   generalize wr.heap.size = kb at *
   go_cut [9, 10] from 19 to 28 (fun gv cv wx => ∃ g9 : Nat, gv = .pointer (some ⟨g9, 0, none⟩) ∧ cv = .int .i64 cd ∧ Own w wx (tRes w.heap.size d j t b nmT T ++ (uRes w.heap.size d u st t mp next L ++ (rObj w.heap.size g9 (.cells #[.string r, .int .i64 til, .int .i64 sz] 43) :: (rObj w.heap.size kb (.cells #[.int .i64 (id : Int), .slice sa sl sc, .slice ma ml mc, .bool ends] 71) :: (rKRow w.heap.size (.slice oa lo.length oc) lo.length (kvs lo) :: rRds w.heap.size S :: rs))))))
   ·
    refine wp_region_held_drew (S := UFh y u d kb [.int .i64 (id : Int), .slice sa sl sc, .slice ma ml mc, .bool ends]) (by kernel_rfl) (by exact UFh.of (st := st) (t := t) H1.out.drew (in_end (by simp [HY.out])) (in_end (by simp))) (fun hHeld => ?_)
    have H2 := Lib.hid H1.out.drew
    clear H1
    generalize w1.drew = w2 at *
    refine wpAnyH_take (i := 0) (oi := { dst := some 20, op := _, type := _, pos := _, after := _, guard := _ }) (v := .pointer (some ⟨y, 0, none⟩)) rfl (by kernel_rfl) (by kernel_rfl) (by kernel_rfl) (fun _ _ _ h => h) (Or.inl ⟨by rfl, by intro w hSw; (try dsimp only at hSw); go_simp⟩) hHeld ?_
    try simp only [Act.put, List.setIfInBounds_toArray, List.set_cons_zero, List.set_cons_succ]
    refine wpAnyH_take (i := 1) (oi := { dst := some 21, op := _, type := _, pos := _, after := _, guard := _ }) (v := .pointer (some ⟨y, 0, none⟩)) rfl (by kernel_rfl) (by kernel_rfl) (by kernel_rfl) (fun _ _ _ h => h) (Or.inl ⟨by rfl, by intro w hSw; (try dsimp only at hSw); go_simp⟩) hHeld ?_
    try simp only [Act.put, List.setIfInBounds_toArray, List.set_cons_zero, List.set_cons_succ]
    refine wpAnyH_take (i := 2) (oi := { dst := some 22, op := _, type := _, pos := _, after := _, guard := _ }) (v := .pointer (some ⟨y, 3, none⟩)) rfl (by kernel_rfl) (by kernel_rfl) (by kernel_rfl) (fun _ _ _ h => h) (Or.inl ⟨by rfl, by intro w hSw; (try dsimp only at hSw); go_simp⟩) hHeld ?_
    try simp only [Act.put, List.setIfInBounds_toArray, List.set_cons_zero, List.set_cons_succ]
    refine wpAnyH_take (i := 3) (oi := { dst := some 23, op := _, type := _, pos := _, after := _, guard := _ }) (v := .pointer (some ⟨u, 0, none⟩)) rfl (by kernel_rfl) (by kernel_rfl) (by kernel_rfl) (fun _ _ _ h => h) (Or.inl ⟨by rfl, by intro w hSw; (try dsimp only at hSw); (have q := hSw.1.2; go_simp)⟩) hHeld ?_
    try simp only [Act.put, List.setIfInBounds_toArray, List.set_cons_zero, List.set_cons_succ]
    refine wpAnyH_take (i := 4) (oi := { dst := some 24, op := _, type := _, pos := _, after := _, guard := _ }) (v := .pointer (some ⟨kb, 0, none⟩)) rfl (by kernel_rfl) (by kernel_rfl) (by kernel_rfl) (fun _ _ _ h => h) (Or.inl ⟨by rfl, by intro w hSw; (try dsimp only at hSw); go_simp⟩) hHeld ?_
    try simp only [Act.put, List.setIfInBounds_toArray, List.set_cons_zero, List.set_cons_succ]
    refine wpAnyH_take (i := 5) (oi := { dst := some 25, op := _, type := _, pos := _, after := _, guard := _ }) (v := .int .i64 (id : Int)) rfl (by kernel_rfl) (by kernel_rfl) (by kernel_rfl) (fun _ _ _ h => h) (Or.inl ⟨by rfl, by intro w hSw; (try dsimp only at hSw); (have q := hSw.2 0 _ rfl; simp only [Nat.zero_add] at q; go_simp)⟩) hHeld ?_
    try simp only [Act.put, List.setIfInBounds_toArray, List.set_cons_zero, List.set_cons_succ]
    refine wpAnyH_ready (rs := [6, 10]) (by kernel_rfl) (by simp) ?_
    refine AllReadyH.cons (o := { dst := some 26, op := _, type := _, pos := _, after := _, guard := _ }) rfl (fun K hK => ?_) (AllReadyH.cons (o := { dst := some 9, op := _, type := _, pos := _, after := _, guard := _ }) rfl (fun K hK => ?_) AllReadyH.nil)
    ·
     refine step_wanted' rfl ?_
     go_simp
     go_at_call 13
     refine (HLK.out _ _ H2.out).mono ?_
     rintro e w3 ⟨rfl, hk3⟩
     have H3 := Lib.hid (H2.out.quiet hk3)
     clear hk3
     refine hK.out _ _ (by exact UFh.of (st := st) (t := t) H3.out (in_end (by simp [HY.out])) (in_end (by simp))) (fun hHeld1 => ?_)
     clear hK K
     try simp only [Act.put, List.setIfInBounds_toArray, List.set_cons_zero, List.set_cons_succ]
     refine wpAnyH_take (i := 7) (oi := { dst := some 19, op := _, type := _, pos := _, after := _, guard := _ }) (v := .tuple #[.agg #[.string r, .int .i64 til, .int .i64 sz], .int .i64 cd]) rfl (by kernel_rfl) (by kernel_rfl) (by kernel_rfl) (fun _ _ _ h => h) (Or.inl ⟨by rfl, by intro w hSw; (try dsimp only at hSw); go_simp⟩) hHeld1 ?_
     try simp only [Act.put, List.setIfInBounds_toArray, List.set_cons_zero, List.set_cons_succ]
     refine wpAnyH_take (i := 8) (oi := { dst := some 27, op := _, type := _, pos := _, after := _, guard := _ }) (v := .agg #[.string r, .int .i64 til, .int .i64 sz]) rfl (by kernel_rfl) (by kernel_rfl) (by kernel_rfl) (fun _ _ _ h => h) (Or.inl ⟨by rfl, by intro w hSw; (try dsimp only at hSw); go_simp⟩) hHeld1 ?_
     try simp only [Act.put, List.setIfInBounds_toArray, List.set_cons_zero, List.set_cons_succ]
     refine wpAnyH_take (i := 9) (oi := { dst := some 28, op := _, type := _, pos := _, after := _, guard := _ }) (v := .int .i64 cd) rfl (by kernel_rfl) (by kernel_rfl) (by kernel_rfl) (fun _ _ _ h => h) (Or.inl ⟨by rfl, by intro w hSw; (try dsimp only at hSw); go_simp⟩) hHeld1 ?_
     try simp only [Act.put, List.setIfInBounds_toArray, List.set_cons_zero, List.set_cons_succ]
     refine wpAnyH_ready (rs := [10]) (by kernel_rfl) (by simp) ?_
     refine AllReadyH.cons (o := { dst := some 9, op := _, type := _, pos := _, after := _, guard := _ }) rfl (fun K hK => ?_) AllReadyH.nil
     refine step_wanted' rfl ?_
     go_simp
     have H4 := Lib.hid (H3.out.endObj (.cells #[.string ⟨#[]⟩, .int .i64 0, .int .i64 0] 43))
     refine hK.out _ _ (by exact UFh.of (st := st) (t := t) H4.out (in_end (by simp [HY.out])) (in_end (by simp))) (fun hHeld2 => ?_)
     clear hK K
     try simp only [Act.put, List.setIfInBounds_toArray, List.set_cons_zero, List.set_cons_succ]
     refine wpAnyH_ready (rs := [11]) (by kernel_rfl) (by simp) ?_
     refine AllReadyH.cons (o := { dst := none, op := _, type := _, pos := _, after := _, guard := _ }) rfl (fun K hK => ?_) AllReadyH.nil
     refine step_store_row rfl 43 _ _ rfl w3.heap.size #[.string r, .int .i64 til, .int .i64 sz] rfl rfl 43 _ (H4.out.at (in_end (List.mem_cons_self ..))).1 (by kernel_rfl) rfl (by kernel_rfl) ?_
     have H5 := Lib.hid (H4.out.toHead.setRow #[.string r, .int .i64 til, .int .i64 sz]).toEnd
     refine hK.out _ _ (by exact UFh.of (st := st) (t := t) H5.out (in_end (by simp [HY.out])) (in_end (by simp))) (fun hHeld3 => ?_)
     clear hK K
     try simp only [Act.put, List.setIfInBounds_toArray, List.set_cons_zero, List.set_cons_succ]
     refine wpAnyH_take (i := 12) (oi := { dst := some 10, op := _, type := _, pos := _, after := _, guard := _ }) (v := .int .i64 cd) rfl (by kernel_rfl) (by kernel_rfl) (by kernel_rfl) (fun _ _ _ h => h) (Or.inl ⟨by rfl, by intro w hSw; (try dsimp only at hSw); go_simp⟩) hHeld3 ?_
     try simp only [Act.put, List.setIfInBounds_toArray, List.set_cons_zero, List.set_cons_succ]
     refine wpAnyH_done (by kernel_rfl) ?_ _
     go_wp2_with fail
     go_meet
     exact ⟨_, rfl, rfl, H5.out⟩
    ·
     refine step_wanted' rfl ?_
     go_simp
     have H4 := Lib.hid (H2.out.endObj (.cells #[.string ⟨#[]⟩, .int .i64 0, .int .i64 0] 43))
     refine hK.out _ _ (by exact UFh.of (st := st) (t := t) H4.out (in_end (by simp [HY.out])) (in_end (by simp))) (fun hHeld1 => ?_)
     clear hK K
     generalize w2.alloc (Obj.cells #[.string ⟨#[]⟩, .int .i64 0, .int .i64 0] 43) = w4 at *
     generalize w2.heap.size = g9 at *
     try simp only [Act.put, List.setIfInBounds_toArray, List.set_cons_zero, List.set_cons_succ]
     refine wpAnyH_ready (rs := [6]) (by kernel_rfl) (by simp) ?_
     refine AllReadyH.cons (o := { dst := some 26, op := _, type := _, pos := _, after := _, guard := _ }) rfl (fun K hK => ?_) AllReadyH.nil
     refine step_wanted' rfl ?_
     go_simp
     go_at_call 13
     refine (HLK.out _ _ H4.out).mono ?_
     rintro e w3 ⟨rfl, hk3⟩
     have H3 := Lib.hid (H4.out.quiet hk3)
     clear hk3
     refine hK.out _ _ (by exact UFh.of (st := st) (t := t) H3.out (in_end (by simp [HY.out])) (in_end (by simp))) (fun hHeld2 => ?_)
     clear hK K
     try simp only [Act.put, List.setIfInBounds_toArray, List.set_cons_zero, List.set_cons_succ]
     refine wpAnyH_take (i := 7) (oi := { dst := some 19, op := _, type := _, pos := _, after := _, guard := _ }) (v := .tuple #[.agg #[.string r, .int .i64 til, .int .i64 sz], .int .i64 cd]) rfl (by kernel_rfl) (by kernel_rfl) (by kernel_rfl) (fun _ _ _ h => h) (Or.inl ⟨by rfl, by intro w hSw; (try dsimp only at hSw); go_simp⟩) hHeld2 ?_
     try simp only [Act.put, List.setIfInBounds_toArray, List.set_cons_zero, List.set_cons_succ]
     refine wpAnyH_take (i := 8) (oi := { dst := some 27, op := _, type := _, pos := _, after := _, guard := _ }) (v := .agg #[.string r, .int .i64 til, .int .i64 sz]) rfl (by kernel_rfl) (by kernel_rfl) (by kernel_rfl) (fun _ _ _ h => h) (Or.inl ⟨by rfl, by intro w hSw; (try dsimp only at hSw); go_simp⟩) hHeld2 ?_
     try simp only [Act.put, List.setIfInBounds_toArray, List.set_cons_zero, List.set_cons_succ]
     refine wpAnyH_take (i := 9) (oi := { dst := some 28, op := _, type := _, pos := _, after := _, guard := _ }) (v := .int .i64 cd) rfl (by kernel_rfl) (by kernel_rfl) (by kernel_rfl) (fun _ _ _ h => h) (Or.inl ⟨by rfl, by intro w hSw; (try dsimp only at hSw); go_simp⟩) hHeld2 ?_
     try simp only [Act.put, List.setIfInBounds_toArray, List.set_cons_zero, List.set_cons_succ]
     refine wpAnyH_ready (rs := [11]) (by kernel_rfl) (by simp) ?_
     refine AllReadyH.cons (o := { dst := none, op := _, type := _, pos := _, after := _, guard := _ }) rfl (fun K hK => ?_) AllReadyH.nil
     refine step_store_row rfl 43 _ _ rfl g9 #[.string r, .int .i64 til, .int .i64 sz] rfl rfl 43 _ (H3.out.at (in_end (List.mem_cons_self ..))).1 (by kernel_rfl) rfl (by kernel_rfl) ?_
     have H5 := Lib.hid (H3.out.toHead.setRow #[.string r, .int .i64 til, .int .i64 sz]).toEnd
     refine hK.out _ _ (by exact UFh.of (st := st) (t := t) H5.out (in_end (by simp [HY.out])) (in_end (by simp))) (fun hHeld3 => ?_)
     clear hK K
     try simp only [Act.put, List.setIfInBounds_toArray, List.set_cons_zero, List.set_cons_succ]
     refine wpAnyH_take (i := 12) (oi := { dst := some 10, op := _, type := _, pos := _, after := _, guard := _ }) (v := .int .i64 cd) rfl (by kernel_rfl) (by kernel_rfl) (by kernel_rfl) (fun _ _ _ h => h) (Or.inl ⟨by rfl, by intro w hSw; (try dsimp only at hSw); go_simp⟩) hHeld3 ?_
     try simp only [Act.put, List.setIfInBounds_toArray, List.set_cons_zero, List.set_cons_succ]
     refine wpAnyH_done (by kernel_rfl) ?_ _
     go_wp2_with fail
     go_meet
     exact ⟨_, rfl, rfl, H5.out⟩
   case rest =>
    obtain ⟨g9, rfl, rfl, ho5⟩ := hcut
    have H5 := Lib.hid ho5
    clear ho5 HLK
    rcases HFO.out with ⟨x', i, ho, hb, hth, hct, hle, hidl⟩ | ⟨ho, hends⟩
    ·have hug : ∃ sp q, uget L (id : Int) = some (x', sp, q) := by
      have := ofId_uget id L
      rw [ho] at this
      cases hu : uget L (id : Int) with
      | none => rw [hu] at this; cases this
      | some z =>
       rw [hu] at this
       obtain ⟨z1, z2, z3⟩ := z
       cases this
       exact ⟨_, _, rfl⟩
     obtain ⟨sp, q, hug⟩ := hug
     have hlk := HLKE.out
     unfold lookOf sesV at hlk
     rw [hug] at hlk
     dsimp only at hlk
     simp only [Prod.mk.injEq, Value.agg.injEq] at hlk
     have hcd := hlk.2
     have hsz : sz = (x'.b.length : Int) := by
      have := hlk.1
      simp at this
      exact this.2.2.symm
     have hst := HST.out
     rw [ho] at hst
     dsimp only at hst
     subst hcd hsz
     clear hlk HLKE HFO HST hug ho
     generalize hbe : x'.b = bb at *
     obtain ⟨dl, hd1, hd2, hd3, hd4⟩ : ∃ dl, bb.length = sl + dl ∧ dl ≤ ml ∧ bb.take sl = sure ∧ bb.drop sl = may.take dl := by
      have hsl := HSLE.out
      have hml := HMLE.out
      refine ⟨(may.take i).length, ?_, ?_, ?_, ?_⟩
      ·rw [hb, List.length_append, hsl]
      ·rw [← hml]; exact List.length_take_le' _ _
      ·rw [hb, ← hsl, List.take_left]
      ·rw [hb, ← hsl, List.drop_left, List.length_take]
       by_cases hi : i ≤ may.length
       ·rw [Nat.min_eq_left hi]
       ·rw [Nat.min_eq_right (by omega), List.take_length, List.take_of_length_le (by omega)]
     have HKEY := Lib.hid (fun W => ukey_calls W (id : Int) id (u64_small (by omega)) (by omega))
     have HRD := Lib.hid (show ∀ W (M : List (Res w.heap.size)), Own w W (tRes w.heap.size d j t b nmT T ++ (uRes w.heap.size d u st t mp next L ++ M)) → ∃ ra rc w', Runs 55 #[.pointer (some ⟨d, 0, none⟩), .string (ukeyOf id), .int .i64 0, .int .i64 1048576] W (.tuple #[.slice ra bb.length rc, .int .i64 0]) w' ∧ Own w w' (tRes w.heap.size d j t b nmT T ++ (uRes w.heap.size d u st t mp next L ++ (rBytes w.heap.size (.slice ra bb.length rc) bb :: M))) from fun W M hW => by
      have hrb : readBytes T.m (ukeyOf id) 0 1048576 = bb ∧ readCode T.m (ukeyOf id) 0 1048576 = 0 := by
       unfold readBytes readCode
       rw [if_pos hth, if_pos hth, if_neg (by omega), if_neg (by omega)]
       refine ⟨?_, rfl⟩
       show pieceOf (contOf T.m (ukeyOf id)) 0 _ = bb
       rw [hct]
       show (bb.drop 0).take 1048576 = bb
       rw [List.drop_zero, List.take_of_length_le hle]
      obtain ⟨ra, rc, w', hr, ho, -⟩ := Own.readOwn hW (ukeyOf id) 0 1048576 (by
       have : ((fget T.m.now (ukeyOf id)).getD []).length = bb.length := by rw [← hct]; rfl
       omega)
      rw [hrb.1] at hr ho
      rw [hrb.2] at hr
      exact ⟨ra, rc, w', hr, Own.toEnd ho⟩)
     have HD := Lib.hid (And.intro hd1 (And.intro hd2 (And.intro hd3 hd4)))
     have HLE := Lib.hid hle
     have HST := Lib.hid hst
     clear hd1 hd2 hd3 hd4 hle hst hct hth hidl hbe hb
     go_upto_region 9 with fail
     refine wp_region_held_drew (S := UFh y u d kb [.int .i64 (id : Int), .slice sa sl sc, .slice ma ml mc, .bool ends]) (by kernel_rfl) (by exact UFh.of (st := st) (t := t) H5.out.drew (in_end (by simp [HY.out])) (in_end (by simp))) (fun hHeld => ?_)
     have H6 := Lib.hid H5.out.drew
     clear H5
     generalize wc.drew = w6 at *
     refine wpAnyH_take (i := 0) (oi := { dst := some 35, op := _, type := _, pos := _, after := _, guard := _ }) (v := .pointer (some ⟨y, 0, none⟩)) rfl (by kernel_rfl) (by kernel_rfl) (by kernel_rfl) (fun _ _ _ h => h) (Or.inl ⟨by rfl, by intro w hSw; (try dsimp only at hSw); go_simp⟩) hHeld ?_
     try simp only [Act.put, List.setIfInBounds_toArray, List.set_cons_zero, List.set_cons_succ]
     refine wpAnyH_take (i := 1) (oi := { dst := some 36, op := _, type := _, pos := _, after := _, guard := _ }) (v := .pointer (some ⟨y, 0, none⟩)) rfl (by kernel_rfl) (by kernel_rfl) (by kernel_rfl) (fun _ _ _ h => h) (Or.inl ⟨by rfl, by intro w hSw; (try dsimp only at hSw); go_simp⟩) hHeld ?_
     try simp only [Act.put, List.setIfInBounds_toArray, List.set_cons_zero, List.set_cons_succ]
     refine wpAnyH_take (i := 2) (oi := { dst := some 37, op := _, type := _, pos := _, after := _, guard := _ }) (v := .pointer (some ⟨y, 0, none⟩)) rfl (by kernel_rfl) (by kernel_rfl) (by kernel_rfl) (fun _ _ _ h => h) (Or.inl ⟨by rfl, by intro w hSw; (try dsimp only at hSw); go_simp⟩) hHeld ?_
     try simp only [Act.put, List.setIfInBounds_toArray, List.set_cons_zero, List.set_cons_succ]
     refine wpAnyH_take (i := 3) (oi := { dst := some 38, op := _, type := _, pos := _, after := _, guard := _ }) (v := .pointer (some ⟨d, 0, none⟩)) rfl (by kernel_rfl) (by kernel_rfl) (by kernel_rfl) (fun _ _ _ h => h) (Or.inl ⟨by rfl, by intro w hSw; (try dsimp only at hSw); (have q := hSw.1.1; go_simp)⟩) hHeld ?_
     try simp only [Act.put, List.setIfInBounds_toArray, List.set_cons_zero, List.set_cons_succ]
     refine wpAnyH_take (i := 4) (oi := { dst := some 39, op := _, type := _, pos := _, after := _, guard := _ }) (v := .pointer (some ⟨kb, 0, none⟩)) rfl (by kernel_rfl) (by kernel_rfl) (by kernel_rfl) (fun _ _ _ h => h) (Or.inl ⟨by rfl, by intro w hSw; (try dsimp only at hSw); go_simp⟩) hHeld ?_
     try simp only [Act.put, List.setIfInBounds_toArray, List.set_cons_zero, List.set_cons_succ]
     refine wpAnyH_take (i := 5) (oi := { dst := some 40, op := _, type := _, pos := _, after := _, guard := _ }) (v := .int .i64 (id : Int)) rfl (by kernel_rfl) (by kernel_rfl) (by kernel_rfl) (fun _ _ _ h => h) (Or.inl ⟨by rfl, by intro w hSw; (try dsimp only at hSw); (have q := hSw.2 0 _ rfl; simp only [Nat.zero_add] at q; go_simp)⟩) hHeld ?_
     try simp only [Act.put, List.setIfInBounds_toArray, List.set_cons_zero, List.set_cons_succ]
     refine wpAnyH_ready (rs := [6]) (by kernel_rfl) (by simp) ?_
     refine AllReadyH.cons (o := { dst := some 41, op := _, type := _, pos := _, after := _, guard := _ }) rfl (fun K hK => ?_) AllReadyH.nil
     refine step_wanted' rfl ?_
     go_simp
     go_at_call 23
     refine (HKEY.out _).mono ?_
     rintro e w7 ⟨rfl, hk7⟩
     have H7 := Lib.hid (H6.out.quiet hk7)
     clear hk7 H6
     refine hK.out _ _ (by exact UFh.of (st := st) (t := t) H7.out (in_end (by simp [HY.out])) (in_end (by simp))) (fun hHeld1 => ?_)
     clear hK K
     try simp only [Act.put, List.setIfInBounds_toArray, List.set_cons_zero, List.set_cons_succ]
     refine wpAnyH_ready (rs := [7]) (by kernel_rfl) (by simp) ?_
     refine AllReadyH.cons (o := { dst := some 42, op := _, type := _, pos := _, after := _, guard := _ }) rfl (fun K hK => ?_) AllReadyH.nil
     refine step_wanted' rfl ?_
     go_simp
     go_at_call 55
     obtain ⟨ra, rc, w8, hrn, h8⟩ := HRD.out _ _ H7.out
     refine hrn.out.mono ?_
     rintro e w' ⟨rfl, rfl⟩
     have H8 := Lib.hid h8
     clear h8 hrn H7
     refine hK.out _ _ (by exact UFh.of (st := st) (t := t) H8.out (in_end (by simp [HY.out])) (in_end (by simp))) (fun hHeld2 => ?_)
     clear hK K
     try simp only [Act.put, List.setIfInBounds_toArray, List.set_cons_zero, List.set_cons_succ]
     refine wpAnyH_take (i := 8) (oi := { dst := some 34, op := _, type := _, pos := _, after := _, guard := _ }) (v := .tuple #[.slice ra bb.length rc, .int .i64 0]) rfl (by kernel_rfl) (by kernel_rfl) (by kernel_rfl) (fun _ _ _ h => h) (Or.inl ⟨by rfl, by intro w hSw; (try dsimp only at hSw); go_simp⟩) hHeld2 ?_
     try simp only [Act.put, List.setIfInBounds_toArray, List.set_cons_zero, List.set_cons_succ]
     refine wpAnyH_take (i := 9) (oi := { dst := some 43, op := _, type := _, pos := _, after := _, guard := _ }) (v := .slice ra bb.length rc) rfl (by kernel_rfl) (by kernel_rfl) (by kernel_rfl) (fun _ _ _ h => h) (Or.inl ⟨by rfl, by intro w hSw; (try dsimp only at hSw); go_simp⟩) hHeld2 ?_
     try simp only [Act.put, List.setIfInBounds_toArray, List.set_cons_zero, List.set_cons_succ]
     refine wpAnyH_take (i := 10) (oi := { dst := some 44, op := _, type := _, pos := _, after := _, guard := _ }) (v := .int .i64 0) rfl (by kernel_rfl) (by kernel_rfl) (by kernel_rfl) (fun _ _ _ h => h) (Or.inl ⟨by rfl, by intro w hSw; (try dsimp only at hSw); go_simp⟩) hHeld2 ?_
     try simp only [Act.put, List.setIfInBounds_toArray, List.set_cons_zero, List.set_cons_succ]
     refine wpAnyH_take (i := 11) (oi := { dst := some 11, op := _, type := _, pos := _, after := _, guard := _ }) (v := .slice ra bb.length rc) rfl (by kernel_rfl) (by kernel_rfl) (by kernel_rfl) (fun _ _ _ h => h) (Or.inl ⟨by rfl, by intro w hSw; (try dsimp only at hSw); go_simp⟩) hHeld2 ?_
     try simp only [Act.put, List.setIfInBounds_toArray, List.set_cons_zero, List.set_cons_succ]
     refine wpAnyH_take (i := 12) (oi := { dst := some 12, op := _, type := _, pos := _, after := _, guard := _ }) (v := .int .i64 0) rfl (by kernel_rfl) (by kernel_rfl) (by kernel_rfl) (fun _ _ _ h => h) (Or.inl ⟨by rfl, by intro w hSw; (try dsimp only at hSw); go_simp⟩) hHeld2 ?_
     try simp only [Act.put, List.setIfInBounds_toArray, List.set_cons_zero, List.set_cons_succ]
     refine wpAnyH_done (by kernel_rfl) ?_ _
     clear hHeld hHeld1 hHeld2 HKEY HRD
     obtain ⟨hrd8, -⟩ := H8.out.bytes (v := .slice ra bb.length rc) (l := bb) (in_end (List.mem_cons_self ..))
     have hrf : bb.length ≤ rc ∧ rc ≤ maxLen := by
      obtain ⟨a', c', e, h1, h2⟩ := hrd8.form
      cases e
      exact ⟨h1, h2⟩
     obtain ⟨hd1, hd2, hd3, hd4⟩ := HD.out
     generalize hbl : bb.length = bl at *
     have HBL := Lib.hid hbl
     have b1 : (dl : Int) ≤ (ml : Int) := by omega
     have b2 : (bl : Int) - (sl : Int) = (dl : Int) := by omega
     have b3 : (sl : Int) ≤ (bl : Int) := by omega
     have b4 : (bl : Int) ≤ 1048576 := by have := HLE.out; omega
     have b5 : (0 : Int) ≤ (sl : Int) := by omega
     have b6 : (0 : Int) ≤ (dl : Int) := by omega
     have b7 : (dl : Int) ≤ 1048576 := by omega
     have b8 : sl ≤ bl := by omega
     have W10 := Lib.hid (show IntKind.i64.wrap (dl : Int) = (dl : Int) by rw [IntKind.wrap_i64]; omega)
     have b9 : dl ≤ ml := by omega
     have hsl1 := fun W => slice_headP W ra bl rc sl (by omega)
     have hsl2 := fun W => slice_tailP W ra bl rc sl (by omega) (by omega)
     have hsl3 := fun W => slice_headP W ma ml mc dl (by have := HSL.out; omega)
     rw [show bl - sl = dl by omega] at hsl2
     have HS1 := Lib.hid (show ∀ W (M : List (Res w.heap.size)), Own w W (tRes w.heap.size d j t b nmT T ++ (uRes w.heap.size d u st t mp next L ++ (rBytes w.heap.size (.slice ra bl rc) bb :: M))) → rRds w.heap.size S0 ∈ M → Calls Tryz.prog 15 #[.slice ra sl rc, .slice sa sl sc] W (QuietP W (.bool true)) from fun W M hW hM => by
      have h1 := (hW.bytes (v := .slice ra bl rc) (l := bb) (by rw [HBL.out] at *; exact in_end (List.mem_cons_self ..))).1.headP sl (by rw [HBL.out]; omega)
      have h2 := hW.rds (S := S0) (in_end (List.mem_cons_of_mem _ hM)) HRS.out
      have := same_calls h1 h2
      rw [hd3] at this
      simpa using this)
     generalize hqa : (if rc = sl then ra else Option.map (fun x => x.add sl) ra) = qa at *
     have HS2 := Lib.hid (show ∀ W (M : List (Res w.heap.size)), Own w W (tRes w.heap.size d j t b nmT T ++ (uRes w.heap.size d u st t mp next L ++ (rBytes w.heap.size (.slice ra bl rc) bb :: M))) → rRds w.heap.size S0 ∈ M → Calls Tryz.prog 15 #[.slice qa dl (rc - sl), .slice ma dl mc] W (QuietP W (.bool true)) from fun W M hW hM => by
      have h1 := (hW.bytes (v := .slice ra bl rc) (l := bb) (in_end (List.mem_cons_self ..))).1.cutP sl dl (by rw [HBL.out]; omega)
      have h2 := (hW.rds (S := S0) (in_end (List.mem_cons_of_mem _ hM)) HRM.out).headP dl (by rw [HMLE.out]; omega)
      rw [hqa] at h1
      have := same_calls h1 h2
      rw [hd4, List.take_take, Nat.min_self] at this
      simpa using this)
     clear hrd8 hrf hd1 hd2 hd3 hd4 hbl hqa
     go_upto_region 10 with fail
     refine wp_region_held_drew (S := UFg g9 kb (bl : Int) [.int .i64 (id : Int), .slice sa sl sc, .slice ma ml mc, .bool ends]) (by kernel_rfl) (by exact UFg.of (r := r) (til := til) H8.out.drew (in_end (by simp)) (in_end (by simp))) (fun hHeld => ?_)
     have H9 := Lib.hid H8.out.drew
     clear H8
     generalize w8.drew = w9 at *
     refine wpAnyH_take (i := 0) (oi := { dst := some 45, op := _, type := _, pos := _, after := _, guard := _ }) (v := .int .i64 0) rfl (by kernel_rfl) (by kernel_rfl) (by kernel_rfl) (fun _ _ _ h => h) (Or.inl ⟨by rfl, by intro w hSw; (try dsimp only at hSw); go_simp⟩) hHeld ?_
     try simp only [Act.put, List.setIfInBounds_toArray, List.set_cons_zero, List.set_cons_succ]
     refine wpAnyH_take (i := 1) (oi := { dst := some 46, op := _, type := _, pos := _, after := _, guard := _ }) (v := .bool false) rfl (by kernel_rfl) (by kernel_rfl) (by kernel_rfl) (fun _ _ _ h => h) (Or.inl ⟨by rfl, by intro w hSw; (try dsimp only at hSw); go_simp⟩) hHeld ?_
     try simp only [Act.put, List.setIfInBounds_toArray, List.set_cons_zero, List.set_cons_succ]
     refine wpAnyH_take (i := 2) (oi := { dst := some 47, op := _, type := _, pos := _, after := _, guard := _ }) (v := .bool false) rfl (by kernel_rfl) (by kernel_rfl) (by kernel_rfl) (fun _ _ _ h => h) (Or.inl ⟨by rfl, by intro w hSw; (try dsimp only at hSw); go_simp⟩) hHeld ?_
     try simp only [Act.put, List.setIfInBounds_toArray, List.set_cons_zero, List.set_cons_succ]
     refine wpAnyH_take (i := 3) (oi := { dst := some 48, op := _, type := _, pos := _, after := _, guard := _ }) (v := .pointer (some ⟨g9, 2, none⟩)) rfl (by kernel_rfl) (by kernel_rfl) (by kernel_rfl) (fun _ _ _ h => h) (Or.inl ⟨by rfl, by intro w hSw; (try dsimp only at hSw); go_simp⟩) hHeld ?_
     try simp only [Act.put, List.setIfInBounds_toArray, List.set_cons_zero, List.set_cons_succ]
     refine wpAnyH_take (i := 4) (oi := { dst := some 49, op := _, type := _, pos := _, after := _, guard := _ }) (v := .int .i64 (bl : Int)) rfl (by kernel_rfl) (by kernel_rfl) (by kernel_rfl) (fun _ _ _ h => h) (Or.inl ⟨by rfl, by intro w hSw; (try dsimp only at hSw); (have q := hSw.1; go_simp)⟩) hHeld ?_
     try simp only [Act.put, List.setIfInBounds_toArray, List.set_cons_zero, List.set_cons_succ]
     refine wpAnyH_take (i := 5) (oi := { dst := some 50, op := _, type := _, pos := _, after := _, guard := _ }) (v := .slice ra bl rc) rfl (by kernel_rfl) (by kernel_rfl) (by kernel_rfl) (fun _ _ _ h => h) (Or.inl ⟨by rfl, by intro w hSw; (try dsimp only at hSw); go_simp⟩) hHeld ?_
     try simp only [Act.put, List.setIfInBounds_toArray, List.set_cons_zero, List.set_cons_succ]
     refine wpAnyH_take (i := 6) (oi := { dst := some 51, op := _, type := _, pos := _, after := _, guard := _ }) (v := .int .i64 (bl : Int)) rfl (by kernel_rfl) (by kernel_rfl) (by kernel_rfl) (fun _ _ _ h => h) (Or.inl ⟨by rfl, by intro w hSw; (try dsimp only at hSw); go_simp⟩) hHeld ?_
     try simp only [Act.put, List.setIfInBounds_toArray, List.set_cons_zero, List.set_cons_succ]
     refine wpAnyH_take (i := 7) (oi := { dst := some 52, op := _, type := _, pos := _, after := _, guard := _ }) (v := .bool false) rfl (by kernel_rfl) (by kernel_rfl) (by kernel_rfl) (fun _ _ _ h => h) (Or.inl ⟨by rfl, by intro w hSw; (try dsimp only at hSw); go_simp⟩) hHeld ?_
     try simp only [Act.put, List.setIfInBounds_toArray, List.set_cons_zero, List.set_cons_succ]
     refine wpAnyH_take (i := 8) (oi := { dst := some 53, op := _, type := _, pos := _, after := _, guard := _ }) (v := .bool false) rfl (by kernel_rfl) (by kernel_rfl) (by kernel_rfl) (fun _ _ _ h => h) (Or.inl ⟨by rfl, by intro w hSw; (try dsimp only at hSw); go_simp⟩) hHeld ?_
     try simp only [Act.put, List.setIfInBounds_toArray, List.set_cons_zero, List.set_cons_succ]
     refine wpAnyH_take (i := 9) (oi := { dst := some 54, op := _, type := _, pos := _, after := _, guard := _ }) (v := .bool false) rfl (by kernel_rfl) (by kernel_rfl) (by kernel_rfl) (fun _ _ _ h => h) (Or.inl ⟨by rfl, by intro w hSw; (try dsimp only at hSw); go_simp⟩) hHeld ?_
     try simp only [Act.put, List.setIfInBounds_toArray, List.set_cons_zero, List.set_cons_succ]
     refine wpAnyH_take (i := 10) (oi := { dst := some 55, op := _, type := _, pos := _, after := _, guard := _ }) (v := .slice ra bl rc) rfl (by kernel_rfl) (by kernel_rfl) (by kernel_rfl) (fun _ _ _ h => h) (Or.inl ⟨by rfl, by intro w hSw; (try dsimp only at hSw); go_simp⟩) hHeld ?_
     try simp only [Act.put, List.setIfInBounds_toArray, List.set_cons_zero, List.set_cons_succ]
     refine wpAnyH_take (i := 11) (oi := { dst := some 56, op := _, type := _, pos := _, after := _, guard := _ }) (v := .int .i64 (bl : Int)) rfl (by kernel_rfl) (by kernel_rfl) (by kernel_rfl) (fun _ _ _ h => h) (Or.inl ⟨by rfl, by intro w hSw; (try dsimp only at hSw); go_simp⟩) hHeld ?_
     try simp only [Act.put, List.setIfInBounds_toArray, List.set_cons_zero, List.set_cons_succ]
     refine wpAnyH_take (i := 12) (oi := { dst := some 57, op := _, type := _, pos := _, after := _, guard := _ }) (v := .pointer (some ⟨kb, 1, none⟩)) rfl (by kernel_rfl) (by kernel_rfl) (by kernel_rfl) (fun _ _ _ h => h) (Or.inl ⟨by rfl, by intro w hSw; (try dsimp only at hSw); go_simp⟩) hHeld ?_
     try simp only [Act.put, List.setIfInBounds_toArray, List.set_cons_zero, List.set_cons_succ]
     refine wpAnyH_take (i := 13) (oi := { dst := some 58, op := _, type := _, pos := _, after := _, guard := _ }) (v := .slice sa sl sc) rfl (by kernel_rfl) (by kernel_rfl) (by kernel_rfl) (fun _ _ _ h => h) (Or.inl ⟨by rfl, by intro w hSw; (try dsimp only at hSw); (have q := hSw.2 1 _ rfl; simp only [Nat.zero_add] at q; go_simp)⟩) hHeld ?_
     try simp only [Act.put, List.setIfInBounds_toArray, List.set_cons_zero, List.set_cons_succ]
     refine wpAnyH_take (i := 14) (oi := { dst := some 59, op := _, type := _, pos := _, after := _, guard := _ }) (v := .int .i64 (sl : Int)) rfl (by kernel_rfl) (by kernel_rfl) (by kernel_rfl) (fun _ _ _ h => h) (Or.inl ⟨by rfl, by intro w hSw; (try dsimp only at hSw); go_simp⟩) hHeld ?_
     try simp only [Act.put, List.setIfInBounds_toArray, List.set_cons_zero, List.set_cons_succ]
     refine wpAnyH_take (i := 15) (oi := { dst := some 60, op := _, type := _, pos := _, after := _, guard := _ }) (v := .bool false) rfl (by kernel_rfl) (by kernel_rfl) (by kernel_rfl) (fun _ _ _ h => h) (Or.inl ⟨by rfl, by intro w hSw; (try dsimp only at hSw); go_simp⟩) hHeld ?_
     try simp only [Act.put, List.setIfInBounds_toArray, List.set_cons_zero, List.set_cons_succ]
     refine wpAnyH_take (i := 16) (oi := { dst := some 61, op := _, type := _, pos := _, after := _, guard := _ }) (v := .bool false) rfl (by kernel_rfl) (by kernel_rfl) (by kernel_rfl) (fun _ _ _ h => h) (Or.inl ⟨by rfl, by intro w hSw; (try dsimp only at hSw); go_simp⟩) hHeld ?_
     try simp only [Act.put, List.setIfInBounds_toArray, List.set_cons_zero, List.set_cons_succ]
     refine wpAnyH_take (i := 17) (oi := { dst := some 62, op := _, type := _, pos := _, after := _, guard := _ }) (v := .bool false) rfl (by kernel_rfl) (by kernel_rfl) (by kernel_rfl) (fun _ _ _ h => h) (Or.inl ⟨by rfl, by intro w hSw; (try dsimp only at hSw); go_simp⟩) hHeld ?_
     try simp only [Act.put, List.setIfInBounds_toArray, List.set_cons_zero, List.set_cons_succ]
     refine wpAnyH_take (i := 18) (oi := { dst := some 63, op := _, type := _, pos := _, after := _, guard := _ }) (v := .slice ra bl rc) rfl (by kernel_rfl) (by kernel_rfl) (by kernel_rfl) (fun _ _ _ h => h) (Or.inl ⟨by rfl, by intro w hSw; (try dsimp only at hSw); go_simp⟩) hHeld ?_
     try simp only [Act.put, List.setIfInBounds_toArray, List.set_cons_zero, List.set_cons_succ]
     refine wpAnyH_take (i := 19) (oi := { dst := some 64, op := _, type := _, pos := _, after := _, guard := _ }) (v := .int .i64 (bl : Int)) rfl (by kernel_rfl) (by kernel_rfl) (by kernel_rfl) (fun _ _ _ h => h) (Or.inl ⟨by rfl, by intro w hSw; (try dsimp only at hSw); go_simp⟩) hHeld ?_
     try simp only [Act.put, List.setIfInBounds_toArray, List.set_cons_zero, List.set_cons_succ]
     refine wpAnyH_take (i := 20) (oi := { dst := some 65, op := _, type := _, pos := _, after := _, guard := _ }) (v := .pointer (some ⟨kb, 1, none⟩)) rfl (by kernel_rfl) (by kernel_rfl) (by kernel_rfl) (fun _ _ _ h => h) (Or.inl ⟨by rfl, by intro w hSw; (try dsimp only at hSw); go_simp⟩) hHeld ?_
     try simp only [Act.put, List.setIfInBounds_toArray, List.set_cons_zero, List.set_cons_succ]
     refine wpAnyH_take (i := 21) (oi := { dst := some 66, op := _, type := _, pos := _, after := _, guard := _ }) (v := .slice sa sl sc) rfl (by kernel_rfl) (by kernel_rfl) (by kernel_rfl) (fun _ _ _ h => h) (Or.inl ⟨by rfl, by intro w hSw; (try dsimp only at hSw); (have q := hSw.2 1 _ rfl; simp only [Nat.zero_add] at q; go_simp)⟩) hHeld ?_
     try simp only [Act.put, List.setIfInBounds_toArray, List.set_cons_zero, List.set_cons_succ]
     refine wpAnyH_take (i := 22) (oi := { dst := some 67, op := _, type := _, pos := _, after := _, guard := _ }) (v := .int .i64 (sl : Int)) rfl (by kernel_rfl) (by kernel_rfl) (by kernel_rfl) (fun _ _ _ h => h) (Or.inl ⟨by rfl, by intro w hSw; (try dsimp only at hSw); go_simp⟩) hHeld ?_
     try simp only [Act.put, List.setIfInBounds_toArray, List.set_cons_zero, List.set_cons_succ]
     refine wpAnyH_take (i := 23) (oi := { dst := some 68, op := _, type := _, pos := _, after := _, guard := _ }) (v := .int .i64 (dl : Int)) rfl (by kernel_rfl) (by kernel_rfl) (by kernel_rfl) (fun _ _ _ h => h) (Or.inl ⟨by rfl, by intro w hSw; (try dsimp only at hSw); (go_simp; first | done | exact W10.out)⟩) hHeld ?_
     try simp only [Act.put, List.setIfInBounds_toArray, List.set_cons_zero, List.set_cons_succ]
     refine wpAnyH_take (i := 24) (oi := { dst := some 69, op := _, type := _, pos := _, after := _, guard := _ }) (v := .pointer (some ⟨kb, 2, none⟩)) rfl (by kernel_rfl) (by kernel_rfl) (by kernel_rfl) (fun _ _ _ h => h) (Or.inl ⟨by rfl, by intro w hSw; (try dsimp only at hSw); go_simp⟩) hHeld ?_
     try simp only [Act.put, List.setIfInBounds_toArray, List.set_cons_zero, List.set_cons_succ]
     refine wpAnyH_take (i := 25) (oi := { dst := some 70, op := _, type := _, pos := _, after := _, guard := _ }) (v := .slice ma ml mc) rfl (by kernel_rfl) (by kernel_rfl) (by kernel_rfl) (fun _ _ _ h => h) (Or.inl ⟨by rfl, by intro w hSw; (try dsimp only at hSw); (have q := hSw.2 2 _ rfl; simp only [Nat.zero_add] at q; go_simp)⟩) hHeld ?_
     try simp only [Act.put, List.setIfInBounds_toArray, List.set_cons_zero, List.set_cons_succ]
     refine wpAnyH_take (i := 26) (oi := { dst := some 71, op := _, type := _, pos := _, after := _, guard := _ }) (v := .int .i64 (ml : Int)) rfl (by kernel_rfl) (by kernel_rfl) (by kernel_rfl) (fun _ _ _ h => h) (Or.inl ⟨by rfl, by intro w hSw; (try dsimp only at hSw); go_simp⟩) hHeld ?_
     try simp only [Act.put, List.setIfInBounds_toArray, List.set_cons_zero, List.set_cons_succ]
     refine wpAnyH_take (i := 27) (oi := { dst := some 72, op := _, type := _, pos := _, after := _, guard := _ }) (v := .bool false) rfl (by kernel_rfl) (by kernel_rfl) (by kernel_rfl) (fun _ _ _ h => h) (Or.inl ⟨by rfl, by intro w hSw; (try dsimp only at hSw); go_simp⟩) hHeld ?_
     try simp only [Act.put, List.setIfInBounds_toArray, List.set_cons_zero, List.set_cons_succ]
     refine wpAnyH_take (i := 28) (oi := { dst := some 73, op := _, type := _, pos := _, after := _, guard := _ }) (v := .bool false) rfl (by kernel_rfl) (by kernel_rfl) (by kernel_rfl) (fun _ _ _ h => h) (Or.inl ⟨by rfl, by intro w hSw; (try dsimp only at hSw); go_simp⟩) hHeld ?_
     try simp only [Act.put, List.setIfInBounds_toArray, List.set_cons_zero, List.set_cons_succ]
     refine wpAnyH_take (i := 29) (oi := { dst := some 74, op := _, type := _, pos := _, after := _, guard := _ }) (v := .bool false) rfl (by kernel_rfl) (by kernel_rfl) (by kernel_rfl) (fun _ _ _ h => h) (Or.inl ⟨by rfl, by intro w hSw; (try dsimp only at hSw); go_simp⟩) hHeld ?_
     try simp only [Act.put, List.setIfInBounds_toArray, List.set_cons_zero, List.set_cons_succ]
     refine wpAnyH_take (i := 30) (oi := { dst := some 75, op := _, type := _, pos := _, after := _, guard := _ }) (v := .slice ra bl rc) rfl (by kernel_rfl) (by kernel_rfl) (by kernel_rfl) (fun _ _ _ h => h) (Or.inl ⟨by rfl, by intro w hSw; (try dsimp only at hSw); go_simp⟩) hHeld ?_
     try simp only [Act.put, List.setIfInBounds_toArray, List.set_cons_zero, List.set_cons_succ]
     refine wpAnyH_take (i := 31) (oi := { dst := some 76, op := _, type := _, pos := _, after := _, guard := _ }) (v := .pointer (some ⟨kb, 1, none⟩)) rfl (by kernel_rfl) (by kernel_rfl) (by kernel_rfl) (fun _ _ _ h => h) (Or.inl ⟨by rfl, by intro w hSw; (try dsimp only at hSw); go_simp⟩) hHeld ?_
     try simp only [Act.put, List.setIfInBounds_toArray, List.set_cons_zero, List.set_cons_succ]
     refine wpAnyH_take (i := 32) (oi := { dst := some 77, op := _, type := _, pos := _, after := _, guard := _ }) (v := .slice sa sl sc) rfl (by kernel_rfl) (by kernel_rfl) (by kernel_rfl) (fun _ _ _ h => h) (Or.inl ⟨by rfl, by intro w hSw; (try dsimp only at hSw); (have q := hSw.2 1 _ rfl; simp only [Nat.zero_add] at q; go_simp)⟩) hHeld ?_
     try simp only [Act.put, List.setIfInBounds_toArray, List.set_cons_zero, List.set_cons_succ]
     refine wpAnyH_take (i := 33) (oi := { dst := some 78, op := _, type := _, pos := _, after := _, guard := _ }) (v := .int .i64 (sl : Int)) rfl (by kernel_rfl) (by kernel_rfl) (by kernel_rfl) (fun _ _ _ h => h) (Or.inl ⟨by rfl, by intro w hSw; (try dsimp only at hSw); go_simp⟩) hHeld ?_
     try simp only [Act.put, List.setIfInBounds_toArray, List.set_cons_zero, List.set_cons_succ]
     refine wpAnyH_take (i := 34) (oi := { dst := some 79, op := _, type := _, pos := _, after := _, guard := _ }) (v := .slice ra sl rc) rfl (by kernel_rfl) (by kernel_rfl) (by kernel_rfl) (fun _ _ _ h => h) (Or.inl ⟨by rfl, by intro w hSw; (try dsimp only at hSw); (have q := hsl1 w; go_simp)⟩) hHeld ?_
     try simp only [Act.put, List.setIfInBounds_toArray, List.set_cons_zero, List.set_cons_succ]
     refine wpAnyH_take (i := 35) (oi := { dst := some 80, op := _, type := _, pos := _, after := _, guard := _ }) (v := .pointer (some ⟨kb, 1, none⟩)) rfl (by kernel_rfl) (by kernel_rfl) (by kernel_rfl) (fun _ _ _ h => h) (Or.inl ⟨by rfl, by intro w hSw; (try dsimp only at hSw); go_simp⟩) hHeld ?_
     try simp only [Act.put, List.setIfInBounds_toArray, List.set_cons_zero, List.set_cons_succ]
     refine wpAnyH_take (i := 36) (oi := { dst := some 81, op := _, type := _, pos := _, after := _, guard := _ }) (v := .slice sa sl sc) rfl (by kernel_rfl) (by kernel_rfl) (by kernel_rfl) (fun _ _ _ h => h) (Or.inl ⟨by rfl, by intro w hSw; (try dsimp only at hSw); (have q := hSw.2 1 _ rfl; simp only [Nat.zero_add] at q; go_simp)⟩) hHeld ?_
     try simp only [Act.put, List.setIfInBounds_toArray, List.set_cons_zero, List.set_cons_succ]
     refine wpAnyH_ready (rs := [37]) (by kernel_rfl) (by simp) ?_
     refine AllReadyH.cons (o := { dst := some 82, op := _, type := _, pos := _, after := _, guard := _ }) rfl (fun K hK => ?_) AllReadyH.nil
     go_simp
     go_at_call 15
     refine (HS1.out _ _ H9.out (by simp [HR.out])).mono ?_
     rintro e w10 ⟨rfl, hk10⟩
     have H10 := Lib.hid (H9.out.quiet hk10)
     clear hk10 H9
     refine hK.out _ _ (by exact UFg.of (r := r) (til := til) H10.out (in_end (by simp)) (in_end (by simp))) (fun hHeld1 => ?_)
     clear hK K
     try simp only [Act.put, List.setIfInBounds_toArray, List.set_cons_zero, List.set_cons_succ]
     refine wpAnyH_take (i := 38) (oi := { dst := some 83, op := _, type := _, pos := _, after := _, guard := _ }) (v := .bool false) rfl (by kernel_rfl) (by kernel_rfl) (by kernel_rfl) (fun _ _ _ h => h) (Or.inl ⟨by rfl, by intro w hSw; (try dsimp only at hSw); go_simp⟩) hHeld1 ?_
     try simp only [Act.put, List.setIfInBounds_toArray, List.set_cons_zero, List.set_cons_succ]
     refine wpAnyH_take (i := 39) (oi := { dst := some 84, op := _, type := _, pos := _, after := _, guard := _ }) (v := .bool false) rfl (by kernel_rfl) (by kernel_rfl) (by kernel_rfl) (fun _ _ _ h => h) (Or.inl ⟨by rfl, by intro w hSw; (try dsimp only at hSw); go_simp⟩) hHeld1 ?_
     try simp only [Act.put, List.setIfInBounds_toArray, List.set_cons_zero, List.set_cons_succ]
     refine wpAnyH_take (i := 40) (oi := { dst := some 85, op := _, type := _, pos := _, after := _, guard := _ }) (v := .bool false) rfl (by kernel_rfl) (by kernel_rfl) (by kernel_rfl) (fun _ _ _ h => h) (Or.inl ⟨by rfl, by intro w hSw; (try dsimp only at hSw); go_simp⟩) hHeld1 ?_
     try simp only [Act.put, List.setIfInBounds_toArray, List.set_cons_zero, List.set_cons_succ]
     refine wpAnyH_take (i := 41) (oi := { dst := some 86, op := _, type := _, pos := _, after := _, guard := _ }) (v := .slice ra bl rc) rfl (by kernel_rfl) (by kernel_rfl) (by kernel_rfl) (fun _ _ _ h => h) (Or.inl ⟨by rfl, by intro w hSw; (try dsimp only at hSw); go_simp⟩) hHeld1 ?_
     try simp only [Act.put, List.setIfInBounds_toArray, List.set_cons_zero, List.set_cons_succ]
     refine wpAnyH_take (i := 42) (oi := { dst := some 87, op := _, type := _, pos := _, after := _, guard := _ }) (v := .pointer (some ⟨kb, 1, none⟩)) rfl (by kernel_rfl) (by kernel_rfl) (by kernel_rfl) (fun _ _ _ h => h) (Or.inl ⟨by rfl, by intro w hSw; (try dsimp only at hSw); go_simp⟩) hHeld1 ?_
     try simp only [Act.put, List.setIfInBounds_toArray, List.set_cons_zero, List.set_cons_succ]
     refine wpAnyH_take (i := 43) (oi := { dst := some 88, op := _, type := _, pos := _, after := _, guard := _ }) (v := .slice sa sl sc) rfl (by kernel_rfl) (by kernel_rfl) (by kernel_rfl) (fun _ _ _ h => h) (Or.inl ⟨by rfl, by intro w hSw; (try dsimp only at hSw); (have q := hSw.2 1 _ rfl; simp only [Nat.zero_add] at q; go_simp)⟩) hHeld1 ?_
     try simp only [Act.put, List.setIfInBounds_toArray, List.set_cons_zero, List.set_cons_succ]
     refine wpAnyH_take (i := 44) (oi := { dst := some 89, op := _, type := _, pos := _, after := _, guard := _ }) (v := .int .i64 (sl : Int)) rfl (by kernel_rfl) (by kernel_rfl) (by kernel_rfl) (fun _ _ _ h => h) (Or.inl ⟨by rfl, by intro w hSw; (try dsimp only at hSw); go_simp⟩) hHeld1 ?_
     try simp only [Act.put, List.setIfInBounds_toArray, List.set_cons_zero, List.set_cons_succ]
     refine wpAnyH_take (i := 45) (oi := { dst := some 90, op := _, type := _, pos := _, after := _, guard := _ }) (v := .slice qa dl (rc - sl)) rfl (by kernel_rfl) (by kernel_rfl) (by kernel_rfl) (fun _ _ _ h => h) (Or.inl ⟨by rfl, by intro w hSw; (try dsimp only at hSw); (have q := hsl2 w; go_simp)⟩) hHeld1 ?_
     try simp only [Act.put, List.setIfInBounds_toArray, List.set_cons_zero, List.set_cons_succ]
     refine wpAnyH_take (i := 46) (oi := { dst := some 91, op := _, type := _, pos := _, after := _, guard := _ }) (v := .pointer (some ⟨kb, 2, none⟩)) rfl (by kernel_rfl) (by kernel_rfl) (by kernel_rfl) (fun _ _ _ h => h) (Or.inl ⟨by rfl, by intro w hSw; (try dsimp only at hSw); go_simp⟩) hHeld1 ?_
     try simp only [Act.put, List.setIfInBounds_toArray, List.set_cons_zero, List.set_cons_succ]
     refine wpAnyH_take (i := 47) (oi := { dst := some 92, op := _, type := _, pos := _, after := _, guard := _ }) (v := .slice ma ml mc) rfl (by kernel_rfl) (by kernel_rfl) (by kernel_rfl) (fun _ _ _ h => h) (Or.inl ⟨by rfl, by intro w hSw; (try dsimp only at hSw); (have q := hSw.2 2 _ rfl; simp only [Nat.zero_add] at q; go_simp)⟩) hHeld1 ?_
     try simp only [Act.put, List.setIfInBounds_toArray, List.set_cons_zero, List.set_cons_succ]
     refine wpAnyH_take (i := 48) (oi := { dst := some 93, op := _, type := _, pos := _, after := _, guard := _ }) (v := .slice ra bl rc) rfl (by kernel_rfl) (by kernel_rfl) (by kernel_rfl) (fun _ _ _ h => h) (Or.inl ⟨by rfl, by intro w hSw; (try dsimp only at hSw); go_simp⟩) hHeld1 ?_
     try simp only [Act.put, List.setIfInBounds_toArray, List.set_cons_zero, List.set_cons_succ]
     refine wpAnyH_take (i := 49) (oi := { dst := some 94, op := _, type := _, pos := _, after := _, guard := _ }) (v := .int .i64 (bl : Int)) rfl (by kernel_rfl) (by kernel_rfl) (by kernel_rfl) (fun _ _ _ h => h) (Or.inl ⟨by rfl, by intro w hSw; (try dsimp only at hSw); go_simp⟩) hHeld1 ?_
     try simp only [Act.put, List.setIfInBounds_toArray, List.set_cons_zero, List.set_cons_succ]
     refine wpAnyH_take (i := 50) (oi := { dst := some 95, op := _, type := _, pos := _, after := _, guard := _ }) (v := .pointer (some ⟨kb, 1, none⟩)) rfl (by kernel_rfl) (by kernel_rfl) (by kernel_rfl) (fun _ _ _ h => h) (Or.inl ⟨by rfl, by intro w hSw; (try dsimp only at hSw); go_simp⟩) hHeld1 ?_
     try simp only [Act.put, List.setIfInBounds_toArray, List.set_cons_zero, List.set_cons_succ]
     refine wpAnyH_take (i := 51) (oi := { dst := some 96, op := _, type := _, pos := _, after := _, guard := _ }) (v := .slice sa sl sc) rfl (by kernel_rfl) (by kernel_rfl) (by kernel_rfl) (fun _ _ _ h => h) (Or.inl ⟨by rfl, by intro w hSw; (try dsimp only at hSw); (have q := hSw.2 1 _ rfl; simp only [Nat.zero_add] at q; go_simp)⟩) hHeld1 ?_
     try simp only [Act.put, List.setIfInBounds_toArray, List.set_cons_zero, List.set_cons_succ]
     refine wpAnyH_take (i := 52) (oi := { dst := some 97, op := _, type := _, pos := _, after := _, guard := _ }) (v := .int .i64 (sl : Int)) rfl (by kernel_rfl) (by kernel_rfl) (by kernel_rfl) (fun _ _ _ h => h) (Or.inl ⟨by rfl, by intro w hSw; (try dsimp only at hSw); go_simp⟩) hHeld1 ?_
     try simp only [Act.put, List.setIfInBounds_toArray, List.set_cons_zero, List.set_cons_succ]
     refine wpAnyH_take (i := 53) (oi := { dst := some 98, op := _, type := _, pos := _, after := _, guard := _ }) (v := .int .i64 (dl : Int)) rfl (by kernel_rfl) (by kernel_rfl) (by kernel_rfl) (fun _ _ _ h => h) (Or.inl ⟨by rfl, by intro w hSw; (try dsimp only at hSw); (go_simp; first | done | exact W10.out)⟩) hHeld1 ?_
     try simp only [Act.put, List.setIfInBounds_toArray, List.set_cons_zero, List.set_cons_succ]
     refine wpAnyH_take (i := 54) (oi := { dst := some 99, op := _, type := _, pos := _, after := _, guard := _ }) (v := .slice ma dl mc) rfl (by kernel_rfl) (by kernel_rfl) (by kernel_rfl) (fun _ _ _ h => h) (Or.inl ⟨by rfl, by intro w hSw; (try dsimp only at hSw); (have q := hsl3 w; go_simp)⟩) hHeld1 ?_
     try simp only [Act.put, List.setIfInBounds_toArray, List.set_cons_zero, List.set_cons_succ]
     refine wpAnyH_ready (rs := [55]) (by kernel_rfl) (by simp) ?_
     refine AllReadyH.cons (o := { dst := some 100, op := _, type := _, pos := _, after := _, guard := _ }) rfl (fun K hK => ?_) AllReadyH.nil
     go_simp
     go_at_call 15
     refine (HS2.out _ _ H10.out (by simp [HR.out])).mono ?_
     rintro e w11 ⟨rfl, hk11⟩
     have H11 := Lib.hid (H10.out.quiet hk11)
     clear hk11 H10
     refine hK.out _ _ (by exact UFg.of (r := r) (til := til) H11.out (in_end (by simp)) (in_end (by simp))) (fun hHeld2 => ?_)
     clear hK K
     try simp only [Act.put, List.setIfInBounds_toArray, List.set_cons_zero, List.set_cons_succ]
     refine wpAnyH_take (i := 56) (oi := { dst := some 101, op := _, type := _, pos := _, after := _, guard := _ }) (v := .bool false) rfl (by kernel_rfl) (by kernel_rfl) (by kernel_rfl) (fun _ _ _ h => h) (Or.inl ⟨by rfl, by intro w hSw; (try dsimp only at hSw); go_simp⟩) hHeld2 ?_
     try simp only [Act.put, List.setIfInBounds_toArray, List.set_cons_zero, List.set_cons_succ]
     refine wpAnyH_take (i := 57) (oi := { dst := some 102, op := _, type := _, pos := _, after := _, guard := _ }) (v := .bool false) rfl (by kernel_rfl) (by kernel_rfl) (by kernel_rfl) (fun _ _ _ h => h) (Or.inl ⟨by rfl, by intro w hSw; (try dsimp only at hSw); go_simp⟩) hHeld2 ?_
     try simp only [Act.put, List.setIfInBounds_toArray, List.set_cons_zero, List.set_cons_succ]
     refine wpAnyH_done (by kernel_rfl) ?_ _
     clear hHeld hHeld1 hHeld2 HS1 HS2 hsl1 hsl2 hsl3
     have c0 := cell_at (i := 0) (H11.out.at (b := kb) (o := .cells #[.int .i64 (id : Int), .slice sa sl sc, .slice ma ml mc, .bool ends] 71) (in_end (by simp))).1 rfl
     simp only [List.getElem_toArray, List.getElem_cons_succ, List.getElem_cons_zero] at c0
     obtain ⟨na, nc, w12, hrun, h12⟩ := H11.out.fndPut.krPush (.int .i64 (id : Int)) (.slice ra bl rc) (.slice none 0 0) (.bool false) ⟨rfl, rfl, rfl, rfl⟩ (by have := HLEN.out; omega)
     have HREL3 := Lib.hid (show ∃ (k' : Nat) (oa' : Option Addr) (oc' : Nat) (lo' : List KV) (S' : List (Value × List UInt8)), k' ≤ l.length ∧ Value.int .i64 ((k + 1 : Nat) : Int) = .int .i64 (k' : Int) ∧ Value.slice na (lo.length + 1) nc = .slice oa' lo'.length oc' ∧ lo'.length ≤ k' ∧ KRel S' (foundOf (hv.take k') (L.map (·.1))) lo' ∧ (Value.slice none 0 0, []) ∈ S' ∧ Own w w12 (tRes w.heap.size d j t b nmT T ++ (uRes w.heap.size d u st t mp next L ++ (rKRow w.heap.size (.slice oa' lo'.length oc') lo'.length (kvs lo') :: rRds w.heap.size S' :: rs))) from by
      refine ⟨k + 1, na, nc, lo ++ [⟨(id : Int), .slice ra bl rc, .slice none 0 0, false⟩], (.slice ra bl rc, bb) :: S, by have := HLEN.out; omega, rfl, by simp, by have := HLEN.out; simp; omega, ?_, List.mem_cons_of_mem _ HS0.out, ?_⟩
      ·rw [HST.out]
       exact (HREL2.out.mono (fun p hp => List.mem_cons_of_mem _ hp)).push ⟨rfl, rfl, List.mem_cons_self .., List.mem_cons_of_mem _ HS0.out⟩
      ·have h13 := h12.twoEnd
       rw [kvs_app]
       simpa [kvs, KV.cells] using h13)
     have HRUN := Lib.hid hrun
     clear h12 hrun
     go_wp2_with (at_builtin; refine wpList_append_run rfl _ _ _ _ rfl rfl rfl HRUN.out ?_)
     go_roundw
     case rel => exact HREL3.out
     case measure => simp [intOf]; omega
    ·have hug : uget L (id : Int) = none := by
      have := ofId_uget id L
      rw [ho] at this
      cases hu : uget L (id : Int) with
      | none => rfl
      | some z => rw [hu] at this; cases this
     have hlk := HLKE.out
     unfold lookOf at hlk
     rw [hug] at hlk
     dsimp only at hlk
     have hcd : (6 : Int) = cd := congrArg Prod.snd hlk
     have hst := HST.out
     rw [ho] at hst
     dsimp only at hst
     rw [List.append_nil] at hst
     subst hcd hends
     clear hlk HLKE HFO HST hug ho
     have c3 := cell_at (i := 3) (H5.out.at (b := kb) (o := .cells #[.int .i64 (id : Int), .slice sa sl sc, .slice ma ml mc, .bool true] 71) (in_end (by simp))).1 rfl
     simp only [List.getElem_toArray, List.getElem_cons_succ, List.getElem_cons_zero] at c3
     have HREL3 := Lib.hid (show ∃ (k' : Nat) (oa' : Option Addr) (oc' : Nat) (lo' : List KV) (S' : List (Value × List UInt8)), k' ≤ l.length ∧ Value.int .i64 ((k + 1 : Nat) : Int) = .int .i64 (k' : Int) ∧ Value.slice oa lo.length oc = .slice oa' lo'.length oc' ∧ lo'.length ≤ k' ∧ KRel S' (foundOf (hv.take k') (L.map (·.1))) lo' ∧ (Value.slice none 0 0, []) ∈ S' ∧ Own w wc (tRes w.heap.size d j t b nmT T ++ (uRes w.heap.size d u st t mp next L ++ (rKRow w.heap.size (.slice oa' lo'.length oc') lo'.length (kvs lo') :: rRds w.heap.size S' :: rs))) from
      ⟨k + 1, oa, oc, lo, S, by have := HLEN.out; omega, rfl, rfl, by have := HLEN.out; omega, by rw [hst]; exact HREL2.out, HS0.out, H5.out.dropEnd.dropEnd⟩)
     clear hst
     go_wp2_with fail
     go_roundw
     case rel => exact HREL3.out
     case measure => simp [intOf]; omega
  ·obtain rfl : k = l.length := by omega
   have hend := hrel2
   rw [List.take_of_length_le (by have := HREL.out.1; omega)] at hend
   have HP := Lib.hid (show FndPost w d u st t mp j b T next L rs (foundOf hv (L.map (·.1))) (.returned (.tuple #[.slice oa lo.length oc, .bool true])) wr from ⟨oa, oc, lo, S, rfl, hend, ho⟩)
   clear hend hrel2 ho hS0 hlk hk hlt
   go_wp2_with fail
   go_ret2
   exact HP.out
end
end Go.Proofs.YtlcnhpjggjgnpaaGreatDoor
