/- A part of the proof. -/
import Derived.Test.YtlcnhpjggjgnpaaGreatDoorUlaa7
import Derived.Test.YtlcnhpjggjgnpaaGreatDoorUlab6
import Derived.Test.YtlcnhpjggjgnpaaGreatDoorUlac7
import Derived.Deep.DeepCutAuto
import Derived.Deep.CutBlock
namespace Go.Proofs.YtlcnhpjggjgnpaaGreatDoor
set_option linter.unusedVariables false
set_option linter.unusedSimpArgs false
open Go.RowKit Go.MapKept
open Go.ChangeMaps (setBlock)
theorem MapPs.perm {w : World} {b : Nat} {ps qs : PS} (h : MapPs w b ps) (hp : ps.Perm qs) : MapPs w b qs := by
 obtain ⟨es, clock, l, h1, h2, h3, h4⟩ := h
 exact ⟨es, clock, l, h1, h2, h3, h4.trans hp⟩
theorem tApp_good {T : TM} {n : Nat} (h : Good T.m n) (nm : ByteArray) (l : List TCh) : Good (tAppOf T nm l).2.m (n + 1) := by
 have h1 := jAppend_good h nm T.size (encOf l).2
 unfold tAppOf
 split
 ·exact h.mono (Nat.le_succ _)
 ·split
  ·split
   ·split
    ·exact h1.sync
    ·exact h1.sync
   ·exact h1
  ·exact h.mono (Nat.le_succ _)
theorem isRepo_size {s : ByteArray} (h : isRepo s = true) : s.size ≤ 128 := by
 unfold isRepo at h
 rw [Bool.and_eq_true, decide_eq_true_eq] at h
 exact h.1
theorem two_in {wr : World} {b : Nat} {k1 k2 : ByteArray} {g1 g2 : Bool} {v1 v2 : Value} {l1 l2 : List UInt8} {t : TypeId} (hb : wr.heap[b]? = some (.cells #[.string k1, .bool g1, v1, .string k2, .bool g2, v2] t)) (h1 : Reads wr v1 l1) (h2 : Reads wr v2 l2) : TChsIn wr (some ⟨b, 0, none⟩) [⟨k1, g1, l1⟩, ⟨k2, g2, l2⟩] := by
 intro i ch hc
 match i, hc with
 | 0, hc =>
  cases hc
  exact ⟨_, _, rfl, cell_at hb rfl, cell_at hb rfl, cell_at hb rfl, h1⟩
 | 1, hc =>
  cases hc
  exact ⟨_, _, rfl, cell_at hb rfl, cell_at hb rfl, cell_at hb rfl, h2⟩
 | i + 2, hc => simp at hc
def uB : ByteArray := ⟨#[117]⟩
def startOf (T : TM) (nm : ByteArray) (nx : Nat) (repo : ByteArray) (til : Int) : Int × Int × TM :=
 if isRepo repo = true then
  (if til < 0 ∨ 1099511627776 < til then (0, 1, T)
   else if 4294967295 < nx then (0, 8, T)
   else if (createOf T.m (ukeyOf nx)).1 = 0 then
   (if (tAppOf ⟨(createOf T.m (ukeyOf nx)).2, T.size, T.fs, T.down⟩ nm [⟨ukeyOf nx, false, laidOf repo til.toNat []⟩, ⟨uB, false, putOf (nx + 1) 8⟩]).1 = 0 then
    ((nx : Int), 0, (tAppOf ⟨(createOf T.m (ukeyOf nx)).2, T.size, T.fs, T.down⟩ nm [⟨ukeyOf nx, false, laidOf repo til.toNat []⟩, ⟨uB, false, putOf (nx + 1) 8⟩]).2)
    else (0, if (removeOf (tAppOf ⟨(createOf T.m (ukeyOf nx)).2, T.size, T.fs, T.down⟩ nm [⟨ukeyOf nx, false, laidOf repo til.toNat []⟩, ⟨uB, false, putOf (nx + 1) 8⟩]).2.m (ukeyOf nx)).1 = 0
     then (tAppOf ⟨(createOf T.m (ukeyOf nx)).2, T.size, T.fs, T.down⟩ nm [⟨ukeyOf nx, false, laidOf repo til.toNat []⟩, ⟨uB, false, putOf (nx + 1) 8⟩]).1
     else (removeOf (tAppOf ⟨(createOf T.m (ukeyOf nx)).2, T.size, T.fs, T.down⟩ nm [⟨ukeyOf nx, false, laidOf repo til.toNat []⟩, ⟨uB, false, putOf (nx + 1) 8⟩]).2.m (ukeyOf nx)).1,
     { (tAppOf ⟨(createOf T.m (ukeyOf nx)).2, T.size, T.fs, T.down⟩ nm [⟨ukeyOf nx, false, laidOf repo til.toNat []⟩, ⟨uB, false, putOf (nx + 1) 8⟩]).2 with
      m := (removeOf (tAppOf ⟨(createOf T.m (ukeyOf nx)).2, T.size, T.fs, T.down⟩ nm [⟨ukeyOf nx, false, laidOf repo til.toNat []⟩, ⟨uB, false, putOf (nx + 1) 8⟩]).2.m (ukeyOf nx)).2 }))
   else (0, (createOf T.m (ukeyOf nx)).1, ⟨(createOf T.m (ukeyOf nx)).2, T.size, T.fs, T.down⟩))
 else (0, 70, T)
section
variable {w wr : World} {d u st t mp j b : Nat} {nm : ByteArray} {T : TM} {nx : Nat} {L : UL} {rs : List (Res w.heap.size)}
def UStartPost (w : World) (d j t b u st mp : Nat) (nm : ByteArray) (nx : Nat) (L : UL) (repo : ByteArray) (til : Int) (rs : List (Res w.heap.size)) (r : Int × Int × TM) (e : Ending) (w' : World) : Prop :=
 e = .returned (.tuple #[.int .i64 r.1, .int .i64 r.2.1]) ∧
  ((r.2.1 = 0 ∧ ∃ sp q, Own w w' (tRes w.heap.size d j t b nm r.2.2 ++ (uRes w.heap.size d u st t mp ((nx + 1 : Nat) : Int) (L ++ [(⟨(nx : Int), repo, til, []⟩, sp, q)]) ++ rs))) ∨
   (¬ r.2.1 = 0 ∧ Own w w' (tRes w.heap.size d j t b nm r.2.2 ++ (uRes w.heap.size d u st t mp (nx : Int) L ++ rs))))
theorem Own.pmapPut {ps : PS} {w1 : World} (h : Own w wr (rPMap w.heap.size mp ps :: rs)) (k : Int) (hk : pget ps k = none) (q : Nat) (hq : Keeps (fun _ => False) wr w1) :
  ∃ w2, (Instr.mapUpdate 102 (.map (some mp)) (.int .i64 k) (.pointer (some ⟨q, 0, none⟩))).run Tryz.prog w1 = .ok () w2 ∧ Own w w2 (rPMap w.heap.size mp ((k, q) :: ps) :: rs) := by
 obtain ⟨F, ⟨hb, hm⟩, hF, hfin⟩ := h.open1
 have h1 : MapPs w1 mp ps := hm.keep (hq.block mp hm.lt (fun e => e))
 obtain ⟨es, clock, hr, h3⟩ := h1.insert (P := Tryz.prog) Tryz.underlying102 Tryz.underlying3 hk q
 exact ⟨_, hr, hfin _ (rPMap _ mp ((k, q) :: ps)) ((hq.mono (fun _ _ e => e.elim)).setBlock (fun _ => hb) _) ⟨.inl hb, h3⟩⟩
theorem Own.toEnd {x : Res w.heap.size} {A B M : List (Res w.heap.size)} (h : Own w wr (x :: (A ++ (B ++ M)))) : Own w wr (A ++ (B ++ (x :: M))) := h.perm (by
 have h1 : (x :: (A ++ (B ++ M))).Perm (A ++ (x :: (B ++ M))) := (List.perm_middle (l₁ := A)).symm
 exact h1.trans (List.Perm.append_left A (List.perm_middle (l₁ := B)).symm))
theorem Own.dropEnd {x : Res w.heap.size} {A B M : List (Res w.heap.size)} (h : Own w wr (A ++ (B ++ (x :: M)))) : Own w wr (A ++ (B ++ M)) := by
 have h1 : Own w wr (x :: (A ++ (B ++ M))) := h.perm (by
  have h1 : (x :: (A ++ (B ++ M))).Perm (A ++ (x :: (B ++ M))) := (List.perm_middle (l₁ := A)).symm
  exact (h1.trans (List.Perm.append_left A (List.perm_middle (l₁ := B)).symm)).symm)
 exact h1.drop
theorem Own.endBytes {v : Value} {l : List UInt8} {w1 : World} {A B M : List (Res w.heap.size)} (h : Own w wr (A ++ (B ++ M))) (ho : Owns w1 wr.heap.size v l) (hk : Keeps (fun _ => False) wr w1) : Own w w1 (A ++ (B ++ (rBytes w.heap.size v l :: M))) := (h.addBytes ho hk).toEnd
theorem Own.endObj {A B M : List (Res w.heap.size)} (h : Own w wr (A ++ (B ++ M))) (o : Obj) : Own w (wr.alloc o) (A ++ (B ++ (rObj w.heap.size wr.heap.size o :: M))) := (h.alloc o).toEnd
def USt (u d st t nx mp bq : Nat) (repo : ByteArray) (til : Int) (W : World) : Prop :=
 (W.cell? ⟨u, 0, none⟩ = some (.pointer (some ⟨d, 0, none⟩)) ∧ W.cell? ⟨u, 1, none⟩ = some (.pointer (some ⟨st, 0, none⟩)) ∧ W.cell? ⟨u, 2, none⟩ = some (.pointer (some ⟨t, 0, none⟩)) ∧ W.cell? ⟨u, 3, none⟩ = some (.int .i64 (nx : Int)) ∧ W.cell? ⟨u, 4, none⟩ = some (.map (some mp))) ∧
  W.rangeAt bq 0 [.string repo, .int .i64 til, .int .i64 0]
def bxObj (repo : ByteArray) (til : Int) : Obj := .cells #[.string repo, .int .i64 til, .int .i64 0] 43
theorem USt.of {bq : Nat} {repo : ByteArray} {til : Int} {W : World} {A M : List (Res w.heap.size)} (h : Own w W (A ++ (uRes w.heap.size d u st t mp (nx : Int) L ++ M))) (hm : rObj w.heap.size bq (bxObj repo til) ∈ M) : USt u d st t nx mp bq repo til W := by
 refine ⟨u_cells (h.at (b := u) (o := uObj d st t nx mp) (by simp [uRes])).1, fun k v hv => ?_⟩
 rw [Nat.zero_add]
 exact cell_at (h.at (b := bq) (o := bxObj repo til) (by simp [hm])).1 (by rw [List.getElem?_toArray]; exact hv)
theorem USt.keep {bq : Nat} {repo : ByteArray} {til : Int} {W W' : World} (h : USt u d st t nx mp bq repo til W) (hk : Keeps (fun _ => False) W W') : USt u d st t nx mp bq repo til W' :=
 ⟨⟨cell_keep h.1.1 hk, cell_keep h.1.2.1 hk, cell_keep h.1.2.2.1 hk, cell_keep h.1.2.2.2.1 hk, cell_keep h.1.2.2.2.2 hk⟩, fun k v hv => cell_keep (h.2 k v hv) hk⟩
theorem perm_new {α : Type} (T Ls R : List α) (a s p x y : α) : (p :: x :: y :: (T ++ (a :: s :: (Ls ++ R)))).Perm (T ++ ((a :: s :: p :: (Ls ++ [x, y])) ++ R)) := by
 have h1 : ([p, x, y] ++ (T ++ (a :: s :: (Ls ++ R)))).Perm (T ++ ([p, x, y] ++ (a :: s :: (Ls ++ R)))) := by
  rw [← List.append_assoc, ← List.append_assoc]; exact List.perm_append_comm.append_right _
 refine h1.trans (List.Perm.append_left T ?_)
 have h2 : ([p, x, y] ++ ([a, s] ++ (Ls ++ R))).Perm ([a, s] ++ ([p, x, y] ++ (Ls ++ R))) := List.perm_append_comm_assoc _ _ _
 refine h2.trans ?_
 have h3 : ([x, y] ++ (Ls ++ R)).Perm ((Ls ++ [x, y]) ++ R) := by
  rw [← List.append_assoc]; exact List.perm_append_comm.append_right _
 exact ((h3.cons p).cons s).cons a
theorem Own.enter {repo : ByteArray} {til : Int} {W : World} {T' : TM} {M : List (Res w.heap.size)} (h : Own w W (tRes w.heap.size d j t b nm T' ++ (uRes w.heap.size d u st t mp (nx : Int) L ++ M))) (hid : pget (ptrs L) (nx : Int) = none) :
  Own w (W.setCell ⟨u, 3, none⟩ (.int .i64 ((nx + 1 : Nat) : Int))) (tRes w.heap.size d j t b nm T' ++ (uRes w.heap.size d u st t mp ((nx + 1 : Nat) : Int) L ++ M)) := by
 have h1 := (Own.pull (l₁ := tRes w.heap.size d j t b nm T') h).store 3 (.int .i64 ((nx + 1 : Nat) : Int))
 exact h1.perm (List.perm_middle (l₁ := tRes w.heap.size d j t b nm T')).symm
theorem Own.enter2 {repo : ByteArray} {til : Int} {W : World} {T' : TM} {nx' : Int} {M : List (Res w.heap.size)} (h : Own w W (tRes w.heap.size d j t b nm T' ++ (uRes w.heap.size d u st t mp nx' L ++ M))) (hid : pget (ptrs L) (nx : Int) = none) :
  ∃ w3, (Instr.mapUpdate 102 (.map (some mp)) (.int .i64 (nx : Int)) (.pointer (some ⟨(W.alloc (stObj hWords (restOf 0 (List.replicate 64 0)))).heap.size, 0, none⟩))).run Tryz.prog ((W.alloc (stObj hWords (restOf 0 (List.replicate 64 0)))).alloc (.cells #[.string repo, .int .i64 til, .int .i64 0, .pointer (some ⟨W.heap.size, 0, none⟩)] 116)) = .ok () w3 ∧
   Own w w3 (tRes w.heap.size d j t b nm T' ++ (uRes w.heap.size d u st t mp nx' (L ++ [(⟨(nx : Int), repo, til, []⟩, (W.alloc (stObj hWords (restOf 0 (List.replicate 64 0)))).heap.size, W.heap.size)]) ++ M)) := by
 obtain ⟨o1, ho1⟩ : ∃ o, o = stObj hWords (restOf 0 (List.replicate 64 0)) := ⟨_, rfl⟩
 rw [← ho1]
 have h1 : Own w (W.alloc o1) (rSt w.heap.size W.heap.size [] :: (tRes w.heap.size d j t b nm T' ++ (uRes w.heap.size d u st t mp nx' L ++ M))) :=
  h.add ((Keeps.refl (fun _ => False) W).alloc o1) (r := rSt _ W.heap.size []) (G := fun b => b = W.heap.size) ⟨rfl, List.replicate 64 0, by rw [ho1]; exact heap_alloc_new W _, by simp, by simp⟩ (fun b hb => by subst hb; simp)
 have h2 := h1.alloc (sesObj ⟨(nx : Int), repo, til, []⟩ W.heap.size)
 obtain ⟨W2, hW2⟩ : ∃ W2, W2 = (W.alloc o1).alloc (sesObj ⟨(nx : Int), repo, til, []⟩ W.heap.size) := ⟨_, rfl⟩
 rw [← hW2] at h2
 change ∃ w3, (Instr.mapUpdate _ _ _ _).run _ ((W.alloc o1).alloc (sesObj ⟨(nx : Int), repo, til, []⟩ W.heap.size)) = _ ∧ _
 rw [← hW2]
 generalize (W.alloc o1).heap.size = sp at h2 ⊢
 generalize W.heap.size = q at h2 ⊢
 have h3 : Own w W2 (rPMap w.heap.size mp (ptrs L) :: rObj w.heap.size sp (sesObj ⟨(nx : Int), repo, til, []⟩ q) :: rSt w.heap.size q [] :: (tRes w.heap.size d j t b nm T' ++ (rObj w.heap.size u (uObj d st t nx' mp) :: rObj w.heap.size st (stObj1 d) :: (liveRes w.heap.size L ++ M)))) := by
  have := Own.pull (l₁ := rObj w.heap.size sp (sesObj ⟨(nx : Int), repo, til, []⟩ q) :: rSt w.heap.size q [] :: (tRes w.heap.size d j t b nm T' ++ [rObj w.heap.size u (uObj d st t nx' mp), rObj w.heap.size st (stObj1 d)])) (r := rPMap w.heap.size mp (ptrs L)) (l₂ := liveRes w.heap.size L ++ M) (by
   simpa [uRes, List.append_assoc] using h2)
  simpa [List.append_assoc] using this
 obtain ⟨w3, hr, h4⟩ := h3.pmapPut (nx : Int) hid sp (Keeps.refl _ _)
 refine ⟨w3, hr, ?_⟩
 have h5 : Own w w3 (rPMap w.heap.size mp (ptrs (L ++ [(⟨(nx : Int), repo, til, []⟩, sp, q)])) :: rObj w.heap.size sp (sesObj ⟨(nx : Int), repo, til, []⟩ q) :: rSt w.heap.size q [] :: (tRes w.heap.size d j t b nm T' ++ (rObj w.heap.size u (uObj d st t nx' mp) :: rObj w.heap.size st (stObj1 d) :: (liveRes w.heap.size L ++ M)))) :=
  h4.view (fun F _ hF => ⟨hF.1, hF.2.perm (by unfold ptrs; rw [List.map_append]; exact (List.perm_append_comm (l₁ := [((nx : Int), sp)])))⟩)
 have h6 := h5.perm (perm_new (tRes w.heap.size d j t b nm T') (liveRes w.heap.size L) M _ _ _ _ _)
 unfold uRes
 rw [liveRes_append]
 exact h6
set_option maxRecDepth 100000 in
set_option maxHeartbeats 1000000 in
theorem ustart_calls {w0 : World} (h : Own w w0 (tRes w.heap.size d j t b nm T ++ (uRes w.heap.size d u st t mp (nx : Int) L ++ rs))) (hgl : GLen w0) {n : Nat} (hg : Good T.m n) (hn : n + 3 < 549755813888) (hs : T.size ≤ 1099511627776) (hnx : 1 ≤ nx ∧ nx ≤ 4294967296) (hid : ∀ x ∈ L, x.1.id < (nx : Int)) (repo : ByteArray) (til : Int) (ht1 : -9223372036854775808 ≤ til ∧ til ≤ 9223372036854775807) :
  Calls Tryz.prog 9 #[.pointer (some ⟨u, 0, none⟩), .string repo, .int .i64 til] w0 (UStartPost w d j t b u st mp nm nx L repo til rs (startOf T nm nx repo til)) := by
 have hir := isrepo_calls w0 hgl repo
 have HIR := Lib.hid hir
 have H0 := Lib.hid h
 clear hir h
 cases hr : isRepo repo with
 | false =>
  have hS : startOf T nm nx repo til = (0, 70, T) := by unfold startOf; rw [hr]; rfl
  rw [hS]
  rw [hr] at HIR
  clear hS hr hgl hg hn hs hnx hid ht1
  go_enter Tryz.func9, Tryz.ntmps9
  go_wp2_with fail
  refine HIR.out.mono ?_
  rintro e w1 ⟨rfl, hk1⟩
  have H1 := Lib.hid (H0.out.quiet hk1)
  clear hk1 HIR H0
  go_wp2_with fail
  go_ret2
  exact ⟨rfl, .inr ⟨by simp, H1.out⟩⟩
 | true =>
  rw [hr] at HIR
  by_cases ht : til < 0 ∨ 1099511627776 < til
  ·have hS : startOf T nm nx repo til = (0, 1, T) := by unfold startOf; rw [hr, if_pos rfl, if_pos ht]
   rw [hS]
   have HT := Lib.hid ht
   clear hS hr hgl hg hn hs hnx hid ht1 ht
   by_cases h1 : til < 0
   ·have b1 : decide (til < (0 : Int)) = true := decide_eq_true h1
    clear h1 HT
    go_enter Tryz.func9, Tryz.ntmps9
    go_wp2_with fail
    refine HIR.out.mono ?_
    rintro e w1 ⟨rfl, hk1⟩
    have H1 := Lib.hid (H0.out.quiet hk1)
    clear hk1 HIR H0
    go_wp2_with fail
    go_ret2
    exact ⟨rfl, .inr ⟨by simp, H1.out⟩⟩
   ·have b1 : decide (til < (0 : Int)) = false := decide_eq_false h1
    have b2 : decide ((1099511627776 : Int) < til) = true := decide_eq_true (by rcases HT.out with h | h; exact absurd h h1; exact h)
    clear h1 HT
    go_enter Tryz.func9, Tryz.ntmps9
    go_wp2_with fail
    refine HIR.out.mono ?_
    rintro e w1 ⟨rfl, hk1⟩
    have H1 := Lib.hid (H0.out.quiet hk1)
    clear hk1 HIR H0
    go_wp2_with fail
    go_ret2
    exact ⟨rfl, .inr ⟨by simp, H1.out⟩⟩
  ·have b1 : decide (til < (0 : Int)) = false := decide_eq_false (by omega)
   have b2 : decide ((1099511627776 : Int) < til) = false := decide_eq_false (by omega)
   have HTIL := Lib.hid (show 0 ≤ til ∧ til ≤ 1099511627776 by omega)
   by_cases hl : 4294967295 < nx
   ·have hS : startOf T nm nx repo til = (0, 8, T) := by unfold startOf; rw [hr, if_pos rfl, if_neg ht, if_pos hl]
    rw [hS]
    have b3 : decide ((4294967295 : Int) < (nx : Int)) = true := decide_eq_true (by omega)
    clear hS hr hgl hg hn hs hnx hid ht1 ht hl
    go_enter Tryz.func9, Tryz.ntmps9
    go_wp2_with fail
    refine HIR.out.mono ?_
    rintro e w1 ⟨rfl, hk1⟩
    have H1 := Lib.hid (H0.out.quiet hk1)
    obtain ⟨-, -, -, c3, -⟩ := u_cells (H1.out.at (b := u) (o := uObj d st t nx mp) (by simp [uRes])).1
    clear hk1 HIR H0
    go_wp2_with fail
    go_ret2
    exact ⟨rfl, .inr ⟨by simp, H1.out⟩⟩
   ·have b3 : decide ((4294967295 : Int) < (nx : Int)) = false := decide_eq_false (by omega)
    obtain ⟨R, hR⟩ : ∃ R, startOf T nm nx repo til = R := ⟨_, rfl⟩
    have HR := Lib.hid hR
    rw [hR]
    unfold startOf at HR
    rw [if_pos hr, if_neg ht, if_neg hl] at HR
    have hrep := Lib.hid hr
    have HID := Lib.hid hid
    have HG := Lib.hid hg
    have HNX := Lib.hid (And.intro hnx hl)
    have HN := Lib.hid (And.intro hn hs)
    clear hR hr ht hl hid hg hnx hn hs ht1 hgl
    go_enter Tryz.func9, Tryz.ntmps9
    go_wp2_with fail
    refine HIR.out.mono ?_
    rintro e w1 ⟨rfl, hk1⟩
    have H1 := Lib.hid (H0.out.quiet hk1)
    obtain ⟨-, -, -, c3, -⟩ := u_cells (H1.out.at (b := u) (o := uObj d st t nx mp) (by simp [uRes])).1
    clear hk1 HIR H0
    go_upto_region 11 with fail
    have h2 := H1.out.endObj (A := tRes w.heap.size d j t b nm T) (B := uRes w.heap.size d u st t mp (nx : Int) L) (bxObj repo til)
    change Own w (w1.alloc (.cells #[.string repo, .int .i64 til, .int .i64 0] 43)) _ at h2
    clear c3
    generalize w1.alloc (.cells #[.string repo, .int .i64 til, .int .i64 0] 43) = w2 at h2 ⊢
    generalize w1.heap.size = bq at h2 ⊢
    -- the contracts
    obtain ⟨ky, hky⟩ : ∃ x, x = ukeyOf nx := ⟨_, rfl⟩
    obtain ⟨cr, hcr⟩ : ∃ x, x = createOf T.m ky := ⟨_, rfl⟩
    obtain ⟨l1, hl1⟩ : ∃ x, x = laidOf repo til.toNat [] := ⟨_, rfl⟩
    obtain ⟨l2, hl2⟩ : ∃ x, x = putOf (nx + 1) 8 := ⟨_, rfl⟩
    obtain ⟨ap, hap⟩ : ∃ x, x = tAppOf ⟨cr.2, T.size, T.fs, T.down⟩ nm [⟨ky, false, l1⟩, ⟨uB, false, l2⟩] := ⟨_, rfl⟩
    obtain ⟨rm, hrm⟩ : ∃ x, x = removeOf ap.2.m ky := ⟨_, rfl⟩
    have hr0 := HR.out
    rw [← hky, ← hcr, ← hl1, ← hl2, ← hap, ← hrm] at hr0
    have hgc : Good cr.2 (n + 1) := by rw [hcr]; exact HG.out.create ky
    have hga : Good ap.2.m (n + 2) := by rw [hap]; exact tApp_good (T := ⟨cr.2, T.size, T.fs, T.down⟩) hgc nm _
    have HKEY := Lib.hid (show ∀ W, Calls Tryz.prog 23 #[.int .i64 (nx : Int)] W (QuietP W (.string ky)) from fun W => by rw [hky]; exact ukey_calls W nx nx (IntWalk.u64_in _ (by have := HNX.out; omega)) (by have := HNX.out; omega))
    have HCRE := Lib.hid (show ∀ W (M : List (Res w.heap.size)), Own w W (tRes w.heap.size d j t b nm T ++ (uRes w.heap.size d u st t mp (nx : Int) L ++ M)) → ∃ w', Runs 41 #[.pointer (some ⟨d, 0, none⟩), .string ky] W (.int .i64 cr.1) w' ∧ Own w w' (tRes w.heap.size d j t b nm ⟨cr.2, T.size, T.fs, T.down⟩ ++ (uRes w.heap.size d u st t mp (nx : Int) L ++ M)) from fun W M hW => by
     rw [hcr]
     exact Own.create hW ky HG.out.fuse (HG.out.loose (by have := HN.out; omega)))
    have HLAID := Lib.hid (show ∀ W, Calls Tryz.prog 43 #[.agg #[.string repo, .int .i64 til, .int .i64 0], .slice none 0 0] W (OPost W l1) from fun W => by
     rw [hl1]
     exact laid_calls repo til 0 til.toNat (by rw [IntWalk.u64_in _ (by have := HTIL.out; omega)]; have := HTIL.out; omega) (by have := HTIL.out; omega) (reads_nil W) (by simp) (by
      have := isRepo_size hrep.out
      omega))
    obtain ⟨n1, hn1⟩ : ∃ x, x = nx + 1 := ⟨_, rfl⟩
    have HPUT := Lib.hid (show ∀ W, Calls Tryz.prog 44 #[.int .u64 (n1 : Int), .int .i64 8] W (OPost W l2) from fun W => by rw [hl2, hn1]; exact put_calls W (nx + 1) 8 (by have := HNX.out; omega) (by omega))
    have HAPP := Lib.hid (show ∀ W (M : List (Res w.heap.size)) (bb : Nat) (v1 v2 : Value), Own w W (tRes w.heap.size d j t b nm ⟨cr.2, T.size, T.fs, T.down⟩ ++ (uRes w.heap.size d u st t mp (nx : Int) L ++ (rObj w.heap.size bb (.cells #[.string ky, .bool false, v1, .string uB, .bool false, v2] 109) :: rBytes w.heap.size v2 l2 :: rBytes w.heap.size v1 l1 :: M))) →
      Calls Tryz.prog 42 #[.pointer (some ⟨t, 0, none⟩), .slice (some ⟨bb, 0, none⟩) 2 2] W (fun e w' => e = .returned (.int .i64 ap.1) ∧ Own w w' (tRes w.heap.size d j t b nm ap.2 ++ (uRes w.heap.size d u st t mp (nx : Int) L ++ M))) from fun W M bb v1 v2 hW => by
     have := tapply_callsO hW hgc (by have := HN.out; omega) HN.out.2 (a := some ⟨bb, 0, none⟩) (c := 2) (l := [⟨ky, false, l1⟩, ⟨uB, false, l2⟩]) (fun wr ls ho => two_in (t := 109) (ho.at (b := bb) (o := .cells #[.string ky, .bool false, v1, .string uB, .bool false, v2] 109) (by simp)).1 (ho.bytes (v := v1) (l := l1) (by simp)).1 (ho.bytes (v := v2) (l := l2) (by simp)).1) (by simp) (by decide)
     rw [← hap] at this
     refine this.mono ?_
     rintro e w' ⟨he, h⟩
     exact ⟨he, h.dropEnd.dropEnd.dropEnd⟩)
    have HREM := Lib.hid (show ∀ W (M : List (Res w.heap.size)), Own w W (tRes w.heap.size d j t b nm ap.2 ++ (uRes w.heap.size d u st t mp (nx : Int) L ++ M)) → ∃ w', Runs 45 #[.pointer (some ⟨d, 0, none⟩), .string ky] W (.int .i64 rm.1) w' ∧ Own w w' (tRes w.heap.size d j t b nm { ap.2 with m := rm.2 } ++ (uRes w.heap.size d u st t mp (nx : Int) L ++ M)) from fun W M hW => by
     rw [hrm]
     exact Own.remove hW ky hga.fuse (hga.loose (by have := HN.out; omega)))
    have HR := Lib.hid hr0
    have HNX1 := Lib.hid (show IntKind.i64.wrap ((nx : Int) + 1) = (n1 : Int) ∧ IntKind.u64.wrap (n1 : Int) = (n1 : Int) from ⟨by rw [IntWalk.i64_in _ (by have := HNX.out; omega)]; omega, IntWalk.u64_in _ (by have := HNX.out; omega)⟩)
    have HN1 := Lib.hid (show n1 = nx + 1 from hn1)
    have HI3 := Lib.hid (show (Tryz.prog.info? 43).map (·.size) = some ([.string repo, .int .i64 til, .int .i64 0] : List Value).length by kernel_rfl)
    have H2 := Lib.hid h2
    have HPG := Lib.hid (show pget (ptrs L) (nx : Int) = none from pget_none (fun hm => by
     unfold ptrs at hm
     rw [List.map_map] at hm
     obtain ⟨x, hx, e⟩ := List.mem_map.1 hm
     have := HID.out x hx
     simp only [Function.comp_apply] at e
     omega))
    clear hr0 h2 hky hcr hl1 hl2 hap hrm hgc hga HID HG hn1
    obtain ⟨c1, m1⟩ := cr
    obtain ⟨ca, T2⟩ := ap
    dsimp only at *
    refine wp_region_held_drew (S := USt u d st t nx mp bq repo til) (by kernel_rfl) (by exact USt.of (H2.out.drew) (List.mem_cons_self ..)) (fun hHeld => ?_)
    have H2d := Lib.hid H2.out.drew
    clear H2
    generalize w2.drew = w2d at *
    refine wpAnyH_take (i := 0) (oi := { dst := some 40, op := _, type := _, pos := _, after := _, guard := _ }) (v := .pointer (some ⟨u, 0, none⟩)) rfl (by kernel_rfl) (by kernel_rfl) (by kernel_rfl) (fun _ _ _ h => h) (Or.inl ⟨by rfl, by intro w hSw; (try dsimp only at hSw); go_simp⟩) hHeld ?_
    try simp only [Act.put, List.setIfInBounds_toArray, List.set_cons_zero, List.set_cons_succ]
    refine wpAnyH_take (i := 1) (oi := { dst := some 41, op := _, type := _, pos := _, after := _, guard := _ }) (v := .pointer (some ⟨u, 0, none⟩)) rfl (by kernel_rfl) (by kernel_rfl) (by kernel_rfl) (fun _ _ _ h => h) (Or.inl ⟨by rfl, by intro w hSw; (try dsimp only at hSw); go_simp⟩) hHeld ?_
    try simp only [Act.put, List.setIfInBounds_toArray, List.set_cons_zero, List.set_cons_succ]
    refine wpAnyH_take (i := 2) (oi := { dst := some 42, op := _, type := _, pos := _, after := _, guard := _ }) (v := .pointer (some ⟨u, 0, none⟩)) rfl (by kernel_rfl) (by kernel_rfl) (by kernel_rfl) (fun _ _ _ h => h) (Or.inl ⟨by rfl, by intro w hSw; (try dsimp only at hSw); go_simp⟩) hHeld ?_
    try simp only [Act.put, List.setIfInBounds_toArray, List.set_cons_zero, List.set_cons_succ]
    refine wpAnyH_take (i := 3) (oi := { dst := some 43, op := _, type := _, pos := _, after := _, guard := _ }) (v := .pointer (some ⟨d, 0, none⟩)) rfl (by kernel_rfl) (by kernel_rfl) (by kernel_rfl) (fun _ _ _ h => h) (Or.inl ⟨by rfl, by intro w hSw; (try dsimp only at hSw); (obtain ⟨⟨q0, q1, q2, q3, q4⟩, -⟩ := hSw; go_simp)⟩) hHeld ?_
    try simp only [Act.put, List.setIfInBounds_toArray, List.set_cons_zero, List.set_cons_succ]
    refine wpAnyH_take (i := 4) (oi := { dst := some 44, op := _, type := _, pos := _, after := _, guard := _ }) (v := .int .i64 (nx : Int)) rfl (by kernel_rfl) (by kernel_rfl) (by kernel_rfl) (fun _ _ _ h => h) (Or.inl ⟨by rfl, by intro w hSw; (try dsimp only at hSw); go_simp⟩) hHeld ?_
    try simp only [Act.put, List.setIfInBounds_toArray, List.set_cons_zero, List.set_cons_succ]
    refine wpAnyH_ready (rs := [5]) (by kernel_rfl) (by simp) ?_
    refine AllReadyH.cons (o := { dst := some 45, op := _, type := _, pos := _, after := _, guard := _ }) rfl (fun K hK => ?_) AllReadyH.nil
    refine step_wanted' rfl ?_
    go_simp
    go_at_call 23
    refine (HKEY.out _).mono ?_
    rintro e w3 ⟨rfl, hk3⟩
    have H3 := Lib.hid (H2d.out.quiet hk3)
    refine hK.out _ _ (by exact USt.of H3.out (List.mem_cons_self ..)) (fun hHeld1 => ?_)
    clear hK K
    try simp only [Act.put, List.setIfInBounds_toArray, List.set_cons_zero, List.set_cons_succ]
    refine wpAnyH_ready (rs := [6]) (by kernel_rfl) (by simp) ?_
    refine AllReadyH.cons (o := { dst := some 46, op := _, type := _, pos := _, after := _, guard := _ }) rfl (fun K hK => ?_) AllReadyH.nil
    refine step_wanted' rfl ?_
    go_simp
    go_at_call 41
    obtain ⟨w4, hrn, h4⟩ := HCRE.out _ _ H3.out
    refine hrn.out.mono ?_
    rintro e w' ⟨rfl, rfl⟩
    have H4 := Lib.hid h4
    clear h4
    refine hK.out _ _ (by exact USt.of H4.out (List.mem_cons_self ..)) (fun hHeld2 => ?_)
    clear hK K
    try simp only [Act.put, List.setIfInBounds_toArray, List.set_cons_zero, List.set_cons_succ]
    refine wpAnyH_take (i := 7) (oi := { dst := some 10, op := _, type := _, pos := _, after := _, guard := _ }) (v := .int .i64 c1) rfl (by kernel_rfl) (by kernel_rfl) (by kernel_rfl) (fun _ _ _ h => h) (Or.inl ⟨by rfl, by intro w hSw; (try dsimp only at hSw); go_simp⟩) hHeld2 ?_
    try simp only [Act.put, List.setIfInBounds_toArray, List.set_cons_zero, List.set_cons_succ]
    refine wpAnyH_done (by kernel_rfl) ?_ _
    by_cases hc : c1 = 0
    ·subst hc
     have hr1 := HR.out
     rw [if_pos rfl] at hr1
     have HR := Lib.hid hr1
     clear hr1
     go_upto_region 14 with fail
     refine wp_region_held_drew (S := USt u d st t nx mp bq repo til) (by kernel_rfl) (by exact USt.of (H4.out.drew) (List.mem_cons_self ..)) (fun hHeld => ?_)
     have H4d := Lib.hid H4.out.drew
     clear H4
     generalize w4.drew = w4d at *
     refine wpAnyH_take (i := 0) (oi := { dst := some 50, op := _, type := _, pos := _, after := _, guard := _ }) (v := .pointer (some ⟨u, 0, none⟩)) rfl (by kernel_rfl) (by kernel_rfl) (by kernel_rfl) (fun _ _ _ h => h) (Or.inl ⟨by rfl, by intro w hSw; (try dsimp only at hSw); go_simp⟩) hHeld ?_
     try simp only [Act.put, List.setIfInBounds_toArray, List.set_cons_zero, List.set_cons_succ]
     refine wpAnyH_take (i := 1) (oi := { dst := some 51, op := _, type := _, pos := _, after := _, guard := _ }) (v := .pointer (some ⟨u, 0, none⟩)) rfl (by kernel_rfl) (by kernel_rfl) (by kernel_rfl) (fun _ _ _ h => h) (Or.inl ⟨by rfl, by intro w hSw; (try dsimp only at hSw); go_simp⟩) hHeld ?_
     try simp only [Act.put, List.setIfInBounds_toArray, List.set_cons_zero, List.set_cons_succ]
     refine wpAnyH_take (i := 2) (oi := { dst := some 52, op := _, type := _, pos := _, after := _, guard := _ }) (v := .pointer (some ⟨u, 2, none⟩)) rfl (by kernel_rfl) (by kernel_rfl) (by kernel_rfl) (fun _ _ _ h => h) (Or.inl ⟨by rfl, by intro w hSw; (try dsimp only at hSw); go_simp⟩) hHeld ?_
     try simp only [Act.put, List.setIfInBounds_toArray, List.set_cons_zero, List.set_cons_succ]
     refine wpAnyH_take (i := 3) (oi := { dst := some 53, op := _, type := _, pos := _, after := _, guard := _ }) (v := .pointer (some ⟨t, 0, none⟩)) rfl (by kernel_rfl) (by kernel_rfl) (by kernel_rfl) (fun _ _ _ h => h) (Or.inl ⟨by rfl, by intro w hSw; (try dsimp only at hSw); (obtain ⟨⟨q0, q1, q2, q3, q4⟩, -⟩ := hSw; go_simp)⟩) hHeld ?_
     try simp only [Act.put, List.setIfInBounds_toArray, List.set_cons_zero, List.set_cons_succ]
     refine wpAnyH_take (i := 4) (oi := { dst := some 54, op := _, type := _, pos := _, after := _, guard := _ }) (v := .int .i64 (nx : Int)) rfl (by kernel_rfl) (by kernel_rfl) (by kernel_rfl) (fun _ _ _ h => h) (Or.inl ⟨by rfl, by intro w hSw; (try dsimp only at hSw); go_simp⟩) hHeld ?_
     try simp only [Act.put, List.setIfInBounds_toArray, List.set_cons_zero, List.set_cons_succ]
     refine wpAnyH_take (i := 6) (oi := { dst := some 56, op := _, type := _, pos := _, after := _, guard := _ }) (v := .agg ([.string repo, .int .i64 til, .int .i64 0]).toArray) rfl (by kernel_rfl) (by kernel_rfl) (by kernel_rfl) (fun _ _ _ h => h) (yieldsIf_load_mid (by rfl) _ _ rfl (bq) (0) rfl ([.string repo, .int .i64 til, .int .i64 0]) _ (fun w' hk => hk.2) Tryz.underlying43 rfl HI3.out) hHeld ?_
     try simp only [Act.put, List.setIfInBounds_toArray, List.set_cons_zero, List.set_cons_succ]
     refine wpAnyH_take (i := 9) (oi := { dst := some 59, op := _, type := _, pos := _, after := _, guard := _ }) (v := .int .i64 (nx : Int)) rfl (by kernel_rfl) (by kernel_rfl) (by kernel_rfl) (fun _ _ _ h => h) (Or.inl ⟨by rfl, by intro w hSw; (try dsimp only at hSw); go_simp⟩) hHeld ?_
     try simp only [Act.put, List.setIfInBounds_toArray, List.set_cons_zero, List.set_cons_succ]
     refine wpAnyH_take (i := 10) (oi := { dst := some 60, op := _, type := _, pos := _, after := _, guard := _ }) (v := .int .i64 (n1 : Int)) rfl (by kernel_rfl) (by kernel_rfl) (by kernel_rfl) (fun _ _ _ h => h) (Or.inl ⟨by rfl, by intro w hSw; (try dsimp only at hSw); (go_simp; exact HNX1.out.1)⟩) hHeld ?_
     try simp only [Act.put, List.setIfInBounds_toArray, List.set_cons_zero, List.set_cons_succ]
     refine wpAnyH_take (i := 11) (oi := { dst := some 61, op := _, type := _, pos := _, after := _, guard := _ }) (v := .int .u64 (n1 : Int)) rfl (by kernel_rfl) (by kernel_rfl) (by kernel_rfl) (fun _ _ _ h => h) (Or.inl ⟨by rfl, by intro w hSw; (try dsimp only at hSw); (go_simp; exact HNX1.out.2)⟩) hHeld ?_
     try simp only [Act.put, List.setIfInBounds_toArray, List.set_cons_zero, List.set_cons_succ]
     refine wpAnyH_ready (rs := [5]) (by kernel_rfl) (by simp) ?_
     refine AllReadyH.cons (o := { dst := some 55, op := _, type := _, pos := _, after := _, guard := _ }) rfl (fun K hK => ?_) AllReadyH.nil
     refine step_wanted' rfl ?_
     go_simp
     go_at_call 23
     refine (HKEY.out _).mono ?_
     rintro e w5 ⟨rfl, hk5⟩
     have H5 := Lib.hid (H4d.out.quiet hk5)
     refine hK.out _ _ (by exact USt.of H5.out (List.mem_cons_self ..)) (fun hHeld1 => ?_)
     clear hK K
     try simp only [Act.put, List.setIfInBounds_toArray, List.set_cons_zero, List.set_cons_succ]
     refine wpAnyH_ready (rs := [7]) (by kernel_rfl) (by simp) ?_
     refine AllReadyH.cons (o := { dst := some 57, op := _, type := _, pos := _, after := _, guard := _ }) rfl (fun K hK => ?_) AllReadyH.nil
     refine step_wanted' rfl ?_
     go_simp
     go_at_call 43
     refine (HLAID.out _).mono ?_
     rintro e w6 ⟨v1, rfl, ho1, hk6⟩
     obtain ⟨a1, q1, rfl, -, -⟩ := ho1.bytes.form
     have H6 := Lib.hid (H5.out.endBytes ho1 hk6)
     clear ho1
     refine hK.out _ _ (by exact USt.of H6.out (by simp)) (fun hHeld2 => ?_)
     clear hK K
     try simp only [Act.put, List.setIfInBounds_toArray, List.set_cons_zero, List.set_cons_succ]
     refine wpAnyH_take (i := 8) (oi := { dst := some 58, op := _, type := _, pos := _, after := _, guard := _ }) (v := .agg #[.string ky, .bool false, .slice a1 l1.length q1]) rfl (by kernel_rfl) (by kernel_rfl) (by kernel_rfl) (fun _ _ _ h => h) (Or.inl ⟨by rfl, by intro w hSw; (try dsimp only at hSw); go_simp⟩) hHeld2 ?_
     try simp only [Act.put, List.setIfInBounds_toArray, List.set_cons_zero, List.set_cons_succ]
     refine wpAnyH_ready (rs := [12]) (by kernel_rfl) (by simp) ?_
     refine AllReadyH.cons (o := { dst := some 62, op := _, type := _, pos := _, after := _, guard := _ }) rfl (fun K hK => ?_) AllReadyH.nil
     refine step_wanted' rfl ?_
     go_simp
     go_at_call 44
     refine (HPUT.out _).mono ?_
     rintro e w7 ⟨v2, rfl, ho2, hk7⟩
     obtain ⟨a2, q2, rfl, -, -⟩ := ho2.bytes.form
     have H7 := Lib.hid (H6.out.endBytes ho2 hk7)
     clear ho2
     refine hK.out _ _ (by exact USt.of H7.out (by simp)) (fun hHeld3 => ?_)
     clear hK K
     try simp only [Act.put, List.setIfInBounds_toArray, List.set_cons_zero, List.set_cons_succ]
     refine wpAnyH_take (i := 13) (oi := { dst := some 63, op := _, type := _, pos := _, after := _, guard := _ }) (v := .agg #[.string uB, .bool false, .slice a2 l2.length q2]) rfl (by kernel_rfl) (by kernel_rfl) (by kernel_rfl) (fun _ _ _ h => h) (Or.inl ⟨by rfl, by intro w hSw; (try dsimp only at hSw); (unfold uB; go_simp)⟩) hHeld3 ?_
     try simp only [Act.put, List.setIfInBounds_toArray, List.set_cons_zero, List.set_cons_succ]
     refine wpAnyH_ready (rs := [14]) (by kernel_rfl) (by simp) ?_
     refine AllReadyH.cons (o := { dst := some 64, op := _, type := _, pos := _, after := _, guard := _ }) rfl (fun K hK => ?_) AllReadyH.nil
     refine step_wanted' rfl ?_
     go_simp
     have H8 := Lib.hid (H7.out.endObj (.cells #[.string ky, .bool false, .slice a1 l1.length q1, .string uB, .bool false, .slice a2 l2.length q2] 109))
     refine hK.out _ _ (by exact USt.of H8.out (by simp)) (fun hHeld4 => ?_)
     clear hK K
     try simp only [Act.put, List.setIfInBounds_toArray, List.set_cons_zero, List.set_cons_succ]
     refine wpAnyH_ready (rs := [15]) (by kernel_rfl) (by simp) ?_
     refine AllReadyH.cons (o := { dst := some 65, op := _, type := _, pos := _, after := _, guard := _ }) rfl (fun K hK => ?_) AllReadyH.nil
     refine step_wanted' rfl ?_
     go_simp
     go_at_call 42
     refine (HAPP.out _ _ _ _ _ H8.out).mono ?_
     rintro e w9 ⟨rfl, h9⟩
     have H9 := Lib.hid h9
     clear h9
     refine hK.out _ _ (by exact USt.of H9.out (List.mem_cons_self ..)) (fun hHeld5 => ?_)
     clear hK K
     try simp only [Act.put, List.setIfInBounds_toArray, List.set_cons_zero, List.set_cons_succ]
     refine wpAnyH_take (i := 16) (oi := { dst := some 11, op := _, type := _, pos := _, after := _, guard := _ }) (v := .int .i64 ca) rfl (by kernel_rfl) (by kernel_rfl) (by kernel_rfl) (fun _ _ _ h => h) (Or.inl ⟨by rfl, by intro w hSw; (try dsimp only at hSw); go_simp⟩) hHeld5 ?_
     try simp only [Act.put, List.setIfInBounds_toArray, List.set_cons_zero, List.set_cons_succ]
     refine wpAnyH_done (by kernel_rfl) ?_ _
     by_cases hca : ca = 0
     ·subst hca
      have hr1 := HR.out
      rw [if_pos rfl] at hr1
      subst hr1
      have h9 := H9.out
      obtain ⟨-, -, -, c3, -⟩ := u_cells (h9.at (b := u) (o := uObj d st t nx mp) (by simp [uRes])).1
      have f3 := free_at (h9.at (b := u) (o := uObj d st t nx mp) (by simp [uRes])).1 3
      have hw := HNX1.out.1
      have h10 := h9.enter (repo := repo) (til := til) HPG.out
      rw [← HN1.out] at h10
      have H10 := Lib.hid h10
      clear h9 h10
      go_upto_region 21 with fail
      clear c3 f3 hw
      generalize w9.setCell ⟨u, 3, none⟩ (.int .i64 (n1 : Int)) = w10 at *
      obtain ⟨w13, hrun, h13⟩ := H10.out.drew.enter2 (nx := nx) (repo := repo) (til := til) HPG.out
      obtain ⟨o1, ho1⟩ : ∃ o, o = stObj hWords (restOf 0 (List.replicate 64 0)) := ⟨_, rfl⟩
      rw [← ho1] at hrun h13
      have HDN := Lib.hid (show ∀ W, Runs 46 #[] W (.pointer (some ⟨W.heap.size, 0, none⟩)) (W.alloc o1) from fun W => by rw [ho1]; exact dnew_runs W)
      have H13 := Lib.hid h13
      clear ho1
      refine wp_region_held_drew (S := USt u d st t n1 mp bq repo til) (by kernel_rfl) (by exact USt.of (H10.out.drew) (List.mem_cons_self ..)) (fun hHeld => ?_)
      clear H10 h13
      generalize w10.drew = w10d at *
      refine wpAnyH_take (i := 0) (oi := { dst := some 86, op := _, type := _, pos := _, after := _, guard := _ }) (v := .pointer (some ⟨u, 0, none⟩)) rfl (by kernel_rfl) (by kernel_rfl) (by kernel_rfl) (fun _ _ _ h => h) (Or.inl ⟨by rfl, by intro w hSw; (try dsimp only at hSw); go_simp⟩) hHeld ?_
      try simp only [Act.put, List.setIfInBounds_toArray, List.set_cons_zero, List.set_cons_succ]
      refine wpAnyH_take (i := 1) (oi := { dst := some 87, op := _, type := _, pos := _, after := _, guard := _ }) (v := .pointer (some ⟨u, 0, none⟩)) rfl (by kernel_rfl) (by kernel_rfl) (by kernel_rfl) (fun _ _ _ h => h) (Or.inl ⟨by rfl, by intro w hSw; (try dsimp only at hSw); go_simp⟩) hHeld ?_
      try simp only [Act.put, List.setIfInBounds_toArray, List.set_cons_zero, List.set_cons_succ]
      refine wpAnyH_take (i := 2) (oi := { dst := some 88, op := _, type := _, pos := _, after := _, guard := _ }) (v := .pointer (some ⟨u, 4, none⟩)) rfl (by kernel_rfl) (by kernel_rfl) (by kernel_rfl) (fun _ _ _ h => h) (Or.inl ⟨by rfl, by intro w hSw; (try dsimp only at hSw); go_simp⟩) hHeld ?_
      try simp only [Act.put, List.setIfInBounds_toArray, List.set_cons_zero, List.set_cons_succ]
      refine wpAnyH_take (i := 3) (oi := { dst := some 89, op := _, type := _, pos := _, after := _, guard := _ }) (v := .map (some mp)) rfl (by kernel_rfl) (by kernel_rfl) (by kernel_rfl) (fun _ _ _ h => h) (Or.inl ⟨by rfl, by intro w hSw; (try dsimp only at hSw); (obtain ⟨⟨q0, q1, q2, q3, q4⟩, -⟩ := hSw; go_simp)⟩) hHeld ?_
      try simp only [Act.put, List.setIfInBounds_toArray, List.set_cons_zero, List.set_cons_succ]
      refine wpAnyH_take (i := 4) (oi := { dst := some 90, op := _, type := _, pos := _, after := _, guard := _ }) (v := .int .i64 (nx : Int)) rfl (by kernel_rfl) (by kernel_rfl) (by kernel_rfl) (fun _ _ _ h => h) (Or.inl ⟨by rfl, by intro w hSw; (try dsimp only at hSw); go_simp⟩) hHeld ?_
      try simp only [Act.put, List.setIfInBounds_toArray, List.set_cons_zero, List.set_cons_succ]
      refine wpAnyH_take (i := 5) (oi := { dst := some 91, op := _, type := _, pos := _, after := _, guard := _ }) (v := .agg ([.string repo, .int .i64 til, .int .i64 0]).toArray) rfl (by kernel_rfl) (by kernel_rfl) (by kernel_rfl) (fun _ _ _ h => h) (yieldsIf_load_mid (by rfl) _ _ rfl (bq) (0) rfl ([.string repo, .int .i64 til, .int .i64 0]) _ (fun w' hk => hk.2) Tryz.underlying43 rfl HI3.out) hHeld ?_
      try simp only [Act.put, List.setIfInBounds_toArray, List.set_cons_zero, List.set_cons_succ]
      refine wpAnyH_ready (rs := [6]) (by kernel_rfl) (by simp) ?_
      refine AllReadyH.cons (o := { dst := some 92, op := _, type := _, pos := _, after := _, guard := _ }) rfl (fun K hK => ?_) AllReadyH.nil
      refine step_wanted' rfl ?_
      go_simp
      go_at_call 46
      refine (HDN.out _).out.mono ?_
      rintro e w' ⟨rfl, rfl⟩
      refine hK.out _ _ (by exact USt.keep hHeld ((Keeps.refl _ _).alloc _)) (fun hHeld1 => ?_)
      clear hK K
      try simp only [Act.put, List.setIfInBounds_toArray, List.set_cons_zero, List.set_cons_succ]
      refine wpAnyH_take (i := 7) (oi := { dst := some 93, op := _, type := _, pos := _, after := _, guard := _ }) (v := .agg #[.string repo, .int .i64 til, .int .i64 0, .pointer (some ⟨w10d.heap.size, 0, none⟩)]) rfl (by kernel_rfl) (by kernel_rfl) (by kernel_rfl) (fun _ _ _ h => h) (Or.inl ⟨by rfl, by intro w hSw; (try dsimp only at hSw); go_simp⟩) hHeld1 ?_
      try simp only [Act.put, List.setIfInBounds_toArray, List.set_cons_zero, List.set_cons_succ]
      refine wpAnyH_ready (rs := [8]) (by kernel_rfl) (by simp) ?_
      refine AllReadyH.cons (o := { dst := some 94, op := _, type := _, pos := _, after := _, guard := _ }) rfl (fun K hK => ?_) AllReadyH.nil
      refine step_wanted' rfl ?_
      go_simp
      refine hK.out _ _ (by exact USt.keep hHeld1 ((Keeps.refl _ _).alloc _)) (fun hHeld2 => ?_)
      clear hK K
      try simp only [Act.put, List.setIfInBounds_toArray, List.set_cons_zero, List.set_cons_succ]
      simp only [World.size_alloc] at hrun
      refine wpAnyH_ready (rs := [9]) (by kernel_rfl) (by simp) ?_
      refine AllReadyH.cons (o := { dst := none, op := _, type := _, pos := _, after := _, guard := _ }) rfl (fun K hK => ?_) AllReadyH.nil
      refine step_wanted' rfl ?_
      go_simp
      refine hK.out _ _ (by exact USt.of H13.out (List.mem_cons_self ..)) (fun hHeld3 => ?_)
      clear hK K
      try simp only [Act.put, List.setIfInBounds_toArray, List.set_cons_zero, List.set_cons_succ]
      refine wpAnyH_done (by kernel_rfl) ?_ _
      clear hrun
      go_wp2_with fail
      go_ret2
      exact ⟨rfl, .inl ⟨rfl, _, _, by rw [← HN1.out]; exact H13.out.dropEnd⟩⟩
     ·have hr1 := HR.out
      rw [if_neg hca] at hr1
      have HR := Lib.hid hr1
      have HCA := Lib.hid hca
      have hb : (ca != 0) = true := by simpa using hca
      clear hca hr1
      go_upto_region 16 with fail
      refine wp_region_held_drew (S := USt u d st t nx mp bq repo til) (by kernel_rfl) (by exact USt.of (H9.out.drew) (List.mem_cons_self ..)) (fun hHeld => ?_)
      have H9d := Lib.hid H9.out.drew
      clear H9
      generalize w9.drew = w9d at *
      refine wpAnyH_take (i := 0) (oi := { dst := some 68, op := _, type := _, pos := _, after := _, guard := _ }) (v := .pointer (some ⟨u, 0, none⟩)) rfl (by kernel_rfl) (by kernel_rfl) (by kernel_rfl) (fun _ _ _ h => h) (Or.inl ⟨by rfl, by intro w hSw; (try dsimp only at hSw); go_simp⟩) hHeld ?_
      try simp only [Act.put, List.setIfInBounds_toArray, List.set_cons_zero, List.set_cons_succ]
      refine wpAnyH_take (i := 1) (oi := { dst := some 69, op := _, type := _, pos := _, after := _, guard := _ }) (v := .pointer (some ⟨u, 0, none⟩)) rfl (by kernel_rfl) (by kernel_rfl) (by kernel_rfl) (fun _ _ _ h => h) (Or.inl ⟨by rfl, by intro w hSw; (try dsimp only at hSw); go_simp⟩) hHeld ?_
      try simp only [Act.put, List.setIfInBounds_toArray, List.set_cons_zero, List.set_cons_succ]
      refine wpAnyH_take (i := 2) (oi := { dst := some 70, op := _, type := _, pos := _, after := _, guard := _ }) (v := .pointer (some ⟨u, 0, none⟩)) rfl (by kernel_rfl) (by kernel_rfl) (by kernel_rfl) (fun _ _ _ h => h) (Or.inl ⟨by rfl, by intro w hSw; (try dsimp only at hSw); go_simp⟩) hHeld ?_
      try simp only [Act.put, List.setIfInBounds_toArray, List.set_cons_zero, List.set_cons_succ]
      refine wpAnyH_take (i := 3) (oi := { dst := some 71, op := _, type := _, pos := _, after := _, guard := _ }) (v := .pointer (some ⟨d, 0, none⟩)) rfl (by kernel_rfl) (by kernel_rfl) (by kernel_rfl) (fun _ _ _ h => h) (Or.inl ⟨by rfl, by intro w hSw; (try dsimp only at hSw); (obtain ⟨⟨q0, q1, q2, q3, q4⟩, -⟩ := hSw; go_simp)⟩) hHeld ?_
      try simp only [Act.put, List.setIfInBounds_toArray, List.set_cons_zero, List.set_cons_succ]
      refine wpAnyH_take (i := 4) (oi := { dst := some 72, op := _, type := _, pos := _, after := _, guard := _ }) (v := .int .i64 (nx : Int)) rfl (by kernel_rfl) (by kernel_rfl) (by kernel_rfl) (fun _ _ _ h => h) (Or.inl ⟨by rfl, by intro w hSw; (try dsimp only at hSw); go_simp⟩) hHeld ?_
      try simp only [Act.put, List.setIfInBounds_toArray, List.set_cons_zero, List.set_cons_succ]
      refine wpAnyH_ready (rs := [5]) (by kernel_rfl) (by simp) ?_
      refine AllReadyH.cons (o := { dst := some 73, op := _, type := _, pos := _, after := _, guard := _ }) rfl (fun K hK => ?_) AllReadyH.nil
      refine step_wanted' rfl ?_
      go_simp
      go_at_call 23
      refine (HKEY.out _).mono ?_
      rintro e w10 ⟨rfl, hk10⟩
      have H10 := Lib.hid (H9d.out.quiet hk10)
      refine hK.out _ _ (by exact USt.of H10.out (List.mem_cons_self ..)) (fun hHeld1 => ?_)
      clear hK K
      try simp only [Act.put, List.setIfInBounds_toArray, List.set_cons_zero, List.set_cons_succ]
      refine wpAnyH_ready (rs := [6]) (by kernel_rfl) (by simp) ?_
      refine AllReadyH.cons (o := { dst := some 74, op := _, type := _, pos := _, after := _, guard := _ }) rfl (fun K hK => ?_) AllReadyH.nil
      refine step_wanted' rfl ?_
      go_simp
      go_at_call 45
      obtain ⟨w11, hrn, h11⟩ := HREM.out _ _ H10.out
      refine hrn.out.mono ?_
      rintro e w' ⟨rfl, rfl⟩
      have H11 := Lib.hid h11
      clear h11
      refine hK.out _ _ (by exact USt.of H11.out (List.mem_cons_self ..)) (fun hHeld2 => ?_)
      clear hK K
      try simp only [Act.put, List.setIfInBounds_toArray, List.set_cons_zero, List.set_cons_succ]
      refine wpAnyH_take (i := 7) (oi := { dst := some 12, op := _, type := _, pos := _, after := _, guard := _ }) (v := .int .i64 rm.1) rfl (by kernel_rfl) (by kernel_rfl) (by kernel_rfl) (fun _ _ _ h => h) (Or.inl ⟨by rfl, by intro w hSw; (try dsimp only at hSw); go_simp⟩) hHeld2 ?_
      try simp only [Act.put, List.setIfInBounds_toArray, List.set_cons_zero, List.set_cons_succ]
      refine wpAnyH_done (by kernel_rfl) ?_ _
      obtain ⟨r1, r2⟩ := rm
      dsimp only at *
      by_cases hrm : r1 = 0
      ·subst hrm
       have hr1 := HR.out
       rw [if_pos rfl] at hr1
       subst hr1
       clear HR
       go_wp2_with fail
       go_ret2
       exact ⟨rfl, .inr ⟨HCA.out, H11.out.dropEnd⟩⟩
      ·have hr1 := HR.out
       rw [if_neg hrm] at hr1
       subst hr1
       have hb2 : (r1 != 0) = true := by simpa using hrm
       have HRM := Lib.hid hrm
       clear HR hrm
       go_wp2_with fail
       go_ret2
       exact ⟨rfl, .inr ⟨HRM.out, H11.out.dropEnd⟩⟩
    ·have hr1 := HR.out
     rw [if_neg hc] at hr1
     subst hr1
     have hb : (c1 != 0) = true := by simpa using hc
     have HC := Lib.hid hc
     clear HR hc
     go_wp2_with fail
     go_ret2
     exact ⟨rfl, .inr ⟨HC.out, H4.out.dropEnd⟩⟩
end
set_option maxRecDepth 100000 in
set_option maxHeartbeats 1000000 in
theorem dwrite_calls {w : World} {s : Nat} {L l : List UInt8} {pv : Value} (hs : StAt w s L) (hr : Reads w pv l) (hne : ∀ x n c, pv = .slice (some x) n c → l ≠ [] → x.block ≠ s) (hb : L.length + l.length ≤ 4194304) :
  Calls Tryz.prog 50 #[.pointer (some ⟨s, 0, none⟩), pv] w fun e w' => e = .returned (.int .i64 0) ∧ Keeps (fun b => b = s) w w' ∧ StAt w' s (L ++ l) := by
 have hput := put_calls' hs hr hne (by omega)
 obtain ⟨a, c, rfl, -, -⟩ := hr.form
 obtain ⟨tail, hh, ht, hp⟩ := hs
 obtain ⟨x0, x1, x2, x3, x4, x5, x6, x7, hx⟩ := list8 (hashN_length L (L.length / 64))
 have hh2 := hh
 unfold stObj hashH restOf at hh2
 rw [hx] at hh2
 have c8 := cell_at (i := 8) hh2 rfl
 simp only [List.map_cons, List.map_nil, List.cons_append, List.nil_append, List.getElem_toArray, List.getElem_cons_succ, List.getElem_cons_zero] at c8
 have HP := Lib.hid hput
 obtain ⟨n, hn⟩ : ∃ n, n = L.length := ⟨_, rfl⟩
 obtain ⟨k, hk⟩ : ∃ k, k = l.length := ⟨_, rfl⟩
 rw [← hn] at c8 hb
 rw [← hk] at HP hb ⊢
 obtain ⟨z, hz⟩ : ∃ z : Int, z = 2305843009213693951 - (n : Int) := ⟨_, rfl⟩
 have hw : IntKind.u64.wrap (2305843009213693951 - (n : Int)) = z := by rw [IntWalk.u64_in _ (by omega)]; exact hz.symm
 have hw2 : IntKind.u64.wrap (k : Int) = (k : Int) := IntWalk.u64_in _ (by omega)
 have hb2 : decide (z < (k : Int)) = false := decide_eq_false (by omega)
 clear hput hr hne hh hh2 hx hp ht hn hk hz hb
 go_enter Tryz.func50, Tryz.ntmps50
 go_wp2_with fail
 refine HP.out.mono ?_
 rintro e w1 ⟨rfl, hk1, hs1⟩
 have H1 := Lib.hid (And.intro hk1 hs1)
 clear hk1 hs1 HP
 go_wp2_with fail
 go_ret
 exact ⟨rfl, H1.out⟩
def patchOf (T : TM) (ky : ByteArray) (x : Ses) (at_ : Int) (p : List UInt8) : Int × TM × Ses :=
 if at_ = (x.b.length : Int) then
  (if (1048576 : Int) - (x.b.length : Int) < (p.length : Int) then (8, T, x)
   else if (appendOf T.m ky p).1 = 0 then
   (if (syncOf (appendOf T.m ky p).2).1 = 0 then (0, { T with m := (syncOf (appendOf T.m ky p).2).2 }, { x with b := x.b ++ p })
    else ((syncOf (appendOf T.m ky p).2).1, { T with m := (syncOf (appendOf T.m ky p).2).2 }, x))
   else ((appendOf T.m ky p).1, { T with m := (appendOf T.m ky p).2 }, x))
 else (130, T, x)
section
variable {w wr : World} {d u st t mp j b : Nat} {nm : ByteArray} {T : TM} {next : Int} {L L1 L2 : UL} {rs : List (Res w.heap.size)}
def uRest (B d u st t mp : Nat) (next : Int) (ps : PS) (L1 L2 : UL) : List (Res B) := rObj B u (uObj d st t next mp) :: rObj B st (stObj1 d) :: rPMap B mp ps :: (liveRes B L1 ++ liveRes B L2)
theorem perm_focus {α : Type} (T L1 L2 R : List α) (a s p x y : α) : (T ++ ((a :: s :: p :: (L1 ++ (x :: y :: L2))) ++ R)).Perm (x :: y :: (T ++ ((a :: s :: p :: (L1 ++ L2)) ++ R))) := by
 have h1 : (T ++ ([x, y] ++ ((a :: s :: p :: (L1 ++ L2)) ++ R))).Perm ([x, y] ++ (T ++ ((a :: s :: p :: (L1 ++ L2)) ++ R))) := List.perm_append_comm_assoc _ _ _
 refine List.Perm.trans (List.Perm.append_left T ?_) h1
 have h2 : ([a, s, p] ++ ([x, y] ++ ((L1 ++ L2) ++ R))).Perm ([x, y] ++ ([a, s, p] ++ ((L1 ++ L2) ++ R))) := List.perm_append_comm_assoc _ _ _
 refine List.Perm.trans ?_ h2
 have h3 : (L1 ++ ([x, y] ++ (L2 ++ R))).Perm ([x, y] ++ (L1 ++ (L2 ++ R))) := List.perm_append_comm_assoc _ _ _
 have h4 : ((L1 ++ (x :: y :: L2)) ++ R).Perm ([x, y] ++ ((L1 ++ L2) ++ R)) := by
  rw [List.append_assoc, List.append_assoc]; exact h3
 exact ((h4.cons p).cons s).cons a
theorem Own.focus {W : World} {x : Ses} {sp q : Nat} {M : List (Res w.heap.size)} (h : Own w W (tRes w.heap.size d j t b nm T ++ (uRes w.heap.size d u st t mp next (L1 ++ (x, sp, q) :: L2) ++ M))) :
  Own w W (rObj w.heap.size sp (sesObj x q) :: rSt w.heap.size q x.b :: (tRes w.heap.size d j t b nm T ++ (uRest w.heap.size d u st t mp next (ptrs (L1 ++ (x, sp, q) :: L2)) L1 L2 ++ M))) := by
 unfold uRes at h
 rw [liveRes_append] at h
 exact h.perm (perm_focus ..)
theorem Own.unfocus {W : World} {x : Ses} {sp q : Nat} {M : List (Res w.heap.size)} {ps : PS} (h : Own w W (rObj w.heap.size sp (sesObj x q) :: rSt w.heap.size q x.b :: (tRes w.heap.size d j t b nm T ++ (uRest w.heap.size d u st t mp next ps L1 L2 ++ M)))) (hp : ps = ptrs (L1 ++ (x, sp, q) :: L2)) :
  Own w W (tRes w.heap.size d j t b nm T ++ (uRes w.heap.size d u st t mp next (L1 ++ (x, sp, q) :: L2) ++ M)) := by
 subst hp
 unfold uRes
 rw [liveRes_append]
 exact h.perm (perm_focus ..).symm
theorem Own.write {W : World} {q : Nat} {l p : List UInt8} {pv : Value} (h : Own w W (rSt w.heap.size q l :: rs)) (hr : Reads W pv p) (hne : ∀ x n c, pv = .slice (some x) n c → p ≠ [] → x.block ≠ q) (hb : l.length + p.length ≤ 4194304) :
  Calls Tryz.prog 50 #[.pointer (some ⟨q, 0, none⟩), pv] W fun e w' => e = .returned (.int .i64 0) ∧ Own w w' (rSt w.heap.size q (l ++ p) :: rs) := by
 obtain ⟨F, hi, hF, hfin⟩ := h.open1
 refine (dwrite_calls hi.2 hr hne hb).mono ?_
 rintro e w' ⟨rfl, hk, hs⟩
 exact ⟨rfl, hfin w' (rSt _ q (l ++ p)) (hk.mono (fun _ _ e => by rw [e]; exact hi.1)) ⟨.inl hi.1, hs⟩⟩
def UPatchPost (w : World) (d j t b u st mp : Nat) (nm : ByteArray) (next : Int) (L1 L2 : UL) (sp q : Nat) (rs : List (Res w.heap.size)) (r : Int × TM × Ses) (e : Ending) (w' : World) : Prop :=
 e = .returned (.int .i64 r.1) ∧ Own w w' (tRes w.heap.size d j t b nm r.2.1 ++ (uRes w.heap.size d u st t mp next (L1 ++ (r.2.2, sp, q) :: L2) ++ rs))
set_option maxRecDepth 100000 in
set_option maxHeartbeats 1000000 in
theorem upatch_calls {w0 : World} {x : Ses} {sp q : Nat} (h : Own w w0 (tRes w.heap.size d j t b nm T ++ (uRes w.heap.size d u st t mp next (L1 ++ (x, sp, q) :: L2) ++ rs))) (hf : uget (L1 ++ (x, sp, q) :: L2) x.id = some (x, sp, q)) {n : Nat} (hg : Good T.m n) (hn : n + 3 < 549755813888) {nx : Nat} (hid : x.id = (nx : Int)) (hnx : nx ≤ 4294967295) (hxb : x.b.length ≤ 1048576) (at_ : Int) {pv : Value} {p : List UInt8} (hpl : p.length ≤ 140737488355328)
  (hp : ∀ (W : World) (M : List (Res w.heap.size)), Own w W (M ++ rs) → Reads W pv p) (hne : ∀ x n c, pv = .slice (some x) n c → p ≠ [] → x.block ≠ q) :
  Calls Tryz.prog 10 #[.pointer (some ⟨u, 0, none⟩), .int .i64 x.id, .int .i64 at_, pv] w0 (UPatchPost w d j t b u st mp nm next L1 L2 sp q rs (patchOf T (ukeyOf nx) x at_ p)) := by
 have hfi := ufind_runs (L := L1 ++ (x, sp, q) :: L2) h (u := u) (d := d) (st := st) (t := t) (mp := mp) (next := next) (by simp [uRes]) (by simp [uRes]) x.id
 unfold ufindOf at hfi
 rw [hf] at hfi
 dsimp only at hfi
 have HFI := Lib.hid hfi
 have H0 := Lib.hid h
 have hrd := hp w0 (tRes w.heap.size d j t b nm T ++ uRes w.heap.size d u st t mp next (L1 ++ (x, sp, q) :: L2)) (by rw [List.append_assoc]; exact h)
 obtain ⟨pa, pc, rfl, -, -⟩ := hrd.form
 have hobs : ∀ {W : World} {T' : TM}, Own w W (tRes w.heap.size d j t b nm T' ++ (uRes w.heap.size d u st t mp next (L1 ++ (x, sp, q) :: L2) ++ rs)) → W.heap[sp]? = some (sesObj x q) ∧ W.heap[u]? = some (uObj d st t next mp) := fun {W T'} h =>
  ⟨(h.focus.at (b := sp) (o := sesObj x q) (by simp)).1, (h.at (b := u) (o := uObj d st t next mp) (by simp [uRes])).1⟩
 have HOB := Lib.hid (fun W T' h => hobs (W := W) (T' := T') h)
 obtain ⟨-, -, s2, -⟩ := ses_cells (hobs h).1
 obtain ⟨bl, hbl⟩ : ∃ bl, bl = x.b.length := ⟨_, rfl⟩
 obtain ⟨pl, hpl2⟩ : ∃ pl, pl = p.length := ⟨_, rfl⟩
 have HBL := Lib.hid (And.intro hbl hpl2)
 rw [← hbl] at s2 hxb
 rw [← hpl2] at hpl ⊢
 have HX := Lib.hid (And.intro hxb hpl)
 simp only [← hpl2] at hp hne
 have HP := Lib.hid hp
 have HNE := Lib.hid hne
 have HG := Lib.hid hg
 have HN := Lib.hid hn
 clear h hfi hf hrd hg hn hp hne hobs
 by_cases ha : at_ = (bl : Int)
 ·have b1 : (at_ != (bl : Int)) = false := by simp [ha]
  have hw : IntKind.i64.wrap (1048576 - (bl : Int)) = 1048576 - (bl : Int) := IntWalk.i64_in _ (by omega)
  by_cases hl : (1048576 : Int) - (bl : Int) < (pl : Int)
  ·have hS : patchOf T (ukeyOf nx) x at_ p = (8, T, x) := by
    unfold patchOf
    rw [← HBL.out.1, ← HBL.out.2, if_pos ha, if_pos hl]
   rw [hS]
   have b2 : decide ((1048576 : Int) - (bl : Int) < (pl : Int)) = true := decide_eq_true hl
   clear hS ha hl hbl hpl2 hxb hpl hid hnx
   go_enter Tryz.func10, Tryz.ntmps10
   go_wp2_with fail
   refine HFI.out.out.mono ?_
   rintro e w' ⟨rfl, rfl⟩
   go_wp2_with fail
   go_ret
   exact ⟨rfl, H0.out⟩
  ·have b2 : decide ((1048576 : Int) - (bl : Int) < (pl : Int)) = false := decide_eq_false hl
   obtain ⟨R, hR⟩ : ∃ R, patchOf T (ukeyOf nx) x at_ p = R := ⟨_, rfl⟩
   rw [hR]
   unfold patchOf at hR
   rw [← HBL.out.1, ← HBL.out.2, if_pos ha, if_neg hl] at hR
   obtain ⟨ky, hky⟩ : ∃ k, k = ukeyOf nx := ⟨_, rfl⟩
   rw [← hky] at hR
   have HKEY := Lib.hid (show ∀ W, Calls Tryz.prog 23 #[.int .i64 x.id] W (QuietP W (.string ky)) from fun W => by rw [hky, hid]; exact ukey_calls W nx nx (IntWalk.u64_in _ (by omega)) (by omega))
   obtain ⟨ar, har⟩ : ∃ r, r = appendOf T.m ky p := ⟨_, rfl⟩
   obtain ⟨sr, hsr⟩ : ∃ r, r = syncOf ar.2 := ⟨_, rfl⟩
   rw [← har, ← hsr] at hR
   have hga : Good ar.2 (n + 1) := by rw [har]; exact HG.out.append ky p
   have HAPP := Lib.hid (show ∀ W, Own w W (tRes w.heap.size d j t b nm T ++ (uRes w.heap.size d u st t mp next (L1 ++ (x, sp, q) :: L2) ++ rs)) → Calls Tryz.prog 48 #[.pointer (some ⟨d, 0, none⟩), .string ky, .slice pa pl pc] W (fun e w' => e = .returned (.int .i64 ar.1) ∧ Own w w' (tRes w.heap.size d j t b nm { T with m := ar.2 } ++ (uRes w.heap.size d u st t mp next (L1 ++ (x, sp, q) :: L2) ++ rs))) from fun W hW => by
    rw [har]
    exact Own.append hW ky (HP.out W (tRes w.heap.size d j t b nm T ++ uRes w.heap.size d u st t mp next (L1 ++ (x, sp, q) :: L2)) (by rw [List.append_assoc]; exact hW)) HG.out.room0 HG.out.room1 HG.out.unow HG.out.fuse (HG.out.loose (by have := HN.out; omega)))
   have HSY := Lib.hid (show ∀ W, Own w W (tRes w.heap.size d j t b nm { T with m := ar.2 } ++ (uRes w.heap.size d u st t mp next (L1 ++ (x, sp, q) :: L2) ++ rs)) → Calls Tryz.prog 49 #[.pointer (some ⟨d, 0, none⟩)] W (fun e w' => e = .returned (.int .i64 sr.1) ∧ Own w w' (tRes w.heap.size d j t b nm { T with m := sr.2 } ++ (uRes w.heap.size d u st t mp next (L1 ++ (x, sp, q) :: L2) ++ rs))) from fun W hW => by
    rw [hsr]
    exact Own.sync hW hga.fuse hga.fits1)
   obtain ⟨c1, m1⟩ := ar
   obtain ⟨c2, m2⟩ := sr
   dsimp only at hR HAPP HSY
   have HR := Lib.hid hR
   have hw3 : IntKind.i64.wrap ((bl : Int) + (pl : Int)) = ((bl : Int) + (pl : Int)) := IntWalk.i64_in _ (by omega)
   have HW3 := Lib.hid hw3
   have HSM := Lib.hid (show bl + pl ≤ 1048576 by omega)
   clear hR hky har hsr hga ha hl hbl hpl2 hxb hpl hid hnx hw3 HG HN
   go_enter Tryz.func10, Tryz.ntmps10
   go_wp2_with fail
   refine HFI.out.out.mono ?_
   rintro e w' ⟨rfl, rfl⟩
   go_upto_region 8 with fail
   clear s2 hw b1 b2 HFI
   refine wp_region_held_drew (S := fun W => W.cell? ⟨u, 0, none⟩ = some (.pointer (some ⟨d, 0, none⟩))) (by kernel_rfl) (by exact (u_cells (HOB.out _ _ H0.out.drew).2).1) (fun hHeld => ?_)
   have H0d := Lib.hid H0.out.drew
   clear H0
   refine wpAnyH_take (i := 0) (oi := { dst := some 41, op := _, type := _, pos := _, after := _, guard := _ }) (v := .pointer (some ⟨u, 0, none⟩)) rfl (by kernel_rfl) (by kernel_rfl) (by kernel_rfl) (fun _ _ _ h => h) (Or.inl ⟨by rfl, by intro w hSw; (try dsimp only at hSw); go_simp⟩) hHeld ?_
   try simp only [Act.put, List.setIfInBounds_toArray, List.set_cons_zero, List.set_cons_succ]
   refine wpAnyH_take (i := 1) (oi := { dst := some 42, op := _, type := _, pos := _, after := _, guard := _ }) (v := .pointer (some ⟨u, 0, none⟩)) rfl (by kernel_rfl) (by kernel_rfl) (by kernel_rfl) (fun _ _ _ h => h) (Or.inl ⟨by rfl, by intro w hSw; (try dsimp only at hSw); go_simp⟩) hHeld ?_
   try simp only [Act.put, List.setIfInBounds_toArray, List.set_cons_zero, List.set_cons_succ]
   refine wpAnyH_take (i := 2) (oi := { dst := some 43, op := _, type := _, pos := _, after := _, guard := _ }) (v := .pointer (some ⟨u, 0, none⟩)) rfl (by kernel_rfl) (by kernel_rfl) (by kernel_rfl) (fun _ _ _ h => h) (Or.inl ⟨by rfl, by intro w hSw; (try dsimp only at hSw); go_simp⟩) hHeld ?_
   try simp only [Act.put, List.setIfInBounds_toArray, List.set_cons_zero, List.set_cons_succ]
   refine wpAnyH_take (i := 3) (oi := { dst := some 44, op := _, type := _, pos := _, after := _, guard := _ }) (v := .pointer (some ⟨d, 0, none⟩)) rfl (by kernel_rfl) (by kernel_rfl) (by kernel_rfl) (fun _ _ _ h => h) (Or.inl ⟨by rfl, by intro w hSw; (try dsimp only at hSw); (have q0 := hSw; go_simp)⟩) hHeld ?_
   try simp only [Act.put, List.setIfInBounds_toArray, List.set_cons_zero, List.set_cons_succ]
   refine wpAnyH_take (i := 4) (oi := { dst := some 45, op := _, type := _, pos := _, after := _, guard := _ }) (v := .int .i64 x.id) rfl (by kernel_rfl) (by kernel_rfl) (by kernel_rfl) (fun _ _ _ h => h) (Or.inl ⟨by rfl, by intro w hSw; (try dsimp only at hSw); go_simp⟩) hHeld ?_
   try simp only [Act.put, List.setIfInBounds_toArray, List.set_cons_zero, List.set_cons_succ]
   refine wpAnyH_take (i := 6) (oi := { dst := some 47, op := _, type := _, pos := _, after := _, guard := _ }) (v := .slice pa pl pc) rfl (by kernel_rfl) (by kernel_rfl) (by kernel_rfl) (fun _ _ _ h => h) (Or.inl ⟨by rfl, by intro w hSw; (try dsimp only at hSw); go_simp⟩) hHeld ?_
   try simp only [Act.put, List.setIfInBounds_toArray, List.set_cons_zero, List.set_cons_succ]
   refine wpAnyH_ready (rs := [5]) (by kernel_rfl) (by simp) ?_
   refine AllReadyH.cons (o := { dst := some 46, op := _, type := _, pos := _, after := _, guard := _ }) rfl (fun K hK => ?_) AllReadyH.nil
   refine step_wanted' rfl ?_
   go_simp
   go_at_call 23
   refine (HKEY.out _).mono ?_
   rintro e w3 ⟨rfl, hk3⟩
   have H3 := Lib.hid (H0d.out.quiet hk3)
   refine hK.out _ _ (by exact (u_cells (HOB.out _ _ H3.out).2).1) (fun hHeld1 => ?_)
   clear hK K
   try simp only [Act.put, List.setIfInBounds_toArray, List.set_cons_zero, List.set_cons_succ]
   refine wpAnyH_ready (rs := [7]) (by kernel_rfl) (by simp) ?_
   refine AllReadyH.cons (o := { dst := some 48, op := _, type := _, pos := _, after := _, guard := _ }) rfl (fun K hK => ?_) AllReadyH.nil
   refine step_wanted' rfl ?_
   go_simp
   go_at_call 48
   refine (HAPP.out _ H3.out).mono ?_
   rintro e w4 ⟨rfl, h4⟩
   have H4 := Lib.hid h4
   clear h4
   refine hK.out _ _ (by exact (u_cells (HOB.out _ _ H4.out).2).1) (fun hHeld2 => ?_)
   clear hK K
   try simp only [Act.put, List.setIfInBounds_toArray, List.set_cons_zero, List.set_cons_succ]
   refine wpAnyH_take (i := 8) (oi := { dst := some 11, op := _, type := _, pos := _, after := _, guard := _ }) (v := .int .i64 c1) rfl (by kernel_rfl) (by kernel_rfl) (by kernel_rfl) (fun _ _ _ h => h) (Or.inl ⟨by rfl, by intro w hSw; (try dsimp only at hSw); go_simp⟩) hHeld2 ?_
   try simp only [Act.put, List.setIfInBounds_toArray, List.set_cons_zero, List.set_cons_succ]
   refine wpAnyH_done (by kernel_rfl) ?_ _
   by_cases hc : c1 = 0
   ·subst hc
    have hr1 := HR.out
    rw [if_pos rfl] at hr1
    have HR := Lib.hid hr1
    clear hr1
    obtain ⟨k0, -, -, -, -⟩ := u_cells (HOB.out _ _ H4.out).2
    go_wp2_with fail
    refine (HSY.out _ H4.out).mono ?_
    rintro e w5 ⟨rfl, h5⟩
    clear k0 H4
    by_cases hc2 : c2 = 0
    ·subst hc2
     have hr1 := HR.out
     rw [if_pos rfl] at hr1
     subst hr1
     have hs5 := (HOB.out _ _ h5).1
     obtain ⟨-, -, s2, s3⟩ := ses_cells hs5
     rw [← HBL.out.1] at s2
     have f2 := free_at hs5 2
     have h6 := h5.focus.store 2 (.int .i64 ((bl : Int) + (pl : Int)))
     have s3' : (w5.setCell ⟨sp, 2, none⟩ (.int .i64 ((bl : Int) + (pl : Int)))).cell? ⟨sp, 3, none⟩ = some (.pointer (some ⟨q, 0, none⟩)) := cell_at (h6.at (List.mem_cons_self ..)).1 rfl
     have h7 : Own w (w5.setCell ⟨sp, 2, none⟩ (.int .i64 ((bl : Int) + (pl : Int)))) (rSt w.heap.size q x.b :: rObj w.heap.size sp (sesObj { x with b := x.b ++ p } q) :: (tRes w.heap.size d j t b nm { T with m := m2 } ++ (uRest w.heap.size d u st t mp next (ptrs (L1 ++ (x, sp, q) :: L2)) L1 L2 ++ rs))) := by
      have e : (sesObj { x with b := x.b ++ p } q) = Obj.cells (#[.string x.repo, .int .i64 x.til, .int .i64 (x.b.length : Int), .pointer (some ⟨q, 0, none⟩)].setIfInBounds 2 (.int .i64 ((bl : Int) + (pl : Int)))) 116 (0, 0) := by
       unfold sesObj
       rw [HBL.out.1, HBL.out.2]
       simp
      rw [e]
      exact h6.swap
     have hwr := h7.write (pv := .slice pa pl pc) (p := p) (HP.out _ (rSt w.heap.size q x.b :: rObj w.heap.size sp (sesObj { x with b := x.b ++ p } q) :: (tRes w.heap.size d j t b nm { T with m := m2 } ++ uRest w.heap.size d u st t mp next (ptrs (L1 ++ (x, sp, q) :: L2)) L1 L2)) (by show Own _ _ (_ :: _ :: ((_ ++ _) ++ rs)); rw [List.append_assoc]; exact h7)) HNE.out (by have := HSM.out; have := HBL.out; omega)
     have HWR := Lib.hid hwr
     have hw3 := HW3.out
     clear h5 h6 h7 hwr hs5 HR
     go_wp2_with fail
     refine HWR.out.mono ?_
     rintro e w6 ⟨rfl, h8⟩
     have H8 := Lib.hid (Own.unfocus (x := { x with b := x.b ++ p }) h8.swap (by simp [ptrs]))
     clear h8 HWR s2 s3 s3' f2 hw3
     go_wp2_with fail
     go_ret
     exact ⟨rfl, H8.out⟩
    ·have hr1 := HR.out
     rw [if_neg hc2] at hr1
     subst hr1
     have hb2 : (c2 != 0) = true := by simpa using hc2
     have H5 := Lib.hid h5
     clear HR hc2 h5
     go_wp2_with fail
     go_ret
     exact ⟨rfl, H5.out⟩
   ·have hr1 := HR.out
    rw [if_neg hc] at hr1
    subst hr1
    have hb2 : (c1 != 0) = true := by simpa using hc
    clear HR hc
    go_wp2_with fail
    go_ret
    exact ⟨rfl, H4.out⟩
 ·have hS : patchOf T (ukeyOf nx) x at_ p = (130, T, x) := by
   unfold patchOf
   rw [← HBL.out.1, if_neg ha]
  rw [hS]
  have b1 : (at_ != (bl : Int)) = true := by simpa using ha
  clear hS ha hbl hpl2 hxb hpl hid hnx
  go_enter Tryz.func10, Tryz.ntmps10
  go_wp2_with fail
  refine HFI.out.out.mono ?_
  rintro e w' ⟨rfl, rfl⟩
  go_wp2_with fail
  go_ret
  exact ⟨rfl, H0.out⟩
end
theorem adopt_good {m : DM} {n : Nat} (h : Good m n) (nm : ByteArray) (dg : List UInt8) : Good (adoptOf m nm dg).2 (n + 1) := by
 unfold adoptOf
 split
 ·split
  ·split
   ·split
    ·exact (h.remove nm).sync
    ·exact h.remove nm
   ·split
    ·exact (h.rename nm (fileOf dg)).sync
    ·exact h.rename nm (fileOf dg)
  ·exact h.mono (Nat.le_succ _)
 ·exact h.mono (Nat.le_succ _)
def closeOf (T : TM) (nm ky : ByteArray) (dg : List UInt8) : Int × TM :=
 if ¬ (adoptOf T.m ky dg).1 = 0 ∧ ¬ (adoptOf T.m ky dg).1 = 6 then ((adoptOf T.m ky dg).1, { T with m := (adoptOf T.m ky dg).2 })
 else if (tAppOf { T with m := (adoptOf T.m ky dg).2 } nm [⟨ky, true, []⟩]).1 = 4 then (0, (tAppOf { T with m := (adoptOf T.m ky dg).2 } nm [⟨ky, true, []⟩]).2)
 else ((tAppOf { T with m := (adoptOf T.m ky dg).2 } nm [⟨ky, true, []⟩]).1, (tAppOf { T with m := (adoptOf T.m ky dg).2 } nm [⟨ky, true, []⟩]).2)
section
variable {w wr : World} {d u st t mp j b : Nat} {nm : ByteArray} {T : TM} {next : Int} {L L1 L2 : UL} {rs : List (Res w.heap.size)}
def UCl (u d st t : Nat) (next : Int) (mp bd : Nat) (cl : List Value) (W : World) : Prop :=
 (W.cell? ⟨u, 0, none⟩ = some (.pointer (some ⟨d, 0, none⟩)) ∧ W.cell? ⟨u, 1, none⟩ = some (.pointer (some ⟨st, 0, none⟩)) ∧ W.cell? ⟨u, 2, none⟩ = some (.pointer (some ⟨t, 0, none⟩)) ∧ W.cell? ⟨u, 3, none⟩ = some (.int .i64 next) ∧ W.cell? ⟨u, 4, none⟩ = some (.map (some mp))) ∧ W.rangeAt bd 0 cl
theorem UCl.of {bd : Nat} {cl : List Value} {W : World} {A M : List (Res w.heap.size)} (h : Own w W (A ++ (uRes w.heap.size d u st t mp next L ++ M))) (hm : rObj w.heap.size bd (.cells cl.toArray 39) ∈ M) : UCl u d st t next mp bd cl W := by
 refine ⟨u_cells (h.at (b := u) (o := uObj d st t next mp) (by simp [uRes])).1, fun k v hv => ?_⟩
 rw [Nat.zero_add]
 exact cell_at (h.at (b := bd) (o := .cells cl.toArray 39) (by simp [hm])).1 (by rw [List.getElem?_toArray]; exact hv)
theorem one_in13 {wr : World} {b : Nat} {key : ByteArray} {gone : Bool} {pv : Value} {val : List UInt8} {t : TypeId} (hb : wr.heap[b]? = some (.cells #[.string key, .bool gone, pv] t)) (hp : Reads wr pv val) : TChsIn wr (some ⟨b, 0, none⟩) [⟨key, gone, val⟩] := by
 intro i ch hc
 match i, hc with
 | 0, hc =>
  cases hc
  exact ⟨_, _, rfl, cell_at hb rfl, cell_at hb rfl, cell_at hb rfl, hp⟩
 | i + 1, hc => simp at hc
def ULPost (w : World) (d j t b u st mp : Nat) (nm : ByteArray) (next : Int) (L : UL) (rs : List (Res w.heap.size)) (r : Int × TM) (e : Ending) (w' : World) : Prop :=
 e = .returned (.int .i64 r.1) ∧ Own w w' (tRes w.heap.size d j t b nm r.2 ++ (uRes w.heap.size d u st t mp next L ++ rs))
theorem apply_gone {W : World} {T' : TM} {n : Nat} {bb : Nat} {ky : ByteArray} {M : List (Res w.heap.size)} (hW : Own w W (tRes w.heap.size d j t b nm T' ++ (uRes w.heap.size d u st t mp next L ++ (rObj w.heap.size bb (.cells #[.string ky, .bool true, .slice none 0 0] 109) :: M)))) (hg : Good T'.m n) (hn : n < 549755813888) (hs : T'.size ≤ 1099511627776) :
  Calls Tryz.prog 42 #[.pointer (some ⟨t, 0, none⟩), .slice (some ⟨bb, 0, none⟩) 1 1] W (ULPost w d j t b u st mp nm next L M (tAppOf T' nm [⟨ky, true, []⟩])) := by
 refine (tapply_callsO hW hg hn hs (a := some ⟨bb, 0, none⟩) (c := 1) (l := [⟨ky, true, []⟩]) (fun wr ls ho => one_in13 (t := 109) (ho.at (b := bb) (o := .cells #[.string ky, .bool true, .slice none 0 0] 109) (by simp)).1 (reads_nil _)) (by simp) (by decide)).mono ?_
 rintro e w' ⟨he, h⟩
 exact ⟨he, h.dropEnd⟩
set_option maxRecDepth 100000 in
set_option maxHeartbeats 1000000 in
theorem uclose_calls {w0 : World} (h : Own w w0 (tRes w.heap.size d j t b nm T ++ (uRes w.heap.size d u st t mp next L ++ rs))) {n : Nat} (hg : Good T.m n) (hn : n + 20 < 549755813888) (hs : T.size ≤ 1099511627776) {id : Int} {nx : Nat} (hid : id = (nx : Int)) (hnx : nx ≤ 4294967295) {dg : List UInt8} (hdl : dg.length = 32) :
  Calls Tryz.prog 54 #[.pointer (some ⟨u, 0, none⟩), .int .i64 id, .agg (dg.map u8v).toArray] w0 (ULPost w d j t b u st mp nm next L rs (closeOf T nm (ukeyOf nx) dg)) := by
 obtain ⟨ky, hky⟩ : ∃ k, k = ukeyOf nx := ⟨_, rfl⟩
 have HKEY := Lib.hid (show ∀ W, Calls Tryz.prog 23 #[.int .i64 id] W (QuietP W (.string ky)) from fun W => by rw [hky, hid]; exact ukey_calls W nx nx (IntWalk.u64_in _ (by omega)) (by omega))
 obtain ⟨cl, hcl⟩ : ∃ cl : List Value, cl = dg.map u8v := ⟨_, rfl⟩
 have HI := Lib.hid (show (Tryz.prog.info? 39).map (·.size) = some cl.length by rw [hcl, List.length_map, hdl]; kernel_rfl)
 obtain ⟨R, hR⟩ : ∃ R, closeOf T nm (ukeyOf nx) dg = R := ⟨_, rfl⟩
 rw [hR, ← hcl]
 unfold closeOf at hR
 rw [← hky] at hR
 obtain ⟨ar, har⟩ : ∃ r, r = adoptOf T.m ky dg := ⟨_, rfl⟩
 have hga : Good ar.2 (n + 1) := by rw [har]; exact adopt_good hg ky dg
 have HADO := Lib.hid (show ∀ W (M : List (Res w.heap.size)), Own w W (tRes w.heap.size d j t b nm T ++ (uRes w.heap.size d u st t mp next L ++ M)) → Calls Tryz.prog 115 #[.pointer (some ⟨st, 0, none⟩), .string ky, .agg cl.toArray] W (fun e w' => e = .returned (.int .i64 ar.1) ∧ Own w w' (tRes w.heap.size d j t b nm { T with m := ar.2 } ++ (uRes w.heap.size d u st t mp next L ++ M))) from fun W M hW => by
  rw [har, hcl]
  exact badopt_calls hW (by simp [uRes, stObj1]) hg (by omega) ky dg hdl)
 rw [← har] at hR
 obtain ⟨ap, hap⟩ : ∃ r, r = tAppOf { T with m := ar.2 } nm [⟨ky, true, []⟩] := ⟨_, rfl⟩
 have HAPP := Lib.hid (show ∀ W (M : List (Res w.heap.size)) (bb : Nat), Own w W (tRes w.heap.size d j t b nm { T with m := ar.2 } ++ (uRes w.heap.size d u st t mp next L ++ (rObj w.heap.size bb (.cells #[.string ky, .bool true, .slice none 0 0] 109) :: M))) → Calls Tryz.prog 42 #[.pointer (some ⟨t, 0, none⟩), .slice (some ⟨bb, 0, none⟩) 1 1] W (ULPost w d j t b u st mp nm next L M ap) from fun W M bb hW => by
  rw [hap]
  exact apply_gone hW hga (by omega) hs)
 rw [← hap] at hR
 obtain ⟨c1, m1⟩ := ar
 obtain ⟨c2, T2⟩ := ap
 dsimp only at hR HADO HAPP
 have HR := Lib.hid hR
 have H0 := Lib.hid (h.endObj (.cells cl.toArray 39))
 clear hR hky hcl har hga hap h hg hn hs hid hnx hdl
 go_enter Tryz.func54, Tryz.ntmps54
 go_upto_region 1 with fail
 generalize w0.alloc (.cells cl.toArray 39) = w1 at H0 ⊢
 generalize w0.heap.size = bd at H0 ⊢
 refine wp_region_held_drew (S := UCl u d st t next mp bd cl) (by kernel_rfl) (by exact UCl.of H0.out.drew (List.mem_cons_self ..)) (fun hHeld => ?_)
 have H1 := Lib.hid H0.out.drew
 clear H0
 generalize w1.drew = w1d at *
 refine wpAnyH_take (i := 0) (oi := { dst := some 9, op := _, type := _, pos := _, after := _, guard := _ }) (v := .pointer (some ⟨u, 0, none⟩)) rfl (by kernel_rfl) (by kernel_rfl) (by kernel_rfl) (fun _ _ _ h => h) (Or.inl ⟨by rfl, by intro w hSw; (try dsimp only at hSw); go_simp⟩) hHeld ?_
 try simp only [Act.put, List.setIfInBounds_toArray, List.set_cons_zero, List.set_cons_succ]
 refine wpAnyH_take (i := 1) (oi := { dst := some 10, op := _, type := _, pos := _, after := _, guard := _ }) (v := .pointer (some ⟨u, 0, none⟩)) rfl (by kernel_rfl) (by kernel_rfl) (by kernel_rfl) (fun _ _ _ h => h) (Or.inl ⟨by rfl, by intro w hSw; (try dsimp only at hSw); go_simp⟩) hHeld ?_
 try simp only [Act.put, List.setIfInBounds_toArray, List.set_cons_zero, List.set_cons_succ]
 refine wpAnyH_take (i := 2) (oi := { dst := some 11, op := _, type := _, pos := _, after := _, guard := _ }) (v := .pointer (some ⟨u, 1, none⟩)) rfl (by kernel_rfl) (by kernel_rfl) (by kernel_rfl) (fun _ _ _ h => h) (Or.inl ⟨by rfl, by intro w hSw; (try dsimp only at hSw); go_simp⟩) hHeld ?_
 try simp only [Act.put, List.setIfInBounds_toArray, List.set_cons_zero, List.set_cons_succ]
 refine wpAnyH_take (i := 3) (oi := { dst := some 12, op := _, type := _, pos := _, after := _, guard := _ }) (v := .pointer (some ⟨st, 0, none⟩)) rfl (by kernel_rfl) (by kernel_rfl) (by kernel_rfl) (fun _ _ _ h => h) (Or.inl ⟨by rfl, by intro w hSw; (try dsimp only at hSw); (obtain ⟨⟨q0, q1, q2, q3, q4⟩, -⟩ := hSw; go_simp)⟩) hHeld ?_
 try simp only [Act.put, List.setIfInBounds_toArray, List.set_cons_zero, List.set_cons_succ]
 refine wpAnyH_take (i := 4) (oi := { dst := some 13, op := _, type := _, pos := _, after := _, guard := _ }) (v := .int .i64 id) rfl (by kernel_rfl) (by kernel_rfl) (by kernel_rfl) (fun _ _ _ h => h) (Or.inl ⟨by rfl, by intro w hSw; (try dsimp only at hSw); go_simp⟩) hHeld ?_
 try simp only [Act.put, List.setIfInBounds_toArray, List.set_cons_zero, List.set_cons_succ]
 refine wpAnyH_take (i := 6) (oi := { dst := some 15, op := _, type := _, pos := _, after := _, guard := _ }) (v := .agg (cl).toArray) rfl (by kernel_rfl) (by kernel_rfl) (by kernel_rfl) (fun _ _ _ h => h) (yieldsIf_load_mid (by rfl) _ _ rfl (bd) (0) rfl (cl) _ (fun w' hk => hk.2) Tryz.underlying39 rfl HI.out) hHeld ?_
 try simp only [Act.put, List.setIfInBounds_toArray, List.set_cons_zero, List.set_cons_succ]
 refine wpAnyH_ready (rs := [5]) (by kernel_rfl) (by simp) ?_
 refine AllReadyH.cons (o := { dst := some 14, op := _, type := _, pos := _, after := _, guard := _ }) rfl (fun K hK => ?_) AllReadyH.nil
 refine step_wanted' rfl ?_
 go_simp
 go_at_call 23
 refine (HKEY.out _).mono ?_
 rintro e w2 ⟨rfl, hk2⟩
 have H2 := Lib.hid (H1.out.quiet hk2)
 refine hK.out _ _ (by exact UCl.of H2.out (List.mem_cons_self ..)) (fun hHeld1 => ?_)
 clear hK K
 try simp only [Act.put, List.setIfInBounds_toArray, List.set_cons_zero, List.set_cons_succ]
 refine wpAnyH_ready (rs := [7]) (by kernel_rfl) (by simp) ?_
 refine AllReadyH.cons (o := { dst := some 16, op := _, type := _, pos := _, after := _, guard := _ }) rfl (fun K hK => ?_) AllReadyH.nil
 refine step_wanted' rfl ?_
 go_simp
 go_at_call 115
 refine (HADO.out _ _ H2.out).mono ?_
 rintro e w3 ⟨rfl, h3⟩
 have H3 := Lib.hid h3
 clear h3
 refine hK.out _ _ (by exact UCl.of H3.out (List.mem_cons_self ..)) (fun hHeld2 => ?_)
 clear hK K
 try simp only [Act.put, List.setIfInBounds_toArray, List.set_cons_zero, List.set_cons_succ]
 refine wpAnyH_take (i := 8) (oi := { dst := some 7, op := _, type := _, pos := _, after := _, guard := _ }) (v := .int .i64 c1) rfl (by kernel_rfl) (by kernel_rfl) (by kernel_rfl) (fun _ _ _ h => h) (Or.inl ⟨by rfl, by intro w hSw; (try dsimp only at hSw); go_simp⟩) hHeld2 ?_
 try simp only [Act.put, List.setIfInBounds_toArray, List.set_cons_zero, List.set_cons_succ]
 refine wpAnyH_done (by kernel_rfl) ?_ _
 by_cases hc : ¬ c1 = 0 ∧ ¬ c1 = 6
 ·have hr1 := HR.out
  rw [if_pos hc] at hr1
  subst hr1
  have b1 : (c1 != 0) = true := by simpa using hc.1
  have b2 : (c1 != 6) = true := by simpa using hc.2
  clear HR hc
  go_wp2_with fail
  go_ret
  exact ⟨rfl, H3.out.dropEnd⟩
 ·have hr1 := HR.out
  rw [if_neg hc] at hr1
  have HR := Lib.hid hr1
  clear hr1
  have hpath : (c1 = 0) ∨ (c1 = 6) := by
   by_cases h0 : c1 = 0
   ·exact .inl h0
   ·by_cases h6 : c1 = 6
    ·exact .inr h6
    ·exact absurd ⟨h0, h6⟩ hc
  clear hc
  go_upto_region 2 with fail
  go_cut [22] from 9 to 35 (fun v wx => v = .bool false ∧ w3 = wx)
  case first =>
   rcases hpath with rfl | rfl
   ·go_wp2_with fail
    go_meet
    exact ⟨rfl, rfl⟩
   ·go_wp2_with fail
    go_meet
    exact ⟨rfl, rfl⟩
  case rest =>
   obtain ⟨rfl, rfl⟩ := hcut
   clear hpath
   go_upto_region 4 with fail
   refine wp_region_held_drew (S := UCl u d st t next mp bd cl) (by kernel_rfl) (by exact UCl.of H3.out.drew (List.mem_cons_self ..)) (fun hHeld => ?_)
   have H4 := Lib.hid H3.out.drew
   clear H3
   generalize w3.drew = w3d at *
   refine wpAnyH_take (i := 0) (oi := { dst := some 24, op := _, type := _, pos := _, after := _, guard := _ }) (v := .pointer (some ⟨u, 0, none⟩)) rfl (by kernel_rfl) (by kernel_rfl) (by kernel_rfl) (fun _ _ _ h => h) (Or.inl ⟨by rfl, by intro w hSw; (try dsimp only at hSw); go_simp⟩) hHeld ?_
   try simp only [Act.put, List.setIfInBounds_toArray, List.set_cons_zero, List.set_cons_succ]
   refine wpAnyH_take (i := 1) (oi := { dst := some 25, op := _, type := _, pos := _, after := _, guard := _ }) (v := .pointer (some ⟨u, 0, none⟩)) rfl (by kernel_rfl) (by kernel_rfl) (by kernel_rfl) (fun _ _ _ h => h) (Or.inl ⟨by rfl, by intro w hSw; (try dsimp only at hSw); go_simp⟩) hHeld ?_
   try simp only [Act.put, List.setIfInBounds_toArray, List.set_cons_zero, List.set_cons_succ]
   refine wpAnyH_take (i := 2) (oi := { dst := some 26, op := _, type := _, pos := _, after := _, guard := _ }) (v := .pointer (some ⟨u, 2, none⟩)) rfl (by kernel_rfl) (by kernel_rfl) (by kernel_rfl) (fun _ _ _ h => h) (Or.inl ⟨by rfl, by intro w hSw; (try dsimp only at hSw); go_simp⟩) hHeld ?_
   try simp only [Act.put, List.setIfInBounds_toArray, List.set_cons_zero, List.set_cons_succ]
   refine wpAnyH_take (i := 3) (oi := { dst := some 27, op := _, type := _, pos := _, after := _, guard := _ }) (v := .pointer (some ⟨t, 0, none⟩)) rfl (by kernel_rfl) (by kernel_rfl) (by kernel_rfl) (fun _ _ _ h => h) (Or.inl ⟨by rfl, by intro w hSw; (try dsimp only at hSw); (obtain ⟨⟨q0, q1, q2, q3, q4⟩, -⟩ := hSw; go_simp)⟩) hHeld ?_
   try simp only [Act.put, List.setIfInBounds_toArray, List.set_cons_zero, List.set_cons_succ]
   refine wpAnyH_take (i := 4) (oi := { dst := some 28, op := _, type := _, pos := _, after := _, guard := _ }) (v := .int .i64 id) rfl (by kernel_rfl) (by kernel_rfl) (by kernel_rfl) (fun _ _ _ h => h) (Or.inl ⟨by rfl, by intro w hSw; (try dsimp only at hSw); go_simp⟩) hHeld ?_
   try simp only [Act.put, List.setIfInBounds_toArray, List.set_cons_zero, List.set_cons_succ]
   refine wpAnyH_ready (rs := [5]) (by kernel_rfl) (by simp) ?_
   refine AllReadyH.cons (o := { dst := some 29, op := _, type := _, pos := _, after := _, guard := _ }) rfl (fun K hK => ?_) AllReadyH.nil
   refine step_wanted' rfl ?_
   go_simp
   go_at_call 23
   refine (HKEY.out _).mono ?_
   rintro e w5 ⟨rfl, hk5⟩
   have H5 := Lib.hid (H4.out.quiet hk5)
   refine hK.out _ _ (by exact UCl.of H5.out (List.mem_cons_self ..)) (fun hHeld1 => ?_)
   clear hK K
   try simp only [Act.put, List.setIfInBounds_toArray, List.set_cons_zero, List.set_cons_succ]
   refine wpAnyH_take (i := 6) (oi := { dst := some 30, op := _, type := _, pos := _, after := _, guard := _ }) (v := .agg #[.string ky, .bool true, .slice none 0 0]) rfl (by kernel_rfl) (by kernel_rfl) (by kernel_rfl) (fun _ _ _ h => h) (Or.inl ⟨by rfl, by intro w hSw; (try dsimp only at hSw); go_simp⟩) hHeld1 ?_
   try simp only [Act.put, List.setIfInBounds_toArray, List.set_cons_zero, List.set_cons_succ]
   refine wpAnyH_ready (rs := [7]) (by kernel_rfl) (by simp) ?_
   refine AllReadyH.cons (o := { dst := some 31, op := _, type := _, pos := _, after := _, guard := _ }) rfl (fun K hK => ?_) AllReadyH.nil
   refine step_wanted' rfl ?_
   go_simp
   have H6 := Lib.hid (H5.out.endObj (.cells #[.string ky, .bool true, .slice none 0 0] 109))
   refine hK.out _ _ (by exact UCl.of H6.out (by simp)) (fun hHeld2 => ?_)
   clear hK K
   try simp only [Act.put, List.setIfInBounds_toArray, List.set_cons_zero, List.set_cons_succ]
   refine wpAnyH_ready (rs := [8]) (by kernel_rfl) (by simp) ?_
   refine AllReadyH.cons (o := { dst := some 32, op := _, type := _, pos := _, after := _, guard := _ }) rfl (fun K hK => ?_) AllReadyH.nil
   refine step_wanted' rfl ?_
   go_simp
   go_at_call 42
   refine (HAPP.out _ _ _ H6.out).mono ?_
   rintro e w7 ⟨rfl, h7⟩
   have H7 := Lib.hid h7
   clear h7
   refine hK.out _ _ (by exact UCl.of H7.out (List.mem_cons_self ..)) (fun hHeld3 => ?_)
   clear hK K
   try simp only [Act.put, List.setIfInBounds_toArray, List.set_cons_zero, List.set_cons_succ]
   refine wpAnyH_take (i := 9) (oi := { dst := some 8, op := _, type := _, pos := _, after := _, guard := _ }) (v := .int .i64 c2) rfl (by kernel_rfl) (by kernel_rfl) (by kernel_rfl) (fun _ _ _ h => h) (Or.inl ⟨by rfl, by intro w hSw; (try dsimp only at hSw); go_simp⟩) hHeld3 ?_
   try simp only [Act.put, List.setIfInBounds_toArray, List.set_cons_zero, List.set_cons_succ]
   refine wpAnyH_done (by kernel_rfl) ?_ _
   by_cases hc : c2 = 4
   ·subst hc
    have hr1 := HR.out
    rw [if_pos rfl] at hr1
    subst hr1
    clear HR
    go_wp2_with fail
    go_ret
    exact ⟨rfl, H7.out.dropEnd⟩
   ·have hr1 := HR.out
    rw [if_neg hc] at hr1
    subst hr1
    have b1 : (c2 != 4) = true := by simpa using hc
    clear HR hc
    go_wp2_with fail
    go_ret
    exact ⟨rfl, H7.out.dropEnd⟩
end
end Go.Proofs.YtlcnhpjggjgnpaaGreatDoor
