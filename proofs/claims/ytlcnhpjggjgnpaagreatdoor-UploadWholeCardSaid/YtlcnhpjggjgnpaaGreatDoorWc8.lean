/- A part of the proof. -/
import Derived.Test.YtlcnhpjggjgnpaaGreatDoorWa9
import Derived.Test.YtlcnhpjggjgnpaaGreatDoorWb9
import Derived.Test.YtlcnhpjggjgnpaaGreatDoorWc7
namespace Go.Proofs.YtlcnhpjggjgnpaaGreatDoor
set_option linter.unusedVariables false
set_option linter.unusedSimpArgs false
open Go.RowKit Go.MapKept
open Go.ChangeMaps (setBlock)
theorem MapPs.perm {w : World} {b : Nat} {ps qs : PS} (h : MapPs w b ps) (hp : ps.Perm qs) : MapPs w b qs := by
  obtain ⟨es, clock, l, h1, h2, h3, h4⟩ := h
  exact ⟨es, clock, l, h1, h2, h3, h4.trans hp⟩
theorem tApp_good {T : TM} {n : Nat} (h : Good T.m n) (nm : ByteArray) (l : List TCh) : Good (tAppOf T nm l).2.m (n + 1) := by
  have h1 := jAppend_good h nm T.size (encOf l).2
  unfold tAppOf
  split
  · exact h.mono (Nat.le_succ _)
  · split
    · split
      · split
        · exact h1.sync
        · exact h1.sync
      · exact h1
    · exact h.mono (Nat.le_succ _)
theorem isRepo_size {s : ByteArray} (h : isRepo s = true) : s.size ≤ 128 := by
  unfold isRepo at h
  rw [Bool.and_eq_true, decide_eq_true_eq] at h
  exact h.1
theorem two_in {wr : World} {b : Nat} {k1 k2 : ByteArray} {g1 g2 : Bool} {v1 v2 : Value} {l1 l2 : List UInt8} {t : TypeId} (hb : wr.heap[b]? = some (.cells #[.string k1, .bool g1, v1, .string k2, .bool g2, v2] t)) (h1 : Reads wr v1 l1) (h2 : Reads wr v2 l2) : TChsIn wr (some ⟨b, 0, none⟩) [⟨k1, g1, l1⟩, ⟨k2, g2, l2⟩] := by
  intro i ch hc
  match i, hc with
  | 0, hc =>
    cases hc
    exact ⟨_, _, rfl, cell_at hb rfl, cell_at hb rfl, cell_at hb rfl, h1⟩
  | 1, hc =>
    cases hc
    exact ⟨_, _, rfl, cell_at hb rfl, cell_at hb rfl, cell_at hb rfl, h2⟩
  | i + 2, hc => simp at hc
def uB : ByteArray := ⟨#[117]⟩
def startOf (T : TM) (nm : ByteArray) (nx : Nat) (repo : ByteArray) (til : Int) : Int × Int × TM :=
  if isRepo repo = true then
    (if til < 0 ∨ 1099511627776 < til then (0, 1, T)
     else if 4294967295 < nx then (0, 8, T)
     else if (createOf T.m (ukeyOf nx)).1 = 0 then
      (if (tAppOf ⟨(createOf T.m (ukeyOf nx)).2, T.size, T.fs, T.down⟩ nm [⟨ukeyOf nx, false, laidOf repo til.toNat []⟩, ⟨uB, false, putOf (nx + 1) 8⟩]).1 = 0 then
        ((nx : Int), 0, (tAppOf ⟨(createOf T.m (ukeyOf nx)).2, T.size, T.fs, T.down⟩ nm [⟨ukeyOf nx, false, laidOf repo til.toNat []⟩, ⟨uB, false, putOf (nx + 1) 8⟩]).2)
       else (0, if (removeOf (tAppOf ⟨(createOf T.m (ukeyOf nx)).2, T.size, T.fs, T.down⟩ nm [⟨ukeyOf nx, false, laidOf repo til.toNat []⟩, ⟨uB, false, putOf (nx + 1) 8⟩]).2.m (ukeyOf nx)).1 = 0
          then (tAppOf ⟨(createOf T.m (ukeyOf nx)).2, T.size, T.fs, T.down⟩ nm [⟨ukeyOf nx, false, laidOf repo til.toNat []⟩, ⟨uB, false, putOf (nx + 1) 8⟩]).1
          else (removeOf (tAppOf ⟨(createOf T.m (ukeyOf nx)).2, T.size, T.fs, T.down⟩ nm [⟨ukeyOf nx, false, laidOf repo til.toNat []⟩, ⟨uB, false, putOf (nx + 1) 8⟩]).2.m (ukeyOf nx)).1,
         { (tAppOf ⟨(createOf T.m (ukeyOf nx)).2, T.size, T.fs, T.down⟩ nm [⟨ukeyOf nx, false, laidOf repo til.toNat []⟩, ⟨uB, false, putOf (nx + 1) 8⟩]).2 with
           m := (removeOf (tAppOf ⟨(createOf T.m (ukeyOf nx)).2, T.size, T.fs, T.down⟩ nm [⟨ukeyOf nx, false, laidOf repo til.toNat []⟩, ⟨uB, false, putOf (nx + 1) 8⟩]).2.m (ukeyOf nx)).2 }))
     else (0, (createOf T.m (ukeyOf nx)).1, ⟨(createOf T.m (ukeyOf nx)).2, T.size, T.fs, T.down⟩))
  else (0, 70, T)
section
variable {w wr : World} {d u st t mp j b : Nat} {nm : ByteArray} {T : TM} {nx : Nat} {L : UL} {rs : List (Res w.heap.size)}
def UStartPost (w : World) (d j t b u st mp : Nat) (nm : ByteArray) (nx : Nat) (L : UL) (repo : ByteArray) (til : Int) (rs : List (Res w.heap.size)) (r : Int × Int × TM) (e : Ending) (w' : World) : Prop :=
  e = .returned (.tuple #[.int .i64 r.1, .int .i64 r.2.1]) ∧
    ((r.2.1 = 0 ∧ ∃ sp q, Own w w' (tRes w.heap.size d j t b nm r.2.2 ++ (uRes w.heap.size d u st t mp ((nx + 1 : Nat) : Int) (L ++ [(⟨(nx : Int), repo, til, []⟩, sp, q)]) ++ rs))) ∨
     (¬ r.2.1 = 0 ∧ Own w w' (tRes w.heap.size d j t b nm r.2.2 ++ (uRes w.heap.size d u st t mp (nx : Int) L ++ rs))))
theorem Own.pmapPut {ps : PS} {w1 : World} (h : Own w wr (rPMap w.heap.size mp ps :: rs)) (k : Int) (hk : pget ps k = none) (q : Nat) (hq : Keeps (fun _ => False) wr w1) :
    ∃ w2, (Instr.mapUpdate 102 (.map (some mp)) (.int .i64 k) (.pointer (some ⟨q, 0, none⟩))).run Tryz.prog w1 = .ok () w2 ∧ Own w w2 (rPMap w.heap.size mp ((k, q) :: ps) :: rs) := by
  obtain ⟨F, ⟨hb, hm⟩, hF, hfin⟩ := h.open1
  have h1 : MapPs w1 mp ps := hm.keep (hq.block mp hm.lt (fun e => e))
  obtain ⟨es, clock, hr, h3⟩ := h1.insert (P := Tryz.prog) Tryz.underlying102 Tryz.underlying3 hk q
  exact ⟨_, hr, hfin _ (rPMap _ mp ((k, q) :: ps)) ((hq.mono (fun _ _ e => e.elim)).setBlock (fun _ => hb) _) ⟨.inl hb, h3⟩⟩
theorem Own.toEnd {x : Res w.heap.size} {A B M : List (Res w.heap.size)} (h : Own w wr (x :: (A ++ (B ++ M)))) : Own w wr (A ++ (B ++ (x :: M))) := h.perm (by
  have h1 : (x :: (A ++ (B ++ M))).Perm (A ++ (x :: (B ++ M))) := (List.perm_middle (l₁ := A)).symm
  exact h1.trans (List.Perm.append_left A (List.perm_middle (l₁ := B)).symm))
theorem Own.dropEnd {x : Res w.heap.size} {A B M : List (Res w.heap.size)} (h : Own w wr (A ++ (B ++ (x :: M)))) : Own w wr (A ++ (B ++ M)) := by
  have h1 : Own w wr (x :: (A ++ (B ++ M))) := h.perm (by
    have h1 : (x :: (A ++ (B ++ M))).Perm (A ++ (x :: (B ++ M))) := (List.perm_middle (l₁ := A)).symm
    exact (h1.trans (List.Perm.append_left A (List.perm_middle (l₁ := B)).symm)).symm)
  exact h1.drop
theorem Own.endBytes {v : Value} {l : List UInt8} {w1 : World} {A B M : List (Res w.heap.size)} (h : Own w wr (A ++ (B ++ M))) (ho : Owns w1 wr.heap.size v l) (hk : Keeps (fun _ => False) wr w1) : Own w w1 (A ++ (B ++ (rBytes w.heap.size v l :: M))) := (h.addBytes ho hk).toEnd
theorem Own.endObj {A B M : List (Res w.heap.size)} (h : Own w wr (A ++ (B ++ M))) (o : Obj) : Own w (wr.alloc o) (A ++ (B ++ (rObj w.heap.size wr.heap.size o :: M))) := (h.alloc o).toEnd
def USt (u d st t nx mp bq : Nat) (repo : ByteArray) (til : Int) (W : World) : Prop :=
  (W.cell? ⟨u, 0, none⟩ = some (.pointer (some ⟨d, 0, none⟩)) ∧ W.cell? ⟨u, 1, none⟩ = some (.pointer (some ⟨st, 0, none⟩)) ∧ W.cell? ⟨u, 2, none⟩ = some (.pointer (some ⟨t, 0, none⟩)) ∧ W.cell? ⟨u, 3, none⟩ = some (.int .i64 (nx : Int)) ∧ W.cell? ⟨u, 4, none⟩ = some (.map (some mp))) ∧
    W.rangeAt bq 0 [.string repo, .int .i64 til, .int .i64 0]
def bxObj (repo : ByteArray) (til : Int) : Obj := .cells #[.string repo, .int .i64 til, .int .i64 0] 43
theorem USt.of {bq : Nat} {repo : ByteArray} {til : Int} {W : World} {A M : List (Res w.heap.size)} (h : Own w W (A ++ (uRes w.heap.size d u st t mp (nx : Int) L ++ M))) (hm : rObj w.heap.size bq (bxObj repo til) ∈ M) : USt u d st t nx mp bq repo til W := by
  refine ⟨u_cells (h.at (b := u) (o := uObj d st t nx mp) (by simp [uRes])).1, fun k v hv => ?_⟩
  rw [Nat.zero_add]
  exact cell_at (h.at (b := bq) (o := bxObj repo til) (by simp [hm])).1 (by rw [List.getElem?_toArray]; exact hv)
theorem USt.keep {bq : Nat} {repo : ByteArray} {til : Int} {W W' : World} (h : USt u d st t nx mp bq repo til W) (hk : Keeps (fun _ => False) W W') : USt u d st t nx mp bq repo til W' :=
  ⟨⟨cell_keep h.1.1 hk, cell_keep h.1.2.1 hk, cell_keep h.1.2.2.1 hk, cell_keep h.1.2.2.2.1 hk, cell_keep h.1.2.2.2.2 hk⟩, fun k v hv => cell_keep (h.2 k v hv) hk⟩
theorem perm_new {α : Type} (T Ls R : List α) (a s p x y : α) : (p :: x :: y :: (T ++ (a :: s :: (Ls ++ R)))).Perm (T ++ ((a :: s :: p :: (Ls ++ [x, y])) ++ R)) := by
  have h1 : ([p, x, y] ++ (T ++ (a :: s :: (Ls ++ R)))).Perm (T ++ ([p, x, y] ++ (a :: s :: (Ls ++ R)))) := by
    rw [← List.append_assoc, ← List.append_assoc]; exact List.perm_append_comm.append_right _
  refine h1.trans (List.Perm.append_left T ?_)
  have h2 : ([p, x, y] ++ ([a, s] ++ (Ls ++ R))).Perm ([a, s] ++ ([p, x, y] ++ (Ls ++ R))) := List.perm_append_comm_assoc _ _ _
  refine h2.trans ?_
  have h3 : ([x, y] ++ (Ls ++ R)).Perm ((Ls ++ [x, y]) ++ R) := by
    rw [← List.append_assoc]; exact List.perm_append_comm.append_right _
  exact ((h3.cons p).cons s).cons a
theorem Own.enter {repo : ByteArray} {til : Int} {W : World} {T' : TM} {M : List (Res w.heap.size)} (h : Own w W (tRes w.heap.size d j t b nm T' ++ (uRes w.heap.size d u st t mp (nx : Int) L ++ M))) (hid : pget (ptrs L) (nx : Int) = none) :
    Own w (W.setCell ⟨u, 3, none⟩ (.int .i64 ((nx + 1 : Nat) : Int))) (tRes w.heap.size d j t b nm T' ++ (uRes w.heap.size d u st t mp ((nx + 1 : Nat) : Int) L ++ M)) := by
  have h1 := (Own.pull (l₁ := tRes w.heap.size d j t b nm T') h).store 3 (.int .i64 ((nx + 1 : Nat) : Int))
  exact h1.perm (List.perm_middle (l₁ := tRes w.heap.size d j t b nm T')).symm
theorem Own.enter2 {repo : ByteArray} {til : Int} {W : World} {T' : TM} {nx' : Int} {M : List (Res w.heap.size)} (h : Own w W (tRes w.heap.size d j t b nm T' ++ (uRes w.heap.size d u st t mp nx' L ++ M))) (hid : pget (ptrs L) (nx : Int) = none) :
    ∃ w3, (Instr.mapUpdate 102 (.map (some mp)) (.int .i64 (nx : Int)) (.pointer (some ⟨(W.alloc (stObj hWords (restOf 0 (List.replicate 64 0)))).heap.size, 0, none⟩))).run Tryz.prog ((W.alloc (stObj hWords (restOf 0 (List.replicate 64 0)))).alloc (.cells #[.string repo, .int .i64 til, .int .i64 0, .pointer (some ⟨W.heap.size, 0, none⟩)] 116)) = .ok () w3 ∧
      Own w w3 (tRes w.heap.size d j t b nm T' ++ (uRes w.heap.size d u st t mp nx' (L ++ [(⟨(nx : Int), repo, til, []⟩, (W.alloc (stObj hWords (restOf 0 (List.replicate 64 0)))).heap.size, W.heap.size)]) ++ M)) := by
  obtain ⟨o1, ho1⟩ : ∃ o, o = stObj hWords (restOf 0 (List.replicate 64 0)) := ⟨_, rfl⟩
  rw [← ho1]
  have h1 : Own w (W.alloc o1) (rSt w.heap.size W.heap.size [] :: (tRes w.heap.size d j t b nm T' ++ (uRes w.heap.size d u st t mp nx' L ++ M))) :=
    h.add ((Keeps.refl (fun _ => False) W).alloc o1) (r := rSt _ W.heap.size []) (G := fun b => b = W.heap.size) ⟨rfl, List.replicate 64 0, by rw [ho1]; exact heap_alloc_new W _, by simp, by simp⟩ (fun b hb => by subst hb; simp)
  have h2 := h1.alloc (sesObj ⟨(nx : Int), repo, til, []⟩ W.heap.size)
  obtain ⟨W2, hW2⟩ : ∃ W2, W2 = (W.alloc o1).alloc (sesObj ⟨(nx : Int), repo, til, []⟩ W.heap.size) := ⟨_, rfl⟩
  rw [← hW2] at h2
  change ∃ w3, (Instr.mapUpdate _ _ _ _).run _ ((W.alloc o1).alloc (sesObj ⟨(nx : Int), repo, til, []⟩ W.heap.size)) = _ ∧ _
  rw [← hW2]
  generalize (W.alloc o1).heap.size = sp at h2 ⊢
  generalize W.heap.size = q at h2 ⊢
  have h3 : Own w W2 (rPMap w.heap.size mp (ptrs L) :: rObj w.heap.size sp (sesObj ⟨(nx : Int), repo, til, []⟩ q) :: rSt w.heap.size q [] :: (tRes w.heap.size d j t b nm T' ++ (rObj w.heap.size u (uObj d st t nx' mp) :: rObj w.heap.size st (stObj1 d) :: (liveRes w.heap.size L ++ M)))) := by
    have := Own.pull (l₁ := rObj w.heap.size sp (sesObj ⟨(nx : Int), repo, til, []⟩ q) :: rSt w.heap.size q [] :: (tRes w.heap.size d j t b nm T' ++ [rObj w.heap.size u (uObj d st t nx' mp), rObj w.heap.size st (stObj1 d)])) (r := rPMap w.heap.size mp (ptrs L)) (l₂ := liveRes w.heap.size L ++ M) (by
      simpa [uRes, List.append_assoc] using h2)
    simpa [List.append_assoc] using this
  obtain ⟨w3, hr, h4⟩ := h3.pmapPut (nx : Int) hid sp (Keeps.refl _ _)
  refine ⟨w3, hr, ?_⟩
  have h5 : Own w w3 (rPMap w.heap.size mp (ptrs (L ++ [(⟨(nx : Int), repo, til, []⟩, sp, q)])) :: rObj w.heap.size sp (sesObj ⟨(nx : Int), repo, til, []⟩ q) :: rSt w.heap.size q [] :: (tRes w.heap.size d j t b nm T' ++ (rObj w.heap.size u (uObj d st t nx' mp) :: rObj w.heap.size st (stObj1 d) :: (liveRes w.heap.size L ++ M)))) :=
    h4.view (fun F _ hF => ⟨hF.1, hF.2.perm (by unfold ptrs; rw [List.map_append]; exact (List.perm_append_comm (l₁ := [((nx : Int), sp)])))⟩)
  have h6 := h5.perm (perm_new (tRes w.heap.size d j t b nm T') (liveRes w.heap.size L) M _ _ _ _ _)
  unfold uRes
  rw [liveRes_append]
  exact h6
set_option maxRecDepth 100000 in
set_option maxHeartbeats 1000000 in
theorem ustart_calls {w0 : World} (h : Own w w0 (tRes w.heap.size d j t b nm T ++ (uRes w.heap.size d u st t mp (nx : Int) L ++ rs))) (hgl : GLen w0) {n : Nat} (hg : Good T.m n) (hn : n + 3 < 549755813888) (hs : T.size ≤ 1099511627776) (hnx : 1 ≤ nx ∧ nx ≤ 4294967296) (hid : ∀ x ∈ L, x.1.id < (nx : Int)) (repo : ByteArray) (til : Int) (ht1 : -9223372036854775808 ≤ til ∧ til ≤ 9223372036854775807) :
    Calls Tryz.prog 9 #[.pointer (some ⟨u, 0, none⟩), .string repo, .int .i64 til] w0 (UStartPost w d j t b u st mp nm nx L repo til rs (startOf T nm nx repo til)) := by
  have hir := isrepo_calls w0 hgl repo
  have HIR := Lib.hid hir
  have H0 := Lib.hid h
  clear hir h
  cases hr : isRepo repo with
  | false =>
    have hS : startOf T nm nx repo til = (0, 70, T) := by unfold startOf; rw [hr]; rfl
    rw [hS]
    rw [hr] at HIR
    clear hS hr hgl hg hn hs hnx hid ht1
    go_enter Tryz.func9, Tryz.ntmps9
    go_wp2_with fail
    refine HIR.out.mono ?_
    rintro e w1 ⟨rfl, hk1⟩
    have H1 := Lib.hid (H0.out.quiet hk1)
    clear hk1 HIR H0
    go_wp2_with fail
    go_ret2
    exact ⟨rfl, .inr ⟨by simp, H1.out⟩⟩
  | true =>
    rw [hr] at HIR
    by_cases ht : til < 0 ∨ 1099511627776 < til
    · have hS : startOf T nm nx repo til = (0, 1, T) := by unfold startOf; rw [hr, if_pos rfl, if_pos ht]
      rw [hS]
      have HT := Lib.hid ht
      clear hS hr hgl hg hn hs hnx hid ht1 ht
      by_cases h1 : til < 0
      · have b1 : decide (til < (0 : Int)) = true := decide_eq_true h1
        clear h1 HT
        go_enter Tryz.func9, Tryz.ntmps9
        go_wp2_with fail
        refine HIR.out.mono ?_
        rintro e w1 ⟨rfl, hk1⟩
        have H1 := Lib.hid (H0.out.quiet hk1)
        clear hk1 HIR H0
        go_wp2_with fail
        go_ret2
        exact ⟨rfl, .inr ⟨by simp, H1.out⟩⟩
      · have b1 : decide (til < (0 : Int)) = false := decide_eq_false h1
        have b2 : decide ((1099511627776 : Int) < til) = true := decide_eq_true (by rcases HT.out with h | h; exact absurd h h1; exact h)
        clear h1 HT
        go_enter Tryz.func9, Tryz.ntmps9
        go_wp2_with fail
        refine HIR.out.mono ?_
        rintro e w1 ⟨rfl, hk1⟩
        have H1 := Lib.hid (H0.out.quiet hk1)
        clear hk1 HIR H0
        go_wp2_with fail
        go_ret2
        exact ⟨rfl, .inr ⟨by simp, H1.out⟩⟩
    · have b1 : decide (til < (0 : Int)) = false := decide_eq_false (by omega)
      have b2 : decide ((1099511627776 : Int) < til) = false := decide_eq_false (by omega)
      have HTIL := Lib.hid (show 0 ≤ til ∧ til ≤ 1099511627776 by omega)
      by_cases hl : 4294967295 < nx
      · have hS : startOf T nm nx repo til = (0, 8, T) := by unfold startOf; rw [hr, if_pos rfl, if_neg ht, if_pos hl]
        rw [hS]
        have b3 : decide ((4294967295 : Int) < (nx : Int)) = true := decide_eq_true (by omega)
        clear hS hr hgl hg hn hs hnx hid ht1 ht hl
        go_enter Tryz.func9, Tryz.ntmps9
        go_wp2_with fail
        refine HIR.out.mono ?_
        rintro e w1 ⟨rfl, hk1⟩
        have H1 := Lib.hid (H0.out.quiet hk1)
        obtain ⟨-, -, -, c3, -⟩ := u_cells (H1.out.at (b := u) (o := uObj d st t nx mp) (by simp [uRes])).1
        clear hk1 HIR H0
        go_wp2_with fail
        go_ret2
        exact ⟨rfl, .inr ⟨by simp, H1.out⟩⟩
      · have b3 : decide ((4294967295 : Int) < (nx : Int)) = false := decide_eq_false (by omega)
        obtain ⟨R, hR⟩ : ∃ R, startOf T nm nx repo til = R := ⟨_, rfl⟩
        have HR := Lib.hid hR
        rw [hR]
        unfold startOf at HR
        rw [if_pos hr, if_neg ht, if_neg hl] at HR
        have hrep := Lib.hid hr
        have HID := Lib.hid hid
        have HG := Lib.hid hg
        have HNX := Lib.hid (And.intro hnx hl)
        have HN := Lib.hid (And.intro hn hs)
        clear hR hr ht hl hid hg hnx hn hs ht1 hgl
        go_enter Tryz.func9, Tryz.ntmps9
        go_wp2_with fail
        refine HIR.out.mono ?_
        rintro e w1 ⟨rfl, hk1⟩
        have H1 := Lib.hid (H0.out.quiet hk1)
        obtain ⟨-, -, -, c3, -⟩ := u_cells (H1.out.at (b := u) (o := uObj d st t nx mp) (by simp [uRes])).1
        clear hk1 HIR H0
        go_upto_region 11 with fail
        have h2 := H1.out.endObj (A := tRes w.heap.size d j t b nm T) (B := uRes w.heap.size d u st t mp (nx : Int) L) (bxObj repo til)
        change Own w (w1.alloc (.cells #[.string repo, .int .i64 til, .int .i64 0] 43)) _ at h2
        clear c3
        generalize w1.alloc (.cells #[.string repo, .int .i64 til, .int .i64 0] 43) = w2 at h2 ⊢
        generalize w1.heap.size = bq at h2 ⊢
        -- the contracts
        obtain ⟨ky, hky⟩ : ∃ x, x = ukeyOf nx := ⟨_, rfl⟩
        obtain ⟨cr, hcr⟩ : ∃ x, x = createOf T.m ky := ⟨_, rfl⟩
        obtain ⟨l1, hl1⟩ : ∃ x, x = laidOf repo til.toNat [] := ⟨_, rfl⟩
        obtain ⟨l2, hl2⟩ : ∃ x, x = putOf (nx + 1) 8 := ⟨_, rfl⟩
        obtain ⟨ap, hap⟩ : ∃ x, x = tAppOf ⟨cr.2, T.size, T.fs, T.down⟩ nm [⟨ky, false, l1⟩, ⟨uB, false, l2⟩] := ⟨_, rfl⟩
        obtain ⟨rm, hrm⟩ : ∃ x, x = removeOf ap.2.m ky := ⟨_, rfl⟩
        have hr0 := HR.out
        rw [← hky, ← hcr, ← hl1, ← hl2, ← hap, ← hrm] at hr0
        have hgc : Good cr.2 (n + 1) := by rw [hcr]; exact HG.out.create ky
        have hga : Good ap.2.m (n + 2) := by rw [hap]; exact tApp_good (T := ⟨cr.2, T.size, T.fs, T.down⟩) hgc nm _
        have HKEY := Lib.hid (show ∀ W, Calls Tryz.prog 23 #[.int .i64 (nx : Int)] W (QuietP W (.string ky)) from fun W => by rw [hky]; exact ukey_calls W nx nx (IntWalk.u64_in _ (by have := HNX.out; omega)) (by have := HNX.out; omega))
        have HCRE := Lib.hid (show ∀ W (M : List (Res w.heap.size)), Own w W (tRes w.heap.size d j t b nm T ++ (uRes w.heap.size d u st t mp (nx : Int) L ++ M)) → ∃ w', Runs 41 #[.pointer (some ⟨d, 0, none⟩), .string ky] W (.int .i64 cr.1) w' ∧ Own w w' (tRes w.heap.size d j t b nm ⟨cr.2, T.size, T.fs, T.down⟩ ++ (uRes w.heap.size d u st t mp (nx : Int) L ++ M)) from fun W M hW => by
          rw [hcr]
          exact Own.create hW ky HG.out.fuse (HG.out.loose (by have := HN.out; omega)))
        have HLAID := Lib.hid (show ∀ W, Calls Tryz.prog 43 #[.agg #[.string repo, .int .i64 til, .int .i64 0], .slice none 0 0] W (OPost W l1) from fun W => by
          rw [hl1]
          exact laid_calls repo til 0 til.toNat (by rw [IntWalk.u64_in _ (by have := HTIL.out; omega)]; have := HTIL.out; omega) (by have := HTIL.out; omega) (reads_nil W) (by simp) (by
            have := isRepo_size hrep.out
            omega))
        obtain ⟨n1, hn1⟩ : ∃ x, x = nx + 1 := ⟨_, rfl⟩
        have HPUT := Lib.hid (show ∀ W, Calls Tryz.prog 44 #[.int .u64 (n1 : Int), .int .i64 8] W (OPost W l2) from fun W => by rw [hl2, hn1]; exact put_calls W (nx + 1) 8 (by have := HNX.out; omega) (by omega))
        have HAPP := Lib.hid (show ∀ W (M : List (Res w.heap.size)) (bb : Nat) (v1 v2 : Value), Own w W (tRes w.heap.size d j t b nm ⟨cr.2, T.size, T.fs, T.down⟩ ++ (uRes w.heap.size d u st t mp (nx : Int) L ++ (rObj w.heap.size bb (.cells #[.string ky, .bool false, v1, .string uB, .bool false, v2] 109) :: rBytes w.heap.size v2 l2 :: rBytes w.heap.size v1 l1 :: M))) →
            Calls Tryz.prog 42 #[.pointer (some ⟨t, 0, none⟩), .slice (some ⟨bb, 0, none⟩) 2 2] W (fun e w' => e = .returned (.int .i64 ap.1) ∧ Own w w' (tRes w.heap.size d j t b nm ap.2 ++ (uRes w.heap.size d u st t mp (nx : Int) L ++ M))) from fun W M bb v1 v2 hW => by
          have := tapply_callsO hW hgc (by have := HN.out; omega) HN.out.2 (a := some ⟨bb, 0, none⟩) (c := 2) (l := [⟨ky, false, l1⟩, ⟨uB, false, l2⟩]) (fun wr ls ho => two_in (t := 109) (ho.at (b := bb) (o := .cells #[.string ky, .bool false, v1, .string uB, .bool false, v2] 109) (by simp)).1 (ho.bytes (v := v1) (l := l1) (by simp)).1 (ho.bytes (v := v2) (l := l2) (by simp)).1) (by simp) (by decide)
          rw [← hap] at this
          refine this.mono ?_
          rintro e w' ⟨he, h⟩
          exact ⟨he, h.dropEnd.dropEnd.dropEnd⟩)
        have HREM := Lib.hid (show ∀ W (M : List (Res w.heap.size)), Own w W (tRes w.heap.size d j t b nm ap.2 ++ (uRes w.heap.size d u st t mp (nx : Int) L ++ M)) → ∃ w', Runs 45 #[.pointer (some ⟨d, 0, none⟩), .string ky] W (.int .i64 rm.1) w' ∧ Own w w' (tRes w.heap.size d j t b nm { ap.2 with m := rm.2 } ++ (uRes w.heap.size d u st t mp (nx : Int) L ++ M)) from fun W M hW => by
          rw [hrm]
          exact Own.remove hW ky hga.fuse (hga.loose (by have := HN.out; omega)))
        have HR := Lib.hid hr0
        have HNX1 := Lib.hid (show IntKind.i64.wrap ((nx : Int) + 1) = (n1 : Int) ∧ IntKind.u64.wrap (n1 : Int) = (n1 : Int) from ⟨by rw [IntWalk.i64_in _ (by have := HNX.out; omega)]; omega, IntWalk.u64_in _ (by have := HNX.out; omega)⟩)
        have HN1 := Lib.hid (show n1 = nx + 1 from hn1)
        have HI3 := Lib.hid (show (Tryz.prog.info? 43).map (·.size) = some ([.string repo, .int .i64 til, .int .i64 0] : List Value).length by kernel_rfl)
        have H2 := Lib.hid h2
        have HPG := Lib.hid (show pget (ptrs L) (nx : Int) = none from pget_none (fun hm => by
          unfold ptrs at hm
          rw [List.map_map] at hm
          obtain ⟨x, hx, e⟩ := List.mem_map.1 hm
          have := HID.out x hx
          simp only [Function.comp_apply] at e
          omega))
        clear hr0 h2 hky hcr hl1 hl2 hap hrm hgc hga HID HG hn1
        obtain ⟨c1, m1⟩ := cr
        obtain ⟨ca, T2⟩ := ap
        dsimp only at *
        refine wp_region_held_drew (S := USt u d st t nx mp bq repo til) (by kernel_rfl) (by exact USt.of (H2.out.drew) (List.mem_cons_self ..)) (fun hHeld => ?_)
        have H2d := Lib.hid H2.out.drew
        clear H2
        generalize w2.drew = w2d at *
        refine wpAnyH_take (i := 0) (oi := { dst := some 40, op := _, type := _, pos := _, after := _, guard := _ }) (v := .pointer (some ⟨u, 0, none⟩)) rfl (by kernel_rfl) (by kernel_rfl) (by kernel_rfl) (fun _ _ _ h => h) (Or.inl ⟨by rfl, by intro w hSw; (try dsimp only at hSw); go_simp⟩) hHeld ?_
        try simp only [Act.put, List.setIfInBounds_toArray, List.set_cons_zero, List.set_cons_succ]
        refine wpAnyH_take (i := 1) (oi := { dst := some 41, op := _, type := _, pos := _, after := _, guard := _ }) (v := .pointer (some ⟨u, 0, none⟩)) rfl (by kernel_rfl) (by kernel_rfl) (by kernel_rfl) (fun _ _ _ h => h) (Or.inl ⟨by rfl, by intro w hSw; (try dsimp only at hSw); go_simp⟩) hHeld ?_
        try simp only [Act.put, List.setIfInBounds_toArray, List.set_cons_zero, List.set_cons_succ]
        refine wpAnyH_take (i := 2) (oi := { dst := some 42, op := _, type := _, pos := _, after := _, guard := _ }) (v := .pointer (some ⟨u, 0, none⟩)) rfl (by kernel_rfl) (by kernel_rfl) (by kernel_rfl) (fun _ _ _ h => h) (Or.inl ⟨by rfl, by intro w hSw; (try dsimp only at hSw); go_simp⟩) hHeld ?_
        try simp only [Act.put, List.setIfInBounds_toArray, List.set_cons_zero, List.set_cons_succ]
        refine wpAnyH_take (i := 3) (oi := { dst := some 43, op := _, type := _, pos := _, after := _, guard := _ }) (v := .pointer (some ⟨d, 0, none⟩)) rfl (by kernel_rfl) (by kernel_rfl) (by kernel_rfl) (fun _ _ _ h => h) (Or.inl ⟨by rfl, by intro w hSw; (try dsimp only at hSw); (obtain ⟨⟨q0, q1, q2, q3, q4⟩, -⟩ := hSw; go_simp)⟩) hHeld ?_
        try simp only [Act.put, List.setIfInBounds_toArray, List.set_cons_zero, List.set_cons_succ]
        refine wpAnyH_take (i := 4) (oi := { dst := some 44, op := _, type := _, pos := _, after := _, guard := _ }) (v := .int .i64 (nx : Int)) rfl (by kernel_rfl) (by kernel_rfl) (by kernel_rfl) (fun _ _ _ h => h) (Or.inl ⟨by rfl, by intro w hSw; (try dsimp only at hSw); go_simp⟩) hHeld ?_
        try simp only [Act.put, List.setIfInBounds_toArray, List.set_cons_zero, List.set_cons_succ]
        refine wpAnyH_ready (rs := [5]) (by kernel_rfl) (by simp) ?_
        refine AllReadyH.cons (o := { dst := some 45, op := _, type := _, pos := _, after := _, guard := _ }) rfl (fun K hK => ?_) AllReadyH.nil
        refine step_wanted' rfl ?_
        go_simp
        go_at_call 23
        refine (HKEY.out _).mono ?_
        rintro e w3 ⟨rfl, hk3⟩
        have H3 := Lib.hid (H2d.out.quiet hk3)
        refine hK.out _ _ (by exact USt.of H3.out (List.mem_cons_self ..)) (fun hHeld1 => ?_)
        clear hK K
        try simp only [Act.put, List.setIfInBounds_toArray, List.set_cons_zero, List.set_cons_succ]
        refine wpAnyH_ready (rs := [6]) (by kernel_rfl) (by simp) ?_
        refine AllReadyH.cons (o := { dst := some 46, op := _, type := _, pos := _, after := _, guard := _ }) rfl (fun K hK => ?_) AllReadyH.nil
        refine step_wanted' rfl ?_
        go_simp
        go_at_call 41
        obtain ⟨w4, hrn, h4⟩ := HCRE.out _ _ H3.out
        refine hrn.out.mono ?_
        rintro e w' ⟨rfl, rfl⟩
        have H4 := Lib.hid h4
        clear h4
        refine hK.out _ _ (by exact USt.of H4.out (List.mem_cons_self ..)) (fun hHeld2 => ?_)
        clear hK K
        try simp only [Act.put, List.setIfInBounds_toArray, List.set_cons_zero, List.set_cons_succ]
        refine wpAnyH_take (i := 7) (oi := { dst := some 10, op := _, type := _, pos := _, after := _, guard := _ }) (v := .int .i64 c1) rfl (by kernel_rfl) (by kernel_rfl) (by kernel_rfl) (fun _ _ _ h => h) (Or.inl ⟨by rfl, by intro w hSw; (try dsimp only at hSw); go_simp⟩) hHeld2 ?_
        try simp only [Act.put, List.setIfInBounds_toArray, List.set_cons_zero, List.set_cons_succ]
        refine wpAnyH_done (by kernel_rfl) ?_ _
        by_cases hc : c1 = 0
        · subst hc
          have hr1 := HR.out
          rw [if_pos rfl] at hr1
          have HR := Lib.hid hr1
          clear hr1
          go_upto_region 14 with fail
          refine wp_region_held_drew (S := USt u d st t nx mp bq repo til) (by kernel_rfl) (by exact USt.of (H4.out.drew) (List.mem_cons_self ..)) (fun hHeld => ?_)
          have H4d := Lib.hid H4.out.drew
          clear H4
          generalize w4.drew = w4d at *
          refine wpAnyH_take (i := 0) (oi := { dst := some 50, op := _, type := _, pos := _, after := _, guard := _ }) (v := .pointer (some ⟨u, 0, none⟩)) rfl (by kernel_rfl) (by kernel_rfl) (by kernel_rfl) (fun _ _ _ h => h) (Or.inl ⟨by rfl, by intro w hSw; (try dsimp only at hSw); go_simp⟩) hHeld ?_
          try simp only [Act.put, List.setIfInBounds_toArray, List.set_cons_zero, List.set_cons_succ]
          refine wpAnyH_take (i := 1) (oi := { dst := some 51, op := _, type := _, pos := _, after := _, guard := _ }) (v := .pointer (some ⟨u, 0, none⟩)) rfl (by kernel_rfl) (by kernel_rfl) (by kernel_rfl) (fun _ _ _ h => h) (Or.inl ⟨by rfl, by intro w hSw; (try dsimp only at hSw); go_simp⟩) hHeld ?_
          try simp only [Act.put, List.setIfInBounds_toArray, List.set_cons_zero, List.set_cons_succ]
          refine wpAnyH_take (i := 2) (oi := { dst := some 52, op := _, type := _, pos := _, after := _, guard := _ }) (v := .pointer (some ⟨u, 2, none⟩)) rfl (by kernel_rfl) (by kernel_rfl) (by kernel_rfl) (fun _ _ _ h => h) (Or.inl ⟨by rfl, by intro w hSw; (try dsimp only at hSw); go_simp⟩) hHeld ?_
          try simp only [Act.put, List.setIfInBounds_toArray, List.set_cons_zero, List.set_cons_succ]
          refine wpAnyH_take (i := 3) (oi := { dst := some 53, op := _, type := _, pos := _, after := _, guard := _ }) (v := .pointer (some ⟨t, 0, none⟩)) rfl (by kernel_rfl) (by kernel_rfl) (by kernel_rfl) (fun _ _ _ h => h) (Or.inl ⟨by rfl, by intro w hSw; (try dsimp only at hSw); (obtain ⟨⟨q0, q1, q2, q3, q4⟩, -⟩ := hSw; go_simp)⟩) hHeld ?_
          try simp only [Act.put, List.setIfInBounds_toArray, List.set_cons_zero, List.set_cons_succ]
          refine wpAnyH_take (i := 4) (oi := { dst := some 54, op := _, type := _, pos := _, after := _, guard := _ }) (v := .int .i64 (nx : Int)) rfl (by kernel_rfl) (by kernel_rfl) (by kernel_rfl) (fun _ _ _ h => h) (Or.inl ⟨by rfl, by intro w hSw; (try dsimp only at hSw); go_simp⟩) hHeld ?_
          try simp only [Act.put, List.setIfInBounds_toArray, List.set_cons_zero, List.set_cons_succ]
          refine wpAnyH_take (i := 6) (oi := { dst := some 56, op := _, type := _, pos := _, after := _, guard := _ }) (v := .agg ([.string repo, .int .i64 til, .int .i64 0]).toArray) rfl (by kernel_rfl) (by kernel_rfl) (by kernel_rfl) (fun _ _ _ h => h) (yieldsIf_load_mid (by rfl) _ _ rfl (bq) (0) rfl ([.string repo, .int .i64 til, .int .i64 0]) _ (fun w' hk => hk.2) Tryz.underlying43 rfl HI3.out) hHeld ?_
          try simp only [Act.put, List.setIfInBounds_toArray, List.set_cons_zero, List.set_cons_succ]
          refine wpAnyH_take (i := 9) (oi := { dst := some 59, op := _, type := _, pos := _, after := _, guard := _ }) (v := .int .i64 (nx : Int)) rfl (by kernel_rfl) (by kernel_rfl) (by kernel_rfl) (fun _ _ _ h => h) (Or.inl ⟨by rfl, by intro w hSw; (try dsimp only at hSw); go_simp⟩) hHeld ?_
          try simp only [Act.put, List.setIfInBounds_toArray, List.set_cons_zero, List.set_cons_succ]
          refine wpAnyH_take (i := 10) (oi := { dst := some 60, op := _, type := _, pos := _, after := _, guard := _ }) (v := .int .i64 (n1 : Int)) rfl (by kernel_rfl) (by kernel_rfl) (by kernel_rfl) (fun _ _ _ h => h) (Or.inl ⟨by rfl, by intro w hSw; (try dsimp only at hSw); (go_simp; exact HNX1.out.1)⟩) hHeld ?_
          try simp only [Act.put, List.setIfInBounds_toArray, List.set_cons_zero, List.set_cons_succ]
          refine wpAnyH_take (i := 11) (oi := { dst := some 61, op := _, type := _, pos := _, after := _, guard := _ }) (v := .int .u64 (n1 : Int)) rfl (by kernel_rfl) (by kernel_rfl) (by kernel_rfl) (fun _ _ _ h => h) (Or.inl ⟨by rfl, by intro w hSw; (try dsimp only at hSw); (go_simp; exact HNX1.out.2)⟩) hHeld ?_
          try simp only [Act.put, List.setIfInBounds_toArray, List.set_cons_zero, List.set_cons_succ]
          refine wpAnyH_ready (rs := [5]) (by kernel_rfl) (by simp) ?_
          refine AllReadyH.cons (o := { dst := some 55, op := _, type := _, pos := _, after := _, guard := _ }) rfl (fun K hK => ?_) AllReadyH.nil
          refine step_wanted' rfl ?_
          go_simp
          go_at_call 23
          refine (HKEY.out _).mono ?_
          rintro e w5 ⟨rfl, hk5⟩
          have H5 := Lib.hid (H4d.out.quiet hk5)
          refine hK.out _ _ (by exact USt.of H5.out (List.mem_cons_self ..)) (fun hHeld1 => ?_)
          clear hK K
          try simp only [Act.put, List.setIfInBounds_toArray, List.set_cons_zero, List.set_cons_succ]
          refine wpAnyH_ready (rs := [7]) (by kernel_rfl) (by simp) ?_
          refine AllReadyH.cons (o := { dst := some 57, op := _, type := _, pos := _, after := _, guard := _ }) rfl (fun K hK => ?_) AllReadyH.nil
          refine step_wanted' rfl ?_
          go_simp
          go_at_call 43
          refine (HLAID.out _).mono ?_
          rintro e w6 ⟨v1, rfl, ho1, hk6⟩
          obtain ⟨a1, q1, rfl, -, -⟩ := ho1.bytes.form
          have H6 := Lib.hid (H5.out.endBytes ho1 hk6)
          clear ho1
          refine hK.out _ _ (by exact USt.of H6.out (by simp)) (fun hHeld2 => ?_)
          clear hK K
          try simp only [Act.put, List.setIfInBounds_toArray, List.set_cons_zero, List.set_cons_succ]
          refine wpAnyH_take (i := 8) (oi := { dst := some 58, op := _, type := _, pos := _, after := _, guard := _ }) (v := .agg #[.string ky, .bool false, .slice a1 l1.length q1]) rfl (by kernel_rfl) (by kernel_rfl) (by kernel_rfl) (fun _ _ _ h => h) (Or.inl ⟨by rfl, by intro w hSw; (try dsimp only at hSw); go_simp⟩) hHeld2 ?_
          try simp only [Act.put, List.setIfInBounds_toArray, List.set_cons_zero, List.set_cons_succ]
          refine wpAnyH_ready (rs := [12]) (by kernel_rfl) (by simp) ?_
          refine AllReadyH.cons (o := { dst := some 62, op := _, type := _, pos := _, after := _, guard := _ }) rfl (fun K hK => ?_) AllReadyH.nil
          refine step_wanted' rfl ?_
          go_simp
          go_at_call 44
          refine (HPUT.out _).mono ?_
          rintro e w7 ⟨v2, rfl, ho2, hk7⟩
          obtain ⟨a2, q2, rfl, -, -⟩ := ho2.bytes.form
          have H7 := Lib.hid (H6.out.endBytes ho2 hk7)
          clear ho2
          refine hK.out _ _ (by exact USt.of H7.out (by simp)) (fun hHeld3 => ?_)
          clear hK K
          try simp only [Act.put, List.setIfInBounds_toArray, List.set_cons_zero, List.set_cons_succ]
          refine wpAnyH_take (i := 13) (oi := { dst := some 63, op := _, type := _, pos := _, after := _, guard := _ }) (v := .agg #[.string uB, .bool false, .slice a2 l2.length q2]) rfl (by kernel_rfl) (by kernel_rfl) (by kernel_rfl) (fun _ _ _ h => h) (Or.inl ⟨by rfl, by intro w hSw; (try dsimp only at hSw); (unfold uB; go_simp)⟩) hHeld3 ?_
          try simp only [Act.put, List.setIfInBounds_toArray, List.set_cons_zero, List.set_cons_succ]
          refine wpAnyH_ready (rs := [14]) (by kernel_rfl) (by simp) ?_
          refine AllReadyH.cons (o := { dst := some 64, op := _, type := _, pos := _, after := _, guard := _ }) rfl (fun K hK => ?_) AllReadyH.nil
          refine step_wanted' rfl ?_
          go_simp
          have H8 := Lib.hid (H7.out.endObj (.cells #[.string ky, .bool false, .slice a1 l1.length q1, .string uB, .bool false, .slice a2 l2.length q2] 109))
          refine hK.out _ _ (by exact USt.of H8.out (by simp)) (fun hHeld4 => ?_)
          clear hK K
          try simp only [Act.put, List.setIfInBounds_toArray, List.set_cons_zero, List.set_cons_succ]
          refine wpAnyH_ready (rs := [15]) (by kernel_rfl) (by simp) ?_
          refine AllReadyH.cons (o := { dst := some 65, op := _, type := _, pos := _, after := _, guard := _ }) rfl (fun K hK => ?_) AllReadyH.nil
          refine step_wanted' rfl ?_
          go_simp
          go_at_call 42
          refine (HAPP.out _ _ _ _ _ H8.out).mono ?_
          rintro e w9 ⟨rfl, h9⟩
          have H9 := Lib.hid h9
          clear h9
          refine hK.out _ _ (by exact USt.of H9.out (List.mem_cons_self ..)) (fun hHeld5 => ?_)
          clear hK K
          try simp only [Act.put, List.setIfInBounds_toArray, List.set_cons_zero, List.set_cons_succ]
          refine wpAnyH_take (i := 16) (oi := { dst := some 11, op := _, type := _, pos := _, after := _, guard := _ }) (v := .int .i64 ca) rfl (by kernel_rfl) (by kernel_rfl) (by kernel_rfl) (fun _ _ _ h => h) (Or.inl ⟨by rfl, by intro w hSw; (try dsimp only at hSw); go_simp⟩) hHeld5 ?_
          try simp only [Act.put, List.setIfInBounds_toArray, List.set_cons_zero, List.set_cons_succ]
          refine wpAnyH_done (by kernel_rfl) ?_ _
          by_cases hca : ca = 0
          · subst hca
            have hr1 := HR.out
            rw [if_pos rfl] at hr1
            subst hr1
            have h9 := H9.out
            obtain ⟨-, -, -, c3, -⟩ := u_cells (h9.at (b := u) (o := uObj d st t nx mp) (by simp [uRes])).1
            have f3 := free_at (h9.at (b := u) (o := uObj d st t nx mp) (by simp [uRes])).1 3
            have hw := HNX1.out.1
            have h10 := h9.enter (repo := repo) (til := til) HPG.out
            rw [← HN1.out] at h10
            have H10 := Lib.hid h10
            clear h9 h10
            go_upto_region 21 with fail
            clear c3 f3 hw
            generalize w9.setCell ⟨u, 3, none⟩ (.int .i64 (n1 : Int)) = w10 at *
            obtain ⟨w13, hrun, h13⟩ := H10.out.drew.enter2 (nx := nx) (repo := repo) (til := til) HPG.out
            obtain ⟨o1, ho1⟩ : ∃ o, o = stObj hWords (restOf 0 (List.replicate 64 0)) := ⟨_, rfl⟩
            rw [← ho1] at hrun h13
            have HDN := Lib.hid (show ∀ W, Runs 46 #[] W (.pointer (some ⟨W.heap.size, 0, none⟩)) (W.alloc o1) from fun W => by rw [ho1]; exact dnew_runs W)
            have H13 := Lib.hid h13
            clear ho1
            refine wp_region_held_drew (S := USt u d st t n1 mp bq repo til) (by kernel_rfl) (by exact USt.of (H10.out.drew) (List.mem_cons_self ..)) (fun hHeld => ?_)
            clear H10 h13
            generalize w10.drew = w10d at *
            refine wpAnyH_take (i := 0) (oi := { dst := some 86, op := _, type := _, pos := _, after := _, guard := _ }) (v := .pointer (some ⟨u, 0, none⟩)) rfl (by kernel_rfl) (by kernel_rfl) (by kernel_rfl) (fun _ _ _ h => h) (Or.inl ⟨by rfl, by intro w hSw; (try dsimp only at hSw); go_simp⟩) hHeld ?_
            try simp only [Act.put, List.setIfInBounds_toArray, List.set_cons_zero, List.set_cons_succ]
            refine wpAnyH_take (i := 1) (oi := { dst := some 87, op := _, type := _, pos := _, after := _, guard := _ }) (v := .pointer (some ⟨u, 0, none⟩)) rfl (by kernel_rfl) (by kernel_rfl) (by kernel_rfl) (fun _ _ _ h => h) (Or.inl ⟨by rfl, by intro w hSw; (try dsimp only at hSw); go_simp⟩) hHeld ?_
            try simp only [Act.put, List.setIfInBounds_toArray, List.set_cons_zero, List.set_cons_succ]
            refine wpAnyH_take (i := 2) (oi := { dst := some 88, op := _, type := _, pos := _, after := _, guard := _ }) (v := .pointer (some ⟨u, 4, none⟩)) rfl (by kernel_rfl) (by kernel_rfl) (by kernel_rfl) (fun _ _ _ h => h) (Or.inl ⟨by rfl, by intro w hSw; (try dsimp only at hSw); go_simp⟩) hHeld ?_
            try simp only [Act.put, List.setIfInBounds_toArray, List.set_cons_zero, List.set_cons_succ]
            refine wpAnyH_take (i := 3) (oi := { dst := some 89, op := _, type := _, pos := _, after := _, guard := _ }) (v := .map (some mp)) rfl (by kernel_rfl) (by kernel_rfl) (by kernel_rfl) (fun _ _ _ h => h) (Or.inl ⟨by rfl, by intro w hSw; (try dsimp only at hSw); (obtain ⟨⟨q0, q1, q2, q3, q4⟩, -⟩ := hSw; go_simp)⟩) hHeld ?_
            try simp only [Act.put, List.setIfInBounds_toArray, List.set_cons_zero, List.set_cons_succ]
            refine wpAnyH_take (i := 4) (oi := { dst := some 90, op := _, type := _, pos := _, after := _, guard := _ }) (v := .int .i64 (nx : Int)) rfl (by kernel_rfl) (by kernel_rfl) (by kernel_rfl) (fun _ _ _ h => h) (Or.inl ⟨by rfl, by intro w hSw; (try dsimp only at hSw); go_simp⟩) hHeld ?_
            try simp only [Act.put, List.setIfInBounds_toArray, List.set_cons_zero, List.set_cons_succ]
            refine wpAnyH_take (i := 5) (oi := { dst := some 91, op := _, type := _, pos := _, after := _, guard := _ }) (v := .agg ([.string repo, .int .i64 til, .int .i64 0]).toArray) rfl (by kernel_rfl) (by kernel_rfl) (by kernel_rfl) (fun _ _ _ h => h) (yieldsIf_load_mid (by rfl) _ _ rfl (bq) (0) rfl ([.string repo, .int .i64 til, .int .i64 0]) _ (fun w' hk => hk.2) Tryz.underlying43 rfl HI3.out) hHeld ?_
            try simp only [Act.put, List.setIfInBounds_toArray, List.set_cons_zero, List.set_cons_succ]
            refine wpAnyH_ready (rs := [6]) (by kernel_rfl) (by simp) ?_
            refine AllReadyH.cons (o := { dst := some 92, op := _, type := _, pos := _, after := _, guard := _ }) rfl (fun K hK => ?_) AllReadyH.nil
            refine step_wanted' rfl ?_
            go_simp
            go_at_call 46
            refine (HDN.out _).out.mono ?_
            rintro e w' ⟨rfl, rfl⟩
            refine hK.out _ _ (by exact USt.keep hHeld ((Keeps.refl _ _).alloc _)) (fun hHeld1 => ?_)
            clear hK K
            try simp only [Act.put, List.setIfInBounds_toArray, List.set_cons_zero, List.set_cons_succ]
            refine wpAnyH_take (i := 7) (oi := { dst := some 93, op := _, type := _, pos := _, after := _, guard := _ }) (v := .agg #[.string repo, .int .i64 til, .int .i64 0, .pointer (some ⟨w10d.heap.size, 0, none⟩)]) rfl (by kernel_rfl) (by kernel_rfl) (by kernel_rfl) (fun _ _ _ h => h) (Or.inl ⟨by rfl, by intro w hSw; (try dsimp only at hSw); go_simp⟩) hHeld1 ?_
            try simp only [Act.put, List.setIfInBounds_toArray, List.set_cons_zero, List.set_cons_succ]
            refine wpAnyH_ready (rs := [8]) (by kernel_rfl) (by simp) ?_
            refine AllReadyH.cons (o := { dst := some 94, op := _, type := _, pos := _, after := _, guard := _ }) rfl (fun K hK => ?_) AllReadyH.nil
            refine step_wanted' rfl ?_
            go_simp
            refine hK.out _ _ (by exact USt.keep hHeld1 ((Keeps.refl _ _).alloc _)) (fun hHeld2 => ?_)
            clear hK K
            try simp only [Act.put, List.setIfInBounds_toArray, List.set_cons_zero, List.set_cons_succ]
            simp only [World.size_alloc] at hrun
            refine wpAnyH_ready (rs := [9]) (by kernel_rfl) (by simp) ?_
            refine AllReadyH.cons (o := { dst := none, op := _, type := _, pos := _, after := _, guard := _ }) rfl (fun K hK => ?_) AllReadyH.nil
            refine step_wanted' rfl ?_
            go_simp
            refine hK.out _ _ (by exact USt.of H13.out (List.mem_cons_self ..)) (fun hHeld3 => ?_)
            clear hK K
            try simp only [Act.put, List.setIfInBounds_toArray, List.set_cons_zero, List.set_cons_succ]
            refine wpAnyH_done (by kernel_rfl) ?_ _
            clear hrun
            go_wp2_with fail
            go_ret2
            exact ⟨rfl, .inl ⟨rfl, _, _, by rw [← HN1.out]; exact H13.out.dropEnd⟩⟩
          · have hr1 := HR.out
            rw [if_neg hca] at hr1
            have HR := Lib.hid hr1
            have HCA := Lib.hid hca
            have hb : (ca != 0) = true := by simpa using hca
            clear hca hr1
            go_upto_region 16 with fail
            refine wp_region_held_drew (S := USt u d st t nx mp bq repo til) (by kernel_rfl) (by exact USt.of (H9.out.drew) (List.mem_cons_self ..)) (fun hHeld => ?_)
            have H9d := Lib.hid H9.out.drew
            clear H9
            generalize w9.drew = w9d at *
            refine wpAnyH_take (i := 0) (oi := { dst := some 68, op := _, type := _, pos := _, after := _, guard := _ }) (v := .pointer (some ⟨u, 0, none⟩)) rfl (by kernel_rfl) (by kernel_rfl) (by kernel_rfl) (fun _ _ _ h => h) (Or.inl ⟨by rfl, by intro w hSw; (try dsimp only at hSw); go_simp⟩) hHeld ?_
            try simp only [Act.put, List.setIfInBounds_toArray, List.set_cons_zero, List.set_cons_succ]
            refine wpAnyH_take (i := 1) (oi := { dst := some 69, op := _, type := _, pos := _, after := _, guard := _ }) (v := .pointer (some ⟨u, 0, none⟩)) rfl (by kernel_rfl) (by kernel_rfl) (by kernel_rfl) (fun _ _ _ h => h) (Or.inl ⟨by rfl, by intro w hSw; (try dsimp only at hSw); go_simp⟩) hHeld ?_
            try simp only [Act.put, List.setIfInBounds_toArray, List.set_cons_zero, List.set_cons_succ]
            refine wpAnyH_take (i := 2) (oi := { dst := some 70, op := _, type := _, pos := _, after := _, guard := _ }) (v := .pointer (some ⟨u, 0, none⟩)) rfl (by kernel_rfl) (by kernel_rfl) (by kernel_rfl) (fun _ _ _ h => h) (Or.inl ⟨by rfl, by intro w hSw; (try dsimp only at hSw); go_simp⟩) hHeld ?_
            try simp only [Act.put, List.setIfInBounds_toArray, List.set_cons_zero, List.set_cons_succ]
            refine wpAnyH_take (i := 3) (oi := { dst := some 71, op := _, type := _, pos := _, after := _, guard := _ }) (v := .pointer (some ⟨d, 0, none⟩)) rfl (by kernel_rfl) (by kernel_rfl) (by kernel_rfl) (fun _ _ _ h => h) (Or.inl ⟨by rfl, by intro w hSw; (try dsimp only at hSw); (obtain ⟨⟨q0, q1, q2, q3, q4⟩, -⟩ := hSw; go_simp)⟩) hHeld ?_
            try simp only [Act.put, List.setIfInBounds_toArray, List.set_cons_zero, List.set_cons_succ]
            refine wpAnyH_take (i := 4) (oi := { dst := some 72, op := _, type := _, pos := _, after := _, guard := _ }) (v := .int .i64 (nx : Int)) rfl (by kernel_rfl) (by kernel_rfl) (by kernel_rfl) (fun _ _ _ h => h) (Or.inl ⟨by rfl, by intro w hSw; (try dsimp only at hSw); go_simp⟩) hHeld ?_
            try simp only [Act.put, List.setIfInBounds_toArray, List.set_cons_zero, List.set_cons_succ]
            refine wpAnyH_ready (rs := [5]) (by kernel_rfl) (by simp) ?_
            refine AllReadyH.cons (o := { dst := some 73, op := _, type := _, pos := _, after := _, guard := _ }) rfl (fun K hK => ?_) AllReadyH.nil
            refine step_wanted' rfl ?_
            go_simp
            go_at_call 23
            refine (HKEY.out _).mono ?_
            rintro e w10 ⟨rfl, hk10⟩
            have H10 := Lib.hid (H9d.out.quiet hk10)
            refine hK.out _ _ (by exact USt.of H10.out (List.mem_cons_self ..)) (fun hHeld1 => ?_)
            clear hK K
            try simp only [Act.put, List.setIfInBounds_toArray, List.set_cons_zero, List.set_cons_succ]
            refine wpAnyH_ready (rs := [6]) (by kernel_rfl) (by simp) ?_
            refine AllReadyH.cons (o := { dst := some 74, op := _, type := _, pos := _, after := _, guard := _ }) rfl (fun K hK => ?_) AllReadyH.nil
            refine step_wanted' rfl ?_
            go_simp
            go_at_call 45
            obtain ⟨w11, hrn, h11⟩ := HREM.out _ _ H10.out
            refine hrn.out.mono ?_
            rintro e w' ⟨rfl, rfl⟩
            have H11 := Lib.hid h11
            clear h11
            refine hK.out _ _ (by exact USt.of H11.out (List.mem_cons_self ..)) (fun hHeld2 => ?_)
            clear hK K
            try simp only [Act.put, List.setIfInBounds_toArray, List.set_cons_zero, List.set_cons_succ]
            refine wpAnyH_take (i := 7) (oi := { dst := some 12, op := _, type := _, pos := _, after := _, guard := _ }) (v := .int .i64 rm.1) rfl (by kernel_rfl) (by kernel_rfl) (by kernel_rfl) (fun _ _ _ h => h) (Or.inl ⟨by rfl, by intro w hSw; (try dsimp only at hSw); go_simp⟩) hHeld2 ?_
            try simp only [Act.put, List.setIfInBounds_toArray, List.set_cons_zero, List.set_cons_succ]
            refine wpAnyH_done (by kernel_rfl) ?_ _
            obtain ⟨r1, r2⟩ := rm
            dsimp only at *
            by_cases hrm : r1 = 0
            · subst hrm
              have hr1 := HR.out
              rw [if_pos rfl] at hr1
              subst hr1
              clear HR
              go_wp2_with fail
              go_ret2
              exact ⟨rfl, .inr ⟨HCA.out, H11.out.dropEnd⟩⟩
            · have hr1 := HR.out
              rw [if_neg hrm] at hr1
              subst hr1
              have hb2 : (r1 != 0) = true := by simpa using hrm
              have HRM := Lib.hid hrm
              clear HR hrm
              go_wp2_with fail
              go_ret2
              exact ⟨rfl, .inr ⟨HRM.out, H11.out.dropEnd⟩⟩
        · have hr1 := HR.out
          rw [if_neg hc] at hr1
          subst hr1
          have hb : (c1 != 0) = true := by simpa using hc
          have HC := Lib.hid hc
          clear HR hc
          go_wp2_with fail
          go_ret2
          exact ⟨rfl, .inr ⟨HC.out, H4.out.dropEnd⟩⟩
end
end Go.Proofs.YtlcnhpjggjgnpaaGreatDoor
