/- A part of the proof. -/
import Derived.Test.YtlcnhpjggjgnpaaGreatDoorUlab7
import Derived.Test.YtlcnhpjggjgnpaaGreatDoorUlad2
import Derived.Test.YtlcnhpjggjgnpaaGreatDoorUlad8
import Derived.Test.YtlcnhpjggjgnpaaGreatDoorUlad9
namespace Go.Proofs.YtlcnhpjggjgnpaaGreatDoor
set_option linter.unusedVariables false
set_option linter.unusedSimpArgs false
open Go.RowKit Go.MapKept
open Go.ChangeMaps (setBlock)
theorem wpList_s2b {ops : Array Oper} {rest : List Oper} {o : Oper} {a : Act} {w : World} {Q : Exit → Act → World → Prop} (hg : o.guard = none) (x : Operand) (ho : o.op = .sliceToArrayPointer 39 x) (g k c : Nat) (hx : a.eval x = .slice (some ⟨g, k, none⟩) 32 c)
  (h : wpList Tryz.prog ops Q rest (a.put o.dst (.pointer (some ⟨g, k, none⟩))) w) : wpList Tryz.prog ops Q (o :: rest) a w := by
 refine wpList_plain hg fun K hK => ?_
 have hu := Tryz.underlying39
 unfold Oper.wp
 have hrun : (Instr.arrayAt 39 (.slice (some ⟨g, k, none⟩) 32 c)).run Tryz.prog w = .ok (.pointer (some ⟨g, k, none⟩)) w := by
  simp only [Instr.arrayAt, Sem.run_bind, run_underlying hu, Result.andThen_ok]
  rw [if_neg (by decide)]
  exact Sem.run_pure ..
 simp only [execOp, ho, hx, Sem.run_bind, hrun, Result.andThen_ok, Sem.run_pure]
 exact hK _ _ h
def rRd (B : Nat) (v : Value) (l : List UInt8) : Res B := ⟨fun F w => Bytes F w v l, fun F w w' h hk => by
 rcases h with h | ⟨g, off, cap, cs, fz, rfl, hF, hb, r⟩
 ·exact .inl h
 ·exact .inr ⟨g, off, cap, cs, fz, rfl, hF, (hk g (.inl hF)).trans hb, r⟩⟩
section
variable {w wr : World} {d u st t mp j b : Nat} {nm : ByteArray} {T : TM} {next : Int} {L L1 L2 : UL} {rs : List (Res w.heap.size)}
theorem Own.addRd {w' : World} (h : Own w wr rs) {v : Value} {l : List UInt8} (hB : Bytes (fun b => wr.heap.size ≤ b) w' v l) (hk : Keeps (fun _ => False) wr w') : Own w w' (rRd w.heap.size v l :: rs) := by
 refine h.add hk (r := rRd _ v l) (G := fun b => wr.heap.size ≤ b ∧ b < w'.heap.size) ?_ (fun b hb => hb)
 rcases hB with h | ⟨g, off, cap, cs, fz, rfl, hF, hb, r⟩
 ·exact .inl h
 ·exact .inr ⟨g, off, cap, cs, fz, rfl, ⟨hF, lt_of_heap hb⟩, hb, r⟩
theorem Own.rd {v : Value} {l : List UInt8} (h : Own w wr rs) (hm : rRd w.heap.size v l ∈ rs) : Reads wr v l ∧ ∀ x n c, v = .slice (some x) n c → l ≠ [] → x.block < wr.heap.size := by
 obtain ⟨F, hr, hb⟩ := h.mem hm
 refine ⟨Bytes.reads (show Bytes F wr v l from hr), fun x n c e hne => ?_⟩
 rcases (show Bytes F wr v l from hr) with ⟨h1, h2⟩ | ⟨g, off, cap, cs, fz, e2, hF, hb2, r⟩
 ·exact absurd h2 hne
 ·rw [e2] at e; cases e
  exact lt_of_heap hb2
theorem Own.fromEnd {x : Res w.heap.size} {A B M : List (Res w.heap.size)} (h : Own w wr (A ++ (B ++ (x :: M)))) : Own w wr (x :: (A ++ (B ++ M))) := h.perm (by
 have h1 : (x :: (A ++ (B ++ M))).Perm (A ++ (x :: (B ++ M))) := (List.perm_middle (l₁ := A)).symm
 exact (h1.trans (List.Perm.append_left A (List.perm_middle (l₁ := B)).symm)).symm)
theorem Own.fromEnd2 {x y : Res w.heap.size} {A B M : List (Res w.heap.size)} (h : Own w wr (A ++ (B ++ (x :: y :: M)))) : Own w wr (y :: (A ++ (B ++ (x :: M)))) :=
 (h.perm (List.Perm.append_left A (List.Perm.append_left B (List.Perm.swap y x M)))).fromEnd
def UBx (u d st t : Nat) (next : Int) (mp bq : Nat) (repo : ByteArray) (til sz : Int) (W : World) : Prop :=
 (W.cell? ⟨u, 0, none⟩ = some (.pointer (some ⟨d, 0, none⟩)) ∧ W.cell? ⟨u, 1, none⟩ = some (.pointer (some ⟨st, 0, none⟩)) ∧ W.cell? ⟨u, 2, none⟩ = some (.pointer (some ⟨t, 0, none⟩)) ∧ W.cell? ⟨u, 3, none⟩ = some (.int .i64 next) ∧ W.cell? ⟨u, 4, none⟩ = some (.map (some mp))) ∧
  W.rangeAt bq 0 [.string repo, .int .i64 til, .int .i64 sz]
def bxO (repo : ByteArray) (til sz : Int) : Obj := .cells #[.string repo, .int .i64 til, .int .i64 sz] 43
theorem UBx.of {bq : Nat} {repo : ByteArray} {til sz : Int} {W : World} {A M : List (Res w.heap.size)} (h : Own w W (A ++ (uRes w.heap.size d u st t mp next L ++ M))) (hm : rObj w.heap.size bq (bxO repo til sz) ∈ M) : UBx u d st t next mp bq repo til sz W := by
 refine ⟨u_cells (h.at (b := u) (o := uObj d st t next mp) (by simp [uRes])).1, fun k v hv => ?_⟩
 rw [Nat.zero_add]
 exact cell_at (h.at (b := bq) (o := bxO repo til sz) (by simp [hm])).1 (by rw [List.getElem?_toArray]; exact hv)
theorem UBx.keep {bq : Nat} {repo : ByteArray} {til sz : Int} {W W' : World} (h : UBx u d st t next mp bq repo til sz W) (hk : Keeps (fun _ => False) W W') : UBx u d st t next mp bq repo til sz W' :=
 ⟨⟨cell_keep h.1.1 hk, cell_keep h.1.2.1 hk, cell_keep h.1.2.2.1 hk, cell_keep h.1.2.2.2.1 hk, cell_keep h.1.2.2.2.2 hk⟩, fun k v hv => cell_keep (h.2 k v hv) hk⟩
theorem perm_newR {α : Type} (T Ls R : List α) (a s p x y : α) : (p :: x :: y :: (T ++ (a :: s :: (Ls ++ R)))).Perm (x :: y :: (T ++ ((a :: s :: p :: (Ls ++ [])) ++ R))) := by
 have h1 : ([p] ++ ([x, y] ++ (T ++ (a :: s :: (Ls ++ R))))).Perm ([x, y] ++ ([p] ++ (T ++ (a :: s :: (Ls ++ R))))) := List.perm_append_comm_assoc _ _ _
 refine h1.trans (List.Perm.append_left _ ?_)
 have h2 : ([p] ++ (T ++ (a :: s :: (Ls ++ R)))).Perm (T ++ ([p] ++ (a :: s :: (Ls ++ R)))) := List.perm_append_comm_assoc _ _ _
 refine h2.trans (List.Perm.append_left T ?_)
 rw [List.append_nil]
 have h3 : ([p] ++ ([a, s] ++ (Ls ++ R))).Perm ([a, s] ++ ([p] ++ (Ls ++ R))) := List.perm_append_comm_assoc _ _ _
 exact h3
theorem Own.enterR {s : Ses} {W : World} {T' : TM} {nx' : Int} {M : List (Res w.heap.size)} (h : Own w W (tRes w.heap.size d j t b nm T' ++ (uRes w.heap.size d u st t mp nx' L ++ M))) (hid : pget (ptrs L) s.id = none) :
  ∃ w3, (Instr.mapUpdate 102 (.map (some mp)) (.int .i64 s.id) (.pointer (some ⟨W.heap.size + 1, 0, none⟩))).run Tryz.prog ((W.alloc (stObj hWords (restOf 0 (List.replicate 64 0)))).alloc (.cells #[.string s.repo, .int .i64 s.til, .int .i64 (s.b.length : Int), .pointer (some ⟨W.heap.size, 0, none⟩)] 116)) = .ok () w3 ∧
   Own w w3 (rObj w.heap.size (W.heap.size + 1) (sesObj s W.heap.size) :: rSt w.heap.size W.heap.size [] :: (tRes w.heap.size d j t b nm T' ++ (uRest w.heap.size d u st t mp nx' (ptrs (L ++ [(s, W.heap.size + 1, W.heap.size)])) L [] ++ M))) := by
 obtain ⟨o1, ho1⟩ : ∃ o, o = stObj hWords (restOf 0 (List.replicate 64 0)) := ⟨_, rfl⟩
 rw [← ho1]
 have h1 : Own w (W.alloc o1) (rSt w.heap.size W.heap.size [] :: (tRes w.heap.size d j t b nm T' ++ (uRes w.heap.size d u st t mp nx' L ++ M))) :=
  h.add ((Keeps.refl (fun _ => False) W).alloc o1) (r := rSt _ W.heap.size []) (G := fun b => b = W.heap.size) ⟨rfl, List.replicate 64 0, by rw [ho1]; exact heap_alloc_new W _, by simp, by simp⟩ (fun b hb => by subst hb; simp)
 have h2 := h1.alloc (sesObj s W.heap.size)
 rw [World.size_alloc] at h2
 obtain ⟨W2, hW2⟩ : ∃ W2, W2 = (W.alloc o1).alloc (sesObj s W.heap.size) := ⟨_, rfl⟩
 rw [← hW2] at h2
 change ∃ w3, (Instr.mapUpdate _ _ _ _).run _ ((W.alloc o1).alloc (sesObj s W.heap.size)) = _ ∧ _
 rw [← hW2]
 generalize W.heap.size + 1 = sp at h2 ⊢
 generalize W.heap.size = q at h2 ⊢
 have h3 : Own w W2 (rPMap w.heap.size mp (ptrs L) :: rObj w.heap.size sp (sesObj s q) :: rSt w.heap.size q [] :: (tRes w.heap.size d j t b nm T' ++ (rObj w.heap.size u (uObj d st t nx' mp) :: rObj w.heap.size st (stObj1 d) :: (liveRes w.heap.size L ++ M)))) := by
  have := Own.pull (l₁ := rObj w.heap.size sp (sesObj s q) :: rSt w.heap.size q [] :: (tRes w.heap.size d j t b nm T' ++ [rObj w.heap.size u (uObj d st t nx' mp), rObj w.heap.size st (stObj1 d)])) (r := rPMap w.heap.size mp (ptrs L)) (l₂ := liveRes w.heap.size L ++ M) (by
   simpa [uRes, List.append_assoc] using h2)
  simpa [List.append_assoc] using this
 obtain ⟨w3, hr, h4⟩ := h3.pmapPut s.id hid sp (Keeps.refl _ _)
 refine ⟨w3, hr, ?_⟩
 have h5 : Own w w3 (rPMap w.heap.size mp (ptrs (L ++ [(s, sp, q)])) :: rObj w.heap.size sp (sesObj s q) :: rSt w.heap.size q [] :: (tRes w.heap.size d j t b nm T' ++ (rObj w.heap.size u (uObj d st t nx' mp) :: rObj w.heap.size st (stObj1 d) :: (liveRes w.heap.size L ++ M)))) :=
  h4.view (fun F _ hF => ⟨hF.1, hF.2.perm (by unfold ptrs; rw [List.map_append]; exact (List.perm_append_comm (l₁ := [(s.id, sp)])))⟩)
 exact h5.perm (perm_newR (tRes w.heap.size d j t b nm T') (liveRes w.heap.size L) M _ _ _ _ _)
theorem Own.summed {s : Ses} {sp q : Nat} {W : World} {T' : TM} {nx' : Int} {M : List (Res w.heap.size)} {pv : Value} (h : Own w W (rObj w.heap.size sp (sesObj s q) :: rSt w.heap.size q [] :: (tRes w.heap.size d j t b nm T' ++ (uRest w.heap.size d u st t mp nx' (ptrs (L ++ [(s, sp, q)])) L [] ++ M))))
  (hr : Reads W pv s.b) (hne : ∀ x n c, pv = .slice (some x) n c → s.b ≠ [] → x.block ≠ q) (hb : s.b.length ≤ 4194304) :
  Calls Tryz.prog 50 #[.pointer (some ⟨q, 0, none⟩), pv] W fun e w' => e = .returned (.int .i64 0) ∧ Own w w' (tRes w.heap.size d j t b nm T' ++ (uRes w.heap.size d u st t mp nx' (L ++ [(s, sp, q)]) ++ M)) := by
 refine (h.swap.write hr hne (by simpa using hb)).mono ?_
 rintro e w' ⟨rfl, h2⟩
 rw [List.nil_append] at h2
 exact ⟨rfl, h2.swap.unfocus (L1 := L) (L2 := []) rfl⟩
def UResPost (w : World) (d j t b u st mp : Nat) (nm : ByteArray) (next : Int) (L : UL) (rs : List (Res w.heap.size)) (r : Int × TM × Option Ses) (e : Ending) (w' : World) : Prop :=
 e = .returned (.int .i64 r.1) ∧ ((r.2.2 = none ∧ Own w w' (tRes w.heap.size d j t b nm r.2.1 ++ (uRes w.heap.size d u st t mp next L ++ rs))) ∨
  ∃ s sp q, r.2.2 = some s ∧ Own w w' (tRes w.heap.size d j t b nm r.2.1 ++ (uRes w.heap.size d u st t mp next (L ++ [(s, sp, q)]) ++ rs)))
set_option maxRecDepth 100000 in
set_option maxHeartbeats 1000000 in
theorem uresume_calls {w0 : World} {x : UE} (h : Own w w0 (tRes w.heap.size d j t b nm T ++ (uRes w.heap.size d u st t mp next L ++ rs))) {n : Nat} (hg : Good T.m n) (hn : n + 20 < 549755813888) (hs : T.size ≤ 1099511627776) (hx : UEok x) (hid : uget L (x.id : Int) = none) (hb : (contOf T.m (ukeyOf x.id)).length ≤ 1048576) {g c : Nat}
  (hev : ∀ (W : World) (M : List (Res w.heap.size)), Own w W (M ++ rs) → Reads W (.slice (some ⟨g, 1, none⟩) x.e.length c) x.e) :
  Calls Tryz.prog 67 #[.pointer (some ⟨u, 0, none⟩), .int .i64 (x.id : Int), .agg #[.string x.repo, .int .i64 x.til, .int .i64 0], .slice (some ⟨g, 1, none⟩) x.e.length c] w0 (UResPost w d j t b u st mp nm next L rs (resumeOf T nm x)) := by
 obtain ⟨ky, hky⟩ : ∃ k, k = ukeyOf x.id := ⟨_, rfl⟩
 have hid0 := hx.id0
 have hid1 := hx.id1
 have HKEY := Lib.hid (show ∀ W, Calls Tryz.prog 23 #[.int .i64 (x.id : Int)] W (QuietP W (.string ky)) from fun W => by rw [hky]; exact ukey_calls W x.id x.id (IntWalk.u64_in _ (by omega)) (by omega))
 have HSZ := Lib.hid (show ∀ W (M : List (Res w.heap.size)), Own w W (tRes w.heap.size d j t b nm T ++ (uRes w.heap.size d u st t mp next L ++ M)) → Runs 57 #[.pointer (some ⟨d, 0, none⟩), .string ky] W (.tuple #[.int .i64 (sizeCode T.m ky), .int .i64 (thereOf T.m ky)]) W from fun W M hW => Own.size hW ky)
 have hH0 := h.endObj (bxO x.repo x.til 0)
 change Own w (w0.alloc (.cells #[.string x.repo, .int .i64 x.til, .int .i64 0] 43)) _ at hH0
 have H0 := Lib.hid hH0
 obtain ⟨R, hR⟩ : ∃ R, resumeOf T nm x = R := ⟨_, rfl⟩
 rw [hR]
 unfold resumeOf at hR
 rw [← hky] at hR hb
 have HR := Lib.hid hR
 have HEV := Lib.hid hev
 have HG := Lib.hid (And.intro hg (And.intro hn hs))
 have HX := Lib.hid hx
 have HB := Lib.hid hb
 have HPG := Lib.hid (show pget (ptrs L) (x.id : Int) = none by rw [pget_ptrs, hid]; rfl)
 have HI3 := Lib.hid (show (Tryz.prog.info? 43).map (·.size) = some ([.string x.repo, .int .i64 x.til, .int .i64 0] : List Value).length by kernel_rfl)
 obtain ⟨sz, hsz⟩ : ∃ z, z = sizeCode T.m ky := ⟨_, rfl⟩
 obtain ⟨th, hth⟩ : ∃ z, z = thereOf T.m ky := ⟨_, rfl⟩
 rw [← hsz, ← hth] at HSZ
 have HSZE := Lib.hid hsz
 have HTH := Lib.hid hth
 have HKY := Lib.hid hky
 clear h hg hn hs hx hid hb hev hky hid0 hid1 hH0 hR hsz hth
 go_enter Tryz.func67, Tryz.ntmps67
 go_upto_region 1 with fail
 generalize w0.alloc (.cells #[.string x.repo, .int .i64 x.til, .int .i64 0] 43) = w1 at H0 ⊢
 generalize w0.heap.size = bq at H0 ⊢
 refine wp_region_held_drew (S := UBx u d st t next mp bq x.repo x.til 0) (by kernel_rfl) (by exact UBx.of H0.out.drew (List.mem_cons_self ..)) (fun hHeld => ?_)
 have H1 := Lib.hid H0.out.drew
 clear H0
 refine wpAnyH_take (i := 0) (oi := { dst := some 14, op := _, type := _, pos := _, after := _, guard := _ }) (v := .pointer (some ⟨u, 0, none⟩)) rfl (by kernel_rfl) (by kernel_rfl) (by kernel_rfl) (fun _ _ _ h => h) (Or.inl ⟨by rfl, by intro w hSw; (try dsimp only at hSw); go_simp⟩) hHeld ?_
 try simp only [Act.put, List.setIfInBounds_toArray, List.set_cons_zero, List.set_cons_succ]
 refine wpAnyH_take (i := 1) (oi := { dst := some 15, op := _, type := _, pos := _, after := _, guard := _ }) (v := .pointer (some ⟨u, 0, none⟩)) rfl (by kernel_rfl) (by kernel_rfl) (by kernel_rfl) (fun _ _ _ h => h) (Or.inl ⟨by rfl, by intro w hSw; (try dsimp only at hSw); go_simp⟩) hHeld ?_
 try simp only [Act.put, List.setIfInBounds_toArray, List.set_cons_zero, List.set_cons_succ]
 refine wpAnyH_take (i := 2) (oi := { dst := some 16, op := _, type := _, pos := _, after := _, guard := _ }) (v := .pointer (some ⟨u, 0, none⟩)) rfl (by kernel_rfl) (by kernel_rfl) (by kernel_rfl) (fun _ _ _ h => h) (Or.inl ⟨by rfl, by intro w hSw; (try dsimp only at hSw); go_simp⟩) hHeld ?_
 try simp only [Act.put, List.setIfInBounds_toArray, List.set_cons_zero, List.set_cons_succ]
 refine wpAnyH_take (i := 3) (oi := { dst := some 17, op := _, type := _, pos := _, after := _, guard := _ }) (v := .pointer (some ⟨d, 0, none⟩)) rfl (by kernel_rfl) (by kernel_rfl) (by kernel_rfl) (fun _ _ _ h => h) (Or.inl ⟨by rfl, by intro w hSw; (try dsimp only at hSw); (obtain ⟨⟨q0, q1, q2, q3, q4⟩, -⟩ := hSw; go_simp)⟩) hHeld ?_
 try simp only [Act.put, List.setIfInBounds_toArray, List.set_cons_zero, List.set_cons_succ]
 refine wpAnyH_take (i := 4) (oi := { dst := some 18, op := _, type := _, pos := _, after := _, guard := _ }) (v := .int .i64 (x.id : Int)) rfl (by kernel_rfl) (by kernel_rfl) (by kernel_rfl) (fun _ _ _ h => h) (Or.inl ⟨by rfl, by intro w hSw; (try dsimp only at hSw); go_simp⟩) hHeld ?_
 try simp only [Act.put, List.setIfInBounds_toArray, List.set_cons_zero, List.set_cons_succ]
 refine wpAnyH_ready (rs := [5]) (by kernel_rfl) (by simp) ?_
 refine AllReadyH.cons (o := { dst := some 19, op := _, type := _, pos := _, after := _, guard := _ }) rfl (fun K hK => ?_) AllReadyH.nil
 refine step_wanted' rfl ?_
 go_simp
 go_at_call 23
 refine (HKEY.out _).mono ?_
 rintro e w2 ⟨rfl, hk2⟩
 have H2 := Lib.hid (H1.out.quiet hk2)
 clear hk2
 refine hK.out _ _ (by exact UBx.of H2.out (List.mem_cons_self ..)) (fun hHeld1 => ?_)
 clear hK K
 try simp only [Act.put, List.setIfInBounds_toArray, List.set_cons_zero, List.set_cons_succ]
 refine wpAnyH_ready (rs := [6]) (by kernel_rfl) (by simp) ?_
 refine AllReadyH.cons (o := { dst := some 20, op := _, type := _, pos := _, after := _, guard := _ }) rfl (fun K hK => ?_) AllReadyH.nil
 refine step_wanted' rfl ?_
 go_simp
 go_at_call 57
 refine (HSZ.out _ _ H2.out).out.mono ?_
 rintro e w' ⟨rfl, rfl⟩
 refine hK.out _ _ (by exact UBx.of H2.out (List.mem_cons_self ..)) (fun hHeld2 => ?_)
 clear hK K
 try simp only [Act.put, List.setIfInBounds_toArray, List.set_cons_zero, List.set_cons_succ]
 refine wpAnyH_take (i := 7) (oi := { dst := some 13, op := _, type := _, pos := _, after := _, guard := _ }) (v := .tuple #[.int .i64 sz, .int .i64 th]) rfl (by kernel_rfl) (by kernel_rfl) (by kernel_rfl) (fun _ _ _ h => h) (Or.inl ⟨by rfl, by intro w hSw; (try dsimp only at hSw); go_simp⟩) hHeld2 ?_
 try simp only [Act.put, List.setIfInBounds_toArray, List.set_cons_zero, List.set_cons_succ]
 refine wpAnyH_take (i := 8) (oi := { dst := some 21, op := _, type := _, pos := _, after := _, guard := _ }) (v := .int .i64 sz) rfl (by kernel_rfl) (by kernel_rfl) (by kernel_rfl) (fun _ _ _ h => h) (Or.inl ⟨by rfl, by intro w hSw; (try dsimp only at hSw); go_simp⟩) hHeld2 ?_
 try simp only [Act.put, List.setIfInBounds_toArray, List.set_cons_zero, List.set_cons_succ]
 refine wpAnyH_take (i := 9) (oi := { dst := some 22, op := _, type := _, pos := _, after := _, guard := _ }) (v := .int .i64 th) rfl (by kernel_rfl) (by kernel_rfl) (by kernel_rfl) (fun _ _ _ h => h) (Or.inl ⟨by rfl, by intro w hSw; (try dsimp only at hSw); go_simp⟩) hHeld2 ?_
 try simp only [Act.put, List.setIfInBounds_toArray, List.set_cons_zero, List.set_cons_succ]
 refine wpAnyH_take (i := 10) (oi := { dst := some 9, op := _, type := _, pos := _, after := _, guard := _ }) (v := .int .i64 sz) rfl (by kernel_rfl) (by kernel_rfl) (by kernel_rfl) (fun _ _ _ h => h) (Or.inl ⟨by rfl, by intro w hSw; (try dsimp only at hSw); go_simp⟩) hHeld2 ?_
 try simp only [Act.put, List.setIfInBounds_toArray, List.set_cons_zero, List.set_cons_succ]
 refine wpAnyH_take (i := 11) (oi := { dst := some 10, op := _, type := _, pos := _, after := _, guard := _ }) (v := .int .i64 th) rfl (by kernel_rfl) (by kernel_rfl) (by kernel_rfl) (fun _ _ _ h => h) (Or.inl ⟨by rfl, by intro w hSw; (try dsimp only at hSw); go_simp⟩) hHeld2 ?_
 try simp only [Act.put, List.setIfInBounds_toArray, List.set_cons_zero, List.set_cons_succ]
 refine wpAnyH_done (by kernel_rfl) ?_ _
 clear H1 HSZ
 by_cases he : x.e.length = 32
 ·have hr1 := HR.out
  rw [if_pos he] at hr1
  subst hr1
  have HXI := Lib.hid (show (Tryz.prog.info? 39).map (·.size) = some (x.e.map u8v).length by rw [List.length_map, he]; kernel_rfl)
  have hrg : w2.rangeAt g 1 (x.e.map u8v) := fun k v hv => by
   have hrd := HEV.out w2 ((tRes w.heap.size d j t b nm T ++ uRes w.heap.size d u st t mp next L) ++ [rObj w.heap.size bq (bxO x.repo x.til 0)]) (by simpa [List.append_assoc] using H2.out)
   rcases hrd with ⟨e, _⟩ | ⟨a, c', e, _, _, h3⟩
   ·cases e
   ·cases e
    have := h3 k v hv
    rw [Addr.add_lit] at this
    exact this
  have HRG := Lib.hid hrg
  have HCL := Lib.hid (uclose_calls H2.out HG.out.1 (by have := HG.out.2.1; omega) HG.out.2.2 (id := (x.id : Int)) (nx := x.id) rfl HX.out.id1 he)
  rw [he]
  obtain ⟨cl, hcl⟩ : ∃ cl : List Value, cl = x.e.map u8v := ⟨_, rfl⟩
  rw [← hcl] at HXI HRG HCL
  have HKY2 := HKY.out
  rw [← HKY2] at HCL
  clear hrg hcl he HR HEV HX HB HTH HSZE H2 HKY HKY2
  go_wp2_with (first | (refine wpList_s2b rfl _ rfl g 1 c rfl ?_) | (refine wpList_load_mid rfl 39 _ rfl g 1 rfl cl _ HRG.out Tryz.underlying39 rfl HXI.out ?_))
  refine HCL.out.mono ?_
  rintro e w3 ⟨rfl, h3⟩
  have H3 := Lib.hid h3.dropEnd
  clear h3 HCL
  go_wp2_with fail
  go_ret
  exact ⟨rfl, .inl ⟨rfl, H3.out⟩⟩
 ·have hr1 := HR.out
  rw [if_neg he] at hr1
  have hel : ((x.e.length : Int) == 32) = false := by rw [beq_eq_false_iff_ne]; omega
  by_cases ht : th = 0
  ·subst ht
   rw [if_pos HTH.out.symm] at hr1
   obtain ⟨cb, hcb⟩ : ∃ cb, cb = contOf T.m ky := ⟨_, rfl⟩
   rw [← hcb] at hr1
   subst hr1
   clear HR
   have hth0 : thereOf T.m ky = 0 := HTH.out.symm
   have hszz : sz = (cb.length : Int) := by
    rw [HSZE.out, hcb]
    unfold sizeCode contOf
    rw [if_pos hth0]
   subst hszz
   have hcl : cb.length ≤ 1048576 := by rw [hcb]; exact HB.out
   have hrb : readBytes T.m ky 0 (cb.length : Int) = cb ∧ readCode T.m ky 0 (cb.length : Int) = 0 := by
    unfold readBytes readCode
    rw [if_pos hth0, if_pos hth0, if_neg (by omega), if_neg (by omega)]
    refine ⟨?_, rfl⟩
    show pieceOf (contOf T.m ky) 0 _ = cb
    rw [← hcb]
    exact open_piece cb
   have HRD := Lib.hid (show ∀ W (M : List (Res w.heap.size)), Own w W (tRes w.heap.size d j t b nm T ++ (uRes w.heap.size d u st t mp next L ++ M)) → ∃ ra rc w', Runs 55 #[.pointer (some ⟨d, 0, none⟩), .string ky, .int .i64 0, .int .i64 (cb.length : Int)] W (.tuple #[.slice ra cb.length rc, .int .i64 0]) w' ∧ Own w w' (tRes w.heap.size d j t b nm T ++ (uRes w.heap.size d u st t mp next L ++ (rRd w.heap.size (.slice ra cb.length rc) cb :: M))) from fun W M hW => by
    obtain ⟨v, w', hr, hB, hk, -⟩ := Own.read hW ky 0 (cb.length : Int) (by
     have : ((fget T.m.now ky).getD []).length = cb.length := by rw [hcb]; rfl
     omega)
    rw [hrb.1] at hB
    rw [hrb.2] at hr
    obtain ⟨ra, rc, rfl, -, -⟩ := hB.form
    exact ⟨ra, rc, w', hr, (hW.addRd hB hk).toEnd⟩)
   have HCL := Lib.hid hcl
   clear hcl hrb hcb hth0 HB HTH HSZE HEV he
   go_upto_region 6 with fail
   refine wp_region_held_drew (S := UBx u d st t next mp bq x.repo x.til 0) (by kernel_rfl) (by exact UBx.of H2.out.drew (List.mem_cons_self ..)) (fun hHeld => ?_)
   have H3 := Lib.hid H2.out.drew
   clear H2
   refine wpAnyH_take (i := 0) (oi := { dst := some 35, op := _, type := _, pos := _, after := _, guard := _ }) (v := .pointer (some ⟨u, 0, none⟩)) rfl (by kernel_rfl) (by kernel_rfl) (by kernel_rfl) (fun _ _ _ h => h) (Or.inl ⟨by rfl, by intro w hSw; (try dsimp only at hSw); go_simp⟩) hHeld ?_
   try simp only [Act.put, List.setIfInBounds_toArray, List.set_cons_zero, List.set_cons_succ]
   refine wpAnyH_take (i := 1) (oi := { dst := some 36, op := _, type := _, pos := _, after := _, guard := _ }) (v := .pointer (some ⟨u, 0, none⟩)) rfl (by kernel_rfl) (by kernel_rfl) (by kernel_rfl) (fun _ _ _ h => h) (Or.inl ⟨by rfl, by intro w hSw; (try dsimp only at hSw); go_simp⟩) hHeld ?_
   try simp only [Act.put, List.setIfInBounds_toArray, List.set_cons_zero, List.set_cons_succ]
   refine wpAnyH_take (i := 2) (oi := { dst := some 37, op := _, type := _, pos := _, after := _, guard := _ }) (v := .pointer (some ⟨u, 0, none⟩)) rfl (by kernel_rfl) (by kernel_rfl) (by kernel_rfl) (fun _ _ _ h => h) (Or.inl ⟨by rfl, by intro w hSw; (try dsimp only at hSw); go_simp⟩) hHeld ?_
   try simp only [Act.put, List.setIfInBounds_toArray, List.set_cons_zero, List.set_cons_succ]
   refine wpAnyH_take (i := 3) (oi := { dst := some 38, op := _, type := _, pos := _, after := _, guard := _ }) (v := .pointer (some ⟨d, 0, none⟩)) rfl (by kernel_rfl) (by kernel_rfl) (by kernel_rfl) (fun _ _ _ h => h) (Or.inl ⟨by rfl, by intro w hSw; (try dsimp only at hSw); (obtain ⟨⟨q0, q1, q2, q3, q4⟩, -⟩ := hSw; go_simp)⟩) hHeld ?_
   try simp only [Act.put, List.setIfInBounds_toArray, List.set_cons_zero, List.set_cons_succ]
   refine wpAnyH_take (i := 4) (oi := { dst := some 39, op := _, type := _, pos := _, after := _, guard := _ }) (v := .int .i64 (x.id : Int)) rfl (by kernel_rfl) (by kernel_rfl) (by kernel_rfl) (fun _ _ _ h => h) (Or.inl ⟨by rfl, by intro w hSw; (try dsimp only at hSw); go_simp⟩) hHeld ?_
   try simp only [Act.put, List.setIfInBounds_toArray, List.set_cons_zero, List.set_cons_succ]
   refine wpAnyH_take (i := 6) (oi := { dst := some 41, op := _, type := _, pos := _, after := _, guard := _ }) (v := .int .i64 (cb.length : Int)) rfl (by kernel_rfl) (by kernel_rfl) (by kernel_rfl) (fun _ _ _ h => h) (Or.inl ⟨by rfl, by intro w hSw; (try dsimp only at hSw); go_simp⟩) hHeld ?_
   try simp only [Act.put, List.setIfInBounds_toArray, List.set_cons_zero, List.set_cons_succ]
   refine wpAnyH_ready (rs := [5]) (by kernel_rfl) (by simp) ?_
   refine AllReadyH.cons (o := { dst := some 40, op := _, type := _, pos := _, after := _, guard := _ }) rfl (fun K hK => ?_) AllReadyH.nil
   refine step_wanted' rfl ?_
   go_simp
   go_at_call 23
   refine (HKEY.out _).mono ?_
   rintro e w3 ⟨rfl, hk3⟩
   have H4 := Lib.hid (H3.out.quiet hk3)
   clear hk3
   refine hK.out _ _ (by exact UBx.of H4.out (List.mem_cons_self ..)) (fun hHeld1 => ?_)
   clear hK K
   try simp only [Act.put, List.setIfInBounds_toArray, List.set_cons_zero, List.set_cons_succ]
   refine wpAnyH_ready (rs := [7]) (by kernel_rfl) (by simp) ?_
   refine AllReadyH.cons (o := { dst := some 42, op := _, type := _, pos := _, after := _, guard := _ }) rfl (fun K hK => ?_) AllReadyH.nil
   refine step_wanted' rfl ?_
   go_simp
   go_at_call 55
   obtain ⟨ra, rc, w4, hrn, h5⟩ := HRD.out _ _ H4.out
   refine hrn.out.mono ?_
   rintro e w' ⟨rfl, rfl⟩
   have H5 := Lib.hid h5
   clear h5
   refine hK.out _ _ (by exact UBx.of H5.out (by simp)) (fun hHeld2 => ?_)
   clear hK K
   try simp only [Act.put, List.setIfInBounds_toArray, List.set_cons_zero, List.set_cons_succ]
   refine wpAnyH_take (i := 8) (oi := { dst := some 34, op := _, type := _, pos := _, after := _, guard := _ }) (v := .tuple #[.slice ra cb.length rc, .int .i64 0]) rfl (by kernel_rfl) (by kernel_rfl) (by kernel_rfl) (fun _ _ _ h => h) (Or.inl ⟨by rfl, by intro w hSw; (try dsimp only at hSw); go_simp⟩) hHeld2 ?_
   try simp only [Act.put, List.setIfInBounds_toArray, List.set_cons_zero, List.set_cons_succ]
   refine wpAnyH_take (i := 9) (oi := { dst := some 43, op := _, type := _, pos := _, after := _, guard := _ }) (v := .slice ra cb.length rc) rfl (by kernel_rfl) (by kernel_rfl) (by kernel_rfl) (fun _ _ _ h => h) (Or.inl ⟨by rfl, by intro w hSw; (try dsimp only at hSw); go_simp⟩) hHeld2 ?_
   try simp only [Act.put, List.setIfInBounds_toArray, List.set_cons_zero, List.set_cons_succ]
   refine wpAnyH_take (i := 10) (oi := { dst := some 44, op := _, type := _, pos := _, after := _, guard := _ }) (v := .int .i64 0) rfl (by kernel_rfl) (by kernel_rfl) (by kernel_rfl) (fun _ _ _ h => h) (Or.inl ⟨by rfl, by intro w hSw; (try dsimp only at hSw); go_simp⟩) hHeld2 ?_
   try simp only [Act.put, List.setIfInBounds_toArray, List.set_cons_zero, List.set_cons_succ]
   refine wpAnyH_take (i := 11) (oi := { dst := some 11, op := _, type := _, pos := _, after := _, guard := _ }) (v := .slice ra cb.length rc) rfl (by kernel_rfl) (by kernel_rfl) (by kernel_rfl) (fun _ _ _ h => h) (Or.inl ⟨by rfl, by intro w hSw; (try dsimp only at hSw); go_simp⟩) hHeld2 ?_
   try simp only [Act.put, List.setIfInBounds_toArray, List.set_cons_zero, List.set_cons_succ]
   refine wpAnyH_take (i := 12) (oi := { dst := some 10, op := _, type := _, pos := _, after := _, guard := _ }) (v := .int .i64 0) rfl (by kernel_rfl) (by kernel_rfl) (by kernel_rfl) (fun _ _ _ h => h) (Or.inl ⟨by rfl, by intro w hSw; (try dsimp only at hSw); go_simp⟩) hHeld2 ?_
   try simp only [Act.put, List.setIfInBounds_toArray, List.set_cons_zero, List.set_cons_succ]
   refine wpAnyH_done (by kernel_rfl) ?_ _
   clear H3 H4 HRD hrn
   have h6 := H5.out.fromEnd2
   have c2 := cell_at (i := 2) (h6.at (List.mem_cons_self ..)).1 rfl
   have f2 := free_at (h6.at (List.mem_cons_self ..)).1 2
   simp only [List.getElem_toArray, List.getElem_cons_succ, List.getElem_cons_zero] at c2
   have h7 : Own w (w4.setCell ⟨bq, 2, none⟩ (.int .i64 (cb.length : Int))) (rObj w.heap.size bq (bxO x.repo x.til (cb.length : Int)) :: _) := h6.store 2 (.int .i64 (cb.length : Int))
   have H7 := Lib.hid h7.toEnd
   clear h6 h7 H5
   go_upto_region 10 with fail
   clear c2 f2
   generalize w4.setCell ⟨bq, 2, none⟩ (.int .i64 (cb.length : Int)) = w5 at *
   obtain ⟨w9, hrun, h9⟩ := H7.out.drew.enterR (s := ⟨(x.id : Int), x.repo, x.til, cb⟩) HPG.out
   obtain ⟨-, hlt9⟩ := H7.out.drew.rd (v := .slice ra cb.length rc) (l := cb) (by simp)
   obtain ⟨o1, ho1⟩ : ∃ o, o = stObj hWords (restOf 0 (List.replicate 64 0)) := ⟨_, rfl⟩
   rw [← ho1] at hrun
   have HDN := Lib.hid (show ∀ W, Runs 46 #[] W (.pointer (some ⟨W.heap.size, 0, none⟩)) (W.alloc o1) from fun W => by rw [ho1]; exact dnew_runs W)
   have HLT9 := Lib.hid hlt9
   have H9 := Lib.hid h9
   dsimp only at hrun
   have HRUN := Lib.hid hrun
   clear ho1 hlt9 h9 hrun
   refine wp_region_held_drew (S := UBx u d st t next mp bq x.repo x.til (cb.length : Int)) (by kernel_rfl) (by exact UBx.of (H7.out.drew) (List.mem_cons_self ..)) (fun hHeld => ?_)
   clear H7
   generalize w5.drew = w5d at *
   refine wpAnyH_take (i := 0) (oi := { dst := some 50, op := _, type := _, pos := _, after := _, guard := _ }) (v := .agg ([.string x.repo, .int .i64 x.til, .int .i64 (cb.length : Int)]).toArray) rfl (by kernel_rfl) (by kernel_rfl) (by kernel_rfl) (fun _ _ _ h => h) (yieldsIf_load_mid (by rfl) _ _ rfl (bq) (0) rfl ([.string x.repo, .int .i64 x.til, .int .i64 (cb.length : Int)]) _ (fun w' hk => hk.2) Tryz.underlying43 rfl HI3.out) hHeld ?_
   try simp only [Act.put, List.setIfInBounds_toArray, List.set_cons_zero, List.set_cons_succ]
   refine wpAnyH_ready (rs := [1]) (by kernel_rfl) (by simp) ?_
   refine AllReadyH.cons (o := { dst := some 51, op := _, type := _, pos := _, after := _, guard := _ }) rfl (fun K hK => ?_) AllReadyH.nil
   refine step_wanted' rfl ?_
   go_simp
   go_at_call 46
   refine (HDN.out _).out.mono ?_
   rintro e w' ⟨rfl, rfl⟩
   refine hK.out _ _ (by exact UBx.keep hHeld ((Keeps.refl _ _).alloc _)) (fun hHeld1 => ?_)
   clear hK K
   try simp only [Act.put, List.setIfInBounds_toArray, List.set_cons_zero, List.set_cons_succ]
   refine wpAnyH_take (i := 2) (oi := { dst := some 52, op := _, type := _, pos := _, after := _, guard := _ }) (v := .agg #[.string x.repo, .int .i64 x.til, .int .i64 (cb.length : Int), .pointer (some ⟨w5d.heap.size, 0, none⟩)]) rfl (by kernel_rfl) (by kernel_rfl) (by kernel_rfl) (fun _ _ _ h => h) (Or.inl ⟨by rfl, by intro w hSw; (try dsimp only at hSw); go_simp⟩) hHeld1 ?_
   try simp only [Act.put, List.setIfInBounds_toArray, List.set_cons_zero, List.set_cons_succ]
   refine wpAnyH_ready (rs := [3]) (by kernel_rfl) (by simp) ?_
   refine AllReadyH.cons (o := { dst := some 53, op := _, type := _, pos := _, after := _, guard := _ }) rfl (fun K hK => ?_) AllReadyH.nil
   refine step_wanted' rfl ?_
   go_simp
   refine hK.out _ _ (by exact UBx.keep hHeld1 ((Keeps.refl _ _).alloc _)) (fun hHeld2 => ?_)
   clear hK K
   try simp only [Act.put, List.setIfInBounds_toArray, List.set_cons_zero, List.set_cons_succ]
   refine wpAnyH_take (i := 4) (oi := { dst := some 12, op := _, type := _, pos := _, after := _, guard := _ }) (v := .pointer (some ⟨w5d.heap.size + 1, 0, none⟩)) rfl (by kernel_rfl) (by kernel_rfl) (by kernel_rfl) (fun _ _ _ h => h) (Or.inl ⟨by rfl, by intro w hSw; (try dsimp only at hSw); go_simp⟩) hHeld2 ?_
   try simp only [Act.put, List.setIfInBounds_toArray, List.set_cons_zero, List.set_cons_succ]
   refine wpAnyH_done (by kernel_rfl) ?_ _
   have hrun := HRUN.out
   obtain ⟨⟨-, -, -, -, c4⟩, -⟩ := hHeld2
   clear hHeld hHeld1 HRUN HDN
   go_upto_region 12 with fail
   clear hrun c4
   obtain ⟨-, -, -, c3⟩ := ses_cells (H9.out.at (List.mem_cons_self ..)).1
   have HSU := Lib.hid (H9.out.summed ((H9.out.rd (v := .slice ra cb.length rc) (l := cb) (by simp)).1) (fun y n c e hne => by have := HLT9.out y n c e hne; omega) (by dsimp only; have := HCL.out; omega))
   clear HLT9 H9
   go_wp2_with fail
   refine HSU.out.mono ?_
   rintro e w10 ⟨rfl, h10⟩
   have H10 := Lib.hid h10.dropEnd.dropEnd
   clear h10 HSU c3
   go_wp2_with fail
   go_ret
   exact ⟨rfl, .inr ⟨_, _, _, rfl, H10.out⟩⟩
  ·rw [if_neg (by rw [← HTH.out]; exact ht)] at hr1
   subst hr1
   have htb : (th != 0) = true := by simpa using ht
   clear HR HEV HX HB HTH HSZE ht he
   go_wp2_with fail
   go_ret
   exact ⟨rfl, .inl ⟨rfl, H2.out.dropEnd⟩⟩
end
end Go.Proofs.YtlcnhpjggjgnpaaGreatDoor
namespace Go.Proofs.YtlcnhpjggjgnpaaGreatDoor
set_option linter.unusedVariables false
set_option linter.unusedSimpArgs false
open Go.RowKit Go.MapKept
section
variable {w wr : World} {d u st t mp j b : Nat} {nm : ByteArray} {T : TM} {next : Int} {L L1 L2 : UL} {rs : List (Res w.heap.size)}
theorem Own.tab {W : World} {A : List (Res w.heap.size)} (h : Own w W (tRes w.heap.size d j t b nm T ++ A)) : ∃ F, W.heap[t]? = some (tabObj j b T.down) ∧ MapFs F W b T.fs := by
 obtain ⟨F, hF, -⟩ := h.mem (r := rMap w.heap.size b T.fs) (by simp [tRes])
 exact ⟨F, (h.at (b := t) (o := tabObj j b T.down) (by simp [tRes])).1, hF.2⟩
theorem sweepFrom_none (fs : FS) (m : DM) (g : Nat) : sweepFrom fs [] m g = if 0 < g then syncOf m else (0, m) := rfl
theorem sweepFrom_step {fs : FS} {l : List ByteArray} {k : Nat} {f : ByteArray} (hf : l[k]? = some f) (m : DM) (g : Nat) :
  sweepFrom fs (l.drop k) m g = if (fget fs f).isSome then sweepFrom fs (l.drop (k + 1)) m g else if (removeOf m f).1 = 0 then sweepFrom fs (l.drop (k + 1)) (removeOf m f).2 (g + 1) else removeOf m f := by
 obtain ⟨hk, rfl⟩ := List.getElem?_eq_some_iff.1 hf
 rw [List.drop_eq_getElem_cons hk, sweepFrom]
set_option maxRecDepth 100000 in
set_option maxHeartbeats 1000000 in
theorem usweep_calls {w0 : World} (h : Own w w0 (tRes w.heap.size d j t b nm T ++ (uRes w.heap.size d u st t mp next L ++ rs))) {n n' : Nat} (ht : Tidy T.m n n') (hn : n + n' + 20 < 549755813888) (hv : ∀ k, ((fget T.fs k).getD []).length ≤ 140737488355328) :
  Calls Tryz.prog 68 #[.pointer (some ⟨u, 0, none⟩)] w0 (ULPost w d j t b u st mp nm next L rs (sweepOf T)) := by
 obtain ⟨R, hR⟩ : ∃ R, sweepOf T = R := ⟨_, rfl⟩
 rw [hR]
 unfold sweepOf at hR
 obtain ⟨F, hdk, -⟩ := Own.disk (h : Own w w0 (rDisk w.heap.size d T.m :: _))
 obtain ⟨c0, -, -, -, -⟩ := u_cells (h.at (b := u) (o := uObj d st t next mp) (by simp [uRes])).1
 have HR := Lib.hid hR
 have H0 := Lib.hid h
 have HV := Lib.hid hv
 have HT := Lib.hid (And.intro ht hn)
 by_cases hdn : T.m.down = true
 ·have hr1 := HR.out
  rw [if_pos hdn] at hr1
  subst hr1
  have hup := up_runs hdk
  rw [show upOf T.m = 5 by unfold upOf; rw [hdn]; rfl] at hup
  have HN := Lib.hid (names_down ⟨#[117, 47]⟩ hup)
  clear h hdk ht hn hv hR HR HT HV hdn hup
  go_enter Tryz.func68, Tryz.ntmps68
  go_wp2_with fail
  refine HN.out.out.mono ?_
  rintro e w' ⟨rfl, rfl⟩
  go_wp2_with fail
  go_ret
  exact ⟨rfl, H0.out⟩
 have hr1 := HR.out
 rw [if_neg hdn] at hr1
 have hdn2 : T.m.down = false := by simpa using hdn
 have hnc := names_calls hdk hdU hdn2 ht.snow (fun p hp => by have := ht.names p hp; unfold maxLen; omega) (by have := ht.lnow; omega)
 have hnl : (namesOf T.m.now hdU).length ≤ n' := by
  unfold namesOf
  rw [List.length_map]
  exact Nat.le_trans (List.length_filter_le _ _) ht.lnow
 obtain ⟨ks, hks⟩ : ∃ ks, ks = namesOf T.m.now hdU := ⟨_, rfl⟩
 rw [← hks] at hnc hr1 hnl
 unfold hdU at hnc
 have HNC := Lib.hid hnc
 have HR := Lib.hid hr1
 have HNL := Lib.hid hnl
 clear h hdk ht hn hv hR hr1 hnc hks hdn hdn2 hnl
 go_enter Tryz.func68, Tryz.ntmps68
 go_wp2_with fail
 refine HNC.out.mono ?_
 rintro e w1 ⟨v, rfl, hst, hk1⟩
 have h1 := H0.out.addStrs hst hk1
 obtain ⟨ka, kc, rfl⟩ := hst.form
 have H1 := Lib.hid (Own.toEnd h1)
 clear hst hk1 h1 H0 HNC c0
 go_wp2_with fail
 go_loopw [5, 7, 8, 9, 10, 24] (fun gv _ _ _ _ iv wx => ∃ (k g : Nat) (m : DM), k ≤ ks.length ∧ g ≤ k ∧ gv = .int .i64 (g : Int) ∧ iv = .int .i64 (k : Int) ∧ sweepFrom T.fs ks T.m 0 = sweepFrom T.fs (ks.drop k) m g ∧ Good m (n + k) ∧ Own w wx (tRes w.heap.size d j t b nm { T with m := m } ++ (uRes w.heap.size d u st t mp next L ++ (rStrs w.heap.size (.slice ka ks.length kc) ks :: rs)))) (fun _ _ _ _ _ iv _ => ks.length - (intOf iv).toNat)
 case atStart => exact ⟨0, 0, T.m, Nat.zero_le _, Nat.le_refl _, rfl, rfl, rfl, HT.out.1.good, H1.out⟩
 case round =>
  obtain ⟨k, g, m, hk, hgk, rfl, rfl, hinv, hgd, ho⟩ := hrel
  have j0 : (0 : Int) ≤ k := by omega
  have HO := Lib.hid ho
  have HINV := Lib.hid hinv
  have HGD := Lib.hid hgd
  have HGK := Lib.hid hgk
  have i1 : (ks.length : Int) ≤ 549755813888 := by have := HNL.out; have := HT.out.2; omega
  obtain ⟨q0, -, q2, -, -⟩ := u_cells (ho.at (b := u) (o := uObj d st t next mp) (by simp [uRes])).1
  by_cases hlt : k < ks.length
  ·have j2 : (k : Int) < ks.length := by omega
   obtain ⟨f, hf⟩ : ∃ f, ks[k]? = some f := ⟨ks[k], List.getElem?_eq_getElem hlt⟩
   obtain ⟨g2, rfl, hc, -, -⟩ := (ho.strs (kv := .slice ka ks.length kc) (ks := ks) (by simp)).cell hf
   have hst := HINV.out
   rw [sweepFrom_step hf] at hst
   obtain ⟨F, hb, hm⟩ := ho.tab
   have hget := tget_calls hb hm f (HV.out f)
   have HGET := Lib.hid hget
   have HST := Lib.hid hst
   have HK1 := Lib.hid (show k + 1 ≤ ks.length from hlt)
   have HNL2 := Lib.hid (show ks.length ≤ n' from HNL.out)
   clear ho hinv hgd hgk hk hlt hst hb hm hget H1
   go_wp2_with fail
   refine HGET.out.mono ?_
   rintro e w2 ⟨v2, rfl, ho2, hk2⟩
   obtain ⟨va, vc, rfl, -, -⟩ := ho2.bytes.form
   have H2 := Lib.hid (HO.out.quiet hk2)
   obtain ⟨q0', -, q2', -, -⟩ := u_cells (H2.out.at (b := u) (o := uObj d st t next mp) (by simp [uRes])).1
   clear ho2 hk2 HGET HO hc hf q0 q2
   have hst := HST.out
   cases hi : (fget T.fs f).isSome with
   | true =>
    rw [hi, if_pos rfl] at hst
    have hrel : ∃ (k' g' : Nat) (m' : DM), k' ≤ ks.length ∧ g' ≤ k' ∧ Value.int .i64 (g : Int) = .int .i64 (g' : Int) ∧ Value.int .i64 ((k + 1 : Nat) : Int) = .int .i64 (k' : Int) ∧ sweepFrom T.fs ks T.m 0 = sweepFrom T.fs (ks.drop k') m' g' ∧ Good m' (n + k') ∧ Own w w2 (tRes w.heap.size d j t b nm { T with m := m' } ++ (uRes w.heap.size d u st t mp next L ++ (rStrs w.heap.size (.slice (some ⟨g2, 0, none⟩) ks.length kc) ks :: rs))) :=
     ⟨k + 1, g, m, HK1.out, by have := HGK.out; omega, rfl, rfl, hst, HGD.out.mono (by omega), H2.out⟩
    have HREL := Lib.hid hrel
    clear hst hi HST hrel H2
    go_wp2_with fail
    go_roundw
    case rel => exact HREL.out
    case measure => have := HK1.out; simp [intOf]; omega
   | false =>
    rw [hi, if_neg (by simp)] at hst
    obtain ⟨w3, hrem, h3⟩ := Own.remove H2.out f HGD.out.fuse (HGD.out.loose (by have := HT.out.2; have := HK1.out; have := HNL2.out; omega))
    obtain ⟨rm, hrm⟩ : ∃ rm, rm = removeOf m f := ⟨_, rfl⟩
    have hgr : Good rm.2 (n + (k + 1)) := by rw [hrm]; exact HGD.out.remove f
    change Runs 45 #[.pointer (some ⟨d, 0, none⟩), .string f] w2 (.int .i64 (removeOf m f).1) w3 at hrem
    change Own w w3 (rDisk w.heap.size d (removeOf m f).2 :: _) at h3
    rw [← hrm] at hst hrem h3
    obtain ⟨rc, rm2⟩ := rm
    dsimp only at hst hrem h3 hgr
    have H3 := Lib.hid (show Own w w3 (tRes w.heap.size d j t b nm { T with m := rm2 } ++ (uRes w.heap.size d u st t mp next L ++ (rStrs w.heap.size (.slice (some ⟨g2, 0, none⟩) ks.length kc) ks :: rs))) from h3)
    have HREM := Lib.hid hrem
    have HST := Lib.hid hst
    clear hst hi hrm hrem h3 H2 HGD
    go_wp2_with fail
    refine HREM.out.out.mono ?_
    rintro e w' ⟨rfl, rfl⟩
    clear HREM
    by_cases hc : rc = 0
    ·subst hc
     have hst := HST.out
     rw [if_pos rfl] at hst
     have hw : IntKind.i64.wrap ((g : Int) + 1) = ((g + 1 : Nat) : Int) := by rw [IntWalk.i64_in _ (by have := HGK.out; have := HK1.out; have := HNL2.out; have := HT.out.2; omega)]; omega
     have hrel : ∃ (k' g' : Nat) (m' : DM), k' ≤ ks.length ∧ g' ≤ k' ∧ Value.int .i64 ((g + 1 : Nat) : Int) = .int .i64 (g' : Int) ∧ Value.int .i64 ((k + 1 : Nat) : Int) = .int .i64 (k' : Int) ∧ sweepFrom T.fs ks T.m 0 = sweepFrom T.fs (ks.drop k') m' g' ∧ Good m' (n + k') ∧ Own w w3 (tRes w.heap.size d j t b nm { T with m := m' } ++ (uRes w.heap.size d u st t mp next L ++ (rStrs w.heap.size (.slice (some ⟨g2, 0, none⟩) ks.length kc) ks :: rs))) :=
      ⟨k + 1, g + 1, rm2, HK1.out, by have := HGK.out; omega, rfl, rfl, hst, hgr, H3.out⟩
     have HREL := Lib.hid hrel
     clear hst HST hrel H3 hgr q0' q2'
     go_wp2_with fail
     go_roundw
     case rel => exact HREL.out
     case measure => have := HK1.out; simp [intOf]; omega
    ·have hst := HST.out
     rw [if_neg hc] at hst
     have hcb : (rc != 0) = true := by simpa using hc
     have hr1 := HR.out
     rw [hst] at hr1
     subst hr1
     clear hst HST hc hgr q0' q2' HR HINV
     go_wp2_with fail
     go_ret
     exact ⟨rfl, H3.out.dropEnd⟩
  ·obtain rfl : k = ks.length := by omega
   have hst := HINV.out
   rw [List.drop_length, sweepFrom_none] at hst
   by_cases hg0 : 0 < g
   ·rw [if_pos hg0] at hst
    have j3 : decide ((0 : Int) < (g : Int)) = true := decide_eq_true (by omega)
    have hsy := Own.sync HO.out HGD.out.fuse (fun k c hc => (HGD.out.fits k c hc).1)
    obtain ⟨sr, hsr⟩ : ∃ sr, sr = syncOf m := ⟨_, rfl⟩
    change Calls _ _ _ _ (DOwn w d _ (syncOf m)) at hsy
    rw [← hsr] at hst hsy
    have hr1 := HR.out
    rw [hst] at hr1
    subst hr1
    have HSY := Lib.hid hsy
    clear ho hinv hgd hgk hk hst hsy hsr HR HINV H1 HO j3
    go_wp2_with fail
    refine HSY.out.mono ?_
    rintro e w3 ⟨rfl, h3⟩
    have H3 := Lib.hid (show Own w w3 (tRes w.heap.size d j t b nm { T with m := sr.2 } ++ (uRes w.heap.size d u st t mp next L ++ (rStrs w.heap.size (.slice ka ks.length kc) ks :: rs))) from h3)
    clear h3 HSY
    go_wp2_with fail
    go_ret
    exact ⟨rfl, H3.out.dropEnd⟩
   ·rw [if_neg hg0] at hst
    have j3 : decide ((0 : Int) < (g : Int)) = false := decide_eq_false (by omega)
    have hr1 := HR.out
    rw [hst] at hr1
    subst hr1
    obtain rfl : g = 0 := by omega
    clear ho hinv hgd hgk hk hst HR HINV hg0 H1 q0 q2 j3
    go_wp2_with fail
    go_ret
    exact ⟨rfl, HO.out.dropEnd⟩
end
end Go.Proofs.YtlcnhpjggjgnpaaGreatDoor
