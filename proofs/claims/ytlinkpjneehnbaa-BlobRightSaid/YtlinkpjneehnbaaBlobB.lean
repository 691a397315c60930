/- The store of bytes: lay. -/
import Derived.Test.YtlinkpjneehnbaaBlobA
import Derived.Test.YtlinkpjneehnbaaPkJ
import Derived.Defers
import Derived.Deep.RegionHeld3
namespace Go.Proofs.Ytlinkpjneehnbaa
set_option linter.unusedVariables false
set_option linter.unusedSimpArgs false
open Go.RowKit Go.MapKept

section
variable {w wr : World} {d : Nat} {m : DM} {rs : List (Res w.heap.size)}
set_option maxRecDepth 100000 in
set_option maxHeartbeats 1000000 in
theorem blay1_calls {c : Int} {b6 b3 st : Nat} (h : Own w wr (rDisk w.heap.size d m :: rObj w.heap.size b6 (.cells #[.int .i64 c] 25) :: rs)) {n : Nat} (hg : Good m n) (hn : n < 1099511627776) (hb : BoxIn rs b3 st d) (u : FrameMode) :
    CallsD Try.prog 114 #[.pointer (some ⟨b6, 0, none⟩), .pointer (some ⟨b3, 0, none⟩)] u wr fun e u' w' => u' = u ∧ (e = .returned (.tuple #[]) ∧ Own w w' (rDisk w.heap.size d (unfull tmpB (c, m)).2 :: rObj w.heap.size b6 (.cells #[.int .i64 (unfull tmpB (c, m)).1] 25) :: rs)) := by
  have hb' : BoxIn (rObj w.heap.size b6 (.cells #[.int .i64 c] 25) :: rs) b3 st d := ⟨List.mem_cons_of_mem _ hb.1, List.mem_cons_of_mem _ hb.2⟩
  obtain ⟨c3, cs⟩ := hb'.cells h
  have c6 := cell_at (i := 0) (h.at (b := b6) (o := .cells #[.int .i64 c] 25) (by simp)).1 rfl
  have hcl := bclear_calls h (t := tmpB) hg hn
  unfold unfull
  by_cases hc : c = 4
  · subst hc
    simp only [if_true]
    have HC := Lib.hid hcl
    unfold tmpB at HC ⊢
    generalize clearOf m ⟨#[98, 43]⟩ = q at HC ⊢
    obtain ⟨qc, qm⟩ := q
    clear hcl h hb' hg
    by_cases hq : qc = 0
    · subst hq
      simp only [if_true]
      go_enter_d Try.func114, Try.ntmps114
      go_wp2_with fail
      refine HC.out.mono ?_; rintro e w' ⟨rfl, h1⟩
      have H1 := Lib.hid h1
      clear h1 HC
      go_wp2_with fail
      go_end0
      exact ⟨rfl, H1.out⟩
    · simp only [hq, if_false]
      have hq2 : (qc != 0) = true := by simpa using hq
      clear hq
      go_enter_d Try.func114, Try.ntmps114
      go_wp2_with fail
      refine HC.out.mono ?_; rintro e w' ⟨rfl, h1⟩
      have hc6 := (h1.at (b := b6) (o := .cells #[.int .i64 4] 25) (by simp)).1
      have k6 := cell_at (i := 0) hc6 rfl
      have f6 := free_at hc6 0
      have h2 := (h1.swap.store 0 (.int .i64 qc)).swap
      have H2 := Lib.hid h2
      clear h1 HC hc6 h2
      go_wp2_with fail
      go_end0
      exact ⟨rfl, H2.out⟩
  · simp only [hc, if_false]
    have hcb : (c == 4) = false := by simpa using hc
    have H := Lib.hid h
    clear hcl h hb' hg hc
    go_enter_d Try.func114, Try.ntmps114
    go_wp2_with fail
    go_end0
    exact ⟨rfl, H.out⟩
end
def bSteps (dg p : List UInt8) : List (DM → Int × DM) :=
  [fun m => clearOf m tmpB, fun m => createOf m tmpB, fun m => appendOf m tmpB p, syncOf, fun m => renameOf m tmpB (fileOf dg), syncOf]
def bLayOf (m : DM) (dg p : List UInt8) : Int × DM := unfull tmpB (runSteps (bSteps dg p) m)
theorem bSteps_good (dg p : List UInt8) : ∀ f ∈ bSteps dg p, ∀ m j, Good m j → Good (f m).2 (j + 1) := by
  intro f hf m j h
  simp only [bSteps, List.mem_cons, List.not_mem_nil, or_false] at hf
  rcases hf with rfl | rfl | rfl | rfl | rfl | rfl
  · exact clear_good h _
  · exact h.create _
  · exact h.append _ _
  · exact h.sync.mono (by omega)
  · exact h.rename _ _
  · exact h.sync.mono (by omega)
def bFid : Nat → FuncId
  | 0 => 116
  | 1 => 117
  | 2 => 118
  | 4 => 119
  | _ => 24
def bFst (d : Nat) : Nat → Array Value
  | 3 => #[.pointer (some ⟨d, 0, none⟩)]
  | 5 => #[.pointer (some ⟨d, 0, none⟩)]
  | _ => #[]
def bCap (b3 b4 b5 : Nat) : Nat → Array Value
  | 0 => #[.pointer (some ⟨b3, 0, none⟩)]
  | 1 => #[.pointer (some ⟨b3, 0, none⟩)]
  | 2 => #[.pointer (some ⟨b3, 0, none⟩), .pointer (some ⟨b5, 0, none⟩)]
  | 4 => #[.pointer (some ⟨b3, 0, none⟩), .pointer (some ⟨b4, 0, none⟩)]
  | _ => #[]
def bRow (d b3 b4 b5 : Nat) : Array Value :=
  #[.func (.func 116) #[] #[.pointer (some ⟨b3, 0, none⟩)], .func (.func 117) #[] #[.pointer (some ⟨b3, 0, none⟩)], .func (.func 118) #[] #[.pointer (some ⟨b3, 0, none⟩), .pointer (some ⟨b5, 0, none⟩)],
    .func (.func 24) #[.pointer (some ⟨d, 0, none⟩)] #[], .func (.func 119) #[] #[.pointer (some ⟨b3, 0, none⟩), .pointer (some ⟨b4, 0, none⟩)], .func (.func 24) #[.pointer (some ⟨d, 0, none⟩)] #[]]
theorem bRow_at (d b3 b4 b5 k : Nat) (hk : k < 6) : (bRow d b3 b4 b5)[k]? = some (.func (.func (bFid k)) (bFst d k) (bCap b3 b4 b5 k)) := by
  match k, hk with
  | 0, _ => rfl
  | 1, _ => rfl
  | 2, _ => rfl
  | 3, _ => rfl
  | 4, _ => rfl
  | 5, _ => rfl
  | k + 6, hk => omega
theorem bFid_enters (k : Nat) (args : Array Value) (w : World) : (callFunc (bFid k) args).run Try.prog w = .ok (.enter (bFid k) args) w := by
  match k with
  | 0 => exact enters_at Try.func116 (by kernel_rfl) rfl args w
  | 1 => exact enters_at Try.func117 (by kernel_rfl) rfl args w
  | 2 => exact enters_at Try.func118 (by kernel_rfl) rfl args w
  | 3 => exact enters_at Try.func24 (by kernel_rfl) rfl args w
  | 4 => exact enters_at Try.func119 (by kernel_rfl) rfl args w
  | k + 5 => exact enters_at Try.func24 (by kernel_rfl) rfl args w
theorem res_err {fn : Func} {p : Tmp} (h : fn.results = #[.cell p 25]) (tmps : Array Value) (w : World) (g : Nat) (x : Int) (hp : tmps.getD p undef = .pointer (some ⟨g, 0, none⟩)) (hc : w.cell? ⟨g, 0, none⟩ = some (.int .i64 x)) :
    (results fn tmps).run Try.prog w = .ok (.int .i64 x) w := by
  have hp' : tmps[p]?.getD undef = .pointer (some ⟨g, 0, none⟩) := by simpa using hp
  simp [results, h, hp', asAddr, go_sem, hc]
/-- What lay's loop holds to: behind k steps. -/
structure BLayRel (w wx : World) (d : Nat) (m : DM) (dg p : List UInt8) (n b6 : Nat) (RS : List (Res w.heap.size)) (k : Nat) : Prop where
  ex : ∃ m' j, Own w wx (rDisk w.heap.size d m' :: rObj w.heap.size b6 (.cells #[.int .i64 0] 25) :: RS) ∧ Good m' j ∧ j ≤ n + k ∧ runSteps ((bSteps dg p).drop k) m' = runSteps (bSteps dg p) m
theorem blay_step {w wx : World} {d : Nat} {m' : DM} {dg p : List UInt8} {RS : List (Res w.heap.size)} (ho : Own w wx (rDisk w.heap.size d m' :: RS)) {j : Nat} (hg : Good m' j) (hj : j < 1099511627776) {b3 b4 b5 st : Nat} {pv : Value} (hl : dg.length = 32)
    (hb : BoxIn RS b3 st d) (h4 : rObj w.heap.size b4 (.cells (dg.map u8v).toArray 58) ∈ RS) (h5 : rObj w.heap.size b5 (.cells #[pv] 31) ∈ RS) (hp : Reads wx pv p) {k : Nat} {f : DM → Int × DM} (hf : (bSteps dg p)[k]? = some f) :
    Calls Try.prog (bFid k) (bFst d k ++ bCap b3 b4 b5 k) wx (DOwn w d RS (f m')) := by
  match k, hf with
  | 0, hf => simp only [bSteps, List.getElem?_cons_zero, Option.some.injEq] at hf; subst hf; exact blay2_calls ho hg hj hb
  | 1, hf => simp only [bSteps, List.getElem?_cons_succ, List.getElem?_cons_zero, Option.some.injEq] at hf; subst hf; exact blay3_calls ho hg hj hb
  | 2, hf => simp only [bSteps, List.getElem?_cons_succ, List.getElem?_cons_zero, Option.some.injEq] at hf; subst hf; exact blay4_calls ho hg hj hb h5 hp
  | 3, hf => simp only [bSteps, List.getElem?_cons_succ, List.getElem?_cons_zero, Option.some.injEq] at hf; subst hf; exact ho.sync hg.fuse hg.fits1
  | 4, hf => simp only [bSteps, List.getElem?_cons_succ, List.getElem?_cons_zero, Option.some.injEq] at hf; subst hf; exact blay5_calls ho hl hg hj hb h4
  | 5, hf => simp only [bSteps, List.getElem?_cons_succ, List.getElem?_cons_zero, Option.some.injEq] at hf; subst hf; exact ho.sync hg.fuse hg.fits1
  | k + 6, hf => simp [bSteps] at hf
set_option maxRecDepth 100000 in
set_option maxHeartbeats 2000000 in
theorem blay_calls {w w0 : World} {d st : Nat} {m : DM} {rs : List (Res w.heap.size)} (h : Own w w0 (rDisk w.heap.size d m :: rs)) {n : Nat} (hg : Good m n) (hn : n + 10 < 1099511627776) (hst : rObj w.heap.size st (.cells #[.pointer (some ⟨d, 0, none⟩)] 146) ∈ rs)
    {dg p : List UInt8} (hl : dg.length = 32) {pv : Value} (hp : ∀ W m', Own w W (rDisk w.heap.size d m' :: rs) → Reads W pv p) :
    Calls Try.prog 89 #[.pointer (some ⟨st, 0, none⟩), .agg (dg.map u8v).toArray, pv] w0 (DOwn w d rs (bLayOf m dg p)) := by
  obtain ⟨a, c, rfl, _, _⟩ := (hp w0 m h).form
  obtain ⟨ds, hds⟩ : ∃ ds : Array Value, ds = (dg.map u8v).toArray := ⟨_, rfl⟩
  obtain ⟨pl, hpl⟩ : ∃ pl, pl = p.length := ⟨_, rfl⟩
  rw [← hpl] at hp
  rw [← hds, ← hpl]
  have h1 := (((h.alloc2 (.cells #[.pointer (some ⟨st, 0, none⟩)] 54)).alloc2 (.cells ds 58)).alloc2 (.cells #[.slice a pl c] 31)).alloc2 (.cells #[.int .i64 0] 25)
  simp only [World.size_alloc] at h1
  obtain ⟨RS, hRS⟩ : ∃ RS : List (Res w.heap.size), RS = rObj w.heap.size (w0.heap.size + 1 + 1) (.cells #[.slice a pl c] 31) :: rObj w.heap.size (w0.heap.size + 1) (.cells ds 58) :: rObj w.heap.size w0.heap.size (.cells #[.pointer (some ⟨st, 0, none⟩)] 54) :: rs := ⟨_, rfl⟩
  have hsc := (h1.at (b := st) (o := .cells #[.pointer (some ⟨d, 0, none⟩)] 146) (by simp [hst])).1
  have cs := cell_at (i := 0) hsc rfl
  have c3 := cell_at (i := 0) (h1.at (b := w0.heap.size) (o := .cells #[.pointer (some ⟨st, 0, none⟩)] 54) (by simp)).1 rfl
  have hmf : ∀ (fn : Fn) (first cap : Array Value) (w : World), (Instr.makeFunc fn first cap).run Try.prog w = .ok (.func fn first cap) w := fun _ _ _ _ => rfl
  rw [← hRS] at h1
  have H1 := Lib.hid h1
  have HDS := Lib.hid hds
  have HRS := Lib.hid hRS
  have HPL := Lib.hid hpl
  have HG := Lib.hid hg
  have HN := Lib.hid hn
  have HP := Lib.hid hp
  clear h h1 hsc hds hRS hpl hg hn hp
  go_enter_defers Try.func89, Try.ntmps89
  go_wp2_with fail
  change _ = some (Value.pointer _) at c3 cs
  generalize ((((w0.alloc (.cells #[.pointer (some ⟨st, 0, none⟩)] 54)).alloc (.cells ds 58)).alloc (.cells #[.slice a pl c] 31)).alloc (.cells #[.int .i64 0] 25)) = w4 at H1 c3 cs ⊢
  have hk : ∀ o, ((w4.drew.alloc o).cell? ⟨w0.heap.size, 0, none⟩ = some (.pointer (some ⟨st, 0, none⟩)) ∧ (w4.drew.alloc o).cell? ⟨st, 0, none⟩ = some (.pointer (some ⟨d, 0, none⟩))) := fun o => by
    have hk4 : Keeps (fun _ => False) w4 (w4.drew.alloc o) := ((Keeps.refl _ w4).drew).alloc o
    exact ⟨hk4.at0 c3, hk4.at0 cs⟩
  refine wp_region_noPanic ?_
  refine wp_region_held_drew (S := fun w' => w'.cell? ⟨w0.heap.size, 0, none⟩ = some (.pointer (some ⟨st, 0, none⟩)) ∧ w'.cell? ⟨st, 0, none⟩ = some (.pointer (some ⟨d, 0, none⟩))) (by kernel_rfl) ⟨c3, cs⟩ (fun hHeld => ?_)
  refine wpAnyH_take (i := 0) (v := .func (.func 116) #[] #[.pointer (some ⟨w0.heap.size, 0, none⟩)]) rfl (by kernel_rfl) (by kernel_rfl) (by kernel_rfl) (fun _ _ _ h => h) (Or.inl ⟨by rfl, by intro w hSw; (try dsimp only at hSw); go_simp⟩) hHeld ?_
  try simp only [Act.put, List.setIfInBounds_toArray, List.set_cons_zero, List.set_cons_succ]
  refine wpAnyH_take (i := 1) (v := .func (.func 117) #[] #[.pointer (some ⟨w0.heap.size, 0, none⟩)]) rfl (by kernel_rfl) (by kernel_rfl) (by kernel_rfl) (fun _ _ _ h => h) (Or.inl ⟨by rfl, by intro w hSw; (try dsimp only at hSw); go_simp⟩) hHeld ?_
  try simp only [Act.put, List.setIfInBounds_toArray, List.set_cons_zero, List.set_cons_succ]
  refine wpAnyH_take (i := 2) (v := .func (.func 118) #[] #[.pointer (some ⟨w0.heap.size, 0, none⟩), .pointer (some ⟨w0.heap.size + 1 + 1, 0, none⟩)]) rfl (by kernel_rfl) (by kernel_rfl) (by kernel_rfl) (fun _ _ _ h => h) (Or.inl ⟨by rfl, by intro w hSw; (try dsimp only at hSw); go_simp⟩) hHeld ?_
  try simp only [Act.put, List.setIfInBounds_toArray, List.set_cons_zero, List.set_cons_succ]
  refine wpAnyH_take (i := 3) (v := .pointer (some ⟨st, 0, none⟩)) rfl (by kernel_rfl) (by kernel_rfl) (by kernel_rfl) (fun _ _ _ h => h) (Or.inl ⟨by rfl, by intro w hSw; (try dsimp only at hSw); go_simp⟩) hHeld ?_
  try simp only [Act.put, List.setIfInBounds_toArray, List.set_cons_zero, List.set_cons_succ]
  refine wpAnyH_take (i := 4) (v := .pointer (some ⟨st, 0, none⟩)) rfl (by kernel_rfl) (by kernel_rfl) (by kernel_rfl) (fun _ _ _ h => h) (Or.inl ⟨by rfl, by intro w hSw; (try dsimp only at hSw); go_simp⟩) hHeld ?_
  try simp only [Act.put, List.setIfInBounds_toArray, List.set_cons_zero, List.set_cons_succ]
  refine wpAnyH_take (i := 5) (v := .pointer (some ⟨st, 0, none⟩)) rfl (by kernel_rfl) (by kernel_rfl) (by kernel_rfl) (fun _ _ _ h => h) (Or.inl ⟨by rfl, by intro w hSw; (try dsimp only at hSw); go_simp⟩) hHeld ?_
  try simp only [Act.put, List.setIfInBounds_toArray, List.set_cons_zero, List.set_cons_succ]
  refine wpAnyH_take (i := 6) (v := .pointer (some ⟨d, 0, none⟩)) rfl (by kernel_rfl) (by kernel_rfl) (by kernel_rfl) (fun _ _ _ h => h) (Or.inl ⟨by rfl, by intro w hSw; (try dsimp only at hSw); go_simp⟩) hHeld ?_
  try simp only [Act.put, List.setIfInBounds_toArray, List.set_cons_zero, List.set_cons_succ]
  refine wpAnyH_take (i := 7) (v := .func (.func 24) #[.pointer (some ⟨d, 0, none⟩)] #[]) rfl (by kernel_rfl) (by kernel_rfl) (by kernel_rfl) (fun _ _ _ h => h) (Or.inl ⟨by rfl, by intro w hSw; (try dsimp only at hSw); go_simp⟩) hHeld ?_
  try simp only [Act.put, List.setIfInBounds_toArray, List.set_cons_zero, List.set_cons_succ]
  refine wpAnyH_take (i := 8) (v := .func (.func 119) #[] #[.pointer (some ⟨w0.heap.size, 0, none⟩), .pointer (some ⟨w0.heap.size + 1, 0, none⟩)]) rfl (by kernel_rfl) (by kernel_rfl) (by kernel_rfl) (fun _ _ _ h => h) (Or.inl ⟨by rfl, by intro w hSw; (try dsimp only at hSw); go_simp⟩) hHeld ?_
  try simp only [Act.put, List.setIfInBounds_toArray, List.set_cons_zero, List.set_cons_succ]
  refine wpAnyH_take (i := 9) (v := .pointer (some ⟨st, 0, none⟩)) rfl (by kernel_rfl) (by kernel_rfl) (by kernel_rfl) (fun _ _ _ h => h) (Or.inl ⟨by rfl, by intro w hSw; (try dsimp only at hSw); go_simp⟩) hHeld ?_
  try simp only [Act.put, List.setIfInBounds_toArray, List.set_cons_zero, List.set_cons_succ]
  refine wpAnyH_take (i := 10) (v := .pointer (some ⟨st, 0, none⟩)) rfl (by kernel_rfl) (by kernel_rfl) (by kernel_rfl) (fun _ _ _ h => h) (Or.inl ⟨by rfl, by intro w hSw; (try dsimp only at hSw); go_simp⟩) hHeld ?_
  try simp only [Act.put, List.setIfInBounds_toArray, List.set_cons_zero, List.set_cons_succ]
  refine wpAnyH_take (i := 11) (v := .pointer (some ⟨st, 0, none⟩)) rfl (by kernel_rfl) (by kernel_rfl) (by kernel_rfl) (fun _ _ _ h => h) (Or.inl ⟨by rfl, by intro w hSw; (try dsimp only at hSw); go_simp⟩) hHeld ?_
  try simp only [Act.put, List.setIfInBounds_toArray, List.set_cons_zero, List.set_cons_succ]
  refine wpAnyH_take (i := 12) (v := .pointer (some ⟨d, 0, none⟩)) rfl (by kernel_rfl) (by kernel_rfl) (by kernel_rfl) (fun _ _ _ h => h) (Or.inl ⟨by rfl, by intro w hSw; (try dsimp only at hSw); go_simp⟩) hHeld ?_
  try simp only [Act.put, List.setIfInBounds_toArray, List.set_cons_zero, List.set_cons_succ]
  refine wpAnyH_take (i := 13) (v := .func (.func 24) #[.pointer (some ⟨d, 0, none⟩)] #[]) rfl (by kernel_rfl) (by kernel_rfl) (by kernel_rfl) (fun _ _ _ h => h) (Or.inl ⟨by rfl, by intro w hSw; (try dsimp only at hSw); go_simp⟩) hHeld ?_
  try simp only [Act.put, List.setIfInBounds_toArray, List.set_cons_zero, List.set_cons_succ]
  refine wpAnyH_take (i := 16) (v := .int .i64 0) rfl (by kernel_rfl) (by kernel_rfl) (by kernel_rfl) (fun _ _ _ h => h) (Or.inl ⟨by rfl, by intro w hSw; (try dsimp only at hSw); go_simp⟩) hHeld ?_
  try simp only [Act.put, List.setIfInBounds_toArray, List.set_cons_zero, List.set_cons_succ]
  refine wpAnyH_ready (rs := [14]) (by kernel_rfl) (by simp) ?_
  refine AllReadyH.cons rfl (fun K hK => ?_) AllReadyH.nil
  go_simp
  refine hK.out _ _ (hk _) (fun hHeld14 => ?_)
  clear hK K
  try simp only [Act.put, List.setIfInBounds_toArray, List.set_cons_zero, List.set_cons_succ]
  refine wpAnyH_ready (rs := [15]) (by kernel_rfl) (by simp) ?_
  refine AllReadyH.cons rfl (fun K hK => ?_) AllReadyH.nil
  go_simp
  refine hK.out _ _ (hHeld14) (fun hHeld15 => ?_)
  clear hK K
  try simp only [Act.put, List.setIfInBounds_toArray, List.set_cons_zero, List.set_cons_succ]
  refine wpAnyH_done (by kernel_rfl) ?_ _
  refine NoPanic.normal ?_
  clear hHeld hHeld14 hHeld15 hk c3 cs hmf
  go_wp2_with fail
  obtain ⟨RR, hRR⟩ : ∃ RR : List (Res w.heap.size), RR = rObj w.heap.size w4.heap.size (.cells (bRow d w0.heap.size (w0.heap.size + 1) (w0.heap.size + 1 + 1)) 36) :: RS := ⟨_, rfl⟩
  have h5 : Own w (w4.alloc (.cells (bRow d w0.heap.size (w0.heap.size + 1) (w0.heap.size + 1 + 1)) 36)).drew (rDisk w.heap.size d m :: rObj w.heap.size (w0.heap.size + 1 + 1 + 1) (.cells #[.int .i64 0] 25) :: RR) := by
    rw [hRR]
    exact (H1.out.alloc2 _).drew.perm (List.Perm.cons _ (List.Perm.swap ..))
  change Code.wp _ _ _ _ (w4.alloc (.cells (bRow d w0.heap.size (w0.heap.size + 1) (w0.heap.size + 1 + 1)) 36)).drew
  have hrow : rObj w.heap.size w4.heap.size (.cells (bRow d w0.heap.size (w0.heap.size + 1) (w0.heap.size + 1 + 1)) 36) ∈ RR := by rw [hRR]; simp
  have hbox : BoxIn RR w0.heap.size st d := by rw [hRR, HRS.out]; exact ⟨by simp, by simp [hst]⟩
  have hb4 : rObj w.heap.size (w0.heap.size + 1) (.cells (dg.map u8v).toArray 58) ∈ RR := by rw [hRR, HRS.out, ← HDS.out]; simp
  have hb5 : rObj w.heap.size (w0.heap.size + 1 + 1) (.cells #[.slice a pl c] 31) ∈ RR := by rw [hRR, HRS.out]; simp
  have hback : ∀ W m' c', Own w W (rDisk w.heap.size d m' :: rObj w.heap.size (w0.heap.size + 1 + 1 + 1) (.cells #[.int .i64 c'] 25) :: RR) → Own w W (rDisk w.heap.size d m' :: rs) := fun W m' c' ho => by
    rw [hRR, HRS.out] at ho
    exact ho.drop2.drop2.drop2.drop2.drop2
  have hrel0 : BLayRel w (w4.alloc (.cells (bRow d w0.heap.size (w0.heap.size + 1) (w0.heap.size + 1 + 1)) 36)).drew d m dg p n (w0.heap.size + 1 + 1 + 1) RR 0 := ⟨m, n, h5, HG.out, by omega, by simp⟩
  have HREL0 := Lib.hid hrel0
  have HROW := Lib.hid hrow
  have HBOX := Lib.hid hbox
  have HB4 := Lib.hid hb4
  have HB5 := Lib.hid hb5
  have HBK := Lib.hid hback
  have HL := Lib.hid hl
  clear h5 hrel0 hrow hbox hb4 hb5 hback hRR hl hst H1
  generalize (w4.alloc (.cells (bRow d w0.heap.size (w0.heap.size + 1) (w0.heap.size + 1 + 1)) 36)).drew = w5 at HREL0 ⊢
  generalize w4.heap.size = g at HROW ⊢
  go_loopw [26] (fun i wx => ∃ k : Nat, i = .int .i64 (k : Int) ∧ k ≤ 6 ∧ BLayRel w wx d m dg p n (w0.heap.size + 1 + 1 + 1) RR k) (fun i _ => 6 - (intOf i).toNat)
  case atStart => exact ⟨0, rfl, by omega, HREL0.out⟩
  case round =>
    obtain ⟨k, rfl, hk, ⟨m', j, ho, hgj, hj, hrun⟩⟩ := hrel
    clear HREL0
    have h6a := (ho.at (b := w0.heap.size + 1 + 1 + 1) (o := .cells #[.int .i64 0] 25) (by simp)).1
    by_cases hlt : k < 6
    · have hcell := cell_at (ho.at (b := g) (o := .cells (bRow d w0.heap.size (w0.heap.size + 1) (w0.heap.size + 1 + 1)) 36) (by simp [HROW.out])).1 (bRow_at d w0.heap.size (w0.heap.size + 1) (w0.heap.size + 1 + 1) k hlt)
      obtain ⟨f, hf⟩ : ∃ f, (bSteps dg p)[k]? = some f := ⟨_, List.getElem?_eq_getElem (by simpa [bSteps] using hlt)⟩
      have hn := HN.out
      have hst := blay_step ho hgj (by omega) (b3 := w0.heap.size) (b4 := w0.heap.size + 1) (b5 := w0.heap.size + 1 + 1) (st := st) (pv := .slice a pl c) HL.out ⟨List.mem_cons_of_mem _ HBOX.out.1, List.mem_cons_of_mem _ HBOX.out.2⟩ (List.mem_cons_of_mem _ HB4.out) (List.mem_cons_of_mem _ HB5.out) (HP.out _ _ (HBK.out _ _ _ ho)) hf
      have hgd := bSteps_good dg p f (List.mem_of_getElem? hf) m' j hgj
      have hdr := runSteps_drop hf m'
      rw [hrun] at hdr
      have hent := bFid_enters k (bFst d k ++ bCap w0.heap.size (w0.heap.size + 1) (w0.heap.size + 1 + 1) k) wr
      generalize bFid k = fi at hcell hst hent
      generalize bFst d k = fs at hcell hst hent
      generalize bCap w0.heap.size (w0.heap.size + 1) (w0.heap.size + 1 + 1) k = ca at hcell hst hent
      generalize f m' = r at hst hgd hdr
      obtain ⟨rc, rm⟩ := r
      have HST := Lib.hid hst
      have HGD := Lib.hid hgd
      have HDR := Lib.hid hdr
      have HX := Lib.hid (⟨hlt, hj⟩ : k < 6 ∧ j ≤ n + k)
      have j0 : (0 : Int) ≤ k := by omega
      have j1 : (k : Int) < 6 := by omega
      clear hst hgd hdr hf ho hgj hj hrun h6a hn hlt hk
      go_wp2_with fail
      refine HST.out.mono ?_
      rintro e w1 ⟨rfl, h1⟩
      simp only at h1
      have hc6 := (h1.at (b := w0.heap.size + 1 + 1 + 1) (o := .cells #[.int .i64 0] 25) (by simp)).1
      have k6 := cell_at (i := 0) hc6 rfl
      have f6 := free_at hc6 0
      have h2 := (h1.swap.store 0 (.int .i64 rc)).swap
      have H2 := Lib.hid h2
      clear h1 h2 hc6 HST hcell hent
      by_cases hr0 : rc = 0
      · subst hr0
        have hdr := HDR.out
        simp only [if_true] at hdr
        have HNEW := Lib.hid (⟨rm, j + 1, H2.out, HGD.out, by have := HX.out; omega, hdr.symm⟩ : ∃ m' j, Own w _ (rDisk w.heap.size d m' :: rObj w.heap.size (w0.heap.size + 1 + 1 + 1) (.cells #[.int .i64 0] 25) :: RR) ∧ Good m' j ∧ j ≤ n + (k + 1) ∧ runSteps ((bSteps dg p).drop (k + 1)) m' = runSteps (bSteps dg p) m)
        clear hdr H2 HDR HGD
        go_wp2_with fail
        go_roundw
        case rel => exact ⟨k + 1, rfl, HX.out.1, ⟨HNEW.out⟩⟩
        case measure => have := HX.out; simp [intOf]; omega
      · have hdr := HDR.out
        simp only [hr0, if_false] at hdr
        have hb0 : (rc != 0) = true := by simpa using hr0
        have HD := Lib.hid hdr
        clear hdr HDR hr0
        go_wp2_with fail
        have h3 : Own w _ (rDisk w.heap.size d rm :: rObj w.heap.size (w0.heap.size + 1 + 1 + 1) (.cells #[.int .i64 rc] 25) :: RR) := (H2.out.swap.store 0 (.int .i64 rc)).swap
        refine leaves_cons (f := 114) (args := #[.pointer (some ⟨w0.heap.size + 1 + 1 + 1, 0, none⟩), .pointer (some ⟨w0.heap.size, 0, none⟩)]) (by simp) (by simp [go_sem]) ?_
        refine (blay1_calls h3 HGD.out (by have := HX.out; have := HN.out; omega) HBOX.out _).mono ?_
        rintro e u' w'' ⟨rfl, rfl, h4⟩
        refine ⟨_, res_err Try.results89 _ w'' (w0.heap.size + 1 + 1 + 1) _ rfl (cell_at (i := 0) (h4.at (b := w0.heap.size + 1 + 1 + 1) (List.mem_cons_of_mem _ (List.mem_cons_self ..))).1 rfl), ?_⟩
        unfold bLayOf
        rw [HD.out]
        exact ⟨rfl, HBK.out _ _ _ h4⟩
    · obtain rfl : k = 6 := by omega
      have hend : runSteps (bSteps dg p) m = (0, m') := by rw [← hrun]; simp [bSteps, runSteps]
      have k6 := cell_at (i := 0) h6a rfl
      have f6 := free_at h6a 0
      have h3 : Own w (wr.setCell ⟨w0.heap.size + 1 + 1 + 1, 0, none⟩ (.int .i64 0)) (rDisk w.heap.size d m' :: rObj w.heap.size (w0.heap.size + 1 + 1 + 1) (.cells #[.int .i64 0] 25) :: RR) := (ho.swap.store 0 (.int .i64 0)).swap
      have H3 := Lib.hid h3
      have HE := Lib.hid hend
      have HGJ := Lib.hid hgj
      have HJ := Lib.hid hj
      rw [show ((6 : Nat) : Int) = 6 from rfl]
      clear h3 hend hgj hj ho hrun h6a hlt hk
      go_wp2_with fail
      refine leaves_cons (f := 114) (args := #[.pointer (some ⟨w0.heap.size + 1 + 1 + 1, 0, none⟩), .pointer (some ⟨w0.heap.size, 0, none⟩)]) (by simp) (by simp [go_sem]) ?_
      refine (blay1_calls H3.out HGJ.out (by have := HJ.out; have := HN.out; omega) HBOX.out _).mono ?_
      rintro e u' w'' ⟨rfl, rfl, h4⟩
      refine ⟨_, res_err Try.results89 _ w'' (w0.heap.size + 1 + 1 + 1) _ rfl (cell_at (i := 0) (h4.at (b := w0.heap.size + 1 + 1 + 1) (List.mem_cons_of_mem _ (List.mem_cons_self ..))).1 rfl), ?_⟩
      unfold bLayOf
      rw [HE.out]
      exact ⟨rfl, HBK.out _ _ _ h4⟩
theorem blay_good {m : DM} {n : Nat} (h : Good m n) (dg p : List UInt8) : Good (bLayOf m dg p).2 (n + 7) := unfull_good (runSteps_good (K := 1) _ (bSteps_good dg p) h) _
end Go.Proofs.Ytlinkpjneehnbaa
