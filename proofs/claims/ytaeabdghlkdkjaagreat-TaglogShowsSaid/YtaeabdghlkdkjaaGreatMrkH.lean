/- merkle's Check. -/
import Derived.Test.YtaeabdghlkdkjaaGreatMrkK
namespace Go.Proofs.YtaeabdghlkdkjaaGreat
set_option linter.unusedVariables false
open Go.RowKit Go.MapKept

/-- What Check tells of a place of a tree. -/
def CheckPost (w : World) (root : Dg) (I last : Nat) (leaf : Dg) (way : List Dg) (e : Ending) (w' : World) : Prop :=
  ∃ D ok, ClimbIs I last leaf way D ok ∧ e = .returned (.bool (ok && decide (D = root))) ∧ Keeps (fun _ => False) w w'
set_option maxRecDepth 100000 in
set_option maxHeartbeats 2000000 in
theorem check_calls {w : World} {n I : Nat} (hI : I < n) (hn : n ≤ 4611686018427387904) {root leaf : Dg} (hr : root.length = 32) (hl : leaf.length = 32) {v : Value} {way : List Dg} (h : DgIn w v way) :
    Calls Tryz.prog 44 #[.agg (root.map u8v).toArray, .int .i64 (n : Int), .int .i64 (I : Int), .agg (leaf.map u8v).toArray, v] w (CheckPost w root I (n - 1) leaf way) := by
  obtain ⟨va, vc, rfl, -, -⟩ := id h.form
  obtain ⟨rl, hrl⟩ : ∃ rl : Array Value, rl = (root.map u8v).toArray := ⟨_, rfl⟩
  obtain ⟨cl, hcl⟩ : ∃ cl : Array Value, cl = (leaf.map u8v).toArray := ⟨_, rfl⟩
  have hkw : Keeps (fun _ => False) w ((w.alloc (.cells rl 83)).alloc (.cells cl 83)) := ((Keeps.refl _ w).alloc _).alloc _
  have hb5 : ((w.alloc (.cells rl 83)).alloc (.cells cl 83)).heap[w.heap.size]? = some (.cells rl 83) := ((Keeps.refl (fun _ => False) _).alloc _).at (heap_alloc_new w _) (fun e => e)
  have hb8 : ((w.alloc (.cells rl 83)).alloc (.cells cl 83)).heap[w.heap.size + 1]? = some (.cells cl 83) := by
    have := heap_alloc_new (w.alloc (.cells rl 83)) (.cells cl 83)
    rw [World.size_alloc] at this; exact this
  have hcb := climb_calls hI hn hl (h.keep hkw)
  rw [← hcl] at hcb
  rw [← hrl, ← hcl]
  have hrz : rl.size = 32 := by rw [hrl]; simp [hr]
  have hcz : cl.size = 32 := by rw [hcl]; simp [hl]
  have HRI := Lib.hid (dig_info hrz)
  have HCI := Lib.hid (dig_info hcz)
  have HB5 := Lib.hid hb5
  have HB8 := Lib.hid hb8
  have HCB := Lib.hid hcb
  have HRL := Lib.hid (⟨hrl, hr⟩ : rl = (root.map u8v).toArray ∧ root.length = 32)
  have HKW := Lib.hid hkw
  have i0 : (0 : Int) ≤ I := by omega
  have i1 : (I : Int) < n := by omega
  obtain ⟨P, hP⟩ : ∃ P, CheckPost w root I (n - 1) leaf way = P := ⟨_, rfl⟩
  have HP := Lib.hid hP
  rw [hP]
  clear h hkw hb5 hb8 hcb hrl hcl hrz hcz hI hn hr hl hP
  go_enter Tryz.func44, Tryz.ntmps44
  go_wp2_with (first | (refine wpList_load_row rfl 83 _ rfl (w.heap.size + 1) rfl 83 cl (0, 0) _ HB8.out Tryz.underlying83 rfl HCI.out ?_))
  refine HCB.out.mono ?_
  rintro e w3 ⟨D, ok, hD, rfl, hcl, hk3⟩
  obtain ⟨dl, hdl⟩ : ∃ dl : Array Value, dl = (D.map u8v).toArray := ⟨_, rfl⟩
  rw [← hdl]
  have hdz : dl.size = 32 := by rw [hdl]; simp [hD]
  have hdo : dl.all (·.oneCell') = true := by rw [hdl]; exact bytes_one _
  have hb5' : ((w3.alloc (.cells zeroC 83)).setRow w3.heap.size dl).heap[w.heap.size]? = some (.cells rl 83) := by
    have h1 := hk3.at HB5.out (fun e => e)
    have h2 := lt_of_heap h1
    exact (keeps_setRow _ _ _).at (((Keeps.refl (fun _ => False) _).alloc _).at h1 (fun e => e)) (fun e => by omega)
  have hb11 := setRow_heap (w3.alloc (.cells zeroC 83)) w3.heap.size _ dl 83 _ (heap_alloc_new w3 (.cells zeroC 83))
  have hkf : Keeps (fun _ => False) w ((w3.alloc (.cells zeroC 83)).setRow w3.heap.size dl) := ((HKW.out.trans hk3 (fun _ _ e => e)).trans ((Keeps.refl _ w3).alloc _) (fun _ _ e => e)).trans (keeps_setRow _ _ _) (fun b hb e => by
    have h1 := lt_of_heap (hk3.at HB5.out (fun e => e))
    omega)
  have heq := fun W => dig_eq D root hD HRL.out.2 W
  rw [← hdl, ← HRL.out.1] at heq
  have HF := Lib.hid (show P (.returned (.bool (ok && decide (D = root)))) ((w3.alloc (.cells zeroC 83)).setRow w3.heap.size dl) by rw [← HP.out]; exact ⟨D, ok, hcl, rfl, hkf⟩)
  have HDI := Lib.hid (dig_info hdz)
  have HDO := Lib.hid hdo
  have HDZ := Lib.hid (show zeroC.size = dl.size by rw [hdz]; kernel_rfl)
  have HNB := Lib.hid (heap_alloc_new w3 (.cells zeroC 83))
  have HB5' := Lib.hid hb5'
  have HB11 := Lib.hid hb11
  generalize decide (D = root) = bd at heq HF
  clear hdl hdz hdo hb5' hb11 hkf hk3 hcl HCB HKW HB8 HB5
  cases ok with
  | false =>
    go_wp2_with (first | (refine wpList_store_row rfl 83 _ _ rfl w3.heap.size dl rfl rfl 83 _ HNB.out HDI.out HDZ.out HDO.out ?_))
    exact HF.out
  | true =>
    go_wp2_with (first | (refine wpList_store_row rfl 83 _ _ rfl w3.heap.size dl rfl rfl 83 _ HNB.out HDI.out HDZ.out HDO.out ?_) | (refine wpList_load_rowG (by rfl) 83 _ rfl w3.heap.size rfl 83 dl (0, 0) _ HB11.out Tryz.underlying83 rfl HDI.out ?_) | (refine wpList_load_rowG (by rfl) 83 _ rfl w.heap.size rfl 83 rl (0, 0) _ HB5'.out Tryz.underlying83 rfl HRI.out ?_))
    exact HF.out
end Go.Proofs.YtaeabdghlkdkjaaGreat
