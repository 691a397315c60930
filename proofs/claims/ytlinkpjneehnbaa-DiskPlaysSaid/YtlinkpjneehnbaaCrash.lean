/- The contracts of New, maps.Clone and Crash. -/
import Derived.Test.YtlinkpjneehnbaaUsed
import Derived.Shelf.SlMaps.Clone
namespace Go.Proofs.Ytlinkpjneehnbaa
open Go.RowKit Go.MapKept
open Go.ChangeMaps (setBlock)

set_option maxRecDepth 100000 in
theorem mclone_runs (w : World) (b : Nat) (es : Array MapEntry) (clock : Nat) (hb : w.heap[b]? = some (.map es clock)) :
    Runs 79 #[.map (some b)] w (.map (some w.heap.size)) (w.alloc (.map es clock)) := by
  have hq := fun w => run_eql_map_nil_sl (P := Try.prog) w 122 _ _ (some b) Try.underlying122
  unfold Runs
  go_enter Try.func79, Try.ntmps79
  go_wp2
  rw [run_callFunc_extern Try.func106 (by kernel_rfl) (by kernel_rfl) (by kernel_rfl) (e := Extern.MapsClone.clone) (by kernel_rfl), run_maps_clone_sl w 122 hb]
  simp only [Result.andThen]
  rw [Oper.upon_value]
  go_wp2
  rw [run_typeAssert_map_sl _ 122 20 _ _ _ Try.underlying122]
  simp only [Result.andThen]
  rw [Oper.upon_value]
  go_wp2
  go_ret
  exact ⟨rfl, rfl⟩

/-- A copy holds what the map holds. -/
theorem MapFs.copy {F : Nat → Prop} {w : World} {b : Nat} {fs : FS} (h : MapFs F w b fs) :
    ∃ w', Runs 79 #[.map (some b)] w (.map (some w.heap.size)) w' ∧ MapFs F w' w.heap.size fs ∧ Keeps (fun _ => False) w w' ∧ w'.heap.size = w.heap.size + 1 := by
  obtain ⟨es, clock, l, hb, hs, hr, hp⟩ := h
  refine ⟨_, mclone_runs w b es clock hb, ⟨es, clock, l, heap_alloc_new w _, hs, ?_, hp⟩, (Keeps.refl _ w).alloc _, by simp⟩
  exact hr.mono (fun e p hep => ⟨hep.1, hep.2.keep ((KeepU8.refl F w).alloc _) (fun _ h _ => h)⟩)

def newOf (room : Int) : DM := { room := room, now := [], sure := [], loose := [], fuse := -1, down := false }

theorem new_bad (w : World) (room : Int) (h : room < 0 ∨ 67108864 < room) : Runs 18 #[.int .i64 room] w (.tuple #[.pointer none, .int .i64 1]) w := by
  unfold Runs
  by_cases h0 : room < 0
  · clear h
    go_enter Try.func18, Try.ntmps18
    go_wp2
    go_ret2
    exact ⟨rfl, rfl⟩
  · have h1 : 67108864 < room := by omega
    clear h
    go_enter Try.func18, Try.ntmps18
    go_wp2
    go_ret2
    exact ⟨rfl, rfl⟩
theorem new_raw (w : World) (room : Int) (h0 : 0 ≤ room) (h1 : room ≤ 67108864) :
    Runs 18 #[.int .i64 room] w (.tuple #[.pointer (some ⟨w.heap.size + 2, 0, none⟩), .int .i64 0])
      (((w.alloc (.map #[] 0)).alloc (.map #[] 0)).alloc (.cells #[.int .i64 room, .map (some w.heap.size), .map (some (w.heap.size + 1)), .slice none 0 0, .int .i64 (-1), .bool false] 125)) := by
  have hmm := @run_makeMap Try.prog
  unfold Runs
  go_enter Try.func18, Try.ntmps18
  go_wp2
  go_ret2
  exact ⟨rfl, rfl⟩

/-- A new disk, all of it new. -/
theorem new_runs (w : World) (room : Int) (h0 : 0 ≤ room) (h1 : room ≤ 67108864) :
    ∃ d w', Runs 18 #[.int .i64 room] w (.tuple #[.pointer (some ⟨d, 0, none⟩), .int .i64 0]) w' ∧ DiskIs (Ext (fun _ => False) w w') w' d (newOf room) ∧ Keeps (fun _ => False) w w' := by
  have hmap : ∀ (F : Nat → Prop) (w : World) (b : Nat), w.heap[b]? = some (.map #[] 0) → MapFs F w b [] := fun F w b hb => ⟨#[], 0, [], hb, stamped_empty 0, trivial, List.Perm.refl _⟩
  refine ⟨_, _, new_raw w room h0 h1, ⟨w.heap.size, w.heap.size + 1, .slice none 0 0, ?_, .inr ⟨by omega, by simp⟩, .inr ⟨by omega, by simp <;> omega⟩, .inr ⟨by omega, by simp <;> omega⟩, by omega, hmap _ _ _ ?_, hmap _ _ _ ?_, ⟨[], trivial, World.ownsRow_nil _ _ _ _, fun b hb => by cases hb⟩, ?_⟩, (((Keeps.refl _ w).alloc _).alloc _).alloc _⟩
  · have e2 : w.heap.size + 2 = ((w.alloc (.map #[] 0)).alloc (.map #[] 0)).heap.size := by simp
    rw [e2]
    exact heap_alloc_new ((w.alloc _).alloc _) _
  · rw [Below.heap_alloc _ _ _ (by simp; omega), Below.heap_alloc _ _ _ (by simp)]; exact heap_alloc_new w _
  · have e2 : w.heap.size + 1 = (w.alloc (.map #[] 0)).heap.size := by simp
    rw [Below.heap_alloc _ _ _ (by simp), e2]; exact heap_alloc_new (w.alloc _) _
  · intro b hb
    rcases hb with hb | hb
    · exact hb.elim
    · exact hb.2
end Go.Proofs.Ytlinkpjneehnbaa
