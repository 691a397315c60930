/- The digest: the rounds' words, and a new state. -/
import Derived.Test.YtaeabdghlkdkjaaGreatDigB
import Derived.Laws.Rows
import Derived.Laws.Tables
import Derived.Deep.WholeRow
namespace Go.Proofs.YtaeabdghlkdkjaaGreat
set_option linter.unusedVariables false
open Go.RowKit Go.MapKept

def kWords : List Int := [
  0x428a2f98, 0x71374491, 0xb5c0fbcf, 0xe9b5dba5, 0x3956c25b, 0x59f111f1, 0x923f82a4, 0xab1c5ed5,
  0xd807aa98, 0x12835b01, 0x243185be, 0x550c7dc3, 0x72be5d74, 0x80deb1fe, 0x9bdc06a7, 0xc19bf174,
  0xe49b69c1, 0xefbe4786, 0x0fc19dc6, 0x240ca1cc, 0x2de92c6f, 0x4a7484aa, 0x5cb0a9dc, 0x76f988da,
  0x983e5152, 0xa831c66d, 0xb00327c8, 0xbf597fc7, 0xc6e00bf3, 0xd5a79147, 0x06ca6351, 0x14292967,
  0x27b70a85, 0x2e1b2138, 0x4d2c6dfc, 0x53380d13, 0x650a7354, 0x766a0abb, 0x81c2c92e, 0x92722c85,
  0xa2bfe8a1, 0xa81a664b, 0xc24b8b70, 0xc76c51a3, 0xd192e819, 0xd6990624, 0xf40e3585, 0x106aa070,
  0x19a4c116, 0x1e376c08, 0x2748774c, 0x34b0bcb5, 0x391c0cb3, 0x4ed8aa4a, 0x5b9cca4f, 0x682e6ff3,
  0x748f82ee, 0x78a5636f, 0x84c87814, 0x8cc70208, 0x90befffa, 0xa4506ceb, 0xbef9a3f7, 0xc67178f2]
def kCells : Array Value := #[.int .u32 1116352408, .int .u32 1899447441, .int .u32 3049323471, .int .u32 3921009573, .int .u32 961987163, .int .u32 1508970993, .int .u32 2453635748, .int .u32 2870763221, .int .u32 3624381080, .int .u32 310598401, .int .u32 607225278, .int .u32 1426881987, .int .u32 1925078388, .int .u32 2162078206, .int .u32 2614888103, .int .u32 3248222580, .int .u32 3835390401, .int .u32 4022224774, .int .u32 264347078, .int .u32 604807628, .int .u32 770255983, .int .u32 1249150122, .int .u32 1555081692, .int .u32 1996064986, .int .u32 2554220882, .int .u32 2821834349, .int .u32 2952996808, .int .u32 3210313671, .int .u32 3336571891, .int .u32 3584528711, .int .u32 113926993, .int .u32 338241895, .int .u32 666307205, .int .u32 773529912, .int .u32 1294757372, .int .u32 1396182291, .int .u32 1695183700, .int .u32 1986661051, .int .u32 2177026350, .int .u32 2456956037, .int .u32 2730485921, .int .u32 2820302411, .int .u32 3259730800, .int .u32 3345764771, .int .u32 3516065817, .int .u32 3600352804, .int .u32 4094571909, .int .u32 275423344, .int .u32 430227734, .int .u32 506948616, .int .u32 659060556, .int .u32 883997877, .int .u32 958139571, .int .u32 1322822218, .int .u32 1537002063, .int .u32 1747873779, .int .u32 1955562222, .int .u32 2024104815, .int .u32 2227730452, .int .u32 2361852424, .int .u32 2428436474, .int .u32 2756734187, .int .u32 3204031479, .int .u32 3329325298]
theorem kCells_eq : kCells = (kWords.map u32v).toArray := by kernel_rfl
theorem wpList_build_as {P : Program} {ops : Array Oper} {rest : List Oper} {o : Oper} {a : Act} {w : World} {Q : Exit → Act → World → Prop} (hg : o.guard = none) (t : TypeId) (parts : Array (Nat × Operand)) (ho : o.op = .build t parts) (cells : Array Value)
    (hf : P.built t (parts.map fun (i, x) => (i, a.eval x)).toList = some cells) (h : wpList P ops Q rest (a.put o.dst (.agg cells)) w) : wpList P ops Q (o :: rest) a w :=
  wpList_build hg t parts ho (by rw [hf]; rfl) (by rw [hf]; exact h)
set_option maxRecDepth 100000 in
set_option maxHeartbeats 2000000 in
theorem rounds_runs (w : World) : Runs 174 #[] w (.agg kCells) (w.alloc (.cells kCells 243)) := by
  unfold Runs
  go_enter Tryz.func174, Tryz.ntmps174
  go_wp2_with (first | (refine wpList_build_as rfl 243 _ rfl kCells (by kernel_rfl) ?_) | (refine wpList_store_row rfl 243 (.tmp 0) (.tmp 1) rfl w.heap.size kCells rfl rfl 243 _ (heap_alloc_new w _) (by kernel_rfl) (by kernel_rfl) (by kernel_rfl) ?_))
  rw [World.setRow_alloc_new]
  refine bodyPost_ret (results_cell_row Tryz.results174 _ _ w.heap.size 243 kCells (0, 0) _ rfl (heap_alloc_new w _) Tryz.underlying243 rfl (by kernel_rfl)) rfl ?_
  exact ⟨rfl, rfl⟩
/-- The rounds' words, laid into a variable. -/
theorem kbox (w : World) : ∃ w1, (∀ Z : Array Value, Z.size = 64 → (storeCells ⟨w.heap.size + 1, 0, none⟩ kCells.toList 0).run Tryz.prog ((w.alloc (.cells kCells 243)).alloc (.cells Z 243)) = .ok () w1) ∧ Keeps (fun _ => False) w w1 ∧ w1.heap.size = w.heap.size + 2 ∧ w1.heap[w.heap.size + 1]? = some (arrObj kWords 243) := by
  refine ⟨(w.alloc (.cells kCells 243)).alloc (.cells kCells 243), fun Z hZ => ?_, ((Keeps.refl _ w).alloc _).alloc _, by simp, ?_⟩
  · have h := run_storeCells_new (P := Tryz.prog) (w.alloc (.cells kCells 243)) 243 Z kCells (by kernel_rfl) (hZ.trans (by kernel_rfl)) (by kernel_rfl)
    rw [World.size_alloc] at h
    exact h
  · rw [arrObj, ← kCells_eq]; exact heap_alloc2_new w _ _
def hWords : List Int := [0x6a09e667, 0xbb67ae85, 0x3c6ef372, 0xa54ff53a, 0x510e527f, 0x9b05688c, 0x1f83d9ab, 0x5be0cd19]
def restOf (n : Int) (tail : List UInt8) : List Value := .int .u64 n :: tail.map u8v
set_option maxRecDepth 100000 in
theorem dnew_runs (w : World) : Runs 159 #[] w (.pointer (some ⟨w.heap.size, 0, none⟩)) (w.alloc (stObj hWords (restOf 0 (List.replicate 64 0)))) := by
  unfold Runs
  go_enter Tryz.func159, Tryz.ntmps159
  go_wp2_with fail
  go_ret
  exact ⟨rfl, congrArg w.alloc (by kernel_rfl)⟩
end Go.Proofs.YtaeabdghlkdkjaaGreat
