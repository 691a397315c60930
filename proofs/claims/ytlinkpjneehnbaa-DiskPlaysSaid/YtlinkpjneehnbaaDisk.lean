/- The disk: its model, what it is in memory, and the contracts of its small functions. -/
import Derived.Test.YtlinkpjneehnbaaAppend
import Derived.Test.YtlinkpjneehnbaaProg
import Derived.StillTailTactics
import Derived.Deep.QuietTactic
import Derived.BigQuiet
import Derived.Deep.RegionHeld3
import Derived.Deep.RegionLaw
namespace Go.Proofs.Ytlinkpjneehnbaa
open Go.RowKit Go.MapKept
open Go.ChangeMaps (setBlock)

/-- A change. -/
structure Ch where
  kind : Int
  a : ByteArray
  b : ByteArray
  p : List UInt8

/-- The disk's model. -/
structure DM where
  room : Int
  now : FS
  sure : FS
  loose : List Ch
  fuse : Int
  down : Bool

def doCh (fs : FS) (c : Ch) : FS :=
  if c.kind = 0 then fput fs c.a []
  else if c.kind = 1 then fput fs c.a ((fget fs c.a).getD [] ++ c.p)
  else if c.kind = 2 then fdel fs c.a
  else if c.kind = 3 then (if c.a = c.b then fput fs c.b ((fget fs c.a).getD []) else fdel (fput fs c.b ((fget fs c.a).getD [])) c.a)
  else fs

def used : FS → Nat
  | [] => 0
  | p :: l => p.2.length + used l

def chCells : List Value → List Ch → List Value
  | p :: ps, c :: cs => .int .i64 c.kind :: .string c.a :: .string c.b :: p :: chCells ps cs
  | _, _ => []

/-- The slice v is a row of these changes, all in blocks of F. -/
def ChsAt (F : Nat → Prop) (w : World) (v : Value) (cs : List Ch) : Prop :=
  ∃ ps : List Value, Rel2 (fun p c => Bytes F w p c.p) ps cs ∧ w.ownsRow 0 129 4 v cs.length (chCells ps cs) ∧ ∀ b, v.ownBlock = some b → F b

/-- Block d is a disk that reads as m; all that it has lies in blocks of F. -/
structure DiskAt (F : Nat → Prop) (w : World) (d bn bs : Nat) (vl : Value) (m : DM) : Prop where
  blk : w.heap[d]? = some (.cells #[.int .i64 m.room, .map (some bn), .map (some bs), vl, .int .i64 m.fuse, .bool m.down] 125 (0, 0))
  fd : F d
  fbn : F bn
  fbs : F bs
  ne : bn ≠ bs
  now : MapFs F w bn m.now
  sure : MapFs F w bs m.sure
  loose : ChsAt F w vl m.loose
  lt : ∀ b, F b → b < w.heap.size
def DiskIs (F : Nat → Prop) (w : World) (d : Nat) (m : DM) : Prop := ∃ bn bs vl, DiskAt F w d bn bs vl m

theorem ChsAt.keep {F G : Nat → Prop} {w w' : World} {v : Value} {cs : List Ch} (h : ChsAt F w v cs) (hk : KeepU8 F w w') (hr : ∀ b, v.ownBlock = some b → w'.heap[b]? = w.heap[b]?) (hFG : ∀ b, F b → b < w.heap.size → G b) : ChsAt G w' v cs := by
  obtain ⟨ps, h1, h2, h3⟩ := h
  refine ⟨ps, h1.mono (fun p c hpc => hpc.keep hk hFG), ?_, fun b hb => hFG b (h3 b hb) (h2.lt b hb).2⟩
  obtain ⟨hl, hs⟩ := h2
  refine ⟨hl, hs.imp id ?_⟩
  rintro ⟨g, cap, cur, rfl, hg, hb, rest⟩
  exact ⟨g, cap, cur, rfl, hg, (hr g rfl).trans hb, rest⟩

/-- A world in which all of F's blocks are as they were. -/
theorem DiskAt.keep {F : Nat → Prop} {w w' : World} {d bn bs : Nat} {vl : Value} {m : DM} (h : DiskAt F w d bn bs vl m) (hk : ∀ b, F b → w'.heap[b]? = w.heap[b]?) : DiskAt F w' d bn bs vl m := by
  have hu : KeepU8 F w w' := fun g cs fz hF hb => (hk g hF).trans hb
  refine ⟨(hk d h.fd).trans h.blk, h.fd, h.fbn, h.fbs, h.ne, h.now.keep (hk _ h.fbn) hu (fun _ h _ => h), h.sure.keep (hk _ h.fbs) hu (fun _ h _ => h), ?_, ?_⟩
  · obtain ⟨ps, h1, h2, h3⟩ := h.loose
    exact h.loose.keep hu (fun b hb => hk b (h3 b hb)) (fun _ h _ => h)
  · intro b hb
    have := h.lt b hb
    have e := hk b hb
    rw [Array.getElem?_eq_getElem this] at e
    exact (Array.getElem?_eq_some_iff.1 e).1
theorem DiskIs.keep {F : Nat → Prop} {w w' : World} {d : Nat} {m : DM} (h : DiskIs F w d m) (hk : ∀ b, F b → w'.heap[b]? = w.heap[b]?) : DiskIs F w' d m := by
  obtain ⟨bn, bs, vl, h⟩ := h
  exact ⟨bn, bs, vl, h.keep hk⟩
theorem DiskIs.lt {F : Nat → Prop} {w : World} {d : Nat} {m : DM} (h : DiskIs F w d m) : ∀ b, F b → b < w.heap.size := by
  obtain ⟨bn, bs, vl, h⟩ := h
  exact h.lt
theorem DiskIs.keeps {F G : Nat → Prop} {w w' : World} {d : Nat} {m : DM} (h : DiskIs F w d m) (hk : Keeps G w w') (hn : ∀ b, F b → ¬ G b) : DiskIs F w' d m :=
  h.keep (fun b hb => hk.block b (h.lt b hb) (hn b hb))

theorem zero_bytes (w : World) : (zeroValue 31).run Try.prog w = .ok (.slice none 0 0) w := by kernel_rfl

/-- The disk's cells. -/
structure DCells (w : World) (d bn bs : Nat) (vl : Value) (m : DM) : Prop where
  c0 : w.cell? ⟨d, 0, none⟩ = some (.int .i64 m.room)
  c1 : w.cell? ⟨d, 1, none⟩ = some (.map (some bn))
  c2 : w.cell? ⟨d, 2, none⟩ = some (.map (some bs))
  c3 : w.cell? ⟨d, 3, none⟩ = some vl
  c4 : w.cell? ⟨d, 4, none⟩ = some (.int .i64 m.fuse)
  c5 : w.cell? ⟨d, 5, none⟩ = some (.bool m.down)
  f0 : ∀ i, w.frozen? ⟨d, i, none⟩ = false
theorem DiskAt.cells {F : Nat → Prop} {w : World} {d bn bs : Nat} {vl : Value} {m : DM} (h : DiskAt F w d bn bs vl m) : DCells w d bn bs vl m :=
  ⟨cell_at h.blk rfl, cell_at h.blk rfl, cell_at h.blk rfl, cell_at h.blk rfl, cell_at h.blk rfl, cell_at h.blk rfl, fun i => free_at h.blk i⟩

end Go.Proofs.Ytlinkpjneehnbaa
