/- The store of bytes: New, Size, Read. -/
import Derived.Test.YtlinkpjneehnbaaBlobB
import Derived.Test.YtlinkpjneehnbaaPkK
namespace Go.Proofs.Ytlinkpjneehnbaa
set_option linter.unusedVariables false
set_option linter.unusedSimpArgs false
open Go.RowKit Go.MapKept

section
variable {w wr : World} {d st : Nat} {m : DM} {rs : List (Res w.heap.size)}
def stObj1 (d : Nat) : Obj := .cells #[.pointer (some ⟨d, 0, none⟩)] 146
/-- What a region that asks for a sum's file holds to. -/
def AskS (st d b : Nat) (cl : List Value) (w' : World) : Prop := w'.cell? ⟨st, 0, none⟩ = some (.pointer (some ⟨d, 0, none⟩)) ∧ w'.rangeAt b 0 cl
theorem askS (h : Own w wr (rDisk w.heap.size d m :: rs)) (hst : rObj w.heap.size st (.cells #[.pointer (some ⟨d, 0, none⟩)] 146) ∈ rs) (cl : List Value) :
    ∀ w1, Keeps (fun _ => False) (wr.alloc (.cells cl.toArray 58)).drew w1 → AskS st d wr.heap.size cl w1 ∧ Own w w1 (rDisk w.heap.size d m :: rs) := fun w1 hk => by
  have h0 : Own w wr.drew (rDisk w.heap.size d m :: rs) := h.drew
  have h1 : Own w w1 (rObj w.heap.size wr.heap.size (.cells cl.toArray 58) :: rDisk w.heap.size d m :: rs) := (h.alloc (.cells cl.toArray 58)).drew.quiet hk
  refine ⟨⟨cell_at (i := 0) (h1.at (b := st) (o := .cells #[.pointer (some ⟨d, 0, none⟩)] 146) (by simp [hst])).1 rfl, fun k v hv => ?_⟩, h1.drop⟩
  rw [Nat.zero_add]
  exact cell_at (h1.at (List.mem_cons_self ..)).1 (by rw [List.getElem?_toArray]; exact hv)
set_option maxRecDepth 100000 in
set_option maxHeartbeats 1000000 in
theorem bsize_calls (h : Own w wr (rDisk w.heap.size d m :: rs)) (hst : rObj w.heap.size st (.cells #[.pointer (some ⟨d, 0, none⟩)] 146) ∈ rs) {dg : List UInt8} (hl : dg.length = 32) :
    Calls Try.prog 66 #[.pointer (some ⟨st, 0, none⟩), .agg (dg.map u8v).toArray] wr fun e w' => e = .returned (.tuple #[.int .i64 (sizeCode m (fileOf dg)), .int .i64 (thereOf m (fileOf dg))]) ∧ Keeps (fun _ => False) wr w' := by
  have hfile := fun W => file_calls W dg hl
  obtain ⟨cl, hcl⟩ : ∃ cl : List Value, cl = dg.map u8v := ⟨_, rfl⟩
  have hinfo : (Try.prog.info? 58).map (·.size) = some cl.length := by rw [hcl, List.length_map, hl]; kernel_rfl
  have hund := Try.underlying58
  rw [← hcl] at hfile ⊢
  have hask := askS h hst cl
  have hsz : ∀ w1, Keeps (fun _ => False) (wr.alloc (.cells cl.toArray 58)).drew w1 → Runs 59 #[.pointer (some ⟨d, 0, none⟩), .string (fileOf dg)] w1 (.tuple #[.int .i64 (sizeCode m (fileOf dg)), .int .i64 (thereOf m (fileOf dg))]) w1 := fun w1 hk => (hask w1 hk).2.size _
  have hk0 : Keeps (fun _ => False) wr (wr.alloc (.cells cl.toArray 58)).drew := ((Keeps.refl _ wr).alloc _).drew
  have HC := Lib.hid (fun w1 hk => (hask w1 hk).1)
  have HF := Lib.hid hfile
  have HZ := Lib.hid hsz
  have HK0 := Lib.hid hk0
  generalize fileOf dg = nm at HF HZ ⊢
  clear h hst hfile hask hsz hcl hl hk0
  go_enter Try.func66, Try.ntmps66
  go_wp2_with fail
  go_region_held3 (fun w' => w'.cell? ⟨st, 0, none⟩ = some (.pointer (some ⟨d, 0, none⟩)) ∧ w'.rangeAt wr.heap.size 0 cl) (first | exact HC.out _ (Keeps.refl _ _) | exact HC.out _ hk1 | go_keep) (first | (go_at_call 69; refine (HF.out _).mono ?_; rintro e w1 ⟨rfl, hk1⟩) | (go_at_call 59; refine (HZ.out _ hk1).out.mono ?_; rintro e w' ⟨rfl, rfl⟩))
  all_goals
    have HK1 := Lib.hid (HK0.out.trans hk1 (fun _ _ e => e))
    clear hk1
    go_wp2_with fail
    go_ret2
    exact ⟨rfl, HK1.out⟩
set_option maxRecDepth 100000 in
set_option maxHeartbeats 1000000 in
theorem bread_calls (h : Own w wr (rDisk w.heap.size d m :: rs)) (hst : rObj w.heap.size st (.cells #[.pointer (some ⟨d, 0, none⟩)] 146) ∈ rs) {dg : List UInt8} (hl : dg.length = 32) (at_ k : Int) {n : Nat} (hg : Good m n) :
    Calls Try.prog 46 #[.pointer (some ⟨st, 0, none⟩), .agg (dg.map u8v).toArray, .int .i64 at_, .int .i64 k] wr fun e w' => ∃ v, e = .returned (.tuple #[v, .int .i64 (readCode m (fileOf dg) at_ k)]) ∧ Reads w' v (readBytes m (fileOf dg) at_ k) ∧ Keeps (fun _ => False) wr w' := by
  have hfile := fun W => file_calls W dg hl
  obtain ⟨cl, hcl⟩ : ∃ cl : List Value, cl = dg.map u8v := ⟨_, rfl⟩
  have hinfo : (Try.prog.info? 58).map (·.size) = some cl.length := by rw [hcl, List.length_map, hl]; kernel_rfl
  have hund := Try.underlying58
  rw [← hcl] at hfile ⊢
  have hask := askS h hst cl
  have hrd : ∀ w1, Keeps (fun _ => False) (wr.alloc (.cells cl.toArray 58)).drew w1 → ∃ a c w2, Runs 27 #[.pointer (some ⟨d, 0, none⟩), .string (fileOf dg), .int .i64 at_, .int .i64 k] w1 (.tuple #[.slice a (readBytes m (fileOf dg) at_ k).length c, .int .i64 (readCode m (fileOf dg) at_ k)]) w2 ∧ Reads w2 (.slice a (readBytes m (fileOf dg) at_ k).length c) (readBytes m (fileOf dg) at_ k) ∧ Keeps (fun _ => False) (wr.alloc (.cells cl.toArray 58)).drew w2 := fun w1 hk => by
    obtain ⟨v2, w2, hr, hB, hk2, h2⟩ := (hask w1 hk).2.read (fileOf dg) at_ k (by have := hg.get (fileOf dg); omega)
    obtain ⟨a, c, rfl, _, _⟩ := hB.form
    exact ⟨a, c, w2, hr, hB.reads, hk.trans hk2 (fun _ _ e => e)⟩
  have hk0 : Keeps (fun _ => False) wr (wr.alloc (.cells cl.toArray 58)).drew := ((Keeps.refl _ wr).alloc _).drew
  have HC := Lib.hid (fun w1 hk => (hask w1 hk).1)
  have HF := Lib.hid hfile
  have HZ := Lib.hid hrd
  have HK0 := Lib.hid hk0
  generalize fileOf dg = nm at HF HZ ⊢
  generalize readBytes m nm at_ k = rb at HZ ⊢
  clear h hst hfile hask hrd hcl hl hk0 hg
  go_enter Try.func46, Try.ntmps46
  go_wp2_with fail
  go_region_held3 (fun w' => w'.cell? ⟨st, 0, none⟩ = some (.pointer (some ⟨d, 0, none⟩)) ∧ w'.rangeAt wr.heap.size 0 cl) (first | exact HC.out _ (Keeps.refl _ _) | exact HC.out _ hk2 | exact HC.out _ hk1 | go_keep) (first | (go_at_call 69; refine (HF.out _).mono ?_; rintro e w1 ⟨rfl, hk1⟩) | (go_at_call 27; obtain ⟨ra, rc, w2, hrun, hrds, hk2⟩ := HZ.out _ hk1; refine hrun.out.mono ?_; rintro e w' ⟨rfl, rfl⟩))
  all_goals
    have HK2 := Lib.hid (HK0.out.trans hk2 (fun _ _ e => e))
    have HRD := Lib.hid hrds
    clear hk1 hk2 hrds hrun
    go_wp2_with fail
    go_ret2
    exact ⟨_, rfl, HRD.out, HK2.out⟩
end
end Go.Proofs.Ytlinkpjneehnbaa
