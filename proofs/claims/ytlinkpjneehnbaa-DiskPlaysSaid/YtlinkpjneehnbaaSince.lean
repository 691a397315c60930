/- A disk that a law has made and works on: what holds of it from call to call. -/
import Derived.Test.YtlinkpjneehnbaaAwake
namespace Go.Proofs.Ytlinkpjneehnbaa
open Go.RowKit Go.MapKept

/-- Since w nothing that was there has turned, and d is a disk in new memory that reads as m. -/
def Since (w wr : World) (d : Nat) (m : DM) : Prop := Keeps (fun _ => False) w wr ∧ DiskIs (Ext (fun _ => False) w wr) wr d m

theorem Since.quiet {w wr w' : World} {d : Nat} {m : DM} (h : Since w wr d m) (hk : Keeps (fun _ => False) wr w') : Since w w' d m :=
  ⟨h.1.trans hk (fun _ _ e => e), (h.2.quiet hk).rebase h.1.size hk.size⟩
theorem Since.step {w wr w' : World} {d : Nat} {m m' : DM} (h : Since w wr d m) (h2 : DiskIs (Ext (Ext (fun _ => False) w wr) wr w') w' d m') (hk : Keeps (Ext (fun _ => False) w wr) wr w') : Since w w' d m' :=
  ⟨h.1.rebase hk, h2.rebase h.1.size hk.size⟩
theorem Since.post {w wr w' : World} {d : Nat} {m : DM} {r : Int × DM} {e : Ending} (h : Since w wr d m) (hp : DPost (Ext (fun _ => False) w wr) wr d r e w') : e = .returned (.int .i64 r.1) ∧ Since w w' d r.2 :=
  ⟨hp.1, h.step hp.2.1 hp.2.2⟩

theorem since_new (w : World) (room : Int) (h0 : 0 ≤ room) (h1 : room ≤ 67108864) : ∃ d w', Runs 18 #[.int .i64 room] w (.tuple #[.pointer (some ⟨d, 0, none⟩), .int .i64 0]) w' ∧ Since w w' d (newOf room) := by
  obtain ⟨d, w', hr, h, k⟩ := new_runs w room h0 h1
  exact ⟨d, w', hr, k, h⟩
theorem Since.create {w wr : World} {d : Nat} {m : DM} (h : Since w wr d m) (n : ByteArray) (hf : m.fuse ≤ 9223372036854775807) (hl : m.loose.length < 1099511627776) :
    ∃ w', Runs 20 #[.pointer (some ⟨d, 0, none⟩), .string n] wr (.int .i64 (createOf m n).1) w' ∧ Since w w' d (createOf m n).2 := by
  obtain ⟨w', hr, h2, k⟩ := create_runs h.2 n hf hl
  exact ⟨w', hr, h.step h2 k⟩
theorem Since.remove {w wr : World} {d : Nat} {m : DM} (h : Since w wr d m) (n : ByteArray) (hf : m.fuse ≤ 9223372036854775807) (hl : m.loose.length < 1099511627776) :
    ∃ w', Runs 23 #[.pointer (some ⟨d, 0, none⟩), .string n] wr (.int .i64 (removeOf m n).1) w' ∧ Since w w' d (removeOf m n).2 := by
  obtain ⟨w', hr, h2, k⟩ := remove_runs h.2 n hf hl
  exact ⟨w', hr, h.step h2 k⟩
theorem Since.read {w wr : World} {d : Nat} {m : DM} (h : Since w wr d m) (n : ByteArray) (at_ k : Int) (hlen : ((fget m.now n).getD []).length ≤ 140737488355328) :
    ∃ v w', Runs 27 #[.pointer (some ⟨d, 0, none⟩), .string n, .int .i64 at_, .int .i64 k] wr (.tuple #[v, .int .i64 (readCode m n at_ k)]) w' ∧ Bytes (fun b => wr.heap.size ≤ b) w' v (readBytes m n at_ k) ∧ Keeps (fun _ => False) wr w' ∧ Since w w' d m := by
  obtain ⟨v, w', hr, hB, k⟩ := read_runs h.2 n at_ k hlen
  exact ⟨v, w', hr, hB, k, h.quiet k⟩
/-- What a call that answers a number does to such a disk. -/
def SPost (w : World) (d : Nat) (r : Int × DM) (e : Ending) (w' : World) : Prop := e = .returned (.int .i64 r.1) ∧ Since w w' d r.2
theorem Since.append {w wr : World} {d : Nat} {m : DM} (h : Since w wr d m) (n : ByteArray) {pv : Value} {p : List UInt8} (hp : Reads wr pv p)
    (hr0 : 0 ≤ m.room) (hr1 : m.room ≤ 67108864) (hu : (used m.now : Int) ≤ m.room) (hf : m.fuse ≤ 9223372036854775807) (hl : m.loose.length < 1099511627776) :
    Calls Try.prog 21 #[.pointer (some ⟨d, 0, none⟩), .string n, pv] wr (SPost w d (appendOf m n p)) :=
  (append_calls h.2 n hp hr0 hr1 hu (used_get h.2.nodup n) hf hl).mono fun _ _ hp => h.post hp
theorem Since.crash {w wr : World} {d : Nat} {m : DM} (h : Since w wr d m) (keep part : Int)
    (hfits : ∀ k c, m.loose[k]? = some c → Fits ((m.loose.take k).foldl doCh m.sure) c ∧ ∀ j, Fits ((m.loose.take k).foldl doCh m.sure) { c with p := c.p.take j }) :
    Calls Try.prog 25 #[.pointer (some ⟨d, 0, none⟩), .int .i64 keep, .int .i64 part] wr (SPost w d (0, crashOf m keep part)) :=
  (crash_calls h.2 keep part hfits).mono fun _ _ hp => h.post hp
/-- Used, of such a disk. -/
def UPost (w : World) (d : Nat) (m : DM) (e : Ending) (w' : World) : Prop := e = .returned (.int .i64 (used m.now : Int)) ∧ Since w w' d m
theorem Since.used {w wr : World} {d : Nat} {m : DM} (h : Since w wr d m) (hu : Go.Proofs.Ytlinkpjneehnbaa.used m.now ≤ 4611686018427387904) : Calls Try.prog 22 #[.pointer (some ⟨d, 0, none⟩)] wr (UPost w d m) :=
  (used_calls h.2 hu).mono fun _ _ hp => ⟨hp.1, h.quiet hp.2⟩
/-- A call that answers v and leaves all as it is. -/
def VPost (w : World) (d : Nat) (m : DM) (v : Value) (e : Ending) (w' : World) : Prop := e = .returned v ∧ Since w w' d m
theorem Since.awake {w wr : World} {d : Nat} {m : DM} (h : Since w wr d m) : Calls Try.prog 19 #[] wr (VPost w d m (.bool true)) :=
  (awake_calls wr).mono fun _ _ hp => ⟨hp.1, h.quiet hp.2⟩

/-- 'int(uint(a) % k)'. -/
theorem uint_mod (a : Int) (k : Nat) (hk : 0 < k) (hk2 : (k : Int) ≤ 9223372036854775807) : ∃ n : Nat, wrap64 ((IntKind.u64.wrap a).tmod (k : Int)) = (n : Int) ∧ n < k := by
  have h0 : 0 ≤ IntKind.u64.wrap a := by
    simp only [IntKind.wrap, IntKind.signed, IntKind.bits]
    simp
    exact Int.emod_nonneg _ (by decide)
  generalize IntKind.u64.wrap a = x at h0
  rw [Int.tmod_eq_emod_of_nonneg h0]
  have h1 := Int.emod_nonneg x (b := (k : Int)) (by omega)
  have h2 := Int.emod_lt_of_pos x (b := (k : Int)) (by omega)
  refine ⟨(x % (k : Int)).toNat, ?_, by omega⟩
  rw [IntWalk.wrap64_in _ (by omega)]
  omega

/-- 'make([]byte, n)'. -/
theorem make_bytes (w : World) (n : Nat) (hn : n ≤ 140737488355328) : ∃ w', (Instr.makeSlice 31 (.int .i64 (n : Int)) (.int .i64 (n : Int))).run Try.prog w = .ok (.slice (some ⟨w.heap.size, 0, none⟩) n n) w' ∧
    Bytes (fun b => w.heap.size ≤ b) w' (.slice (some ⟨w.heap.size, 0, none⟩) n n) (List.replicate n 0) ∧ Keeps (fun _ => False) w w' := by
  obtain ⟨i0, hi, hz0, hz1, hz2⟩ := info_parts info_u8
  obtain ⟨w', hr, ho, hg⟩ := run_make_full (P := Try.prog) w w.heap.size 31 5 i0 _ 1 Try.underlying31 hi hz0 hz1 .i64 .i64 n (by rw [hz2]; omega) (by unfold maxLen; omega) (Nat.le_refl _)
  have e : (madeCells (Value.int .u8 0).cells (n * 1)).toList = (List.replicate n (0 : UInt8)).map u8v := by
    apply List.ext_getElem?
    intro i
    simp only [madeCells, Array.toList_map, List.getElem?_map, Array.toList_range, Nat.mul_one, List.getElem?_replicate]
    by_cases h : i < n
    · simp [h, Value.cells, u8v]
      rw [Nat.mod_one]
      rfl
    · simp [h]
  rw [e] at ho
  exact ⟨w', hr, bytes_of_owns ho, (Keeps.of_grown hg).mono (fun _ _ e => by cases e)⟩
theorem wpList_make_run {P : Program} {w : World} {ops : Array Oper} {o : Oper} {rest : List Oper} {a : Act} {Q : Exit → Act → World → Prop}
    (hg : o.guard = none) (l c : Operand) (t : TypeId) (hop : o.op = Op.makeSlice t l c)
    {lv cv v' : Value} {w' : World} (hl : a.eval l = lv) (hc : a.eval c = cv) (hrun : (Instr.makeSlice t lv cv).run P w = .ok v' w')
    (hK : wpList P ops Q rest (a.put o.dst v') w') : wpList P ops Q (o :: rest) a w := by
  refine wpList_plain hg fun K hK' => ?_
  unfold Oper.wp
  simp [execOp, hop, hl, hc, hrun, Result.andThen]
  exact hK' _ _ hK
end Go.Proofs.Ytlinkpjneehnbaa
