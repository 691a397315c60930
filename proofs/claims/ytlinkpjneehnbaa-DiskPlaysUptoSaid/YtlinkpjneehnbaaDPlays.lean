/- DiskPlays answers true of whatever room and script of steps that are of bulk at most 1048576 together, and leaves them as they are. The frame of this text follows the kit's proof skeleton and its page on such statements. -/
import Derived.Test.YtlinkpjneehnbaaRows
import Derived.Test.YtlinkpjneehnbaaPlaysW
import Derived.WalkKit
import Derived.ProofKit
import Derived.OpenShut
import Derived.ShutString
import Derived.ChangeOld
import Derived.Below
import Derived.JoinedCond
namespace Go.Proofs.Ytlinkpjneehnbaa.diskPlays
open Go.ChangeShapes Go.WideShapes Go.ChangeAt Go.RowKit
open Go.ChangeMaps (open_string shut_string)
set_option linter.unusedVariables false

theorem own : ownKnob Try.prog.godebug = none := by kernel_rfl
theorem laidOut : laidOutB Try.prog = true := by kernel_rfl

theorem bulk_length {H : Type} (l : List (DataW H)) : l.length ≤ Rows.uptoBulkAll l := by
  induction l with
  | nil => simp [Rows.uptoBulkAll]
  | cons x r ih =>
    have : 1 ≤ Rows.uptoBulk x := by
      cases x with
      | lit l => cases l <;> simp [Rows.uptoBulk]
      | nil => simp [Rows.uptoBulk]
      | ptr d => simp [Rows.uptoBulk]
      | slice elems spare => simp [Rows.uptoBulk]
      | agg parts => simp [Rows.uptoBulk]
      | iface t d => simp [Rows.uptoBulk]
      | map entries => simp [Rows.uptoBulk]
      | held h => simp [Rows.uptoBulk]
    simp only [Rows.uptoBulkAll, List.length_cons]; omega
variable {H : Type} {enc : TypeId × Value → H}
theorem bulk_mem {H : Type} {x : DataW H} : ∀ {l : List (DataW H)}, x ∈ l → Rows.uptoBulk x ≤ Rows.uptoBulkAll l
  | y :: l, h => by
    simp only [Rows.uptoBulkAll]
    rcases List.mem_cons.1 h with rfl | h
    · omega
    · have := bulk_mem h; omega
/-- A slice of bytes is no longer than its bulk. -/
theorem bytes_bulk {W : World} {n : Nat} {v : Value} {y : DataW H × List MemPlace} (h : DataW.trod enc Try.prog W 0 (fun _ => true) true n 31 [v] = some y) : ∃ l : List UInt8, Reads W v l ∧ l.length ≤ Rows.uptoBulk y.1 := by
  have hv : ∃ a len cap, v = .slice a len cap ∧ len ≤ Rows.uptoBulk y.1 := by
    rcases open_ints Try.underlying31 Try.underlying5 (by kernel_rfl) h with ⟨hcs, _⟩ | ⟨x, l, c, zs, hcs, _, hl, hm, hz, hx, _⟩
    · simp at hcs; exact ⟨_, _, _, hcs, Nat.zero_le _⟩
    · simp at hcs
      refine ⟨_, _, _, hcs, ?_⟩
      simp only [if_true] at hz
      rw [hx]
      simp only [Rows.uptoBulk]
      have h1 := bulk_length (H := H) (lits .u8 (zs.take l))
      have h2 : (lits (H := H) .u8 (zs.take l)).length = l := by simp [lits]; omega
      omega
  obtain ⟨a, len, cap, rfl, hle⟩ := hv
  obtain ⟨l, hl, hr⟩ := in_bytes (enc := enc) (W := W) (a := a) (len := len) (cap := cap) (d := y.1) (p := y.2) ⟨n, h⟩
  exact ⟨l, hr, by omega⟩
/-- Each field of each element of a slice of structs, as it was read, with its bulk. -/
theorem in_structsB {t e : TypeId} {fs : Array Field} (ht : Try.prog.underlying t = some (.slice e)) (he : Try.prog.underlying e = some (.struct fs)) (hone : Go.Deep.oneCellFields Try.prog fs = true) (hC : Try.prog.cellsOf e = fs.size)
    {W : World} {a : Option Addr} {len cap : Nat} {d : DataW H} {p : List MemPlace} (h : DataW.Trod enc Try.prog W 0 (fun _ => true) true t (.slice a len cap) d p) :
    ∀ i, i < len → ∃ x, a = some x ∧ ∀ (j : Nat) (f : Field), fs[j]? = some f → ∃ (v : Value) (d' : DataW H) (p' : List MemPlace), W.cell? (x.add (i * fs.size + j)) = some v ∧ Rows.uptoBulk d' ≤ Rows.uptoBulk d ∧ ∃ n, DataW.trod enc Try.prog W 0 (fun _ => true) true n f.type [v] = some (d', p') := by
  obtain ⟨fuel, hf⟩ := h
  rcases Go.Deep.open_slice ht hf with ⟨hcs, _⟩ | ⟨x, l, c, m, n, D, Pl, hcs, _, hl, hm, hmm, hx, hi⟩
  · simp [Value.cells] at hcs
    obtain ⟨rfl, rfl, rfl⟩ := hcs
    intro i hi
    omega
  · simp [Value.cells] at hcs
    obtain ⟨rfl, rfl, rfl⟩ := hcs
    simp only [if_true] at hmm
    simp only [Prod.mk.injEq] at hx
    refine fun i hlt => ⟨x, rfl, fun j f hj => ?_⟩
    have hDi : Rows.uptoBulk (D i) ≤ Rows.uptoBulk d := by
      have h1 : D i ∈ (List.range len).map D := List.mem_map.2 ⟨i, List.mem_range.2 hlt, rfl⟩
      have h2 := bulk_mem h1
      rw [hx.1]
      simp only [Rows.uptoBulk]
      omega
    obtain ⟨cs', hc, ht'⟩ := hi i (by omega)
    rw [hC] at hc
    obtain ⟨ys, n', _, hD, _, hyl, hfs⟩ := DataW.trod_struct he ht'
    simp only [Prod.mk.injEq] at hD
    obtain ⟨_, hcl, hat⟩ := World.cells?_some hc
    obtain ⟨ho, hk⟩ := Go.Deep.hone_of hone j f hj
    have hjl : j < fs.size := (Array.getElem?_eq_some_iff.1 hj).1
    have h1 := hfs j f hj
    rw [ho, hk] at h1
    have e1 : (cs'.drop j).take 1 = [cs'[j]'(by omega)] := by
      rw [List.drop_eq_getElem_cons (by omega)]; rfl
    rw [e1, List.getElem?_eq_getElem (by omega)] at h1
    have hmem : (ys[j]'(by omega)).1 ∈ ys.map (·.1) := List.mem_map.2 ⟨_, List.getElem_mem _, rfl⟩
    have hb2 := bulk_mem hmem
    have hbD : Rows.uptoBulk (D i) = Rows.uptoBulkAll (ys.map (·.1)) + 1 := by rw [hD.1]; simp only [Rows.uptoBulk]
    refine ⟨cs'[j]'(by omega), (ys[j]'(by omega)).1, (ys[j]'(by omega)).2, ?_, by omega, n', h1⟩
    rw [← Go.Deep.add_add, hat j hjl, List.getElem?_eq_getElem (by omega)]
/-- What the bound gives: a script whose bytes aren't too many. -/
theorem ops_ok {W : World} {a : Option Addr} {len cap : Nat} {d : DataW H} {p : List MemPlace} (h : DataW.Trod enc Try.prog W 0 (fun _ => true) true 89 (.slice a len cap) d p) (hb : Rows.uptoBulk d ≤ 1048576) : len ≤ cap ∧ cap ≤ maxLen ∧ Ops9Ok W a len := by
  have h' := in_ops9 h
  have hB := in_structsB Try.underlying89 Try.underlying91 (by kernel_rfl) (by kernel_rfl) h
  refine ⟨h'.1, h'.2.1, fun i hi => ?_⟩
  obtain ⟨x, rfl, hf⟩ := hB i hi
  obtain ⟨v3, d3, p3, k3, b3, n3, t3⟩ := hf 3 _ rfl
  obtain ⟨x', o, pv, e, hop⟩ := h'.2.2 i hi
  cases e
  refine ⟨x, o, pv, rfl, hop, ?_⟩
  obtain ⟨l, hr, hlb⟩ := bytes_bulk t3
  have hpv : pv = v3 := by
    have := hop.c3.symm.trans k3
    simpa using this
  have hpp : o.p.length = l.length := by
    obtain ⟨a1, c1, e1, _⟩ := hop.p.form
    obtain ⟨a2, c2, e2, _⟩ := hr.form
    rw [hpv] at e1
    have := e1.symm.trans e2
    simp only [Value.slice.injEq] at this
    exact this.2.1
  simp only at hlb
  omega

set_option maxRecDepth 100000 in
theorem contract (H : Type) (enc : TypeId × Value → H) (W : World) (base : Nat) (args : Array Value) (ds gs : List (DataW H)) (before : List MemPlace)
    (hval0 : ∀ (j : Nat) t v, Try.f13.params[j]? = some t → args[j]? = some v → Value.okWide Try.prog W .any base t v)
    (hW : DataW.Whole enc Try.prog Try.f13.params.toList Rows.diskPlaysSpec.vars false W args.toList ds gs before) (hk : Rows.uptoSmall H (ds ++ gs) = true) :
    Calls Try.prog 13 args W fun e W' => ∃ v, e = .returned v ∧ Rows.diskPlaysSpec.post enc Try.prog Try.f13 false true false false W args v W' := by
  have hval : ∀ (j : Nat) t v, Try.f13.params[j]? = some t → args[j]? = some v → Value.okWide Try.prog W .any base t v := hval0
  have hW' := hW
  obtain ⟨p, q, hA0, hV, rfl, hfz, hnd⟩ := hW
  have hA : DataW.TrodAll enc Try.prog W 0 (fun _ => true) true Try.f13.params.toList args.toList ds p := hA0
  rw [Try.params13] at hA hval
  obtain ⟨v0, vs0, d0, ds0, p0, q0, hargs, rfl, rfl, h0, r0⟩ := trodAll_cons hA
  obtain ⟨v1, vs1, d1, ds1, p1, q1, rfl, rfl, rfl, h1, r1⟩ := trodAll_cons r0
  obtain ⟨rfl, rfl, rfl⟩ := trodAll_nil r1
  obtain rfl : args = #[v0, v1] := by cases args; simp_all
  obtain ⟨rfl, rfl⟩ := trodVars_none hV
  obtain ⟨a0, rfl, rfl, rfl, hs0⟩ := Go.ChangeShapes.open_int Try.underlying3 (hval 0 3 v0 rfl rfl) h0
  obtain ⟨a1, len1, cap1, rfl⟩ := okWide_slice Try.underlying89 (hval 1 89 v1 rfl rfl)
  have lt1 : ∀ x ∈ p1, x.block < W.heap.size := by obtain ⟨m, hm⟩ := h1; exact DataW.trod_lt m _ _ _ hm
  clear hA0 hval0
  have hb : Rows.uptoBulk d1 ≤ 1048576 := by
    have h2 : Rows.uptoBulkAll _ ≤ 1048576 := of_decide_eq_true hk
    simp only [List.append_nil, Rows.uptoBulkAll] at h2
    omega
  obtain ⟨q1, q2, q3⟩ := ops_ok h1 hb
  refine (plays_walk a0 a1 len1 cap1 W q1 q2 q3).mono fun e W' ⟨he, bel⟩ => ?_
  subst he
  exact ⟨_, rfl, _, _, _, [], _, [], hW', trodAll_mk1 (shut_bool Try.underlying4 _), (trodAll_cons_mk (shut_int Try.underlying3 hs0) (trodAll_cons_mk (Below.trod laidOut (by kernel_rfl) (of_decide_eq_true (by kernel_rfl)) h1 bel lt1) trodAll_mk0)), rfl, bel.frame _, fun h => by cases h⟩

/-! ### THE ROW's STEP: WRITTEN OUT: LEAVE IT -/
set_option maxRecDepth 100000 in
theorem lifted (os : Os) (started : os.Started) (H : Type) (enc : TypeId × Value → H) (F : Stop.Interp) :
    ReturnsInHanded {} Try.checked os 13 .any ((Rows.OpenSpec.upto Rows.diskPlaysSpec).pre6 enc Try.prog Try.f13 Rows.diskPlaysUptoRow.domain false) (((Rows.OpenSpec.upto Rows.diskPlaysSpec).at F).post enc Try.prog Try.f13 false true false false) := by
  refine returnsInHanded_of_cond (C := Try.checked) (s := Rows.OpenSpec.upto Rows.diskPlaysSpec) (k := Rows.uptoSmall) rfl own started (by kernel_rfl) Try.func13
    (OpenSpec.witness (enc := enc) (C := Try.checked) (s := Rows.OpenSpec.upto Rows.diskPlaysSpec) (k := Rows.uptoSmall) rfl false ⟨#[], #[.int .i64 0, .slice none 0 0], []⟩ 8 (by kernel_rfl) (by kernel_rfl) (by kernel_rfl)
      (x := ([.lit (.int .i64 0), .nil], [], [])) (by kernel_rfl) rfl (by kernel_rfl)) ?_
  intro W base args ds gs before hval hW _ hk _
  exact contract H enc W base args ds gs before hval hW hk

/-- ████ THE STATEMENT ████ -/
theorem proved : Rows.DiskPlaysUptoSaid :=
  OpenClaim.holds_of_cond 13 Try.f13 rfl rfl rfl rfl rfl rfl rfl ⟨rfl, rfl, rfl, rfl, rfl⟩ rfl rfl rfl rfl rfl (by kernel_rfl) Try.func13 (by kernel_rfl)
    (of_decide_eq_true (by kernel_rfl)) (by unfold Func.isWrapper; first | (rw [if_pos (by decide +kernel)]; kernel_rfl) | (rw [if_neg (by decide +kernel)]; exact ⟨rfl, rfl⟩))
    (fun os started H enc _ F => lifted os started H enc F)
#print axioms proved
end Go.Proofs.Ytlinkpjneehnbaa.diskPlays
