/- DiskPlays answers true of whatever room and script of steps, and leaves them as they are. No condition. The frame of this text follows the kit's proof skeleton. -/
import Derived.Test.YtlinkpjneehnbaaRows
import Derived.Test.YtlinkpjneehnbaaPlaysW
import Derived.WalkKit
import Derived.ProofKit
import Derived.OpenShut
import Derived.ShutString
import Derived.ChangeOld
import Derived.Below
import Derived.SizedLaws
namespace Go.Proofs.Ytlinkpjneehnbaa.diskPlays
open Go.ChangeShapes Go.WideShapes Go.ChangeAt Go.RowKit
open Go.ChangeMaps (open_string shut_string)
set_option linter.unusedVariables false

theorem own : ownKnob Try.prog.godebug = none := by kernel_rfl
theorem laidOut : laidOutB Try.prog = true := by kernel_rfl

variable {H : Type} {enc : TypeId × Value → H}
theorem weights_all {e : TypeId} {x : DataW H} : ∀ {l : List (DataW H)}, x ∈ l → ∀ k ∈ x.weights Try.prog e, k ∈ DataW.weightsAll Try.prog e l
  | y :: l, h, k, hk => by
    simp only [DataW.weightsAll, List.mem_append]
    rcases List.mem_cons.1 h with rfl | h
    · exact .inl hk
    · exact .inr (weights_all h k hk)
/-- A slice of bytes is no longer than a process's addresses reach. -/
theorem bytes_reach {W : World} {n : Nat} {v : Value} {y : DataW H × List MemPlace} (h : DataW.trod enc Try.prog W 0 (fun _ => true) true n 31 [v] = some y) (hw : ∀ k ∈ y.1.weights Try.prog 31, k ≤ reachBytes) : ∃ l : List UInt8, Reads W v l ∧ l.length ≤ 140737488355328 := by
  have hv : ∃ a len cap, v = .slice a len cap ∧ len ≤ 140737488355328 := by
    rcases open_ints Try.underlying31 Try.underlying5 (by kernel_rfl) h with ⟨hcs, _⟩ | ⟨x, l, c, zs, hcs, _, hl, hm, hz, hx, _⟩
    · simp at hcs; exact ⟨_, _, _, hcs, Nat.zero_le _⟩
    · simp at hcs
      refine ⟨_, _, _, hcs, ?_⟩
      simp only [if_true] at hz
      have hb : Try.prog.bytesOf 5 = 1 := by kernel_rfl
      rw [hx] at hw
      have h2 : (lits (H := H) .u8 (zs.take l)).length = l := by simp [lits]; omega
      have h3 := hw ((lits (H := H) .u8 (zs.take l)).length * 1 + (lits (H := H) .u8 (zs.drop l)).length * 1) (by
        simp only [DataW.weights, Try.underlying31, hb, List.mem_cons]
        left
        rw [Nat.add_mul])
      have := reachBytes_lt
      omega
  obtain ⟨a, len, cap, rfl, hle⟩ := hv
  obtain ⟨l, hl, hr⟩ := in_bytes (enc := enc) (W := W) (a := a) (len := len) (cap := cap) (d := y.1) (p := y.2) ⟨n, h⟩
  exact ⟨l, hr, by omega⟩
/-- Each field of each element of a slice of structs, as it was read, with its weights. -/
theorem in_structsZ {t e : TypeId} {fs : Array Field} (ht : Try.prog.underlying t = some (.slice e)) (he : Try.prog.underlying e = some (.struct fs)) (hone : Go.Deep.oneCellFields Try.prog fs = true) (hC : Try.prog.cellsOf e = fs.size)
    {W : World} {a : Option Addr} {len cap : Nat} {d : DataW H} {p : List MemPlace} (h : DataW.Trod enc Try.prog W 0 (fun _ => true) true t (.slice a len cap) d p) :
    ∀ i, i < len → ∃ x, a = some x ∧ ∀ (j : Nat) (f : Field), fs[j]? = some f → ∃ (v : Value) (d' : DataW H) (p' : List MemPlace), W.cell? (x.add (i * fs.size + j)) = some v ∧ (∀ k ∈ d'.weights Try.prog f.type, k ∈ d.weights Try.prog t) ∧ ∃ n, DataW.trod enc Try.prog W 0 (fun _ => true) true n f.type [v] = some (d', p') := by
  obtain ⟨fuel, hf⟩ := h
  rcases Go.Deep.open_slice ht hf with ⟨hcs, _⟩ | ⟨x, l, c, m, n, D, Pl, hcs, _, hl, hm, hmm, hx, hi⟩
  · simp [Value.cells] at hcs
    obtain ⟨rfl, rfl, rfl⟩ := hcs
    intro i hi
    omega
  · simp [Value.cells] at hcs
    obtain ⟨rfl, rfl, rfl⟩ := hcs
    simp only [if_true] at hmm
    simp only [Prod.mk.injEq] at hx
    refine fun i hlt => ⟨x, rfl, fun j f hj => ?_⟩
    have hDi : ∀ k ∈ (D i).weights Try.prog e, k ∈ d.weights Try.prog t := fun k hk => by
      have h1 : D i ∈ (List.range len).map D := List.mem_map.2 ⟨i, List.mem_range.2 hlt, rfl⟩
      rw [hx.1]
      simp only [DataW.weights, ht, List.mem_cons, List.mem_append]
      exact .inr (.inl (weights_all h1 k hk))
    obtain ⟨cs', hc, ht'⟩ := hi i (by omega)
    rw [hC] at hc
    obtain ⟨ys, n', _, hD, _, hyl, hfs⟩ := DataW.trod_struct he ht'
    simp only [Prod.mk.injEq] at hD
    obtain ⟨_, hcl, hat⟩ := World.cells?_some hc
    obtain ⟨ho, hk⟩ := Go.Deep.hone_of hone j f hj
    have hjl : j < fs.size := (Array.getElem?_eq_some_iff.1 hj).1
    have h1 := hfs j f hj
    rw [ho, hk] at h1
    have e1 : (cs'.drop j).take 1 = [cs'[j]'(by omega)] := by
      rw [List.drop_eq_getElem_cons (by omega)]; rfl
    rw [e1, List.getElem?_eq_getElem (by omega)] at h1
    have hbD : ∀ k ∈ ((ys[j]'(by omega)).1).weights Try.prog f.type, k ∈ (D i).weights Try.prog e := fun k hk => by
      rw [hD.1]
      simp only [DataW.weights, he]
      exact DataW.weights_mem_each (j := j) (by rw [List.getElem?_map, Array.getElem?_toList, hj]; rfl) (by rw [List.getElem?_map, List.getElem?_eq_getElem (by omega)]; rfl) k hk
    refine ⟨cs'[j]'(by omega), (ys[j]'(by omega)).1, (ys[j]'(by omega)).2, ?_, fun k hk => hDi k (hbD k hk), n', h1⟩
    rw [← Go.Deep.add_add, hat j hjl, List.getElem?_eq_getElem (by omega)]
/-- What the reach gives: a script whose bytes aren't too many. -/
theorem ops_ok {W : World} {a : Option Addr} {len cap : Nat} {d : DataW H} {p : List MemPlace} (h : DataW.Trod enc Try.prog W 0 (fun _ => true) true 89 (.slice a len cap) d p) (hb : ∀ k ∈ d.weights Try.prog 89, k ≤ reachBytes) : len ≤ cap ∧ cap ≤ maxLen ∧ Ops9Ok W a len := by
  have h' := in_ops9 h
  have hB := in_structsZ Try.underlying89 Try.underlying91 (by kernel_rfl) (by kernel_rfl) h
  refine ⟨h'.1, h'.2.1, fun i hi => ?_⟩
  obtain ⟨x, rfl, hf⟩ := hB i hi
  obtain ⟨v3, d3, p3, k3, b3, n3, t3⟩ := hf 3 _ rfl
  obtain ⟨x', o, pv, e, hop⟩ := h'.2.2 i hi
  cases e
  refine ⟨x, o, pv, rfl, hop, ?_⟩
  obtain ⟨l, hr, hlb⟩ := bytes_reach t3 (fun k hk => hb k (b3 k hk))
  have hpv : pv = v3 := by
    have := hop.c3.symm.trans k3
    simpa using this
  have hpp : o.p.length = l.length := by
    obtain ⟨a1, c1, e1, _⟩ := hop.p.form
    obtain ⟨a2, c2, e2, _⟩ := hr.form
    rw [hpv] at e1
    have := e1.symm.trans e2
    simp only [Value.slice.injEq] at this
    exact this.2.1
  omega

/-! ### THE ROW's STEP: WRITTEN OUT: LEAVE IT -/
set_option maxRecDepth 100000 in
theorem lifted (os : Os) (started : os.Started) (H : Type) (enc : TypeId × Value → H) :
    ReturnsInHanded {} Try.checked os 13 .any (Rows.diskPlaysSpec.pre6 enc Try.prog Try.f13 Rows.diskPlaysRow.domain false) (Rows.diskPlaysSpec.post enc Try.prog Try.f13 false true false false) := by
  refine returnsInHanded_of_change_sized (C := Try.checked) own started (by kernel_rfl) Try.func13
    (ChangeSpec.witness6 (enc := enc) (C := Try.checked) false ⟨#[], #[.int .i64 0, .slice none 0 0], []⟩ 8 (by kernel_rfl) (by kernel_rfl) (by kernel_rfl) (by kernel_rfl)) ?_
  intro W base args ds gs before hval0 hW hcnd hsz _
  have hval : ∀ (j : Nat) t v, Try.f13.params[j]? = some t → args[j]? = some v → Value.okWide Try.prog W .any base t v := hval0
  have hW' := hW
  obtain ⟨p, q, hA0, hV, rfl, hfz, hnd⟩ := hW
  have hA : DataW.TrodAll enc Try.prog W 0 (fun _ => true) true Try.f13.params.toList args.toList ds p := hA0
  rw [Try.params13] at hA hval
  obtain ⟨v0, vs0, d0, ds0, p0, q0, hargs, rfl, rfl, h0, r0⟩ := trodAll_cons hA
  obtain ⟨v1, vs1, d1, ds1, p1, q1, rfl, rfl, rfl, h1, r1⟩ := trodAll_cons r0
  obtain ⟨rfl, rfl, rfl⟩ := trodAll_nil r1
  obtain rfl : args = #[v0, v1] := by cases args; simp_all
  obtain ⟨rfl, rfl⟩ := trodVars_none hV
  obtain ⟨a0, rfl, rfl, rfl, hs0⟩ := Go.ChangeShapes.open_int Try.underlying3 (hval 0 3 v0 rfl rfl) h0
  obtain ⟨a1, len1, cap1, rfl⟩ := okWide_slice Try.underlying89 (hval 1 89 v1 rfl rfl)
  have lt1 : ∀ x ∈ p1, x.block < W.heap.size := by obtain ⟨m, hm⟩ := h1; exact DataW.trod_lt m _ _ _ hm
  clear hA0 hval0
  have hb : ∀ k ∈ d1.weights Try.prog 89, k ≤ reachBytes := fun k hk => by
    have := List.all_eq_true.1 hsz k (DataW.weights_mem_each (j := 1) (t := 89) (d := d1) rfl rfl k hk)
    simpa using this
  obtain ⟨q1, q2, q3⟩ := ops_ok h1 hb
  refine (plays_walk a0 a1 len1 cap1 W q1 q2 q3).mono fun e W' ⟨he, bel⟩ => ?_
  subst he
  exact ⟨_, rfl, _, _, _, [], _, [], hW', trodAll_mk1 (shut_bool Try.underlying4 _), (trodAll_cons_mk (shut_int Try.underlying3 hs0) (trodAll_cons_mk (Below.trod laidOut (by kernel_rfl) (of_decide_eq_true (by kernel_rfl)) h1 bel lt1) trodAll_mk0)), rfl, bel.frame _, fun h => by cases h⟩

theorem over : Rows.diskPlaysRow.holds Try.pinned (OpenSpec.ofChange Rows.diskPlaysSpec) :=
  OpenClaim.holds_of_wide 13 Try.f13 rfl rfl rfl rfl rfl rfl rfl ⟨rfl, rfl, rfl, rfl, rfl⟩ rfl rfl rfl rfl rfl (by kernel_rfl) Try.func13 (by kernel_rfl)
    (of_decide_eq_true (by kernel_rfl)) (by unfold Func.isWrapper; first | (rw [if_pos (by decide +kernel)]; kernel_rfl) | (rw [if_neg (by decide +kernel)]; exact ⟨rfl, rfl⟩))
    (fun os started H enc _ => lifted os started H enc)

/-- ████ THE STATEMENT ████ -/
theorem proved : Rows.DiskPlaysSaid := over
#print axioms proved
end Go.Proofs.Ytlinkpjneehnbaa.diskPlays
