/- The law's Does: the walks of the kinds that turn bytes in place behind a call: Append and Read. -/
import Derived.Test.YtlinkpjneehnbaaDoes9
import Derived.Laws.BitsAllLaws
namespace Go.Proofs.Ytlinkpjneehnbaa
set_option linter.unusedVariables false
open Go.RowKit Go.MapKept

/-- A byte of a row of one's own is written. -/
theorem Own.setByte {w wr : World} {rs : List (Res w.heap.size)} {a : Option Addr} {n c : Nat} {l : List UInt8} (h : Own w wr (rBytes w.heap.size (.slice a n c) l :: rs)) {i : Nat} (hi : i < l.length) (b : UInt8) :
    ∃ g, a = some ⟨g, 0, none⟩ ∧ n = l.length ∧ n ≤ c ∧ wr.cell? ⟨g, i, none⟩ = some (.int .u8 (l[i].toNat : Int)) ∧ wr.frozen? ⟨g, i, none⟩ = false ∧ ∀ m : Nat, Own w ({ wr with drawn := m }.setCell ⟨g, i, none⟩ (.int .u8 (b.toNat : Int))) (rBytes w.heap.size (.slice a n c) (l.set i b) :: rs) := by
  obtain ⟨F, h1, h2, back⟩ := h.open1
  have h1' : wr.ownsRow 0 5 1 (.slice a n c) l.length (l.map u8v) := h1.1
  rcases h1'.2 with ⟨_, e⟩ | ⟨g, cap, cur, e, _, hb, h3, _⟩
  · omega
  · simp only [Value.slice.injEq] at e
    obtain ⟨rfl, rfl, rfl⟩ := e
    have hc := h1'.cells (g := g) rfl i (u8v l[i]) (by rw [List.getElem?_map, List.getElem?_eq_getElem hi]; rfl)
    refine ⟨g, rfl, rfl, h3, by simpa [Addr.add_lit, u8v] using hc, free_at hb i, fun m => ?_⟩
    have hm : Owns { wr with drawn := m } 0 (.slice (some ⟨g, 0, none⟩) l.length c) l := h1'
    obtain ⟨q1, _, _, q4⟩ := hm.set hi b
    refine back _ (rBytes _ (.slice (some ⟨g, 0, none⟩) l.length c) (l.set i b)) ?_ ⟨q1, fun x hx => ?_⟩
    · exact ((Keeps.refl (fun x => x = g) wr).drewN m).trans q4 (fun _ _ e => e) |>.mono (fun x _ e => by subst e; exact h1.2 x rfl)
    · exact .inl (h1.2 x hx)
theorem mem3 {α : Type} {x y z u : α} {l : List α} : u ∈ x :: y :: z :: u :: l := List.mem_cons_of_mem _ mem2
/-- Old bytes read as they did, whatever new memory is written. -/
theorem old_reads {w0 wr : World} {pv : Value} {p : List UInt8} (hp : Reads w0 pv p) (hk : Keeps (fun _ => False) w0 wr) (F : Nat → Prop) (w' : World) (hF : ∀ b, F b → w0.heap.size ≤ b ∧ b < wr.heap.size) (hk2 : Keeps F wr w') : Reads w' pv p :=
  hp.same (fun b hb => (hk2.block b (Nat.lt_of_lt_of_le hb hk.size) (fun e => by have := (hF b e).1; omega)).trans (hk.block b hb (fun e => e)))

section
variable {w0 w : World} {d r : Nat} {m : DM} {rs : List (Res w0.heap.size)}
set_option maxRecDepth 100000 in
set_option maxHeartbeats 2000000 in
theorem does_k1 (h : Own w0 w (rDisk w0.heap.size d m :: rRef w0.heap.size r m :: rs)) {n t : Nat} (ht : Tidy m n t) (hn : n < 1099511627776) (htt : t < 549755813888) (x y : ByteArray) {pv : Value} {p : List UInt8} (hp : Reads w0 pv p) (hpl : p.length ≤ 140737488355328) (i j : Int) :
    Calls Try.prog 57 #[.pointer (some ⟨d, 0, none⟩), .pointer (some ⟨r, 0, none⟩), .agg #[.int .i64 1, .string x, .string y, pv, .int .i64 i, .int .i64 j]] w (DoesPost w0 d r rs (appendOf m x p).2) := by
  obtain ⟨pa, pc, rfl, _, _⟩ := hp.form
  have ho := h.boxed (.cells #[.int .i64 1, .string x, .string y, .slice pa p.length pc, .int .i64 i, .int .i64 j] 91)
  have htw := twin_calls (hp.keep ho.keeps) hpl
  have HT := Lib.hid ht
  have HP := Lib.hid hp
  have HO := Lib.hid ho
  clear h ht hp ho
  go_enter Try.func57, Try.ntmps57
  go_wp2_with fail
  refine htw.mono ?_
  rintro e w1 ⟨v1, rfl, hw1, hk1⟩
  obtain ⟨a1, c1, rfl, hpc1, hcm1⟩ := hw1.bytes.form
  have hob := (HO.out.addBytes hw1 hk1).swap
  obtain ⟨-, b1, -, b3, -, -⟩ := op_cells (hob.at (b := w.heap.size) mem3).1
  have hap := hob.append x hw1.bytes.reads HT.out.good.room0 HT.out.good.room1 HT.out.good.unow HT.out.good.fuse (HT.out.good.loose hn)
  have HAP := Lib.hid hap
  clear hob hap hw1 hk1 HO htw
  have hsa := step_append m x p
  have htd := HT.out.step ⟨1, x, ⟨#[]⟩, p⟩ ⟨by simp, by simp⟩ (fun e => absurd rfl e) (fun _ => Nat.zero_le _)
  generalize appendOf m x p = res at *
  obtain ⟨z, m2⟩ := res
  have HSA := Lib.hid hsa
  clear hsa htd
  go_wp2_with fail
  refine HAP.out.mono ?_
  rintro e w2 ⟨rfl, ho2⟩
  have HO2 := Lib.hid ho2
  clear ho2 HAP
  simp only
  go_wp2_with fail
  clear b1 b3
  go_loopw [41] (fun iv wx => ∃ (k : Nat) (l' : List UInt8), k ≤ p.length ∧ iv = .int .i64 (k : Int) ∧ l'.length = p.length ∧ Own w0 wx (rBytes w0.heap.size (.slice a1 p.length c1) l' :: rDisk w0.heap.size d m2 :: rRef w0.heap.size r m :: rObj w0.heap.size w.heap.size (.cells #[.int .i64 1, .string x, .string y, .slice pa p.length pc, .int .i64 i, .int .i64 j] 91) :: rs)) (fun iv _ => p.length - (intOf iv).toNat)
  case atStart => exact ⟨0, p, Nat.zero_le _, rfl, rfl, HO2.out.swap⟩
  case round =>
    obtain ⟨k, l', hk, rfl, hl', ho⟩ := hrel
    have j0 : (0 : Int) ≤ k := by omega
    have i9 : (p.length : Int) ≤ 140737488355328 := by omega
    by_cases hkl : k < p.length
    · have j1 : (k : Int) < p.length := by omega
      have hkl' : k < l'.length := by omega
      obtain ⟨g, e, _, hnc, hcq, hfq, hst⟩ := ho.setByte hkl' (l'[k] ^^^ 255)
      subst e
      replace hst := hst wr.drawn
      have hlen2 : (l'.set k (l'[k] ^^^ 255)).length = p.length := by rw [List.length_set]; exact hl'
      have e1 : bits .xor .u8 (l'[k].toNat : Int) 255 = ((l'[k] ^^^ 255).toNat : Int) := by
        rw [UInt8.toNat_xor]; exact u8_xor_nat _ 255 (UInt8.toNat_lt _) (by omega)
      have hby := l'[k].toNat_lt
      have HST := Lib.hid (⟨k + 1, _, by omega, rfl, hlen2, hst⟩ : ∃ (k2 : Nat) (l2 : List UInt8), k2 ≤ p.length ∧ Value.int .i64 ((k + 1 : Nat) : Int) = .int .i64 (k2 : Int) ∧ l2.length = p.length ∧ Own w0 (World.setCell wr ⟨g, k, none⟩ (.int .u8 ((l'[k] ^^^ 255).toNat : Int))) (rBytes w0.heap.size (.slice (some ⟨g, 0, none⟩) p.length c1) l2 :: rDisk w0.heap.size d m2 :: rRef w0.heap.size r m :: rObj w0.heap.size w.heap.size (.cells #[.int .i64 1, .string x, .string y, .slice pa p.length pc, .int .i64 i, .int .i64 j] 91) :: rs))
      generalize l'[k] ^^^ 255 = yb at e1 HST
      generalize l'[k].toNat = xb at hcq e1 hby
      have j5 : (xb : Int) < 256 := by omega
      have j6 : (0 : Int) ≤ xb := by omega
      have HKL := Lib.hid hkl
      clear ho hst hby hkl hk hl' hlen2 hkl' HO2 HP HT HSA
      go_wp2_with fail
      go_roundw
      case rel => exact HST.out
      case measure => have := HKL.out; simp [intOf]; omega
    · obtain rfl : k = p.length := by omega
      have ho2 := ho.drop
      obtain ⟨-, b1, -, b3, -, -⟩ := op_cells (ho2.at (b := w.heap.size) mem2).1
      have hst := ho2.swap.rstep HT.out hn htt ⟨1, x, ⟨#[]⟩, p⟩ ⟨by simp, by simp⟩ (fun e => absurd rfl e) (pv := .slice pa p.length pc) (fun F w' h1 h2 => old_reads HP.out ho2.keeps F w' h1 h2)
      rw [HSA.out] at hst
      have HST := Lib.hid hst
      clear ho ho2 hst HO2 HP HT HSA
      go_wp2_with fail
      refine HST.out.mono ?_
      rintro e w3 ⟨rfl, ho3⟩
      have HO := Lib.hid ho3.swap.unbox
      clear ho3 HST
      simp only at HO ⊢
      go_wp2_with fail
      go_ret
      exact ⟨rfl, HO.out⟩
end
end Go.Proofs.Ytlinkpjneehnbaa
