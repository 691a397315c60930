/- The walk of JournalScans, whole. -/
import Derived.Test.YtlinkpjneehnbaaScansW
namespace Go.Proofs.Ytlinkpjneehnbaa
set_option linter.unusedVariables false
open Go.RowKit Go.MapKept

/-- What the outer loop of JournalScans holds to: the records from i on are as they were. -/
structure ScansRel (w1 w3 wx : World) (top : Nat) (v2 : Value) (ps : List Value) (recs : List (List UInt8)) (i : Nat) (ll : List (List UInt8)) : Prop where
  at_ : RecsAt wx w1.heap.size top v2 ps ll
  keep : Keeps (fun b => w1.heap.size ≤ b ∧ b < top) w3 wx
  len : ll.length = recs.length
  rest : ∀ j, i ≤ j → ll[j]? = recs[j]?
/-- The inner one. -/
structure ScansRel2 (w1 w3 wx : World) (top : Nat) (v2 : Value) (ps : List Value) (recs : List (List UInt8)) (i k : Nat) (l l' : List UInt8) (ll : List (List UInt8)) : Prop where
  at_ : RecsAt wx w1.heap.size top v2 ps ll
  keep : Keeps (fun b => w1.heap.size ≤ b ∧ b < top) w3 wx
  len : ll.length = recs.length
  rest : ∀ j, i < j → ll[j]? = recs[j]?
  cur : ll[i]? = some l'
  len2 : l'.length = l.length
  rest2 : ∀ j, k ≤ j → l'[j]? = l[j]?
theorem ScansRel2.step {w1 w3 wx : World} {top : Nat} {v2 : Value} {ps : List Value} {recs : List (List UInt8)} {i k : Nat} {l l' : List UInt8} {ll : List (List UInt8)} (h : ScansRel2 w1 w3 wx top v2 ps recs i k l l' ll) {wy : World} (hk : Keeps (fun _ => False) wx wy) (hkl : k < l.length) (b : UInt8) {p : Value} (hp : ps[i]? = some p) :
    ∃ g c, p = .slice (some ⟨g, 0, none⟩) l.length c ∧ wy.cell? ⟨g, k, none⟩ = some (.int .u8 (l[k].toNat : Int)) ∧ wy.frozen? ⟨g, k, none⟩ = false ∧
      ScansRel2 w1 w3 (wy.setCell ⟨g, k, none⟩ (.int .u8 (b.toNat : Int))) top v2 ps recs i (k + 1) l (l'.set k b) (ll.set i (l'.set k b)) := by
  have h2 := h.len2
  obtain ⟨g, c, e, h3, h4, h5, h6, h7, h8⟩ := (h.at_.keep hk).set hp h.cur (k := k) (by omega) b
  rw [h2] at e
  have e1 : l'[k]'(by omega) = l[k] := by
    have := h.rest2 k (Nat.le_refl _)
    rw [List.getElem?_eq_getElem (by omega), List.getElem?_eq_getElem hkl] at this
    exact Option.some.inj this
  rw [e1] at h5
  have hi : i < ll.length := (List.getElem?_eq_some_iff.1 h.cur).1
  refine ⟨g, c, e, h5, h6, h7, (h.keep.trans hk (fun _ _ e => e.elim)).trans h8 (fun x _ e => by subst e; exact ⟨h3, h4⟩), by rw [List.length_set]; exact h.len, fun j hj => ?_, ?_, by rw [List.length_set]; exact h2, fun j hj => ?_⟩
  · rw [List.getElem?_set_ne (by omega)]; exact h.rest j hj
  · rw [List.getElem?_set_self hi]
  · rw [List.getElem?_set_ne (by omega)]; exact h.rest2 j (by omega)

theorem frames_count (ll : List (List UInt8)) : 8 * ll.length ≤ (framesOf ll).length := by
  induction ll with
  | nil => simp
  | cons p ll ih => rw [framesOf_cons, List.length_append, frameOf_length, List.length_cons]; omega
set_option maxRecDepth 100000 in
set_option maxHeartbeats 2000000 in
theorem scans_walk (a : Option Addr) (cap : Nat) (l : List UInt8) (w0 : World) (hb : l.length ≤ 1048576) (hrd : Reads w0 (.slice a l.length cap) l) :
    Calls Try.prog 6 #[.slice a l.length cap] w0 fun e w' => e = .returned (.bool true) ∧ Below w0.heap.size w0 w' := by
  have htw := twin_calls hrd (by omega)
  have HRD := Lib.hid hrd
  have HB := Lib.hid hb
  clear hrd hb
  go_enter Try.func6, Try.ntmps6
  go_wp2_with fail
  refine htw.mono ?_
  rintro e w1 ⟨v1, rfl, ho1, hk1⟩
  have hsc := scan_calls (HRD.out.keep hk1) (by have := HB.out; omega)
  obtain ⟨a1, c1, rfl, _, _⟩ := ho1.bytes.form
  have HO1 := Lib.hid ho1
  have HK1 := Lib.hid hk1
  clear htw ho1 hk1
  go_wp2_with fail
  refine hsc.mono ?_
  rintro e w2 ⟨v2, rfl, ho2, hk2⟩
  have hsc2 := rscan_calls (HRD.out.keep (HK1.out.trans hk2 (fun _ _ e => e))) (by have := HB.out; omega)
  obtain ⟨a2, c2, rfl⟩ := ho2.form
  have HO2 := Lib.hid ho2
  have HK2 := Lib.hid hk2
  clear hsc ho2 hk2
  go_wp2_with fail
  refine hsc2.mono ?_
  rintro e w3 ⟨v3, rfl, ho3, hk3⟩
  obtain ⟨a3, c3, rfl⟩ := ho3.form
  obtain ⟨ps, hps⟩ := (HO2.out).recsAt
  have hsmall := scan_frames_le l
  have hfl := frames_count (scanOf l).1
  have hrel0 : ScansRel w1 w3 w3 w2.heap.size (.slice a2 (scanOf l).1.length c2) ps (scanOf l).1 0 (scanOf l).1 := ⟨hps.keep hk3, Keeps.refl _ _, rfl, fun _ _ => rfl⟩
  have hrl : ∀ p ∈ (scanOf l).1, p.length ≤ 1048576 := scanFrom_small _ _
  have hB := HB.out
  have j9 : ((scanOf l).1.length : Int) ≤ 1048576 := by omega
  have HRL := Lib.hid hrl
  have HO3 := Lib.hid ho3
  have HK3 := Lib.hid hk3
  have HR0 := Lib.hid hrel0
  generalize scanOf l = sc at HR0 HO3 HRL j9 HO2 ⊢
  obtain ⟨recs, used⟩ := sc
  simp only at HR0 HO3 HRL j9 HO2 ⊢
  clear hsc2 ho3 hk3 hps hsmall hfl hrel0 hrl hB
  go_wp2_with fail
  go_loopw [24] (fun i wx => ∃ (n : Nat) (ll : List (List UInt8)), i = .int .i64 (n : Int) ∧ n ≤ recs.length ∧ ScansRel w1 w3 wx w2.heap.size (.slice a2 recs.length c2) ps recs n ll) (fun i _ => recs.length - (intOf i).toNat)
  case atStart => exact ⟨0, recs, rfl, Nat.zero_le _, HR0.out⟩
  case round =>
    obtain ⟨n, ll, rfl, hn, hrel⟩ := hrel
    have j0 : (0 : Int) ≤ n := by omega
    clear HR0
    by_cases hlt : n < recs.length
    · obtain ⟨r, hr⟩ : ∃ r, recs[n]? = some r := ⟨recs[n], List.getElem?_eq_getElem hlt⟩
      have hlr : ll[n]? = some r := by rw [hrel.rest n (Nat.le_refl _)]; exact hr
      have hrr := HRL.out r (List.mem_of_getElem? hr)
      obtain ⟨x2, c2', p, e, hp, hcx, hop⟩ := hrel.at_.cell hlr
      rw [hrel.len] at e
      cases e
      obtain ⟨pa, pc, rfl, _, _⟩ := hop.bytes.form
      have hrel2 : ScansRel2 w1 w3 wr w2.heap.size (.slice (some x2) recs.length c2) ps recs n 0 r r ll := ⟨hrel.at_, hrel.keep, hrel.len, fun j hj => hrel.rest j (by omega), hlr, rfl, fun _ _ => rfl⟩
      have H2 := Lib.hid hrel2
      have HP := Lib.hid hp
      have HR := Lib.hid hr
      have HLT := Lib.hid hlt
      have j1 : (n : Int) < recs.length := by omega
      have j2 : (r.length : Int) ≤ 1048576 := by omega
      clear hrel hlr hrr hop hrel2 hp hr hlt hn
      go_wp2_with fail
      obtain ⟨wo, hwo⟩ : ∃ wo : World, wo = wr := ⟨_, rfl⟩
      rw [← hwo] at H2 hcx ⊢
      clear hwo hcx
      go_loopw [32] (fun i wx => ∃ (k : Nat) (l' : List UInt8) (ll : List (List UInt8)), i = .int .i64 (k : Int) ∧ k ≤ r.length ∧ ScansRel2 w1 w3 wx w2.heap.size (.slice (some x2) recs.length c2) ps recs n k r l' ll) (fun i _ => r.length - (intOf i).toNat)
      case atStart => exact ⟨0, r, ll, rfl, Nat.zero_le _, H2.out⟩
      case round =>
        obtain ⟨k, l', ll, rfl, hk, h2⟩ := hrel
        have j3 : (0 : Int) ≤ k := by omega
        clear H2
        by_cases hkl : k < r.length
        · obtain ⟨y2, c2', p', e, hp', hcx, hop⟩ := h2.at_.cell h2.cur
          rw [h2.len] at e
          cases e
          rw [HP.out] at hp'
          cases hp'
          have hw := HO3.out.keepAbove h2.keep (Nat.le_refl _)
          obtain ⟨_, x3, q, rfl, hcy, hoq⟩ := hw.cell HR.out
          obtain ⟨qa, qc, rfl, _, _⟩ := hoq.bytes.form
          obtain ⟨y, rfl, hcq⟩ := hoq.bytes.reads.cell rfl hkl
          obtain ⟨g, c, e, hcp, hfp, hx0⟩ := h2.step (Keeps.refl _ wr) hkl (r[k] ^^^ 255) HP.out
          simp only [Value.slice.injEq] at e
          obtain ⟨rfl, -, rfl⟩ := e
          have hst : ∀ m : Nat, ScansRel2 w1 w3 ({ wr with drawn := m }.setCell ⟨g, k, none⟩ (.int .u8 ((r[k] ^^^ 255).toNat : Int))) w2.heap.size (.slice (some x2) recs.length c2) ps recs n (k + 1) r (l'.set k (r[k] ^^^ 255)) (ll.set n (l'.set k (r[k] ^^^ 255))) := fun m => by
            obtain ⟨g', c', e, _, _, h⟩ := h2.step (wy := { wr with drawn := m }) ((Keeps.refl _ wr).drewN m) hkl (r[k] ^^^ 255) HP.out
            cases e
            exact h
          have e1 : bits .xor .u8 (r[k].toNat : Int) 255 = ((r[k] ^^^ 255).toNat : Int) := by
            rw [UInt8.toNat_xor]; exact u8_xor_nat _ 255 (UInt8.toNat_lt _) (by omega)
          have hby := r[k].toNat_lt
          have HST := Lib.hid hst
          generalize r[k] ^^^ 255 = yb at e1 HST
          generalize r[k].toNat = xb at hcp hcq e1 hby
          have j4 : (k : Int) < r.length := by omega
          have j5 : (xb : Int) < 256 := by omega
          have j6 : (0 : Int) ≤ xb := by omega
          have HKL := Lib.hid hkl
          clear h2 hop hw hoq hst hby hx0 hkl hk
          go_wp2_with fail
          go_quiet (fail)
          go_wp2_with fail
          go_roundw
          case rel => exact ⟨k + 1, _, _, rfl, HKL.out, HST.out _⟩
          case measure => have := HKL.out; simp [intOf]; omega
        · obtain rfl : k = r.length := by omega
          have hnew : ScansRel w1 w3 wr w2.heap.size (.slice (some x2) recs.length c2) ps recs (n + 1) ll := ⟨h2.at_, h2.keep, h2.len, fun j hj => h2.rest j (by omega)⟩
          have HN := Lib.hid hnew
          have hlt := HLT.out
          clear h2 hk hkl hnew
          go_wp2_with fail
          go_roundw
          case rel => exact ⟨n + 1, ll, rfl, HLT.out, HN.out⟩
          case measure => have := HLT.out; simp [intOf]; omega
    · obtain rfl : n = recs.length := by omega
      have hk13 : Keeps (fun _ => False) w1 w3 := HK2.out.trans HK3.out (fun _ _ e => e)
      have hz1 := HK1.out.size
      have hz3 := hk13.size
      have hk0 : Keeps (fun _ => False) w0 wr := (HK1.out.trans hk13 (fun _ _ e => e)).trans hrel.keep (fun b hb e => by omega)
      have ho1 : Owns wr w0.heap.size (.slice a1 l.length c1) l := owns_keep (Owns.keep (v := .slice a1 l.length c1) HO1.out hk13) hrel.keep (fun b hb e => by have := owns_lt HO1.out b hb; omega)
      have haw := awakeJ_calls wr
      have HA := Lib.hid (HRD.out.keep hk0)
      have HO := Lib.hid ho1
      have HK := Lib.hid hk0
      clear hk13 hz1 hz3 hk0 ho1 hrel hlt hn
      go_wp2_with fail
      refine haw.mono ?_
      rintro e w5 ⟨rfl, hk5⟩
      have hsm := same_calls (HA.out.keep hk5) (Owns.keep (v := .slice a1 l.length c1) HO.out hk5).bytes.reads
      rw [decide_eq_true rfl] at hsm
      have HSM := Lib.hid hsm
      have HK5 := Lib.hid (HK.out.trans hk5 (fun _ _ e => e))
      clear hk5 hsm haw
      go_wp2_with fail
      refine HSM.out.mono ?_
      rintro e w6 ⟨rfl, hk6⟩
      have HK6 := Lib.hid (HK5.out.trans hk6 (fun _ _ e => e)).below
      clear hk6
      go_wp2_with fail
      go_ret
      exact ⟨rfl, HK6.out⟩
end Go.Proofs.Ytlinkpjneehnbaa
