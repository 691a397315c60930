/- awake answers true, and nothing that was there has turned. -/
import Derived.Test.YtlinkpjneehnbaaFiles
import Derived.Lib.SlBytesConst
import Derived.Laws.IdiomStrings
import Derived.Lib.BufferRead
namespace Go.Proofs.Ytlinkpjneehnbaa
open Go.RowKit Go.MapKept

theorem Bytes.str {F : Nat → Prop} {w : World} {v : Value} {l : List UInt8} (h : Bytes F w v l) : (convert 31 9 v).run Try.prog w = .ok (.string ⟨l.toArray⟩) w := by
  obtain ⟨a, c, rfl, _, _⟩ := h.form
  cases a with
  | none =>
    rcases h with ⟨e, rfl⟩ | ⟨g, off, cap, cs, fz, e, _⟩
    · simp only [Value.slice.injEq] at e
      obtain ⟨_, _, rfl⟩ := e
      exact Lib.run_convert_nil_bytes w 31 9 5 0 Try.underlying31 Try.underlying5 Try.underlying9
    · cases e
  | some a =>
    refine run_convert_bytes_back w 31 9 5 a c l Try.underlying31 Try.underlying5 Try.underlying9 (fun j hj => ?_)
    have := (h.cells rfl).2 j (u8v l[j]) (by simp [hj])
    exact this

/-- The names and bytes of awake. -/
def nmA : ByteArray := ⟨#[97]⟩
def awM1 : DM := { newOf 9 with now := fput [] nmA [], loose := [⟨0, nmA, ⟨#[]⟩, []⟩] }
def awM2 : DM := { awM1 with now := fput awM1.now nmA [120, 121], loose := awM1.loose ++ [⟨1, nmA, ⟨#[]⟩, [120, 121]⟩] }
theorem aw1 : createOf (newOf 9) nmA = (0, awM1) := by
  rw [Calm.create ⟨rfl, rfl⟩ (by simp [isName, nmA]; rfl) rfl (by simp [newOf])]
  rfl
theorem aw2 : appendOf awM1 nmA [120, 121] = (0, awM2) := by
  rw [Calm.append ⟨rfl, rfl⟩ (by simp [awM1, fput, fdel, fins, fget]) _ (by simp)]
  simp [awM1, newOf, fput, fdel, fins, used, awM2, fget]
theorem aw3 : (crashOf awM2 1 1).now = [(nmA, [120])] ∧ (crashOf awM2 1 1).down = false := by
  constructor
  · simp [crashOf, crashed, crashFs, awM2, awM1, newOf, clampI, doCh, fput, fdel, fins, fget]
  · rfl
theorem aw4 : readCode (crashOf awM2 1 1) nmA 0 9 = 0 ∧ readBytes (crashOf awM2 1 1) nmA 0 9 = [120] := by
  obtain ⟨h1, h2⟩ := aw3
  have ht : thereOf (crashOf awM2 1 1) nmA = 0 := by simp [thereOf, h1, h2, fget]
  constructor
  · simp [readCode, ht]
  · simp [readBytes, ht, h1, fget, pieceOf]

theorem awFits : ∀ k c, awM2.loose[k]? = some c → Fits ((awM2.loose.take k).foldl doCh awM2.sure) c ∧ ∀ j, Fits ((awM2.loose.take k).foldl doCh awM2.sure) { c with p := c.p.take j } := by
  intro k c hc
  match k, hc with
  | 0, hc =>
    simp [awM2, awM1] at hc
    subst hc
    exact ⟨⟨by simp, by simp⟩, fun j => ⟨by simp, by simp⟩⟩
  | 1, hc =>
    simp [awM2, awM1] at hc
    subst hc
    refine ⟨⟨by simp, fun _ => ?_⟩, fun j => ⟨by simp, fun _ => ?_⟩⟩
    · simp [awM2, awM1, newOf, doCh, fput, fdel, fins, fget]
    · simp [awM2, awM1, newOf, doCh, fput, fdel, fins, fget]
      omega
  | k + 2, hc => simp [awM2, awM1] at hc

set_option maxRecDepth 100000 in
set_option maxHeartbeats 1000000 in
theorem awake_calls (w : World) : Calls Try.prog 19 #[] w (QuietP w (.bool true)) := by
  obtain ⟨d, w1, hnew, h1, k1⟩ := new_runs w 9 (by omega) (by omega)
  obtain ⟨w2, hcr, h2, k2⟩ := create_runs h1 nmA (by simp [newOf]) (by simp [newOf])
  rw [aw1] at hcr h2
  have hconv := Lib.run_convert_bytes_const (P := Try.prog) w2 31 5 #[.int .u8 120, .int .u8 121] 2 2 Try.underlying31 Try.underlying5
  have hB : Bytes (fun _ => True) (w2.alloc (.cells #[.int .u8 120, .int .u8 121] 5 (2, 3))) (.slice (some ⟨w2.heap.size, 0, none⟩) 2 2) [120, 121] :=
    .inr ⟨_, 0, 2, _, _, rfl, trivial, heap_alloc_new w2 _, by simp, by simp [maxLen], by simp, fun i c hi => by
      match i, hi with
      | 0, hi => simp at hi; subst hi; rfl
      | 1, hi => simp at hi; subst hi; rfl
      | i + 2, hi => simp at hi⟩
  have h3 : DiskIs (Ext (Ext (fun _ => False) w w1) w1 w2) (w2.alloc (.cells #[.int .u8 120, .int .u8 121] 5 (2, 3))) d awM1 := h2.keep (fun b hb => Below.heap_alloc _ _ _ (h2.lt b hb))
  have happ := append_calls h3 nmA hB.reads (by simp [awM1, newOf]) (by simp [awM1, newOf]) (by simp [awM1, newOf, fput, fdel, fins, used]) (by simp [awM1, newOf, fput, fdel, fins, used, fget]) (by simp [awM1, newOf]) (by simp [awM1])
  rw [aw2] at happ
  unfold nmA at hcr happ
  have K2 := Lib.hid k2
  clear k2 h2 h3 hB
  go_enter Try.func19, Try.ntmps19
  go_wp2_with (first | (go_at_call 18; refine hnew.out.mono ?_; rintro e w' ⟨rfl, rfl⟩) | (go_at_call 20; refine hcr.out.mono ?_; rintro e w' ⟨rfl, rfl⟩) | (go_at_call 21; refine happ.mono ?_; rintro e w4 ⟨rfl, h4, k4⟩))
  have hcrash := crash_calls h4 1 1 awFits
  refine hcrash.mono ?_
  rintro e w5 ⟨rfl, h5, k5⟩
  obtain ⟨v, w6, hread, hB6, k6⟩ := read_runs h5 nmA 0 9 (by rw [aw3.1]; simp [fget])
  rw [aw4.1] at hread
  rw [aw4.2] at hB6
  obtain ⟨va, vc, rfl, _, _⟩ := hB6.form
  have hstr : (convert 31 9 (.slice va 1 vc)).run Try.prog w6 = .ok (.string ⟨#[120]⟩) w6 := hB6.str
  have kk : Keeps (fun _ => False) w w6 := by
    have a1 : Keeps (fun _ => False) w w2 := k1.rebase K2.out
    have a2 := a1.trans ((Keeps.refl (fun _ => False) w2).alloc (.cells #[.int .u8 120, .int .u8 121] 5 (2, 3))) (fun _ _ e => e)
    have z1 := k1.size
    have z2 := K2.out.size
    have z4 := k4.size
    simp only [World.size_alloc] at z4
    have a3 : Keeps (fun _ => False) w w4 := a2.trans k4 (fun b hb e => by
      rcases e with (e | e) | e
      · exact e
      · omega
      · omega)
    have a4 : Keeps (fun _ => False) w w5 := a3.trans k5 (fun b hb e => by
      rcases e with ((e | e) | e) | e
      · exact e
      · omega
      · omega
      · simp only [World.size_alloc] at e; omega)
    exact a4.trans k6 (fun _ _ e => e)
  have KK := Lib.hid kk
  unfold nmA at hread
  clear h4 k4 h5 k5 k6 hB6 kk hcrash happ
  go_wp2_with (go_at_call 27; refine hread.out.mono ?_; rintro e w' ⟨rfl, rfl⟩)
  go_ret
  exact ⟨rfl, KK.out⟩
end Go.Proofs.Ytlinkpjneehnbaa
