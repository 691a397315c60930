/- Steps, up to the first one that fails. -/
import Derived.Test.YtlinkpjneehnbaaOwn
namespace Go.Proofs.Ytlinkpjneehnbaa
open Go.RowKit Go.MapKept

/-- A number is answered, of which R holds. -/
def NPost (R : Int → World → Prop) (e : Ending) (w' : World) : Prop := ∃ r : Int, e = .returned (.int .i64 r) ∧ R r w'
/-- A step of some: it answers a number; 0: the next one's state holds; another one: all is over. -/
def StepOk (N R : Prop) (n : Int) : Prop := (n = 0 → N) ∧ (¬ n = 0 → R)

set_option maxRecDepth 100000 in
theorem steps_calls {w : World} (g n c : Nat) (fid : Nat → FuncId) (fst cap : Nat → Array Value) (I : Nat → World → Prop) (R : Int → World → Prop) (hn : n ≤ 1000) (h0 : I 0 w)
    (hent : ∀ k args w', (callFunc (fid k) args).run Try.prog w' = .ok (.enter (fid k) args) w')
    (hcell : ∀ k w', k < n → I k w' → w'.cell? ⟨g, k, none⟩ = some (.func (.func (fid k)) (fst k) (cap k)))
    (hstep : ∀ k w', k < n → I k w' → Calls Try.prog (fid k) (fst k ++ cap k) w' (NPost (fun r w'' => StepOk (I (k + 1) w'') (R r w'') r)))
    (hend : ∀ w', I n w' → R 0 w') : Calls Try.prog 86 #[.slice (some ⟨g, 0, none⟩) n c] w (NPost R) := by
  have HC := Lib.hid hcell
  have HS := Lib.hid hstep
  have HE := Lib.hid hend
  have HN := Lib.hid hent
  clear hcell hstep hend hent
  go_enter Try.func86, Try.ntmps86
  go_wp2_with fail
  go_loopw [8] (fun i wr => ∃ k : Nat, k ≤ n ∧ i = .int .i64 (k : Int) ∧ I k wr) (fun i _ => n - (intOf i).toNat)
  case atStart => exact ⟨0, Nat.zero_le _, rfl, h0⟩
  case round =>
    obtain ⟨k, hk, rfl, hI⟩ := hrel
    clear h0
    by_cases hlt : k < n
    · have hc := HC.out k wr hlt hI
      have hs := Lib.hid (HS.out k wr hlt hI)
      have j0 : (0 : Int) ≤ k := by omega
      have j1 : (k : Int) < n := by omega
      have he := HN.out k (fst k ++ cap k) wr
      generalize fid k = fi at hc hs he
      generalize fst k = fs at hc hs he
      generalize cap k = ca at hc hs he
      have HI := Lib.hid hI
      clear hI
      go_wp2_with fail
      refine hs.out.mono ?_
      rintro e w1 ⟨r, rfl, h1, h2⟩
      by_cases hr : r = 0
      · have H1 := Lib.hid (h1 hr)
        subst hr
        clear h1 h2 hs he hc
        go_wp2_with fail
        go_roundw
        case rel => exact ⟨k + 1, by omega, rfl, H1.out⟩
        case measure => simp [intOf]; omega
      · have H2 := Lib.hid (h2 hr)
        clear h1 h2 hs he hc
        go_wp2_with fail
        go_ret
        exact ⟨_, rfl, H2.out⟩
    · obtain rfl : k = n := by omega
      have hE := Lib.hid (HE.out wr hI)
      clear hlt hk hI
      go_wp2_with fail
      go_ret
      exact ⟨_, rfl, hE.out⟩
end Go.Proofs.Ytlinkpjneehnbaa
