/- What layer 10 answers awake: true. -/
import Derived.Test.YtlinkpjneehnbaaJrnB
import Derived.Test.YtlinkpjneehnbaaAwake
namespace Go.Proofs.Ytlinkpjneehnbaa
open Go.RowKit Go.MapKept

theorem Reads.str {w : World} {v : Value} {l : List UInt8} (h : Reads w v l) : (convert 31 9 v).run Try.prog w = .ok (.string ⟨l.toArray⟩) w := by
  rcases h with ⟨rfl, rfl⟩ | ⟨x, c, rfl, h1, h2, h3⟩
  · exact Lib.run_convert_nil_bytes w 31 9 5 0 Try.underlying31 Try.underlying5 Try.underlying9
  · refine run_convert_bytes_back w 31 9 5 x c l Try.underlying31 Try.underlying5 Try.underlying9 (fun j hj => ?_)
    exact h3 j (u8v l[j]) (by simp [hj])
def nmJ : ByteArray := ⟨#[106]⟩
theorem nmJ_name : isName nmJ = true ∧ isName (tmpOf nmJ) = true := by
  constructor
  · simp [isName, nmJ]; rfl
  · have h1 : (tmpOf nmJ).toList = [106, 43] := by decide +kernel
    have h2 : (tmpOf nmJ).size = 2 := by decide +kernel
    simp [isName, h1, h2]
/-- A disk with one file, without loose changes. -/
def oneM (room : Int) (b : List UInt8) : DM := { newOf room with now := [(nmJ, b)], sure := [(nmJ, b)], loose := [] }
theorem open_empty (room : Int) : openOf (newOf room) nmJ = ⟨0, oneM room [], some ([], 0)⟩ := by
  have h1 : createOf (newOf room) nmJ = (0, { newOf room with now := [(nmJ, [])], loose := [⟨0, nmJ, ⟨#[]⟩, []⟩] }) := by
    rw [Calm.create ⟨rfl, rfl⟩ nmJ_name.1 rfl (by simp [newOf])]
    rfl
  have h2 : runSteps (createSteps nmJ) (newOf room) = (0, oneM room []) := by
    unfold createSteps runSteps
    simp only [h1, if_true]
    unfold runSteps
    have h3 : syncOf { newOf room with now := [(nmJ, [])], loose := [⟨0, nmJ, ⟨#[]⟩, []⟩] } = (0, oneM room []) := by
      simp [syncOf, newOf, synced, spendOf, oneM, doCh, fput, fdel, fins]
    simp only [h3, if_true]
    rfl
  unfold openOf
  rw [if_pos nmJ_name, if_pos (by simp [thereOf, newOf, fget]), h2]
  rfl
theorem open_one (room : Int) (rs : List (List UInt8)) (h : ∀ p ∈ rs, p.length ≤ 1048576) : openOf (oneM room (framesOf rs)) nmJ = ⟨0, oneM room (framesOf rs), some (rs, (framesOf rs).length)⟩ := by
  have hg : (fget (oneM room (framesOf rs)).now nmJ).getD [] = framesOf rs := by simp [oneM, fget]
  unfold openOf
  rw [if_pos nmJ_name, if_neg (by simp [thereOf, oneM, fget, newOf]), if_pos (by simp [thereOf, oneM, fget, newOf]), hg, scan_whole h]
  simp
def awJ2 : DM := { newOf 100 with now := [(nmJ, frameOf [97])], sure := [(nmJ, [])], loose := [⟨1, nmJ, ⟨#[]⟩, frameOf [97]⟩] }
theorem awj1 : appendOf (oneM 100 []) nmJ (frameOf [97]) = (0, awJ2) := by
  have hfl : (frameOf [97]).length = 9 := by rw [frameOf_length]; rfl
  rw [Calm.append ⟨rfl, rfl⟩ (by simp [oneM, fget]) _ (by rw [hfl]; omega)]
  rw [if_neg (by rw [hfl]; simp [oneM, newOf, used])]
  simp [oneM, newOf, fput, fdel, fins, awJ2, fget]
theorem awj2 : jAppendOf (oneM 100 []) nmJ 0 [97] = (0, awJ2, 9) := by
  unfold jAppendOf
  rw [awj1]
  simp
theorem awj3 : syncOf awJ2 = (0, oneM 100 (framesOf [[97]])) := by
  have : framesOf [[97]] = frameOf [97] := by simp [framesOf]
  rw [this]
  simp [syncOf, awJ2, newOf, synced, spendOf, oneM, doCh, fput, fdel, fins, fget]
theorem awj4 : openOf (oneM 100 (framesOf [[97]])) nmJ = ⟨0, oneM 100 (framesOf [[97]]), some ([[97]], 9)⟩ := by
  rw [open_one 100 [[97]] (by simp)]
  have : (framesOf [[97]]).length = 9 := by simp [framesOf, frameOf_length]
  rw [this]

set_option maxRecDepth 100000 in
set_option maxHeartbeats 1000000 in
theorem awakeJ_calls (w0 : World) : Calls Try.prog 32 #[] w0 (QuietP w0 (.bool true)) := by
  obtain ⟨d, w1, hnew, h1⟩ := (Own.start w0).new 100 (by omega) (by omega)
  have g1 := Good.new (room := 100) (by omega) (by omega)
  have hop := open_calls h1 g1 (by omega) nmJ
  have g2 := open_good g1 nmJ
  rw [open_empty] at hop g2
  unfold nmJ at hop
  go_enter Try.func32, Try.ntmps32
  go_wp2_with fail
  refine hnew.out.mono ?_; rintro e w' ⟨rfl, rfl⟩
  go_wp2_with fail
  refine hop.mono ?_
  rintro e w2 (⟨hn, _⟩ | ⟨recs, used, j, v, hres, rfl, h2⟩)
  · cases hn
  simp only [Option.some.injEq, Prod.mk.injEq] at hres
  obtain ⟨rfl, rfl⟩ := hres
  have hv : v = .slice none 0 0 ∨ ∃ a c, v = .slice a 0 c := .inr (by
    obtain ⟨_, a, c, e⟩ := h2.rows (v := v) (ll := []) (by simp)
    exact ⟨a, c, e⟩)
  obtain ⟨va, vc, rfl⟩ : ∃ a c, v = .slice a 0 c := by rcases hv with rfl | ⟨a, c, rfl⟩; exact ⟨_, _, rfl⟩; exact ⟨_, _, rfl⟩
  simp only at h2 g2
  have hconv := Lib.run_convert_bytes_const (P := Try.prog) w2 31 5 #[.int .u8 97] 1 1 Try.underlying31 Try.underlying5
  have h3 := h2.alloc2 (.cells #[.int .u8 97] 5 (1, 2))
  have hb : Reads (w2.alloc (.cells #[.int .u8 97] 5 (1, 2))) (.slice (some ⟨w2.heap.size, 0, none⟩) 1 1) [97] := by
    refine .inr ⟨_, 1, rfl, Nat.le_refl _, by simp [maxLen], fun j u hu => ?_⟩
    match j, hu with
    | 0, hu =>
      simp only [List.map_cons, List.map_nil, List.getElem?_cons_zero, Option.some.injEq] at hu
      rw [← hu, Addr.add_lit]
      exact cell_at (heap_alloc_new w2 _) rfl
    | j + 1, hu => simp at hu
  have hap := jappend_calls (h3.perm (List.Perm.cons _ (List.Perm.swap ..))) (nm := nmJ) (size := 0) g2 (by omega) (by omega) hb
  rw [awj2] at hap
  have HAP := Lib.hid hap
  have G2 := Lib.hid (g2.append nmJ (frameOf [97]))
  rw [awj1] at G2
  clear h3 hb hap hv h2 hop hnew h1 g1 g2
  go_wp2_with fail
  refine HAP.out.mono ?_
  rintro e w3 ⟨rfl, h4⟩
  have hsy := jsync_calls h4 (nm := nmJ) G2.out
  have G3 := Lib.hid G2.out.sync
  rw [awj3] at hsy
  simp only at hsy
  have HSY := Lib.hid hsy
  clear h4 hsy HAP
  go_wp2_with fail
  refine HSY.out.mono ?_
  rintro e w4 ⟨rfl, h5⟩
  simp only at h5
  have g3 := G3.out
  rw [awj3] at g3
  have hop2 := open_calls h5 g3 (by omega) nmJ
  rw [awj4] at hop2
  unfold nmJ at hop2
  have HO2 := Lib.hid hop2
  have H5 := Lib.hid h5
  clear hop2 HSY G2 G3 g3 h5
  go_wp2_with fail
  refine HO2.out.mono ?_
  rintro e w5 (⟨hn, _⟩ | ⟨recs, used, j2, v2, hres, rfl, h6⟩)
  · cases hn
  simp only [Option.some.injEq, Prod.mk.injEq] at hres
  obtain ⟨rfl, rfl⟩ := hres
  obtain ⟨⟨a, c, rfl, hrow⟩, _⟩ := h6.rows (v := v2) (ll := [[97]]) (by simp)
  obtain ⟨x, p, rfl, hcx, hrd⟩ := hrow 0 [97] rfl
  have hstr0 := hrd.str
  obtain ⟨pa, pc, rfl, _, _⟩ := hrd.form
  have hstr : (convert 31 9 (.slice pa 1 pc)).run Try.prog w5 = .ok (.string ⟨#[97]⟩) w5 := hstr0
  clear hstr0
  have hx0 : x.add 0 = x := by obtain ⟨b, o, p⟩ := x; cases p <;> simp [Addr.add]
  rw [hx0] at hcx
  clear hx0
  have hsz := jsize_runs (h6.at (b := j) (o := jrnObj d ⟨#[106]⟩ 9) (by simp)).1
  have hfin := h6.keeps
  have HSZ := Lib.hid hsz
  have HF := Lib.hid hfin
  clear h6 hrow hrd HO2 H5 hsz hfin
  go_wp2_with fail
  refine HSZ.out.out.mono ?_; rintro e w' ⟨rfl, rfl⟩
  go_wp2_with fail
  go_ret
  exact ⟨rfl, HF.out⟩
end Go.Proofs.Ytlinkpjneehnbaa
