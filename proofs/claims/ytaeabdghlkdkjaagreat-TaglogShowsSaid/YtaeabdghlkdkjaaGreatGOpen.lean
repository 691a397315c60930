/- taglog: Open. -/
import Derived.Test.YtaeabdghlkdkjaaGreatGAddT
namespace Go.Proofs.YtaeabdghlkdkjaaGreat
set_option linter.unusedVariables false
open Go.RowKit Go.MapKept

def hdG : ByteArray := ⟨#[103, 47]⟩
/-- The entries that stand behind keys, in order, if these are the log's. -/
def gFrom (fs : FS) : List ByteArray → List (List UInt8) → Option (List (List UInt8))
  | [], es => some es
  | k :: ks, es => if k = keyOf es.length ∧ es.length < 1048576 then gFrom fs ks (es ++ [(fget fs k).getD []]) else none
def gOpenOf (fs : FS) : Option (List (List UInt8)) := gFrom fs (keysOf fs hdG ⟨#[]⟩ (fs.length : Int)) []
theorem gFrom_step {fs : FS} {ks : List ByteArray} {k : ByteArray} {i : Nat} (hk : ks[i]? = some k) {es : List (List UInt8)} : gFrom fs (ks.drop i) es = if k = keyOf es.length ∧ es.length < 1048576 then gFrom fs (ks.drop (i + 1)) (es ++ [(fget fs k).getD []]) else none := by
  obtain ⟨hi, rfl⟩ := List.getElem?_eq_some_iff.1 hk
  rw [List.drop_eq_getElem_cons hi, gFrom]
theorem fget_small {fs : FS} {N : Nat} (h : ∀ p ∈ fs, p.2.length ≤ N) (k : ByteArray) : ((fget fs k).getD []).length ≤ N := by
  cases hf : fget fs k with
  | none => simp
  | some v => exact h _ (mem_of_fget hf)
def GOpenPost (w : World) (d j t b : Nat) (nm : ByteArray) (T : TM) (rs : List (Res w.heap.size)) (e : Ending) (w' : World) : Prop :=
  match gOpenOf T.fs with
  | none => e = .returned (.tuple #[.pointer none, .int .i64 200]) ∧ Own w w' (tRes w.heap.size d j t b nm T ++ rs)
  | some es => ∃ g ve vl, e = .returned (.tuple #[.pointer (some ⟨g, 0, none⟩), .int .i64 0]) ∧ Own w w' (tRes w.heap.size d j t b nm T ++ (gRes w.heap.size g t ve vl es ++ rs))
theorem gopen_none {w w' : World} {d j t b : Nat} {nm : ByteArray} {T : TM} {rs : List (Res w.heap.size)} (hr : gOpenOf T.fs = none) (h : Own w w' (tRes w.heap.size d j t b nm T ++ rs)) : GOpenPost w d j t b nm T rs (.returned (.tuple #[.pointer none, .int .i64 200])) w' := by
  unfold GOpenPost
  rw [hr]
  exact ⟨rfl, h⟩
theorem gopen_some {w w' : World} {d j t b g : Nat} {ve vl : Value} {es : List (List UInt8)} {nm : ByteArray} {T : TM} {rs : List (Res w.heap.size)} (hr : gOpenOf T.fs = some es) (h : Own w w' (tRes w.heap.size d j t b nm T ++ (gRes w.heap.size g t ve vl es ++ rs))) : GOpenPost w d j t b nm T rs (.returned (.tuple #[.pointer (some ⟨g, 0, none⟩), .int .i64 0])) w' := by
  unfold GOpenPost
  rw [hr]
  exact ⟨g, ve, vl, rfl, h⟩
/-- Keys of one's own. -/
def rStrs (B : Nat) (v : Value) (l : List ByteArray) : Res B := rRaw B v 9 1 l.length (l.map Value.string)
section
variable {w wr : World} {g t d j b : Nat} {ve vl kv : Value} {es : List (List UInt8)} {ks : List ByteArray} {nm : ByteArray} {T : TM} {rs : List (Res w.heap.size)}
theorem Own.addStrs {w1 : World} (h : Own w wr rs) (hd : StrsAt wr.heap.size w1 kv ks) (hk : Keeps (fun _ => False) wr w1) : Own w w1 (rStrs w.heap.size kv ks :: rs) :=
  h.add hk (r := rStrs _ kv ks) (G := fun b => kv.ownBlock = some b) ⟨hd.base (Nat.zero_le _), fun _ hb => hb⟩ (fun b hb => hd.lt b hb)
theorem Own.strs (h : Own w wr rs) (hm : rStrs w.heap.size kv ks ∈ rs) : StrsAt 0 wr kv ks := by
  obtain ⟨F, ⟨ho, _⟩, _⟩ := h.mem hm
  exact ho
theorem Own.newLog (h : Own w wr rs) : Own w (wr.alloc (logObj t (.slice none 0 0) (.slice none 0 0))) (gRes w.heap.size wr.heap.size t (.slice none 0 0) (.slice none 0 0) [] ++ rs) := by
  have h1 := (h.alloc (logObj t (.slice none 0 0) (.slice none 0 0))).nilRows.nilDigs
  exact h1.third.perm (List.Perm.cons _ (List.Perm.swap ..))
theorem Own.logLast (h : Own w wr (gRes w.heap.size g t ve vl es ++ (tRes w.heap.size d j t b nm T ++ rs))) : Own w wr (tRes w.heap.size d j t b nm T ++ (gRes w.heap.size g t ve vl es ++ rs)) :=
  h.perm (by rw [← List.append_assoc, ← List.append_assoc]; exact (List.perm_append_comm).append_right _)
theorem Own.dropMid {r : Res w.heap.size} {l₁ l₂ : List (Res w.heap.size)} (h : Own w wr (l₁ ++ r :: l₂)) : Own w wr (l₁ ++ l₂) := (Own.pull h).drop
theorem perm_mid {α : Type} (A B C : List α) (s : α) : (A ++ (s :: (B ++ C))).Perm (B ++ (A ++ (s :: C))) := by
  refine List.perm_middle.trans ?_
  refine List.Perm.trans ?_ ((List.perm_middle (l₁ := A)).symm.append_left B)
  refine List.Perm.trans ?_ List.perm_middle.symm
  refine List.Perm.cons _ ?_
  rw [← List.append_assoc, ← List.append_assoc]
  exact (List.perm_append_comm).append_right _
theorem Own.noLog (h : Own w wr (gRes w.heap.size g t ve vl es ++ rs)) : Own w wr rs := Own.drop (Own.drop (Own.drop h))
end
set_option maxRecDepth 100000 in
set_option maxHeartbeats 2000000 in
theorem gOpen_calls {w w0 : World} {d j t b : Nat} {nm : ByteArray} {T : TM} {rs : List (Res w.heap.size)} (h : Own w w0 (tRes w.heap.size d j t b nm T ++ rs))
    (hs : FSorted T.fs) (hn : ∀ p ∈ T.fs, p.1.size ≤ maxLen) (hl : T.fs.length ≤ 1099511627775) (hv : ∀ p ∈ T.fs, p.2.length ≤ 70368744177662) :
    Calls Tryz.prog 32 #[.pointer (some ⟨t, 0, none⟩)] w0 (GOpenPost w d j t b nm T rs) := by
  have hu : ∀ {W : World} {rs' : List (Res w.heap.size)}, Own w W (tRes w.heap.size d j t b nm T ++ rs') → W.heap[t]? = some (tabObj j b T.down) ∧ ∃ F : Nat → Prop, MapFs F W b T.fs := fun {W rs'} h => by
    obtain ⟨F, ⟨_, hm⟩, _⟩ := h.mem (r := rMap w.heap.size b T.fs) (by simp [tRes])
    exact ⟨(h.at (b := t) (o := tabObj j b T.down) (by simp [tRes])).1, F, hm⟩
  have h1 := h.newLog (t := t)
  obtain ⟨ht1, F1, hm1⟩ := hu h1.logLast
  have hln := tlen_runs ht1 hm1
  have hky := tkeys_calls ht1 hm1 hs hn hl hdG ⟨#[]⟩ (T.fs.length : Int)
  obtain ⟨R, hR⟩ : ∃ R, gOpenOf T.fs = R := ⟨_, rfl⟩
  have hR' := hR
  unfold gOpenOf at hR'
  generalize keysOf T.fs hdG ⟨#[]⟩ (T.fs.length : Int) = ks at hky hR'
  have HLN := Lib.hid hln
  have HKY := Lib.hid hky
  have HR := Lib.hid (⟨hR, hR'⟩ : gOpenOf T.fs = R ∧ gFrom T.fs ks [] = R)
  have H1 := Lib.hid h1
  have HU := Lib.hid (fun W rs' => @hu W rs')
  have HV := Lib.hid (fget_small hv)
  unfold hdG at HKY
  clear h hs hn hl hv h1 hu ht1 hm1 hln hky hR hR' F1
  go_enter Tryz.func32, Tryz.ntmps32
  go_wp2_with fail
  refine HLN.out.out.mono ?_; rintro e w' ⟨rfl, rfl⟩
  go_wp2_with fail
  refine HKY.out.mono ?_
  rintro e w1 ⟨kv, rfl, hkv, hk1⟩
  have h2 := (H1.out.quiet hk1)
  obtain ⟨ka, kc, rfl⟩ := hkv.form
  have h3 : Own w w1 (rStrs w.heap.size (.slice ka ks.length kc) ks :: (gRes w.heap.size w0.heap.size t (.slice none 0 0) (.slice none 0 0) [] ++ (tRes w.heap.size d j t b nm T ++ rs))) := H1.out.addStrs hkv hk1
  have h4 : Own w w1 (gRes w.heap.size w0.heap.size t (.slice none 0 0) (.slice none 0 0) [] ++ (rStrs w.heap.size (.slice ka ks.length kc) ks :: (tRes w.heap.size d j t b nm T ++ rs))) := h3.perm (List.perm_middle (l₁ := gRes _ _ _ _ _ _)).symm
  have H4 := Lib.hid h4
  clear hkv hk1 h2 h3 h4 H1 HKY HLN
  go_wp2_with fail
  go_loopw [19] (fun iv wx => ∃ (k : Nat) (es : List (List UInt8)) (ve vl : Value), k ≤ ks.length ∧ iv = .int .i64 (k : Int) ∧ es.length = k ∧ gFrom T.fs ks [] = gFrom T.fs (ks.drop k) es ∧ Own w wx (gRes w.heap.size w0.heap.size t ve vl es ++ (rStrs w.heap.size (.slice ka ks.length kc) ks :: (tRes w.heap.size d j t b nm T ++ rs)))) (fun iv _ => ks.length - (intOf iv).toNat)
  case atStart => exact ⟨0, [], _, _, Nat.zero_le _, rfl, rfl, rfl, H4.out⟩
  case round =>
    obtain ⟨k, es, ve, vl, hk, rfl, hke, hinv, ho⟩ := hrel
    have k0 : (0 : Int) ≤ k := by omega
    have hst := ho.strs (kv := .slice ka ks.length kc) (ks := ks) (by simp)
    by_cases hlt : k < ks.length
    · obtain ⟨s, hks⟩ : ∃ s, ks[k]? = some s := ⟨ks[k], List.getElem?_eq_getElem hlt⟩
      obtain ⟨g2, rfl, hc1, hcap, -⟩ := hst.cell hks
      rw [gFrom_step hks, hke] at hinv
      have k1 : (k : Int) < ks.length := by omega
      have hk1 : k + 1 ≤ ks.length := by omega
      have i1 : (ks.length : Int) ≤ 9223372036854775807 := by
        rcases hst.2 with ⟨h0, -⟩ | ⟨g', cap, cur, e, _, _, h3, h4, _⟩
        · cases h0
        · have h4' : cap ≤ 2 ^ 63 - 1 := h4
          have h3' : ks.length ≤ cap := h3
          omega
      have hkb : k < 18446744073709551616 := by omega
      have HKC := Lib.hid (key_calls wr (k : Int) k (u64_small hkb) hkb)
      have HKE := Lib.hid hke
      have HO := Lib.hid ho
      clear hst hlt ho hke
      by_cases hok : s = keyOf k ∧ k < 1048576
      · rw [if_pos hok] at hinv
        obtain ⟨hs, hlim⟩ := hok
        have j5 : decide ((1048576 : Int) ≤ (k : Int)) = false := decide_eq_false (by omega)
        go_wp2_with fail
        refine HKC.out.mono ?_
        rintro e w2 ⟨rfl, hk2⟩
        have h2 := HO.out.quiet hk2
        have HO2 := Lib.hid h2
        rw [← hs]
        have HLIM := Lib.hid hlim
        have HINV := Lib.hid hinv
        clear HKC hs hk2 h2 HO hc1 hlim hinv
        go_wp2_with fail
        have h3 : Own w w2 (tRes w.heap.size d j t b nm T ++ (gRes w.heap.size w0.heap.size t ve vl es ++ (rStrs w.heap.size (.slice (some ⟨g2, 0, none⟩) ks.length kc) ks :: rs))) := HO2.out.perm (perm_mid _ _ _ _)
        obtain ⟨htc, F, hmc⟩ := HU.out _ _ h3
        have hget := tget_calls htc hmc s (by have := HV.out s; omega)
        refine hget.mono ?_
        rintro e w3 ⟨v, rfl, hv, hk3⟩
        have h4 := HO2.out.addBytes hv hk3
        obtain ⟨va, vc, rfl, -, -⟩ := hv.bytes.form
        have h5 : Own w w3 (gRes w.heap.size w0.heap.size t ve vl es ++ (rBytes w.heap.size (.slice va ((fget T.fs s).getD []).length vc) ((fget T.fs s).getD []) :: rStrs w.heap.size (.slice (some ⟨g2, 0, none⟩) ks.length kc) ks :: (tRes w.heap.size d j t b nm T ++ rs))) := h4.perm (List.perm_middle (l₁ := gRes _ _ _ _ _ _)).symm
        have hadd := gadd_calls h5 (by rw [HKE.out]; have := HLIM.out; omega) (HV.out s) (fun wr ls hw => (hw.bytes (v := .slice va ((fget T.fs s).getD []).length vc) (l := (fget T.fs s).getD []) (by simp)).1)
        have HADD := Lib.hid hadd
        generalize (fget T.fs s).getD [] = val at *
        clear hadd h5 h4 hv hk3 hget htc hmc h3 HO2 HU HV
        go_wp2_with fail
        refine HADD.out.mono ?_
        rintro e w4 ⟨rfl, ve', vl', h6⟩
        have HREL := Lib.hid (⟨k + 1, es ++ [val], ve', vl', hk1, rfl, by rw [List.length_append, HKE.out]; rfl, HINV.out, h6.dropMid⟩ : ∃ (k' : Nat) (es' : List (List UInt8)) (ve vl : Value), k' ≤ ks.length ∧ Value.int .i64 ((k + 1 : Nat) : Int) = .int .i64 (k' : Int) ∧ es'.length = k' ∧ gFrom T.fs ks [] = gFrom T.fs (ks.drop k') es' ∧ Own w w4 (gRes w.heap.size w0.heap.size t ve vl es' ++ (rStrs w.heap.size (.slice (some ⟨g2, 0, none⟩) ks.length kc) ks :: (tRes w.heap.size d j t b nm T ++ rs))))
        clear h6 HADD HINV H4 HR
        go_wp2_with fail
        go_roundw
        case rel => exact HREL.out
        case measure => simp [intOf]; omega
      · rw [if_neg hok] at hinv
        have hnone : gOpenOf T.fs = none := HR.out.1.trans (by rw [← HR.out.2, hinv])
        refine (?_ : _)
        by_cases hs : s = keyOf k
        · have hlim : ¬ k < 1048576 := fun h => hok ⟨hs, h⟩
          have i5 : (1048576 : Int) ≤ k := by omega
          go_wp2_with fail
          refine HKC.out.mono ?_
          rintro e w2 ⟨rfl, hk2⟩
          have hq : (s.toList == (keyOf k).toList) = true := by rw [hs]; simp
          have HF := Lib.hid (gopen_none hnone (Own.drop ((HO.out.quiet hk2).noLog)))
          clear HKC hs hk2 HO hc1 hnone HR HU HV H4 hok hlim
          generalize keyOf k = ky at *
          go_wp2_with fail
          go_ret2
          exact HF.out
        · have hq : (s.toList == (keyOf k).toList) = false := by
            rw [Bool.eq_false_iff]; intro hc
            exact hs (toList_inj (by simpa using hc))
          go_wp2_with fail
          refine HKC.out.mono ?_
          rintro e w2 ⟨rfl, hk2⟩
          have HF := Lib.hid (gopen_none hnone (Own.drop ((HO.out.quiet hk2).noLog)))
          generalize keyOf k = ky at *
          clear HKC hs hk2 HO hc1 hnone HR HU HV H4 hok
          go_wp2_with fail
          go_ret2
          exact HF.out
    · obtain rfl : k = ks.length := by omega
      rw [List.drop_length] at hinv
      have HFIN := Lib.hid (gopen_some (HR.out.1.trans (by rw [← HR.out.2, hinv]; rfl)) (Own.logLast ho.dropMid) : GOpenPost w d j t b nm T rs (.returned (.tuple #[.pointer (some ⟨w0.heap.size, 0, none⟩), .int .i64 0])) wr)
      clear hinv ho hlt hk hst HR HU HV H4
      go_wp2_with fail
      go_ret2
      exact HFIN.out
end Go.Proofs.YtaeabdghlkdkjaaGreat
