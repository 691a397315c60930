/- A record's frame: the journal's and the document's. -/
import Derived.Test.YtlinkpjneehnbaaPut
namespace Go.Proofs.Ytlinkpjneehnbaa
open Go.RowKit Go.MapKept

def frameOf (p : List UInt8) : List UInt8 := putOf p.length 4 ++ putOf (crcOf (putOf p.length 4 ++ p)) 4 ++ p
theorem frameOf_length (p : List UInt8) : (frameOf p).length = 8 + p.length := by
  simp [frameOf, putOf_length]; omega
theorem crcOf_lt (l : List UInt8) : crcOf l < 4294967296 := by unfold crcOf; omega
theorem OPost.mono {w w' w2 : World} {l : List UInt8} {e : Ending} (hk : Keeps (fun _ => False) w w') (h : OPost w' l e w2) : OPost w l e w2 := by
  obtain ⟨v, he, ho, hk2⟩ := h
  exact ⟨v, he, ho.base hk.size, hk.trans hk2 (fun _ _ e => e)⟩
/-- A row of new memory, one byte behind the other. -/
theorem Owns.more {w wr : World} {base : Nat} {v : Value} {l p : List UInt8} {pv : Value} (hz : base ≤ wr.heap.size) (ho : Owns wr base v l) (hp : Reads wr pv p) (hb : l.length + p.length ≤ 140737488355328) (hk : Keeps (fun _ => False) w wr) (hw : w.heap.size ≤ base) :
    ∃ v' w', (Builtin.append_ #[31, 31] 31 #[v, pv]).run Try.prog wr = .ok v' w' ∧ Owns w' base v' (l ++ p) ∧ Keeps (fun _ => False) w w' := by
  obtain ⟨v', w', hr, h2, hk2⟩ := ho.grow hz hp hb
  exact ⟨v', w', hr, h2, hk.trans hk2 (fun b hb e => by have := (owns_lt ho b e).2; omega)⟩
theorem Reads.head {w : World} {g n c : Nat} {l : List UInt8} (h : Reads w (.slice (some ⟨g, 0, none⟩) n c) l) : Reads w (.slice (some ⟨g, 0, none⟩) n l.length) l := by
  rcases h with ⟨e, _⟩ | ⟨x, c', e, h1, h2, h3⟩
  · cases e
  · cases e
    exact .inr ⟨_, _, rfl, Nat.le_refl _, by omega, h3⟩
theorem Owns.form {w : World} {base : Nat} {v : Value} {l : List UInt8} (h : Owns w base v l) (hne : l ≠ []) : ∃ g c, v = .slice (some ⟨g, 0, none⟩) l.length c ∧ l.length ≤ c ∧ c ≤ maxLen ∧ Bytes (fun b => base ≤ b) w (.slice (some ⟨g, 0, none⟩) l.length l.length) l := by
  obtain ⟨h1, h2⟩ := h
  rcases h2 with ⟨rfl, e⟩ | ⟨g, cap, cur, rfl, hg, hb, h3, h4, h5, h6⟩
  · exact absurd (List.eq_nil_of_length_eq_zero e) hne
  · refine ⟨g, cap, rfl, h3, h4, .inr ⟨g, 0, l.length, cur, _, rfl, hg, hb, Nat.le_refl _, by omega, by omega, fun i x hx => ?_⟩⟩
    have e := congrArg (fun t : List Value => t[i]?) h6
    have hi : i < l.length := (List.getElem?_eq_some_iff.1 hx).1
    simp only [Nat.mul_one, List.getElem?_take, hi, if_true, List.getElem?_map, hx, Option.map_some] at e
    rw [Nat.zero_add]
    simpa [u8v] using e

set_option maxRecDepth 100000 in
theorem frame_calls {w : World} {v : Value} {p : List UInt8} (h : Reads w v p) (hp : p.length ≤ 1099511627776) : Calls Try.prog 34 #[v] w (OPost w (frameOf p)) := by
  obtain ⟨a, c, rfl, hc1, hc2⟩ := h.form
  have H := Lib.hid h
  clear h
  have hput := put_calls w p.length 4 (by omega) (by omega)
  have j0 : (0 : Int) ≤ p.length := by omega
  have j1 : (p.length : Int) ≤ 1099511627776 := by omega
  go_enter Try.func34, Try.ntmps34
  go_wp2_with fail
  refine hput.mono ?_
  rintro e w1 ⟨v1, rfl, ho1, hk1⟩
  have hl1 : (putOf p.length 4).length = 4 := putOf_length _ _
  obtain ⟨g, c1, rfl, q1, q2, hB1⟩ := ho1.form (by intro e; rw [e] at hl1; simp at hl1)
  obtain ⟨i0, hi, hz0, hz1, hz2⟩ := info_parts info_u8
  obtain ⟨v2, w2, hrun2, hB2, hk2, _⟩ := append_full (P := Try.prog) 31 31 31 5 i0 _ Try.underlying31 Try.underlying31 hi hz0 hz1 hz2 rfl hB1 (H.out.keep hk1) rfl (by omega)
  obtain ⟨a2, c2, rfl, _, _⟩ := hB2.form
  have hcrc := crc_calls hB2.reads
  rw [List.length_append, hl1] at hcrc hrun2
  rw [hl1] at q1
  unfold maxLen at q2
  have j2 : (4 : Int) ≤ c1 := by omega
  have HO := Lib.hid ho1
  have HK := Lib.hid (hk1.trans hk2 (fun _ _ e => e))
  have HK2 := Lib.hid hk2
  have Hrun := Lib.hid hrun2
  have Hc := Lib.hid hcrc
  rw [hl1]
  clear hput ho1 hk1 hk2 hB1 hB2 hrun2 hcrc
  go_wp2_with (at_builtin; refine wpList_append_run (w := w1) rfl _ _ _ _ rfl rfl rfl Hrun.out ?_)
  refine Hc.out.mono ?_
  rintro e w3 ⟨rfl, hk3⟩
  obtain ⟨cc, hcc⟩ : ∃ cc, cc = crcOf (putOf p.length 4 ++ p) := ⟨_, rfl⟩
  have hlt := crcOf_lt (putOf p.length 4 ++ p)
  have hfr : frameOf p = putOf p.length 4 ++ putOf cc 4 ++ p := by rw [hcc]; rfl
  rw [← hcc] at hlt ⊢
  have hput2 := put_calls w3 cc 4 (by omega) (by omega)
  have j3 : (cc : Int) < 4294967296 := by omega
  have j4 : (0 : Int) ≤ cc := by omega
  have HF := Lib.hid hfr
  have HK3 := Lib.hid hk3
  clear hk3 hfr hcc
  go_wp2_with fail
  refine hput2.mono ?_
  rintro e w4 ⟨v4, rfl, ho4, hk4⟩
  have kk14 : Keeps (fun _ => False) w1 w4 := (HK2.out.trans HK3.out (fun _ _ e => e)).trans hk4 (fun _ _ e => e)
  have kk4 : Keeps (fun _ => False) w w4 := (HK.out.trans HK3.out (fun _ _ e => e)).trans hk4 (fun _ _ e => e)
  obtain ⟨v5, w5, hrun5, ho5, hk5⟩ := (HO.out.keep kk14).more kk4.size ho4.bytes.reads (by rw [putOf_length, putOf_length]; omega) kk4 (Nat.le_refl _)
  obtain ⟨v6, w6, hrun6, ho6, hk6⟩ := ho5.more hk5.size (H.out.keep hk5) (by rw [List.length_append, putOf_length, putOf_length]; omega) hk5 (Nat.le_refl _)
  obtain ⟨a4, c4, rfl, _, _⟩ := ho4.bytes.form
  obtain ⟨a5, c5, rfl, _, _⟩ := ho5.bytes.form
  obtain ⟨a6, c6, rfl, _, _⟩ := ho6.bytes.form
  have hl4 : (putOf cc 4).length = 4 := putOf_length _ _
  have hl5 : (putOf p.length 4 ++ putOf cc 4).length = 8 := by rw [List.length_append, putOf_length, putOf_length]
  rw [hl1, hl4, hl5] at hrun5
  rw [hl5] at hrun6
  rw [hl4]
  obtain ⟨n6, hn6⟩ : ∃ n6, n6 = (putOf p.length 4 ++ putOf cc 4 ++ p).length := ⟨_, rfl⟩
  rw [← hn6] at hrun6 ho6
  rw [← HF.out] at ho6
  have Hrun5 := Lib.hid hrun5
  have Hrun6 := Lib.hid hrun6
  have HP := Lib.hid ho6
  have HPK := Lib.hid hk6
  clear hrun5 hrun6 ho4 ho5 ho6 hk4 hk5 hk6 kk14 kk4 hput2 j0 j1 j2 j3 j4 hlt hl1 hl4 hl5 hn6
  go_wp2_with (at_builtin; (first | (refine wpList_append_run (w := w4) rfl _ _ _ _ rfl rfl rfl Hrun5.out ?_) | (refine wpList_append_run (w := w5) rfl _ _ _ _ rfl rfl rfl Hrun6.out ?_)))
  go_ret
  exact ⟨_, rfl, HP.out, HPK.out⟩

/-! ### The document's -/
set_option maxRecDepth 100000 in
theorem rframe_calls {w : World} {v : Value} {p : List UInt8} (h : Reads w v p) (hp : p.length ≤ 1099511627776) : Calls Try.prog 84 #[v] w (OPost w (frameOf p)) := by
  obtain ⟨a, c, rfl, hc1, hc2⟩ := h.form
  have H := Lib.hid h
  clear h
  have hput := rput_calls w p.length 4 (by omega) (by omega) (by omega)
  have j0 : (0 : Int) ≤ p.length := by omega
  have j1 : (p.length : Int) ≤ 1099511627776 := by omega
  go_enter Try.func84, Try.ntmps84
  go_wp2_with fail
  refine hput.mono ?_
  rintro e w1 ⟨v1, rfl, ho1, hk1⟩
  have hl1 : (putOf p.length 4).length = 4 := putOf_length _ _
  have htw := twin_calls ho1.bytes.reads (by omega)
  obtain ⟨a1, c1, rfl, _, _⟩ := ho1.bytes.form
  rw [hl1] at htw ⊢
  have HO := Lib.hid ho1
  have HK := Lib.hid hk1
  clear ho1 hk1 hput j0 j1
  go_wp2_with fail
  refine htw.mono ?_
  rintro e w2 ⟨v2, rfl, ho2, hk2⟩
  have kk2 : Keeps (fun _ => False) w w2 := HK.out.trans hk2 (fun _ _ e => e)
  obtain ⟨v3, w3, hrun3, ho3, hk3⟩ := ho2.more (w := w1) hk2.size (H.out.keep kk2) (by omega) hk2 (Nat.le_refl _)
  have hcrc := rcrc_calls ho3.bytes.reads
  obtain ⟨a2, c2, rfl, _, _⟩ := ho2.bytes.form
  obtain ⟨a3, c3, rfl, _, _⟩ := ho3.bytes.form
  rw [hl1] at hrun3 ⊢
  obtain ⟨n3, hn3⟩ : ∃ n3, n3 = (putOf p.length 4 ++ p).length := ⟨_, rfl⟩
  rw [← hn3] at hrun3 hcrc
  have Hrun3 := Lib.hid hrun3
  have Hc := Lib.hid hcrc
  have HK3 := Lib.hid hk3
  clear hrun3 hcrc hk3 ho2 ho3 hk2 kk2 htw hl1 hn3
  go_wp2_with (at_builtin; (first | (refine wpList_append_run (w := w2) rfl _ _ _ _ rfl rfl rfl Hrun3.out ?_)))
  refine Hc.out.mono ?_
  rintro e w4 ⟨rfl, hk4⟩
  obtain ⟨cc, hcc⟩ : ∃ cc, cc = crcOf (putOf p.length 4 ++ p) := ⟨_, rfl⟩
  have hlt := crcOf_lt (putOf p.length 4 ++ p)
  have hfr : frameOf p = putOf p.length 4 ++ putOf cc 4 ++ p := by rw [hcc]; rfl
  rw [← hcc] at hlt ⊢
  have hput2 := rput_calls w4 cc 4 (by omega) (by omega) (by omega)
  have j3 : (cc : Int) < 4294967296 := by omega
  have j4 : (0 : Int) ≤ cc := by omega
  have HF := Lib.hid hfr
  have HK4 := Lib.hid hk4
  clear hk4 hfr hcc
  go_wp2_with fail
  refine hput2.mono ?_
  rintro e w5 ⟨v5, rfl, ho5, hk5⟩
  have kk15 : Keeps (fun _ => False) w1 w5 := (HK3.out.trans HK4.out (fun _ _ e => e)).trans hk5 (fun _ _ e => e)
  have kk5 : Keeps (fun _ => False) w w5 := HK.out.trans kk15 (fun _ _ e => e)
  obtain ⟨v6, w6, hrun6, ho6, hk6⟩ := (HO.out.keep kk15).more kk5.size ho5.bytes.reads (by rw [putOf_length, putOf_length]; omega) kk5 (Nat.le_refl _)
  obtain ⟨v7, w7, hrun7, ho7, hk7⟩ := ho6.more hk6.size (H.out.keep hk6) (by rw [List.length_append, putOf_length, putOf_length]; omega) hk6 (Nat.le_refl _)
  obtain ⟨a5, c5, rfl, _, _⟩ := ho5.bytes.form
  obtain ⟨a6, c6, rfl, _, _⟩ := ho6.bytes.form
  obtain ⟨a7, c7, rfl, _, _⟩ := ho7.bytes.form
  have hl1 : (putOf p.length 4).length = 4 := putOf_length _ _
  have hl4 : (putOf cc 4).length = 4 := putOf_length _ _
  have hl5 : (putOf p.length 4 ++ putOf cc 4).length = 8 := by rw [List.length_append, putOf_length, putOf_length]
  rw [hl1, hl4, hl5] at hrun6
  rw [hl5] at hrun7
  rw [hl4]
  obtain ⟨n6, hn6⟩ : ∃ n6, n6 = (putOf p.length 4 ++ putOf cc 4 ++ p).length := ⟨_, rfl⟩
  rw [← hn6] at hrun7 ho7
  rw [← HF.out] at ho7
  have Hrun6 := Lib.hid hrun6
  have Hrun7 := Lib.hid hrun7
  have HP := Lib.hid ho7
  have HPK := Lib.hid hk7
  clear hrun6 hrun7 ho5 ho6 ho7 hk5 hk6 hk7 kk15 kk5 hput2 j3 j4 hlt hl1 hl4 hl5 hn6
  go_wp2_with (at_builtin; (first | (refine wpList_append_run (w := w5) rfl _ _ _ _ rfl rfl rfl Hrun6.out ?_) | (refine wpList_append_run (w := w6) rfl _ _ _ _ rfl rfl rfl Hrun7.out ?_)))
  go_ret
  exact ⟨_, rfl, HP.out, HPK.out⟩
end Go.Proofs.Ytlinkpjneehnbaa
