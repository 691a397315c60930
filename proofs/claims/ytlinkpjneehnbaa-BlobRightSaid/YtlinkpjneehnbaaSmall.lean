/- Rows of records: whether they are small, the same, a beginning. -/
import Derived.Test.YtlinkpjneehnbaaPkE
import Derived.Test.YtlinkpjneehnbaaPkD
namespace Go.Proofs.Ytlinkpjneehnbaa
set_option linter.unusedVariables false
open Go.RowKit Go.MapKept

theorem elem_bytess : Try.prog.underlying 34 = some (.slice (Try.prog.elem 34)) := by kernel_rfl
theorem size_bytes (w : World) : (sizeOf (Try.prog.elem 34)).run Try.prog w = .ok 1 w := by kernel_rfl
/-- 'l[:j]'. -/
theorem head_run (w : World) (a : Option Addr) (n c j : Nat) (h1 : j ≤ c) : (Instr.sliceAt 34 (.slice a n c) none (some (.int .i64 (j : Int))) none).run Try.prog w = .ok (.slice a j c) w := by
  rw [run_sliceAt_slice _ _ _ _ _ _ elem_bytess, run_slice_h w 34 a n c elem_bytess .i64 (j : Int) (by omega) (by omega), size_bytes]
  simp only [Result.andThen, sliced, Int.toNat_natCast, Nat.zero_mul, Nat.sub_zero]
  have : (a.map fun x => x.add 0) = a := by cases a with
    | none => rfl
    | some x => simp [Addr.add_zero']
  rw [this]
  simp
theorem RowsIn.take {w : World} {a : Option Addr} {n c : Nat} {ll : List (List UInt8)} (h : RowsIn w (.slice a n c) ll) (j : Nat) (hj : j ≤ ll.length) : RowsIn w (.slice a j c) (ll.take j) := by
  obtain ⟨a', c', e, h2⟩ := h
  cases e
  refine ⟨a, c, by rw [List.length_take, Nat.min_eq_left hj], fun i l hi => ?_⟩
  rw [List.getElem?_take] at hi
  split at hi
  · exact h2 i l hi
  · cases hi

def total (ll : List (List UInt8)) : Nat := (ll.map List.length).sum
def smallOf (ll : List (List UInt8)) : Bool := (ll.take 12).all (fun p => decide (p.length ≤ 400)) && decide (ll.length ≤ 12) && decide (total ll ≤ 2000)
theorem smallOf_true {ll : List (List UInt8)} (h : smallOf ll = true) : ll.length ≤ 12 ∧ total ll ≤ 2000 ∧ ∀ p ∈ ll, p.length ≤ 400 := by
  unfold smallOf at h
  simp only [Bool.and_eq_true, decide_eq_true_eq, List.all_eq_true] at h
  obtain ⟨⟨h1, h2⟩, h3⟩ := h
  rw [List.take_of_length_le h2] at h1
  exact ⟨h2, h3, h1⟩
theorem total_take {ll : List (List UInt8)} {k : Nat} {l : List UInt8} (h : ll[k]? = some l) : total (ll.take (k + 1)) = total (ll.take k) + l.length := by
  rw [List.take_add_one, h]
  simp [total]
theorem total_le (ll : List (List UInt8)) (k : Nat) (h : ∀ p ∈ ll.take k, p.length ≤ 400) : total (ll.take k) ≤ 400 * k := by
  have : ∀ l : List (List UInt8), (∀ p ∈ l, p.length ≤ 400) → total l ≤ 400 * l.length := by
    intro l
    induction l with
    | nil => intro _; simp [total]
    | cons p l ih =>
      intro h
      have h1 := h p (List.mem_cons_self ..)
      have h2 := ih (fun q hq => h q (List.mem_cons_of_mem _ hq))
      have : total (p :: l) = p.length + total l := by simp [total]
      rw [this, List.length_cons]; omega
  have h2 := this _ h
  have h3 : (ll.take k).length ≤ k := List.length_take_le _ _
  have := Nat.mul_le_mul_left 400 h3
  omega
set_option maxRecDepth 100000 in
theorem small_calls {w : World} {v : Value} {ll : List (List UInt8)} (h : RowsIn w v ll) {c : Nat} (hc : ∃ a, v = .slice a ll.length c) (hlc : ll.length ≤ c) (hcm : c ≤ maxLen) : Calls Try.prog 33 #[v] w fun e w' => e = .returned (.bool (smallOf ll)) ∧ w = w' := by
  obtain ⟨a, rfl⟩ := hc
  obtain ⟨j, hj⟩ : ∃ j, j = min ll.length 12 := ⟨_, rfl⟩
  have hmin : (if (12 : Int) < (ll.length : Int) then (12 : Int) else (ll.length : Int)) = (j : Int) := by rw [hj]; split <;> omega
  have hsl := fun w => head_run w a ll.length c j (by omega)
  have hrows : ∀ i, i < j → ∃ x p l, a = some x ∧ ll[i]? = some l ∧ w.cell? (x.add i) = some p ∧ Reads w p l := fun i hi => by
    obtain ⟨a', c', e, h2⟩ := h
    cases e
    obtain ⟨x, p, h3, h4, h5⟩ := h2 i (ll[i]'(by omega)) (List.getElem?_eq_getElem (by omega))
    exact ⟨x, p, _, h3, List.getElem?_eq_getElem (by omega), h4, h5⟩
  have hj12 : j ≤ 12 := by omega
  have htk : ll.take j = ll.take 12 := by
    rw [hj]
    by_cases h : ll.length ≤ 12
    · rw [Nat.min_eq_left h, List.take_of_length_le (Nat.le_refl _), List.take_of_length_le h]
    · rw [Nat.min_eq_right (by omega)]
  have HR := Lib.hid hrows
  have HT := Lib.hid htk
  have HJ := Lib.hid hj
  have i0 : (j : Int) ≤ 12 := by omega
  have i1 : (0 : Int) ≤ j := by omega
  unfold maxLen at hcm
  have i2 : (ll.length : Int) ≤ 9223372036854775807 := by omega
  clear h hrows htk hj hcm hlc hj12
  go_enter Try.func33, Try.ntmps33
  go_wp2_with fail
  clear hsl hmin
  go_loopw [3, 12] (fun n i wx => ∃ k : Nat, k ≤ j ∧ i = .int .i64 (k : Int) ∧ n = .int .i64 (total (ll.take k) : Int) ∧ wx = w ∧ ∀ p ∈ ll.take k, p.length ≤ 400) (fun _ i _ => j - (intOf i).toNat)
  case atStart => exact ⟨0, Nat.zero_le _, rfl, rfl, rfl, fun p hp => by simp at hp⟩
  case round =>
    obtain ⟨k, hk, rfl, rfl, rfl, hok⟩ := hrel
    have j0 : (0 : Int) ≤ k := by omega
    have htot := total_le ll k hok
    by_cases hlt : k < j
    · obtain ⟨x, p, l, rfl, hl, hcx, hrd⟩ := HR.out k hlt
      obtain ⟨pa, pc, rfl, _, _⟩ := hrd.form
      have hts := total_take hl
      have j1 : (k : Int) < j := by omega
      have HTS := Lib.hid hts
      by_cases hbig : l.length ≤ 400
      · have hok2 : ∀ p ∈ ll.take (k + 1), p.length ≤ 400 := by
          intro q hq
          rw [List.take_add_one, hl] at hq
          simp only [Option.toList_some, List.mem_append, List.mem_singleton] at hq
          rcases hq with hq | rfl
          · exact hok q hq
          · exact hbig
        have HOK := Lib.hid hok2
        have b1 : decide ((400 : Int) < (l.length : Int)) = false := decide_eq_false (by omega)
        have j2 : (total (ll.take k) : Int) ≤ 4800 := by omega
        have j3 : (0 : Int) ≤ (total (ll.take k) : Int) := by omega
        have j4 : (l.length : Int) ≤ 400 := by omega
        have j5 : (0 : Int) ≤ (l.length : Int) := by omega
        generalize total (ll.take k) = t at j2 j3 HTS
        clear hts hok hok2 hbig htot hrd hl
        go_wp2_with fail
        go_roundw
        case rel => exact ⟨k + 1, by omega, rfl, by rw [HTS.out]; rfl, trivial, HOK.out⟩
        case measure => simp [intOf]; omega
      · have b1 : decide ((400 : Int) < (l.length : Int)) = true := decide_eq_true (by omega)
        have he : smallOf ll = false := by
          have hm : l ∈ ll.take 12 := by
            rw [← HT.out]
            refine List.mem_of_getElem? (i := k) ?_
            rw [List.getElem?_take, if_pos hlt]; exact hl
          unfold smallOf
          have : (ll.take 12).all (fun p => decide (p.length ≤ 400)) = false := by
            rw [List.all_eq_false]
            exact ⟨l, hm, by simpa using hbig⟩
          rw [this]; rfl
        have HE := Lib.hid he
        clear he hts hok hbig htot hrd hl
        go_wp2_with fail
        go_ret
        exact ⟨by rw [HE.out]; rfl, rfl⟩
    · obtain rfl : k = j := by omega
      rw [HT.out] at hok htot ⊢
      have he : smallOf ll = (decide (ll.length ≤ 12) && decide (total (ll.take 12) ≤ 2000)) := by
        unfold smallOf
        have : (ll.take 12).all (fun p => decide (p.length ≤ 400)) = true := by
          rw [List.all_eq_true]
          exact fun p hp => by simpa using hok p hp
        rw [this, Bool.true_and]
        by_cases h : ll.length ≤ 12
        · rw [List.take_of_length_le h]
        · simp [h]
      have HE := Lib.hid he
      generalize total (ll.take 12) = t at HE htot ⊢
      clear hok he hlt hk htot
      by_cases h12 : ll.length ≤ 12
      · by_cases ht : t ≤ 2000
        · have he := HE.out
          rw [decide_eq_true h12, decide_eq_true ht] at he
          have HE2 := Lib.hid he
          have b1 : decide ((ll.length : Int) ≤ 12) = true := decide_eq_true (by omega)
          have b2 : decide ((t : Int) ≤ 2000) = true := decide_eq_true (by omega)
          clear he h12 ht HE
          go_wp2_with fail
          go_ret
          exact ⟨by rw [HE2.out]; rfl, rfl⟩
        · have he := HE.out
          rw [decide_eq_true h12, decide_eq_false ht] at he
          have HE2 := Lib.hid he
          have b1 : decide ((ll.length : Int) ≤ 12) = true := decide_eq_true (by omega)
          have b2 : decide ((t : Int) ≤ 2000) = false := decide_eq_false (by omega)
          clear he h12 ht HE
          go_wp2_with fail
          go_ret
          exact ⟨by rw [HE2.out]; rfl, rfl⟩
      · have he := HE.out
        rw [decide_eq_false h12] at he
        have HE2 := Lib.hid he
        have b1 : decide ((ll.length : Int) ≤ 12) = false := decide_eq_false (by omega)
        clear he h12 HE
        go_wp2_with fail
        go_ret
        exact ⟨by rw [HE2.out]; rfl, rfl⟩

/-! ### The same records; a beginning -/
def beginsOf (a b : List (List UInt8)) : Bool := decide (a = b.take a.length)
theorem ltake_step {l l' : List (List UInt8)} {k : Nat} {p q : List UInt8} (hp : l[k]? = some p) (hq : l'[k]? = some q) (h : l.take k = l'.take k) : p = q ↔ l.take (k + 1) = l'.take (k + 1) := by
  rw [List.take_add_one, List.take_add_one, hp, hq, h]
  simp
set_option maxRecDepth 100000 in
theorem rsame_raw (w : World) {l l' : List (List UInt8)} {n : Nat} (hb : n ≤ maxLen) (hn : l.length = n) (hn' : l'.length = n) {a a' : Option Addr} {c c' : Nat} (h : RowsIn w (.slice a n c) l) (h' : RowsIn w (.slice a' n c') l') :
    Calls Try.prog 48 #[.slice a n c, .slice a' n c'] w (QuietP w (.bool (decide (l = l')))) := by
  unfold maxLen at hb
  have H := Lib.hid h
  have H' := Lib.hid h'
  have HN := Lib.hid hn
  have HN' := Lib.hid hn'
  have j9 : (n : Int) ≤ 9223372036854775807 := by omega
  clear h h' hn hn' hb
  go_enter Try.func48, Try.ntmps48
  go_wp2_with fail
  go_loopw [5] (fun i wx => ∃ k : Nat, k ≤ n ∧ i = .int .i64 (k : Int) ∧ Keeps (fun _ => False) w wx ∧ l.take k = l'.take k) (fun i _ => n - (intOf i).toNat)
  case atStart => exact ⟨0, Nat.zero_le _, rfl, Keeps.refl _ _, rfl⟩
  case round =>
    obtain ⟨k, hk, rfl, hq, heq⟩ := hrel
    have j0 : (0 : Int) ≤ k := by omega
    by_cases hlt : k < n
    · have j1 : (k : Int) < n := by omega
      obtain ⟨p, hp⟩ : ∃ p, l[k]? = some p := ⟨l[k]'(by rw [HN.out]; exact hlt), List.getElem?_eq_getElem _⟩
      obtain ⟨q, hq'⟩ : ∃ q, l'[k]? = some q := ⟨l'[k]'(by rw [HN'.out]; exact hlt), List.getElem?_eq_getElem _⟩
      obtain ⟨a1, c1, e1, r1⟩ := H.out.keep hq
      obtain ⟨a2, c2, e2, r2⟩ := H'.out.keep hq
      simp only [Value.slice.injEq] at e1 e2
      obtain ⟨rfl, hn1, rfl⟩ := e1
      obtain ⟨rfl, hn2, rfl⟩ := e2
      clear hn1 hn2
      obtain ⟨x, pv, rfl, hcx, hrd⟩ := r1 k p hp
      obtain ⟨y, qv, rfl, hcy, hrd'⟩ := r2 k q hq'
      have hsm := same_calls (hrd.keep (Keeps.refl _ wr).drew) (hrd'.keep (Keeps.refl _ wr).drew)
      have hstep := ltake_step hp hq' heq
      obtain ⟨pa, pc, rfl, _, _⟩ := hrd.form
      obtain ⟨qa, qc, rfl, _, _⟩ := hrd'.form
      have HSM := Lib.hid hsm
      have HS := Lib.hid hstep
      have HQ := Lib.hid hq
      clear r1 r2 hrd hrd' hsm hstep heq hq hp hq'
      by_cases hpq : p = q
      · have HE := Lib.hid (HS.out.1 hpq)
        have e1 : decide (p = q) = true := decide_eq_true hpq
        rw [e1] at HSM
        have hb1 := HSM.out
        have HSM2 := Lib.hid hb1
        clear hb1 HSM e1 HS hpq
        go_wp2_with fail
        go_still_tail 8, (by kernel_rfl)
        change wpList _ _ _ _ _ (World.drew _)
        go_wp2_with fail
        refine HSM2.out.mono ?_
        rintro e w2 ⟨rfl, hk2⟩
        have HK2 := Lib.hid hk2
        clear hk2
        go_wp2_with fail
        go_roundw
        case rel => exact ⟨k + 1, by omega, rfl, HQ.out.trans HK2.out.undrew (fun _ _ e => e), HE.out⟩
        case measure => simp [intOf]; omega
      · have hne : ¬ l = l' := fun e => hpq (HS.out.2 (by rw [e]))
        have HE := Lib.hid hne
        have e1 : decide (p = q) = false := decide_eq_false hpq
        rw [e1] at HSM
        have hb1 := HSM.out
        have HSM2 := Lib.hid hb1
        clear hb1 HSM e1 HS hpq hne
        go_wp2_with fail
        go_still_tail 8, (by kernel_rfl)
        change wpList _ _ _ _ _ (World.drew _)
        go_wp2_with fail
        refine HSM2.out.mono ?_
        rintro e w2 ⟨rfl, hk2⟩
        have HK2 := Lib.hid hk2
        clear hk2
        go_wp2_with fail
        go_ret
        exact ⟨by simp [HE.out], HQ.out.trans HK2.out.undrew (fun _ _ e => e)⟩
    · obtain rfl : k = n := by omega
      have he : l = l' := by
        rw [List.take_of_length_le (by rw [HN.out]; omega), List.take_of_length_le (by rw [HN'.out]; omega)] at heq
        exact heq
      have HE := Lib.hid he
      have HQ := Lib.hid hq
      clear he heq hq hlt hk
      go_wp2_with fail
      go_ret
      exact ⟨by simp [HE.out], HQ.out⟩
theorem rsame_calls {w : World} {v v' : Value} {l l' : List (List UInt8)} (h : RowsIn w v l) (h' : RowsIn w v' l') (hb : l.length ≤ maxLen) : Calls Try.prog 48 #[v, v'] w (QuietP w (.bool (decide (l = l')))) := by
  obtain ⟨a, c, rfl, _⟩ := id h
  obtain ⟨a', c', rfl, _⟩ := id h'
  by_cases hl : l.length = l'.length
  · rw [← hl] at h' ⊢
    exact rsame_raw w hb rfl hl.symm h h'
  · have hl2 : ¬ (l.length : Int) = (l'.length : Int) := by omega
    have hne : ¬ l = l' := fun e => hl (by rw [e])
    have HE := Lib.hid hne
    clear h h' hl hne hb
    go_enter Try.func48, Try.ntmps48
    go_wp2_with fail
    go_ret
    exact ⟨by simp [HE.out], Keeps.refl _ _⟩
set_option maxRecDepth 100000 in
theorem begins_calls {w : World} {v v' : Value} {l l' : List (List UInt8)} (h : RowsIn w v l) (h' : RowsIn w v' l') (hb : l.length ≤ maxLen) (hcap : ∀ a n c, v' = .slice a n c → n ≤ c) : Calls Try.prog 35 #[v, v'] w (QuietP w (.bool (beginsOf l l'))) := by
  obtain ⟨a, c, rfl, _⟩ := id h
  obtain ⟨a', c', rfl, _⟩ := id h'
  have hcc := hcap a' _ c' rfl
  have j9 : (l.length : Int) ≤ 9223372036854775807 := by unfold maxLen at hb; omega
  by_cases hl : l.length ≤ l'.length
  · have h2 := h'.take l.length hl
    have hsm := rsame_calls h h2 hb
    have hsl := fun w => head_run w a' l'.length c' l.length (by omega)
    have b1 : decide (l.length ≤ l'.length) = true := decide_eq_true hl
    have HSM := Lib.hid hsm
    clear h h' h2 hsm hb hcc hl hcap
    go_enter Try.func35, Try.ntmps35
    go_wp2_with fail
    refine HSM.out.mono ?_
    rintro e w2 ⟨rfl, hk2⟩
    have HK2 := Lib.hid hk2
    clear hk2 hsl
    go_wp2_with fail
    go_ret
    exact ⟨rfl, HK2.out⟩
  · have he : beginsOf l l' = false := by
      unfold beginsOf
      refine decide_eq_false (fun e => hl ?_)
      have := congrArg List.length e
      rw [List.length_take] at this
      omega
    have b1 : decide (l.length ≤ l'.length) = false := decide_eq_false hl
    have HE := Lib.hid he
    clear h h' hb hcc hl hcap he
    go_enter Try.func35, Try.ntmps35
    go_wp2_with fail
    go_ret
    exact ⟨by rw [HE.out]; rfl, Keeps.refl _ _⟩
end Go.Proofs.Ytlinkpjneehnbaa
