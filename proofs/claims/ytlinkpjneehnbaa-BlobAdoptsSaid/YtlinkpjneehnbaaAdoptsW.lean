/- BlobAdopts: the plain law of Adopt in a store that is empty, or that has the bytes already; and the walk. -/
import Derived.Test.YtlinkpjneehnbaaAwakeB
import Derived.Test.YtlinkpjneehnbaaAdoptB
namespace Go.Proofs.Ytlinkpjneehnbaa
set_option linter.unusedVariables false
set_option linter.unusedSimpArgs false
open Go.RowKit Go.MapKept

def nmF : ByteArray := ⟨#[102]⟩
def nmG : ByteArray := ⟨#[103]⟩
theorem nmF_name : isName nmF = true := isName_of_size (by decide) (by decide)
theorem nmF_ne (D : List UInt8) (hD : D.length = 32) : nmF ≠ fileOf D := by
  intro e
  have h := congrArg ByteArray.size e
  rw [fileOf_size D hD] at h
  exact absurd h (by decide)
theorem nmG_ne (D : List UInt8) (hD : D.length = 32) : nmG ≠ fileOf D := by
  intro e
  have h := congrArg ByteArray.size e
  rw [fileOf_size D hD] at h
  exact absurd h (by decide)
theorem nmFG : nmF ≠ nmG := by decide
/-- A disk with one file that is new, beside what is there for certain. -/
def adM (room : Int) (base : FS) (p : List UInt8) : DM := { newOf room with now := fput base nmF p, sure := base, loose := [⟨0, nmF, ⟨#[]⟩, []⟩, ⟨1, nmF, ⟨#[]⟩, p⟩] }
def adM0 (room : Int) (base : FS) : DM := { newOf room with now := base, sure := base }
def adM1 (room : Int) (base : FS) : DM := { newOf room with now := fput base nmF [], sure := base, loose := [⟨0, nmF, ⟨#[]⟩, []⟩] }
structure AdBase (room : Int) (base : FS) (D p : List UInt8) : Prop where
  len : (base.length : Int) < 4096
  noF : fget base nmF = none
  got : ∀ x, fget (fput base nmF x) nmF = some x
  over : ∀ x y, fput (fput base nmF x) nmF y = fput base nmF y
  room : ¬ room - (used (fput base nmF []) : Int) < (p.length : Int)
  g : ∀ x, fget (fput base nmF x) nmG = none
section
variable {room : Int} {base : FS} {D p : List UInt8}
theorem AdBase.create (h : AdBase room base D p) : createOf (adM0 room base) nmF = (0, adM1 room base) := by
  rw [Calm.create (m := adM0 room base) ⟨rfl, rfl⟩ nmF_name h.noF h.len]
  rfl
theorem AdBase.append (h : AdBase room base D p) (hp : p.length ≤ 1048576) : appendOf (adM1 room base) nmF p = (0, adM room base p) := by
  have hg : fget (adM1 room base).now nmF = some [] := h.got []
  rw [Calm.append (m := adM1 room base) ⟨rfl, rfl⟩ (by rw [hg]; rfl) p (by omega), if_neg (show ¬ (adM1 room base).room - (used (adM1 room base).now : Int) < (p.length : Int) from h.room), hg]
  show ((0 : Int), ({ adM1 room base with now := fput (fput base nmF []) nmF ([] ++ p), loose := _ } : DM)) = _
  rw [h.over]
  rfl
theorem AdBase.there (h : AdBase room base D p) : thereOf (adM room base p) nmF = 0 := by
  have hg : fget (adM room base p).now nmF = some p := h.got p
  exact Calm.there (m := adM room base p) ⟨rfl, rfl⟩ (by rw [hg]; rfl)
theorem AdBase.cont (h : AdBase room base D p) : contOf (adM room base p) nmF = p := by
  have hg : fget (adM room base p).now nmF = some p := h.got p
  unfold contOf
  rw [hg]; rfl
theorem AdBase.noG (h : AdBase room base D p) : thereOf (adM room base p) nmG = 6 := by
  have hg : fget (adM room base p).now nmG = none := h.g p
  unfold thereOf
  rw [hg]; rfl
theorem AdBase.fold (h : AdBase room base D p) : doCh (doCh base ⟨0, nmF, ⟨#[]⟩, []⟩) ⟨1, nmF, ⟨#[]⟩, p⟩ = fput base nmF p := by
  have h1 : doCh base ⟨0, nmF, ⟨#[]⟩, []⟩ = fput base nmF [] := rfl
  rw [h1]
  show fput (fput base nmF []) nmF ((fget (fput base nmF []) nmF).getD [] ++ p) = _
  rw [h.got, h.over]; rfl
end
theorem base0 (room : Int) (D p : List UInt8) (hr : (p.length : Int) ≤ room) : AdBase room [] D p where
  len := by simp
  noF := rfl
  got x := by simp [fput, fdel, fins, fget]
  over x y := by simp [fput, fdel, fins]
  room := by simp [fput, fdel, fins, used]; omega
  g x := by simp [fput, fdel, fins, fget, nmFG]
theorem fput1 (D p x : List UInt8) (hD : D.length = 32) : fput [(fileOf D, p)] nmF x = if blt nmF (fileOf D) then [(nmF, x), (fileOf D, p)] else [(fileOf D, p), (nmF, x)] := by
  have h := nmF_ne D hD
  have h2 : ¬ fileOf D = nmF := fun e => h e.symm
  simp [fput, fdel, h2, fins]
theorem base1 (room : Int) (D p : List UInt8) (hD : D.length = 32) (hr : (p.length : Int) + p.length ≤ room) : AdBase room [(fileOf D, p)] D p := by
  have h := nmF_ne D hD
  have h2 : ¬ fileOf D = nmF := fun e => h e.symm
  have h3 := nmG_ne D hD
  have h4 : ¬ fileOf D = nmG := fun e => h3 e.symm
  have h5 := nmFG
  refine ⟨by simp, by simp [fget, h2], fun x => ?_, fun x y => ?_, ?_, fun x => ?_⟩
  · rw [fput1 D p x hD]
    split <;> simp [fget, h2]
  · rw [fput1 D p x hD, fput1 D p y hD]
    split <;> rename_i hb <;> simp [fput, fdel, fins, h2, hb]
  · rw [fput1 D p [] hD]
    split <;> simp [used] <;> omega
  · rw [fput1 D p x hD]
    split <;> simp [fget, h4, h5]
theorem ad_there (room : Int) (D p : List UInt8) (hD : D.length = 32) (hr : (p.length : Int) + p.length ≤ room) :
    thereOf (adM room [(fileOf D, p)] p) (fileOf D) = 0 ∧ (removeOf (adM room [(fileOf D, p)] p) nmF).1 = 0 ∧ syncOf (removeOf (adM room [(fileOf D, p)] p) nmF).2 = (0, blobM room D p) := by
  have hB := base1 room D p hD hr
  have h := nmF_ne D hD
  have h2 : ¬ fileOf D = nmF := fun e => h e.symm
  have hdel : fdel (fput [(fileOf D, p)] nmF p) nmF = [(fileOf D, p)] := by
    rw [fput1 D p p hD]
    split <;> simp [fdel, h2]
  have hget : fget (adM room [(fileOf D, p)] p).now nmF = some p := hB.got p
  have hrem := Calm.remove (m := adM room [(fileOf D, p)] p) ⟨rfl, rfl⟩ (n := nmF) (by rw [hget]; rfl)
  refine ⟨?_, by rw [hrem], ?_⟩
  · have hg : fget (adM room [(fileOf D, p)] p).now (fileOf D) = some p := by
      show fget (fput [(fileOf D, p)] nmF p) (fileOf D) = some p
      rw [fput1 D p p hD]
      split <;> simp [fget, h]
    exact Calm.there (m := adM room [(fileOf D, p)] p) ⟨rfl, rfl⟩ (by rw [hg]; rfl)
  · rw [hrem]
    show ((0 : Int), ({ newOf room with now := fdel (fput [(fileOf D, p)] nmF p) nmF, sure := doCh (doCh (doCh [(fileOf D, p)] ⟨0, nmF, ⟨#[]⟩, []⟩) ⟨1, nmF, ⟨#[]⟩, p⟩) ⟨2, nmF, ⟨#[]⟩, []⟩ } : DM)) = _
    rw [hB.fold]
    show ((0 : Int), ({ newOf room with now := fdel (fput [(fileOf D, p)] nmF p) nmF, sure := fdel (fput [(fileOf D, p)] nmF p) nmF } : DM)) = _
    rw [hdel]
    rfl
theorem ad_new (room : Int) (D p : List UInt8) (hD : D.length = 32) (hr : (p.length : Int) ≤ room) :
    ¬ thereOf (adM room [] p) (fileOf D) = 0 ∧ (renameOf (adM room [] p) nmF (fileOf D)).1 = 0 ∧ syncOf (renameOf (adM room [] p) nmF (fileOf D)).2 = (0, blobM room D p) := by
  have hB := base0 room D p hr
  have h := nmF_ne D hD
  have h2 : ¬ fileOf D = nmF := fun e => h e.symm
  have hput : fput [] nmF p = [(nmF, p)] := rfl
  have hmv : doCh [(nmF, p)] ⟨3, nmF, fileOf D, []⟩ = [(fileOf D, p)] := by
    unfold doCh
    simp only [show ¬ ((3 : Int) = 0) by decide, show ¬ ((3 : Int) = 1) by decide, show ¬ ((3 : Int) = 2) by decide, if_false, if_true, h]
    have hg : (fget [(nmF, p)] nmF).getD [] = p := by simp [fget]
    rw [hg, fput]
    have hd : fdel [(nmF, p)] (fileOf D) = [(nmF, p)] := by simp [fdel, h]
    rw [hd]
    unfold fins
    split
    · simp [fdel, h2]
    · simp [fins, fdel, h2]
  have hren : renameOf (adM room [] p) nmF (fileOf D) = (0, { adM room [] p with now := [(fileOf D, p)], loose := (adM room [] p).loose ++ [⟨3, nmF, fileOf D, []⟩] }) := by
    unfold renameOf
    rw [hB.there, if_pos rfl, file_name D hD, Calm.does (m := adM room [] p) ⟨rfl, rfl⟩]
    simp only [Bool.not_true, Bool.false_eq_true, if_false]
    rw [show (adM room [] p).now = [(nmF, p)] from hput, hmv]
  refine ⟨?_, by rw [hren], ?_⟩
  · have hg : fget (adM room [] p).now (fileOf D) = none := by
      show fget (fput [] nmF p) (fileOf D) = none
      rw [hput]; simp [fget, h]
    unfold thereOf
    rw [hg]
    show ¬ ((6 : Int) = 0)
    decide
  · rw [hren]
    show ((0 : Int), ({ newOf room with now := [(fileOf D, p)], sure := doCh (doCh (doCh [] ⟨0, nmF, ⟨#[]⟩, []⟩) ⟨1, nmF, ⟨#[]⟩, p⟩) ⟨3, nmF, fileOf D, []⟩ } : DM)) = _
    rw [hB.fold, hput, hmv]
    rfl
theorem blob_noF (room : Int) (D p : List UInt8) (hD : D.length = 32) : thereOf (blobM room D p) nmF = 6 := by
  have h := nmF_ne D hD
  have h2 : ¬ fileOf D = nmF := fun e => h e.symm
  simp [thereOf, blobM, newOf, fget, h2]
theorem adGood (room : Int) (base : FS) (D p : List UInt8) (hB : AdBase room base D p) (hp : p.length ≤ 1048576) (hg : Good (adM0 room base) 0) : Good (adM1 room base) 1 ∧ Good (adM room base p) 2 := by
  have h1 := hg.create nmF
  rw [hB.create] at h1
  have h2 := h1.append nmF p
  rw [hB.append hp] at h2
  exact ⟨h1, h2⟩

/-! ### The walk -/

theorem Own.usedA {w wr : World} {d : Nat} {m : DM} {rs : List (Res w.heap.size)} (h : Own w wr (rDisk w.heap.size d m :: rs)) (hu : Go.Proofs.Ytlinkpjneehnbaa.used m.now ≤ 4611686018427387904) : Calls Try.prog 22 #[.pointer (some ⟨d, 0, none⟩)] wr (QuietP wr (.int .i64 (Go.Proofs.Ytlinkpjneehnbaa.used m.now : Int))) := by
  obtain ⟨F, h1, _⟩ := h.disk
  exact used_calls h1 hu
theorem Own.looseA {w wr : World} {d : Nat} {m : DM} {rs : List (Res w.heap.size)} (h : Own w wr (rDisk w.heap.size d m :: rs)) : Runs 26 #[.pointer (some ⟨d, 0, none⟩)] wr (.int .i64 (m.loose.length : Int)) wr := by
  obtain ⟨F, h1, _⟩ := h.disk
  exact loose_runs h1
/-- A row's load, behind a guard or not. -/
theorem wpList_load_rowG {P : Program} {ops : Array Oper} {rest : List Oper} {o : Oper} {a : Act} {w : World} {Q : Exit → Act → World → Prop} (hgd : Region.wanted o (yielded ops a.tmps) = true) (ty : TypeId) (x : Operand) (ho : o.op = .load ty x)
    (g : Nat) (hx : a.eval x = .pointer (some ⟨g, 0, none⟩)) (t : TypeId) (cs : Array Value) (fr : Nat × Nat) (d : TypeDesc) (hg : w.heap[g]? = some (.cells cs t fr))
    (hu : P.underlying ty = some d) (hd : (match d with | .struct _ | .array _ _ => true | _ => false) = true) (hi : (P.info? ty).map (·.size) = some cs.size)
    (h : wpList P ops Q rest (a.put o.dst (.agg cs)) w) : wpList P ops Q (o :: rest) a w :=
  wpList_step fun K hK => by rw [if_pos hgd]; exact wp_load_row ty x ho g hx t cs fr d hg hu hd hi (hK _ _ h)
theorem blob_usedA (room : Int) (D p : List UInt8) : used (blobM room D p).now = p.length := by simp [blobM, used]
/-- What of the disk ahead of Adopt the walk is told. -/
def AdWay (w0 : World) (d st : Nat) (room : Int) (D p : List UInt8) (M0 : DM) : Prop :=
  ∃ base, M0 = adM0 room base ∧ AdBase room base D p ∧ Good M0 0 ∧ ∀ (wr : World) (rs : List (Res w0.heap.size)), Own w0 wr (rDisk w0.heap.size d (adM room base p) :: rs) → rObj w0.heap.size st (.cells #[.pointer (some ⟨d, 0, none⟩)] 146) ∈ rs →
    Calls Try.prog 49 #[.pointer (some ⟨st, 0, none⟩), .string nmF, .agg (D.map u8v).toArray] wr (DOwn w0 d rs (0, blobM room D p))
theorem way0 (w0 : World) (d st : Nat) (p : List UInt8) (hp : p.length ≤ 524288) : AdWay w0 d st 2097152 (sumOf p) p (newOf 2097152) := by
  have hB := base0 2097152 (sumOf p) p (by omega)
  have hg := Good.new (room := 2097152) (by omega) (by omega)
  have hG := adGood 2097152 [] (sumOf p) p hB (by omega) hg
  obtain ⟨h1, h2, h3⟩ := ad_new 2097152 (sumOf p) p (sumOf_length p) (by omega)
  refine ⟨[], rfl, hB, hg, fun wr rs ho hst => ?_⟩
  have h := badopt_new ho hst hG.2 (by omega) nmF (sumOf p) (sumOf_length p) hB.there (by rw [hB.cont]) h1 h2
  rw [h3] at h
  exact h
theorem way1 (w0 : World) (d st : Nat) (p : List UInt8) (hp : p.length ≤ 524288) : AdWay w0 d st 2097152 (sumOf p) p (blobM 2097152 (sumOf p) p) := by
  have hB := base1 2097152 (sumOf p) p (sumOf_length p) (by omega)
  have hg : Good (adM0 2097152 [(fileOf (sumOf p), p)]) 0 := blob_good 2097152 (sumOf p) p (-1) (by omega) (by omega) (by omega) (by omega)
  have hG := adGood 2097152 _ (sumOf p) p hB (by omega) hg
  obtain ⟨h1, h2, h3⟩ := ad_there 2097152 (sumOf p) p (sumOf_length p) (by omega)
  refine ⟨_, rfl, hB, hg, fun wr rs ho hst => ?_⟩
  have h := badopt_there ho hst hG.2 (by omega) nmF (sumOf p) (sumOf_length p) hB.there (by rw [hB.cont]) h1 h2
  rw [h3] at h
  exact h
set_option maxRecDepth 100000 in
set_option maxHeartbeats 2000000 in
theorem adopts_walk (a a2 : Option Addr) (cap cap2 : Nat) (l q : List UInt8) (b : Bool) (w0 : World) (hrd : Reads w0 (.slice a l.length cap) l) (hrq : Reads w0 (.slice a2 q.length cap2) q) :
    Calls Try.prog 11 #[.slice a l.length cap, .slice a2 q.length cap2, .bool b] w0 fun e w' => e = .returned (.bool true) ∧ Below w0.heap.size w0 w' := by
  obtain ⟨d, w1, hnew, h1⟩ := (Own.start w0).new 2097152 (by omega) (by omega)
  have g1 := Good.new (room := 2097152) (by omega) (by omega)
  have hbn := bnew_calls h1 g1 (by omega)
  rw [bnew_new] at hbn
  have HBN := Lib.hid hbn
  have G1 := Lib.hid g1
  obtain ⟨n, hn⟩ : ∃ n, n = l.length := ⟨_, rfl⟩
  obtain ⟨k, hk⟩ : ∃ k, k = q.length := ⟨_, rfl⟩
  clear h1 hbn g1
  by_cases hbig : 524288 < l.length ∨ 524288 < q.length
  · have hb : decide ((524288 : Int) < (n : Int)) = true ∨ decide ((524288 : Int) < (n : Int)) = false ∧ decide ((524288 : Int) < (k : Int)) = true := by
      by_cases h : 524288 < l.length
      · exact .inl (decide_eq_true (by omega))
      · exact .inr ⟨decide_eq_false (by omega), decide_eq_true (by omega)⟩
    rw [← hn, ← hk]
    clear hn hk hbig hrd hrq
    rcases hb with hb | ⟨hb, hb2⟩
    all_goals
      go_enter Try.func11, Try.ntmps11
      go_wp2_with fail
      refine hnew.out.mono ?_; rintro e w' ⟨rfl, rfl⟩
      go_wp2_with fail
      refine HBN.out.mono ?_
      rintro e w2 (⟨hnn, _⟩ | ⟨_, st, rfl, h2⟩)
      · exact absurd rfl hnn
      go_wp2_with fail
      refine (awakeB_calls _).mono ?_; rintro e w3 ⟨rfl, hk3⟩
      go_wp2_with fail
      refine (awakeB_calls _).mono ?_; rintro e w4 ⟨rfl, hk4⟩
      have HB := Lib.hid ((h2.quiet hk3).quiet hk4).below
      clear h2 hk3 hk4 HBN hnew
      go_wp2_with fail
      go_ret
      exact ⟨rfl, HB.out⟩
  · have hb : decide ((524288 : Int) < (n : Int)) = false := by rw [hn]; exact decide_eq_false (by omega)
    have hb2 : decide ((524288 : Int) < (k : Int)) = false := by rw [hk]; exact decide_eq_false (by omega)
    have hll : l.length ≤ 524288 := by omega
    have hql : q.length ≤ 524288 := by omega
    have hway0 := fun st => way0 w0 d st l hll
    have hway1 := fun st => way1 w0 d st l hll
    obtain ⟨D, hD⟩ : ∃ D, D = sumOf l := ⟨_, rfl⟩
    obtain ⟨O, hO⟩ : ∃ O, O = sumOf q := ⟨_, rfl⟩
    obtain ⟨cl, hcl⟩ : ∃ cl : List Value, cl = D.map u8v := ⟨_, rfl⟩
    obtain ⟨ol, hol⟩ : ∃ ol : List Value, ol = O.map u8v := ⟨_, rfl⟩
    have hDl : D.length = 32 := by rw [hD]; exact sumOf_length _
    have hOl : O.length = 32 := by rw [hO]; exact sumOf_length _
    have hput1 : ∀ (wr : World) (rs : List (Res w0.heap.size)) (st : Nat), Own w0 wr (rDisk w0.heap.size d (newOf 2097152) :: rs) → rObj w0.heap.size st (.cells #[.pointer (some ⟨d, 0, none⟩)] 146) ∈ rs →
        Calls Try.prog 43 #[.pointer (some ⟨st, 0, none⟩), .slice a n cap] wr (fun e w' => e = .returned (.tuple #[.agg cl.toArray, .int .i64 0]) ∧ Own w0 w' (rDisk w0.heap.size d (blobM 2097152 D l) :: rs)) := fun wr rs st h hst => by
      have hp := bput_calls h hst G1.out (by omega) (pv := .slice a l.length cap) (p := l) (fun W m' ho => hrd.keep ho.keeps) (by omega)
      rw [bput_new 2097152 l (by omega) (by omega), ← hD, ← hn] at hp
      rw [hcl]; exact hp
    have hsum : ∀ (W : World), Keeps (fun _ => False) w0 W → Calls Try.prog 45 #[.slice a n cap] W (QuietP W (.agg cl.toArray)) := fun W hk => by
      have h := sum_calls (hrd.keep hk) (by omega)
      rw [← hD, ← hcl, ← hn] at h
      exact h
    have hsuq : ∀ (W : World), Keeps (fun _ => False) w0 W → Calls Try.prog 45 #[.slice a2 k cap2] W (QuietP W (.agg ol.toArray)) := fun W hkk => by
      have h := sum_calls (hrq.keep hkk) (by omega)
      rw [← hO, ← hol, ← hk] at h
      exact h
    rw [← hD] at hway0 hway1
    have HWAY0 := Lib.hid hway0
    have HWAY1 := Lib.hid hway1
    have HPUT1 := Lib.hid hput1
    have HSUM := Lib.hid hsum
    have HSUQ := Lib.hid hsuq
    have HRD := Lib.hid hrd
    have HLL := Lib.hid hll
    have HI := Lib.hid (dig_info (ds := cl.toArray) (by rw [hcl]; simp [hDl]))
    have HONE := Lib.hid (show cl.toArray.all (·.oneCell') = true by rw [hcl]; exact bytes_one _)
    have HSZ := Lib.hid (show cl.toArray.size = 32 by rw [hcl]; simp [hDl])
    have HIO := Lib.hid (dig_info (ds := ol.toArray) (by rw [hol]; simp [hOl]))
    have HONEO := Lib.hid (show ol.toArray.all (·.oneCell') = true by rw [hol]; exact bytes_one _)
    have HSZO := Lib.hid (show ol.toArray.size = 32 by rw [hol]; simp [hOl])
    have HCL := Lib.hid hcl
    have HOL := Lib.hid hol
    have HD := Lib.hid hD
    have HO := Lib.hid hO
    have HDL := Lib.hid hDl
    have HOLE := Lib.hid hOl
    have HN := Lib.hid hn
    rw [← hn, ← hk]
    clear hbig hrd hrq hll hql hD hO hcl hol hDl hOl hput1 hsum hsuq hn hk hway0 hway1
    go_enter Try.func11, Try.ntmps11
    go_wp2_with fail
    refine hnew.out.mono ?_; rintro e w' ⟨rfl, rfl⟩
    go_wp2_with fail
    refine HBN.out.mono ?_
    rintro e w2 (⟨hnn, _⟩ | ⟨_, st, rfl, h2⟩)
    · exact absurd rfl hnn
    go_wp2_with fail
    refine (awakeB_calls _).mono ?_; rintro e w3 ⟨rfl, hk3⟩
    have H3 := Lib.hid (h2.quiet hk3)
    clear HBN hnew h2 hk3 G1
    cases b
    case' false =>
      have HAD := Lib.hid (HWAY0.out st)
      have H4 := H3
      clear HPUT1
    case' true =>
      go_wp2_with fail
      refine (HPUT1.out _ _ _ H3.out (by simp)).mono ?_
      rintro e w4 ⟨rfl, h4⟩
      have HAD := Lib.hid (HWAY1.out st)
      have H4 := Lib.hid h4
      clear h4 HPUT1
    all_goals
      obtain ⟨base, hM0, hB, hG0, had⟩ := HAD.out
      have h4 := H4.out
      rw [hM0] at h4 hG0
      have hG := adGood 2097152 base D l hB (by have := HLL.out; omega) hG0
      obtain ⟨w5, hcr, h5⟩ := h4.create nmF hG0.fuse (by have := hG0.len; omega)
      rw [hB.create] at hcr h5
      simp only at h5
      have hap := h5.append nmF (HRD.out.keep h5.keeps) hG.1.room0 hG.1.room1 hG.1.unow hG.1.fuse (by have := hG.1.len; omega)
      rw [hB.append (by have := HLL.out; omega), ← HN.out] at hap
      have HCR := Lib.hid hcr
      have HAP := Lib.hid hap
      have HB := Lib.hid hB
      have HGA := Lib.hid hG.2
      have HADOPT := Lib.hid had
      clear HWAY0 HWAY1 hM0 hB hG0 had h4 hG hcr h5 hap HAD H3 H4
      go_wp2_with fail
      refine HCR.out.out.mono ?_; rintro e w' ⟨rfl, rfl⟩
      go_wp2_with fail
      refine HAP.out.mono ?_
      rintro e w6 ⟨rfl, h6⟩
      have H6 := Lib.hid h6
      have HS6 := Lib.hid (HSUM.out w6 h6.keeps)
      clear h6 HCR HAP
      simp only
      go_wp2_with fail
      refine HS6.out.mono ?_
      rintro e w7 ⟨rfl, hk7⟩
      have H7 := Lib.hid (H6.out.quiet hk7)
      have HS7 := Lib.hid (HSUQ.out w7 H7.out.keeps)
      clear hk7 H6 HS6
      go_wp2_with fail
      refine HS7.out.mono ?_
      rintro e w8 ⟨rfl, hk8⟩
      have H8 := Lib.hid (H7.out.quiet hk8)
      clear hk8 H7 HS7
      have h9a := (H8.out.alloc2 (.cells zeroC 58)).alloc2 (.cells zeroC 58)
      rw [World.size_alloc] at h9a
      have HZ1 := Lib.hid ((h9a.at (b := w8.heap.size) (o := .cells zeroC 58) (by simp)).1)
      have h9b := h9a.third.setRow cl.toArray
      have HZ2 := Lib.hid ((h9b.at (b := w8.heap.size + 1) (o := .cells zeroC 58) (by simp)).1)
      have h9c := (h9b.third.setRow ol.toArray).third
      have H9 := Lib.hid h9c
      clear h9a h9b h9c H8
      have HADG := Lib.hid (show ∀ W, Own w0 W (rDisk w0.heap.size d (adM 2097152 base l) :: [rObj w0.heap.size (w8.heap.size + 1) (.cells ol.toArray 58), rObj w0.heap.size w8.heap.size (.cells cl.toArray 58), rObj w0.heap.size st (.cells #[.pointer (some ⟨d, 0, none⟩)] 146)]) → Calls Try.prog 49 #[.pointer (some ⟨st, 0, none⟩), .string ⟨#[103]⟩, .agg cl.toArray] W (QuietP W (.int .i64 6)) from fun W ho => by
        have h := badopt_none ho (st := st) (by simp) nmG D (by rw [HB.out.noG]; decide)
        rw [HB.out.noG, ← HCL.out] at h
        exact h)
      have HADF := Lib.hid (show ∀ W, Own w0 W (rDisk w0.heap.size d (adM 2097152 base l) :: [rObj w0.heap.size (w8.heap.size + 1) (.cells ol.toArray 58), rObj w0.heap.size w8.heap.size (.cells cl.toArray 58), rObj w0.heap.size st (.cells #[.pointer (some ⟨d, 0, none⟩)] 146)]) → Calls Try.prog 49 #[.pointer (some ⟨st, 0, none⟩), .string ⟨#[102]⟩, .agg cl.toArray] W (fun e w' => e = .returned (.int .i64 0) ∧ Own w0 w' (rDisk w0.heap.size d (blobM 2097152 D l) :: [rObj w0.heap.size (w8.heap.size + 1) (.cells ol.toArray 58), rObj w0.heap.size w8.heap.size (.cells cl.toArray 58), rObj w0.heap.size st (.cells #[.pointer (some ⟨d, 0, none⟩)] 146)])) from fun W ho => by
        have h := HADOPT.out W _ ho (by simp)
        rw [← HCL.out] at h
        exact h)
      have HLO := Lib.hid (show ∀ W, Own w0 W (rDisk w0.heap.size d (blobM 2097152 D l) :: [rObj w0.heap.size (w8.heap.size + 1) (.cells ol.toArray 58), rObj w0.heap.size w8.heap.size (.cells cl.toArray 58), rObj w0.heap.size st (.cells #[.pointer (some ⟨d, 0, none⟩)] 146)]) → Runs 26 #[.pointer (some ⟨d, 0, none⟩)] W (.int .i64 0) W from fun W ho => by
        exact ho.looseA)
      have HWH := Lib.hid (show ∀ W, Own w0 W (rDisk w0.heap.size d (blobM 2097152 D l) :: [rObj w0.heap.size (w8.heap.size + 1) (.cells ol.toArray 58), rObj w0.heap.size w8.heap.size (.cells cl.toArray 58), rObj w0.heap.size st (.cells #[.pointer (some ⟨d, 0, none⟩)] 146)]) → Calls Try.prog 50 #[.pointer (some ⟨st, 0, none⟩), .agg cl.toArray] W (QuietP W (.bool true)) from fun W ho => by
        have h := bwhole_calls ho (st := st) (by simp) (blob_good 2097152 D l (-1) (by omega) (by omega) (by have := HLL.out; omega) (by omega)) HDL.out
        have hw := whole_blob 2097152 l
        rw [← HD.out] at hw
        have h2 : wholeOf { blobM 2097152 D l with fuse := -1 } D = true := hw
        rw [← HCL.out] at h
        exact h.mono fun e w' hp => ⟨by rw [← h2]; exact hp.1, hp.2⟩)
      have HUS := Lib.hid (show ∀ W, Own w0 W (rDisk w0.heap.size d (blobM 2097152 D l) :: [rObj w0.heap.size (w8.heap.size + 1) (.cells ol.toArray 58), rObj w0.heap.size w8.heap.size (.cells cl.toArray 58), rObj w0.heap.size st (.cells #[.pointer (some ⟨d, 0, none⟩)] 146)]) → Calls Try.prog 22 #[.pointer (some ⟨d, 0, none⟩)] W (QuietP W (.int .i64 (n : Int))) from fun W ho => by
        have h := ho.usedA (by rw [blob_usedA]; have := HLL.out; omega)
        rw [blob_usedA, ← HN.out] at h
        exact h)
      have HLAST := Lib.hid (show ∀ W, Own w0 W (rDisk w0.heap.size d (blobM 2097152 D l) :: [rObj w0.heap.size (w8.heap.size + 1) (.cells ol.toArray 58), rObj w0.heap.size w8.heap.size (.cells cl.toArray 58), rObj w0.heap.size st (.cells #[.pointer (some ⟨d, 0, none⟩)] 146)]) → Calls Try.prog 49 #[.pointer (some ⟨st, 0, none⟩), .string ⟨#[102]⟩, .agg cl.toArray] W (QuietP W (.int .i64 6)) from fun W ho => by
        have h := badopt_none ho (st := st) (by simp) nmF D (by rw [blob_noF 2097152 D l HDL.out]; decide)
        rw [blob_noF 2097152 D l HDL.out, ← HCL.out] at h
        exact h)
      have heq := fun W => dig_eq D O HDL.out HOLE.out W
      rw [← HCL.out, ← HOL.out] at heq
      have hado : ¬ D = O → ∀ W, Own w0 W (rDisk w0.heap.size d (adM 2097152 base l) :: [rObj w0.heap.size (w8.heap.size + 1) (.cells ol.toArray 58), rObj w0.heap.size w8.heap.size (.cells cl.toArray 58), rObj w0.heap.size st (.cells #[.pointer (some ⟨d, 0, none⟩)] 146)]) → Calls Try.prog 49 #[.pointer (some ⟨st, 0, none⟩), .string ⟨#[102]⟩, .agg ol.toArray] W (QuietP W (.int .i64 20)) := fun hne W ho => by
        have h := badopt_other ho (st := st) (by simp) HGA.out nmF O HOLE.out HB.out.there (by rw [HB.out.cont, ← HD.out]; exact hne)
        rw [← HOL.out] at h
        exact h
      by_cases hDO : D = O
      case' pos =>
        rw [decide_eq_true hDO] at heq
        clear hado hDO
        go_wp2_with (first | (refine wpList_store_row rfl 58 _ _ rfl (w8.heap.size) cl.toArray rfl rfl 58 _ HZ1.out HI.out (by rw [HSZ.out]; kernel_rfl) HONE.out ?_; change wpList _ _ _ _ _ (((w8.alloc (.cells zeroC 58)).alloc (.cells zeroC 58)).setRow w8.heap.size cl.toArray)) | (refine wpList_store_row rfl 58 _ _ rfl (w8.heap.size + 1) ol.toArray rfl rfl 58 _ HZ2.out HIO.out (by rw [HSZO.out]; kernel_rfl) HONEO.out ?_; generalize ((((w8.alloc (.cells zeroC 58)).alloc (.cells zeroC 58)).setRow w8.heap.size cl.toArray).setRow (w8.heap.size + 1) ol.toArray) = w9 at H9 ⊢) | (refine wpList_load_rowG (by rfl) 58 _ rfl w8.heap.size rfl 58 cl.toArray (0, 0) _ (H9.out.at (b := w8.heap.size) (o := .cells cl.toArray 58) (by simp)).1 Try.underlying58 rfl HI.out ?_) | (refine wpList_load_rowG (by rfl) 58 _ rfl (w8.heap.size + 1) rfl 58 ol.toArray (0, 0) _ (H9.out.at (b := w8.heap.size + 1) (o := .cells ol.toArray 58) (by simp)).1 Try.underlying58 rfl HIO.out ?_))
        have H10 := H9
        clear HZ1 HZ2
      case' neg =>
        rw [decide_eq_false hDO] at heq
        have HADO := Lib.hid (hado hDO)
        clear hado hDO
        go_wp2_with (first | (refine wpList_store_row rfl 58 _ _ rfl (w8.heap.size) cl.toArray rfl rfl 58 _ HZ1.out HI.out (by rw [HSZ.out]; kernel_rfl) HONE.out ?_; change wpList _ _ _ _ _ (((w8.alloc (.cells zeroC 58)).alloc (.cells zeroC 58)).setRow w8.heap.size cl.toArray)) | (refine wpList_store_row rfl 58 _ _ rfl (w8.heap.size + 1) ol.toArray rfl rfl 58 _ HZ2.out HIO.out (by rw [HSZO.out]; kernel_rfl) HONEO.out ?_; generalize ((((w8.alloc (.cells zeroC 58)).alloc (.cells zeroC 58)).setRow w8.heap.size cl.toArray).setRow (w8.heap.size + 1) ol.toArray) = w9 at H9 ⊢) | (refine wpList_load_rowG (by rfl) 58 _ rfl w8.heap.size rfl 58 cl.toArray (0, 0) _ (H9.out.at (b := w8.heap.size) (o := .cells cl.toArray 58) (by simp)).1 Try.underlying58 rfl HI.out ?_) | (refine wpList_load_rowG (by rfl) 58 _ rfl (w8.heap.size + 1) rfl 58 ol.toArray (0, 0) _ (H9.out.at (b := w8.heap.size + 1) (o := .cells ol.toArray 58) (by simp)).1 Try.underlying58 rfl HIO.out ?_))
        refine (HADO.out _ H9.out).mono ?_
        rintro e w10 ⟨rfl, hk10⟩
        have H10 := Lib.hid (H9.out.quiet hk10)
        clear HADO hk10 HZ1 HZ2
        go_wp2_with (first | (refine wpList_load_rowG (by rfl) 58 _ rfl w8.heap.size rfl 58 cl.toArray (0, 0) _ (H10.out.at (b := w8.heap.size) (o := .cells cl.toArray 58) (by simp)).1 Try.underlying58 rfl HI.out ?_) | (refine wpList_load_rowG (by rfl) 58 _ rfl (w8.heap.size + 1) rfl 58 ol.toArray (0, 0) _ (H10.out.at (b := w8.heap.size + 1) (o := .cells ol.toArray 58) (by simp)).1 Try.underlying58 rfl HIO.out ?_))
      all_goals
        refine (HADG.out _ H10.out).mono ?_
        rintro e w11 ⟨rfl, hk11⟩
        have H11 := Lib.hid (H10.out.quiet hk11)
        clear hk11 heq HADG H9 H10
        go_wp2_with (first | (refine wpList_load_rowG (by rfl) 58 _ rfl w8.heap.size rfl 58 cl.toArray (0, 0) _ (H11.out.at (b := w8.heap.size) (o := .cells cl.toArray 58) (by simp)).1 Try.underlying58 rfl HI.out ?_) | (refine wpList_load_rowG (by rfl) 58 _ rfl (w8.heap.size + 1) rfl 58 ol.toArray (0, 0) _ (H11.out.at (b := w8.heap.size + 1) (o := .cells ol.toArray 58) (by simp)).1 Try.underlying58 rfl HIO.out ?_))
        refine (HADF.out _ H11.out).mono ?_
        rintro e w12 ⟨rfl, h12⟩
        have H12 := Lib.hid h12
        clear h12 H11 HADF
        go_wp2_with fail
        refine (HLO.out _ H12.out).out.mono ?_; rintro e w' ⟨rfl, rfl⟩
        go_wp2_with (first | (refine wpList_load_rowG (by rfl) 58 _ rfl w8.heap.size rfl 58 cl.toArray (0, 0) _ (H12.out.at (b := w8.heap.size) (o := .cells cl.toArray 58) (by simp)).1 Try.underlying58 rfl HI.out ?_) | (refine wpList_load_rowG (by rfl) 58 _ rfl (w8.heap.size + 1) rfl 58 ol.toArray (0, 0) _ (H12.out.at (b := w8.heap.size + 1) (o := .cells ol.toArray 58) (by simp)).1 Try.underlying58 rfl HIO.out ?_))
        refine (HWH.out _ H12.out).mono ?_
        rintro e w13 ⟨rfl, hk13⟩
        have H13 := Lib.hid (H12.out.quiet hk13)
        clear hk13 H12 HLO HWH
        go_wp2_with fail
        refine (HUS.out _ H13.out).mono ?_
        rintro e w14 ⟨rfl, hk14⟩
        have H14 := Lib.hid (H13.out.quiet hk14)
        clear hk14 H13 HUS
        go_wp2_with (first | (refine wpList_load_rowG (by rfl) 58 _ rfl w8.heap.size rfl 58 cl.toArray (0, 0) _ (H14.out.at (b := w8.heap.size) (o := .cells cl.toArray 58) (by simp)).1 Try.underlying58 rfl HI.out ?_) | (refine wpList_load_rowG (by rfl) 58 _ rfl (w8.heap.size + 1) rfl 58 ol.toArray (0, 0) _ (H14.out.at (b := w8.heap.size + 1) (o := .cells ol.toArray 58) (by simp)).1 Try.underlying58 rfl HIO.out ?_))
        refine (HLAST.out _ H14.out).mono ?_
        rintro e w15 ⟨rfl, hk15⟩
        have HBL := Lib.hid (H14.out.quiet hk15).below
        clear hk15 H14 HLAST
        go_wp2_with fail
        go_ret
        exact ⟨rfl, HBL.out⟩
end Go.Proofs.Ytlinkpjneehnbaa
