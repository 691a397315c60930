/- The contracts of Used and Append. -/
import Derived.Test.YtlinkpjneehnbaaOps
namespace Go.Proofs.Ytlinkpjneehnbaa
open Go.RowKit Go.MapKept
open Go.ChangeMaps (setBlock)

def lenV : Value → Nat | .slice _ n _ => n | _ => 0

/-- How many bytes the entries have that have been handed out. -/
def seenLen : List MapEntry → Array Nat → Nat
  | [], _ => 0
  | x :: l, seen => (if seen.contains x.born then lenV x.val else 0) + seenLen l seen

theorem seenLen_other (seen : Array Nat) (b : Nat) : ∀ (es : List MapEntry), b ∉ es.map (·.born) → seenLen es (seen.push b) = seenLen es seen
  | [], _ => rfl
  | x :: l, h => by
    have hx : (x.born == b) = false := by
      rw [Bool.eq_false_iff]; intro hc
      exact h (List.mem_cons.2 (Or.inl (beq_iff_eq.1 hc).symm))
    simp only [seenLen, contains_push, hx, Bool.or_false, seenLen_other seen b l (fun e => h (List.mem_cons.2 (Or.inr e)))]
theorem seenLen_push (seen : Array Nat) (e : MapEntry) (hs : seen.contains e.born = false) : ∀ (es : List MapEntry), (es.map (·.born)).Nodup → e ∈ es → seenLen es (seen.push e.born) = seenLen es seen + lenV e.val
  | x :: l, hn, he => by
    have hn' : x.born ∉ l.map (·.born) ∧ (l.map (·.born)).Nodup := List.nodup_cons.1 hn
    rcases List.mem_cons.1 he with rfl | h
    · simp only [seenLen, contains_push, hs, beq_self_eq_true, Bool.or_true, if_true, Bool.false_eq_true, if_false, seenLen_other seen e.born l hn'.1]
      omega
    · have hx : (x.born == e.born) = false := by
        rw [Bool.eq_false_iff]; intro hc
        exact hn'.1 (by rw [beq_iff_eq.1 hc]; exact List.mem_map.2 ⟨e, h, rfl⟩)
      simp only [seenLen, contains_push, hx, Bool.or_false, seenLen_push seen e hs l hn'.2 h]
      omega
theorem seenLen_le (seen : Array Nat) : ∀ (es : List MapEntry), seenLen es seen ≤ (es.map fun e => lenV e.val).sum
  | [] => Nat.le_refl _
  | x :: l => by
    have := seenLen_le seen l
    simp only [seenLen, List.map_cons, List.sum_cons]
    split <;> omega
theorem seenLen_full (seen : Array Nat) : ∀ (es : List MapEntry), (∀ x ∈ es, seen.contains x.born = true) → seenLen es seen = (es.map fun e => lenV e.val).sum
  | [], _ => rfl
  | x :: l, h => by
    simp only [seenLen, h x (List.mem_cons.2 (Or.inl rfl)), if_true, List.map_cons, List.sum_cons, seenLen_full seen l (fun y hy => h y (List.mem_cons.2 (Or.inr hy)))]
theorem seenLen_none : ∀ (es : List MapEntry), seenLen es #[] = 0
  | [] => rfl
  | x :: l => by
    have : (#[] : Array Nat).contains x.born = false := by simp
    simp only [seenLen, this, Bool.false_eq_true, if_false, seenLen_none l]
theorem left_none {es : Array MapEntry} {seen : Array Nat} (h : (leftOf es seen).size = 0) : ∀ x ∈ es.toList, seen.contains x.born = true := by
  intro x hx
  have h2 : leftOf es seen = #[] := Array.eq_empty_of_size_eq_zero h
  unfold leftOf at h2
  rw [Array.filter_eq_empty_iff] at h2
  have h3 := h2 x (Array.mem_toList_iff.1 hx)
  cases hc : seen.contains x.born with
  | true => rfl
  | false => rw [hc] at h3; simp at h3

theorem used_perm {l fs : FS} (h : l.Perm fs) : used l = used fs := by
  induction h with
  | nil => rfl
  | cons x _ ih => simp [used, ih]
  | swap x y l => simp [used]; omega
  | trans _ _ h1 h2 => exact h1.trans h2
theorem rel_used {F : Nat → Prop} {w : World} : ∀ {es : List MapEntry} {l : FS}, Rel2 (EntryOk F w) es l → (es.map fun e => lenV e.val).sum = used l
  | [], [], _ => rfl
  | e :: es, p :: l, h => by
    obtain ⟨a, c, hv, _⟩ := h.1.2.form
    have e1 := rel_used h.2
    have e2 : lenV e.val = p.2.length := by rw [hv]; rfl
    simp only [List.map_cons, List.sum_cons, used, e2]
    rw [← e1]
  | [], _ :: _, h => h.elim
  | _ :: _, [], h => h.elim

theorem used_nil (w : World) : Calls Try.prog 22 #[.pointer none] w fun e w' => e = .returned (.int .i64 0) ∧ w = w' := by
  go_enter Try.func22, Try.ntmps22
  go_wp2
  go_ret
  exact ⟨rfl, rfl⟩

/-- The answer r, and nothing that was there has turned. -/
def QuietP (w : World) (v : Value) (e : Ending) (w' : World) : Prop := e = .returned v ∧ Keeps (fun _ => False) w w'

set_option maxRecDepth 100000 in
theorem used_raw (w : World) (d bn : Nat) (es : Array MapEntry) (clock : Nat) (total : Nat) (c1 : w.cell? ⟨d, 1, none⟩ = some (.map (some bn)))
    (hb : w.heap[bn]? = some (.map es clock)) (hs : Stamped es clock) (hv : ∀ e ∈ es.toList, ∃ a n c, e.val = .slice a n c) (ht : (es.toList.map fun e => lenV e.val).sum = total) (htb : total ≤ 4611686018427387904) :
    Calls Try.prog 22 #[.pointer (some ⟨d, 0, none⟩)] w (QuietP w (.int .i64 (total : Int))) := by
  have hrange := run_range_map (P := Try.prog) w 122 9 31 bn es clock Try.underlying122 hb
  have hblt := lt_of_heap hb
  have hb0 : (w.alloc (.mapIter (some bn) clock #[] clock)).heap[bn]? = some (.map es clock) := (Below.heap_alloc _ _ _ hblt).trans hb
  have HS := Lib.hid hs
  have HV := Lib.hid hv
  have HT := Lib.hid ht
  clear hs hv ht
  go_enter Try.func22, Try.ntmps22
  go_wp2
  go_loopw [3] (fun n wr => ∃ seen : Array Nat, ∃ c0 : Nat, wr.heap[w.heap.size]? = some (.mapIter (some bn) clock seen c0) ∧ clock ≤ c0 ∧ n = .int .i64 ((seenLen es.toList seen : Nat) : Int) ∧ Keeps (fun _ => False) w wr) (fun _ wr => (leftOf es (wr.iterSeen w.heap.size)).size)
  case atStart => exact ⟨#[], clock, heap_alloc_new w _, Nat.le_refl _, by rw [seenLen_none]; rfl, (Keeps.refl _ w).alloc _⟩
  case round =>
    obtain ⟨seen, c0, hr, hc0, rfl, hk⟩ := hrel
    have hb' : wr.heap[bn]? = some (.map es clock) := hk.at hb (fun e => e)
    have hle := seenLen_le seen es.toList
    rw [HT.out] at hle
    rcases run_next_at (P := Try.prog) wr 0 w.heap.size bn clock c0 seen es clock hr hb' HS.out.1 hc0 with ⟨hz, hrun⟩ | ⟨e, he, w1, hw1, hrun⟩
    · have hfin : seenLen es.toList seen = total := by rw [← HT.out]; exact seenLen_full seen _ (left_none hz)
      have Hfin := Lib.hid hfin
      clear hfin hz hr hb' hb0 hrange hc0
      go_wp2
      go_ret
      refine ⟨?_, hk⟩
      rw [Hfin.out]
      rfl
    · obtain ⟨hmem, hns⟩ := mem_left he
      obtain ⟨va, vn, vc, hval⟩ := HV.out e hmem
      have hw1h : w1.heap = wr.heap := by rcases hw1 with rfl | rfl <;> rfl
      have hk1 : Keeps (fun _ => False) w w1 := by rcases hw1 with rfl | rfl <;> first | exact hk | exact hk.drew
      have hr2 : (setBlock w1 w.heap.size (.mapIter (some bn) clock (seen.push e.born) clock)).heap[w.heap.size]? = some (.mapIter (some bn) clock (seen.push e.born) clock) := heap_setBlock_eq (by rw [hw1h]; exact hr) _
      have hb2 : (setBlock w1 w.heap.size (.mapIter (some bn) clock (seen.push e.born) clock)).heap[bn]? = some (.map es clock) := by rw [heap_setBlock_ne _ _ _ (by omega), hw1h]; exact hb'
      have hent := run_entry_at (P := Try.prog) _ w.heap.size bn clock seen es clock e hr2 hb2 hmem HS.out.2.1
      have hpush := seenLen_push seen e hns es.toList HS.out.2.1 hmem
      have hle2 := seenLen_le (seen.push e.born) es.toList
      rw [HT.out, hpush] at hle2
      have hk2 : Keeps (fun _ => False) w (setBlock w1 w.heap.size (.mapIter (some bn) clock (seen.push e.born) clock)) := hk1.setBlock (fun h => by omega) _
      have hsh := left_shrinks es seen e he
      rw [hval] at hrun hent hpush hle2
      simp only [lenV] at hpush hle2
      have HR := Lib.hid hr
      have HR2 := Lib.hid hr2
      have HP := Lib.hid hpush
      clear hr hr2 hb2 hb0 hb' hval hmem hns he hw1 hw1h hpush hrange hb hk1
      have hs0 : (0 : Int) ≤ (seenLen es.toList seen : Nat) := by omega
      have hn0 : (0 : Int) ≤ (vn : Nat) := by omega
      have hn1 : ((seenLen es.toList seen : Nat) : Int) + (vn : Nat) ≤ 4611686018427387904 := by omega
      clear hle hle2
      go_wp2
      go_roundw
      case rel => exact ⟨seen.push e.born, clock, HR2.out, Nat.le_refl _, by rw [HP.out]; push_cast; rfl, hk2⟩
      case measure =>
        simp only [World.iterSeen, HR.out, HR2.out]
        exact hsh

theorem used_calls {F : Nat → Prop} {w : World} {d : Nat} {m : DM} (h : DiskIs F w d m) (hu : used m.now ≤ 4611686018427387904) : Calls Try.prog 22 #[.pointer (some ⟨d, 0, none⟩)] w (QuietP w (.int .i64 (used m.now : Int))) := by
  obtain ⟨bn, bs, vl, h⟩ := h
  have c1 := h.cells.c1
  obtain ⟨es, clock, l, hb, hs, hr, hp⟩ := h.now
  refine used_raw w d bn es clock _ c1 hb hs (fun e he => ?_) ((rel_used hr).trans (used_perm hp)) hu
  obtain ⟨i, hi⟩ := List.mem_iff_getElem?.1 he
  obtain ⟨p, _, hp⟩ := hr.get hi
  obtain ⟨a, c, hv, _⟩ := hp.2.form
  exact ⟨a, _, c, hv⟩

theorem DiskIs.quiet {F : Nat → Prop} {w w1 : World} {d : Nat} {m : DM} (h : DiskIs F w d m) (hk : Keeps (fun _ => False) w w1) : DiskIs (Ext F w w1) w1 d m :=
  (h.keeps hk (fun _ _ e => e)).wider (fun b hb => .inl hb) (fun b hb => by
    rcases hb with hb | hb
    · have := h.lt b hb; have := hk.size; omega
    · exact hb.2)
theorem Keeps.any {F : Nat → Prop} {w w1 : World} (hk : Keeps (fun _ => False) w w1) : Keeps F w w1 := hk.mono (fun _ _ e => e.elim)

def appendOf (m : DM) (n : ByteArray) (p : List UInt8) : Int × DM :=
  if thereOf m n = 0 then (if (1048576 : Int) < (p.length : Int) then (8, m) else if m.room - (used m.now : Int) < (p.length : Int) then (4, m) else doesOf m ⟨1, n, ⟨#[]⟩, p⟩) else (thereOf m n, m)

theorem append_bad (w : World) (d : Nat) (n : ByteArray) (pv : Value) (t : Int)
    (hth : Runs 75 #[.pointer (some ⟨d, 0, none⟩), .string n] w (.int .i64 t) w) (ht : (t == 0) = false) :
    Runs 21 #[.pointer (some ⟨d, 0, none⟩), .string n, pv] w (.int .i64 t) w := by
  unfold Runs
  go_enter Try.func21, Try.ntmps21
  go_wp2_with (first | (go_at_call 75; refine hth.out.mono ?_; rintro e w' ⟨rfl, rfl⟩))
  go_ret
  exact ⟨rfl, rfl⟩
theorem append_long (w : World) (d : Nat) (n : ByteArray) (a : Option Addr) (l c : Nat)
    (hth : Runs 75 #[.pointer (some ⟨d, 0, none⟩), .string n] w (.int .i64 0) w) (hl : (1048576 : Int) < (l : Int)) :
    Runs 21 #[.pointer (some ⟨d, 0, none⟩), .string n, .slice a l c] w (.int .i64 8) w := by
  unfold Runs
  go_enter Try.func21, Try.ntmps21
  go_wp2_with (first | (go_at_call 75; refine hth.out.mono ?_; rintro e w' ⟨rfl, rfl⟩))
  go_ret
  exact ⟨rfl, rfl⟩

set_option maxRecDepth 100000 in
set_option maxHeartbeats 400000 in
theorem append_calls {F : Nat → Prop} {w : World} {d : Nat} {m : DM} (h : DiskIs F w d m) (n : ByteArray) {pv : Value} {p : List UInt8} (hp : Reads w pv p)
    (hr0 : 0 ≤ m.room) (hr1 : m.room ≤ 67108864) (hu : (used m.now : Int) ≤ m.room) (hg : ((fget m.now n).getD []).length ≤ used m.now) (hf : m.fuse ≤ 9223372036854775807) (hl : m.loose.length < 1099511627776) :
    Calls Try.prog 21 #[.pointer (some ⟨d, 0, none⟩), .string n, pv] w (DPost F w d (appendOf m n p)) := by
  have hth := there_runs h n
  obtain ⟨pa, pc, rfl, hpc, hpm⟩ := hp.form
  unfold appendOf
  by_cases ht : thereOf m n = 0
  · simp only [ht, if_true]
    rw [ht] at hth
    by_cases hlong : (1048576 : Int) < (p.length : Int)
    · simp only [hlong, if_true]
      refine (append_long w d n pa p.length pc hth hlong).out.mono ?_
      rintro e w' ⟨rfl, rfl⟩
      exact ⟨rfl, h.ext, Keeps.refl _ _⟩
    · simp only [hlong, if_false]
      have hus := used_calls (h.keep (w' := w.drew) (fun _ _ => rfl)) (by omega)
      obtain ⟨r, hr⟩ : ∃ r, r = m.room := ⟨_, rfl⟩
      obtain ⟨u, hu'⟩ : ∃ u, u = used m.now := ⟨_, rfl⟩
      have c0 : w.cell? ⟨d, 0, none⟩ = some (.int .i64 r) := by
        obtain ⟨bn, bs, vl, h⟩ := h
        rw [hr]; exact h.cells.c0
      have hdlt : d < w.heap.size := by
        obtain ⟨bn, bs, vl, h⟩ := h
        exact h.lt d h.fd
      rw [← hu'] at hus hu hg
      rw [← hr, ← hu']
      have hwrap : IntKind.i64.wrap (r - (u : Int)) = r - (u : Int) := IntWalk.i64_in _ (by omega)
      have H := Lib.hid h
      have HP := Lib.hid hp
      have HW := Lib.hid hg
      clear h hp ht hr hu' hg
      have ck : ∀ w1 : World, Keeps (fun _ => False) w.drew w1 → w1.cell? ⟨d, 0, none⟩ = some (.int .i64 r) := fun w1 hk => (World.cell?_of_block (w := w.drew) (hk.block d hdlt (fun e => e))).trans c0
      have CK := Lib.hid ck
      clear ck
      by_cases hfull : r - (u : Int) < (p.length : Int)
      · simp only [hfull, if_true]
        go_enter Try.func21, Try.ntmps21
        go_wp2_with (first | (go_at_call 75; refine hth.out.mono ?_; rintro e w' ⟨rfl, rfl⟩))
        go_region_held3 (fun w' => w'.cell? ⟨d, 0, none⟩ = some (.int .i64 r)) (first | go_keep | exact CK.out _ hk) (first | (go_at_call 22; refine hus.mono ?_; rintro e w1 ⟨rfl, hk⟩))
        go_wp2
        go_ret
        exact ⟨rfl, H.out.quiet hk.undrew, hk.undrew.any⟩
      · simp only [hfull, if_false]
        go_enter Try.func21, Try.ntmps21
        go_wp2_with (first | (go_at_call 75; refine hth.out.mono ?_; rintro e w' ⟨rfl, rfl⟩))
        go_region_held3 (fun w' => w'.cell? ⟨d, 0, none⟩ = some (.int .i64 r)) (first | go_keep | exact CK.out _ hk) (first | (go_at_call 22; refine hus.mono ?_; rintro e w1 ⟨rfl, hk⟩))
        obtain ⟨v2, w2, hc, hB2, hk2⟩ := clone_runs (HP.out.keep hk.undrew) (by omega)
        obtain ⟨v2a, v2c, rfl, _, _⟩ := hB2.form
        have h1 := H.out.quiet hk.undrew
        have h2 := h1.quiet hk2
        have hz1 := hk.undrew.size
        have hz2 := hk2.size
        have h3 : DiskIs (Ext F w w2) w2 d m := h2.rebase hz1 hz2
        obtain ⟨w3, hd, h4, k4⟩ := does_calls h3 ⟨1, n, ⟨#[]⟩, p⟩ (hB2.keep (KeepU8.refl _ _) (fun b hb hb2 => .inr ⟨by omega, hb2⟩)) ⟨by simp, fun _ => by have := HW.out; simp only; omega⟩ hf hl
        have hz3 := k4.size
        replace hd : Runs 74 #[.pointer (some ⟨d, 0, none⟩), .agg #[.int .i64 1, .string n, .string ⟨#[]⟩, .slice v2a p.length v2c]] w2 (.int .i64 (doesOf m ⟨1, n, ⟨#[]⟩, p⟩).1) w3 := hd
        have H4 := Lib.hid h4
        have K4 := Lib.hid k4
        have K2 := Lib.hid hk2
        have K1 := Lib.hid hk
        clear h1 h2 h3 h4 k4 hB2 hk2 hk
        go_wp2_with (first | (go_at_call 76; refine hc.out.mono ?_; rintro e w' ⟨rfl, rfl⟩) | (go_at_call 74; refine hd.out.mono ?_; rintro e w' ⟨rfl, rfl⟩))
        go_ret
        refine ⟨rfl, H4.out.rebase (by omega) hz3, ?_⟩
        exact ((K1.out.undrew.any (F := F)).trans K2.out (fun _ _ e => e.elim)).trans K4.out (fun b hb e => by rcases e with e | e; exact e; omega)
  · simp only [ht, if_false]
    refine (append_bad w d n _ _ hth (by simpa using ht)).out.mono ?_
    rintro e w' ⟨rfl, rfl⟩
    exact ⟨rfl, h.ext, Keeps.refl _ _⟩
end Go.Proofs.Ytlinkpjneehnbaa
