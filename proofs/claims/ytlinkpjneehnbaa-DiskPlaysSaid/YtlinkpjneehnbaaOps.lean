/- The contracts of the disk's exported functions: Create, Remove, Read, Used, Append. -/
import Derived.Test.YtlinkpjneehnbaaDoes
namespace Go.Proofs.Ytlinkpjneehnbaa
open Go.RowKit Go.MapKept
open Go.ChangeMaps (setBlock)

theorem up_runs {F : Nat → Prop} {w : World} {d : Nat} {m : DM} (h : DiskIs F w d m) : Runs 73 #[.pointer (some ⟨d, 0, none⟩)] w (.int .i64 (upOf m)) w := up_calls h
theorem isname_runs (s : ByteArray) (w : World) : Runs 52 #[.string s] w (.bool (isName s)) w := isname_calls s w
theorem there_runs {F : Nat → Prop} {w : World} {d : Nat} {m : DM} (h : DiskIs F w d m) (n : ByteArray) : Runs 75 #[.pointer (some ⟨d, 0, none⟩), .string n] w (.int .i64 (thereOf m n)) w := there_calls h n

/-- What becomes of a disk by a call that answers a number. -/
def DPost (F : Nat → Prop) (w : World) (d : Nat) (r : Int × DM) (e : Ending) (w' : World) : Prop :=
  e = .returned (.int .i64 r.1) ∧ DiskIs (Ext F w w') w' d r.2 ∧ Keeps F w w'

theorem DiskIs.ext {F : Nat → Prop} {w : World} {d : Nat} {m : DM} (h : DiskIs F w d m) : DiskIs (Ext F w w) w d m := by
  obtain ⟨bn, bs, vl, h⟩ := h
  exact ⟨bn, bs, vl, h.wider (fun b hb => .inl hb) (fun b hb => by rcases hb with hb | hb; exact h.lt b hb; exact hb.2)⟩
theorem DiskIs.wider {F G : Nat → Prop} {w : World} {d : Nat} {m : DM} (h : DiskIs F w d m) (hFG : ∀ b, F b → G b) (hlt : ∀ b, G b → b < w.heap.size) : DiskIs G w d m := by
  obtain ⟨bn, bs, vl, h⟩ := h
  exact ⟨bn, bs, vl, h.wider hFG hlt⟩
/-- Two calls, one behind the other. -/
theorem DiskIs.rebase {F : Nat → Prop} {w w1 w2 : World} {d : Nat} {m : DM} (h : DiskIs (Ext (Ext F w w1) w1 w2) w2 d m) (h1 : w.heap.size ≤ w1.heap.size) (h2 : w1.heap.size ≤ w2.heap.size) : DiskIs (Ext F w w2) w2 d m :=
  h.wider (fun b hb => by
    rcases hb with (hb | hb) | hb
    · exact .inl hb
    · exact .inr ⟨hb.1, by omega⟩
    · exact .inr ⟨by omega, hb.2⟩) (fun b hb => by
    rcases hb with hb | hb
    · exact h.lt b (.inl (.inl hb))
    · exact hb.2)
theorem Keeps.rebase {F : Nat → Prop} {w w1 w2 : World} (k : Keeps F w w1) (h : Keeps (Ext F w w1) w1 w2) : Keeps F w w2 :=
  k.trans h (fun b hb e => by rcases e with e | e; exact e; omega)

def createOf (m : DM) (n : ByteArray) : Int × DM :=
  if m.down then (5, m) else if !isName n then (1, m) else if (fget m.now n).isSome then (7, m) else if decide ((4096 : Int) ≤ (m.now.length : Int)) then (4, m) else doesOf m ⟨0, n, ⟨#[]⟩, []⟩

theorem create_raw (w w2 : World) (d bn : Nat) (n : ByteArray) (v : Value) (dn nm is fl : Bool) (r len : Int)
    (hup : Runs 73 #[.pointer (some ⟨d, 0, none⟩)] w (.int .i64 (if dn then 5 else 0)) w) (c1 : w.cell? ⟨d, 1, none⟩ = some (.map (some bn)))
    (hl : Sem.run Try.prog (Instr.lookup 122 (Value.map (some bn)) (Value.string n) true) w = Result.ok (Value.tuple #[v, Value.bool is]) w)
    (hnm : Runs 52 #[.string n] w (.bool nm) w)
    (hlen : (Builtin.len_ #[122] 3 #[.map (some bn)]).run Try.prog w = .ok (.int .i64 len) w) (hfl : decide ((4096 : Int) ≤ len) = fl)
    (hd : dn = false → nm = true → is = false → fl = false → Runs 74 #[.pointer (some ⟨d, 0, none⟩), .agg #[.int .i64 0, .string n, .string ⟨#[]⟩, .slice none 0 0]] w (.int .i64 r) w2) :
    Runs 20 #[.pointer (some ⟨d, 0, none⟩), .string n] w (.int .i64 (if dn then 5 else if !nm then 1 else if is then 7 else if fl then 4 else r)) (if dn then w else if !nm then w else if is then w else if fl then w else w2) := by
  unfold Runs
  cases dn <;> cases nm <;> cases is <;> cases fl
  all_goals
    simp only [Bool.false_eq_true, if_false, if_true, Bool.not_true, Bool.not_false, true_implies, reduceCtorEq, false_implies] at hup hd ⊢
    have Hd := Lib.hid hd
    clear hd
    go_enter Try.func20, Try.ntmps20
    go_wp2_with (first | (go_at_call 73; refine hup.out.mono ?_; rintro e w' ⟨rfl, rfl⟩) | (go_at_call 52; refine hnm.out.mono ?_; rintro e w' ⟨rfl, rfl⟩) | (go_at_call 74; refine Hd.out.out.mono ?_; rintro e w' ⟨rfl, rfl⟩))
    go_ret
    exact ⟨rfl, rfl⟩

theorem create_runs {F : Nat → Prop} {w : World} {d : Nat} {m : DM} (h : DiskIs F w d m) (n : ByteArray) (hf : m.fuse ≤ 9223372036854775807) (hl : m.loose.length < 1099511627776) :
    ∃ w', Runs 20 #[.pointer (some ⟨d, 0, none⟩), .string n] w (.int .i64 (createOf m n).1) w' ∧ DiskIs (Ext F w w') w' d (createOf m n).2 ∧ Keeps F w w' := by
  have hup := up_runs h
  obtain ⟨w2, hd, h2, k2⟩ := does_calls h ⟨0, n, ⟨#[]⟩, []⟩ (Bytes.nil F w) ⟨by simp, by simp⟩ hf hl
  have hi := h
  obtain ⟨bn, bs, vl, h⟩ := h
  obtain ⟨v, _, _, hlook⟩ := look_now h.now n
  have key := create_raw w w2 d bn n v m.down (isName n) _ _ _ _ hup h.cells.c1 (hlook true) (isname_runs n w) (h.now.len (P := Try.prog) Try.underlying122 3) rfl (fun _ _ _ _ => hd)
  obtain ⟨w', hw'⟩ : ∃ w' : World, w' = (if m.down then w else if !isName n then w else if (fget m.now n).isSome then w else if decide ((4096 : Int) ≤ (m.now.length : Int)) then w else w2) := ⟨_, rfl⟩
  rw [← hw'] at key
  refine ⟨w', ?_, ?_, ?_⟩
  · rw [show (createOf m n).1 = (if m.down then 5 else if !isName n then 1 else if (fget m.now n).isSome then 7 else if decide ((4096 : Int) ≤ (m.now.length : Int)) then 4 else (doesOf m ⟨0, n, ⟨#[]⟩, []⟩).1) by unfold createOf; simp only [apply_ite Prod.fst]]
    exact key
  · subst hw'
    unfold createOf
    repeat' split
    all_goals first | exact hi.ext | exact h2
  · subst hw'
    repeat' split
    all_goals first | exact Keeps.refl _ _ | exact k2

def removeOf (m : DM) (n : ByteArray) : Int × DM := if thereOf m n = 0 then doesOf m ⟨2, n, ⟨#[]⟩, []⟩ else (thereOf m n, m)

theorem remove_raw (w w2 : World) (d : Nat) (n : ByteArray) (t r : Int)
    (hth : Runs 75 #[.pointer (some ⟨d, 0, none⟩), .string n] w (.int .i64 t) w)
    (hd : t = 0 → Runs 74 #[.pointer (some ⟨d, 0, none⟩), .agg #[.int .i64 2, .string n, .string ⟨#[]⟩, .slice none 0 0]] w (.int .i64 r) w2) :
    Runs 23 #[.pointer (some ⟨d, 0, none⟩), .string n] w (.int .i64 (if t = 0 then r else t)) (if t = 0 then w2 else w) := by
  unfold Runs
  by_cases ht : t = 0
  · subst ht
    simp only [if_true, true_implies] at hd ⊢
    have Hd := Lib.hid hd
    clear hd
    go_enter Try.func23, Try.ntmps23
    go_wp2_with (first | (go_at_call 75; refine hth.out.mono ?_; rintro e w' ⟨rfl, rfl⟩) | (go_at_call 74; refine Hd.out.out.mono ?_; rintro e w' ⟨rfl, rfl⟩))
    go_ret
    exact ⟨rfl, rfl⟩
  · rw [if_neg ht, if_neg ht]
    have hb : (t == 0) = false := by simpa using ht
    clear hd ht
    go_enter Try.func23, Try.ntmps23
    go_wp2_with (first | (go_at_call 75; refine hth.out.mono ?_; rintro e w' ⟨rfl, rfl⟩))
    go_ret
    exact ⟨rfl, rfl⟩

theorem remove_runs {F : Nat → Prop} {w : World} {d : Nat} {m : DM} (h : DiskIs F w d m) (n : ByteArray) (hf : m.fuse ≤ 9223372036854775807) (hl : m.loose.length < 1099511627776) :
    ∃ w', Runs 23 #[.pointer (some ⟨d, 0, none⟩), .string n] w (.int .i64 (removeOf m n).1) w' ∧ DiskIs (Ext F w w') w' d (removeOf m n).2 ∧ Keeps F w w' := by
  obtain ⟨w2, hd, h2, k2⟩ := does_calls h ⟨2, n, ⟨#[]⟩, []⟩ (Bytes.nil F w) ⟨by simp, by simp⟩ hf hl
  have key := remove_raw w w2 d n (thereOf m n) _ (there_runs h n) (fun _ => hd)
  unfold removeOf
  by_cases ht : thereOf m n = 0
  · simp only [ht, if_true] at key ⊢
    exact ⟨w2, key, h2, k2⟩
  · simp only [ht, if_false] at key ⊢
    exact ⟨w, key, h.ext, Keeps.refl _ _⟩

/-- The bytes from one place on, and so many of them. -/
def pieceOf (l : List UInt8) (at_ n : Int) : List UInt8 := (l.drop at_.toNat).take n.toNat

theorem Bytes.from {F : Nat → Prop} {w : World} {a : Option Addr} {c n : Nat} {l : List UInt8} (h : Bytes F w (.slice a n c) l) (i j : Nat) (hi : i + j ≤ l.length) (hc : ¬ c = i) :
    Bytes F w (.slice (a.map (fun x => x.add i)) j (c - i)) ((l.drop i).take j) := by
  have hl : ((l.drop i).take j).length = j := by simp; omega
  rcases h with ⟨e, rfl⟩ | ⟨g, off, cap, cs, fz, e, hF, hb, h1, h2, h3, h4⟩
  · simp only [Value.slice.injEq] at e
    obtain ⟨rfl, rfl, rfl⟩ := e
    simp at hi
    omega
  · simp only [Value.slice.injEq] at e
    obtain ⟨rfl, rfl, rfl⟩ := e
    refine .inr ⟨g, off + i, c - i, cs, fz, ?_, hF, hb, by omega, by omega, by omega, fun k x hk => ?_⟩
    · rw [hl]; simp only [Option.map_some, Addr.add_lit]
    · rw [List.getElem?_take] at hk
      split at hk
      · rw [List.getElem?_drop] at hk
        rw [Nat.add_assoc]; exact h4 _ _ hk
      · cases hk
theorem Bytes.none_of {F : Nat → Prop} {w : World} {a : Option Addr} {c n : Nat} {l : List UInt8} (h : Bytes F w (.slice a n c) l) : Bytes F w (.slice a 0 0) [] := by
  rcases h with ⟨e, rfl⟩ | ⟨g, off, cap, cs, fz, e, hF, hb, h1, h2, h3, h4⟩
  · simp only [Value.slice.injEq] at e
    obtain ⟨rfl, _, _⟩ := e
    exact Bytes.nil _ _
  · simp only [Value.slice.injEq] at e
    obtain ⟨rfl, _, _⟩ := e
    exact .inr ⟨g, off, 0, cs, fz, rfl, hF, hb, Nat.le_refl _, Nat.zero_le _, by omega, fun i c hi => by simp at hi⟩

set_option maxRecDepth 100000 in
theorem read_raw (w w2 : World) (d bn : Nat) (n : ByteArray) (at_ k : Int) (i j : Nat) (va : Option Addr) (vn vc : Nat) (v2 : Value)
    (hth : Runs 75 #[.pointer (some ⟨d, 0, none⟩), .string n] w (.int .i64 0) w) (c1 : w.cell? ⟨d, 1, none⟩ = some (.map (some bn)))
    (hl : Sem.run Try.prog (Instr.lookup 122 (Value.map (some bn)) (Value.string n) false) w = Result.ok (.slice va vn vc) w)
    (h0 : 0 ≤ at_) (hk0 : 0 ≤ k) (hm1 : (if (vn : Int) < at_ then (vn : Int) else at_) = (i : Int)) (hm2 : (if ((vn - i : Nat) : Int) < k then ((vn - i : Nat) : Int) else k) = (j : Int))
    (hle : (vn : Int) ≤ vc) (hi : (i : Int) ≤ vn) (hi0 : (0 : Int) ≤ i) (hj : (j : Int) ≤ ((vc - i : Nat) : Int)) (hj0 : (0 : Int) ≤ j) (hci : ¬ vc = i)
    (hc : Runs 76 #[.slice (Option.map (fun x => x.add i) va) j (vc - i)] w v2 w2) :
    Runs 27 #[.pointer (some ⟨d, 0, none⟩), .string n, .int .i64 at_, .int .i64 k] w (.tuple #[v2, .int .i64 0]) w2 := by
  unfold Runs
  go_enter Try.func27, Try.ntmps27
  go_wp2_with (first | (go_at_call 75; refine hth.out.mono ?_; rintro e w' ⟨rfl, rfl⟩) | (go_at_call 76; refine hc.out.mono ?_; rintro e w' ⟨rfl, rfl⟩))
  go_ret2
  exact ⟨rfl, rfl⟩

set_option maxRecDepth 100000 in
theorem read_raw0 (w w2 : World) (d bn : Nat) (n : ByteArray) (at_ k : Int) (va : Option Addr) (i : Nat) (v2 : Value)
    (hth : Runs 75 #[.pointer (some ⟨d, 0, none⟩), .string n] w (.int .i64 0) w) (c1 : w.cell? ⟨d, 1, none⟩ = some (.map (some bn)))
    (hl : Sem.run Try.prog (Instr.lookup 122 (Value.map (some bn)) (Value.string n) false) w = Result.ok (.slice va i i) w)
    (h0 : 0 ≤ at_) (hk0 : 0 ≤ k) (hm1 : (if (i : Int) < at_ then (i : Int) else at_) = (i : Int)) (hm2 : (if (0 : Int) < k then (0 : Int) else k) = 0)
    (hi0 : (0 : Int) ≤ i) 
    (hc : Runs 76 #[.slice va 0 0] w v2 w2) :
    Runs 27 #[.pointer (some ⟨d, 0, none⟩), .string n, .int .i64 at_, .int .i64 k] w (.tuple #[v2, .int .i64 0]) w2 := by
  unfold Runs
  go_enter Try.func27, Try.ntmps27
  go_wp2_with (first | (go_at_call 75; refine hth.out.mono ?_; rintro e w' ⟨rfl, rfl⟩) | (go_at_call 76; refine hc.out.mono ?_; rintro e w' ⟨rfl, rfl⟩))
  go_ret2
  exact ⟨rfl, rfl⟩

theorem read_bad (w : World) (d : Nat) (n : ByteArray) (at_ k t : Int)
    (hth : Runs 75 #[.pointer (some ⟨d, 0, none⟩), .string n] w (.int .i64 t) w) (ht : (t == 0) = false) :
    Runs 27 #[.pointer (some ⟨d, 0, none⟩), .string n, .int .i64 at_, .int .i64 k] w (.tuple #[.slice none 0 0, .int .i64 t]) w := by
  unfold Runs
  go_enter Try.func27, Try.ntmps27
  go_wp2_with (first | (go_at_call 75; refine hth.out.mono ?_; rintro e w' ⟨rfl, rfl⟩))
  go_ret2
  exact ⟨rfl, rfl⟩

theorem read_neg (w : World) (d : Nat) (n : ByteArray) (at_ k : Int)
    (hth : Runs 75 #[.pointer (some ⟨d, 0, none⟩), .string n] w (.int .i64 0) w) (hn : at_ < 0 ∨ k < 0) :
    Runs 27 #[.pointer (some ⟨d, 0, none⟩), .string n, .int .i64 at_, .int .i64 k] w (.tuple #[.slice none 0 0, .int .i64 1]) w := by
  unfold Runs
  by_cases ha : at_ < 0
  · clear hn
    go_enter Try.func27, Try.ntmps27
    go_wp2_with (first | (go_at_call 75; refine hth.out.mono ?_; rintro e w' ⟨rfl, rfl⟩))
    go_ret2
    exact ⟨rfl, rfl⟩
  · have hk : k < 0 := by omega
    clear hn
    go_enter Try.func27, Try.ntmps27
    go_wp2_with (first | (go_at_call 75; refine hth.out.mono ?_; rintro e w' ⟨rfl, rfl⟩))
    go_ret2
    exact ⟨rfl, rfl⟩

def readCode (m : DM) (n : ByteArray) (at_ k : Int) : Int := if thereOf m n = 0 then (if at_ < 0 ∨ k < 0 then 1 else 0) else thereOf m n
def readBytes (m : DM) (n : ByteArray) (at_ k : Int) : List UInt8 := if thereOf m n = 0 then (if at_ < 0 ∨ k < 0 then [] else pieceOf ((fget m.now n).getD []) at_ k) else []

theorem read_runs {F : Nat → Prop} {w : World} {d : Nat} {m : DM} (h : DiskIs F w d m) (n : ByteArray) (at_ k : Int) (hlen : ((fget m.now n).getD []).length ≤ 140737488355328) :
    ∃ v w', Runs 27 #[.pointer (some ⟨d, 0, none⟩), .string n, .int .i64 at_, .int .i64 k] w (.tuple #[v, .int .i64 (readCode m n at_ k)]) w' ∧ Bytes (fun b => w.heap.size ≤ b) w' v (readBytes m n at_ k) ∧ Keeps (fun _ => False) w w' := by
  have hth := there_runs h n
  unfold readCode readBytes
  by_cases ht : thereOf m n = 0
  · simp only [ht, if_true]
    rw [ht] at hth
    by_cases hneg : at_ < 0 ∨ k < 0
    · simp only [hneg, if_true]
      exact ⟨_, _, read_neg w d n at_ k hth hneg, Bytes.nil _ _, Keeps.refl _ _⟩
    · simp only [hneg, if_false]
      obtain ⟨bn, bs, vl, h⟩ := h
      obtain ⟨v, hB, _, hlook⟩ := look_now h.now n
      have hl := hlook false
      simp only [Bool.false_eq_true, if_false] at hl
      generalize (fget m.now n).getD [] = l at *
      obtain ⟨va, vc, rfl, h1, h2⟩ := hB.form
      unfold maxLen at h2
      by_cases hc : vc = (if (l.length : Int) < at_ then (l.length : Int) else at_).toNat
      · have hvl : vc = l.length := by split at hc <;> omega
        subst hvl
        obtain ⟨v2, w2, hr, hB2, hk2⟩ := clone_runs hB.none_of.reads (by simp)
        refine ⟨v2, w2, read_raw0 w w2 d bn n at_ k va l.length v2 hth h.cells.c1 hl (by omega) (by omega) (by split <;> omega) (by split <;> omega) (by omega) hr, ?_, hk2⟩
        have : pieceOf l at_ k = [] := by
          unfold pieceOf
          rw [List.drop_of_length_le (by split at hc <;> omega)]; simp
        rw [this]; exact hB2
      · have hcl : ∀ i : Nat, i = (if (l.length : Int) < at_ then (l.length : Int) else at_).toNat → i ≤ l.length := by intro i hi; split at hi <;> omega
        obtain ⟨i, hi⟩ : ∃ i : Nat, i = (if (l.length : Int) < at_ then (l.length : Int) else at_).toNat := ⟨_, rfl⟩
        have hil := hcl i hi
        rw [← hi] at hc
        obtain ⟨j, hj⟩ : ∃ j : Nat, j = (if ((l.length - i : Nat) : Int) < k then ((l.length - i : Nat) : Int) else k).toNat := ⟨_, rfl⟩
        have hjl : i + j ≤ l.length := by split at hj <;> omega
        obtain ⟨v2, w2, hr, hB2, hk2⟩ := clone_runs (hB.from i j hjl hc).reads (by simp; omega)
        refine ⟨v2, w2, read_raw w w2 d bn n at_ k i j va l.length vc v2 hth h.cells.c1 hl (by omega) (by omega) (by split at hi <;> (split <;> omega)) (by split at hj <;> (split <;> omega)) (by omega) (by omega) (by omega) (by omega) (by omega) hc hr, ?_, hk2⟩
        have : pieceOf l at_ k = (l.drop i).take j := by
          unfold pieceOf
          by_cases h3 : (l.length : Int) < at_
          · rw [if_pos h3] at hi
            rw [List.drop_of_length_le (by omega : l.length ≤ at_.toNat), List.drop_of_length_le (by omega : l.length ≤ i)]; simp
          · rw [if_neg h3] at hi
            rw [← hi]
            by_cases h4 : ((l.length - i : Nat) : Int) < k
            · rw [if_pos h4] at hj
              rw [List.take_of_length_le (by simp; omega), List.take_of_length_le (by simp; omega)]
            · rw [if_neg h4] at hj
              rw [← hj]
        rw [this]; exact hB2
  · simp only [ht, if_false]
    exact ⟨_, _, read_bad w d n at_ k _ hth (by simpa using ht), Bytes.nil _ _, Keeps.refl _ _⟩

end Go.Proofs.Ytlinkpjneehnbaa
