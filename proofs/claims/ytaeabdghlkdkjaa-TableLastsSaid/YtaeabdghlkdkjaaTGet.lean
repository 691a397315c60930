/- A table's Get, Len, Keys; a nil table. -/
import Derived.Test.YtaeabdghlkdkjaaTDo
import Derived.Test.YtaeabdghlkdkjaaPkK
import Derived.Laws.Cover1
namespace Go.Proofs.Ytaeabdghlkdkjaa
set_option linter.unusedVariables false
open Go.RowKit Go.MapKept

theorem tup_nil (w : World) : Runs 48 #[.pointer none] w (.int .i64 2) w := by
  unfold Runs
  go_enter Try.func48, Try.ntmps48
  go_wp2
  go_ret
  exact ⟨rfl, rfl⟩
theorem tup_runs {w : World} {t j b : Nat} {down : Bool} (h : w.heap[t]? = some (tabObj j b down)) : Runs 48 #[.pointer (some ⟨t, 0, none⟩)] w (.int .i64 (if down then 5 else 0)) w := by
  unfold Runs
  have c2 := (tab_cells h).2.2.1
  clear h
  go_enter Try.func48, Try.ntmps48
  cases down
  all_goals go_wp2
  all_goals go_ret
  all_goals exact ⟨rfl, rfl⟩
theorem tget_nil (w : World) (k : ByteArray) : Runs 17 #[.pointer none, .string k] w (.tuple #[.slice none 0 0, .bool false]) w := by
  unfold Runs
  go_enter Try.func17, Try.ntmps17
  go_wp2
  go_ret2
  exact ⟨rfl, rfl⟩
theorem tlen_nil (w : World) : Runs 23 #[.pointer none] w (.int .i64 0) w := by
  unfold Runs
  go_enter Try.func23, Try.ntmps23
  go_wp2
  go_ret
  exact ⟨rfl, rfl⟩
theorem tsize_nil (w : World) : Runs 24 #[.pointer none] w (.int .i64 0) w := by
  unfold Runs
  go_enter Try.func24, Try.ntmps24
  go_wp2
  go_ret
  exact ⟨rfl, rfl⟩
theorem tkeys_nil (w : World) (x y : ByteArray) (n : Int) : Runs 15 #[.pointer none, .string x, .string y, .int .i64 n] w (.slice none 0 0) w := by
  unfold Runs
  go_enter Try.func15, Try.ntmps15
  go_wp2
  go_ret
  exact ⟨rfl, rfl⟩
theorem tapply_nil (w : World) (v : Value) : Runs 12 #[.pointer none, v] w (.int .i64 2) w := by
  unfold Runs
  have hup := tup_nil w
  go_enter Try.func12, Try.ntmps12
  go_wp2_with (first | (go_at_call 48; refine hup.out.mono ?_; rintro e w' ⟨rfl, rfl⟩))
  go_ret
  exact ⟨rfl, rfl⟩
theorem tfold_nil (w : World) : Runs 22 #[.pointer none] w (.int .i64 2) w := by
  unfold Runs
  have hup := tup_nil w
  go_enter Try.func22, Try.ntmps22
  go_wp2_with (first | (go_at_call 48; refine hup.out.mono ?_; rintro e w' ⟨rfl, rfl⟩))
  go_ret
  exact ⟨rfl, rfl⟩

theorem zero_bytesT (w : World) : (zeroValue 41).run Try.prog w = .ok (.slice none 0 0) w := by kernel_rfl
/-- A key's value is told, in new memory. -/
def GetPost (w : World) (fs : FS) (k : ByteArray) (e : Ending) (w' : World) : Prop := ∃ v, e = .returned (.tuple #[v, .bool (fget fs k).isSome]) ∧ Owns w' w.heap.size v ((fget fs k).getD []) ∧ Keeps (fun _ => False) w w'
theorem tget_calls {w : World} {t j b : Nat} {down : Bool} {F : Nat → Prop} {fs : FS} (h : w.heap[t]? = some (tabObj j b down)) (hm : MapFs F w b fs) (k : ByteArray) (hl : ((fget fs k).getD []).length ≤ 140737488355328) :
    Calls Try.prog 17 #[.pointer (some ⟨t, 0, none⟩), .string k] w (GetPost w fs k) := by
  have c1 := (tab_cells h).2.1
  obtain ⟨v, hv, _, hlook⟩ := hm.look (P := Try.prog) (T := 95) Try.underlying95 Try.underlying9 (zero_bytesT w) k
  obtain ⟨v', w', hcl, hv', hk'⟩ := clone_owns (hv.reads) hl
  have hl2 := hlook true
  have HCL := Lib.hid hcl
  have HV := Lib.hid hv'
  have HK := Lib.hid hk'
  clear h hm hl hv hlook hcl hv' hk'
  go_enter Try.func17, Try.ntmps17
  go_wp2_with (first | (go_at_call 53; refine HCL.out.out.mono ?_; rintro e w' ⟨rfl, rfl⟩))
  go_ret2
  exact ⟨_, rfl, HV.out, HK.out⟩
theorem tlen_runs {w : World} {t j b : Nat} {down : Bool} {F : Nat → Prop} {fs : FS} (h : w.heap[t]? = some (tabObj j b down)) (hm : MapFs F w b fs) : Runs 23 #[.pointer (some ⟨t, 0, none⟩)] w (.int .i64 (fs.length : Int)) w := by
  unfold Runs
  have c1 := (tab_cells h).2.1
  have hln := hm.len (P := Try.prog) (T := 95) Try.underlying95 3
  clear h hm
  go_enter Try.func23, Try.ntmps23
  go_wp2_with fail
  go_ret
  exact ⟨rfl, rfl⟩
theorem tsize_runs {w : World} {t j b d s : Nat} {nm : ByteArray} {down : Bool} (h : w.heap[t]? = some (tabObj j b down)) (hj : w.heap[j]? = some (jrnObj d nm s)) : Runs 24 #[.pointer (some ⟨t, 0, none⟩)] w (.int .i64 (s : Int)) w := by
  unfold Runs
  have c0 := (tab_cells h).1
  have hs := jsize_runs hj
  clear h hj
  go_enter Try.func24, Try.ntmps24
  go_wp2_with (first | (go_at_call 44; refine hs.out.mono ?_; rintro e w' ⟨rfl, rfl⟩))
  go_ret
  exact ⟨rfl, rfl⟩

/-! ### Keys -/
theorem gtr_true {a b : ByteArray} (h : blt b a = true) : Op.bytesLess a.toList b.toList = false ∧ (a.toList == b.toList) = false := by
  refine ⟨?_, ?_⟩
  · exact blt_asym h
  · cases h2 : (a.toList == b.toList) with
    | false => rfl
    | true =>
      have : a = b := toList_inj (by simpa using h2)
      rw [this, blt_irrefl] at h
      cases h
theorem gtr_false {a b : ByteArray} (h : blt b a = false) (h2 : Op.bytesLess a.toList b.toList = false) : (a.toList == b.toList) = true := by
  by_cases e : b = a
  · rw [e]; simp
  · have h3 : blt a b = true := blt_total h e
    unfold blt at h3
    rw [h2] at h3
    cases h3
theorem StrsAt.base {base base' : Nat} {w : World} {v : Value} {l : List ByteArray} (h : StrsAt base w v l) (hb : base' ≤ base) : StrsAt base' w v l := row_base1 h hb
theorem mkeys_runs (mb : Option Nat) (W : World) : Runs 51 #[.map mb] W (.func (.func 94) #[] #[.pointer (some ⟨W.heap.size, 0, none⟩)]) (W.alloc (.cells #[.map mb] 95)) := by
  refine (callsIn_wide.1 (kmaps_Keys_M mb W)).mono ?_
  rintro e w' ⟨rfl, rfl⟩
  exact ⟨rfl, rfl⟩
theorem msorted_calls {F : Nat → Prop} {w : World} {b : Nat} {fs : FS} (h : MapFs F w b fs) (hs : FSorted fs) (hn : ∀ p ∈ fs, p.1.size ≤ maxLen) (hl : fs.length ≤ 1099511627776) :
    Calls Try.prog 50 #[.func (.func 94) #[] #[.pointer (some ⟨w.heap.size, 0, none⟩)]] (w.alloc (.cells #[.map (some b)] 95)) (NamesPost w fs) := by
  obtain ⟨D0, h1, h2, h3⟩ := h.owns hn (by unfold maxLen; omega)
  refine (callsIn_wide.1 (kslices_Sorted_keys_M b fs.length D0 anyV w h1 (by rw [h2]; unfold maxLen; omega) (by rw [h2]; omega))).mono ?_
  rintro e w' ⟨v, ss, rfl, hS, hrow, _, hbl⟩
  have hlen : ss.length = fs.length := by have := (hS.trans h3).length_eq; simpa using this
  rw [sorted_names hs (hS.trans h3), hlen] at hrow
  have hb2 : Keeps (fun _ => False) (w.alloc (.cells #[.map (some b)] 95)) w' := ⟨hbl.os, hbl.tape, hbl.output, hbl.size, fun k hk _ => hbl.block k hk⟩
  exact ⟨v, rfl, row_base1 hrow (by simp), ((Keeps.refl _ w).alloc _).trans hb2 (fun _ _ e => e)⟩
/-- The keys that begin so, behind another one, as many as are asked for. -/
def keysFrom (hd af : ByteArray) (n : Int) : FS → List ByteArray → List ByteArray
  | [], out => out
  | p :: fs, out => if n ≤ (out.length : Int) then out else keysFrom hd af n fs (if beginsB p.1 hd = true ∧ blt af p.1 = true then out ++ [p.1] else out)
def keysOf (fs : FS) (hd af : ByteArray) (n : Int) : List ByteArray := keysFrom hd af n fs []
theorem keysFrom_step {hd af : ByteArray} {n : Int} {fs : FS} {k : Nat} {p : ByteArray × List UInt8} (hp : fs[k]? = some p) (out : List ByteArray) : keysFrom hd af n (fs.drop k) out = if n ≤ (out.length : Int) then out else keysFrom hd af n (fs.drop (k + 1)) (if beginsB p.1 hd = true ∧ blt af p.1 = true then out ++ [p.1] else out) := by
  obtain ⟨hk, rfl⟩ := List.getElem?_eq_some_iff.1 hp
  rw [List.drop_eq_getElem_cons hk, keysFrom]
/-- Keys are told, in new memory. -/
def KeysPost (w : World) (l : List ByteArray) (e : Ending) (w' : World) : Prop := ∃ v, e = .returned v ∧ StrsAt w.heap.size w' v l ∧ Keeps (fun _ => False) w w'
set_option maxRecDepth 100000 in
set_option maxHeartbeats 1000000 in
theorem tkeys_calls {w : World} {t j b : Nat} {down : Bool} {F : Nat → Prop} {fs : FS} (h : w.heap[t]? = some (tabObj j b down)) (hm : MapFs F w b fs) (hs : FSorted fs) (hn : ∀ p ∈ fs, p.1.size ≤ maxLen) (hl : fs.length ≤ 1099511627775) (hd af : ByteArray) (n : Int) :
    Calls Try.prog 15 #[.pointer (some ⟨t, 0, none⟩), .string hd, .string af, .int .i64 n] w (KeysPost w (keysOf fs hd af n)) := by
  have c1 := (tab_cells h).2.1
  have hsc := msorted_calls hm hs hn (by omega)
  have HSC := Lib.hid hsc
  clear h hs hsc hm hn
  go_enter Try.func15, Try.ntmps15
  go_wp2_with fail
  refine (mkeys_runs (some b) w).out.mono ?_
  rintro e w' ⟨rfl, rfl⟩
  go_wp2_with fail
  refine HSC.out.mono ?_
  rintro e w1 ⟨v1, rfl, ho1, hk1⟩
  obtain ⟨a1, k1, rfl⟩ := ownsRow_slice ho1
  have i1 : (fs.length : Int) ≤ 1099511627775 := by omega
  have i2 : (0 : Int) ≤ (hd.size : Int) := by omega
  have HO1 := Lib.hid ho1
  have HK1 := Lib.hid hk1
  clear ho1 hk1 HSC c1 hl
  go_wp2_with fail
  go_loopw [9, 21] (fun ov i wx => ∃ (k : Nat) (out : List ByteArray), k ≤ fs.length ∧ i = .int .i64 (k : Int) ∧ out.length ≤ k ∧ keysOf fs hd af n = keysFrom hd af n (fs.drop k) out ∧ StrsAt w1.heap.size wx ov out ∧ Keeps (fun _ => False) w1 wx) (fun _ i _ => fs.length - (intOf i).toNat)
  case atStart => exact ⟨0, [], Nat.zero_le _, rfl, Nat.le_refl _, rfl, StrsAt.nil _ _, Keeps.refl _ _⟩
  case round =>
    obtain ⟨k, out, hk, rfl, hlen, hinv, ho, hq⟩ := hrel
    have j0 : (0 : Int) ≤ k := by omega
    have HKW : Keeps (fun _ => False) w wr := HK1.out.trans hq (fun _ _ e => e)
    obtain ⟨oa, oc, rfl⟩ := ho.form
    by_cases hlt : k < fs.length
    · obtain ⟨f, hf⟩ : ∃ f, fs[k]? = some f := ⟨fs[k], List.getElem?_eq_getElem hlt⟩
      have hst : StrsAt w.heap.size w1 (.slice a1 fs.length k1) (fs.map (·.1)) := by
        have := HO1.out
        unfold StrsAt
        rw [List.map_map, List.length_map]
        exact this
      obtain ⟨g, rfl, hc, hle, _⟩ := (hst.keep hq).cell (i := k) (s := f.1) (by rw [List.getElem?_map, hf]; rfl)
      rw [keysFrom_step hf out] at hinv
      have j1 : (k : Int) < fs.length := by omega
      have hk1 : k + 1 ≤ fs.length := by omega
      clear hst hlt hk
      by_cases hN : n ≤ (out.length : Int)
      · rw [if_pos hN] at hinv
        have hfin : KeysPost w (keysOf fs hd af n) (.returned (.slice oa out.length oc)) wr := ⟨_, rfl, by rw [hinv]; exact ho.base HK1.out.size, HKW⟩
        have HFIN := Lib.hid hfin
        clear hfin hinv ho hq HKW hf hlen
        go_wp2_with fail
        go_ret
        exact HFIN.out
      rw [if_neg hN] at hinv
      have hN2 : (out.length : Int) < n := by omega
      clear hN
      by_cases hbg : beginsB f.1 hd = true ∧ blt af f.1 = true
      · rw [if_pos hbg] at hinv
        obtain ⟨hbg, b3⟩ := hbg
        obtain ⟨b3, b4⟩ := gtr_true b3
        obtain ⟨b1, b2⟩ : decide ((hd.size : Int) ≤ (f.1.size : Int)) = true ∧ ((f.1.extract 0 hd.size).toList == hd.toList) = true := by unfold beginsB at hbg; exact Bool.and_eq_true_iff.1 hbg
        have b1' : (hd.size : Int) ≤ (f.1.size : Int) := of_decide_eq_true b1
        obtain ⟨a2, c2, w2, hrun, ho2, hk2, hbase⟩ := ho.push hq.size f.1 (by omega)
        have hq2 := hq.trans hk2 (fun b hb e => by have := hbase b e; omega)
        have HRUN := Lib.hid hrun
        have HREL := Lib.hid (⟨k + 1, out ++ [f.1], hk1, rfl, by simp; omega, hinv, by rw [show (out ++ [f.1]).length = out.length + 1 by simp]; exact ho2, hq2⟩ : ∃ (k' : Nat) (out' : List ByteArray), k' ≤ fs.length ∧ Value.int .i64 ((k + 1 : Nat) : Int) = .int .i64 (k' : Int) ∧ out'.length ≤ k' ∧ keysOf fs hd af n = keysFrom hd af n (fs.drop k') out' ∧ StrsAt w1.heap.size w2 (.slice a2 ((out ++ [f.1]).length) c2) out' ∧ Keeps (fun _ => False) w1 w2)
        clear hinv ho hq hf hrun ho2 hk2 hq2 hbase hbg HKW hlen
        go_wp2_with (at_builtin; (first | (refine wpList_append_run (w := wr.alloc (.cells #[.string f.1] 9)) rfl _ _ _ _ rfl rfl rfl HRUN.out ?_)))
        go_roundw
        case rel => have h := HREL.out; simp only [List.length_append, List.length_cons, List.length_nil, Nat.zero_add] at h; exact h
        case measure => simp [intOf]; omega
      · rw [if_neg hbg] at hinv
        have HREL := Lib.hid (⟨k + 1, out, hk1, rfl, by omega, hinv, ho, hq⟩ : ∃ (k' : Nat) (out' : List ByteArray), k' ≤ fs.length ∧ Value.int .i64 ((k + 1 : Nat) : Int) = .int .i64 (k' : Int) ∧ out'.length ≤ k' ∧ keysOf fs hd af n = keysFrom hd af n (fs.drop k') out' ∧ StrsAt w1.heap.size wr (.slice oa out.length oc) out' ∧ Keeps (fun _ => False) w1 wr)
        by_cases b1 : (hd.size : Int) ≤ (f.1.size : Int)
        · cases b2 : ((f.1.extract 0 hd.size).toList == hd.toList) with
          | false =>
            clear hinv ho hq hf hbg HKW hlen
            go_wp2_with fail
            go_roundw
            case rel => exact HREL.out
            case measure => simp [intOf]; omega
          | true =>
            have b3 : blt af f.1 = false := by
              cases hb3 : blt af f.1 with
              | false => rfl
              | true => exact absurd ⟨by unfold beginsB; rw [decide_eq_true b1, b2]; rfl, hb3⟩ hbg
            clear hinv ho hq hf hbg HKW hlen
            cases b4 : Op.bytesLess f.1.toList af.toList with
            | true =>
              clear b3
              go_wp2_with fail
              go_roundw
              case rel => exact HREL.out
              case measure => simp [intOf]; omega
            | false =>
              have b5 := gtr_false b3 b4
              clear b3
              go_wp2_with fail
              go_roundw
              case rel => exact HREL.out
              case measure => simp [intOf]; omega
        · have b1' : decide ((hd.size : Int) ≤ (f.1.size : Int)) = false := decide_eq_false b1
          clear hinv ho hq hf hbg HKW hlen
          go_wp2_with fail
          go_roundw
          case rel => exact HREL.out
          case measure => simp [intOf]; omega
    · obtain rfl : k = fs.length := by omega
      rw [List.drop_length] at hinv
      have hfin : KeysPost w (keysOf fs hd af n) (.returned (.slice oa out.length oc)) wr := ⟨_, rfl, by rw [hinv]; exact ho.base HK1.out.size, HKW⟩
      have HFIN := Lib.hid hfin
      clear hfin hinv ho hq HKW hlen hlt hk
      go_wp2_with fail
      go_ret
      exact HFIN.out
end Go.Proofs.Ytaeabdghlkdkjaa
