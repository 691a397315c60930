/- Law 11: Pairs and Is. -/
import Derived.Test.YtaeabdghlkdkjaaTSame
import Derived.Test.YtaeabdghlkdkjaaTRDo
namespace Go.Proofs.Ytaeabdghlkdkjaa
set_option linter.unusedVariables false
open Go.RowKit Go.MapKept

/-- What holds of a table's pairs. -/
structure TabOk (fs : FS) : Prop where
  sorted : FSorted fs
  each : ∀ p ∈ fs, 0 < p.1.size ∧ p.1.size ≤ 320 ∧ p.2.length ≤ 262144
theorem TabOk.nil : TabOk [] := ⟨FSorted.nil, fun p hp => by simp at hp⟩
theorem TabOk.tdo {fs : FS} (h : TabOk fs) {c : TCh} (hc : badCh c = false) : TabOk (tdo fs c) := by
  refine ⟨FSorted.tdo h.sorted c, fun p hp => ?_⟩
  obtain ⟨g0, g1, g2⟩ := badCh_false hc
  unfold Go.Proofs.Ytaeabdghlkdkjaa.tdo at hp
  split at hp
  · exact h.each p (List.mem_filter.1 hp).1
  · unfold fput at hp
    rcases List.mem_cons.1 ((fins_perm _ _).mem_iff.1 hp) with rfl | hp
    · exact ⟨g0, g1, g2⟩
    · exact h.each p (List.mem_filter.1 hp).1
theorem TabOk.tdos : ∀ (l : List TCh) {fs : FS}, TabOk fs → (∀ c ∈ l, badCh c = false) → TabOk (tdos fs l)
  | [], fs, h, _ => h
  | c :: l, fs, h, hc => TabOk.tdos l (h.tdo (hc c (List.mem_cons_self ..))) (fun x hx => hc x (List.mem_cons_of_mem _ hx))
theorem TabOk.names {fs : FS} (h : TabOk fs) : ∀ p ∈ fs, p.1.size ≤ maxLen := fun p hp => by have := (h.each p hp).2.1; unfold maxLen; omega
theorem blt_empty {s : ByteArray} (h : 0 < s.size) : blt ⟨#[]⟩ s = true := by
  unfold blt
  have hl := key_len s
  have he : (⟨#[]⟩ : ByteArray).toList = [] := by decide +kernel
  rw [he]
  cases hs : s.toList with
  | nil => rw [hs] at hl; simp at hl; omega
  | cons x l => rfl
theorem keysFrom_all : ∀ (fs : FS) (n : Int) (out : List ByteArray), (∀ p ∈ fs, 0 < p.1.size) → (out.length : Int) + fs.length ≤ n → keysFrom ⟨#[]⟩ ⟨#[]⟩ n fs out = out ++ fs.map (·.1)
  | [], n, out, _, _ => by rw [keysFrom]; simp
  | p :: fs, n, out, h, hn => by
    rw [List.length_cons] at hn
    rw [keysFrom, if_neg (by omega), if_pos ⟨begins_empty _, blt_empty (h p (List.mem_cons_self ..))⟩, keysFrom_all fs n _ (fun x hx => h x (List.mem_cons_of_mem _ hx)) (by rw [List.length_append, List.length_singleton]; omega)]
    simp
theorem keys_all {fs : FS} (h : TabOk fs) : keysOf fs ⟨#[]⟩ ⟨#[]⟩ (fs.length : Int) = fs.map (·.1) := by
  unfold keysOf
  rw [keysFrom_all fs _ [] (fun p hp => (h.each p hp).1) (by simp)]
  rfl
/-- A table's pairs are told, in new memory. -/
def PairsPost (w : World) (fs : FS) (e : Ending) (w' : World) : Prop := ∃ v, e = .returned (.tuple #[v, .bool true]) ∧ PairsAt (fun b => w.heap.size ≤ b) w' v fs ∧ Keeps (fun _ => False) w w'
theorem MapFs.later {F : Nat → Prop} {w w' : World} {b : Nat} {fs : FS} (h : MapFs F w b fs) (hk : Keeps (fun _ => False) w w') : MapFs F w' b fs := h.keep (hk.block b h.lt (fun e => e)) (KeepU8.of_none hk) (fun _ h _ => h)

set_option maxRecDepth 100000 in
set_option maxHeartbeats 1000000 in
theorem pairs11_calls {w : World} {t j b : Nat} {down : Bool} {F : Nat → Prop} {fs : FS} (h : w.heap[t]? = some (tabObj j b down)) (hm : MapFs F w b fs) (hok : TabOk fs) (hl : fs.length ≤ 1099511627774) :
    Calls Try.prog 28 #[.pointer (some ⟨t, 0, none⟩)] w (PairsPost w fs) := by
  have hlen := fun W (hk : Keeps (fun _ => False) w W) => tlen_runs (hk.at h (fun e => e)) (hm.later hk)
  have hkeys := tkeys_calls h hm hok.sorted hok.names (by omega) ⟨#[]⟩ ⟨#[]⟩ (fs.length : Int)
  rw [keys_all hok] at hkeys
  have hnd := hok.sorted.nodup
  have hget := fun W (hk : Keeps (fun _ => False) w W) (p : ByteArray × List UInt8) (hp : p ∈ fs) => tget_calls (hk.at h (fun e => e)) (hm.later hk) p.1 (by rw [fget_mem hnd (show (p.1, p.2) ∈ fs from hp)]; have := (hok.each p hp).2.2; simp only [Option.getD_some]; omega)
  have HLEN := Lib.hid hlen
  have HK := Lib.hid hkeys
  have HG := Lib.hid hget
  have HND := Lib.hid hnd
  have HLL := Lib.hid hl
  have i1 : (fs.length : Int) ≤ 1099511627774 := by omega
  clear h hm hok hl hlen hkeys hget hnd
  go_enter Try.func28, Try.ntmps28
  go_wp2_with fail
  refine (HLEN.out w (Keeps.refl _ _)).out.mono ?_; rintro e w' ⟨rfl, rfl⟩
  go_wp2_with fail
  refine HK.out.mono ?_
  rintro e w1 ⟨kv, rfl, hkv, hk1⟩
  obtain ⟨ka, kc, e⟩ := hkv.form
  rw [List.length_map] at e
  subst e
  have HKV := Lib.hid hkv
  have HK1 := Lib.hid hk1
  clear hkv hk1 HK
  go_wp2_with fail
  go_loopw [4, 16] (fun ov iv wx => ∃ k : Nat, k ≤ fs.length ∧ iv = .int .i64 (k : Int) ∧ POutAt w1.heap.size (fun b => w.heap.size ≤ b) wx ov (fs.take k) ∧ Keeps (fun _ => False) w1 wx) (fun _ iv _ => fs.length - (intOf iv).toNat)
  case atStart => exact ⟨0, Nat.zero_le _, rfl, by rw [List.take_zero]; exact POutAt.nil _ _ _, Keeps.refl _ _⟩
  case round =>
    obtain ⟨k, hk, rfl, ho, hq⟩ := hrel
    have k0 : (0 : Int) ≤ k := by omega
    obtain ⟨w2, hw2⟩ : ∃ w2, w2 = wr := ⟨_, rfl⟩
    subst hw2
    by_cases hlt : k < fs.length
    · obtain ⟨oa, on, oc, rfl⟩ := ho.form3
      obtain ⟨f, hf⟩ : ∃ f, fs[k]? = some f := ⟨fs[k], List.getElem?_eq_getElem hlt⟩
      obtain ⟨g, rfl, hc, hle, _⟩ := (HKV.out.keep hq).cell (i := k) (s := f.1) (by rw [List.getElem?_map, hf]; rfl)
      have k1 : (k : Int) < fs.length := by omega
      have hk1' : k + 1 ≤ fs.length := by omega
      have hmem := List.mem_of_getElem? hf
      have hfg := fget_mem HND.out (show (f.1, f.2) ∈ fs from hmem)
      have hgt := HG.out w2 (HK1.out.trans hq (fun _ _ e => e)) f hmem
      unfold GetPost at hgt
      rw [hfg] at hgt
      have HGT := Lib.hid hgt
      have HO := Lib.hid ho
      have HQ := Lib.hid hq
      have HF := Lib.hid hf
      clear hgt hfg hmem ho hq hf hlt hk hle
      go_wp2_with fail
      refine HGT.out.mono ?_
      rintro e w3 ⟨v, rfl, hv, hk3⟩
      simp only [Option.getD_some, Option.isSome_some] at hv ⊢
      obtain ⟨va, vn, vc, rfl⟩ := slice_form2 hv
      have hz := HK1.out.size
      have hz2 := HQ.out.size
      obtain ⟨a4, n4, c4, w4, hrun, ho4, hk4, hbase⟩ := (HO.out.keep hk3).push2 (n := f.1) (l := f.2) (by have := hk3.size; omega) (hv.bytes.keep (KeepU8.refl _ _) (fun b hb _ => by omega)) (by rw [List.length_take]; have := HLL.out; omega)
      rw [show (f.1, f.2) = f from rfl, ← take_snoc HF.out] at ho4
      have HREL := Lib.hid (⟨k + 1, hk1', rfl, ho4, (HQ.out.trans hk3 (fun _ _ e => e)).trans hk4 (fun b hb e => by have := hbase b e; omega)⟩ : ∃ k' : Nat, k' ≤ fs.length ∧ Value.int .i64 ((k + 1 : Nat) : Int) = .int .i64 (k' : Int) ∧ POutAt w1.heap.size (fun b => w.heap.size ≤ b) w4 (.slice a4 n4 c4) (fs.take k') ∧ Keeps (fun _ => False) w1 w4)
      have HRUN := Lib.hid hrun
      clear hrun ho4 hk4 hbase hv hk3 HGT HO HQ HF hz hz2
      go_wp2_with (at_builtin; (first | (refine wpList_append_run (w := w3.alloc (.cells #[.string f.1, .slice va vn vc] 46)) rfl _ _ _ _ rfl rfl rfl HRUN.out ?_)))
      go_roundw
      case rel => exact HREL.out
      case measure => simp [intOf]; omega
    · obtain rfl : k = fs.length := by omega
      rw [List.take_length] at ho
      have hfl : PairsAt (fun b => w.heap.size ≤ b) w2 u4 fs := ho.files (fun b hb _ => hb) (fun b h1 _ => by have := HK1.out.size; omega)
      obtain ⟨pa, pc, rfl, -, -⟩ := hfl.form
      have hln := HLEN.out w2 (HK1.out.trans hq (fun _ _ e => e))
      have HLN := Lib.hid hln
      have HF := Lib.hid (⟨_, rfl, hfl, HK1.out.trans hq (fun _ _ e => e)⟩ : PairsPost w fs (.returned (.tuple #[.slice pa fs.length pc, .bool true])) w2)
      clear hfl ho hq hlt hk hln
      go_wp2_with fail
      refine HLN.out.out.mono ?_; rintro e w' ⟨rfl, rfl⟩
      go_wp2_with fail
      go_ret2
      exact HF.out
set_option maxRecDepth 100000 in
set_option maxHeartbeats 1000000 in
theorem is11_calls {w : World} {t j b : Nat} {down : Bool} {F G : Nat → Prop} {fs fs2 : FS} {v : Value} (h : w.heap[t]? = some (tabObj j b down)) (hm : MapFs F w b fs) (hok : TabOk fs) (hl : fs.length ≤ 1099511627774) (h2 : PairsAt G w v fs2) :
    Calls Try.prog 20 #[.pointer (some ⟨t, 0, none⟩), v] w (QuietP w (.bool (decide (fs = fs2)))) := by
  have hp := pairs11_calls h hm hok hl
  obtain ⟨va, vc, rfl, -, -⟩ := h2.form
  have HP := Lib.hid hp
  have H2 := Lib.hid h2
  have HL := Lib.hid hl
  clear hp h hm hok hl h2
  obtain ⟨bv, hbv⟩ : ∃ bv, decide (fs = fs2) = bv := ⟨_, rfl⟩
  rw [hbv]
  have HBV := Lib.hid hbv
  clear hbv
  go_enter Try.func20, Try.ntmps20
  go_wp2_with fail
  refine HP.out.mono ?_
  rintro e w1 ⟨pv, rfl, hpv, hk1⟩
  have hs := rsame11_calls hpv (H2.out.quiet (G := G) hk1 (fun b hb _ => hb)) (by have := HL.out; omega)
  obtain ⟨pa, pc, rfl, -, -⟩ := hpv.form
  have HS := Lib.hid hs
  have HK := Lib.hid hk1
  clear hs hpv hk1 HP H2
  rw [HBV.out] at HS
  go_wp2_with fail
  refine HS.out.mono ?_
  rintro e w2 ⟨rfl, hk2⟩
  have HF := Lib.hid (HK.out.trans hk2 (fun _ _ e => e))
  clear hk2 HS HK
  cases bv
  all_goals go_wp2_with fail
  all_goals go_ret
  all_goals exact ⟨rfl, HF.out⟩
end Go.Proofs.Ytaeabdghlkdkjaa
