/- awake of layer 11. -/
import Derived.Test.YtaeabdghlkdkjaaGreatTApp
import Derived.Lib.SlBytesConst
namespace Go.Proofs.YtaeabdghlkdkjaaGreat
set_option linter.unusedVariables false
open Go.RowKit Go.MapKept

def nmT : ByteArray := ⟨#[116]⟩
theorem nmT_name : isName nmT = true ∧ isName (tmpOf nmT) = true := by
  constructor
  · simp [isName, nmT]; rfl
  · have h1 : (tmpOf nmT).toList = [116, 43] := by decide +kernel
    have h2 : (tmpOf nmT).size = 2 := by decide +kernel
    simp [isName, h1, h2]
/-- A disk with one file, without loose changes. -/
def oneT (room : Int) (b : List UInt8) : DM := { newOf room with now := [(nmT, b)], sure := [(nmT, b)], loose := [] }
theorem open_emptyT (room : Int) : openOf (newOf room) nmT = ⟨0, oneT room [], some ([], 0)⟩ := by
  have h1 : createOf (newOf room) nmT = (0, { newOf room with now := [(nmT, [])], loose := [⟨0, nmT, ⟨#[]⟩, []⟩] }) := by
    rw [Calm.create ⟨rfl, rfl⟩ nmT_name.1 rfl (by simp [newOf])]
    rfl
  have h2 : runSteps (createSteps nmT) (newOf room) = (0, oneT room []) := by
    unfold createSteps runSteps
    simp only [h1, if_true]
    unfold runSteps
    have h3 : syncOf { newOf room with now := [(nmT, [])], loose := [⟨0, nmT, ⟨#[]⟩, []⟩] } = (0, oneT room []) := by
      simp [syncOf, newOf, synced, spendOf, oneT, doCh, fput, fdel, fins]
    simp only [h3, if_true]
    rfl
  unfold openOf
  rw [if_pos nmT_name, if_pos (by simp [thereOf, newOf, fget]), h2]
  rfl
theorem topen_empty (room : Int) : tOpenOf (newOf room) nmT = ⟨0, oneT room [], some (0, [])⟩ := by
  unfold tOpenOf
  rw [open_emptyT]
  rfl
/-- A record appended and synced, where there is room. -/
theorem app_oneT {room : Int} {b : List UInt8} {size : Nat} {fs : FS} {l : List TCh} (he : (encOf l).1 = 0) (hr : (b.length : Int) + (8 + (encOf l).2.length) ≤ room) : tAppOf ⟨oneT room b, size, fs, false⟩ nmT l = (0, ⟨oneT room (b ++ frameOf (encOf l).2), size + (8 + (encOf l).2.length), tdos fs l, false⟩) := by
  have hlen := (enc_ok he).2.2.2
  have hroom : ¬ ((oneT room b).room - (used (oneT room b).now : Int) < ((frameOf (encOf l).2).length : Int)) := by
    have h1 : used (oneT room b).now = b.length := by simp [oneT, used]
    have h2 : (oneT room b).room = room := rfl
    rw [frameOf_length, h1, h2]
    omega
  have h1 : jAppendOf (oneT room b) nmT size (encOf l).2 = (0, { newOf room with now := [(nmT, b ++ frameOf (encOf l).2)], sure := [(nmT, b)], loose := [⟨1, nmT, ⟨#[]⟩, frameOf (encOf l).2⟩] }, size + (8 + (encOf l).2.length)) := by
    unfold jAppendOf
    rw [if_neg (by omega), Calm.append ⟨rfl, rfl⟩ (by simp [oneT, fget]) _ (by rw [frameOf_length]; omega), if_neg hroom]
    simp [oneT, newOf, fput, fdel, fins, fget]
  have h2 : syncOf { newOf room with now := [(nmT, b ++ frameOf (encOf l).2)], sure := [(nmT, b)], loose := [⟨1, nmT, ⟨#[]⟩, frameOf (encOf l).2⟩] } = (0, oneT room (b ++ frameOf (encOf l).2)) := by
    simp [syncOf, newOf, synced, spendOf, oneT, doCh, fput, fdel, fins, fget]
  unfold tAppOf
  rw [if_neg (by simp), if_pos he, h1, if_pos rfl, h2, if_pos rfl]
theorem encFrom_fits : ∀ (l : List TCh) (out : List UInt8), (∀ c ∈ l, badCh c = false) → out.length + (l.map encCh).flatten.length ≤ 1048568 → (encFrom l out).1 = 0
  | [], out, _, _ => rfl
  | c :: l, out, h, hl => by
    rw [List.map_cons, List.flatten_cons, List.length_append] at hl
    rw [encFrom, if_neg (by rw [h c (List.mem_cons_self ..)]; simp), if_neg (by rw [List.length_append]; omega)]
    exact encFrom_fits l _ (fun x hx => h x (List.mem_cons_of_mem _ hx)) (by rw [List.length_append]; omega)
theorem enc_fits {l : List TCh} (hl : l.length ≤ 256) (h : ∀ c ∈ l, badCh c = false) (hs : 10 + (l.map encCh).flatten.length ≤ 1048568) : (encOf l).1 = 0 := by
  unfold encOf
  rw [if_neg (by omega)]
  exact encFrom_fits l _ h (by have := countOf_len10 (n := l.length) (by omega); omega)

def keyA : ByteArray := ⟨#[97]⟩
def keyB : ByteArray := ⟨#[98]⟩
def awL : List TCh := [⟨keyA, false, [49]⟩, ⟨keyB, false, []⟩]
def awFs : FS := [(keyA, [49]), (keyB, [])]
theorem aw_do : tdos [] awL = awFs := by kernel_rfl
theorem text_len (p : List UInt8) (h : p.length < 128) : (textOf p).length = p.length + 1 := by
  unfold textOf; rw [countOf_small h]; simp
theorem aw_small : ((awL.map encCh).flatten).length = 9 := by
  have ha : keyA.toList.length = 1 := by decide +kernel
  have hb : keyB.toList.length = 1 := by decide +kernel
  simp only [awL, List.map_cons, List.map_nil, List.flatten_cons, List.flatten_nil, encCh, List.length_append, Bool.false_eq_true, if_false, List.length_cons, List.length_nil]
  have e1 := text_len keyA.toList (by omega)
  have e2 := text_len keyB.toList (by omega)
  have e3 := text_len [49] (by simp)
  have e4 := text_len [] (by simp)
  rw [e1, e2, e3, e4, ha, hb]
  rfl
theorem aw_enc : (encOf awL).1 = 0 := enc_fits (by decide) (by decide +kernel) (by rw [aw_small]; omega)
theorem aw_keys : keysOf awFs ⟨#[]⟩ keyA 9 = [keyB] := by decide +kernel
theorem aw_get : fget awFs keyA = some [49] := by decide +kernel

theorem ReadsF.of_reads {B : Nat} {F : Nat → Prop} {w : World} {x : Addr} {n c : Nat} {l : List UInt8} (h : Reads w (.slice (some x) n c) l) (hF : F x.block) : ReadsF B F w (.slice (some x) n c) l := by
  rcases h with ⟨e, _⟩ | ⟨y, c', e, h1, h2, h3⟩
  · cases e
  · cases e
    exact ⟨_, _, rfl, h1, h2, (fun e => by cases e), fun y hy => by cases hy; exact ⟨fun _ => .inl hF, h3⟩⟩
theorem ReadsF.none {B : Nat} {F : Nat → Prop} {w : World} : ReadsF B F w (.slice none 0 0) [] := ⟨Option.none, 0, rfl, Nat.le_refl _, Nat.zero_le _, fun _ => rfl, fun x hx => by cases hx⟩
theorem Own.litTChs {w wr w' : World} {rs : List (Res w.heap.size)} (h : Own w wr rs) {a : Option Addr} {cs : List TCh} (hk : Keeps (fun _ => False) wr w') (hi : TChsF w.heap.size (fun b => wr.heap.size ≤ b ∧ b < w'.heap.size) w' a cs) : Own w w' (rTChs w.heap.size a cs :: rs) :=
  h.add hk (r := rTChs w.heap.size a cs) (G := fun b => wr.heap.size ≤ b ∧ b < w'.heap.size) hi (fun b hb => hb)

set_option maxRecDepth 100000 in
set_option maxHeartbeats 1000000 in
theorem awake11_calls (w0 : World) : Calls Tryz.prog 14 #[] w0 (QuietP w0 (.bool true)) := by
  obtain ⟨d, w1, hnew, h1⟩ := (Own.start w0).new 1000 (by omega) (by omega)
  have g1 := Good.new (room := 1000) (by omega) (by omega)
  have hop := topen_calls h1 g1 (by omega) nmT
  have g2 := open_good g1 nmT
  rw [open_emptyT] at g2
  rw [topen_empty] at hop
  unfold nmT at hop
  have HOP := Lib.hid hop
  have HNEW := Lib.hid hnew
  have G2 := Lib.hid g2
  clear hop hnew h1 g1 g2
  go_enter Tryz.func14, Tryz.ntmps14
  go_wp2_with fail
  refine HNEW.out.out.mono ?_; rintro e w' ⟨rfl, rfl⟩
  go_wp2_with fail
  refine HOP.out.mono ?_
  rintro e w2 (⟨hn, _⟩ | ⟨size, fs, j, t, b, hres, rfl, h2⟩)
  · cases hn
  simp only [Option.some.injEq, Prod.mk.injEq] at hres
  obtain ⟨rfl, rfl⟩ := hres
  dsimp only at h2
  have hconv := Lib.run_convert_bytes_const (P := Tryz.prog) w2 36 5 #[.int .u8 49] 1 1 Tryz.underlying36 Tryz.underlying5
  have hk3 : Keeps (fun _ => False) w2 ((w2.alloc (.cells #[.int .u8 49] 5 (1, 2))).alloc (.cells #[.string ⟨#[97]⟩, .bool false, .slice (some ⟨w2.heap.size, 0, none⟩) 1 1, .string ⟨#[98]⟩, .bool false, .slice none 0 0] 60)) := ((Keeps.refl _ _).alloc _).alloc _
  have hb : Reads ((w2.alloc (.cells #[.int .u8 49] 5 (1, 2))).alloc (.cells #[.string ⟨#[97]⟩, .bool false, .slice (some ⟨w2.heap.size, 0, none⟩) 1 1, .string ⟨#[98]⟩, .bool false, .slice none 0 0] 60)) (.slice (some ⟨w2.heap.size, 0, none⟩) 1 1) [49] := by
    refine Reads.keep (w := w2.alloc (.cells #[.int .u8 49] 5 (1, 2))) (l := [49]) (.inr ⟨_, 1, rfl, by simp, by simp [maxLen], fun j u hu => ?_⟩) ((Keeps.refl _ _).alloc _)
    match j, hu with
    | 0, hu =>
      simp only [List.map_cons, List.map_nil, List.getElem?_cons_zero, Option.some.injEq] at hu
      rw [← hu, Addr.add_lit]
      exact cell_at (heap_alloc_new w2 _) rfl
    | j + 1, hu => simp at hu
  have hB := heap_alloc_new (w2.alloc (.cells #[.int .u8 49] 5 (1, 2))) (.cells #[.string ⟨#[97]⟩, .bool false, .slice (some ⟨w2.heap.size, 0, none⟩) 1 1, .string ⟨#[98]⟩, .bool false, .slice none 0 0] 60)
  rw [World.size_alloc] at hB
  have hins : TChsF w0.heap.size (fun b => w2.heap.size ≤ b ∧ b < ((w2.alloc (.cells #[.int .u8 49] 5 (1, 2))).alloc (.cells #[.string ⟨#[97]⟩, .bool false, .slice (some ⟨w2.heap.size, 0, none⟩) 1 1, .string ⟨#[98]⟩, .bool false, .slice none 0 0] 60)).heap.size) ((w2.alloc (.cells #[.int .u8 49] 5 (1, 2))).alloc (.cells #[.string ⟨#[97]⟩, .bool false, .slice (some ⟨w2.heap.size, 0, none⟩) 1 1, .string ⟨#[98]⟩, .bool false, .slice none 0 0] 60)) (some ⟨w2.heap.size + 1, 0, none⟩) awL := fun i c hc => by
    match i, hc with
    | 0, hc =>
      simp only [awL, List.getElem?_cons_zero, Option.some.injEq] at hc
      subst hc
      exact ⟨_, _, rfl, .inl (by simp only [World.size_alloc]; omega), cell_at hB rfl, cell_at hB rfl, cell_at hB rfl, ReadsF.of_reads hb (by simp only [World.size_alloc]; omega)⟩
    | 1, hc =>
      simp only [awL, List.getElem?_cons_succ, List.getElem?_cons_zero, Option.some.injEq] at hc
      subst hc
      exact ⟨_, _, rfl, .inl (by simp only [World.size_alloc]; omega), cell_at hB rfl, cell_at hB rfl, cell_at hB rfl, ReadsF.none⟩
    | i + 2, hc => simp [awL] at hc
  have h3 := (h2.litTChs hk3 hins).perm (List.perm_append_singleton _ _).symm
  have hap := tapply_calls (T := ⟨oneT 1000 [], 0, [], false⟩) (nm := nmT) h3 G2.out (by omega) (by dsimp only; omega) (a := some ⟨w2.heap.size + 1, 0, none⟩) (c := 2) (l := awL) (by simp) (by decide) (by unfold maxLen; omega)
  rw [app_oneT aw_enc (by
    have h1 := (enc_ok aw_enc).2.1
    have h2 := countOf_len10 (n := awL.length) (by decide)
    rw [h1, List.length_append, aw_small]
    simp; omega), aw_do] at hap
  have HAP := Lib.hid hap
  clear hk3 hb hB hins h3 hap h2 HNEW HOP
  go_wp2_with fail
  refine HAP.out.mono ?_
  rintro e w3 ⟨rfl, h4⟩
  dsimp only at h4
  obtain ⟨F, ⟨_, hmap⟩, _⟩ := h4.mem (r := rMap w0.heap.size b awFs) (by simp [tRes])
  have htab := (h4.at (b := t) (o := tabObj j b false) (by simp [tRes])).1
  have hget := tget_calls htab hmap keyA (by rw [aw_get]; simp)
  unfold keyA at hget
  have HGET := Lib.hid hget
  have H4 := Lib.hid h4.keeps
  have HT := Lib.hid htab
  have HM := Lib.hid hmap
  clear hget h4 htab hmap HAP G2
  dsimp only
  go_wp2_with fail
  refine HGET.out.mono ?_
  rintro e w4 ⟨v, rfl, hv, hk⟩
  have hg2 : fget awFs ⟨#[97]⟩ = some [49] := aw_get
  rw [hg2] at hv ⊢
  simp only [Option.getD_some, Option.isSome_some] at hv ⊢
  obtain ⟨va, vc, rfl, _, _⟩ := hv.bytes.form
  have hstr : (convert 36 9 (.slice va 1 vc)).run Tryz.prog w4 = .ok (.string ⟨#[49]⟩) w4 := hv.bytes.reads.str
  have hsort : FSorted awFs := aw_do ▸ FSorted.tdos awL FSorted.nil
  have htab4 := hk.at HT.out (fun e => e)
  have hmap4 : MapFs F w4 b awFs := HM.out.keep (hk.block b HM.out.lt (fun e => e)) (KeepU8.of_none hk) (fun _ h _ => h)
  have hkeys := tkeys_calls htab4 hmap4 hsort (fun p hp => by
    simp only [awFs, List.mem_cons, List.not_mem_nil, or_false] at hp
    rcases hp with rfl | rfl <;> decide) (by decide) ⟨#[]⟩ keyA 9
  rw [aw_keys] at hkeys
  unfold keyA at hkeys
  have HK := Lib.hid hkeys
  have H5 := Lib.hid (H4.out.trans hk (fun _ _ e => e))
  have HT4 := Lib.hid htab4
  have HM4 := Lib.hid hmap4
  clear hkeys htab4 hmap4 hsort hv hk HGET hg2 H4 HT HM
  go_wp2_with fail
  refine HK.out.mono ?_
  rintro e w5 ⟨kv, rfl, hkv, hk5⟩
  obtain ⟨ka, kc, rfl⟩ := hkv.form
  have hlen := tlen_runs (hk5.at HT4.out (fun e => e)) (HM4.out.keep (hk5.block b HM4.out.lt (fun e => e)) (KeepU8.of_none hk5) (fun _ h _ => h) : MapFs F w5 b awFs)
  have HLEN := Lib.hid hlen
  have HF := Lib.hid (H5.out.trans hk5 (fun _ _ e => e))
  clear hlen hkv hk5 HK H5 HT4 HM4 hstr
  go_wp2_with fail
  refine HLEN.out.out.mono ?_; rintro e w' ⟨rfl, rfl⟩
  go_wp2_with fail
  go_ret
  exact ⟨rfl, HF.out⟩
end Go.Proofs.YtaeabdghlkdkjaaGreat
