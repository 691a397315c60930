/- A part of the proof. -/
import Derived.Test.YtlcnhpjggjgnpaaGreatDoorUlad5
import Derived.Test.YtlcnhpjggjgnpaaGreatDoorUlad6
namespace Go.Proofs.YtlcnhpjggjgnpaaGreatDoor
set_option linter.unusedVariables false
open Go.RowKit Go.MapKept
theorem Holds.append {g : Fn} {U N : Nat} (h : Holds g U N) {f : ByteArray} {b : List UInt8} (hf : g f = some b) (p : List UInt8) : Holds (fset g f (b ++ p)) (U + p.length) N := fun fs h1 h2 => by
 have e : fget (fput fs f b) = g := by
  rw [fget_fputF h1, h2, fset_fset]
  funext x; simp only [fset]; split
  ·rename_i e; rw [e, hf]
  ·rfl
 obtain ⟨a, c⟩ := h (fput fs f b) (h1.fput f b) e
 have u := used_fput h1 f b
 rw [h2, fset_same, Option.getD_some, List.length_append] at u
 have l1 := length_fput (fs := fs) f b
 have l2 := length_fdel_le h1 f
 exact ⟨by omega, by omega⟩
theorem Holds.move {g : Fn} {U N : Nat} (h : Holds g U N) {k f : ByteArray} {c : List UInt8} (hk : g k = some c) (hf : g f = none) : Holds (fclr (fset g f c) k) U N := fun fs h1 h2 => by
 have hne : k ≠ f := fun e => by rw [e, hf] at hk; cases hk
 have hd := h1.fdel f
 have e : fget (fput (fdel fs f) k c) = g := by
  rw [fget_fputF hd, fget_fdelF, h2]
  funext x; simp only [fset, fclr]
  by_cases e1 : x = k
  ·rw [if_pos e1, e1, hk]
  ·rw [if_neg e1]
   by_cases e2 : x = f
   ·rw [if_pos e2, e2, hf]
   ·rw [if_neg e2, if_neg e1, if_neg e2]
 obtain ⟨a, b⟩ := h _ (hd.fput k c) e
 have u1 := used_fdel h1 f
 rw [h2, fclr_other _ (Ne.symm hne), fset_same, Option.getD_some] at u1
 have hg : fget (fdel fs f) k = none := by rw [fget_fdelF, fclr_other _ hne, h2, fclr_same]
 have u2 := used_fput hd k c
 rw [hg] at u2
 simp only [Option.getD_none, List.length_nil] at u2
 have l1 := length_fput (fs := fdel fs f) k c
 rw [fdel_absent (fget_none_mem hg)] at l1
 have l2 := length_fdel_le h1 f
 exact ⟨by omega, by omega⟩
abbrev tmpT : ByteArray := tmpOf nmT
structure JB (g : Fn) (fs : FS) (rs : List (List UInt8)) (U N B : Nat) : Prop where
 file : ∃ b, g nmT = some b ∧ scanOf b = (rs, (framesOf rs).length) ∧ b.length ≤ B
 tab : tabOf rs [] = some fs
 small : ∀ p ∈ rs, p.length ≤ 1048568
 tmp : ((g tmpT).getD []).length ≤ B
 holds : Holds (fclr (fclr g tmpT) nmT) U N
 sum : U + (framesOf rs).length + 60 * fs.length ≤ B
theorem JB.mono {g : Fn} {fs : FS} {rs : List (List UInt8)} {U N B B' N' : Nat} (h : JB g fs rs U N B) (hB : B ≤ B') (hN : N ≤ N') : JB g fs rs U N' B' := by
 obtain ⟨b, h1, h2, h3⟩ := h.file
 exact ⟨⟨b, h1, h2, by omega⟩, h.tab, h.small, by have := h.tmp; omega, h.holds.mono (Nat.le_refl _) hN, by have := h.sum; omega⟩
theorem JB.whole {g : Fn} {fs : FS} {rs : List (List UInt8)} {U N B : Nat} (h : JB g fs rs U N B) : scanOf (framesOf rs) = (rs, (framesOf rs).length) := scan_whole (fun p hp => by have := h.small p hp; omega)
theorem JB.all {g : Fn} {fs : FS} {rs : List (List UInt8)} {U N B : Nat} (h : JB g fs rs U N B) : Holds (fclr g tmpT) (U + B) (N + 1) ∧ Holds g (U + B + B) (N + 2) := by
 obtain ⟨b, h1, h2, h3⟩ := h.file
 have ne : nmT ≠ tmpT := Ne.symm tmpT_ne
 have a1 : Holds (fclr g tmpT) (U + B) (N + 1) := Holds.of_clr h.holds (by rw [fclr_other _ ne, h1]; exact h3)
 exact ⟨a1, Holds.of_clr a1 h.tmp⟩
theorem JB.other {g g' : Fn} {fs : FS} {rs : List (List UInt8)} {U N B U' N' B' : Nat} (h : JB g fs rs U N B) (h1 : g' nmT = g nmT) (h2 : g' tmpT = g tmpT) (hh : Holds (fclr (fclr g' tmpT) nmT) U' N') (hB : B ≤ B') (hs : U' + (framesOf rs).length + 60 * fs.length ≤ B') : JB g' fs rs U' N' B' := by
 obtain ⟨b, h3, h4, h5⟩ := h.file
 exact ⟨⟨b, h1.trans h3, h4, by omega⟩, h.tab, h.small, by rw [h2]; have := h.tmp; omega, hh, hs⟩
theorem JB.lay {g x : Fn} {fs : FS} {rs : List (List UInt8)} {U N B : Nat} (h : JB g fs rs U N B) (hx : LayIm g nmT (framesOf rs) x) : JB x fs rs U N B ∧ ∀ n, n ≠ nmT → n ≠ tmpT → x n = g n := by
 obtain ⟨b, h1, h2, h3⟩ := h.file
 have ne : nmT ≠ tmpT := Ne.symm tmpT_ne
 have hl : (framesOf rs).length ≤ B := by have := h.sum; omega
 have key : ∀ x : Fn, (∀ n, n ≠ nmT → n ≠ tmpT → x n = g n) → fclr (fclr x tmpT) nmT = fclr (fclr g tmpT) nmT := fun x hx => by
  funext n; simp only [fclr]
  split
  ·rfl
  ·split
   ·rfl
   ·rename_i e1 e2; exact hx n e1 e2
 have go : ∀ x : Fn, (∀ n, n ≠ nmT → n ≠ tmpT → x n = g n) → (∃ b, x nmT = some b ∧ scanOf b = (rs, (framesOf rs).length) ∧ b.length ≤ B) → ((x tmpT).getD []).length ≤ B → JB x fs rs U N B ∧ ∀ n, n ≠ nmT → n ≠ tmpT → x n = g n := fun x k1 k2 k3 =>
  ⟨⟨k2, h.tab, h.small, k3, by rw [key x k1]; exact h.holds, h.sum⟩, k1⟩
 rcases hx with rfl | ⟨k, rfl⟩ | rfl
 ·exact go _ (fun n _ e => fclr_other _ e) ⟨b, by rw [fclr_other _ ne]; exact h1, h2, h3⟩ (by rw [show tmpOf nmT = tmpT from rfl, fclr_same]; simp)
 ·exact go _ (fun n _ e => fset_other _ _ e) ⟨b, by rw [fset_other _ _ ne]; exact h1, h2, h3⟩ (by rw [show tmpOf nmT = tmpT from rfl, fset_same, Option.getD_some]; exact Nat.le_trans (List.length_take_le' _ _) hl)
 ·refine go _ (fun n e1 e2 => ?_) ⟨framesOf rs, by rw [fclr_other _ ne, fset_same], h.whole, hl⟩ (by rw [show tmpOf nmT = tmpT from rfl, fclr_same]; simp)
  rw [fclr_other _ e2, fset_other _ _ e1]
theorem JB.push {g : Fn} {fs : FS} {rs : List (List UInt8)} {U N B B' : Nat} (h : JB g fs rs U N B) (hg : g nmT = some (framesOf rs)) {l : List TCh} (he : (encOf l).1 = 0) (hB : B ≤ B') (h1 : (framesOf rs).length + (frameOf (encOf l).2).length ≤ B')
  (h2 : U + ((framesOf rs).length + (frameOf (encOf l).2).length) + 60 * (tdos fs l).length ≤ B') :
  JB (fset g nmT (framesOf (rs ++ [(encOf l).2]))) (tdos fs l) (rs ++ [(encOf l).2]) U N B' ∧
  ∀ i, JB (fset g nmT (framesOf rs ++ (frameOf (encOf l).2).take i)) fs rs U N B' ∨ JB (fset g nmT (framesOf rs ++ (frameOf (encOf l).2).take i)) (tdos fs l) (rs ++ [(encOf l).2]) U N B' := by
 have ne : nmT ≠ tmpT := Ne.symm tmpT_ne
 have hlen := (enc_ok he).2.2.2
 have hfl := frameOf_length (encOf l).2
 have hcl : ∀ b, fclr (fclr (fset g nmT b) tmpT) nmT = fclr (fclr g tmpT) nmT := fun b => by
  funext n; simp only [fclr, fset]
  split
  ·rfl
  ·split <;> rfl
 have htab : tabOf (rs ++ [(encOf l).2]) [] = some (tdos fs l) := by
  rw [tabOf_append, h.tab]
  show tabOf [(encOf l).2] fs = _
  simp only [tabOf, dec_enc he, tdos_norm]
 have hsm : ∀ p ∈ rs ++ [(encOf l).2], p.length ≤ 1048568 := fun p hp => by
  rcases List.mem_append.1 hp with hp | hp
  ·exact h.small p hp
  ·rw [List.mem_singleton] at hp; rw [hp]; exact hlen
 have htmp : ∀ b, (((fset g nmT b) tmpT).getD []).length ≤ B' := fun b => by rw [fset_other _ _ tmpT_ne]; exact Nat.le_trans h.tmp hB
 have hfr : (framesOf (rs ++ [(encOf l).2])).length = (framesOf rs).length + (frameOf (encOf l).2).length := by rw [frames_snoc, List.length_append]
 have hw : JB (fset g nmT (framesOf (rs ++ [(encOf l).2]))) (tdos fs l) (rs ++ [(encOf l).2]) U N B' :=
  ⟨⟨_, fset_same _ _ _, scan_whole (fun p hp => by have := hsm p hp; omega), by omega⟩, htab, hsm, htmp _, by rw [hcl]; exact h.holds, by omega⟩
 refine ⟨hw, fun i => ?_⟩
 by_cases hi : i < (frameOf (encOf l).2).length
 ·refine .inl ⟨⟨_, fset_same _ _ _, torn_scan (fun q hq => by have := h.small q hq; omega) (by omega) hi rfl, ?_⟩, h.tab, h.small, htmp _, by rw [hcl]; exact h.holds, by have := h.sum; omega⟩
  have := List.length_take_le' i (frameOf (encOf l).2)
  rw [List.length_append]; omega
 ·right
  rw [List.take_of_length_le (by omega), ← frames_snoc]
  exact hw
theorem Up.app {R : Int} {P : Fn → Prop} {g : Fn} {T : TM} {n : Nat} (hu : Up R P g T.m n) (hd : T.down = false) {rs : List (List UInt8)} {U N B : Nat} (h : JB g T.fs rs U N B) (hg : g nmT = some (framesOf rs)) {l : List TCh} (he : (encOf l).1 = 0) (hR : ((U + B + B : Nat) : Int) + (frameOf (encOf l).2).length ≤ R) :
  (∃ m' s', tAppOf T nmT l = (0, ⟨m', s', tdos T.fs l, false⟩) ∧ s' = T.size + (frameOf (encOf l).2).length ∧ Up R (fun x => x = fset g nmT (framesOf (rs ++ [(encOf l).2]))) (fset g nmT (framesOf (rs ++ [(encOf l).2]))) m' (n + 1)) ∨
  (∃ m' s', tAppOf T nmT l = (5, ⟨m', s', T.fs, true⟩) ∧ s' ≤ T.size + (frameOf (encOf l).2).length ∧ Dn R (fun x => P x ∨ ∃ i, x = fset g nmT (framesOf rs ++ (frameOf (encOf l).2).take i)) m' (n + 1)) := by
 have hlen := (enc_ok he).2.2.2
 have hfl := frameOf_length (encOf l).2
 have hap := hu.append hg (frameOf (encOf l).2) (by omega) h.all.2 hR
 rw [← frames_snoc] at hap
 have hj : jAppendOf T.m nmT T.size (encOf l).2 = if (appendOf T.m nmT (frameOf (encOf l).2)).1 = 0 then (0, (appendOf T.m nmT (frameOf (encOf l).2)).2, T.size + (8 + (encOf l).2.length)) else ((appendOf T.m nmT (frameOf (encOf l).2)).1, (appendOf T.m nmT (frameOf (encOf l).2)).2, T.size) := by
  unfold jAppendOf; rw [if_neg (by omega)]
 unfold tAppOf
 rw [hd, if_neg (by simp), if_pos he, hj]
 rcases hap with ⟨c, hu2⟩ | ⟨c, hd2⟩
 ·rw [if_pos c]
  dsimp only
  rw [if_pos rfl]
  rcases hu2.sync with ⟨c3, hu3⟩ | ⟨c3, hd3⟩
  ·rw [if_pos c3]
   exact .inl ⟨_, _, rfl, by omega, hu3⟩
  ·rw [if_neg (by rw [c3]; omega), c3]
   exact .inr ⟨_, _, rfl, by omega, hd3⟩
 ·rw [if_neg (show ¬ (appendOf T.m nmT (frameOf (encOf l).2)).1 = 0 by rw [c]; omega), c]
  rw [if_neg (show ¬ (5 : Int) = 0 by omega)]
  exact .inr ⟨_, _, rfl, (by show T.size ≤ _; omega), hd2.mono (fun x hx => .inl hx) (Nat.le_refl _)⟩
def abR : ByteArray := ⟨#[97, 47, 98]⟩
theorem abR_repo : isRepo abR = true := by decide +kernel
structure Kp where
 id : Nat
 sure : List UInt8
 may : List UInt8
 ends : Bool
abbrev Ks := Nat → Option (List UInt8)
def kset (K : Ks) (id : Nat) (e : List UInt8) : Ks := fun i => if i = id then some e else K i
def kclr (K : Ks) (id : Nat) : Ks := fun i => if i = id then none else K i
structure Yf (g : Fn) (K : Ks) : Prop where
 open_ : ∀ id, K id = some [] → ∃ c, g (ukeyOf id) = some c
 fin : ∀ id e, K id = some e → e.length = 32 → ∀ c, g (ukeyOf id) = some c → sumOf c = e
 blob : ∀ d c, d.length = 32 → g (fileOf d) = some c → sumOf c = d
 tmp : g tmpB = none
structure Yk (fs : FS) (K : Ks) (nx : Nat) : Prop where
 ok : TabOk fs
 keys : ∀ k v, fget fs k = some v → beginsB k hdU = true → ∃ id e, k = ukeyOf id ∧ K id = some e
 has : ∀ id e, K id = some e → fget fs (ukeyOf id) = some (laidOf abR 5 e) ∧ 1 ≤ id ∧ id < nx ∧ (e = [] ∨ e.length = 32)
 cnt : (fget fs uB = none ∧ nx = 1) ∨ (fget fs uB = some (putOf nx 8) ∧ 1 ≤ nx)
def Fit (have_ : List Kp) (g : Fn) (K : Ks) : Prop := ∀ k ∈ have_, (K k.id = some [] ∧ ∃ i, g (ukeyOf k.id) = some (k.sure ++ k.may.take i)) ∨ (k.ends = true ∧ K k.id ≠ some [])
def Im (have_ : List Kp) (nb N B : Nat) (g : Fn) : Prop :=
 ∃ (fs : FS) (rs : List (List UInt8)) (U : Nat) (K : Ks) (nx : Nat), JB g fs rs U N B ∧ Yk fs K nx ∧ Yf g K ∧ Fit have_ g K ∧ nx ≤ nb ∧ ∀ k ∈ have_, k.id < nx
theorem Im.mono {hv : List Kp} {nb N B nb' N' B' : Nat} {g : Fn} (h : Im hv nb N B g) (h1 : nb ≤ nb') (h2 : N ≤ N') (h3 : B ≤ B') : Im hv nb' N' B' g := by
 obtain ⟨fs, rs, U, K, nx, a, b, c, d, e, f⟩ := h
 exact ⟨fs, rs, U, K, nx, a.mono h3 h2, b, c, d, by omega, f⟩
theorem uk_nmT (id : Nat) : ukeyOf id ≠ nmT := ne_of_size (by rw [ukeyOf_size]; decide)
theorem uk_tmpT (id : Nat) : ukeyOf id ≠ tmpT := ne_of_size (by rw [ukeyOf_size]; decide +kernel)
theorem uk_tmpB (id : Nat) : ukeyOf id ≠ tmpB := ne_of_size (by rw [ukeyOf_size]; decide +kernel)
theorem uk_file (id : Nat) {d : List UInt8} (hd : d.length = 32) : ukeyOf id ≠ fileOf d := ne_of_size (by rw [ukeyOf_size, fileOf_size d hd]; decide)
theorem uk_uB (id : Nat) : ukeyOf id ≠ uB := ne_of_size (by rw [ukeyOf_size]; decide)
theorem file_nmT {d : List UInt8} (hd : d.length = 32) : fileOf d ≠ nmT := ne_of_size (by rw [fileOf_size d hd]; decide)
theorem file_tmpT {d : List UInt8} (hd : d.length = 32) : fileOf d ≠ tmpT := ne_of_size (by rw [fileOf_size d hd]; decide +kernel)
theorem file_tmpB {d : List UInt8} (hd : d.length = 32) : fileOf d ≠ tmpB := ne_of_size (by rw [fileOf_size d hd]; decide +kernel)
theorem tmpB_nmT : tmpB ≠ nmT := by decide +kernel
theorem tmpB_tmpT : tmpB ≠ tmpT := by decide +kernel
theorem uk_begins (id : Nat) : beginsB (ukeyOf id) hdU = true := by
 have h1 : (hdU.size : Int) ≤ ((ukeyOf id).size : Int) := by rw [ukeyOf_size]; decide
 have h2 : (ukeyOf id).extract 0 hdU.size = hdU := by
  unfold ukeyOf
  exact ByteArray.extract_append_eq_left rfl
 unfold beginsB
 rw [h2, decide_eq_true h1]
 simp
theorem uB_begins : beginsB uB hdU = false := by decide +kernel
theorem Yf.same {g x : Fn} {K : Ks} (h : Yf g K) (hx : ∀ n, n ≠ nmT → n ≠ tmpT → x n = g n) : Yf x K :=
 ⟨fun id hk => by rw [hx _ (uk_nmT id) (uk_tmpT id)]; exact h.open_ id hk, fun id e hk he c hc => h.fin id e hk he c (by rw [← hx _ (uk_nmT id) (uk_tmpT id)]; exact hc),
  fun d c hd hc => h.blob d c hd (by rw [← hx _ (file_nmT hd) (file_tmpT hd)]; exact hc), by rw [hx _ tmpB_nmT tmpB_tmpT]; exact h.tmp⟩
theorem Fit.same {hv : List Kp} {g x : Fn} {K : Ks} (h : Fit hv g K) (hx : ∀ n, n ≠ nmT → n ≠ tmpT → x n = g n) : Fit hv x K := fun k hk => by
 rw [hx _ (uk_nmT k.id) (uk_tmpT k.id)]
 exact h k hk
theorem fset_nmT {g : Fn} {b : List UInt8} : ∀ n, n ≠ nmT → n ≠ tmpT → fset g nmT b n = g n := fun n h _ => fset_other _ _ h
theorem Yf.orphan {g : Fn} {K : Ks} {fs : FS} {nx : Nat} (h : Yf g K) (hk : Yk fs K nx) {f : ByteArray} (hb : beginsB f hdU = true) (hf : fget fs f = none) : Yf (fclr g f) K := by
 have n1 : ∀ id e, K id = some e → ukeyOf id ≠ f := fun id e he e2 => by
  have := (hk.has id e he).1
  rw [e2, hf] at this; cases this
 refine ⟨fun id e => ?_, fun id e he hl c hc => ?_, fun d c hd hc => ?_, ?_⟩
 ·rw [fclr_other _ (n1 id _ e)]; exact h.open_ id e
 ·rw [fclr_other _ (n1 id _ he)] at hc; exact h.fin id e he hl c hc
 ·by_cases e : fileOf d = f
  ·rw [e, fclr_same] at hc; cases hc
  ·rw [fclr_other _ e] at hc; exact h.blob d c hd hc
 ·by_cases e : tmpB = f
  ·rw [e, fclr_same]
  ·rw [fclr_other _ e]; exact h.tmp
theorem Fit.orphan {hv : List Kp} {g : Fn} {K : Ks} {fs : FS} {nx : Nat} (h : Fit hv g K) (hk : Yk fs K nx) {f : ByteArray} (hf : fget fs f = none) : Fit hv (fclr g f) K := fun k hkm => by
 rcases h k hkm with ⟨h1, i, h2⟩ | h1
 ·refine .inl ⟨h1, i, ?_⟩
  rw [fclr_other]
  ·exact h2
  ·intro e
   have := (hk.has k.id _ h1).1
   rw [e, hf] at this; cases this
 ·exact .inr h1
theorem Yk.lt {fs : FS} {K : Ks} {nx : Nat} (h : Yk fs K nx) (hn : nx ≤ 4294967296) {id : Nat} {e : List UInt8} (he : K id = some e) : id < 4294967296 := by
 have := (h.has id e he).2.2.1
 omega
theorem ukey_ne {a b : Nat} (ha : a < 4294967296) (hb : b < 4294967296) (h : a ≠ b) : ukeyOf a ≠ ukeyOf b := fun e => h (ukey_inj ha hb e)
theorem Yk.set {fs : FS} {K : Ks} {nx : Nat} (h : Yk fs K nx) (hn : nx ≤ 4294967296) {id : Nat} {e0 e : List UInt8} (h0 : K id = some e0) (he : e = [] ∨ e.length = 32) : Yk (tdos fs [⟨ukeyOf id, false, laidOf abR 5 e⟩]) (kset K id e) nx := by
 have hid := h.lt hn h0
 have hnd := h.ok.sorted.nodup
 have ht : tdos fs [⟨ukeyOf id, false, laidOf abR 5 e⟩] = fput fs (ukeyOf id) (laidOf abR 5 e) := by simp [tdos, tdo]
 have hlen : (laidOf abR 5 e).length ≤ 44 := by
  rw [laidOf_length]
  have : abR.size = 3 := rfl
  rcases he with rfl | he
  ·simp; omega
  ·omega
 refine ⟨TabOk.tdos _ h.ok (fun c hc => by
  rw [List.mem_singleton.1 hc]
  exact good_key (by rw [ukeyOf_size]; omega) (by rw [ukeyOf_size]; omega) (by omega)), fun k v hv hb => ?_, fun i e2 he2 => ?_, ?_⟩
 ·rw [ht] at hv
  by_cases ek : ukeyOf id = k
  ·exact ⟨id, e, ek.symm, by simp [kset]⟩
  ·rw [fget_fput_other hnd _ _ _ ek] at hv
   obtain ⟨i, e1, h1, h2⟩ := h.keys k v hv hb
   refine ⟨i, e1, h1, ?_⟩
   unfold kset
   rw [if_neg (fun e3 => ek (by rw [h1, e3]))]
   exact h2
 ·rw [ht]
  unfold kset at he2
  by_cases e3 : i = id
  ·rw [if_pos e3] at he2
   cases he2
   subst e3
   obtain ⟨-, q1, q2, -⟩ := h.has i e0 h0
   exact ⟨fget_fput_same hnd _ _, q1, q2, he⟩
  ·rw [if_neg e3] at he2
   obtain ⟨q0, q1, q2, q3⟩ := h.has i e2 he2
   exact ⟨by rw [fget_fput_other hnd _ _ _ (ukey_ne hid (h.lt hn he2) (Ne.symm e3))]; exact q0, q1, q2, q3⟩
 ·rw [ht, fget_fput_other hnd _ _ _ (uk_uB id)]
  exact h.cnt
theorem Yk.del {fs : FS} {K : Ks} {nx : Nat} (h : Yk fs K nx) (hn : nx ≤ 4294967296) {id : Nat} {e0 : List UInt8} (h0 : K id = some e0) : Yk (tdos fs [⟨ukeyOf id, true, []⟩]) (kclr K id) nx := by
 have hid := h.lt hn h0
 have ht : tdos fs [⟨ukeyOf id, true, []⟩] = fdel fs (ukeyOf id) := by simp [tdos, tdo]
 refine ⟨by rw [ht]; exact h.ok.fdel _, fun k v hv hb => ?_, fun i e2 he2 => ?_, ?_⟩
 ·rw [ht] at hv
  by_cases ek : ukeyOf id = k
  ·rw [← ek, fget_fdel_same] at hv; cases hv
  ·rw [fget_fdel_other _ _ _ ek] at hv
   obtain ⟨i, e1, h1, h2⟩ := h.keys k v hv hb
   refine ⟨i, e1, h1, ?_⟩
   unfold kclr
   rw [if_neg (fun e3 => ek (by rw [h1, e3]))]
   exact h2
 ·rw [ht]
  unfold kclr at he2
  by_cases e3 : i = id
  ·rw [if_pos e3] at he2; cases he2
  ·rw [if_neg e3] at he2
   obtain ⟨q0, q1, q2, q3⟩ := h.has i e2 he2
   exact ⟨by rw [fget_fdel_other _ _ _ (ukey_ne hid (h.lt hn he2) (Ne.symm e3))]; exact q0, q1, q2, q3⟩
 ·rw [ht, fget_fdel_other _ _ _ (uk_uB id)]
  exact h.cnt
theorem Yk.new {fs : FS} {K : Ks} {nx : Nat} (h : Yk fs K nx) (hn : nx < 4294967296) : Yk (tdos fs [⟨ukeyOf nx, false, laidOf abR 5 []⟩, ⟨uB, false, putOf (nx + 1) 8⟩]) (kset K nx []) (nx + 1) := by
 have hnd := h.ok.sorted.nodup
 have hn1 : 1 ≤ nx := by rcases h.cnt with ⟨_, e⟩ | ⟨_, e⟩ <;> omega
 have ht : tdos fs [⟨ukeyOf nx, false, laidOf abR 5 []⟩, ⟨uB, false, putOf (nx + 1) 8⟩] = fput (fput fs (ukeyOf nx) (laidOf abR 5 [])) uB (putOf (nx + 1) 8) := by simp [tdos, tdo]
 have hnd2 := hnd.fput (ukeyOf nx) (laidOf abR 5 [])
 have hk : ∀ k, k ≠ uB → k ≠ ukeyOf nx → fget (tdos fs [⟨ukeyOf nx, false, laidOf abR 5 []⟩, ⟨uB, false, putOf (nx + 1) 8⟩]) k = fget fs k := fun k h1 h2 => by
  rw [ht, fget_fput_other hnd2 _ _ _ (Ne.symm h1), fget_fput_other hnd _ _ _ (Ne.symm h2)]
 have hkn : fget (tdos fs [⟨ukeyOf nx, false, laidOf abR 5 []⟩, ⟨uB, false, putOf (nx + 1) 8⟩]) (ukeyOf nx) = some (laidOf abR 5 []) := by
  rw [ht, fget_fput_other hnd2 _ _ _ (Ne.symm (uk_uB nx)), fget_fput_same hnd]
 have huB : uB.size = 1 := rfl
 refine ⟨TabOk.tdos _ h.ok (fun c hc => ?_), fun k v hv hb => ?_, fun i e2 he2 => ?_, ?_⟩
 ·rcases List.mem_cons.1 hc with rfl | hc
  ·exact good_key (by rw [ukeyOf_size]; omega) (by rw [ukeyOf_size]; omega) (by rw [laidOf_length]; have : abR.size = 3 := rfl; simp; omega)
  ·rw [List.mem_singleton.1 hc]
   exact good_key (by omega) (by omega) (by rw [putOf_length]; omega)
 ·by_cases e1 : k = ukeyOf nx
  ·exact ⟨nx, [], e1, by simp [kset]⟩
  ·have e2 : k ≠ uB := fun e => by rw [e, uB_begins] at hb; cases hb
   rw [hk k e2 e1] at hv
   obtain ⟨i, e3, h1, h2⟩ := h.keys k v hv hb
   refine ⟨i, e3, h1, ?_⟩
   unfold kset
   rw [if_neg (fun e4 => e1 (by rw [h1, e4]))]
   exact h2
 ·unfold kset at he2
  by_cases e3 : i = nx
  ·rw [if_pos e3] at he2
   cases he2
   rw [e3]
   exact ⟨hkn, hn1, by omega, .inl rfl⟩
  ·rw [if_neg e3] at he2
   obtain ⟨q0, q1, q2, q3⟩ := h.has i e2 he2
   exact ⟨by rw [hk _ (uk_uB i) (ukey_ne (by omega) hn e3)]; exact q0, q1, by omega, q3⟩
 ·right
  rw [ht, fget_fput_same hnd2]
  exact ⟨rfl, by omega⟩
structure Yd (T : TM) (g : Fn) (rs : List (List UInt8)) (U N B : Nat) (K : Ks) (nx : Nat) : Prop where
 on : T.down = false
 size : T.size = (framesOf rs).length
 jb : JB g T.fs rs U N B
 jrn : g nmT = some (framesOf rs)
 yk : Yk T.fs K nx
 yf : Yf g K
structure UpY (T : TM) (g : Fn) (rs : List (List UInt8)) (U N B : Nat) (K : Ks) (nx n : Nat) : Prop extends Yd T g rs U N B K nx where
 up : Up 1048576 (fun x => x = g) g T.m n
theorem Yd.im {T : TM} {g : Fn} {rs : List (List UInt8)} {U N B nx nb : Nat} {K : Ks} (h : Yd T g rs U N B K nx) {hv : List Kp} (hf : Fit hv g K) (hb : nx ≤ nb) (hi : ∀ k ∈ hv, k.id < nx) : Im hv nb N B g :=
 ⟨T.fs, rs, U, K, nx, h.jb, h.yk, h.yf, hf, hb, hi⟩
theorem Yd.mono {T : TM} {g : Fn} {rs : List (List UInt8)} {U N B nx N' B' : Nat} {K : Ks} (h : Yd T g rs U N B K nx) (hN : N ≤ N') (hB : B ≤ B') : Yd T g rs U N' B' K nx :=
 ⟨h.on, h.size, h.jb.mono hB hN, h.jrn, h.yk, h.yf⟩
theorem UpY.mono {T : TM} {g : Fn} {rs : List (List UInt8)} {U N B nx n N' B' n' : Nat} {K : Ks} (h : UpY T g rs U N B K nx n) (hN : N ≤ N') (hB : B ≤ B') (hn : n ≤ n') : UpY T g rs U N' B' K nx n' :=
 ⟨h.toYd.mono hN hB, h.up.mono (fun _ h => h) hn⟩
theorem gone_enc (id : Nat) : (encOf [⟨ukeyOf id, true, []⟩]).1 = 0 ∧ (frameOf (encOf [⟨ukeyOf id, true, []⟩]).2).length ≤ 49 := by
 have w : wtC [⟨ukeyOf id, true, []⟩] = 31 := by simp [wtC, ukeyOf_size]
 have h := enc_wt (l := [⟨ukeyOf id, true, []⟩]) (by simp) (by intro c hc; rw [List.mem_singleton.1 hc]; exact good_key (by rw [ukeyOf_size]; omega) (by rw [ukeyOf_size]; omega) (by simp)) (by rw [w]; omega)
 rw [w] at h
 exact ⟨h.1, by rw [frameOf_length]; omega⟩
theorem end_enc (id : Nat) {e : List UInt8} (he : e = [] ∨ e.length = 32) : (encOf [⟨ukeyOf id, false, laidOf abR 5 e⟩]).1 = 0 ∧ (frameOf (encOf [⟨ukeyOf id, false, laidOf abR 5 e⟩]).2).length ≤ 93 := by
 have hl : (laidOf abR 5 e).length ≤ 44 := by
  rw [laidOf_length]
  have : abR.size = 3 := rfl
  rcases he with rfl | he
  ·simp; omega
  ·omega
 have w : wtC [⟨ukeyOf id, false, laidOf abR 5 e⟩] ≤ 75 := by simp [wtC, ukeyOf_size]; omega
 have h := enc_wt (l := [⟨ukeyOf id, false, laidOf abR 5 e⟩]) (by simp) (by intro c hc; rw [List.mem_singleton.1 hc]; exact good_key (by rw [ukeyOf_size]; omega) (by rw [ukeyOf_size]; omega) (by omega)) (by omega)
 exact ⟨h.1, by rw [frameOf_length]; omega⟩
theorem new_enc (nx : Nat) : (encOf [⟨ukeyOf nx, false, laidOf abR 5 []⟩, ⟨uB, false, putOf (nx + 1) 8⟩]).1 = 0 ∧ (frameOf (encOf [⟨ukeyOf nx, false, laidOf abR 5 []⟩, ⟨uB, false, putOf (nx + 1) 8⟩]).2).length ≤ 100 := by
 have hl : (laidOf abR 5 []).length = 12 := by rw [laidOf_length]; rfl
 have huB : uB.size = 1 := rfl
 have w : wtC [⟨ukeyOf nx, false, laidOf abR 5 []⟩, ⟨uB, false, putOf (nx + 1) 8⟩] = 73 := by simp [wtC, ukeyOf_size, hl, huB, putOf_length]
 have h := enc_wt (l := [⟨ukeyOf nx, false, laidOf abR 5 []⟩, ⟨uB, false, putOf (nx + 1) 8⟩]) (by simp) (by
  intro c hc
  rcases List.mem_cons.1 hc with rfl | hc
  ·exact good_key (by rw [ukeyOf_size]; omega) (by rw [ukeyOf_size]; omega) (by omega)
  ·rw [List.mem_singleton.1 hc]
   exact good_key (by omega) (by omega) (by rw [putOf_length]; omega)) (by rw [w]; omega)
 rw [w] at h
 exact ⟨h.1, by rw [frameOf_length]; omega⟩
theorem fdel_short {fs : FS} (hn : FNodup fs) {k : ByteArray} {v : List UInt8} (h : fget fs k = some v) : (fdel fs k).length + 1 = fs.length := by
 have h1 := length_fdel_le hn k
 have h2 : (fdel fs k).length < fs.length := List.length_filter_lt_length_iff_exists.2 ⟨(k, v), mem_of_fget h, by simp⟩
 omega
theorem fput_len {fs : FS} (hn : FNodup fs) (k : ByteArray) (v : List UInt8) : (fput fs k v).length ≤ fs.length + 1 := by
 rw [length_fput]
 have := List.length_filter_le (fun p : ByteArray × List UInt8 => p.1 ≠ k) fs
 unfold fdel; omega
theorem fput_same_len {fs : FS} (hn : FNodup fs) {k : ByteArray} {v0 : List UInt8} (h : fget fs k = some v0) (v : List UInt8) : (fput fs k v).length = fs.length := by
 rw [length_fput]
 exact fdel_short hn h
theorem Yd.rec_ {T : TM} {g : Fn} {rs : List (List UInt8)} {U N B nx n : Nat} {K : Ks} {P : Fn → Prop} (h : Yd T g rs U N B K nx) (hu : Up 1048576 P g T.m n) {l : List TCh} (he : (encOf l).1 = 0) {B' : Nat} (hB : B ≤ B') (h1 : (framesOf rs).length + (frameOf (encOf l).2).length ≤ B') (h2 : U + ((framesOf rs).length + (frameOf (encOf l).2).length) + 60 * (tdos T.fs l).length ≤ B')
  (hR : 4 * B' ≤ 1048576) {K' : Ks} {nx' : Nat} (hk : Yk (tdos T.fs l) K' nx') (hf : ∀ x : Fn, (∀ n, n ≠ nmT → n ≠ tmpT → x n = g n) → Yf x K') :
  (∃ m' s', tAppOf T nmT l = (0, ⟨m', s', tdos T.fs l, false⟩) ∧ UpY ⟨m', s', tdos T.fs l, false⟩ (fset g nmT (framesOf (rs ++ [(encOf l).2]))) (rs ++ [(encOf l).2]) U N B' K' nx' (n + 1)) ∨
  (∃ m' s', tAppOf T nmT l = (5, ⟨m', s', T.fs, true⟩) ∧ s' ≤ B' ∧ ∀ (hv : List Kp) (nb : Nat), (∀ x, P x → Im hv nb N B' x) → Fit hv g K → Fit hv g K' → nx ≤ nb → nx' ≤ nb → (∀ k ∈ hv, k.id < nx) → (∀ k ∈ hv, k.id < nx') → Dn 1048576 (Im hv nb N B') m' (n + 1)) := by
 have hsum := h.jb.sum
 have hsz := h.size
 rcases hu.app h.on h.jb h.jrn he (by omega) with ⟨m', s', e, es, hu⟩ | ⟨m', s', e, es, hd⟩
 ·obtain ⟨j1, -⟩ := h.jb.push h.jrn he hB h1 h2
  refine .inl ⟨m', s', e, ⟨rfl, ?_, j1, fset_same _ _ _, hk, hf _ fset_nmT⟩, hu⟩
  show s' = _
  rw [frames_snoc, List.length_append]; omega
 ·refine .inr ⟨m', s', e, by omega, fun hv nb hP f1 f2 b1 b2 i1 i2 => hd.mono (fun x hx => ?_) (Nat.le_refl _)⟩
  rcases hx with hx | ⟨i, rfl⟩
  ·exact hP x hx
  ·rcases (h.jb.push h.jrn he hB h1 h2).2 i with j | j
   ·exact ⟨_, _, U, K, nx, j, h.yk, h.yf.same fset_nmT, f1.same fset_nmT, b1, i1⟩
   ·exact ⟨_, _, U, K', nx', j, hk, hf _ fset_nmT, f2.same fset_nmT, b2, i2⟩
theorem UpY.adopt {T : TM} {g : Fn} {rs : List (List UInt8)} {U N B nx n : Nat} {K : Ks} (h : UpY T g rs U N B K nx n) (hn : nx ≤ 4294967296) {id : Nat} {d : List UInt8} (hk : K id = some d) (hd : d.length = 32) (hN : N + 2 < 4096) :
  (∃ g1, ((adoptOf T.m (ukeyOf id) d).1 = 0 ∨ (adoptOf T.m (ukeyOf id) d).1 = 6) ∧ UpY { T with m := (adoptOf T.m (ukeyOf id) d).2 } g1 rs U N B K nx (n + 1) ∧ g1 (ukeyOf id) = none ∧ (∀ hv, Fit hv g K → Fit hv g1 K) ∧ (∀ c, g (ukeyOf id) = some c → ∃ c', g1 (fileOf d) = some c') ∧ ∀ k, k ≠ ukeyOf id → k ≠ fileOf d → g1 k = g k) ∨
  ((adoptOf T.m (ukeyOf id) d).1 = 5 ∧ ∀ (hv : List Kp) (nb : Nat), Fit hv g K → nx ≤ nb → (∀ k ∈ hv, k.id < nx) → Dn 1048576 (Im hv nb N B) (adoptOf T.m (ukeyOf id) d).2 (n + 1)) := by
 have hidl := h.yk.lt hn hk
 have hcont : contOf T.m (ukeyOf id) = (g (ukeyOf id)).getD [] := by unfold contOf; rw [← h.up.now]
 -- what files may be turned
 have facts : ∀ (g1 : Fn), (∀ k, k ≠ ukeyOf id → k ≠ fileOf d → g1 k = g k) → g1 (ukeyOf id) = none → Holds (fclr (fclr g1 tmpT) nmT) U N → (∀ c, g1 (fileOf d) = some c → sumOf c = d) → JB g1 T.fs rs U N B ∧ Yf g1 K := fun g1 ho hi hh hb => by
  have q1 : g1 nmT = g nmT := ho _ (Ne.symm (uk_nmT id)) (Ne.symm (file_nmT hd))
  have q2 : g1 tmpT = g tmpT := ho _ (Ne.symm (uk_tmpT id)) (Ne.symm (file_tmpT hd))
  refine ⟨h.jb.other q1 q2 hh (Nat.le_refl _) h.jb.sum, ?_⟩
  refine ⟨fun i hi2 => ?_, fun i e he hl c hc => ?_, fun d2 c hd2 hc => ?_, ?_⟩
  ·have hne : i ≠ id := fun e => by rw [e, hk] at hi2; cases hi2; simp at hd
   rw [ho _ (ukey_ne (h.yk.lt hn hi2) hidl hne) (uk_file i hd)]
   exact h.yf.open_ i hi2
  ·by_cases hne : i = id
   ·rw [hne, hi] at hc; cases hc
   ·rw [ho _ (ukey_ne (h.yk.lt hn he) hidl hne) (uk_file i hd)] at hc
    exact h.yf.fin i e he hl c hc
  ·by_cases e : fileOf d2 = fileOf d
   ·have := fileOf_inj hd2 hd e
    rw [e] at hc
    rw [this]; exact hb c hc
   ·rw [ho _ (Ne.symm (uk_file id hd2)) e] at hc
    exact h.yf.blob d2 c hd2 hc
  ·rw [ho _ (Ne.symm (uk_tmpB id)) (Ne.symm (file_tmpB hd))]
   exact h.yf.tmp
 have fits : ∀ (g1 : Fn), (∀ k, k ≠ ukeyOf id → k ≠ fileOf d → g1 k = g k) → ∀ hv, Fit hv g K → Fit hv g1 K := fun g1 ho hv hf k hkm => by
  rcases hf k hkm with ⟨h1, i, h2⟩ | h1
  ·have hne : k.id ≠ id := fun e => by rw [e, hk] at h1; cases h1; simp at hd
   exact .inl ⟨h1, i, by rw [ho _ (ukey_ne (h.yk.lt hn h1) hidl hne) (uk_file k.id hd)]; exact h2⟩
  ·exact .inr h1
 have ims : ∀ (g1 : Fn), (∀ k, k ≠ ukeyOf id → k ≠ fileOf d → g1 k = g k) → g1 (ukeyOf id) = none → Holds (fclr (fclr g1 tmpT) nmT) U N → (∀ c, g1 (fileOf d) = some c → sumOf c = d) → ∀ (hv : List Kp) (nb : Nat), Fit hv g K → nx ≤ nb → (∀ k ∈ hv, k.id < nx) → ∀ x, (x = g ∨ x = g1) → Im hv nb N B x := fun g1 ho hi hh hb hv nb f1 b1 i1 x hx => by
  rcases hx with rfl | rfl
  ·exact h.im f1 b1 i1
  ·obtain ⟨j1, y1⟩ := facts _ ho hi hh hb
   exact ⟨T.fs, rs, U, K, nx, j1, h.yk, y1, fits _ ho hv f1, b1, i1⟩
 cases hg : g (ukeyOf id) with
 | none =>
  have hth : thereOf T.m (ukeyOf id) = 6 := by rw [h.up.there, hg]; rfl
  have ha : adoptOf T.m (ukeyOf id) d = (6, T.m) := by unfold adoptOf; rw [hth, if_neg (by omega)]
  rw [ha]
  exact .inl ⟨g, .inr rfl, h.mono (Nat.le_refl _) (Nat.le_refl _) (Nat.le_succ _), hg, fun _ h => h, (fun c e => by cases e), fun _ _ _ => rfl⟩
 | some c =>
  have hth : thereOf T.m (ukeyOf id) = 0 := by rw [h.up.there, hg]; rfl
  have hsum : sumOf c = d := h.yf.fin id d hk hd c hg
  have hc1 : contOf T.m (ukeyOf id) = c := by unfold contOf; rw [h.up.now, hg]; rfl
  have hb2 : thereOf T.m (fileOf d) = if (g (fileOf d)).isSome then 0 else 6 := h.up.there _
  -- either step, and the Sync
  have fin : ∀ (g1 : Fn) (r : Int × DM), (∀ k, k ≠ ukeyOf id → k ≠ fileOf d → g1 k = g k) → g1 (ukeyOf id) = none → Holds (fclr (fclr g1 tmpT) nmT) U N → (∀ c, g1 (fileOf d) = some c → sumOf c = d) → (∃ c', g1 (fileOf d) = some c') →
    ((r.1 = 0 ∧ Up 1048576 (fun x => x = g ∨ x = g1) g1 r.2 (n + 1)) ∨ (r.1 = 5 ∧ Dn 1048576 (fun x => x = g) r.2 (n + 1))) → adoptOf T.m (ukeyOf id) d = (if r.1 = 0 then syncOf r.2 else r) →
    (∃ g1, ((adoptOf T.m (ukeyOf id) d).1 = 0 ∨ (adoptOf T.m (ukeyOf id) d).1 = 6) ∧ UpY { T with m := (adoptOf T.m (ukeyOf id) d).2 } g1 rs U N B K nx (n + 1) ∧ g1 (ukeyOf id) = none ∧ (∀ hv, Fit hv g K → Fit hv g1 K) ∧ (∀ c1 : List UInt8, some c = some c1 → ∃ c', g1 (fileOf d) = some c') ∧ ∀ k, k ≠ ukeyOf id → k ≠ fileOf d → g1 k = g k) ∨
    ((adoptOf T.m (ukeyOf id) d).1 = 5 ∧ ∀ (hv : List Kp) (nb : Nat), Fit hv g K → nx ≤ nb → (∀ k ∈ hv, k.id < nx) → Dn 1048576 (Im hv nb N B) (adoptOf T.m (ukeyOf id) d).2 (n + 1)) := fun g1 r ho hi hh hb hx hr ha => by
   rw [ha]
   rcases hr with ⟨c0, hu⟩ | ⟨c0, hd0⟩
   ·rw [if_pos c0]
    rcases hu.sync with ⟨c2, hu2⟩ | ⟨c2, hd2⟩
    ·obtain ⟨j1, y1⟩ := facts g1 ho hi hh hb
     refine .inl ⟨g1, .inl c2, ⟨⟨h.on, h.size, j1, ?_, h.yk, y1⟩, hu2⟩, hi, fits g1 ho, (fun _ _ => hx), ho⟩
     rw [ho _ (Ne.symm (uk_nmT id)) (Ne.symm (file_nmT hd))]
     exact h.jrn
    ·exact .inr ⟨c2, fun hv nb f1 b1 i1 => hd2.mono (ims g1 ho hi hh hb hv nb f1 b1 i1) (Nat.le_refl _)⟩
   ·rw [if_neg (by rw [c0]; omega)]
    exact .inr ⟨c0, fun hv nb f1 b1 i1 => hd0.mono (fun x hx => ims g1 ho hi hh hb hv nb f1 b1 i1 x (.inl hx)) (Nat.le_refl _)⟩
  cases hf : g (fileOf d) with
  | some c2 =>
   rw [hf] at hb2
   have ha : adoptOf T.m (ukeyOf id) d = (if (removeOf T.m (ukeyOf id)).1 = 0 then syncOf (removeOf T.m (ukeyOf id)).2 else removeOf T.m (ukeyOf id)) := by
    unfold adoptOf
    rw [hth, if_pos rfl, hc1, if_pos hsum, hb2]
    rfl
   refine fin (fclr g (ukeyOf id)) (removeOf T.m (ukeyOf id)) (fun k h1 _ => fclr_other _ h1) (fclr_same _ _) ?_ (fun c hc => ?_) ⟨c2, by rw [fclr_other _ (Ne.symm (uk_file id hd))]; exact hf⟩ (h.up.remove hg) ha
   ·have e : fclr (fclr (fclr g (ukeyOf id)) tmpT) nmT = fclr (fclr (fclr g tmpT) nmT) (ukeyOf id) := by
     funext x; simp only [fclr]; repeat' split
     all_goals rfl
    rw [e]
    exact h.jb.holds.clr _
   ·rw [fclr_other _ (Ne.symm (uk_file id hd))] at hc
    exact h.yf.blob d c hd hc
  | none =>
   rw [hf] at hb2
   have ha : adoptOf T.m (ukeyOf id) d = (if (renameOf T.m (ukeyOf id) (fileOf d)).1 = 0 then syncOf (renameOf T.m (ukeyOf id) (fileOf d)).2 else renameOf T.m (ukeyOf id) (fileOf d)) := by
    unfold adoptOf
    rw [hth, if_pos rfl, hc1, if_pos hsum, hb2]
    rfl
   have hnm : isName (fileOf d) = true := name_of_size (by rw [fileOf_size d hd]; omega) (by rw [fileOf_size d hd]; omega)
   refine fin (fclr (fset g (fileOf d) c) (ukeyOf id)) (renameOf T.m (ukeyOf id) (fileOf d)) (fun k h1 h2 => by rw [fclr_other _ h1, fset_other _ _ h2]) (fclr_same _ _) ?_ (fun c3 hc => ?_) ⟨c, by rw [fclr_other _ (Ne.symm (uk_file id hd)), fset_same]⟩ (h.up.rename hg hnm (uk_file id hd)) ha
   ·have e : fclr (fclr (fclr (fset g (fileOf d) c) (ukeyOf id)) tmpT) nmT = fclr (fset (fclr (fclr g tmpT) nmT) (fileOf d) c) (ukeyOf id) := by
     have n1 := file_nmT hd
     have n2 := file_tmpT hd
     funext x; simp only [fclr, fset]
     by_cases e1 : x = fileOf d
     ·subst e1
      simp [n1, n2]
     ·simp only [e1, if_false]
      repeat' split
      all_goals rfl
    rw [e]
    refine h.jb.holds.move (f := fileOf d) (c := c) ?_ ?_
    ·rw [fclr_other _ (uk_nmT id), fclr_other _ (uk_tmpT id)]; exact hg
    ·rw [fclr_other _ (file_nmT hd), fclr_other _ (file_tmpT hd)]; exact hf
   ·rw [fclr_other _ (Ne.symm (uk_file id hd)), fset_same] at hc
    cases hc
    exact hsum
theorem Yf.clr {g : Fn} {K : Ks} (h : Yf g K) (id : Nat) : Yf g (kclr K id) :=
 ⟨fun i hi => by
  unfold kclr at hi
  split at hi
  ·cases hi
  ·exact h.open_ i hi, fun i e he hl c hc => by
  unfold kclr at he
  split at he
  ·cases he
  ·exact h.fin i e he hl c hc, h.blob, h.tmp⟩
theorem Yf.set {g : Fn} {K : Ks} (h : Yf g K) (id : Nat) {d : List UInt8} (hd : d.length = 32) (hc : ∀ c, g (ukeyOf id) = some c → sumOf c = d) : Yf g (kset K id d) :=
 ⟨fun i hi => by
  unfold kset at hi
  split at hi
  ·cases hi; simp at hd
  ·exact h.open_ i hi, fun i e he hl c hg => by
  unfold kset at he
  split at he
  ·rename_i e2; cases he; rw [e2] at hg; exact hc c hg
  ·exact h.fin i e he hl c hg, h.blob, h.tmp⟩
theorem Fit.gone {hv : List Kp} {g : Fn} {K : Ks} (h : Fit hv g K) {id : Nat} {d : List UInt8} (hk : K id = some d) (hd : d.length = 32) : Fit hv g (kclr K id) := fun k hkm => by
 rcases h k hkm with ⟨h1, i, h2⟩ | h1
 ·refine .inl ⟨?_, i, h2⟩
  unfold kclr
  rw [if_neg (fun e => by rw [e, hk] at h1; cases h1; simp at hd)]
  exact h1
 ·refine .inr ⟨h1.1, ?_⟩
  unfold kclr
  split
  ·simp
  ·exact h1.2
theorem UpY.close {T : TM} {g : Fn} {rs : List (List UInt8)} {U N B nx n : Nat} {K : Ks} (h : UpY T g rs U N B K nx n) (hn : nx ≤ 4294967296) {id : Nat} {d : List UInt8} (hk : K id = some d) (hd : d.length = 32) (hN : N + 2 < 4096) (hR : 4 * B ≤ 1048576) :
  (∃ T2 g2 rs2, closeOf T nmT (ukeyOf id) d = (0, T2) ∧ UpY T2 g2 rs2 U N B (kclr K id) nx (n + 2) ∧ (∀ hv, Fit hv g K → Fit hv g2 (kclr K id)) ∧ (∀ c, g (ukeyOf id) = some c → ∃ c', g2 (fileOf d) = some c') ∧ g2 (ukeyOf id) = none ∧ T2.fs = fdel T.fs (ukeyOf id) ∧ ∀ k, k ≠ ukeyOf id → k ≠ fileOf d → k ≠ nmT → g2 k = g k) ∨
  (∃ T2, closeOf T nmT (ukeyOf id) d = (5, T2) ∧ T2.size ≤ B ∧ ∀ (hv : List Kp) (nb : Nat), Fit hv g K → nx ≤ nb → (∀ k ∈ hv, k.id < nx) → Dn 1048576 (Im hv nb N B) T2.m (n + 2)) := by
 have hsz := h.size
 have hsum := h.jb.sum
 have hfk := (h.yk.has id d hk).1
 have hfl := fdel_short h.yk.ok.sorted.nodup hfk
 obtain ⟨ge, gl⟩ := gone_enc id
 have ht : tdos T.fs [⟨ukeyOf id, true, []⟩] = fdel T.fs (ukeyOf id) := by simp [tdos, tdo]
 rcases h.adopt hn hk hd hN with ⟨g1, hc, h1, hi1, hf1, hb1, ho1⟩ | ⟨hc, hdn⟩
 ·have hsum1 := h1.jb.sum
  rcases h1.toYd.rec_ h1.up ge (Nat.le_refl B) (by omega) (by dsimp only; rw [ht]; omega) hR (h1.yk.del hn hk) (fun x hx => (h1.yf.same hx).clr id) with ⟨m', s', e, h2⟩ | ⟨m', s', e, es, hd2⟩
  ·refine .inl ⟨_, _, _, ?_, h2, fun hv hf => ((hf1 hv hf).same fset_nmT).gone hk hd, fun c hg => ?_, ?_, ht, fun k k1 k2 k3 => by rw [fset_other _ _ k3]; exact ho1 k k1 k2⟩
   ·unfold closeOf
    rw [if_neg (by rcases hc with c | c <;> rw [c] <;> omega), e]
    simp
   ·obtain ⟨c', hc'⟩ := hb1 c hg
    exact ⟨c', by rw [fset_other _ _ (file_nmT hd)]; exact hc'⟩
   ·rw [fset_other _ _ (uk_nmT id)]; exact hi1
  ·refine .inr ⟨⟨m', s', T.fs, true⟩, ?_, es, fun hv nb f1 b1 i1 => ?_⟩
   ·unfold closeOf
    rw [if_neg (by rcases hc with c | c <;> rw [c] <;> omega), e]
    simp
   ·exact hd2 hv nb (fun x hx => by rw [hx]; exact h1.toYd.im (hf1 hv f1) b1 i1) (hf1 hv f1) ((hf1 hv f1).gone hk hd) b1 b1 i1 i1
 ·refine .inr ⟨{ T with m := (adoptOf T.m (ukeyOf id) d).2 }, ?_, by dsimp only; omega, fun hv nb f1 b1 i1 => (hdn hv nb f1 b1 i1).mono (fun _ h => h) (by omega)⟩
  unfold closeOf
  rw [if_pos (by rw [hc]; omega), hc]
structure Us (T : TM) (g : Fn) (rs : List (List UInt8)) (U N B : Nat) (K : Ks) (nx n : Nat) (L : List Ses) : Prop extends UpY T g rs U N B K nx n where
 live : ∀ x ∈ L, ∃ id : Nat, x.id = (id : Int) ∧ K id = some [] ∧ g (ukeyOf id) = some x.b ∧ x.repo = abR ∧ x.til = 5
 all : ∀ id e, K id = some e → ∃ x ∈ L, x.id = (id : Int)
 ids : (L.map (·.id)).Nodup
 orph : ∀ f, beginsB f hdU = true → (g f).isSome = true → (fget T.fs f).isSome = true
theorem Us.mono {T : TM} {g : Fn} {rs : List (List UInt8)} {U N B nx n N' B' n' : Nat} {K : Ks} {L : List Ses} (h : Us T g rs U N B K nx n L) (hN : N ≤ N') (hB : B ≤ B') (hn : n ≤ n') : Us T g rs U N' B' K nx n' L :=
 ⟨h.toUpY.mono hN hB hn, h.live, h.all, h.ids, h.orph⟩
theorem remove_down {m : DM} (h : m.down = true) (f : ByteArray) : removeOf m f = (5, m) := by
 unfold removeOf thereOf; rw [h]; rfl
theorem create_down {m : DM} (h : m.down = true) (f : ByteArray) : createOf m f = (5, m) := by
 unfold createOf; rw [h]; rfl
theorem ukey_name (id : Nat) : isName (ukeyOf id) = true := name_of_size (by rw [ukeyOf_size]; omega) (by rw [ukeyOf_size]; omega)
theorem set_tmps {g : Fn} {k : ByteArray} {b : List UInt8} (h1 : k ≠ nmT) (h2 : k ≠ tmpT) : fclr (fclr (fset g k b) tmpT) nmT = fset (fclr (fclr g tmpT) nmT) k b := by
 funext x; simp only [fclr, fset]
 by_cases e : x = k
 ·subst e; simp [h1, h2]
 ·simp only [e, if_false]
theorem clr_tmps (g : Fn) (k : ByteArray) : fclr (fclr (fclr g k) tmpT) nmT = fclr (fclr (fclr g tmpT) nmT) k := by
 funext x; simp only [fclr]; repeat' split
 all_goals rfl
theorem Yf.put {g : Fn} {K : Ks} {fs : FS} {nx : Nat} (h : Yf g K) (hk : Yk fs K nx) (hn : nx ≤ 4294967296) {id : Nat} (hid : id < 4294967296) (hK : K id = none ∨ K id = some []) (b : List UInt8) : Yf (fset g (ukeyOf id) b) K := by
 refine ⟨fun i hi => ?_, fun i e he hl c hc => ?_, fun d c hd hc => ?_, ?_⟩
 ·by_cases e : i = id
  ·rw [e]; exact ⟨b, fset_same _ _ _⟩
  ·rw [fset_other _ _ (ukey_ne (hk.lt hn hi) hid e)]; exact h.open_ i hi
 ·by_cases e2 : i = id
  ·rw [e2] at he
   rcases hK with h0 | h0 <;> rw [h0] at he <;> cases he
   simp at hl
  ·rw [fset_other _ _ (ukey_ne (hk.lt hn he) hid e2)] at hc; exact h.fin i e he hl c hc
 ·rw [fset_other _ _ (Ne.symm (uk_file id hd))] at hc; exact h.blob d c hd hc
 ·rw [fset_other _ _ (Ne.symm (uk_tmpB id))]; exact h.tmp
theorem Fit.put {hv : List Kp} {g : Fn} {K : Ks} {fs : FS} {nx : Nat} (h : Fit hv g K) (hk : Yk fs K nx) (hn : nx ≤ 4294967296) {id : Nat} (hid : id < 4294967296) {b : List UInt8} (hb : ∀ k ∈ hv, k.id = id → K id = some [] → ∃ i, b = k.sure ++ k.may.take i) : Fit hv (fset g (ukeyOf id) b) K := fun k hkm => by
 rcases h k hkm with ⟨h1, i, h2⟩ | h1
 ·by_cases e : k.id = id
  ·rw [e] at h1 ⊢
   obtain ⟨i, hi⟩ := hb k hkm e h1
   exact .inl ⟨h1, i, by rw [fset_same, hi]⟩
  ·exact .inl ⟨h1, i, by rw [fset_other _ _ (ukey_ne (hk.lt hn h1) hid e)]; exact h2⟩
 ·exact .inr h1
theorem Fit.new {hv : List Kp} {g : Fn} {K : Ks} {nx : Nat} (h : Fit hv g K) (hi : ∀ k ∈ hv, k.id < nx) (e : List UInt8) : Fit hv g (kset K nx e) := fun k hkm => by
 have hne : k.id ≠ nx := by have := hi k hkm; omega
 have e2 : kset K nx e k.id = K k.id := by unfold kset; rw [if_neg hne]
 rw [e2]
 exact h k hkm
theorem Us.start {T : TM} {g : Fn} {rs : List (List UInt8)} {U N B nx n : Nat} {K : Ks} {L : List Ses} (h : Us T g rs U N B K nx n L) (hn : nx < 4294967295) (hN : N + 3 < 4096) (hR : 4 * (B + 3000) ≤ 1048576) :
  (∃ T2 g2 rs2 K2, startOf T nmT nx abR 5 = ((nx : Int), 0, T2) ∧ Us T2 g2 rs2 U (N + 1) (B + 3000) K2 (nx + 1) (n + 2) (L ++ [⟨(nx : Int), abR, 5, []⟩]) ∧ (∀ f, f ≠ ukeyOf nx → f ≠ nmT → g2 f = g f)) ∨
  (∃ T2, startOf T nmT nx abR 5 = (0, 5, T2) ∧ T2.size ≤ B + 3000 ∧ ∀ (hv : List Kp), Fit hv g K → (∀ k ∈ hv, k.id < nx) → Dn 1048576 (Im hv (nx + 1) (N + 1) (B + 3000)) T2.m (n + 2)) := by
 have hsz := h.size
 have hsum := h.jb.sum
 obtain ⟨ge, gl⟩ := new_enc nx
 have hn1 : 1 ≤ nx := by rcases h.yk.cnt with ⟨_, e⟩ | ⟨_, e⟩ <;> omega
 have hKn : K nx = none := by
  cases hk : K nx with
  | none => rfl
  | some e => have := (h.yk.has nx e hk).2.2.1; omega
 have hfn : fget T.fs (ukeyOf nx) = none := by
  cases hf : fget T.fs (ukeyOf nx) with
  | none => rfl
  | some v =>
   obtain ⟨i, e, h1, h2⟩ := h.yk.keys _ v hf (uk_begins nx)
   have h3 := h.yk.has i e h2
   have := ukey_inj (by omega) (by omega) h1
   rw [← this, hKn] at h2; cases h2
 have hgn : g (ukeyOf nx) = none := by
  cases hg : g (ukeyOf nx) with
  | none => rfl
  | some v =>
   have := h.orph _ (uk_begins nx) (by rw [hg]; rfl)
   rw [hfn] at this; cases this
 have hnd := h.yk.ok.sorted.nodup
 have htl : (tdos T.fs [⟨ukeyOf nx, false, laidOf abR 5 []⟩, ⟨uB, false, putOf (nx + 1) 8⟩]).length ≤ T.fs.length + 2 := by
  have ht : tdos T.fs [⟨ukeyOf nx, false, laidOf abR 5 []⟩, ⟨uB, false, putOf (nx + 1) 8⟩] = fput (fput T.fs (ukeyOf nx) (laidOf abR 5 [])) uB (putOf (nx + 1) 8) := by simp [tdos, tdo]
  rw [ht]
  have h1 := fput_len hnd (ukeyOf nx) (laidOf abR 5 [])
  have h2 := fput_len (hnd.fput (ukeyOf nx) (laidOf abR 5 [])) uB (putOf (nx + 1) 8)
  omega
 have imA : ∀ (hv : List Kp), Fit hv g K → (∀ k ∈ hv, k.id < nx) → Im hv (nx + 1) (N + 1) (B + 3000) g := fun hv f1 i1 => (h.toYd.im f1 (Nat.le_refl _) i1).mono (by omega) (by omega) (by omega)
 have hcase : startOf T nmT nx abR 5 = if (createOf T.m (ukeyOf nx)).1 = 0 then
   (if (tAppOf ⟨(createOf T.m (ukeyOf nx)).2, T.size, T.fs, T.down⟩ nmT [⟨ukeyOf nx, false, laidOf abR 5 []⟩, ⟨uB, false, putOf (nx + 1) 8⟩]).1 = 0 then
    ((nx : Int), 0, (tAppOf ⟨(createOf T.m (ukeyOf nx)).2, T.size, T.fs, T.down⟩ nmT [⟨ukeyOf nx, false, laidOf abR 5 []⟩, ⟨uB, false, putOf (nx + 1) 8⟩]).2)
    else (0, if (removeOf (tAppOf ⟨(createOf T.m (ukeyOf nx)).2, T.size, T.fs, T.down⟩ nmT [⟨ukeyOf nx, false, laidOf abR 5 []⟩, ⟨uB, false, putOf (nx + 1) 8⟩]).2.m (ukeyOf nx)).1 = 0
     then (tAppOf ⟨(createOf T.m (ukeyOf nx)).2, T.size, T.fs, T.down⟩ nmT [⟨ukeyOf nx, false, laidOf abR 5 []⟩, ⟨uB, false, putOf (nx + 1) 8⟩]).1
     else (removeOf (tAppOf ⟨(createOf T.m (ukeyOf nx)).2, T.size, T.fs, T.down⟩ nmT [⟨ukeyOf nx, false, laidOf abR 5 []⟩, ⟨uB, false, putOf (nx + 1) 8⟩]).2.m (ukeyOf nx)).1,
     { (tAppOf ⟨(createOf T.m (ukeyOf nx)).2, T.size, T.fs, T.down⟩ nmT [⟨ukeyOf nx, false, laidOf abR 5 []⟩, ⟨uB, false, putOf (nx + 1) 8⟩]).2 with
      m := (removeOf (tAppOf ⟨(createOf T.m (ukeyOf nx)).2, T.size, T.fs, T.down⟩ nmT [⟨ukeyOf nx, false, laidOf abR 5 []⟩, ⟨uB, false, putOf (nx + 1) 8⟩]).2.m (ukeyOf nx)).2 }))
   else (0, (createOf T.m (ukeyOf nx)).1, ⟨(createOf T.m (ukeyOf nx)).2, T.size, T.fs, T.down⟩) := by
  unfold startOf
  rw [if_pos abR_repo, if_neg (by omega), if_neg (by omega)]
  rfl
 rw [hcase]
 rcases h.up.create (ukey_name nx) hgn h.jb.all.2 (by omega) with ⟨c, hu⟩ | ⟨c, hd⟩
 ·rw [if_pos c]
  have hh1 : Holds (fclr (fclr (fset g (ukeyOf nx) []) tmpT) nmT) U (N + 1) := by
   rw [set_tmps (uk_nmT nx) (uk_tmpT nx)]
   have hh := Holds.set (g := fclr (fclr g tmpT) nmT) (n := ukeyOf nx) (U := U) (K := N) (h.jb.holds.clr _) []
   simpa using hh
  have hyf1 : Yf (fset g (ukeyOf nx) []) K := h.yf.put h.yk (by omega) (by omega) (.inl hKn) []
  have y1 : Yd ⟨(createOf T.m (ukeyOf nx)).2, T.size, T.fs, T.down⟩ (fset g (ukeyOf nx) []) rs U (N + 1) (B + 3000) K nx :=
   ⟨h.on, hsz, h.jb.other (fset_other _ _ (Ne.symm (uk_nmT nx))) (fset_other _ _ (Ne.symm (uk_tmpT nx))) hh1 (by omega) (by omega), by rw [fset_other _ _ (Ne.symm (uk_nmT nx))]; exact h.jrn, h.yk, hyf1⟩
  have hfit1 : ∀ hv, Fit hv g K → (∀ k ∈ hv, k.id < nx) → Fit hv (fset g (ukeyOf nx) []) K := fun hv f1 i1 => f1.put h.yk (by omega) (by omega) (fun k hk e _ => by have := i1 k hk; omega)
  have yfn : ∀ x : Fn, (∀ n, n ≠ nmT → n ≠ tmpT → x n = fset g (ukeyOf nx) [] n) → Yf x (kset K nx []) := fun x hx => by
   have h1 := hyf1.same hx
   refine ⟨fun i hi => ?_, fun i e he hl c hc => ?_, h1.blob, h1.tmp⟩
   ·by_cases e : i = nx
    ·rw [e]
     exact ⟨[], by rw [hx _ (uk_nmT nx) (uk_tmpT nx), fset_same]⟩
    ·unfold kset at hi
     rw [if_neg e] at hi
     exact h1.open_ i hi
   ·unfold kset at he
    split at he
    ·cases he; simp at hl
    ·exact h1.fin i e he hl c hc
  rcases y1.rec_ hu ge (Nat.le_refl _) (by omega) (by dsimp only; omega) hR (h.yk.new (by omega)) yfn with ⟨m', s', e, h2⟩ | ⟨m', s', e, es, hd2⟩
  ·rw [e]
   refine .inl ⟨_, _, _, _, if_pos rfl, ⟨h2, fun x hx => ?_, fun id e hk => ?_, ?_, fun f hf hs => ?_⟩, fun f h1 h2 => by rw [fset_other _ _ h2, fset_other _ _ h1]⟩
   ·rcases List.mem_append.1 hx with hx | hx
    ·obtain ⟨id, q1, q2, q3, q4, q5⟩ := h.live x hx
     have hlt := (h.yk.has id _ q2).2.2.1
     have hne : id ≠ nx := by omega
     refine ⟨id, q1, ?_, ?_, q4, q5⟩
     ·unfold kset; rw [if_neg hne]; exact q2
     ·rw [fset_other _ _ (uk_nmT id), fset_other _ _ (ukey_ne (by omega) (by omega) hne)]; exact q3
    ·rw [List.mem_singleton.1 hx]
     exact ⟨nx, rfl, by simp [kset], by rw [fset_other _ _ (uk_nmT nx), fset_same], rfl, rfl⟩
   ·unfold kset at hk
    by_cases e2 : id = nx
    ·exact ⟨⟨(nx : Int), abR, 5, []⟩, by simp, by rw [e2]⟩
    ·rw [if_neg e2] at hk
     obtain ⟨x, hx, hi⟩ := h.all id e hk
     exact ⟨x, List.mem_append_left _ hx, hi⟩
   ·rw [List.map_append, List.nodup_append]
    refine ⟨h.ids, by simp, fun a ha b hb => ?_⟩
    obtain ⟨x, hx, rfl⟩ := List.mem_map.1 ha
    obtain ⟨id, q1, q2, -⟩ := h.live x hx
    have hlt := (h.yk.has id _ q2).2.2.1
    simp at hb
    rw [hb, q1]; omega
   ·have hyk := h2.yk
    by_cases e1 : f = ukeyOf nx
    ·rw [e1, (hyk.has nx [] (by simp [kset])).1]; rfl
    ·have hne : f ≠ nmT := fun e => by rw [e] at hf; revert hf; decide +kernel
     rw [fset_other _ _ hne, fset_other _ _ e1] at hs
     have h3 := h.orph f hf hs
     obtain ⟨v, hv⟩ := Option.isSome_iff_exists.1 h3
     obtain ⟨i, e2, q1, q2⟩ := h.yk.keys f v hv hf
     rw [q1, (hyk.has i e2 (by unfold kset; rw [if_neg (fun e3 => e1 (by rw [q1, e3]))]; exact q2)).1]; rfl
  ·rw [e]
   refine .inr ⟨⟨m', s', T.fs, true⟩, ?_, es, fun hv f1 i1 => ?_⟩
   ·have hdn : m'.down = true := (hd2 [] (nx + 1) (fun x hx => by
     rcases hx with rfl | rfl
     ·exact imA [] (fun k hk => by simp at hk) (fun k hk => by simp at hk)
     ·exact (y1.im (hv := []) (fun k hk => by simp at hk) (Nat.le_refl _) (fun k hk => by simp at hk)).mono (by omega) (Nat.le_refl _) (Nat.le_refl _)) (fun k hk => by simp at hk) (fun k hk => by simp at hk) (by omega) (Nat.le_refl _) (fun k hk => by simp at hk) (fun k hk => by simp at hk)).down
    rw [if_neg (show ¬ ((5 : Int) = 0) by omega), remove_down hdn, if_neg (show ¬ ((5 : Int) = 0) by omega)]
   ·exact hd2 hv (nx + 1) (fun x hx => by
     rcases hx with rfl | rfl
     ·exact imA hv f1 i1
     ·exact (y1.im (hfit1 hv f1 i1) (Nat.le_refl _) i1).mono (by omega) (Nat.le_refl _) (Nat.le_refl _)) (hfit1 hv f1 i1) ((hfit1 hv f1 i1).new i1 []) (by omega) (Nat.le_refl _) i1 (fun k hk => by have := i1 k hk; omega)
 ·rw [if_neg (by rw [c]; omega), c]
  exact .inr ⟨_, rfl, by show T.size ≤ _; omega, fun hv f1 i1 => hd.mono (fun x hx => by rw [hx]; exact imA hv f1 i1) (by omega)⟩
theorem nodup_ids {L1 L2 : List Ses} {x : Ses} (h : ((L1 ++ x :: L2).map (·.id)).Nodup) : (∀ y ∈ L1 ++ L2, y.id ≠ x.id) ∧ ((L1 ++ L2).map (·.id)).Nodup := by
 rw [List.map_append, List.map_cons] at h
 have h2 := (List.perm_middle (l₁ := L1.map (·.id)) (a := x.id) (l₂ := L2.map (·.id))).nodup_iff.1 h
 rw [List.nodup_cons] at h2
 rw [← List.map_append] at h2
 exact ⟨fun y hy e => h2.1 (List.mem_map.2 ⟨y, hy, e⟩), h2.2⟩
theorem Us.patch {T : TM} {g : Fn} {rs : List (List UInt8)} {U N B nx n : Nat} {K : Ks} {L1 L2 : List Ses} {x : Ses} (h : Us T g rs U N B K nx n (L1 ++ x :: L2)) (hn : nx ≤ 4294967296) (hR : 4 * (B + 3000) ≤ 1048576) {id : Nat} (hid : x.id = (id : Int)) {p : List UInt8} (hp : p.length ≤ 2000) (hxb : x.b.length + p.length ≤ 1048576) :
  (∃ T2 g2 U2, patchOf T (ukeyOf id) x (x.b.length : Int) p = (0, T2, { x with b := x.b ++ p }) ∧ Us T2 g2 rs U2 N (B + 3000) K nx (n + 1) (L1 ++ { x with b := x.b ++ p } :: L2) ∧ (∀ f, f ≠ ukeyOf id → f ≠ nmT → g2 f = g f)) ∨
  (∃ T2, patchOf T (ukeyOf id) x (x.b.length : Int) p = (5, T2, x) ∧ T2.size ≤ B + 3000 ∧ ∀ (hv : List Kp), Fit hv g K → (∀ k ∈ hv, k.id < nx) → (∀ k ∈ hv, k.id = id → ∀ i, ∃ i', x.b ++ p.take i = k.sure ++ k.may.take i') → Dn 1048576 (Im hv nx N (B + 3000)) T2.m (n + 1)) := by
 have hsz := h.size
 have hsum := h.jb.sum
 obtain ⟨id2, q1, q2, q3, q4, q5⟩ := h.live x (by simp)
 have e12 : id2 = id := by rw [q1] at hid; omega
 rw [e12] at q2 q3
 have hlt := h.yk.lt hn q2
 have hcase : patchOf T (ukeyOf id) x (x.b.length : Int) p = if (appendOf T.m (ukeyOf id) p).1 = 0 then
   (if (syncOf (appendOf T.m (ukeyOf id) p).2).1 = 0 then (0, { T with m := (syncOf (appendOf T.m (ukeyOf id) p).2).2 }, { x with b := x.b ++ p })
    else ((syncOf (appendOf T.m (ukeyOf id) p).2).1, { T with m := (syncOf (appendOf T.m (ukeyOf id) p).2).2 }, x))
   else ((appendOf T.m (ukeyOf id) p).1, { T with m := (appendOf T.m (ukeyOf id) p).2 }, x) := by
  unfold patchOf
  rw [if_pos rfl, if_neg (by omega)]
 rw [hcase]
 have facts : ∀ q : List UInt8, q.length ≤ 2000 → Yd { T with m := T.m } (fset g (ukeyOf id) (x.b ++ q)) rs (U + q.length) N (B + 3000) K nx := fun q hq => by
  refine ⟨h.on, hsz, h.jb.other (fset_other _ _ (Ne.symm (uk_nmT id))) (fset_other _ _ (Ne.symm (uk_tmpT id))) ?_ (by omega) (by omega), ?_, h.yk, h.yf.put h.yk hn hlt (.inr q2) _⟩
  ·rw [set_tmps (uk_nmT id) (uk_tmpT id)]
   exact h.jb.holds.append (by rw [fclr_other _ (uk_nmT id), fclr_other _ (uk_tmpT id)]; exact q3) q
  ·rw [fset_other _ _ (Ne.symm (uk_nmT id))]; exact h.jrn
 have im1 : ∀ (hv : List Kp), Fit hv g K → (∀ k ∈ hv, k.id < nx) → (∀ k ∈ hv, k.id = id → ∀ i, ∃ i', x.b ++ p.take i = k.sure ++ k.may.take i') → ∀ y : Fn, (y = g ∨ ∃ i, y = fset g (ukeyOf id) (x.b ++ p.take i)) → Im hv nx N (B + 3000) y := fun hv f1 i1 hb y hy => by
  rcases hy with rfl | ⟨i, rfl⟩
  ·exact (h.toYd.im f1 (Nat.le_refl _) i1).mono (Nat.le_refl _) (Nat.le_refl _) (by omega)
  ·exact (facts (p.take i) (by have := List.length_take_le' i p; omega)).im (f1.put h.yk hn hlt (fun k hk e _ => hb k hk e i)) (Nat.le_refl _) i1
 rcases h.up.append q3 p (by omega) h.jb.all.2 (by omega) with ⟨c, hu⟩ | ⟨c, hd⟩
 ·rw [if_pos c]
  rcases hu.sync with ⟨c2, hu2⟩ | ⟨c2, hd2⟩
  ·rw [if_pos c2]
   obtain ⟨f1, f2, f3, f4, f5, f6⟩ := facts p hp
   obtain ⟨n1, n2⟩ := nodup_ids h.ids
   refine .inl ⟨_, _, _, rfl, ⟨⟨⟨f1, f2, f3, f4, f5, f6⟩, hu2⟩, fun y hy => ?_, fun i e hk => ?_, ?_, fun f hf hs => ?_⟩, fun f h1 _ => fset_other _ _ h1⟩
   ·have hy2 : y = { x with b := x.b ++ p } ∨ y ∈ L1 ++ L2 := by
     rcases List.mem_append.1 hy with hy | hy
     ·exact .inr (List.mem_append_left _ hy)
     ·rcases List.mem_cons.1 hy with hy | hy
      ·exact .inl hy
      ·exact .inr (List.mem_append_right _ hy)
    rcases hy2 with rfl | hy2
    ·exact ⟨id, hid, q2, fset_same _ _ _, q4, q5⟩
    ·obtain ⟨i, r1, r2, r3, r4, r5⟩ := h.live y (by
      rcases List.mem_append.1 hy2 with hy2 | hy2
      ·exact List.mem_append_left _ hy2
      ·exact List.mem_append_right _ (List.mem_cons_of_mem _ hy2))
     have hne : i ≠ id := fun e => n1 y hy2 (by rw [r1, hid, e])
     exact ⟨i, r1, r2, by rw [fset_other _ _ (ukey_ne (h.yk.lt hn r2) hlt hne)]; exact r3, r4, r5⟩
   ·obtain ⟨y, hy, hi⟩ := h.all i e hk
    rcases List.mem_append.1 hy with hy | hy
    ·exact ⟨y, List.mem_append_left _ hy, hi⟩
    ·rcases List.mem_cons.1 hy with rfl | hy
     ·exact ⟨_, List.mem_append_right _ (List.mem_cons_self ..), hi⟩
     ·exact ⟨y, List.mem_append_right _ (List.mem_cons_of_mem _ hy), hi⟩
   ·have e : (L1 ++ { x with b := x.b ++ p } :: L2).map (·.id) = (L1 ++ x :: L2).map (·.id) := by simp
    rw [e]; exact h.ids
   ·by_cases e : f = ukeyOf id
    ·rw [e]
     show (fget T.fs (ukeyOf id)).isSome = true
     rw [(h.yk.has id _ q2).1]; rfl
    ·rw [fset_other _ _ e] at hs
     exact h.orph f hf hs
  ·rw [if_neg (by rw [c2]; omega), c2]
   exact .inr ⟨_, rfl, by show T.size ≤ _; omega, fun hv f1 i1 hb => hd2.mono (im1 hv f1 i1 hb) (Nat.le_refl _)⟩
 ·rw [if_neg (by rw [c]; omega), c]
  exact .inr ⟨_, rfl, by show T.size ≤ _; omega, fun hv f1 i1 hb => hd.mono (fun y hy => im1 hv f1 i1 hb y (.inl hy)) (Nat.le_refl _)⟩
theorem Us.less {T T2 : TM} {g g2 : Fn} {rs rs2 : List (List UInt8)} {U N B U2 N2 B2 nx n n2 : Nat} {K : Ks} {L1 L2 : List Ses} {x : Ses} (h : Us T g rs U N B K nx n (L1 ++ x :: L2)) (hn : nx ≤ 4294967296) {id : Nat} (hid : x.id = (id : Int)) (h2 : UpY T2 g2 rs2 U2 N2 B2 (kclr K id) nx n2) (hg : ∀ i, i < 4294967296 → i ≠ id → g2 (ukeyOf i) = g (ukeyOf i)) (ho : ∀ f, beginsB f hdU = true → f ≠ ukeyOf id → (g2 f).isSome = true → (g f).isSome = true)
  (hi : g2 (ukeyOf id) = none) (hfs : ∀ f, f ≠ ukeyOf id → fget T2.fs f = fget T.fs f) : Us T2 g2 rs2 U2 N2 B2 (kclr K id) nx n2 (L1 ++ L2) := by
 obtain ⟨n1, n2⟩ := nodup_ids h.ids
 refine ⟨h2, fun y hy => ?_, fun i e hk => ?_, n2, fun f hf hs => ?_⟩
 ·obtain ⟨i, r1, r2, r3, r4, r5⟩ := h.live y (by
   rcases List.mem_append.1 hy with hy2 | hy2
   ·exact List.mem_append_left _ hy2
   ·exact List.mem_append_right _ (List.mem_cons_of_mem _ hy2))
  have hne : i ≠ id := fun e => n1 y hy (by rw [r1, hid, e])
  exact ⟨i, r1, by unfold kclr; rw [if_neg hne]; exact r2, by rw [hg i (h.yk.lt hn r2) hne]; exact r3, r4, r5⟩
 ·unfold kclr at hk
  by_cases e2 : i = id
  ·rw [if_pos e2] at hk; cases hk
  ·rw [if_neg e2] at hk
   obtain ⟨y, hy, hi⟩ := h.all i e hk
   rcases List.mem_append.1 hy with hy | hy
   ·exact ⟨y, List.mem_append_left _ hy, hi⟩
   ·rcases List.mem_cons.1 hy with rfl | hy
    ·exact absurd (by rw [hid] at hi; omega) e2
    ·exact ⟨y, List.mem_append_right _ hy, hi⟩
 ·by_cases e : f = ukeyOf id
  ·rw [e, hi] at hs; cases hs
  ·rw [hfs f e]
   exact h.orph f hf (ho f hf e hs)
theorem file_begins (d : List UInt8) : beginsB (fileOf d) hdU = false := by
 have h2 : (fileOf d).extract 0 hdU.size = ⟨#[98, 47]⟩ := by
  unfold fileOf
  exact ByteArray.extract_append_eq_left rfl
 unfold beginsB
 rw [h2]
 have : ((⟨#[98, 47]⟩ : ByteArray).toList == hdU.toList) = false := by decide +kernel
 rw [this, Bool.and_false]
theorem Us.finish {T : TM} {g : Fn} {rs : List (List UInt8)} {U N B nx n : Nat} {K : Ks} {L1 L2 : List Ses} {x : Ses} (h : Us T g rs U N B K nx n (L1 ++ x :: L2)) (hn : nx ≤ 4294967296) (hN : N + 2 < 4096) (hR : 4 * (B + 3000) ≤ 1048576) {id : Nat} (hid : x.id = (id : Int)) :
  (∃ T2 g2 rs2, finishOf T nmT (ukeyOf id) x (sumOf x.b) = (0, T2, true) ∧ Us T2 g2 rs2 U N (B + 3000) (kclr K id) nx (n + 3) (L1 ++ L2) ∧ wholeOf T2.m (sumOf x.b) = true ∧ (∀ i, i < 4294967296 → i ≠ id → g2 (ukeyOf i) = g (ukeyOf i))) ∨
  (∃ T2 gone, finishOf T nmT (ukeyOf id) x (sumOf x.b) = (5, T2, gone) ∧ T2.size ≤ B + 3000 ∧ ∀ (hv : List Kp), Fit hv g K → (∀ k ∈ hv, k.id < nx) → (∀ k ∈ hv, k.id = id → k.ends = true) → Dn 1048576 (Im hv nx N (B + 3000)) T2.m (n + 3)) := by
 have hsz := h.size
 have hsum := h.jb.sum
 have hdl : (sumOf x.b).length = 32 := sumOf_length _
 obtain ⟨id2, q1, q2, q3, q4, q5⟩ := h.live x (by simp)
 have e12 : id2 = id := by rw [q1] at hid; omega
 rw [e12] at q2 q3
 have hlt := h.yk.lt hn q2
 have hnd := h.yk.ok.sorted.nodup
 obtain ⟨ge, gl⟩ := end_enc id (e := sumOf x.b) (.inr hdl)
 have ht : tdos T.fs [⟨ukeyOf id, false, laidOf abR 5 (sumOf x.b)⟩] = fput T.fs (ukeyOf id) (laidOf abR 5 (sumOf x.b)) := by simp [tdos, tdo]
 have htl : (tdos T.fs [⟨ukeyOf id, false, laidOf abR 5 (sumOf x.b)⟩]).length = T.fs.length := by
  rw [ht]; exact fput_same_len hnd (h.yk.has id _ q2).1 _
 have hcase : finishOf T nmT (ukeyOf id) x (sumOf x.b) = if (tAppOf T nmT [⟨ukeyOf id, false, laidOf abR 5 (sumOf x.b)⟩]).1 = 0 then
   ((closeOf (tAppOf T nmT [⟨ukeyOf id, false, laidOf abR 5 (sumOf x.b)⟩]).2 nmT (ukeyOf id) (sumOf x.b)).1, (closeOf (tAppOf T nmT [⟨ukeyOf id, false, laidOf abR 5 (sumOf x.b)⟩]).2 nmT (ukeyOf id) (sumOf x.b)).2, true)
   else ((tAppOf T nmT [⟨ukeyOf id, false, laidOf abR 5 (sumOf x.b)⟩]).1, (tAppOf T nmT [⟨ukeyOf id, false, laidOf abR 5 (sumOf x.b)⟩]).2, false) := by
  unfold finishOf
  rw [if_pos rfl, q4, q5]
  rfl
 rw [hcase]
 have hfitS : ∀ (hv : List Kp) (g' : Fn), Fit hv g' K → (∀ k ∈ hv, k.id = id → k.ends = true) → Fit hv g' (kset K id (sumOf x.b)) := fun hv g' f1 he k hk => by
  by_cases e : k.id = id
  ·refine .inr ⟨he k hk e, ?_⟩
   unfold kset
   rw [if_pos e]
   intro e2
   have := congrArg (fun o : Option (List UInt8) => (o.getD []).length) e2
   simp [hdl] at this
  ·have e2 : kset K id (sumOf x.b) k.id = K k.id := by unfold kset; rw [if_neg e]
   rw [e2]; exact f1 k hk
 have hyf : ∀ y : Fn, (∀ n, n ≠ nmT → n ≠ tmpT → y n = g n) → Yf y (kset K id (sumOf x.b)) := fun y hy =>
  (h.yf.same hy).set id hdl (fun c hc => by
   rw [hy _ (uk_nmT id) (uk_tmpT id), q3] at hc
   rw [Option.some.inj hc])
 rcases h.toYd.rec_ h.up ge (show B ≤ B + 3000 by omega) (by omega) (by rw [htl]; omega) hR (h.yk.set hn q2 (.inr hdl)) hyf with ⟨m', s', e, h1⟩ | ⟨m', s', e, es, hd⟩
 ·rw [e, if_pos rfl]
  have hk1 : kset K id (sumOf x.b) id = some (sumOf x.b) := by simp [kset]
  have hkk : kclr (kset K id (sumOf x.b)) id = kclr K id := by
   funext i; unfold kclr kset; split <;> rfl
  rcases h1.close hn hk1 hdl hN (by omega) with ⟨T2, g2, rs2, e2, h2, hf2, hb2, hi2, hfs2, ho2⟩ | ⟨T2, e2, es2, hd2⟩
  ·rw [e2]
   rw [hkk] at h2
   obtain ⟨c', hc'⟩ := hb2 x.b (by rw [fset_other _ _ (uk_nmT id)]; exact q3)
   have hgo : ∀ f, f ≠ ukeyOf id → f ≠ fileOf (sumOf x.b) → f ≠ nmT → g2 f = g f := fun f f1 f2 f3 => by rw [ho2 f f1 f2 f3, fset_other _ _ f3]
   refine .inl ⟨_, g2, rs2, rfl, h.less hn hid (h2.mono (Nat.le_refl _) (Nat.le_refl _) (by omega)) (fun i hi hne => hgo _ (ukey_ne hi hlt hne) (uk_file i hdl) (uk_nmT i)) (fun f hf f1 hs => ?_) hi2 (fun f f1 => ?_), ?_, fun i hi hne => hgo _ (ukey_ne hi hlt hne) (uk_file i hdl) (uk_nmT i)⟩
   ·rw [hgo f f1 (fun e => by rw [e, file_begins] at hf; cases hf) (fun e => by rw [e] at hf; revert hf; decide +kernel)] at hs
    exact hs
   ·rw [hfs2, fget_fdel_other _ _ _ (Ne.symm f1), ht, fget_fput_other hnd _ _ _ (Ne.symm f1)]
   ·unfold wholeOf
    have h3 : contOf T2.m (fileOf (sumOf x.b)) = c' := by unfold contOf; rw [h2.up.now, hc']; rfl
    rw [h2.up.there, hc', h3, h2.yf.blob _ _ hdl hc']
    simp
  ·rw [e2]
   refine .inr ⟨_, _, rfl, es2, fun hv f1 i1 he => (hd2 hv nx ((hfitS hv _ (f1.same fset_nmT) he)) (Nat.le_refl _) i1).mono (fun _ h => h) (by omega)⟩
 ·rw [e, if_neg (show ¬ (5 : Int) = 0 by omega)]
  exact .inr ⟨_, _, rfl, es, fun hv f1 i1 he => (hd hv nx (fun y hy => by rw [hy]; exact (h.toYd.im f1 (Nat.le_refl _) i1).mono (Nat.le_refl _) (Nat.le_refl _) (by omega)) f1 (hfitS hv g f1 he) (Nat.le_refl _) (Nat.le_refl _) i1 i1).mono (fun _ h => h) (by omega)⟩
theorem Us.cancel {T : TM} {g : Fn} {rs : List (List UInt8)} {U N B nx n : Nat} {K : Ks} {L1 L2 : List Ses} {x : Ses} (h : Us T g rs U N B K nx n (L1 ++ x :: L2)) (hn : nx ≤ 4294967296) (hR : 4 * (B + 3000) ≤ 1048576) {id : Nat} (hid : x.id = (id : Int)) :
  (∃ T2 g2 rs2, cancelOf T nmT (ukeyOf id) = (0, T2, true) ∧ Us T2 g2 rs2 U N (B + 3000) (kclr K id) nx (n + 2) (L1 ++ L2) ∧ (∀ i, i < 4294967296 → i ≠ id → g2 (ukeyOf i) = g (ukeyOf i))) ∨
  (∃ T2 gone, cancelOf T nmT (ukeyOf id) = (5, T2, gone) ∧ T2.size ≤ B + 3000 ∧ ∀ (hv : List Kp), Fit hv g K → (∀ k ∈ hv, k.id < nx) → (∀ k ∈ hv, k.id = id → k.ends = true) → Dn 1048576 (Im hv nx N (B + 3000)) T2.m (n + 2)) := by
 have hsz := h.size
 have hsum := h.jb.sum
 obtain ⟨id2, q1, q2, q3, q4, q5⟩ := h.live x (by simp)
 have e12 : id2 = id := by rw [q1] at hid; omega
 rw [e12] at q2 q3
 have hlt := h.yk.lt hn q2
 have hnd := h.yk.ok.sorted.nodup
 obtain ⟨ge, gl⟩ := gone_enc id
 have hfl := fdel_short hnd (h.yk.has id _ q2).1
 have ht : tdos T.fs [⟨ukeyOf id, true, []⟩] = fdel T.fs (ukeyOf id) := by simp [tdos, tdo]
 have hfitC : ∀ (hv : List Kp) (g' : Fn), Fit hv g' K → (∀ k ∈ hv, k.id = id → k.ends = true) → Fit hv g' (kclr K id) := fun hv g' f1 he k hk => by
  by_cases e : k.id = id
  ·refine .inr ⟨he k hk e, ?_⟩
   unfold kclr
   rw [if_pos e]
   simp
  ·have e2 : kclr K id k.id = K k.id := by unfold kclr; rw [if_neg e]
   rw [e2]; exact f1 k hk
 rcases h.toYd.rec_ h.up ge (show B ≤ B + 3000 by omega) (by omega) (by rw [ht]; omega) hR (h.yk.del hn q2) (fun y hy => (h.yf.same hy).clr id) with ⟨m', s', e, h1⟩ | ⟨m', s', e, es, hd⟩
 ·obtain ⟨rs1, hrs1⟩ : ∃ r, r = rs ++ [(encOf [⟨ukeyOf id, true, []⟩]).2] := ⟨_, rfl⟩
  rw [← hrs1] at h1
  obtain ⟨g1, hg1⟩ : ∃ g1, g1 = fset g nmT (framesOf rs1) := ⟨_, rfl⟩
  rw [← hg1] at h1
  have hgi : g1 (ukeyOf id) = some x.b := by rw [hg1, fset_other _ _ (uk_nmT id)]; exact q3
  have hg1s : ∀ n, n ≠ nmT → n ≠ tmpT → g1 n = g n := fun n a b => by rw [hg1]; exact fset_nmT n a b
  have hfn : fget (tdos T.fs [⟨ukeyOf id, true, []⟩]) (ukeyOf id) = none := by rw [ht]; exact fget_fdel_same _ _
  have yf2 := h1.yf.orphan h1.yk (uk_begins id) hfn
  have hh : Holds (fclr (fclr (fclr g1 (ukeyOf id)) tmpT) nmT) U N := by
   rw [clr_tmps]
   exact h1.jb.holds.clr _
  have y2 : Yd ⟨m', s', tdos T.fs [⟨ukeyOf id, true, []⟩], false⟩ (fclr g1 (ukeyOf id)) rs1 U N (B + 3000) (kclr K id) nx :=
   ⟨rfl, h1.size, h1.jb.other (fclr_other _ (Ne.symm (uk_nmT id))) (fclr_other _ (Ne.symm (uk_tmpT id))) hh (Nat.le_refl _) h1.jb.sum, by rw [fclr_other _ (Ne.symm (uk_nmT id))]; exact h1.jrn, h1.yk, yf2⟩
  have im2 : ∀ (hv : List Kp), Fit hv g K → (∀ k ∈ hv, k.id < nx) → (∀ k ∈ hv, k.id = id → k.ends = true) → ∀ y : Fn, (y = g1 ∨ y = fclr g1 (ukeyOf id)) → Im hv nx N (B + 3000) y := fun hv f1 i1 he y hy => by
   have f2 : Fit hv g1 (kclr K id) := (hfitC hv g f1 he).same hg1s
   rcases hy with rfl | rfl
   ·exact h1.toYd.im f2 (Nat.le_refl _) i1
   ·exact y2.im (f2.orphan h1.yk hfn) (Nat.le_refl _) i1
  have hcase : cancelOf T nmT (ukeyOf id) = if (removeOf m' (ukeyOf id)).1 = 0 then
    ((syncOf (removeOf m' (ukeyOf id)).2).1, ⟨(syncOf (removeOf m' (ukeyOf id)).2).2, s', tdos T.fs [⟨ukeyOf id, true, []⟩], false⟩, true)
    else ((removeOf m' (ukeyOf id)).1, ⟨(removeOf m' (ukeyOf id)).2, s', tdos T.fs [⟨ukeyOf id, true, []⟩], false⟩, true) := by
   unfold cancelOf
   rw [e, if_pos rfl]
  rw [hcase]
  rcases h1.up.remove hgi with ⟨c, hu⟩ | ⟨c, hd⟩
  ·rw [if_pos c]
   rcases hu.sync with ⟨c2, hu2⟩ | ⟨c2, hd2⟩
   ·rw [c2]
    have y3 : UpY ⟨(syncOf (removeOf m' (ukeyOf id)).2).2, s', tdos T.fs [⟨ukeyOf id, true, []⟩], false⟩ (fclr g1 (ukeyOf id)) rs1 U N (B + 3000) (kclr K id) nx (n + 2) :=
     ⟨⟨y2.on, y2.size, y2.jb, y2.jrn, y2.yk, y2.yf⟩, hu2⟩
    have hgo : ∀ f, f ≠ ukeyOf id → f ≠ nmT → f ≠ tmpT → fclr g1 (ukeyOf id) f = g f := fun f a b c => by rw [fclr_other _ a]; exact hg1s f b c
    refine .inl ⟨_, _, _, rfl, h.less hn hid y3 (fun i hi hne => hgo _ (ukey_ne hi hlt hne) (uk_nmT i) (uk_tmpT i)) (fun f hf a hs => ?_) (fclr_same _ _) (fun f a => ?_), fun i hi hne => hgo _ (ukey_ne hi hlt hne) (uk_nmT i) (uk_tmpT i)⟩
    ·rw [hgo f a (fun e => by rw [e] at hf; revert hf; decide +kernel) (fun e => by rw [e] at hf; revert hf; decide +kernel)] at hs
     exact hs
    ·show fget (tdos T.fs [⟨ukeyOf id, true, []⟩]) f = _
     rw [ht]
     exact fget_fdel_other _ _ _ (Ne.symm a)
   ·rw [c2]
    exact .inr ⟨_, _, rfl, by show s' ≤ _; have := h1.size; have h9 := h1.jb.sum; dsimp only at this; omega, fun hv f1 i1 he => hd2.mono (im2 hv f1 i1 he) (by omega)⟩
  ·rw [if_neg (by rw [c]; omega), c]
   exact .inr ⟨_, _, rfl, by show s' ≤ _; have := h1.size; have h9 := h1.jb.sum; dsimp only at this; omega, fun hv f1 i1 he => hd.mono (fun y hy => im2 hv f1 i1 he y (.inl hy)) (by omega)⟩
 ·have hcase : cancelOf T nmT (ukeyOf id) = (5, ⟨m', s', T.fs, true⟩, false) := by
   unfold cancelOf
   rw [e, if_neg (show ¬ (5 : Int) = 0 by omega)]
  rw [hcase]
  exact .inr ⟨_, _, rfl, es, fun hv f1 i1 he => (hd hv nx (fun y hy => by rw [hy]; exact (h.toYd.im f1 (Nat.le_refl _) i1).mono (Nat.le_refl _) (Nat.le_refl _) (by omega)) f1 (hfitC hv g f1 he) (Nat.le_refl _) (Nat.le_refl _) i1 i1).mono (fun _ h => h) (by omega)⟩
end Go.Proofs.YtlcnhpjggjgnpaaGreatDoor
