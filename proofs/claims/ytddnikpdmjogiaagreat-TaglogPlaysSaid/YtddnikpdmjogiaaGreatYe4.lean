/- A part of the proof. -/
import Derived.Test.YtddnikpdmjogiaaGreatYc5
import Derived.Test.YtddnikpdmjogiaaGreatYc6
import Derived.Test.YtddnikpdmjogiaaGreatYd8
import Derived.Test.YtddnikpdmjogiaaGreatYe0
import Derived.Test.YtddnikpdmjogiaaGreatYe1
import Derived.Test.YtddnikpdmjogiaaGreatYe2
import Derived.Test.YtddnikpdmjogiaaGreatYe3
namespace Go.Proofs.YtddnikpdmjogiaaGreat
set_option linter.unusedVariables false
open Go.RowKit Go.MapKept
theorem tapp_pairC {m : DM} {recs : List (List UInt8)} {fs : FS} {i : Nat} (h : TI m recs fs i) (nm : ByteArray) (dn : Bool) {l : List TCh} (hs : (encOf l).1 = 0 → wtCh l ≤ 40000) :
  ∃ c m' recs' fs' dn', tAppOf ⟨m, (framesOf recs).length, fs, dn⟩ nm l = (c, ⟨m', (framesOf recs').length, fs', dn'⟩) ∧ rtAppOf m nm recs fs dn l = (c, m', recs', fs', dn') ∧ TI m' recs' fs' (i + 1) := by
 by_cases he : (encOf l).1 = 0
 ·exact tapp_pair h nm dn (hs he)
 ·unfold tAppOf rtAppOf
  dsimp only
  by_cases hd : dn = true
  ·rw [if_pos hd, if_pos hd]
   exact ⟨_, _, _, _, _, rfl, rfl, h.next⟩
  rw [if_neg hd, if_neg hd, if_neg he, if_neg he]
  exact ⟨_, _, _, _, _, rfl, rfl, h.next⟩
def rHeldP (B : Nat) (v : Value) (ps : List Value) (cs : List TCh) : Res B :=
 ⟨fun F w => Rel2 (fun p (c : TCh) => Owns w 0 p c.val ∧ ∀ b, p.ownBlock = some b → F b) ps cs ∧ w.ownsRow 0 112 3 v cs.length (tchCells ps cs) ∧ ∀ b, v.ownBlock = some b → F b,
  fun _ _ _ h hk => ⟨h.1.mono (fun p c hp => ⟨rrow_keep hp.1 (fun b hb => hk b (.inl (hp.2 b hb))), hp.2⟩), rrow_keep h.2.1 (fun b hb => hk b (.inl (h.2.2 b hb))), h.2.2⟩⟩
theorem rel2_snoc {α β : Type} {R : α → β → Prop} : ∀ {ps : List α} {cs : List β} {p : α} {c : β}, Rel2 R ps cs → R p c → Rel2 R (ps ++ [p]) (cs ++ [c])
 | [], [], _, _, _, h => ⟨h, trivial⟩
 | x :: ps, y :: cs, _, _, h, hp => ⟨h.1, rel2_snoc h.2 hp⟩
 | [], _ :: _, _, _, h, _ => h.elim
 | _ :: _, [], _, _, h, _ => h.elim
section
variable {w wr : World} {rs : List (Res w.heap.size)} {v : Value} {ps : List Value} {cs : List TCh}
theorem Own.addHeldP {w' : World} (h : Own w wr rs) (ho : TChsAt 112 wr.heap.size w' v cs) (hk : Keeps (fun _ => False) wr w') : ∃ ps, Own w w' (rHeldP w.heap.size v ps cs :: rs) := by
 obtain ⟨ps, h1, h2, h3⟩ := ho
 refine ⟨ps, h.add hk (r := rHeldP w.heap.size v ps cs) (G := fun b => wr.heap.size ≤ b ∧ b < w'.heap.size) ⟨h1.mono (fun p c hp => ⟨ownsRow_base hp, fun b hb => ⟨(owns_lt hp b hb).2, (owns_lt hp b hb).1⟩⟩), ownsRow_base h2, fun b hb => ⟨(h2.lt b hb).1, (h2.lt b hb).2⟩⟩ (fun b hb => hb)⟩
theorem Own.heldP (h : Own w wr rs) (hm : rHeldP w.heap.size v ps cs ∈ rs) : Rel2 (fun p (c : TCh) => Reads wr p c.val) ps cs ∧ wr.ownsRow 0 112 3 v cs.length (tchCells ps cs) := by
 obtain ⟨F, ⟨h1, h2, h3⟩, _⟩ := h.mem hm
 exact ⟨h1.mono (fun p c hp => hp.1.bytes.reads), h2⟩
theorem rows_in {a : Option Addr} {n c : Nat} (h2 : wr.ownsRow 0 112 3 (.slice a n c) cs.length (tchCells ps cs)) (h1 : Rel2 (fun p (c : TCh) => Reads wr p c.val) ps cs) : TChsIn wr a cs := fun i ch hc => by
 obtain ⟨p, hp, ho⟩ := h1.get' hc
 have hcl := tchCells_get i hp hc
 rcases h2.2 with ⟨e, e2⟩ | ⟨g, cap, cur, e, _⟩
 ·have := (List.getElem?_eq_some_iff.1 hc).1; omega
 ·cases e
  exact ⟨_, p, rfl, h2.cells (g := g) rfl _ _ hcl.1, h2.cells (g := g) rfl _ _ hcl.2.1, h2.cells (g := g) rfl _ _ hcl.2.2, ho⟩
theorem Own.raw {T size n : Nat} {xs : List Value} (h : Own w wr rs) (hm : rRaw w.heap.size v T size n xs ∈ rs) : wr.ownsRow 0 T size v n xs := by
 obtain ⟨F, ⟨ho, _⟩, _⟩ := h.mem hm
 exact ho
theorem Own.addRaw {w' : World} {T size n : Nat} {xs : List Value} (h : Own w wr rs) (ho : w'.ownsRow wr.heap.size T size v n xs) (hk : Keeps (fun _ => False) wr w') : Own w w' (rRaw w.heap.size v T size n xs :: rs) :=
 h.add hk (r := rRaw _ v T size n xs) (G := fun b => v.ownBlock = some b) ⟨ownsRow_base0 ho (Nat.zero_le _), fun _ hb => hb⟩ (fun b hb => by have := ho.lt b hb; omega)
theorem Own.rawPush {n : Nat} {xs : List Value} (h : Own w wr (rRaw w.heap.size v 112 3 n xs :: rs)) (k : ByteArray) (g : Bool) {pv : Value} (hpv : pv.oneCell' = true) (hn : n < 1099511627776) :
  ∃ a c w', (Builtin.append_ #[40, 40] 40 #[v, .slice (some ⟨wr.heap.size, 0, none⟩) 1 1]).run Tryz.prog (wr.alloc (.cells #[.string k, .bool g, pv] 112)) = .ok (.slice a (n + 1) c) w' ∧
   Own w w' (rRaw w.heap.size (.slice a (n + 1) c) 112 3 (n + 1) (xs ++ [.string k, .bool g, pv]) :: rs) := by
 have h1 := h.quiet ((Keeps.refl _ wr).alloc (.cells #[.string k, .bool g, pv] 112))
 obtain ⟨F, ⟨h2, h3⟩, hF, back⟩ := h1.open1
 obtain ⟨i0, hi, hz0', hz1, hz2⟩ := info_parts info_tchange
 obtain ⟨v', w', hrun, ho2, hg, _, hat⟩ := run_append_own_at (P := Tryz.prog) (wr.alloc (.cells #[.string k, .bool g, pv] 112)) 0 40 40 112 i0 _ 3 48 Tryz.underlying40 hi hz0' hz1 hz2 rfl (by omega) v n xs h2 ⟨wr.heap.size, 0, none⟩ 1 1 [.string k, .bool g, pv] rfl
  (fun j u hu => by
   rw [Addr.add_lit, Nat.zero_add]
   exact cell_at (heap_alloc_new wr _) (by simpa using hu))
  (by intro u hu; simp at hu; rcases hu with rfl | rfl | rfl; rfl; rfl; exact hpv) (by unfold maxLen; omega) (by omega) (Nat.zero_le _)
 obtain ⟨a, c, rfl⟩ := ownsRow_slice ho2
 have hlt := ho2.lt
 refine ⟨a, c, w', hrun, back w' (rRaw _ (.slice a (n + 1) c) 112 3 (n + 1) (xs ++ [.string k, .bool g, pv])) ((Keeps.of_grown hg).mono (fun b _ e => h3 b e)) ⟨ho2, fun b hb => ?_⟩⟩
 rcases hat with hat | hat
 ·rw [hat] at hb
  exact .inl (h3 b hb)
 ·have hl := hlt b hb
  rw [hat] at hb
  cases hb
  exact .inr ⟨Nat.le_refl _, hl.2⟩
end
theorem tch_one : ∀ {ps : List Value} {cs : List TCh}, (∀ p ∈ ps, p.oneCell' = true) → ∀ u ∈ tchCells ps cs, u.oneCell' = true
 | [], _, _, u, hu => by simp [tchCells] at hu
 | _ :: _, [], _, u, hu => by simp [tchCells] at hu
 | p :: ps, c :: cs, h, u, hu => by
  simp only [tchCells, List.mem_cons] at hu
  rcases hu with rfl | rfl | rfl | hu
  ·rfl
  ·rfl
  ·exact h _ (List.mem_cons_self ..)
  ·exact tch_one (fun q hq => h q (List.mem_cons_of_mem _ hq)) u hu
set_option maxRecDepth 100000 in
theorem chclone_raw (w w1 : World) (a : Addr) (n c : Nat) (v' : Value)
  (hrun : (Builtin.append_ #[40, 40] 40 #[.slice (some ⟨w.heap.size, 0, none⟩) 0 0, .slice (some a) n c]).run Tryz.prog (w.alloc (.cells #[] 112)) = .ok v' w1) :
  Calls Tryz.prog 56 #[.slice (some a) n c] w fun e w' => e = .returned v' ∧ w1 = w' := by
 have hq := Lib.run_eql_slice_nil (P := Tryz.prog) w 40 112 (some a) n c 0 0 Tryz.underlying40
 have Hrun := hyd hrun
 clear hrun
 go_enter Tryz.func56, Tryz.ntmps56
 go_wp2_with (at_builtin; refine wpList_append_run rfl _ _ _ _ rfl rfl rfl Hrun.out ?_)
 go_ret
 exact ⟨rfl, rfl⟩
theorem chclone_calls {w : World} {v : Value} {n : Nat} {xs : List Value} (h : w.ownsRow 0 112 3 v n xs) (h1 : ∀ u ∈ xs, u.oneCell' = true) (hn : n < 1099511627776) :
  Calls Tryz.prog 56 #[v] w fun e w' => ∃ a c, e = .returned (.slice a n c) ∧ w'.ownsRow w.heap.size 112 3 (.slice a n c) n xs ∧ Keeps (fun _ => False) w w' := by
 rcases h.2 with ⟨rfl, rfl⟩ | ⟨g, cap, cur, rfl, hg, hb, hc1, hc2, hz, ht⟩
 ·refine (chclone_nil w).mono ?_
  rintro e w' ⟨rfl, rfl⟩
  have hx : xs = [] := List.eq_nil_of_length_eq_zero (by have := h.1; omega)
  exact ⟨none, 0, rfl, ⟨by rw [hx]; rfl, .inl ⟨rfl, rfl⟩⟩, Keeps.refl _ _⟩
 ·obtain ⟨i0, hi, hz0', hz1, hz2⟩ := info_parts info_tchange
  have hk : Keeps (fun _ => False) w (w.alloc (.cells #[] 112)) := (Keeps.refl _ w).alloc _
  obtain ⟨v', w', hrun, ho2, hgr, _, hat⟩ := run_append_own_at (P := Tryz.prog) (w.alloc (.cells #[] 112)) w.heap.size 40 40 112 i0 _ 3 48 Tryz.underlying40 hi hz0' hz1 hz2 rfl (by omega) (.slice (some ⟨w.heap.size, 0, none⟩) 0 0) 0 [] ⟨rfl, .inr ⟨w.heap.size, 0, #[], rfl, Nat.le_refl _, heap_alloc_new w _, Nat.le_refl _, Nat.zero_le _, rfl, rfl⟩⟩ ⟨g, 0, none⟩ n cap xs h.1
   (fun j u hu => by
    exact cell_keep (h.cells (g := g) rfl j u hu) hk)
   h1 (by unfold maxLen; omega) (by omega) (by simp only [World.size_alloc]; omega)
  refine (chclone_raw w w' _ n cap v' hrun).mono ?_
  rintro e w2 ⟨rfl, rfl⟩
  rw [Nat.zero_add, List.nil_append] at ho2
  obtain ⟨a, c, rfl⟩ := ownsRow_slice ho2
  refine ⟨a, c, rfl, ho2, hk.trans (Keeps.of_grown hgr) (fun b hb e => ?_)⟩
  simp only [Value.ownBlock, Option.some.injEq] at e
  omega
theorem owns_one {w : World} {B : Nat} {p : Value} {l : List UInt8} (h : Owns w B p l) : p.oneCell' = true := by
 obtain ⟨a, c, rfl, -, -⟩ := h.bytes.reads.form
 rfl
set_option maxRecDepth 100000 in
set_option maxHeartbeats 800000 in
theorem gAddM_calls {w w0 : World} {d j t b g : Nat} {nm : ByteArray} {T : TM} {ve vl : Value} {es : List (List UInt8)} {rs : List (Res w.heap.size)} (h : Own w w0 (tRes w.heap.size d j t b nm T ++ (gRes w.heap.size g t ve vl es ++ rs)))
  {n : Nat} (hg : Good T.m n) (hn : n < 549755813888) (hs : T.size ≤ 1099511627776) (hl : es.length < 1048576) {pv : Value} {p : List UInt8} (hpl : p.length ≤ 70368744177662) (hp : ∀ (wr : World) (ls : List (Res w.heap.size)), Own w wr (ls ++ rs) → Reads wr pv p)
  {mv : Value} {ps : List Value} {L : List TCh} (hm : rHeldP w.heap.size mv ps L ∈ rs) (hL : L.length < 1048576) :
  Calls Tryz.prog 19 #[.pointer (some ⟨g, 0, none⟩), pv, mv] w0 (GAddPost w d j t b g nm rs es p (tAppOf T nm (L ++ [⟨keyOf es.length, false, p⟩]))) := by
 have hd0 := h.drew
 have hob : ∀ {W : World} {T' : TM}, Own w W (tRes w.heap.size d j t b nm T' ++ (gRes w.heap.size g t ve vl es ++ rs)) → W.cell? ⟨g, 0, none⟩ = some (.pointer (some ⟨t, 0, none⟩)) ∧ W.cell? ⟨g, 1, none⟩ = some ve := fun {W T'} h => by
  obtain ⟨c0, c1, -, -⟩ := log_cells (h.at (b := g) (o := logObj t ve vl) (by simp [gRes])).1
  exact ⟨c0, c1⟩
 obtain ⟨va, vc, hve⟩ : ∃ a c, ve = .slice a es.length c := rows_form (h.rows (v := ve) (ll := es) (by simp [gRes])).1
 subst hve
 obtain ⟨pa, pc, hpv, -, -⟩ := (hp w0 (tRes w.heap.size d j t b nm T ++ gRes w.heap.size g t _ vl es) (by rw [List.append_assoc]; exact h)).form
 subst hpv
 have hmm : rHeldP w.heap.size mv ps L ∈ tRes w.heap.size d j t b nm T ++ (gRes w.heap.size g t (.slice va es.length vc) vl es ++ rs) := List.mem_append_right _ (List.mem_append_right _ hm)
 obtain ⟨F, ⟨hx1, hx2, hx3⟩, -⟩ := hd0.mem hmm
 have hone : ∀ q ∈ ps, q.oneCell' = true := fun q hq => by
  obtain ⟨i, hi, hq⟩ := List.getElem_of_mem hq
  obtain ⟨c, hc, ho, -⟩ := hx1.get (i := i) (by rw [List.getElem?_eq_getElem hi, hq])
  exact owns_one ho
 obtain ⟨ma, mc, hmv⟩ := ownsRow_slice hx2
 have hk0 : ∀ w1, Calls Tryz.prog 43 #[.int .i64 (es.length : Int)] w1 (QuietP w1 (.string (keyOf es.length))) := fun w1 => key_calls w1 (es.length : Int) es.length (u64_small (by omega)) (by omega)
 have hcl := chclone_calls hx2 (tch_one hone) (by omega)
 rw [hmv] at hcl
 -- behind the key: the row of the changes
 have hX : ∀ a1 c1 w1, w1.ownsRow w0.drew.heap.size 112 3 (.slice a1 L.length c1) L.length (tchCells ps L) → Keeps (fun _ => False) w0.drew w1 → ∀ w2, Keeps (fun _ => False) w1 w2 → ∃ a c w3, (Builtin.append_ #[40, 40] 40 #[.slice a1 L.length c1, .slice (some ⟨w2.heap.size, 0, none⟩) 1 1]).run Tryz.prog (w2.alloc (.cells #[.string (keyOf es.length), .bool false, .slice pa p.length pc] 112)) = .ok (.slice a (L.length + 1) c) w3 ∧
   (w3.cell? ⟨g, 0, none⟩ = some (.pointer (some ⟨t, 0, none⟩)) ∧ w3.cell? ⟨g, 1, none⟩ = some (.slice va es.length vc)) ∧ ((w2.alloc (.cells #[.string (keyOf es.length), .bool false, .slice pa p.length pc] 112)).cell? ⟨g, 0, none⟩ = some (.pointer (some ⟨t, 0, none⟩)) ∧ (w2.alloc (.cells #[.string (keyOf es.length), .bool false, .slice pa p.length pc] 112)).cell? ⟨g, 1, none⟩ = some (.slice va es.length vc)) ∧
   Calls Tryz.prog 10 #[.pointer (some ⟨t, 0, none⟩), .slice a (L.length + 1) c] w3 (fun e w4 => e = .returned (.int .i64 (tAppOf T nm (L ++ [⟨keyOf es.length, false, p⟩])).1) ∧ Own w w4 (tRes w.heap.size d j t b nm (tAppOf T nm (L ++ [⟨keyOf es.length, false, p⟩])).2 ++ (gRes w.heap.size g t (.slice va es.length vc) vl es ++ rs))) := fun a1 c1 w1 hr1 hk1 w2 hk2 => by
  have h1 := (hd0.addRaw hr1 hk1).quiet hk2
  obtain ⟨a, c, w3, hrun, h2⟩ := h1.rawPush (keyOf es.length) false (pv := .slice pa p.length pc) rfl (by omega)
  have h3 : Own w w3 (tRes w.heap.size d j t b nm T ++ (rRaw w.heap.size (.slice a (L.length + 1) c) 112 3 (L.length + 1) (tchCells ps L ++ [.string (keyOf es.length), .bool false, .slice pa p.length pc]) :: (gRes w.heap.size g t (.slice va es.length vc) vl es ++ rs))) := own_after4 h2
  have hrow := h2.raw List.mem_cons_self
  have hcm : L.length + 1 ≤ c ∧ c ≤ maxLen := by
   rcases hrow.2 with ⟨e, e2⟩ | ⟨g', cap, cur, e, _, _, k1, k2, _⟩
   ·omega
   ·cases e; exact ⟨k1, k2⟩
  have hlen : ps.length = L.length := hx1.length
  rw [← tchCells_snoc ps L (.slice pa p.length pc) ⟨keyOf es.length, false, p⟩ hlen] at h3
  have hll : L.length + 1 = (L ++ [(⟨keyOf es.length, false, p⟩ : TCh)]).length := by simp
  refine ⟨a, c, w3, hrun, hob (h2.drop), hob (T' := T) ((h1.alloc (.cells #[.string (keyOf es.length), .bool false, .slice pa p.length pc] 112)).drop.drop), ?_⟩
  rw [hll] at h3 hcm ⊢
  have hin : ∀ (wr : World) (ls : List (Res w.heap.size)), Own w wr (ls ++ (rRaw w.heap.size (.slice a (L ++ [(⟨keyOf es.length, false, p⟩ : TCh)]).length c) 112 3 (L ++ [(⟨keyOf es.length, false, p⟩ : TCh)]).length (tchCells (ps ++ [.slice pa p.length pc]) (L ++ [⟨keyOf es.length, false, p⟩])) :: (gRes w.heap.size g t (.slice va es.length vc) vl es ++ rs))) → TChsIn wr a (L ++ [⟨keyOf es.length, false, p⟩]) := fun wr ls ho => by
   have hpr := hp wr (ls ++ (rRaw w.heap.size (.slice a (L ++ [(⟨keyOf es.length, false, p⟩ : TCh)]).length c) 112 3 (L ++ [(⟨keyOf es.length, false, p⟩ : TCh)]).length (tchCells (ps ++ [.slice pa p.length pc]) (L ++ [⟨keyOf es.length, false, p⟩])) :: gRes w.heap.size g t (.slice va es.length vc) vl es)) (by rw [List.append_assoc]; exact ho)
   have hrw := ho.raw (List.mem_append_right _ List.mem_cons_self)
   have hhe := (ho.heldP (v := mv) (ps := ps) (cs := L) (List.mem_append_right _ (List.mem_cons_of_mem _ (List.mem_append_right _ hm)))).1
   exact rows_in hrw (rel2_snoc hhe hpr)
  have HT := tapply_callsO h3 hg hn hs (a := a) (c := c) (l := L ++ [⟨keyOf es.length, false, p⟩]) hin hcm.1 hcm.2
  refine HT.mono ?_
  rintro e w4 ⟨rfl, h4⟩
  refine ⟨rfl, ?_⟩
  have h5 := own_before4 h4
  exact h5.drop
 obtain ⟨R, hR⟩ : ∃ R, tAppOf T nm (L ++ [⟨keyOf es.length, false, p⟩]) = R := ⟨_, rfl⟩
 rw [hR] at hX ⊢
 obtain ⟨rc, rT⟩ := R
 have hfin : ∀ w3, Own w w3 (tRes w.heap.size d j t b nm rT ++ (gRes w.heap.size g t (.slice va es.length vc) vl es ++ rs)) → Calls Tryz.prog 45 #[.pointer (some ⟨g, 0, none⟩), .slice pa p.length pc] w3 (fun e w' => e = .returned (.tuple #[]) ∧ ∃ ve' vl', Own w w' (tRes w.heap.size d j t b nm rT ++ (gRes w.heap.size g t ve' vl' (es ++ [p]) ++ rs))) := fun w3 h3 => by
  have h4 : Own w w3 (gRes w.heap.size g t (.slice va es.length vc) vl es ++ (tRes w.heap.size d j t b nm rT ++ rs)) := h3.perm (by rw [← List.append_assoc, ← List.append_assoc]; exact (List.perm_append_comm).append_right _)
  refine (gadd_calls h4 (by omega) hpl (fun wr ls ho => hp wr (ls ++ tRes w.heap.size d j t b nm rT) (by rw [List.append_assoc]; exact ho))).mono ?_
  rintro e w' ⟨rfl, ve', vl', h5⟩
  exact ⟨rfl, ve', vl', h5.perm (by rw [← List.append_assoc, ← List.append_assoc]; exact (List.perm_append_comm).append_right _)⟩
 have hc0 := hob hd0
 have hc00 := hob h
 have HX := hyd hX
 have HOB := hyd (fun W T' h => hob (W := W) (T' := T') h)
 have HFIN := hyd hfin
 have HK0 := hyd hk0
 have HCL := hyd hcl
 have HC1 := hyd (fun w1 (hk : Keeps (fun _ => False) w0.drew w1) => hob (hd0.quiet hk))
 have j1 : decide ((1048576 : Int) ≤ (es.length : Int)) = false := decide_eq_false (by omega)
 obtain ⟨c0, c1⟩ := hc00
 dsimp only at HX
 rw [hmv]
 generalize keyOf es.length = ky at *
 generalize L.length = Ln at *
 clear h hd0 hob hk0 hX hR hfin hg hn hs hp hpl hl hm hmm hx1 hx2 hx3 hone hcl hL hmv
 go_enter Tryz.func19, Tryz.ntmps19
 go_upto_region 5 with fail
 go_region_held3 (fun w' => w'.cell? ⟨g, 0, none⟩ = some (.pointer (some ⟨t, 0, none⟩)) ∧ w'.cell? ⟨g, 1, none⟩ = some (.slice va es.length vc)) (first | exact hc0 | exact hc1 | exact hc1b | exact hc2 | exact hc2a | exact hc3 | go_keep) (first | (refine step_append_run rfl _ _ _ _ rfl rfl rfl hrun2 ?_) | (go_at_call 56; refine HCL.out.mono ?_; rintro e w1 ⟨a1, k1, rfl, hr1, hk1⟩; have hc1 := HC1.out w1 hk1) | (go_at_call 43; refine (HK0.out _).mono ?_; rintro e w2 ⟨rfl, hk2⟩; have hc1b := HC1.out w2 (hk1.trans hk2 (fun b _ e => e)); obtain ⟨xa, xc, w3, hrun2, hc2, hc2a, hap2⟩ := HX.out a1 k1 _ hr1 hk1 w2 hk2) | (go_at_call 10; refine hap2.mono ?_; rintro e w4 ⟨rfl, h3⟩; have hc3 := HOB.out _ _ h3))
 all_goals
  have H3 := hyd h3
  clear hc0 hc1 hc1b hc2 hc2a hc3 hrun2 hap2 hk1 hk2 hr1 h3 HX HK0 HC1 HOB HCL c0 c1
  by_cases h0 : rc = 0
  ·subst h0
   have HA := hyd (HFIN.out w4 H3.out)
   clear HFIN H3
   go_wp2_with fail
   refine HA.out.mono ?_
   rintro e w5 ⟨rfl, ve', vl', h4⟩
   have HF := hyd (show GAddPost w d j t b g nm rs es p (0, rT) (.returned (.int .i64 0)) w5 from ⟨ve', vl', rfl, by rw [if_pos rfl]; exact h4⟩)
   clear h4 HA
   go_wp2_with fail
   go_ret
   exact HF.out
  ·have b0 : (rc == 0) = false := by rw [beq_eq_false_iff_ne]; exact h0
   have HF := hyd (show GAddPost w d j t b g nm rs es p (rc, rT) (.returned (.int .i64 rc)) w4 from ⟨_, _, rfl, by rw [if_neg h0]; exact H3.out⟩)
   clear HFIN H3 h0
   go_wp2_with fail
   go_ret
   exact HF.out
end Go.Proofs.YtddnikpdmjogiaaGreat
namespace Go.Proofs.YtddnikpdmjogiaaGreat
set_option linter.unusedVariables false
open Go.RowKit Go.MapKept
section
variable {w wr : World} {rs : List (Res w.heap.size)} {v : Value} {ps : List Value} {cs : List TCh}
theorem rows_inT {T : TypeId} {a : Option Addr} {n c : Nat} (h2 : wr.ownsRow 0 T 3 (.slice a n c) cs.length (tchCells ps cs)) (h1 : Rel2 (fun p (c : TCh) => Reads wr p c.val) ps cs) : TChsIn wr a cs := fun i ch hc => by
 obtain ⟨p, hp, ho⟩ := h1.get' hc
 have hcl := tchCells_get i hp hc
 rcases h2.2 with ⟨e, e2⟩ | ⟨g, cap, cur, e, _⟩
 ·have := (List.getElem?_eq_some_iff.1 hc).1; omega
 ·cases e
  exact ⟨_, p, rfl, h2.cells (g := g) rfl _ _ hcl.1, h2.cells (g := g) rfl _ _ hcl.2.1, h2.cells (g := g) rfl _ _ hcl.2.2, ho⟩
theorem Own.rawPushR {n : Nat} {xs : List Value} (h : Own w wr (rRaw w.heap.size v 38 3 n xs :: rs)) (k : ByteArray) (g : Bool) {pv : Value} (hpv : pv.oneCell' = true) (hn : n < 1099511627776) :
  ∃ a c w', (Builtin.append_ #[22, 22] 22 #[v, .slice (some ⟨wr.heap.size, 0, none⟩) 1 1]).run Tryz.prog (wr.alloc (.cells #[.string k, .bool g, pv] 38)) = .ok (.slice a (n + 1) c) w' ∧
   Own w w' (rRaw w.heap.size (.slice a (n + 1) c) 38 3 (n + 1) (xs ++ [.string k, .bool g, pv]) :: rs) := by
 have h1 := h.quiet ((Keeps.refl _ wr).alloc (.cells #[.string k, .bool g, pv] 38))
 obtain ⟨F, ⟨h2, h3⟩, hF, back⟩ := h1.open1
 obtain ⟨i0, hi, hz0', hz1, hz2⟩ := info_parts info_r11change
 obtain ⟨v', w', hrun, ho2, hg, _, hat⟩ := run_append_own_at (P := Tryz.prog) (wr.alloc (.cells #[.string k, .bool g, pv] 38)) 0 22 22 38 i0 _ 3 48 Tryz.underlying22 hi hz0' hz1 hz2 rfl (by omega) v n xs h2 ⟨wr.heap.size, 0, none⟩ 1 1 [.string k, .bool g, pv] rfl
  (fun j u hu => by
   rw [Addr.add_lit, Nat.zero_add]
   exact cell_at (heap_alloc_new wr _) (by simpa using hu))
  (by intro u hu; simp at hu; rcases hu with rfl | rfl | rfl; rfl; rfl; exact hpv) (by unfold maxLen; omega) (by omega) (Nat.zero_le _)
 obtain ⟨a, c, rfl⟩ := ownsRow_slice ho2
 have hlt := ho2.lt
 refine ⟨a, c, w', hrun, back w' (rRaw _ (.slice a (n + 1) c) 38 3 (n + 1) (xs ++ [.string k, .bool g, pv])) ((Keeps.of_grown hg).mono (fun b _ e => h3 b e)) ⟨ho2, fun b hb => ?_⟩⟩
 rcases hat with hat | hat
 ·rw [hat] at hb
  exact .inl (h3 b hb)
 ·have hl := hlt b hb
  rw [hat] at hb
  cases hb
  exact .inr ⟨Nat.le_refl _, hl.2⟩
end
def RAdd15Post (w : World) (r q u y : Nat) (nm : ByteArray) (rs : List (Res w.heap.size)) (es : List (List UInt8)) (p : List UInt8) (R : Int × DM × List (List UInt8) × FS × Bool) (e : Ending) (w' : World) : Prop :=
 e = .returned (.int .i64 R.1) ∧ ∃ v lv re, Own w w' (rtRes w.heap.size r q u nm R.2.1 R.2.2.1 v lv R.2.2.2.1 R.2.2.2.2 ++ (rRows w.heap.size re (if R.1 = 0 then es ++ [p] else es) :: rObj w.heap.size y (rlogObj u re) :: rs))
theorem two_front {B : Nat} {x y : Res B} {A rs : List (Res B)} : (A ++ (x :: y :: rs)).Perm (x :: y :: (A ++ rs)) := List.perm_middle.trans (List.Perm.cons _ List.perm_middle)
set_option maxRecDepth 100000 in
set_option maxHeartbeats 1000000 in
theorem radd15_calls {w w0 : World} {r q u y : Nat} {nm : ByteArray} {m : DM} {recs : List (List UInt8)} {v lv : Value} {fs : FS} {dn : Bool} {re : Value} {es : List (List UInt8)} {rs : List (Res w.heap.size)} (h : Own w w0 (rtRes w.heap.size r q u nm m recs v lv fs dn ++ (rRows w.heap.size re es :: rObj w.heap.size y (rlogObj u re) :: rs)))
  {n t : Nat} (ht : Tidy m n t) (hn : n + 8 < 549755813888) (htt : t + 8 < 549755813888) (hrl : recs.length < 1099511627776) (hso : FSorted fs) (hfl : fs.length + 256 < 1099511627775) (hes : es.length < 1048576)
  {pv : Value} {p : List UInt8} (hp : Reads w pv p) (hpl : p.length ≤ 140737488355328) {la : Option Addr} {lc : Nat} {L : List TCh} (hL : TChsIn w la L) (hlL : L.length < 1048576) :
  Calls Tryz.prog 21 #[.pointer (some ⟨y, 0, none⟩), pv, .slice la L.length lc] w0 (RAdd15Post w r q u y nm rs es p (rtAppOf m nm recs fs dn (L ++ [⟨keyOf es.length, false, p⟩]))) := by
 obtain ⟨pa, pc, rfl, -, -⟩ := hp.form
 obtain ⟨R, hR⟩ : ∃ R, rtAppOf m nm recs fs dn (L ++ [⟨keyOf es.length, false, p⟩]) = R := ⟨_, rfl⟩
 have hap : ∀ w1 ps ov, Rel2 (fun p (c : TCh) => Reads w p c.val) ps L → ov.oneCell' = true → Own w w1 (rRaw w.heap.size ov 38 3 L.length (tchCells ps L) :: (rtRes w.heap.size r q u nm m recs v lv fs dn ++ (rRows w.heap.size re es :: rObj w.heap.size y (rlogObj u re) :: rs))) →
   ∃ a c w2, (Builtin.append_ #[22, 22] 22 #[ov, .slice (some ⟨w1.heap.size, 0, none⟩) 1 1]).run Tryz.prog (w1.alloc (.cells #[.string (keyOf es.length), .bool false, .slice pa p.length pc] 38)) = .ok (.slice a (L.length + 1) c) w2 ∧
    (w2.cell? ⟨y, 0, none⟩ = some (.pointer (some ⟨u, 0, none⟩)) ∧ Calls Tryz.prog 12 #[.pointer (some ⟨u, 0, none⟩), .slice a (L.length + 1) c] w2 (RTabPost w r q u nm (rRows w.heap.size re es :: rObj w.heap.size y (rlogObj u re) :: rs) R)) := fun w1 ps ov hps h1 hown => by
  obtain ⟨a, c, w2, hrun, h2⟩ := hown.rawPushR (keyOf es.length) false (pv := .slice pa p.length pc) rfl (by omega)
  have hrow := h2.raw List.mem_cons_self
  have hcm : L.length + 1 ≤ c ∧ c ≤ maxLen := by
   rcases hrow.2 with ⟨e, e2⟩ | ⟨g', cap, cur, e, _, _, k1, k2, _⟩
   ·omega
   ·cases e; exact ⟨k1, k2⟩
  have hlen : ps.length = L.length := hps.length
  rw [← tchCells_snoc ps L (.slice pa p.length pc) ⟨keyOf es.length, false, p⟩ hlen] at h2
  have hll : L.length + 1 = (L ++ [(⟨keyOf es.length, false, p⟩ : TCh)]).length := by simp
  obtain ⟨g0, -, -⟩ := rlog_cells (h2.at (b := y) (o := rlogObj u re) (by simp)).1
  refine ⟨a, c, w2, hrun, g0, ?_⟩
  rw [hll] at h2 hcm ⊢
  have h3 : Own w w2 (rtRes w.heap.size r q u nm m recs v lv fs dn ++ (rRaw w.heap.size (.slice a (L ++ [(⟨keyOf es.length, false, p⟩ : TCh)]).length c) 38 3 (L ++ [(⟨keyOf es.length, false, p⟩ : TCh)]).length (tchCells (ps ++ [.slice pa p.length pc]) (L ++ [⟨keyOf es.length, false, p⟩])) :: (rRows w.heap.size re es :: rObj w.heap.size y (rlogObj u re) :: rs))) := h2.perm (List.perm_middle).symm
  have hin : ∀ (wr : World) (ls : List (Res w.heap.size)), Own w wr (ls ++ (rRaw w.heap.size (.slice a (L ++ [(⟨keyOf es.length, false, p⟩ : TCh)]).length c) 38 3 (L ++ [(⟨keyOf es.length, false, p⟩ : TCh)]).length (tchCells (ps ++ [.slice pa p.length pc]) (L ++ [⟨keyOf es.length, false, p⟩])) :: (rRows w.heap.size re es :: rObj w.heap.size y (rlogObj u re) :: rs))) → TChsIn wr a (L ++ [⟨keyOf es.length, false, p⟩]) := fun wr ls ho => by
   have hrw := ho.raw (List.mem_append_right _ List.mem_cons_self)
   exact rows_inT hrw ((rel2_snoc hps hp).mono (fun _ _ hq => hq.keep ho.keeps))
  have HT := rapply11_calls h3 ht hn htt hrl hso (a := a) (c := c) (l := L ++ [⟨keyOf es.length, false, p⟩]) hin hcm.1 hcm.2 hfl
  rw [hR] at HT
  refine HT.mono ?_
  rintro e w4 ⟨he, v', lv', h4⟩
  exact ⟨he, v', lv', (Own.drop (h4.perm List.perm_middle))⟩
 rw [hR]
 obtain ⟨rc, m', recs', fs', dn'⟩ := R
 have HW := hyd h.keeps
 have HL := hyd hL
 have HLL := hyd hlL
 have H1 := hyd (h.addRaw (v := .slice none 0 0) (T := 38) (size := 3) (n := 0) (xs := []) ⟨rfl, .inl ⟨rfl, rfl⟩⟩ (Keeps.refl _ _))
 have HAP := hyd hap
 have HP := hyd (And.intro hp hpl)
 have HES := hyd hes
 have i0 : (0 : Int) ≤ (L.length : Int) := by omega
 clear h hp hpl hL hlL hR hap ht hn htt hrl hso hfl hes
 go_enter Tryz.func21, Tryz.ntmps21
 go_wp2_with fail
 go_loopw [7, 8] (fun ov i wx => ∃ (k : Nat) (ps : List Value) (a : Option Addr) (c : Nat), i = .int .i64 (k : Int) ∧ ov = .slice a k c ∧ k ≤ L.length ∧ Rel2 (fun p (c : TCh) => Reads w p c.val) ps (L.take k) ∧ Own w wx (rRaw w.heap.size (.slice a k c) 38 3 k (tchCells ps (L.take k)) :: (rtRes w.heap.size r q u nm m recs v lv fs dn ++ (rRows w.heap.size re es :: rObj w.heap.size y (rlogObj u re) :: rs)))) (fun _ i _ => L.length - (intOf i).toNat)
 case atStart => exact ⟨0, [], none, 0, rfl, rfl, Nat.zero_le _, trivial, H1.out⟩
 case round =>
  obtain ⟨k, ps, oa, oc, rfl, rfl, hk, hps, hown⟩ := hrel
  clear H1
  have j0 : (0 : Int) ≤ k := by omega
  by_cases hlt : k < L.length
  ·obtain ⟨ch, hch⟩ : ∃ ch, L[k]? = some ch := ⟨L[k], List.getElem?_eq_getElem hlt⟩
   have htk : L.take (k + 1) = L.take k ++ [ch] := by
    obtain ⟨_, he⟩ := List.getElem?_eq_some_iff.1 hch
    rw [List.take_succ_eq_append_getElem hlt, he]
   obtain ⟨x, pp, rfl, c0, c1, c2, hpp⟩ := HL.out.cells hch
   have hkw := hown.keeps
   have q0 := cell_keep c0 hkw
   have q1 := cell_keep c1 hkw
   have q2 := cell_keep c2 hkw
   have hps2 := rel2_snoc (R := fun p (c : TCh) => Reads w p c.val) hps (p := pp) (c := ch) hpp
   obtain ⟨pa', pc', rfl, -, -⟩ := hpp.form
   have hll : ps.length = (L.take k).length := hps.length
   obtain ⟨a2, k2, w2, hrun, h2⟩ := hown.rawPushR ch.key ch.gone (pv := .slice pa' ch.val.length pc') rfl (by have := HLL.out; omega)
   rw [← tchCells_snoc ps (L.take k) _ ch hll, ← htk] at h2
   rw [← htk] at hps2
   obtain ⟨key, gone, val⟩ := ch
   dsimp only at q0 q1 q2 hrun h2 hps2 hpp
   have HR := hyd hrun
   have HO := hyd h2
   have HS := hyd hps2
   have HX := hyd hlt
   have j1 : (k : Int) < L.length := by omega
   have j3 : (k : Int) < 1048576 := by have := HLL.out; omega
   clear hrun h2 hps2 hpp hps hown hll hkw c0 c1 c2 htk hch hlt hk
   go_wp2_with (at_builtin; refine wpList_append_run rfl _ _ _ _ rfl rfl rfl HR.out ?_)
   go_roundw
   case rel => exact ⟨k + 1, _, a2, k2, rfl, rfl, HX.out, HS.out, HO.out⟩
   case measure => have := HX.out; simp only [intOf]; omega
  ·obtain rfl : k = L.length := by omega
   rw [List.take_length] at hps hown
   have j1 : (L.length : Int) < 1048576 := by have := HLL.out; omega
   obtain ⟨g0, g1, -⟩ := rlog_cells (hown.at (b := y) (o := rlogObj u re) (by simp)).1
   obtain ⟨va, vc, rfl⟩ := rows_form (hown.rows (v := re) (ll := es) (by simp)).1
   have HKY := hyd (fun W => rkey_calls W (es.length : Int) es.length (by have := HES.out; exact IntWalk.u64_in _ (by omega)) (by have := HES.out; omega))
   have HO := hyd hown
   have HS := hyd hps
   clear hown hps hlt hk
   go_wp2_with fail
   refine (HKY.out _).mono ?_
   rintro e w5 ⟨rfl, hk5⟩
   obtain ⟨a2, k2, w6, hrun, g6, hap⟩ := HAP.out w5 _ (.slice oa L.length oc) HS.out rfl (HO.out.quiet hk5)
   have HR := hyd hrun
   have HA := hyd hap
   generalize keyOf es.length = ky at *
   clear hrun hap hk5 g0 g1 HKY
   go_wp2_with (at_builtin; refine wpList_append_run rfl _ _ _ _ rfl rfl rfl HR.out ?_)
   refine HA.out.mono ?_
   rintro e w7 ⟨rfl, v', lv', h7⟩
   dsimp only at h7
   have h8 := h7.perm two_front
   by_cases h0 : rc = 0
   ·subst h0
    have h9 := h8
    obtain ⟨g0, g1, -⟩ := rlog_cells (h8.at (b := y) (o := rlogObj u (.slice va es.length vc)) (by simp)).1
    obtain ⟨-, g1d, -⟩ := rlog_cells (h8.drew.at (b := y) (o := rlogObj u (.slice va es.length vc)) (by simp)).1
    have HTW := hyd (twin_calls (HP.out.1.keep h8.drew.keeps) HP.out.2)
    have HD5 := hyd h8.drew
    have HEL := hyd (show es.length < 1099511627776 by have := HES.out; omega)
    clear h7 h8 h9 HA HR HO HS HAP HL HW g6
    go_wp2_with fail
    go_region_law (first | (refine step_append_run rfl _ _ _ _ rfl rfl rfl hrun8 ?_) | (refine step_wanted' rfl ?_; go_simp; go_at_call 20; refine HTW.out.mono ?_; rintro e w7 ⟨tv, rfl, ho7, hk7⟩; obtain ⟨ta, tc, rfl, _, _⟩ := ho7.bytes.form; have h7 := HD5.out.quiet hk7; obtain ⟨-, g17, -⟩ := rlog_cells (h7.at (b := y) (o := rlogObj u (.slice va es.length vc)) (by simp)).1; obtain ⟨-, g17a, -⟩ := rlog_cells ((h7.quiet ((Keeps.refl _ w7).alloc (.cells #[.slice ta p.length tc] 36))).at (b := y) (o := rlogObj u (.slice va es.length vc)) (by simp)).1; obtain ⟨da, dc, w8, hrun8, h8⟩ := HD5.out.pushRec ho7 hk7 HEL.out; obtain ⟨-, g18, f18⟩ := rlog_cells (h8.at (b := y) (o := rlogObj u (.slice va es.length vc)) (by simp)).1; have f18' := f18 1) | fail)
    all_goals
     have h9 : Own w (w8.setCell ⟨y, 1, none⟩ (.slice da (es.length + 1) dc)) (rObj w.heap.size y (rlogObj u (.slice da (es.length + 1) dc)) :: rRows w.heap.size (.slice da (es.length + 1) dc) (es ++ [p]) :: (rtRes w.heap.size r q u nm m' recs' v' lv' fs' dn' ++ rs)) := h8.swap.store 1 (.slice da (es.length + 1) dc)
     have HF := hyd (show RAdd15Post w r q u y nm rs es p (0, m', recs', fs', dn') (.returned (.int .i64 0)) (w8.setCell ⟨y, 1, none⟩ (.slice da (es.length + 1) dc)) from ⟨rfl, v', lv', _, by rw [if_pos rfl]; exact h9.swap.perm two_front.symm⟩)
     clear h9 h8 h7 ho7 hk7 hrun8 g17 g17a g18 f18 f18' g0 g1 g1d
     go_wp2_with fail
     go_ret
     exact HF.out
   ·have b0 : (rc == 0) = false := by rw [beq_eq_false_iff_ne]; exact h0
    have HF := hyd (show RAdd15Post w r q u y nm rs es p (rc, m', recs', fs', dn') (.returned (.int .i64 rc)) w7 from ⟨rfl, v', lv', _, by rw [if_neg h0]; exact h7⟩)
    clear h7 h8 HA HR HO HS HAP HL HW g6 h0
    go_wp2_with fail
    go_ret
    exact HF.out
end Go.Proofs.YtddnikpdmjogiaaGreat
