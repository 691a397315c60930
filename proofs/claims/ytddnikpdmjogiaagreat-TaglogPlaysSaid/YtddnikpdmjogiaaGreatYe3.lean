/- A part of the proof. -/
import Derived.Test.YtddnikpdmjogiaaGreatYb9
namespace Go.Proofs.YtddnikpdmjogiaaGreat
set_option linter.unusedVariables false
open Go.RowKit Go.MapKept
set_option maxRecDepth 100000 in
set_option maxHeartbeats 1000000 in
theorem to15_calls {w : World} {a : Option Addr} {c : Nat} {l : List TCh} (h : TChsIn w a l) (hl : l.length ≤ 1099511627775) (hv : ∀ x ∈ l, x.val.length ≤ 140737488355328) : Calls Tryz.prog 11 #[.slice a l.length c] w (ToPost w l) := by
 have H := hyd h
 have HV := hyd hv
 have i0 : (l.length : Int) ≤ 1099511627775 := by omega
 have i1 : (0 : Int) ≤ (l.length : Int) := by omega
 have HL := hyd hl
 clear h hl hv
 go_enter Tryz.func11, Tryz.ntmps11
 go_wp2_with fail
 go_loopw [3, 8] (fun ov iv wx => ∃ k : Nat, k ≤ l.length ∧ iv = .int .i64 (k : Int) ∧ TChsAt 112 w.heap.size wx ov (l.take k) ∧ Keeps (fun _ => False) w wx) (fun _ iv _ => l.length - (intOf iv).toNat)
 case atStart => exact ⟨0, Nat.zero_le _, rfl, by rw [List.take_zero]; exact TChsAt.nil _ _ _, Keeps.refl _ _⟩
 case round =>
  obtain ⟨k, hk, rfl, ho, hq⟩ := hrel
  have k0 : (0 : Int) ≤ k := by omega
  obtain ⟨oa, on, oc, rfl⟩ := ho.form3
  by_cases hlt : k < l.length
  ·obtain ⟨ch, hch⟩ : ∃ ch, l[k]? = some ch := ⟨l[k], List.getElem?_eq_getElem hlt⟩
   have htk : l.take (k + 1) = l.take k ++ [ch] := by
    obtain ⟨_, he⟩ := List.getElem?_eq_some_iff.1 hch
    rw [List.take_succ_eq_append_getElem hlt, he]
   obtain ⟨x, p, rfl, c0, c1, c2, hp⟩ := (H.out.keep hq).cells hch
   have hvl := HV.out ch (List.mem_of_getElem? hch)
   obtain ⟨key, gone, val⟩ := ch
   dsimp only at c0 c1 c2 hp hvl
   obtain ⟨pa, pc, rfl, _, _⟩ := hp.form
   have j2 : (k : Int) < l.length := by omega
   have hk1 : k + 1 ≤ l.length := by omega
   have hB := heap_alloc_new wr (.cells #[.string key, .bool gone, .slice pa val.length pc] 38)
   have hkB : Keeps (fun _ => False) wr (wr.alloc (.cells #[.string key, .bool gone, .slice pa val.length pc] 38)).drew := ((Keeps.refl _ wr).alloc _).drew
   have HTW := hyd (twin_calls (hp.keep hkB) hvl)
   have hlk : (l.take k).length = k := by rw [List.length_take]; omega
   have hpush := fun (w1 : World) (tv : Value) (hk1' : Keeps (fun _ => False) (wr.alloc (.cells #[.string key, .bool gone, .slice pa val.length pc] 38)).drew w1) (ht : Owns w1 wr.heap.size tv val) => TChsAt.push (T := 112) (Ts := 40) info_tchange Tryz.underlying40 (by decide) (c := ⟨key, gone, val⟩) ho hq.size (hkB.trans hk1' (fun _ _ e => e)) ht (by have := HL.out; omega)
   rw [← htk] at hpush
   have hown : ∀ b, (Value.slice oa on oc).ownBlock = some b → b < wr.heap.size := fun b hb => by
    obtain ⟨ps, g1, g2, g3⟩ := ho
    exact (g2.lt b hb).2
   have hpush2 : ∀ (w1 : World) (tv : Value), Keeps (fun _ => False) (wr.alloc (.cells #[.string key, .bool gone, .slice pa val.length pc] 38)).drew w1 → Owns w1 (wr.alloc (.cells #[.string key, .bool gone, .slice pa val.length pc] 38)).drew.heap.size tv val →
     ∃ a' n' k' w', (Builtin.append_ #[40, 40] 40 #[.slice oa on oc, .slice (some ⟨w1.heap.size, 0, none⟩) 1 1]).run Tryz.prog (w1.alloc (.cells #[.string key, .bool gone, tv] 112)) = .ok (.slice a' n' k') w' ∧ TChsAt 112 w.heap.size w' (.slice a' n' k') (l.take (k + 1)) ∧ Keeps (fun _ => False) w w' ∧ (w1.cell? ⟨wr.heap.size, 0, none⟩ = some (.string key) ∧ w1.cell? ⟨wr.heap.size, 1, none⟩ = some (.bool gone) ∧ w1.cell? ⟨wr.heap.size, 2, none⟩ = some (.slice pa val.length pc)) ∧
     ((w1.alloc (.cells #[.string key, .bool gone, tv] 112)).cell? ⟨wr.heap.size, 0, none⟩ = some (.string key) ∧ (w1.alloc (.cells #[.string key, .bool gone, tv] 112)).cell? ⟨wr.heap.size, 1, none⟩ = some (.bool gone) ∧ (w1.alloc (.cells #[.string key, .bool gone, tv] 112)).cell? ⟨wr.heap.size, 2, none⟩ = some (.slice pa val.length pc)) ∧
     (w'.cell? ⟨wr.heap.size, 0, none⟩ = some (.string key) ∧ w'.cell? ⟨wr.heap.size, 1, none⟩ = some (.bool gone) ∧ w'.cell? ⟨wr.heap.size, 2, none⟩ = some (.slice pa val.length pc)) := fun w1 tv hkw ht => by
    obtain ⟨a', k', w', hrun, hat, hk', hb'⟩ := hpush w1 tv hkw (ht.base (by show wr.heap.size ≤ (wr.alloc _).heap.size; rw [World.size_alloc]; omega))
    have hB1 : w1.heap[wr.heap.size]? = some (.cells #[.string key, .bool gone, .slice pa val.length pc] 38 (0, 0)) := hkw.at (w := (wr.alloc _).drew) hB (fun e => e)
    have hB2 : (w1.alloc (.cells #[.string key, .bool gone, tv] 112)).heap[wr.heap.size]? = some (.cells #[.string key, .bool gone, .slice pa val.length pc] 38 (0, 0)) := ((Keeps.refl (fun _ => False) w1).alloc _).at hB1 (fun e => e)
    have hB' := hk'.at hB1 (fun e => by have := hown _ e; omega)
    exact ⟨a', _, k', w', hrun, hat, ((hq.trans hkB (fun _ _ e => e)).trans hkw (fun _ _ e => e)).trans hk' (fun b hb e => by have := hb' b e; omega), ⟨cell_at hB1 rfl, cell_at hB1 rfl, cell_at hB1 rfl⟩, ⟨cell_at hB2 rfl, cell_at hB2 rfl, cell_at hB2 rfl⟩, ⟨cell_at hB' rfl, cell_at hB' rfl, cell_at hB' rfl⟩⟩
   have HPU := hyd hpush2
   have HS := hyd (show (wr.alloc (.cells #[.string key, .bool gone, .slice pa val.length pc] 38)).drew.cell? ⟨wr.heap.size, 0, none⟩ = some (.string key) ∧ (wr.alloc (.cells #[.string key, .bool gone, .slice pa val.length pc] 38)).drew.cell? ⟨wr.heap.size, 1, none⟩ = some (.bool gone) ∧ (wr.alloc (.cells #[.string key, .bool gone, .slice pa val.length pc] 38)).drew.cell? ⟨wr.heap.size, 2, none⟩ = some (.slice pa val.length pc) from ⟨cell_at (i := 0) hB rfl, cell_at (i := 1) hB rfl, cell_at (i := 2) hB rfl⟩)
   clear hpush hpush2 hown hB hkB hp hvl hch ho hq htk hlt hk
   go_wp2_with fail
   generalize wr.alloc (.cells #[.string key, .bool gone, .slice pa val.length pc] 38) = W at HTW HPU HS ⊢
   go_region_held3 (fun w' => w'.cell? ⟨wr.heap.size, 0, none⟩ = some (.string key) ∧ w'.cell? ⟨wr.heap.size, 1, none⟩ = some (.bool gone) ∧ w'.cell? ⟨wr.heap.size, 2, none⟩ = some (.slice pa val.length pc)) (first | exact HS.out | exact s1 | exact s2 | exact s3 | go_keep) (first | (go_at_call 20; refine HTW.out.mono ?_; rintro e w1 ⟨tv, rfl, hv1, hk1'⟩; obtain ⟨ta, tn, tc, rfl⟩ := slice_form2 hv1; obtain ⟨a2, n2, c2, w2, hrun2, hat2, hkk2, s1, s2, s3⟩ := HPU.out w1 (.slice ta tn tc) hk1' hv1) | (refine step_append_run rfl _ _ _ _ rfl rfl rfl hrun2 ?_))
   all_goals
    have HREL := hyd (⟨k + 1, hk1, rfl, hat2, hkk2⟩ : ∃ k' : Nat, k' ≤ l.length ∧ Value.int .i64 ((k + 1 : Nat) : Int) = .int .i64 (k' : Int) ∧ TChsAt 112 w.heap.size w2 (.slice a2 n2 c2) (l.take k') ∧ Keeps (fun _ => False) w w2)
    clear hat2 hkk2 hrun2 s1 s2 s3 hv1 hk1'
    go_wp2_with fail
    go_roundw
    case rel => exact HREL.out
    case measure => simp [intOf]; omega
  ·obtain rfl : k = l.length := by omega
   rw [List.take_length] at ho
   have HF := hyd (⟨_, rfl, ho, hq⟩ : ToPost w l (.returned (.slice oa on oc)) wr)
   clear ho hq hlt hk
   go_wp2_with fail
   go_ret
   exact HF.out
end Go.Proofs.YtddnikpdmjogiaaGreat
