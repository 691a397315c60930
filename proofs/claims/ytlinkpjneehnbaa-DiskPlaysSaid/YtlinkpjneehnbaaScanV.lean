/- The records that bytes begin with: plain. -/
import Derived.Test.YtlinkpjneehnbaaFrame
namespace Go.Proofs.Ytlinkpjneehnbaa
open Go.RowKit Go.MapKept

/-! ### Numbers as bytes, there and back -/
theorem snoc_cases {α : Type} (l : List α) {k : Nat} (h : l.length = k + 1) : ∃ m c, l = m ++ [c] ∧ m.length = k := by
  refine ⟨l.dropLast, l.getLast (by intro e; rw [e] at h; simp at h), (List.dropLast_concat_getLast _).symm, by simp [h]⟩
theorem putOf_getOf : ∀ (k : Nat) (l : List UInt8), l.length = k → putOf (getOf l) k = l
  | 0, l, h => by rw [List.eq_nil_of_length_eq_zero h]; rfl
  | k + 1, l, h => by
    obtain ⟨m, c, rfl, hm⟩ := snoc_cases l h
    have hc := c.toNat_lt
    rw [getOf_snoc, putOf, show (getOf m * 256 + c.toNat) / 256 = getOf m by omega, show (getOf m * 256 + c.toNat) % 256 = c.toNat by omega, putOf_getOf k m hm]
    simp
theorem getOf_putOf : ∀ (k n : Nat), n < 256 ^ k → getOf (putOf n k) = n
  | 0, n, h => by simp at h; subst h; rfl
  | k + 1, n, h => by
    rw [Nat.pow_succ] at h
    rw [putOf, getOf_snoc, getOf_putOf k (n / 256) (by omega), UInt8.toNat_ofNat']
    omega
theorem putOf_inj {k a b : Nat} (ha : a < 256 ^ k) (hb : b < 256 ^ k) (h : putOf a k = putOf b k) : a = b := by
  rw [← getOf_putOf k a ha, h, getOf_putOf k b hb]

/-! ### A frame at a place -/
def recAt (l : List UInt8) (a : Nat) : List UInt8 := (l.drop (a + 8)).take (wordOf l a)
/-- There is a whole record at the place. -/
def FrameAt (l : List UInt8) (a : Nat) : Prop :=
  a + 8 ≤ l.length ∧ wordOf l a ≤ 1048576 ∧ a + 8 + wordOf l a ≤ l.length ∧ crcOf (putOf (wordOf l a) 4 ++ recAt l a) = wordOf l (a + 4)
instance (l : List UInt8) (a : Nat) : Decidable (FrameAt l a) := by unfold FrameAt; infer_instance
def scanFrom (l : List UInt8) : Nat → Nat → List (List UInt8) × Nat
  | 0, a => ([], a)
  | f + 1, a => if FrameAt l a then (recAt l a :: (scanFrom l f (a + 8 + wordOf l a)).1, (scanFrom l f (a + 8 + wordOf l a)).2) else ([], a)
/-- The records of bytes, and how many bytes they have. -/
def scanOf (l : List UInt8) : List (List UInt8) × Nat := scanFrom l (l.length + 1) 0

theorem recAt_length {l : List UInt8} {a : Nat} (h : a + 8 + wordOf l a ≤ l.length) : (recAt l a).length = wordOf l a := by
  unfold recAt; rw [List.length_take, List.length_drop]; omega
theorem take_split {α : Type} (l : List α) (a i j : Nat) : (l.drop a).take (i + j) = (l.drop a).take i ++ (l.drop (a + i)).take j := by
  rw [List.take_add, List.drop_drop]
/-- The document's test is the program's. -/
theorem frame_eq {l : List UInt8} {a : Nat} (h8 : a + 8 ≤ l.length) (h : a + 8 + wordOf l a ≤ l.length) :
    frameOf (recAt l a) = (l.drop a).take (8 + wordOf l a) ↔ crcOf (putOf (wordOf l a) 4 ++ recAt l a) = wordOf l (a + 4) := by
  have hl := recAt_length h
  have e : (l.drop a).take (8 + wordOf l a) = (l.drop a).take 4 ++ (l.drop (a + 4)).take 4 ++ recAt l a := by
    rw [show (8 : Nat) = 4 + 4 by rfl, take_split, take_split]
    rfl
  have e1 : putOf (wordOf l a) 4 = (l.drop a).take 4 := putOf_getOf 4 _ (by rw [List.length_take, List.length_drop]; omega)
  have e2 : putOf (wordOf l (a + 4)) 4 = (l.drop (a + 4)).take 4 := putOf_getOf 4 _ (by rw [List.length_take, List.length_drop]; omega)
  unfold frameOf
  rw [hl, e, e1]
  constructor
  · intro h2
    have h3 := List.append_cancel_right h2
    have h4 := List.append_cancel_left h3
    rw [← e2] at h4
    exact putOf_inj (crcOf_lt _) (wordOf_lt l (a + 4) (by omega)) h4
  · intro h2
    rw [h2, e2]

/-- A word of bytes that stand in others. -/
theorem wordOf_mid {pre x post : List UInt8} (hx : x.length = 4) : wordOf (pre ++ (x ++ post)) pre.length = getOf x := by
  unfold wordOf
  rw [List.drop_left, List.take_append_of_le_length (by omega), List.take_of_length_le (by omega)]
theorem wordOf_at {l pre x post : List UInt8} {a : Nat} (e : l = pre ++ (x ++ post)) (ha : a = pre.length) (hx : x.length = 4) : wordOf l a = getOf x := by
  subst e; subst ha; exact wordOf_mid hx
/-- A frame that was laid is found. -/
theorem frame_found {l pre p post : List UInt8} (e : l = pre ++ (frameOf p ++ post)) (hp : p.length ≤ 1048576) : wordOf l pre.length = p.length ∧ recAt l pre.length = p ∧ FrameAt l pre.length := by
  have hf : frameOf p = putOf p.length 4 ++ putOf (crcOf (putOf p.length 4 ++ p)) 4 ++ p := rfl
  have w1 : wordOf l pre.length = p.length := by
    rw [wordOf_at (x := putOf p.length 4) (pre := pre) (post := putOf (crcOf (putOf p.length 4 ++ p)) 4 ++ (p ++ post)) (by rw [e, hf]; simp only [List.append_assoc]) rfl (putOf_length _ _)]
    exact getOf_putOf 4 _ (by omega)
  have w2 : wordOf l (pre.length + 4) = crcOf (putOf p.length 4 ++ p) := by
    rw [wordOf_at (x := putOf (crcOf (putOf p.length 4 ++ p)) 4) (pre := pre ++ putOf p.length 4) (post := p ++ post) (by rw [e, hf]; simp only [List.append_assoc]) (by rw [List.length_append, putOf_length]) (putOf_length _ _)]
    exact getOf_putOf 4 _ (crcOf_lt _)
  have hr : recAt l pre.length = p := by
    unfold recAt
    rw [w1]
    have : l = (pre ++ putOf p.length 4 ++ putOf (crcOf (putOf p.length 4 ++ p)) 4) ++ (p ++ post) := by rw [e, hf]; simp only [List.append_assoc]
    rw [this, show pre.length + 8 = (pre ++ putOf p.length 4 ++ putOf (crcOf (putOf p.length 4 ++ p)) 4).length by simp only [List.length_append, putOf_length], List.drop_left, List.take_append_of_le_length (Nat.le_refl _), List.take_length]
  have hlen : l.length = pre.length + 8 + p.length + post.length := by
    rw [e, List.length_append, List.length_append, frameOf_length]; omega
  refine ⟨w1, hr, ?_, ?_, ?_, ?_⟩
  · omega
  · omega
  · omega
  · rw [hr, w1, w2]

def framesOf (rs : List (List UInt8)) : List UInt8 := (rs.map frameOf).flatten
theorem framesOf_nil : framesOf [] = [] := rfl
theorem framesOf_cons (p : List UInt8) (rs : List (List UInt8)) : framesOf (p :: rs) = frameOf p ++ framesOf rs := rfl
theorem framesOf_append (a b : List (List UInt8)) : framesOf (a ++ b) = framesOf a ++ framesOf b := by simp [framesOf]
/-- Scanning goes on behind frames that stand there. -/
theorem scan_frames : ∀ (rs : List (List UInt8)) (l pre post : List UInt8) (f : Nat), (∀ p ∈ rs, p.length ≤ 1048576) → l = pre ++ (framesOf rs ++ post) →
    scanFrom l (rs.length + f) pre.length = (rs ++ (scanFrom l f (pre ++ framesOf rs).length).1, (scanFrom l f (pre ++ framesOf rs).length).2)
  | [], l, pre, post, f, _, _ => by simp [framesOf_nil]
  | p :: rs, l, pre, post, f, h, e => by
    have e1 : l = pre ++ (frameOf p ++ (framesOf rs ++ post)) := by rw [e, framesOf_cons]; simp only [List.append_assoc]
    obtain ⟨w1, r1, f1⟩ := frame_found e1 (h p (List.mem_cons_self ..))
    have e2 : l = (pre ++ frameOf p) ++ (framesOf rs ++ post) := by rw [e1]; simp only [List.append_assoc]
    have ih := scan_frames rs l (pre ++ frameOf p) post f (fun q hq => h q (List.mem_cons_of_mem _ hq)) e2
    have ea : pre.length + 8 + p.length = (pre ++ frameOf p).length := by rw [List.length_append, frameOf_length]; omega
    rw [show (p :: rs).length + f = (rs.length + f) + 1 by simp; omega, scanFrom, if_pos f1, w1, r1, ea, ih, framesOf_cons]
    simp only [List.append_assoc, List.cons_append]
/-- Enough rounds are enough. -/
theorem scan_fuel {l : List UInt8} : ∀ (f g a : Nat), l.length < a + f → l.length < a + g → scanFrom l f a = scanFrom l g a
  | 0, 0, _, _, _ => rfl
  | 0, g + 1, a, h, _ => by
    rw [scanFrom, scanFrom, if_neg (by unfold FrameAt; omega)]
  | f + 1, 0, a, _, h => by
    rw [scanFrom, scanFrom, if_neg (by unfold FrameAt; omega)]
  | f + 1, g + 1, a, h1, h2 => by
    rw [scanFrom, scanFrom]
    by_cases hf : FrameAt l a
    · rw [if_pos hf, if_pos hf]
      have e := scan_fuel (l := l) f g (a + 8 + wordOf l a) (by omega) (by omega)
      rw [e]
    · rw [if_neg hf, if_neg hf]
theorem scan_of_frames {rs : List (List UInt8)} {l post : List UInt8} (h : ∀ p ∈ rs, p.length ≤ 1048576) (e : l = framesOf rs ++ post) :
    scanOf l = (rs ++ (scanFrom l (l.length + 1) (framesOf rs).length).1, (scanFrom l (l.length + 1) (framesOf rs).length).2) := by
  have := scan_frames rs l [] post (l.length + 1) h (by rw [e]; rfl)
  unfold scanOf
  rw [scan_fuel (l.length + 1) (rs.length + (l.length + 1)) 0 (by omega) (by omega)]
  simpa using this
/-- Frames alone. -/
theorem scan_whole {rs : List (List UInt8)} (h : ∀ p ∈ rs, p.length ≤ 1048576) : scanOf (framesOf rs) = (rs, (framesOf rs).length) := by
  rw [scan_of_frames (post := []) h (by simp)]
  rw [show scanFrom (framesOf rs) ((framesOf rs).length + 1) (framesOf rs).length = ([], (framesOf rs).length) by rw [scanFrom, if_neg (by unfold FrameAt; omega)]]
  simp
theorem scanFrom_le {l : List UInt8} : ∀ (f a : Nat), a ≤ l.length → (scanFrom l f a).2 ≤ l.length
  | 0, a, h => h
  | f + 1, a, h => by
    rw [scanFrom]
    split
    · rename_i hf; exact scanFrom_le f _ hf.2.2.1
    · exact h
theorem scanOf_le (l : List UInt8) : (scanOf l).2 ≤ l.length := scanFrom_le _ _ (Nat.zero_le _)
theorem scanFrom_small {l : List UInt8} : ∀ (f a : Nat), ∀ p ∈ (scanFrom l f a).1, p.length ≤ 1048576
  | 0, a, p, hp => by simp [scanFrom] at hp
  | f + 1, a, p, hp => by
    rw [scanFrom] at hp
    split at hp
    · rename_i hf
      rcases List.mem_cons.1 hp with rfl | hp
      · rw [recAt_length hf.2.2.1]; exact hf.2.1
      · exact scanFrom_small f _ p hp
    · simp at hp
/-- What was found stands there. -/
theorem scanFrom_frames {l : List UInt8} : ∀ (f a : Nat), a ≤ l.length → (scanFrom l f a).2 = a + (framesOf (scanFrom l f a).1).length ∧ (l.drop a).take (framesOf (scanFrom l f a).1).length = framesOf (scanFrom l f a).1
  | 0, a, h => by simp [scanFrom, framesOf_nil]
  | f + 1, a, h => by
    rw [scanFrom]
    by_cases hf : FrameAt l a
    · rw [if_pos hf]
      obtain ⟨h1, h2, h3, h4⟩ := hf
      obtain ⟨i1, i2⟩ := scanFrom_frames f (a + 8 + wordOf l a) h3
      have hfr := (frame_eq h1 h3).2 h4
      have hl := recAt_length h3
      simp only [framesOf_cons]
      constructor
      · rw [i1, List.length_append, frameOf_length, hl]; omega
      · rw [List.length_append, take_split, frameOf_length, hl, ← hfr]
        congr 1
        rw [show a + (8 + wordOf l a) = a + 8 + wordOf l a by omega]
        exact i2
    · rw [if_neg hf]; simp [framesOf_nil]
end Go.Proofs.Ytlinkpjneehnbaa
