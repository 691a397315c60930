/- Things in new memory that do not touch, and what is held of them from call to call. -/
import Derived.Test.YtlinkpjneehnbaaSync
import Derived.Test.YtlinkpjneehnbaaOctet
namespace Go.Proofs.Ytlinkpjneehnbaa
open Go.RowKit Go.MapKept

/-- A thing in memory: it stays what it is where its own blocks, and those below B, stay as they are. -/
structure Res (B : Nat) where
  is : (Nat → Prop) → World → Prop
  keep : ∀ (F : Nat → Prop) (w w' : World), is F w → (∀ b, F b ∨ b < B → w'.heap[b]? = w.heap[b]?) → is F w'

/-- A thing, with its blocks, all of them new. -/
def ResAt (B : Nat) (w : World) (F : Nat → Prop) (r : Res B) : Prop := r.is F w ∧ ∀ b, F b → B ≤ b ∧ b < w.heap.size
def Apart (F G : Nat → Prop) : Prop := ∀ b, F b → ¬ G b
/-- Since w nothing that was there has turned; these things are there, and don't touch. -/
def Own (w wr : World) (rs : List (Res w.heap.size)) : Prop :=
  Keeps (fun _ => False) w wr ∧ ∃ Fs : List (Nat → Prop), Rel2 (ResAt w.heap.size wr) Fs rs ∧ Fs.Pairwise Apart

theorem ResAt.keeps {B : Nat} {w w' : World} {F G : Nat → Prop} {r : Res B} (h : ResAt B w G r) (hB : B ≤ w.heap.size) (hk : Keeps F w w') (hF : ∀ b, F b → B ≤ b) (hd : ∀ b, G b → ¬ F b) : ResAt B w' G r :=
  ⟨r.keep G w w' h.1 (fun b hb => hk.block b (by rcases hb with hb | hb; exact (h.2 b hb).2; omega) (fun e => by rcases hb with hb | hb; exact hd b hb e; have := hF b e; omega)), fun b hb => ⟨(h.2 b hb).1, Nat.lt_of_lt_of_le (h.2 b hb).2 hk.size⟩⟩
theorem rel_keeps {B : Nat} {w w' : World} {F : Nat → Prop} (hB : B ≤ w.heap.size) (hk : Keeps F w w') (hF : ∀ b, F b → B ≤ b) : ∀ {Gs : List (Nat → Prop)} {rs : List (Res B)}, Rel2 (ResAt B w) Gs rs → (∀ G ∈ Gs, ∀ b, G b → ¬ F b) → Rel2 (ResAt B w') Gs rs
  | [], [], _, _ => trivial
  | _ :: _, _ :: _, h, hd => ⟨h.1.keeps hB hk hF (hd _ (List.mem_cons_self ..)), rel_keeps hB hk hF h.2 (fun G hG => hd G (List.mem_cons_of_mem _ hG))⟩
  | [], _ :: _, h, _ => h.elim
  | _ :: _, [], h, _ => h.elim
theorem rel_bound {B : Nat} {w : World} : ∀ {Gs : List (Nat → Prop)} {rs : List (Res B)}, Rel2 (ResAt B w) Gs rs → ∀ G ∈ Gs, ∀ b, G b → B ≤ b ∧ b < w.heap.size
  | [], [], _, G, hG, _, _ => by simp at hG
  | F :: Gs, r :: rs, h, G, hG, b, hb => by
    rcases List.mem_cons.1 hG with rfl | hG
    · exact h.1.2 b hb
    · exact rel_bound h.2 G hG b hb
  | [], _ :: _, h, _, _, _, _ => h.elim
  | _ :: _, [], h, _, _, _, _ => h.elim

theorem Own.start (w : World) : Own w w [] := ⟨Keeps.refl _ _, [], trivial, List.Pairwise.nil⟩
theorem Own.keeps {w wr : World} {rs : List (Res w.heap.size)} (h : Own w wr rs) : Keeps (fun _ => False) w wr := h.1
theorem Own.below {w wr : World} {rs : List (Res w.heap.size)} (h : Own w wr rs) : Below w.heap.size w wr := h.1.below
theorem Own.quiet {w wr w' : World} {rs : List (Res w.heap.size)} (h : Own w wr rs) (hk : Keeps (fun _ => False) wr w') : Own w w' rs := by
  obtain ⟨k, Fs, hr, hp⟩ := h
  exact ⟨k.trans hk (fun _ _ e => e), Fs, rel_keeps k.size hk (fun _ e => e.elim) hr (fun _ _ _ _ e => e), hp⟩
/-- The first thing is taken, and laid back turned. -/
theorem Own.open1 {w wr : World} {r : Res w.heap.size} {rs : List (Res w.heap.size)} (h : Own w wr (r :: rs)) :
    ∃ F : Nat → Prop, r.is F wr ∧ (∀ b, F b → w.heap.size ≤ b ∧ b < wr.heap.size) ∧ ∀ (w' : World) (r' : Res w.heap.size), Keeps F wr w' → r'.is (Ext F wr w') w' → Own w w' (r' :: rs) := by
  obtain ⟨k, Fs, hr, hp⟩ := h
  match Fs, hr, hp with
  | F :: Gs, hr, hp =>
    have hp' := List.pairwise_cons.1 hp
    refine ⟨F, hr.1.1, hr.1.2, fun w' r' hk h' => ⟨k.trans hk (fun b hb e => by have := (hr.1.2 b e).1; omega), Ext F wr w' :: Gs, ⟨⟨h', fun b hb => ?_⟩, rel_keeps k.size hk (fun b e => (hr.1.2 b e).1) hr.2 (fun G hG b hb e => hp'.1 G hG b e hb)⟩, List.pairwise_cons.2 ⟨fun G hG b hb e => ?_, hp'.2⟩⟩⟩
    · have := k.size
      have := hk.size
      rcases hb with hb | hb
      · have := hr.1.2 b hb; omega
      · omega
    · rcases hb with hb | hb
      · exact hp'.1 G hG b hb e
      · have := rel_bound hr.2 G hG b e; omega
/-- The first two things are taken, and laid back turned. -/
theorem Own.open2 {w wr : World} {r s : Res w.heap.size} {rs : List (Res w.heap.size)} (h : Own w wr (r :: s :: rs)) :
    ∃ F G : Nat → Prop, r.is F wr ∧ s.is G wr ∧ Apart F G ∧ (∀ b, F b → w.heap.size ≤ b ∧ b < wr.heap.size) ∧ (∀ b, G b → w.heap.size ≤ b ∧ b < wr.heap.size) ∧
      ∀ (w' : World) (r' s' : Res w.heap.size) (F' G' : Nat → Prop), Keeps (fun b => F b ∨ G b) wr w' → r'.is F' w' → s'.is G' w' → (∀ b, F' b → Ext (fun b => F b ∨ G b) wr w' b) → (∀ b, G' b → Ext (fun b => F b ∨ G b) wr w' b) → Apart F' G' → Own w w' (r' :: s' :: rs) := by
  obtain ⟨k, Fs, hr, hp⟩ := h
  match Fs, hr, hp with
  | F :: G :: Gs, hr, hp =>
    have hp1 := List.pairwise_cons.1 hp
    have hp2 := List.pairwise_cons.1 hp1.2
    have hFG : ∀ b, (F b ∨ G b) → w.heap.size ≤ b ∧ b < wr.heap.size := fun b hb => by rcases hb with hb | hb; exact hr.1.2 b hb; exact hr.2.1.2 b hb
    have hapart : ∀ H ∈ Gs, ∀ b, (F b ∨ G b) → ¬ H b := fun H hH b hb => by rcases hb with hb | hb; exact hp1.1 H (List.mem_cons_of_mem _ hH) b hb; exact hp2.1 H hH b hb
    refine ⟨F, G, hr.1.1, hr.2.1.1, hp1.1 G (List.mem_cons_self ..), hr.1.2, hr.2.1.2, fun w' r' s' F' G' hk h1 h2 e1 e2 ha => ⟨k.trans hk (fun b hb e => by have := (hFG b e).1; omega), F' :: G' :: Gs, ⟨⟨h1, ?_⟩, ⟨h2, ?_⟩, rel_keeps k.size hk (fun b e => (hFG b e).1) hr.2.2 (fun H hH b hb e => hapart H hH b e hb)⟩, List.pairwise_cons.2 ⟨fun H hH => ?_, List.pairwise_cons.2 ⟨fun H hH => ?_, hp2.2⟩⟩⟩⟩
    · intro b hb
      have := k.size
      have := hk.size
      rcases e1 b hb with hb | hb
      · have := hFG b hb; omega
      · omega
    · intro b hb
      have := k.size
      have := hk.size
      rcases e2 b hb with hb | hb
      · have := hFG b hb; omega
      · omega
    · rcases List.mem_cons.1 hH with rfl | hH
      · exact ha
      · intro b hb e
        rcases e1 b hb with hb | hb
        · exact hapart H hH b hb e
        · have := rel_bound hr.2.2 H hH b e; omega
    · intro b hb e
      rcases e2 b hb with hb | hb
      · exact hapart H hH b hb e
      · have := rel_bound hr.2.2 H hH b e; omega
/-- A new thing. -/
theorem Own.add {w wr w' : World} {rs : List (Res w.heap.size)} (h : Own w wr rs) (hk : Keeps (fun _ => False) wr w') {r : Res w.heap.size} {G : Nat → Prop} (hr : r.is G w') (hG : ∀ b, G b → wr.heap.size ≤ b ∧ b < w'.heap.size) : Own w w' (r :: rs) := by
  obtain ⟨k, Fs, hrs, hp⟩ := h
  have hz := k.size
  exact ⟨k.trans hk (fun _ _ e => e), G :: Fs, ⟨⟨hr, fun b hb => by have := hG b hb; omega⟩, rel_keeps hz hk (fun _ e => e.elim) hrs (fun _ _ _ _ e => e)⟩, List.pairwise_cons.2 ⟨fun H hH b hb e => by have := rel_bound hrs H hH b e; have := hG b hb; omega, hp⟩⟩
theorem Own.drop {w wr : World} {r : Res w.heap.size} {rs : List (Res w.heap.size)} (h : Own w wr (r :: rs)) : Own w wr rs := by
  obtain ⟨k, Fs, hr, hp⟩ := h
  match Fs, hr, hp with
  | F :: Gs, hr, hp => exact ⟨k, Gs, hr.2, (List.pairwise_cons.1 hp).2⟩
theorem rel_perm {α β : Type} {R : α → β → Prop} {rs rs' : List β} (h : rs.Perm rs') : ∀ {Fs : List α}, Rel2 R Fs rs → ∃ Fs' : List α, Fs.Perm Fs' ∧ Rel2 R Fs' rs' := by
  induction h with
  | nil => intro Fs hr; exact ⟨Fs, List.Perm.refl _, hr⟩
  | cons x _ ih =>
    intro Fs hr
    match Fs, hr with
    | F :: Gs, hr =>
      obtain ⟨Gs', hp, hr'⟩ := ih hr.2
      exact ⟨F :: Gs', hp.cons F, hr.1, hr'⟩
  | swap x y l =>
    intro Fs hr
    match Fs, hr with
    | F :: G :: Gs, hr => exact ⟨G :: F :: Gs, List.Perm.swap .., hr.2.1, hr.1, hr.2.2⟩
  | trans _ _ h1 h2 =>
    intro Fs hr
    obtain ⟨F1, p1, r1⟩ := h1 hr
    obtain ⟨F2, p2, r2⟩ := h2 r1
    exact ⟨F2, p1.trans p2, r2⟩
theorem Own.perm {w wr : World} {rs rs' : List (Res w.heap.size)} (h : Own w wr rs) (hp : rs.Perm rs') : Own w wr rs' := by
  obtain ⟨k, Fs, hr, ha⟩ := h
  obtain ⟨Fs', p, hr'⟩ := rel_perm hp hr
  exact ⟨k, Fs', hr', (p.pairwise_iff (fun h b hb e => h b e hb)).1 ha⟩
theorem Own.swap {w wr : World} {r s : Res w.heap.size} {rs : List (Res w.heap.size)} (h : Own w wr (r :: s :: rs)) : Own w wr (s :: r :: rs) := h.perm (List.Perm.swap ..)
/-- The third thing ahead. -/
theorem Own.third {w wr : World} {r s t : Res w.heap.size} {rs : List (Res w.heap.size)} (h : Own w wr (r :: s :: t :: rs)) : Own w wr (t :: r :: s :: rs) :=
  h.perm ((List.Perm.cons r (List.Perm.swap ..)).trans (List.Perm.swap ..))
/-- What holds of the first thing. -/
theorem Own.head {w wr : World} {r : Res w.heap.size} {rs : List (Res w.heap.size)} (h : Own w wr (r :: rs)) : ∃ F : Nat → Prop, r.is F wr ∧ ∀ b, F b → w.heap.size ≤ b ∧ b < wr.heap.size := by
  obtain ⟨F, h1, h2, _⟩ := h.open1
  exact ⟨F, h1, h2⟩
/-- The first thing, seen as another one in the same blocks. -/
theorem Own.view {w wr : World} {r r' : Res w.heap.size} {rs : List (Res w.heap.size)} (h : Own w wr (r :: rs)) (hv : ∀ F : Nat → Prop, (∀ b, F b → w.heap.size ≤ b ∧ b < wr.heap.size) → r.is F wr → r'.is F wr) : Own w wr (r' :: rs) := by
  obtain ⟨k, Fs, hr, hp⟩ := h
  match Fs, hr, hp with
  | F :: Gs, hr, hp => exact ⟨k, F :: Gs, ⟨⟨hv F hr.1.2 hr.1.1, hr.1.2⟩, hr.2⟩, hp⟩

/-! ### A disk -/
def rDisk (B d : Nat) (m : DM) : Res B := ⟨fun F w => DiskIs F w d m, fun _ _ _ h hk => h.keep (fun b hb => hk b (.inl hb))⟩
/-- What a call does to a disk that stands among other things. -/
def DOwn (w : World) (d : Nat) (rs : List (Res w.heap.size)) (r : Int × DM) (e : Ending) (w' : World) : Prop := e = .returned (.int .i64 r.1) ∧ Own w w' (rDisk w.heap.size d r.2 :: rs)
theorem Own.disk {w wr : World} {d : Nat} {m : DM} {rs : List (Res w.heap.size)} (h : Own w wr (rDisk w.heap.size d m :: rs)) : ∃ F : Nat → Prop, DiskIs F wr d m ∧ ∀ (r : Int × DM) (e : Ending) (w' : World), DPost F wr d r e w' → DOwn w d rs r e w' := by
  obtain ⟨F, h1, h2, back⟩ := h.open1
  exact ⟨F, h1, fun r e w' hp => ⟨hp.1, back w' (rDisk _ d r.2) hp.2.2 hp.2.1⟩⟩
theorem Own.nodup {w wr : World} {d : Nat} {m : DM} {rs : List (Res w.heap.size)} (h : Own w wr (rDisk w.heap.size d m :: rs)) : FNodup m.now := by
  obtain ⟨F, h1, _⟩ := h.disk
  exact h1.nodup
theorem Own.new {w wr : World} {rs : List (Res w.heap.size)} (h : Own w wr rs) (room : Int) (h0 : 0 ≤ room) (h1 : room ≤ 67108864) :
    ∃ d w', Runs 18 #[.int .i64 room] wr (.tuple #[.pointer (some ⟨d, 0, none⟩), .int .i64 0]) w' ∧ Own w w' (rDisk w.heap.size d (newOf room) :: rs) := by
  obtain ⟨d, w', hr, hd, k⟩ := new_runs wr room h0 h1
  exact ⟨d, w', hr, h.add k (r := rDisk _ d (newOf room)) hd (fun b hb => by rcases hb with hb | hb; exact hb.elim; exact hb)⟩
section
variable {w wr : World} {d : Nat} {m : DM} {rs : List (Res w.heap.size)}
theorem Own.create (h : Own w wr (rDisk w.heap.size d m :: rs)) (n : ByteArray) (hf : m.fuse ≤ 9223372036854775807) (hl : m.loose.length < 1099511627776) :
    ∃ w', Runs 20 #[.pointer (some ⟨d, 0, none⟩), .string n] wr (.int .i64 (createOf m n).1) w' ∧ Own w w' (rDisk w.heap.size d (createOf m n).2 :: rs) := by
  obtain ⟨F, h1, back⟩ := h.disk
  obtain ⟨w', hr, h2, k⟩ := create_runs h1 n hf hl
  exact ⟨w', hr, (back _ (.returned (.int .i64 (createOf m n).1)) w' ⟨rfl, h2, k⟩).2⟩
theorem Own.remove (h : Own w wr (rDisk w.heap.size d m :: rs)) (n : ByteArray) (hf : m.fuse ≤ 9223372036854775807) (hl : m.loose.length < 1099511627776) :
    ∃ w', Runs 23 #[.pointer (some ⟨d, 0, none⟩), .string n] wr (.int .i64 (removeOf m n).1) w' ∧ Own w w' (rDisk w.heap.size d (removeOf m n).2 :: rs) := by
  obtain ⟨F, h1, back⟩ := h.disk
  obtain ⟨w', hr, h2, k⟩ := remove_runs h1 n hf hl
  exact ⟨w', hr, (back _ (.returned (.int .i64 (removeOf m n).1)) w' ⟨rfl, h2, k⟩).2⟩
theorem Own.append (h : Own w wr (rDisk w.heap.size d m :: rs)) (n : ByteArray) {pv : Value} {p : List UInt8} (hp : Reads wr pv p)
    (hr0 : 0 ≤ m.room) (hr1 : m.room ≤ 67108864) (hu : (used m.now : Int) ≤ m.room) (hf : m.fuse ≤ 9223372036854775807) (hl : m.loose.length < 1099511627776) :
    Calls Try.prog 21 #[.pointer (some ⟨d, 0, none⟩), .string n, pv] wr (DOwn w d rs (appendOf m n p)) := by
  have hnd := h.nodup
  obtain ⟨F, h1, back⟩ := h.disk
  exact (append_calls h1 n hp hr0 hr1 hu (used_get hnd n) hf hl).mono fun _ _ hp => back _ _ _ hp
theorem Own.sync (h : Own w wr (rDisk w.heap.size d m :: rs)) (hf : m.fuse ≤ 9223372036854775807)
    (hfits : ∀ k c, m.loose[k]? = some c → Fits ((m.loose.take k).foldl doCh m.sure) c) :
    Calls Try.prog 24 #[.pointer (some ⟨d, 0, none⟩)] wr (DOwn w d rs (syncOf m)) := by
  obtain ⟨F, h1, back⟩ := h.disk
  exact (sync_calls h1 hf hfits).mono fun _ _ hp => back _ _ _ hp
theorem Own.crash (h : Own w wr (rDisk w.heap.size d m :: rs)) (keep part : Int)
    (hfits : ∀ k c, m.loose[k]? = some c → Fits ((m.loose.take k).foldl doCh m.sure) c ∧ ∀ j, Fits ((m.loose.take k).foldl doCh m.sure) { c with p := c.p.take j }) :
    Calls Try.prog 25 #[.pointer (some ⟨d, 0, none⟩), .int .i64 keep, .int .i64 part] wr (DOwn w d rs (0, crashOf m keep part)) := by
  obtain ⟨F, h1, back⟩ := h.disk
  exact (crash_calls h1 keep part hfits).mono fun _ _ hp => back _ _ _ hp
theorem Own.read (h : Own w wr (rDisk w.heap.size d m :: rs)) (n : ByteArray) (at_ k : Int) (hlen : ((fget m.now n).getD []).length ≤ 140737488355328) :
    ∃ v w', Runs 27 #[.pointer (some ⟨d, 0, none⟩), .string n, .int .i64 at_, .int .i64 k] wr (.tuple #[v, .int .i64 (readCode m n at_ k)]) w' ∧ Bytes (fun b => wr.heap.size ≤ b) w' v (readBytes m n at_ k) ∧ Keeps (fun _ => False) wr w' ∧ Own w w' (rDisk w.heap.size d m :: rs) := by
  obtain ⟨F, h1, _⟩ := h.disk
  obtain ⟨v, w', hr, hB, kk⟩ := read_runs h1 n at_ k hlen
  exact ⟨v, w', hr, hB, kk, h.quiet kk⟩
end
end Go.Proofs.Ytlinkpjneehnbaa
