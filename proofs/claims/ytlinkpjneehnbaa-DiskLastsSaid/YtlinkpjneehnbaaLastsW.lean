/- The plain law of DiskLasts, and what is held from call to call by a law that keeps a row of bytes beside its disk. -/
import Derived.Test.YtlinkpjneehnbaaManyW
import Derived.Maps.AppendAt
namespace Go.Proofs.Ytlinkpjneehnbaa
open Go.RowKit Go.MapKept

/-! ### A disk and a row of bytes -/
theorem owns_keep {w w' : World} {base n : Nat} {v : Value} {xs : List Value} (h : w.ownsRow base 5 1 v n xs) {F : Nat → Prop} (hk : Keeps F w w') (hF : ∀ b, v.ownBlock = some b → ¬ F b) : w'.ownsRow base 5 1 v n xs := by
  obtain ⟨h1, h2⟩ := h
  refine ⟨h1, ?_⟩
  rcases h2 with h2 | ⟨g, cap, cur, rfl, hg, hb, h3, h4, h5, h6⟩
  · exact .inl h2
  · exact .inr ⟨g, cap, cur, rfl, hg, hk.at hb (hF g rfl), h3, h4, h5, h6⟩
theorem owns_lt {w : World} {base n : Nat} {v : Value} {xs : List Value} (h : w.ownsRow base 5 1 v n xs) : ∀ b, v.ownBlock = some b → b < w.heap.size ∧ base ≤ b := by
  rcases h.2 with ⟨rfl, _⟩ | ⟨g, cap, cur, rfl, hg, hb, _⟩
  · intro b hb; cases hb
  · intro b hb'
    cases hb'
    exact ⟨lt_of_heap hb, hg⟩

/-- Since w nothing that was there has turned; d is a disk in new memory that reads as m; v is a row of new memory beside it, with the bytes l. -/
def LState (w wr : World) (d : Nat) (m : DM) (v : Value) (l : List UInt8) : Prop :=
  ∃ F : Nat → Prop, Keeps (fun _ => False) w wr ∧ (∀ b, F b → w.heap.size ≤ b) ∧ DiskIs F wr d m ∧ wr.ownsRow w.heap.size 5 1 v l.length (l.map u8v) ∧ ∀ b, v.ownBlock = some b → ¬ F b

theorem LState.start {w wr : World} {d : Nat} {m : DM} (h : Since w wr d m) : LState w wr d m (.slice none 0 0) [] :=
  ⟨_, h.1, fun b hb => by rcases hb with hb | hb; exact hb.elim; exact hb.1, h.2, ⟨rfl, .inl ⟨rfl, rfl⟩⟩, fun b hb => by cases hb⟩
theorem LState.since {w wr : World} {d : Nat} {m : DM} {v : Value} {l : List UInt8} (h : LState w wr d m v l) : Since w wr d m := by
  obtain ⟨F, k, hF, hd, _, _⟩ := h
  exact ⟨k, hd.wider (fun b hb => .inr ⟨hF b hb, hd.lt b hb⟩) (fun b hb => by rcases hb with hb | hb; exact hb.elim; exact hb.2)⟩
theorem LState.nodup {w wr : World} {d : Nat} {m : DM} {v : Value} {l : List UInt8} (h : LState w wr d m v l) : FNodup m.now := h.since.2.nodup
theorem LState.bytes {w wr : World} {d : Nat} {m : DM} {v : Value} {l : List UInt8} (h : LState w wr d m v l) : Bytes (fun b => w.heap.size ≤ b) wr v l := by
  obtain ⟨F, _, _, _, ho, _⟩ := h
  exact bytes_of_owns ho
theorem LState.quiet {w wr w' : World} {d : Nat} {m : DM} {v : Value} {l : List UInt8} (h : LState w wr d m v l) (hk : Keeps (fun _ => False) wr w') : LState w w' d m v l := by
  obtain ⟨F, k, hF, hd, ho, hn⟩ := h
  exact ⟨F, k.trans hk (fun _ _ e => e), hF, hd.keeps hk (fun _ _ e => e), owns_keep ho hk (fun _ _ e => e), hn⟩
theorem LState.post {w wr w' : World} {d : Nat} {m' : DM} {v : Value} {l : List UInt8} {F : Nat → Prop} (k : Keeps (fun _ => False) w wr) (hF : ∀ b, F b → w.heap.size ≤ b) (ho : wr.ownsRow w.heap.size 5 1 v l.length (l.map u8v)) (hn : ∀ b, v.ownBlock = some b → ¬ F b)
    (h2 : DiskIs (Ext F wr w') w' d m') (hk : Keeps F wr w') : LState w w' d m' v l := by
  refine ⟨Ext F wr w', k.trans hk (fun b hb e => by have := hF b e; omega), fun b hb => ?_, h2, owns_keep ho hk hn, fun b hb e => ?_⟩
  · have := k.size
    rcases hb with hb | hb
    · exact hF b hb
    · omega
  · have := owns_lt ho b hb
    rcases e with e | e
    · exact hn b hb e
    · omega
/-- What a call that answers a number does to them. -/
def LPost (w : World) (d : Nat) (v : Value) (l : List UInt8) (r : Int × DM) (e : Ending) (w' : World) : Prop := e = .returned (.int .i64 r.1) ∧ LState w w' d r.2 v l
theorem LState.append {w wr : World} {d : Nat} {m : DM} {v : Value} {l : List UInt8} (h : LState w wr d m v l) (n : ByteArray) {pv : Value} {p : List UInt8} (hp : Reads wr pv p)
    (hr0 : 0 ≤ m.room) (hr1 : m.room ≤ 67108864) (hu : (used m.now : Int) ≤ m.room) (hf : m.fuse ≤ 9223372036854775807) (hl : m.loose.length < 1099511627776) :
    Calls Try.prog 21 #[.pointer (some ⟨d, 0, none⟩), .string n, pv] wr (LPost w d v l (appendOf m n p)) := by
  have hnd := h.nodup
  obtain ⟨F, k, hF, hd, ho, hn⟩ := h
  exact (append_calls hd n hp hr0 hr1 hu (used_get hnd n) hf hl).mono fun _ _ hp => ⟨hp.1, LState.post k hF ho hn hp.2.1 hp.2.2⟩
theorem LState.sync {w wr : World} {d : Nat} {m : DM} {v : Value} {l : List UInt8} (h : LState w wr d m v l) (hf : m.fuse ≤ 9223372036854775807)
    (hfits : ∀ k c, m.loose[k]? = some c → Fits ((m.loose.take k).foldl doCh m.sure) c) :
    Calls Try.prog 24 #[.pointer (some ⟨d, 0, none⟩)] wr (LPost w d v l (syncOf m)) := by
  obtain ⟨F, k, hF, hd, ho, hn⟩ := h
  exact (sync_calls hd hf hfits).mono fun _ _ hp => ⟨hp.1, LState.post k hF ho hn hp.2.1 hp.2.2⟩
theorem LState.crash {w wr : World} {d : Nat} {m : DM} {v : Value} {l : List UInt8} (h : LState w wr d m v l) (keep part : Int)
    (hfits : ∀ k c, m.loose[k]? = some c → Fits ((m.loose.take k).foldl doCh m.sure) c ∧ ∀ j, Fits ((m.loose.take k).foldl doCh m.sure) { c with p := c.p.take j }) :
    Calls Try.prog 25 #[.pointer (some ⟨d, 0, none⟩), .int .i64 keep, .int .i64 part] wr (LPost w d v l (0, crashOf m keep part)) := by
  obtain ⟨F, k, hF, hd, ho, hn⟩ := h
  exact (crash_calls hd keep part hfits).mono fun _ _ hp => ⟨hp.1, LState.post k hF ho hn hp.2.1 hp.2.2⟩
/-- 'all = append(all, p...)'. -/
theorem LState.grow {w wr : World} {d : Nat} {m : DM} {v : Value} {l : List UInt8} (h : LState w wr d m v l) {pv : Value} {p : List UInt8} (hp : Reads wr pv p) (hb : l.length + p.length ≤ 140737488355328) :
    ∃ v' w', (Builtin.append_ #[31, 31] 31 #[v, pv]).run Try.prog wr = .ok v' w' ∧ LState w w' d m v' (l ++ p) := by
  obtain ⟨F, k, hF, hd, ho, hn⟩ := h
  obtain ⟨i0, hi, hz0, hz1, hz2⟩ := info_parts info_u8
  rcases hp with ⟨rfl, rfl⟩ | ⟨x, c, rfl, h1, h2, h3⟩
  · refine ⟨v, wr, append_none 31 31 31 5 i0 Try.underlying31 Try.underlying31 hi (by rw [hz1]) (bytes_of_owns ho) (.inl ⟨rfl, rfl⟩), F, k, hF, hd, ?_, hn⟩
    rw [List.append_nil]; exact ho
  · have hz := k.size
    obtain ⟨v', w', hrun, ho2, hg, _, hat⟩ := run_append_own_at (P := Try.prog) wr w.heap.size 31 31 5 i0 _ 1 1 Try.underlying31 hi hz0 hz1 hz2 (by rfl) (by omega) v l.length (l.map u8v) ho x p.length c (p.map u8v) (by simp) h3 (u8v_one _) (by unfold maxLen; omega) (by omega) hz
    have hkg := Keeps.of_grown hg
    refine ⟨v', w', hrun, F, k.trans hkg (fun b hb e => ?_), hF, hd.keeps hkg (fun b hb e => hn b e hb), ?_, fun b hb e => ?_⟩
    · have := owns_lt ho b e; omega
    · rw [← List.map_append, ← List.length_append] at ho2; exact ho2
    · rcases hat with hat | hat
      · rw [hat] at hb; exact hn b hb e
      · rw [hat] at hb
        cases hb
        have := hd.lt _ e
        omega
/-- A row of new memory is nil and empty, or it has room. -/
theorem LState.form {w wr : World} {d : Nat} {m : DM} {v : Value} {l : List UInt8} (h : LState w wr d m v l) : ∃ a c, v = .slice a l.length c ∧ l.length ≤ c ∧ c ≤ maxLen := h.bytes.form

theorem LState.shape {w wr : World} {d : Nat} {m : DM} {v : Value} {l : List UInt8} (h : LState w wr d m v l) : (v = .slice none 0 0 ∧ l = []) ∨ ∃ g c, v = .slice (some ⟨g, 0, none⟩) l.length c ∧ l.length ≤ c ∧ c ≤ maxLen := by
  obtain ⟨F, _, _, _, ho, _⟩ := h
  rcases ho.2 with ⟨h1, h2⟩ | ⟨g, c, cur, h1, _, _, h2, h3, _⟩
  · exact .inl ⟨h1, List.eq_nil_of_length_eq_zero h2⟩
  · exact .inr ⟨g, c, h1, h2, h3⟩

/-! ### The law -/
def nmF : ByteArray := ⟨#[102]⟩
def chF (p : List UInt8) : Ch := ⟨1, nmF, ⟨#[]⟩, p⟩
theorem do_one (c p : List UInt8) : doCh [(nmF, c)] (chF p) = [(nmF, c ++ p)] := by
  simp [doCh, chF, fput, fdel, fins, fget]
theorem do_all : ∀ (ps : List (List UInt8)) (c : List UInt8), (ps.map chF).foldl doCh [(nmF, c)] = [(nmF, c ++ ps.flatten)]
  | [], c => by simp
  | p :: ps, c => by
    rw [List.map_cons, List.foldl_cons, do_one, do_all ps, List.flatten_cons, List.append_assoc]

structure LastsInv (m : DM) (all : List UInt8) (kept k : Nat) : Prop where
  calm : Calm m
  room : m.room = 1048576
  now : m.now = [(nmF, all)]
  sure : m.sure = [(nmF, all.take kept)]
  loose : ∃ ps : List (List UInt8), m.loose = ps.map chF ∧ all = all.take kept ++ ps.flatten ∧ ps.length ≤ k
  kept : kept ≤ all.length
  size : all.length ≤ 1000 * k

def lastsM1 : DM := { newOf 1048576 with now := [(nmF, [])], loose := [⟨0, nmF, ⟨#[]⟩, []⟩] }
def lastsM : DM := { newOf 1048576 with now := [(nmF, [])], sure := [(nmF, [])], loose := [] }
theorem lasts1 : createOf (newOf 1048576) nmF = (0, lastsM1) := by
  rw [Calm.create ⟨rfl, rfl⟩ (by simp [isName, nmF]; rfl) rfl (by simp [newOf])]
  rfl
theorem lasts2 : syncOf lastsM1 = (0, lastsM) := by
  simp [syncOf, lastsM1, newOf, synced, spendOf, lastsM, doCh, fput, fdel, fins]
theorem lasts_fits0 : ∀ k c, lastsM1.loose[k]? = some c → Fits ((lastsM1.loose.take k).foldl doCh lastsM1.sure) c := by
  intro k c hc
  match k, hc with
  | 0, hc =>
    simp [lastsM1] at hc
    subst hc
    exact ⟨by simp, by simp⟩
  | k + 1, hc => simp [lastsM1] at hc
theorem lasts_start : LastsInv lastsM [] 0 0 := ⟨⟨rfl, rfl⟩, rfl, rfl, rfl, ⟨[], rfl, rfl, Nat.le_refl _⟩, Nat.le_refl _, Nat.le_refl _⟩

theorem lasts_append {m : DM} {all p : List UInt8} {kept k : Nat} (h : LastsInv m all kept k) (hk : k < 40) (hp : p.length ≤ 1000) : ∃ m', appendOf m nmF p = (0, m') ∧ LastsInv m' (all ++ p) kept (k + 1) := by
  have hs := h.size
  have hg : fget m.now nmF = some all := by rw [h.now]; simp [fget]
  have e := h.calm.append (n := nmF) (by rw [hg]; rfl) p (by omega)
  have hu : used m.now = all.length := by rw [h.now]; simp [used]
  have hroom := h.room
  rw [hu, if_neg (by omega)] at e
  obtain ⟨ps, h1, h2, h3⟩ := h.loose
  have hkept := h.kept
  have ht : (all ++ p).take kept = all.take kept := by rw [List.take_append_of_le_length hkept]
  refine ⟨_, e, ⟨h.calm.down, h.calm.fuse⟩, h.room, ?_, ?_, ⟨ps ++ [p], ?_, ?_, by simp; omega⟩, by simp; omega, by simp; omega⟩
  · show fput m.now nmF ((fget m.now nmF).getD [] ++ p) = _
    rw [hg, h.now]
    simp [fput, fdel, fins]
  · simp only [ht, h.sure]
  · simp [h1, chF]
  · rw [ht, List.flatten_append, ← List.append_assoc, ← h2]
    simp
theorem lasts_fits {m : DM} {all : List UInt8} {kept k : Nat} (h : LastsInv m all kept k) (hk : k ≤ 40) : ∀ j c, m.loose[j]? = some c → Fits ((m.loose.take j).foldl doCh m.sure) c ∧ ∀ i, Fits ((m.loose.take j).foldl doCh m.sure) { c with p := c.p.take i } := by
  intro j c hc
  obtain ⟨ps, h1, h2, h3⟩ := h.loose
  have hs := h.size
  rw [h1] at hc ⊢
  rw [h.sure, ← List.map_take, do_all]
  rw [List.getElem?_map] at hc
  obtain ⟨p, hp, rfl⟩ := Option.map_eq_some_iff.1 hc
  have hl : (all.take kept ++ (ps.take j).flatten).length + p.length ≤ all.length := by
    have e : ps = ps.take j ++ p :: ps.drop (j + 1) := by
      obtain ⟨hj, rfl⟩ := List.getElem?_eq_some_iff.1 hp
      simp
    have e2 : all.length = (all.take kept).length + ps.flatten.length := by rw [← List.length_append, ← h2]
    have e3 : ps.flatten.length = (ps.take j).flatten.length + (p.length + (ps.drop (j + 1)).flatten.length) := by
      conv => lhs; rw [e]
      rw [List.flatten_append, List.flatten_cons, List.length_append, List.length_append]
    rw [List.length_append]
    omega
  have hg : fget [(nmF, all.take kept ++ (ps.take j).flatten)] nmF = some (all.take kept ++ (ps.take j).flatten) := by simp [fget]
  refine ⟨⟨by simp [chF], fun _ => ?_⟩, fun i => ⟨by simp [chF], fun _ => ?_⟩⟩
  · simp only [chF, hg, Option.getD_some]
    omega
  · simp only [chF, hg, Option.getD_some, List.length_take]
    omega
theorem lasts_sync {m : DM} {all : List UInt8} {kept k : Nat} (h : LastsInv m all kept k) : ∃ m', syncOf m = (0, m') ∧ LastsInv m' all all.length k := by
  obtain ⟨ps, h1, h2, h3⟩ := h.loose
  have f := h.calm.fuse
  refine ⟨{ m with sure := m.loose.foldl doCh m.sure, loose := [] }, by simp [syncOf, h.calm.down, f, synced, spendOf], ⟨h.calm.down, f⟩, h.room, h.now, ?_, ⟨[], rfl, by simp, Nat.zero_le _⟩, Nat.le_refl _, h.size⟩
  simp only [h1, h.sure]
  rw [do_all, ← h2, List.take_length]
theorem lasts_skip {m : DM} {all : List UInt8} {kept k : Nat} (h : LastsInv m all kept k) : LastsInv m all kept (k + 1) := by
  obtain ⟨ps, h1, h2, h3⟩ := h.loose
  have := h.size
  exact { h with loose := ⟨ps, h1, h2, by omega⟩, size := by omega }
theorem lasts_crash {m : DM} {all : List UInt8} {kept k : Nat} (h : LastsInv m all kept k) (keep part : Int) :
    ∃ n : Nat, (crashOf m keep part).now = [(nmF, all.take n)] ∧ kept ≤ n ∧ n ≤ all.length := by
  obtain ⟨ps, h1, h2, h3⟩ := h.loose
  have hkept := h.kept
  have pre : ∀ (t : List UInt8), t <+: ps.flatten → [(nmF, all.take kept ++ t)] = [(nmF, all.take (kept + t.length))] ∧ kept + t.length ≤ all.length := by
    intro t ht
    obtain ⟨u, hu⟩ := ht
    have hlen : all.length = kept + ps.flatten.length := by
      have := congrArg List.length h2
      rw [List.length_append, List.length_take] at this
      omega
    have e : all.take (kept + t.length) = all.take kept ++ t := by
      conv => lhs; rw [h2]
      rw [List.take_append, List.length_take, Nat.min_eq_left hkept, List.take_take]
      congr 1
      · congr 1; omega
      · rw [← hu, show kept + t.length - kept = t.length by omega]; simp
    refine ⟨by rw [e], ?_⟩
    rw [hlen, ← hu, List.length_append]; omega
  have hdown : (ps.take (clampI keep m.loose.length)).flatten <+: ps.flatten := by
    conv => rhs; rw [← List.take_append_drop (clampI keep m.loose.length) ps]
    rw [List.flatten_append]
    exact ⟨_, rfl⟩
  have hnow : (crashOf m keep part).now = crashFs m keep part := rfl
  rw [hnow]
  unfold crashFs
  generalize clampI keep m.loose.length = K at hdown ⊢
  have hfs : (m.loose.take K).foldl doCh m.sure = [(nmF, all.take kept ++ (ps.take K).flatten)] := by
    rw [h1, h.sure, ← List.map_take, do_all]
  simp only [hfs]
  cases hc : m.loose[K]? with
  | none =>
    have := pre _ hdown
    exact ⟨_, this.1, by omega, this.2⟩
  | some c =>
    rw [h1, List.getElem?_map] at hc
    obtain ⟨p, hp, rfl⟩ := Option.map_eq_some_iff.1 hc
    have hk1 : (chF p).kind = 1 := rfl
    simp only [hk1, if_true]
    change ∃ n : Nat, doCh [(nmF, all.take kept ++ (ps.take K).flatten)] (chF (p.take (clampI part p.length))) = [(nmF, all.take n)] ∧ kept ≤ n ∧ n ≤ all.length
    rw [do_one, List.append_assoc]
    have hpre : (ps.take K).flatten ++ p.take (clampI part p.length) <+: ps.flatten := by
      obtain ⟨hj, rfl⟩ := List.getElem?_eq_some_iff.1 hp
      have e1 : ps = ps.take K ++ ps[K] :: ps.drop (K + 1) := by simp
      conv => rhs; rw [e1]
      rw [List.flatten_append, List.flatten_cons]
      refine ⟨ps[K].drop (clampI part ps[K].length) ++ (ps.drop (K + 1)).flatten, ?_⟩
      rw [List.append_assoc, ← List.append_assoc (List.take _ _), List.take_append_drop]
    have := pre _ hpre
    exact ⟨_, this.1, by omega, this.2⟩
theorem lasts_read {m : DM} {c : List UInt8} (hn : m.now = [(nmF, c)]) (hd : m.down = false) (hc : c.length ≤ 40000) : readCode m nmF 0 1048576 = 0 ∧ readBytes m nmF 0 1048576 = c := by
  have ht : thereOf m nmF = 0 := by simp [thereOf, hn, hd, fget]
  constructor
  · simp [readCode, ht]
  · simp [readBytes, ht, hn, fget, pieceOf]
    exact List.take_of_length_le (by omega)

/-! ### What came in -/
/-- A slice of slices of bytes; a slice of truth values. -/
def PRows (w : World) (a : Option Addr) (len : Nat) : Prop := ∀ i, i < len → ∃ x v p, a = some x ∧ w.cell? (x.add i) = some v ∧ Reads w v p
def BRow (w : World) (a : Option Addr) (len : Nat) : Prop := ∀ i, i < len → ∃ x b, a = some x ∧ w.cell? (x.add i) = some (.bool b)
theorem cell_later {w wr : World} {x : Addr} {i : Nat} {v : Value} (h : w.cell? (x.add i) = some v) (hk : Keeps (fun _ => False) w wr) : wr.cell? (x.add i) = some v := by
  rw [World.cell?_of_block (hk.block _ (World.block_lt_of_cell? w _ h) (fun e => e))]
  exact h

/-- The loop of DiskLasts. -/
def LastsRel (w : World) (d : Nat) (K : Nat) (av kv i : Value) (wr : World) : Prop :=
  ∃ (k : Nat) (m : DM) (all : List UInt8) (kept : Nat), k ≤ K ∧ i = .int .i64 (k : Int) ∧ kv = .int .i64 (kept : Int) ∧ LState w wr d m av all ∧ LastsInv m all kept k
end Go.Proofs.Ytlinkpjneehnbaa
