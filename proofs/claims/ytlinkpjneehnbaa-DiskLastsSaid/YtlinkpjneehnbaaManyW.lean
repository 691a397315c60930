/- The plain law of DiskMany. -/
import Derived.Test.YtlinkpjneehnbaaSince
import Derived.Test.YtlinkpjneehnbaaSync
namespace Go.Proofs.Ytlinkpjneehnbaa
open Go.RowKit Go.MapKept

/-- The k-th name of DiskMany. -/
def nmK (k : Nat) : ByteArray := ⟨#[UInt8.ofNat (k / 256), UInt8.ofNat (k % 256)]⟩
def nmMore : ByteArray := ⟨#[111, 110, 101, 32, 109, 111, 114, 101]⟩
def nmOther : ByteArray := ⟨#[97, 110, 111, 116, 104, 101, 114]⟩
theorem nmK_inj {i j : Nat} (hi : i < 65536) (hj : j < 65536) (h : nmK i = nmK j) : i = j := by
  have h1 : (nmK i).data.toList = (nmK j).data.toList := by rw [h]
  simp only [nmK, List.cons.injEq, and_true] at h1
  have a := congrArg UInt8.toNat h1.1
  have b := congrArg UInt8.toNat h1.2
  simp only [UInt8.toNat_ofNat'] at a b
  omega
theorem nmK_size (k : Nat) (n : ByteArray) (h : n.data.size ≠ 2) : n ≠ nmK k := by
  rintro rfl
  exact h rfl

/-- What holds of the disk in DiskMany, behind k rounds. -/
structure ManyInv (m : DM) (k : Nat) : Prop where
  calm : Calm m
  len : m.now.length = k
  there : ∀ j, j < k → (fget m.now (nmK j)).isSome = true
  away : ∀ n, (∀ j, j < k → n ≠ nmK j) → fget m.now n = none
  loose : ∀ c ∈ m.loose, c.kind = 0 ∨ c.kind = 2
  llen : m.loose.length = k

theorem absent {fs : FS} (hn : FNodup fs) {n : ByteArray} (h : fget fs n = none) : n ∉ fs.map (·.1) := by
  intro hm
  obtain ⟨⟨a, x⟩, hx, rfl⟩ := List.mem_map.1 hm
  rw [fget_mem hn hx] at h
  cases h
theorem length_fput_new {fs : FS} (hn : FNodup fs) {n : ByteArray} (h : fget fs n = none) (x : List UInt8) : (fput fs n x).length = fs.length + 1 := by
  rw [length_fput, fdel_absent (absent hn h)]
theorem length_fdel {fs : FS} (hn : FNodup fs) {n : ByteArray} (h : (fget fs n).isSome = true) : (fdel fs n).length + 1 = fs.length := by
  induction fs with
  | nil => simp [fget] at h
  | cons p fs ih =>
    obtain ⟨a, x⟩ := p
    have h' : a ∉ fs.map (·.1) ∧ (fs.map (·.1)).Nodup := List.nodup_cons.1 hn
    by_cases ha : a = n
    · subst ha
      have e : fdel ((a, x) :: fs) a = fs := by
        have : fdel ((a, x) :: fs) a = fdel fs a := by simp [fdel]
        rw [this, fdel_absent h'.1]
      rw [e]; rfl
    · have e : fdel ((a, x) :: fs) n = (a, x) :: fdel fs n := by simp [fdel, ha]
      rw [fget_cons_other _ _ _ _ ha] at h
      rw [e, List.length_cons, List.length_cons, ih h'.2 h]

theorem many_start : ManyInv (newOf 10) 0 := ⟨⟨rfl, rfl⟩, rfl, fun j h => by omega, fun n _ => rfl, fun c h => by simp [newOf] at h, rfl⟩

theorem many_step {m : DM} {k : Nat} (h : ManyInv m k) (hn : FNodup m.now) (hk : k < 4096) :
    ∃ m', createOf m (nmK k) = (0, m') ∧ ManyInv m' (k + 1) := by
  have hg : fget m.now (nmK k) = none := h.away _ (fun j hj e => by have := nmK_inj (by omega) (by omega) e; omega)
  have hl := h.len
  have e := h.calm.create (n := nmK k) (by unfold nmK; simp [isName]; change ((2 : Nat) : Int) ≤ 160; omega) hg (by omega)
  refine ⟨_, e, ⟨h.calm.down, h.calm.fuse⟩, ?_, ?_, ?_, ?_, ?_⟩
  · simp only [length_fput_new hn hg]; omega
  · intro j hj
    by_cases e : k = j
    · subst e
      simp only [fget_fput_same hn]; rfl
    · simp only
      rw [fget_fput_other hn _ _ _ (fun e2 => e (nmK_inj (by omega) (by omega) e2))]
      exact h.there j (by omega)
  · intro n hne
    simp only
    rw [fget_fput_other hn _ _ _ (fun e2 => hne k (by omega) e2.symm)]
    exact h.away n (fun j hj => hne j (by omega))
  · intro c hc
    simp only [List.mem_append, List.mem_singleton] at hc
    rcases hc with hc | rfl
    · exact h.loose c hc
    · exact .inl rfl
  · simp [h.llen]

theorem many_end {m : DM} (h : ManyInv m 4096) (hn : FNodup m.now) :
    createOf m nmMore = (4, m) ∧ ∃ m1 m2 m3, removeOf m (nmK 0) = (0, m1) ∧ createOf m1 nmMore = (0, m2) ∧ syncOf m2 = (0, m3) ∧ createOf m3 nmOther = (4, m3) ∧
      m1.fuse = -1 ∧ m1.loose.length = 4097 ∧ m2.fuse = -1 ∧ (∀ k c, m2.loose[k]? = some c → Fits ((m2.loose.take k).foldl doCh m2.sure) c) ∧ m3.fuse = -1 ∧ m3.loose.length = 0 := by
  have hl := h.len
  have g1 : fget m.now nmMore = none := h.away _ (fun j _ => nmK_size j _ (by decide))
  have g2 : fget m.now nmOther = none := h.away _ (fun j _ => nmK_size j _ (by decide))
  have n1 : isName nmMore = true := by simp [isName, nmMore]; rfl
  have n2 : isName nmOther = true := by simp [isName, nmOther]; rfl
  have hne : nmMore ≠ nmOther := by
    intro e
    have : nmMore.data.toList = nmOther.data.toList := by rw [e]
    simp [nmMore, nmOther] at this
  have full : ∀ (m' : DM) (n : ByteArray), m'.down = false → isName n = true → fget m'.now n = none → m'.now.length = 4096 → createOf m' n = (4, m') := by
    intro m' n a b c d
    unfold createOf
    simp [a, b, c, d]
  have g0 := h.there 0 (by omega)
  have e1 := h.calm.remove g0
  have l1 := length_fdel hn g0
  have d1 := hn.fdel (nmK 0)
  obtain ⟨m1, hm1⟩ : ∃ m1 : DM, m1 = { m with now := fdel m.now (nmK 0), loose := m.loose ++ [⟨2, nmK 0, ⟨#[]⟩, []⟩] } := ⟨_, rfl⟩
  rw [← hm1] at e1
  have c1 : Calm m1 := by subst hm1; exact ⟨h.calm.down, h.calm.fuse⟩
  have now1 : m1.now = fdel m.now (nmK 0) := by subst hm1; rfl
  have gm : fget m1.now nmMore = none := by
    rw [now1, fget_fdel_other _ _ _ (Ne.symm (nmK_size 0 nmMore (by decide)))]; exact g1
  have go : fget m1.now nmOther = none := by
    rw [now1, fget_fdel_other _ _ _ (Ne.symm (nmK_size 0 nmOther (by decide)))]; exact g2
  have lo1 : ∀ c ∈ m1.loose, c.kind = 0 ∨ c.kind = 2 := by
    subst hm1
    intro c hc
    simp only [List.mem_append, List.mem_singleton] at hc
    rcases hc with hc | rfl
    · exact h.loose c hc
    · exact .inr rfl
  have ll1 : m1.loose.length = 4097 := by subst hm1; simp [h.llen]
  have e2 := c1.create n1 gm (by rw [now1]; omega)
  obtain ⟨m2, hm2⟩ : ∃ m2 : DM, m2 = { m1 with now := fput m1.now nmMore [], loose := m1.loose ++ [⟨0, nmMore, ⟨#[]⟩, []⟩] } := ⟨_, rfl⟩
  rw [← hm2] at e2
  have c2 : Calm m2 := by subst hm2; exact ⟨c1.down, c1.fuse⟩
  have d1' : FNodup m1.now := by rw [now1]; exact d1
  have l2 : m2.now.length = 4096 := by
    subst hm2
    simp only [length_fput_new d1' gm]
    rw [now1]; omega
  have go2 : fget m2.now nmOther = none := by
    subst hm2
    simp only
    rw [fget_fput_other d1' _ _ _ hne]; exact go
  have lo2 : ∀ c ∈ m2.loose, c.kind = 0 ∨ c.kind = 2 := by
    subst hm2
    intro c hc
    simp only [List.mem_append, List.mem_singleton] at hc
    rcases hc with hc | rfl
    · exact lo1 c hc
    · exact .inl rfl
  have e3 : syncOf m2 = (0, { m2 with sure := m2.loose.foldl doCh m2.sure, loose := [] }) := by
    have f := c2.fuse
    simp [syncOf, c2.down, f, synced, spendOf]
  refine ⟨full m _ h.calm.down n1 g1 hl, m1, m2, _, e1, e2, e3, full _ _ c2.down n2 go2 l2, c1.fuse, ll1, c2.fuse, ?_, c2.fuse, rfl⟩
  intro k c hc
  have := lo2 c (List.mem_of_getElem? hc)
  exact ⟨by omega, fun e => by omega⟩

theorem Since.sync {w wr : World} {d : Nat} {m : DM} (h : Since w wr d m) (hf : m.fuse ≤ 9223372036854775807)
    (hfits : ∀ k c, m.loose[k]? = some c → Fits ((m.loose.take k).foldl doCh m.sure) c) :
    Calls Try.prog 24 #[.pointer (some ⟨d, 0, none⟩)] wr (SPost w d (syncOf m)) :=
  (sync_calls h.2 hf hfits).mono fun _ _ hp => h.post hp

/-- '[]byte{byte(k / 256), byte(k % 256)}'. -/
theorem many_bytes (w : World) (k : Nat) (hk : k < 65536) : Bytes (fun _ => True) (w.alloc (.cells #[.int .u8 ((k : Int) / 256), .int .u8 ((k : Int) % 256)] 5)) (.slice (some ⟨w.heap.size, 0, none⟩) 2 2) [UInt8.ofNat (k / 256), UInt8.ofNat (k % 256)] := by
  have e1 : u8v (UInt8.ofNat (k / 256)) = .int .u8 ((k : Int) / 256) := by
    unfold u8v
    rw [UInt8.toNat_ofNat']
    congr 1
    omega
  have e2 : u8v (UInt8.ofNat (k % 256)) = .int .u8 ((k : Int) % 256) := by
    unfold u8v
    rw [UInt8.toNat_ofNat']
    congr 1
    omega
  exact .inr ⟨_, 0, 2, _, _, rfl, trivial, heap_alloc_new w _, by simp, by simp [maxLen], by simp, fun i c hi => by
      match i, hi with
      | 0, hi => simp only [List.getElem?_cons_zero, Option.some.injEq] at hi; rw [← hi]; exact congrArg some e1.symm
      | 1, hi => simp only [List.getElem?_cons_succ, List.getElem?_cons_zero, Option.some.injEq] at hi; rw [← hi]; exact congrArg some e2.symm
      | i + 2, hi => simp at hi⟩

/-- The loop of DiskMany. -/
def ManyRel (w : World) (d : Nat) (i : Value) (wr : World) : Prop :=
  ∃ (k : Nat) (m : DM), k ≤ 4096 ∧ i = .int .i64 (k : Int) ∧ Since w wr d m ∧ ManyInv m k
end Go.Proofs.Ytlinkpjneehnbaa
