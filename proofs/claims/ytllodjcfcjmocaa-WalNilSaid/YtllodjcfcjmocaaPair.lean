import Derived.Test.YtllodjcfcjmocaaOps
import Derived.Test.YtllodjcfcjmocaaLive
/- TWO DISKS, the program's and the document's, apart from each other, and blocks beside them. -/
namespace Go.Proofs.Ytllodjcfcjmocaa
open Go.RowKit Go.Proofs

/-- At b lies the program's disk D, at c the document's disk E; the blocks N lie beside them; all were made since w0. -/
structure PairF (w0 w : World) (b c : Nat) (D E : DD) (N F G : Nat → Prop) : Prop where
  disk : DiskAt w F b D
  ref : RefAt w G c E
  apart : ∀ k, F k → ¬ G k
  only : Only NoB w0 w
  newF : ∀ k, F k → w0.heap.size ≤ k
  newG : ∀ k, G k → w0.heap.size ≤ k
  ltN : ∀ k, N k → w0.heap.size ≤ k ∧ k < w.heap.size
  offF : ∀ k, N k → ¬ F k
  offG : ∀ k, N k → ¬ G k
def PairN (w0 w : World) (b c : Nat) (D E : DD) (N : Nat → Prop) : Prop := ∃ F G, PairF w0 w b c D E N F G
/-- A call answers v; the disks are D and E then; N is as it was. -/
def PairR (w0 w : World) (b c : Nat) (N : Nat → Prop) (v : Value) (D E : DD) (e : Ending) (w' : World) : Prop := e = .returned v ∧ PairN w0 w' b c D E N ∧ ∀ k, N k → w'.heap[k]? = w.heap[k]?

section
variable {w0 w w' : World} {b c : Nat} {D E : DD} {N : Nat → Prop}
theorem PairN.only (h : PairN w0 w b c D E N) : Only NoB w0 w := by obtain ⟨F, G, h⟩ := h; exact h.only
theorem PairN.start {F G : Nat → Prop} (hd : DiskAt w F b D) (hr : RefAt w' G c E) (h0 : Only NoB w0 w) (hF : ∀ k, F k → w0.heap.size ≤ k) (ho : Only NoB w w') (hG : ∀ k, G k → w.heap.size ≤ k) : PairN w0 w' b c D E (fun _ => False) :=
  ⟨F, G, hd.only ho fun _ _ => id, hr, fun k hF hG' => by have := hd.1 k hF; have := hG k hG'; omega, h0.trans ho, hF, fun k hk => Nat.le_trans h0.size (hG k hk), fun _ h => h.elim, fun _ h => h.elim, fun _ h => h.elim⟩
/-- Other new blocks: the old ones beside are forgotten. -/
theorem PairN.news (h : PairN w0 w b c D E N) (ho : Only NoB w w') : PairN w0 w' b c D E (News w w') := by
  obtain ⟨F, G, h⟩ := h
  exact ⟨F, G, h.disk.only ho fun _ _ => id, h.ref.only ho fun _ _ => id, h.apart, h.only.trans ho, h.newF, h.newG, fun k hk => ⟨Nat.le_trans h.only.size hk.1, hk.2⟩, fun k hk hF => by have := h.disk.1 k hF; have := hk.1; omega, fun k hk hG => by have := h.ref.1 k hG; have := hk.1; omega⟩
/-- New blocks join those beside. -/
theorem PairN.join (h : PairN w0 w b c D E N) (ho : Only NoB w w') : PairN w0 w' b c D E (fun k => N k ∨ News w w' k) := by
  obtain ⟨F, G, h⟩ := h
  exact ⟨F, G, h.disk.only ho fun _ _ => id, h.ref.only ho fun _ _ => id, h.apart, h.only.trans ho, h.newF, h.newG, fun k hk => hk.elim (fun hk => ⟨(h.ltN k hk).1, Nat.lt_of_lt_of_le (h.ltN k hk).2 ho.size⟩) fun hk => ⟨Nat.le_trans h.only.size hk.1, hk.2⟩,
    fun k hk hF => hk.elim (fun hk => h.offF k hk hF) fun hk => by have := h.disk.1 k hF; have := hk.1; omega, fun k hk hG => hk.elim (fun hk => h.offG k hk hG) fun hk => by have := h.ref.1 k hG; have := hk.1; omega⟩
theorem PairN.quit (h : PairN w0 w b c D E N) (ho : Only NoB w w') : PairN w0 w' b c D E N := by
  obtain ⟨F, G, h⟩ := h.join ho
  exact ⟨F, G, h.disk, h.ref, h.apart, h.only, h.newF, h.newG, fun k hk => h.ltN k (.inl hk), fun k hk => h.offF k (.inl hk), fun k hk => h.offG k (.inl hk)⟩
theorem PairN.less {M : Nat → Prop} (h : PairN w0 w b c D E N) (hM : ∀ k, M k → N k) : PairN w0 w b c D E M := by
  obtain ⟨F, G, h⟩ := h
  exact ⟨F, G, h.disk, h.ref, h.apart, h.only, h.newF, h.newG, fun k hk => h.ltN k (hM k hk), fun k hk => h.offF k (hM k hk), fun k hk => h.offG k (hM k hk)⟩
/-- Only blocks beside are turned. -/
theorem PairN.turn (h : PairN w0 w b c D E N) (ho : Only N w w') : PairN w0 w' b c D E N := by
  obtain ⟨F, G, h⟩ := h
  exact ⟨F, G, h.disk.only ho fun k hF hN => h.offF k hN hF, h.ref.only ho fun k hG hN => h.offG k hN hG, h.apart, only_new h.only ho fun k hk => (h.ltN k hk).1, h.newF, h.newG, fun k hk => ⟨(h.ltN k hk).1, Nat.lt_of_lt_of_le (h.ltN k hk).2 ho.size⟩, h.offF, h.offG⟩
theorem pair_d {F G : Nat → Prop} (h : PairF w0 w b c D E N F G) {v : Value} {D' : DD} {e : Ending} (hd : Deed w F b v D' e w') : PairR w0 w b c N v D' E e w' := by
  obtain ⟨he, F', hd', ho, hg⟩ := hd
  refine ⟨he, ⟨F', G, hd', h.ref.only ho fun k hG hF => h.apart k hF hG, fun k hF hG => ?_, only_new h.only ho h.newF, fun k hk => ?_, h.newG, fun k hk => ⟨(h.ltN k hk).1, Nat.lt_of_lt_of_le (h.ltN k hk).2 ho.size⟩, fun k hk hF => ?_, h.offG⟩, fun k hk => ho.block k (h.ltN k hk).2 (h.offF k hk)⟩
  · rcases hg k hF with h1 | h1
    · exact h.apart k h1 hG
    · have := h.ref.1 k hG; omega
  · rcases hg k hk with h1 | h1
    · exact h.newF k h1
    · have := h.only.size; omega
  · rcases hg k hF with h1 | h1
    · exact h.offF k hk h1
    · have := (h.ltN k hk).2; omega
theorem pair_r {F G : Nat → Prop} (h : PairF w0 w b c D E N F G) {v : Value} {E' : DD} {e : Ending} (hd : RefD w G c v E' e w') : PairR w0 w b c N v D E' e w' := by
  obtain ⟨he, G', hd', ho, hg⟩ := hd
  refine ⟨he, ⟨F, G', h.disk.only ho fun k hF hG => h.apart k hF hG, hd', fun k hF hG => ?_, only_new h.only ho h.newG, h.newF, fun k hk => ?_, fun k hk => ⟨(h.ltN k hk).1, Nat.lt_of_lt_of_le (h.ltN k hk).2 ho.size⟩, h.offF, fun k hk hG => ?_⟩, fun k hk => ho.block k (h.ltN k hk).2 (h.offG k hk)⟩
  · rcases hg k hG with h1 | h1
    · exact h.apart k hF h1
    · have := h.disk.1 k hF; omega
  · rcases hg k hk with h1 | h1
    · exact h.newG k h1
    · have := h.only.size; omega
  · rcases hg k hG with h1 | h1
    · exact h.offG k hk h1
    · have := (h.ltN k hk).2; omega

theorem PairN.write (h : PairN w0 w b c D E N) (s : Int) (K : Nat → Prop) (v : Value) (l : List UInt8) (hv : Bytes w K v l) (hf : Few D) :
    Calls Try.prog 10 #[.pointer (some ⟨b, 0, none⟩), .int .i64 s, v] w (PairR w0 w b c N (.int .i64 (DD.write s l D).2) (DD.write s l D).1 E) := by
  obtain ⟨F, G, h⟩ := h
  exact (write_any h.disk s K v l hv hf.cache hf.keep hf.deeds).mono fun e w' hd => pair_d h hd
theorem PairN.rwrite (h : PairN w0 w b c D E N) (s : Int) (K : Nat → Prop) (v : Value) (l : List UInt8) (hv : Bytes w K v l) (hf : Few E) :
    Calls Try.prog 23 #[.pointer (some ⟨c, 0, none⟩), .int .i64 s, v] w (PairR w0 w b c N (.int .i64 (DD.write s l E).2) D (DD.write s l E).1) := by
  obtain ⟨F, G, h⟩ := h
  exact (rwrite_any h.ref s K v l hv hf.cache hf.keep hf.deeds).mono fun e w' hd => pair_r h hd
theorem PairN.flush (h : PairN w0 w b c D E N) (hf : Few D) : Calls Try.prog 12 #[.pointer (some ⟨b, 0, none⟩)] w (PairR w0 w b c N (.int .i64 (DD.flush D).2) (DD.flush D).1 E) := by
  obtain ⟨F, G, h⟩ := h
  exact (flush_any h.disk hf.keep hf.deeds).mono fun e w' hd => pair_d h hd
theorem PairN.rflush (h : PairN w0 w b c D E N) (hf : Few E) : Calls Try.prog 24 #[.pointer (some ⟨c, 0, none⟩)] w (PairR w0 w b c N (.int .i64 (DD.flush E).2) D (DD.flush E).1) := by
  obtain ⟨F, G, h⟩ := h
  exact (rflush_any h.ref hf.keep hf.deeds).mono fun e w' hd => pair_r h hd
theorem PairN.arm (h : PairN w0 w b c D E N) (n : Int) (hn : n < 9223372036854775808) (K : Nat → Prop) (v : Value) (l : List Bool) (hv : Bools w K v l) (hl : l.length ≤ 1000000000) :
    Calls Try.prog 17 #[.pointer (some ⟨b, 0, none⟩), .int .i64 n, v] w (PairR w0 w b c N (.tuple #[]) (DD.arm n l D) E) := by
  obtain ⟨F, G, h⟩ := h
  exact (arm_any h.disk n hn K v l hv hl).mono fun e w' hd => pair_d h hd
theorem PairN.rarm (h : PairN w0 w b c D E N) (n : Int) (hn : n < 9223372036854775808) (v : Value) (l : List Bool) (hv : Bools w (Old w0) v l) (hl : l.length ≤ 1000000000) :
    Calls Try.prog 25 #[.pointer (some ⟨c, 0, none⟩), .int .i64 n, v] w (PairR w0 w b c N (.tuple #[]) D (DD.arm n l E)) := by
  obtain ⟨F, G, h⟩ := h
  exact (rarm_any h.ref n hn (Old w0) v l hv (fun k hk hG => by have := h.newG k hG; have : k < w0.heap.size := hk; omega) hl).mono fun e w' hd => pair_r h hd
theorem PairN.crash (h : PairN w0 w b c D E N) (v : Value) (l : List Bool) (hv : Bools w (Old w0) v l) (hl : l.length < 1000000000) :
    Calls Try.prog 13 #[.pointer (some ⟨b, 0, none⟩), v] w (PairR w0 w b c N (.tuple #[]) (DD.crash l D) E) := by
  obtain ⟨F, G, h⟩ := h
  exact (crash_any h.disk (Old w0) v l hv (fun k hk hF => by have := h.newF k hF; have : k < w0.heap.size := hk; omega) hl).mono fun e w' hd => pair_d h hd
theorem PairN.rcrash (h : PairN w0 w b c D E N) (v : Value) (l : List Bool) (hv : Bools w (Old w0) v l) (hl : l.length < 1000000000) :
    Calls Try.prog 26 #[.pointer (some ⟨c, 0, none⟩), v] w (PairR w0 w b c N (.tuple #[]) D (DD.crash l E)) := by
  obtain ⟨F, G, h⟩ := h
  exact (rcrash_any h.ref (Old w0) v l hv (fun k hk hG => by have := h.newG k hG; have : k < w0.heap.size := hk; omega) hl).mono fun e w' hd => pair_r h hd
theorem PairN.on (h : PairN w0 w b c D E N) : Calls Try.prog 14 #[.pointer (some ⟨b, 0, none⟩)] w (PairR w0 w b c N (.tuple #[]) (DD.on D) E) := by
  obtain ⟨F, G, h⟩ := h
  exact (on_any h.disk).mono fun e w' hd => pair_d h hd
theorem PairN.ron (h : PairN w0 w b c D E N) : Calls Try.prog 27 #[.pointer (some ⟨c, 0, none⟩)] w (PairR w0 w b c N (.tuple #[]) D (DD.on E)) := by
  obtain ⟨F, G, h⟩ := h
  exact (ron_any h.ref).mono fun e w' hd => pair_r h hd
theorem PairN.read (h : PairN w0 w b c D E N) (s : Int) : Calls Try.prog 15 #[.pointer (some ⟨b, 0, none⟩), .int .i64 s] w (ReadOut w (DD.read s D).1 (DD.read s D).2) := by
  obtain ⟨F, G, h⟩ := h
  exact read_any h.disk s
theorem PairN.read2 (h : PairN w0 w b c D E N) (s : Int) : Calls Try.prog 15 #[.pointer (some ⟨b, 0, none⟩), .int .i64 s] w (ReadOut2 w (DD.read s D).1 (DD.read s D).2) := by
  obtain ⟨F, G, h⟩ := h
  exact read_any2 h.disk s
theorem PairN.rread (h : PairN w0 w b c D E N) (s : Int) : Calls Try.prog 28 #[.pointer (some ⟨c, 0, none⟩), .int .i64 s] w fun e w' => e = .returned (.tuple #[strOf (DD.read s E).1, .int .i64 (DD.read s E).2]) ∧ w = w' := by
  obtain ⟨F, G, h⟩ := h
  exact rread_any h.ref s
theorem PairN.up (h : PairN w0 w b c D E N) : Calls Try.prog 18 #[.pointer (some ⟨b, 0, none⟩)] w fun e w' => e = .returned (.bool (!D.down)) ∧ w = w' := by
  obtain ⟨F, G, h⟩ := h
  exact up_any h.disk
theorem PairN.deeds (h : PairN w0 w b c D E N) : Calls Try.prog 19 #[.pointer (some ⟨b, 0, none⟩)] w fun e w' => e = .returned (.int .i64 D.deeds) ∧ w = w' := by
  obtain ⟨F, G, h⟩ := h
  exact deeds_any h.disk
theorem PairN.size (h : PairN w0 w b c D E N) : Calls Try.prog 29 #[.pointer (some ⟨b, 0, none⟩)] w fun e w' => e = .returned (.tuple #[.int .i64 D.n, .int .i64 D.m]) ∧ w' = w.drew := by
  obtain ⟨F, G, h⟩ := h
  exact size_any h.disk
theorem PairN.rcell (h : PairN w0 w b c D E N) : w.cell? ⟨c, 3, none⟩ = some (.bool (!E.down)) ∧ w.cell? ⟨c, 6, none⟩ = some (.int .i64 E.deeds) := by
  obtain ⟨F, G, h⟩ := h
  obtain ⟨_, R, lv, cv, kv, xs, h, _⟩ := h.ref
  exact ⟨h.cell 3 _ rfl, h.cell 6 _ rfl⟩
theorem PairN.wf (h : PairN w0 w b c D E N) : D.Wf := by obtain ⟨F, G, h⟩ := h; exact h.disk.wf
end

/-! ## What a script may come to -/
structure Bnd (n m k : Nat) (D : DD) : Prop where
  n : D.n = n
  m : D.m = m
  cache : D.cache.length ≤ k
  deeds : D.deeds ≤ k
  keep : D.keep.length ≤ 100
theorem Bnd.few {n m k : Nat} {D : DD} (h : Bnd n m k D) (hk : k ≤ 1000) : Few D := ⟨by have := h.cache; omega, by have := h.keep; omega, by have := h.deeds; omega⟩
theorem Bnd.new (n m : Nat) : Bnd n m 0 (DD.new n m) := ⟨rfl, rfl, by simp [DD.new], by simp [DD.new], by simp [DD.new]⟩
theorem Bnd.up {n m k : Nat} {D : DD} (h : Bnd n m k D) : Bnd n m (k + 1) D := ⟨h.n, h.m, Nat.le_succ_of_le h.cache, Nat.le_succ_of_le h.deeds, h.keep⟩
theorem Bnd.crash {n m k : Nat} {D : DD} (h : Bnd n m k D) (l : List Bool) : Bnd n m k (DD.crash l D) := by
  unfold DD.crash
  split
  · exact h
  · exact ⟨h.n, h.m, Nat.zero_le _, h.deeds, h.keep⟩
theorem Bnd.settle {n m k : Nat} {D : DD} (h : Bnd n m k D) (is : Nat → Bool) : Bnd n m k (DD.settle is D) := ⟨h.n, h.m, Nat.zero_le _, h.deeds, h.keep⟩
theorem Bnd.deed {n m k : Nat} {D : DD} (hn : D.n = n) (hm : D.m = m) (hc : D.cache.length ≤ k) (hd : D.deeds + 1 ≤ k) (hk : D.keep.length ≤ 100) : Bnd n m k (DD.deed D).1 := by
  unfold DD.deed
  split
  · exact ⟨hn, hm, hc, hd, hk⟩
  · split
    · exact Bnd.crash (D := { D with deeds := D.deeds + 1, left := 0 }) ⟨hn, hm, hc, hd, hk⟩ _
    · exact ⟨hn, hm, hc, hd, hk⟩
theorem Bnd.write {n m k : Nat} {D : DD} (h : Bnd n m k D) (s : Int) (l : List UInt8) : Bnd n m (k + 1) (DD.write s l D).1 := by
  unfold DD.write
  split
  · exact h.up
  · split
    · exact Bnd.deed h.n h.m (by have := h.cache; simp [DD.put]; omega) (by have := h.deeds; simp [DD.put]; omega) h.keep
    · exact h.up
theorem Bnd.flush {n m k : Nat} {D : DD} (h : Bnd n m k D) : Bnd n m (k + 1) (DD.flush D).1 := by
  unfold DD.flush
  split
  · exact h.up
  · exact (Bnd.deed h.n h.m (Nat.le_succ_of_le h.cache) (by have := h.deeds; omega) h.keep).settle _
theorem Bnd.arm {n m k : Nat} {D : DD} (h : Bnd n m k D) (x : Int) (l : List Bool) (hl : l.length ≤ 100) : Bnd n m k (DD.arm x l D) := ⟨h.n, h.m, h.cache, h.deeds, hl⟩
theorem Bnd.on {n m k : Nat} {D : DD} (h : Bnd n m k D) : Bnd n m k (DD.on D) := ⟨h.n, h.m, h.cache, h.deeds, h.keep⟩
end Go.Proofs.Ytllodjcfcjmocaa
