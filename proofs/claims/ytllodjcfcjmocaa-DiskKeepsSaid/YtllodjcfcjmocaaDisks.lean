import Derived.Test.YtllodjcfcjmocaaBeside
/- SEVERAL LIVE DISKS, apart, and a block beside them. -/
namespace Go.Proofs.Ytllodjcfcjmocaa
open Go.RowKit Go.Proofs

/-- The first n disks: the i-th lies at b i and is D i; the block c (of type t) holds cs; all were made since w0, and are apart. -/
structure DisksF (w0 w : World) (n : Nat) (b : Nat → Nat) (D : Nat → DD) (c : Nat) (t : TypeId) (cs : Array Value) (F : Nat → Nat → Prop) : Prop where
  disk : ∀ i, i < n → DiskAt w (F i) (b i) (D i)
  apart : ∀ i j, i < n → j < n → i ≠ j → ∀ k, F i k → ¬ F j k
  new : ∀ i, i < n → ∀ k, F i k → w0.heap.size ≤ k
  only : Only NoB w0 w
  blk : Blk w c t cs
  off : ∀ i, i < n → ¬ F i c
  ge : w0.heap.size ≤ c
def Disks (w0 w : World) (n : Nat) (b : Nat → Nat) (D : Nat → DD) (c : Nat) (t : TypeId) (cs : Array Value) : Prop := ∃ F, DisksF w0 w n b D c t cs F
/-- D, with D' at i. -/
def put1 {α : Type} (f : Nat → α) (i : Nat) (x : α) : Nat → α := fun j => if j = i then x else f j
def DisksR (w0 : World) (n : Nat) (b : Nat → Nat) (D : Nat → DD) (c : Nat) (t : TypeId) (cs : Array Value) (v : Value) (e : Ending) (w' : World) : Prop := e = .returned v ∧ Disks w0 w' n b D c t cs

section
variable {w0 w w' : World} {n i : Nat} {b : Nat → Nat} {D : Nat → DD} {c : Nat} {t : TypeId} {cs : Array Value}
theorem Disks.only (h : Disks w0 w n b D c t cs) : Only NoB w0 w := by obtain ⟨F, h⟩ := h; exact h.only
theorem Disks.blk (h : Disks w0 w n b D c t cs) : Blk w c t cs := by obtain ⟨F, h⟩ := h; exact h.blk
theorem Disks.ge (h : Disks w0 w n b D c t cs) : w0.heap.size ≤ c := by obtain ⟨F, h⟩ := h; exact h.ge
theorem Disks.live (h : Disks w0 w n b D c t cs) (hi : i < n) : Live w0 w (b i) (D i) := by obtain ⟨F, h⟩ := h; exact ⟨F i, h.disk i hi, h.only, h.new i hi⟩
theorem Disks.quit (h : Disks w0 w n b D c t cs) (ho : Only NoB w w') : Disks w0 w' n b D c t cs := by
  obtain ⟨F, h⟩ := h
  exact ⟨F, fun i hi => (h.disk i hi).only ho fun _ _ => id, h.apart, h.new, h.only.trans ho, h.blk.only ho id, h.off, h.ge⟩
theorem disks_of {F : Nat → Nat → Prop} (h : DisksF w0 w n b D c t cs F) (hi : i < n) {v : Value} {D' : DD} {e : Ending} (hd : Deed w (F i) (b i) v D' e w') : DisksR w0 n b (put1 D i D') c t cs v e w' := by
  obtain ⟨he, F', hd', ho, hg⟩ := hd
  have hlt : ∀ j, j < n → ∀ k, F j k → k < w.heap.size := fun j hj k hk => (h.disk j hj).1 k hk
  refine ⟨he, put1 F i F', fun j hj => ?_, fun j l hj hl hne k hk => ?_, fun j hj k hk => ?_, only_new h.only ho (h.new i hi), h.blk.only ho (h.off i hi), fun j hj => ?_, h.ge⟩
  · unfold put1
    by_cases hji : j = i
    · subst hji; rw [if_pos rfl, if_pos rfl]; exact hd'
    · rw [if_neg hji, if_neg hji]
      exact (h.disk j hj).only ho fun k hk => h.apart j i hj hi hji k hk
  · unfold put1 at hk ⊢
    by_cases hji : j = i
    · subst hji
      rw [if_pos rfl] at hk
      rw [if_neg (Ne.symm hne)]
      rcases hg k hk with h1 | h1
      · exact h.apart j l hj hl hne k h1
      · intro h2; have := hlt l hl k h2; omega
    · rw [if_neg hji] at hk
      by_cases hli : l = i
      · subst hli
        rw [if_pos rfl]
        intro h2
        rcases hg k h2 with h1 | h1
        · exact h.apart j l hj hl hji k hk h1
        · have := hlt j hj k hk; omega
      · rw [if_neg hli]; exact h.apart j l hj hl hne k hk
  · unfold put1 at hk
    by_cases hji : j = i
    · subst hji
      rw [if_pos rfl] at hk
      rcases hg k hk with h1 | h1
      · exact h.new j hj k h1
      · have := h.only.size; omega
    · rw [if_neg hji] at hk; exact h.new j hj k hk
  · unfold put1
    by_cases hji : j = i
    · subst hji
      rw [if_pos rfl]
      intro h2
      rcases hg c h2 with h1 | h1
      · exact h.off j hj h1
      · have := h.blk.lt; omega
    · rw [if_neg hji]; exact h.off j hj
theorem Disks.write (h : Disks w0 w n b D c t cs) (hi : i < n) (s : Int) (K : Nat → Prop) (v : Value) (m : List UInt8) (hv : Bytes w K v m) (hf : Few (D i)) :
    Calls Try.prog 10 #[.pointer (some ⟨b i, 0, none⟩), .int .i64 s, v] w (DisksR w0 n b (put1 D i (DD.write s m (D i)).1) c t cs (.int .i64 (DD.write s m (D i)).2)) := by
  obtain ⟨F, h⟩ := h
  exact (write_any (h.disk i hi) s K v m hv hf.cache hf.keep hf.deeds).mono fun e w' hd => disks_of h hi hd
theorem Disks.flush (h : Disks w0 w n b D c t cs) (hi : i < n) (hf : Few (D i)) :
    Calls Try.prog 12 #[.pointer (some ⟨b i, 0, none⟩)] w (DisksR w0 n b (put1 D i (DD.flush (D i)).1) c t cs (.int .i64 (DD.flush (D i)).2)) := by
  obtain ⟨F, h⟩ := h
  exact (flush_any (h.disk i hi) hf.keep hf.deeds).mono fun e w' hd => disks_of h hi hd
theorem Disks.on (h : Disks w0 w n b D c t cs) (hi : i < n) : Calls Try.prog 14 #[.pointer (some ⟨b i, 0, none⟩)] w (DisksR w0 n b (put1 D i (DD.on (D i))) c t cs (.tuple #[])) := by
  obtain ⟨F, h⟩ := h
  exact (on_any (h.disk i hi)).mono fun e w' hd => disks_of h hi hd
/-- The truths lie in blocks that are newer than the disks. -/
theorem Disks.crash (h : Disks w0 w n b D c t cs) (hi : i < n) {w1 : World} (ho : Only NoB w w1) (v : Value) (l : List Bool) (hv : Bools w1 (From w.heap.size) v l) (hl : l.length < 1000000000) :
    Calls Try.prog 13 #[.pointer (some ⟨b i, 0, none⟩), v] w1 (DisksR w0 n b (put1 D i (DD.crash l (D i))) c t cs (.tuple #[])) := by
  obtain ⟨F, h⟩ := h
  have h1 : DisksF w0 w1 n b D c t cs F := ⟨fun i hi => (h.disk i hi).only ho fun _ _ => id, h.apart, h.new, h.only.trans ho, h.blk.only ho id, h.off, h.ge⟩
  exact (crash_any (h1.disk i hi) _ v l hv (fun k hk hF => by have := (h.disk i hi).1 k hF; have : w.heap.size ≤ k := hk; omega) hl).mono fun e w' hd => disks_of h1 hi hd
theorem Disks.read (h : Disks w0 w n b D c t cs) (hi : i < n) (s : Int) : Calls Try.prog 15 #[.pointer (some ⟨b i, 0, none⟩), .int .i64 s] w (ReadOut w (DD.read s (D i)).1 (DD.read s (D i)).2) := (h.live hi).read s
/-- One disk more. -/
theorem Disks.more (h : Disks w0 w n b D c t cs) {m k : Nat} {e : Ending} (hm : Made w m k e w') : ∃ b', e = .returned (.tuple #[.pointer (some ⟨b', 0, none⟩), .int .i64 0]) ∧ Disks w0 w' (n + 1) (put1 b n b') (put1 D n (DD.new m k)) c t cs := by
  obtain ⟨F, h⟩ := h
  obtain ⟨b', F', he, hd, ho, hF⟩ := hm
  have hlt : ∀ j, j < n → ∀ k, F j k → k < w.heap.size := fun j hj k hk => (h.disk j hj).1 k hk
  refine ⟨b', he, put1 F n F', fun j hj => ?_, fun j l hj hl hne k hk => ?_, fun j hj k hk => ?_, h.only.trans ho, h.blk.only ho id, fun j hj => ?_, h.ge⟩
  · unfold put1
    by_cases hjn : j = n
    · simp only [hjn, if_true]; exact hd
    · simp only [if_neg hjn]; exact (h.disk j (by omega)).only ho fun _ _ => id
  · unfold put1 at hk ⊢
    by_cases hjn : j = n
    · rw [if_pos hjn] at hk
      rw [if_neg (by omega)]
      intro h2
      have := hF k hk
      have := hlt l (by omega) k h2
      omega
    · rw [if_neg hjn] at hk
      by_cases hln : l = n
      · rw [if_pos hln]
        intro h2
        have := hF k h2
        have := hlt j (by omega) k hk
        omega
      · rw [if_neg hln]; exact h.apart j l (by omega) (by omega) hne k hk
  · unfold put1 at hk
    by_cases hjn : j = n
    · rw [if_pos hjn] at hk
      have := hF k hk
      have := h.only.size
      omega
    · rw [if_neg hjn] at hk; exact h.new j (by omega) k hk
  · unfold put1
    by_cases hjn : j = n
    · rw [if_pos hjn]
      intro h2
      have := hF c h2
      have := h.blk.lt
      omega
    · rw [if_neg hjn]; exact h.off j (by omega)
theorem Disks.store (h : Disks w0 w n b D c t cs) (i : Nat) (u : Value) : Disks w0 (w.setCell ⟨c, i, none⟩ u) n b D c t (cs.setIfInBounds i u) := by
  obtain ⟨F, h⟩ := h
  have ho : Only (fun k => k = c) w (w.setCell ⟨c, i, none⟩ u) := (Only.refl (fun k => k = c) w).setCell (p := ⟨c, i, none⟩) (.inl rfl) _
  exact ⟨F, fun j hj => (h.disk j hj).only ho fun k hk e => h.off j hj (e ▸ hk), h.apart, h.new, only_new h.only ho (fun k hk => by subst hk; exact h.ge), h.blk.set_ i u, h.off, h.ge⟩
/-- No disk yet. -/
theorem Disks.none (ho : Only NoB w0 w) (hb : Blk w c t cs) (hc : w0.heap.size ≤ c) : Disks w0 w 0 b D c t cs := ⟨fun _ _ => False, fun _ h => absurd h (Nat.not_lt_zero _), fun _ _ h => absurd h (Nat.not_lt_zero _), fun _ h => absurd h (Nat.not_lt_zero _), ho, hb, fun _ h => absurd h (Nat.not_lt_zero _), hc⟩
end
end Go.Proofs.Ytllodjcfcjmocaa
