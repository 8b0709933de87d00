import Derived.Test.YtllodjcfcjmocaaDisk7
/- A LIVE DISK, and a block of bytes beside it. -/
namespace Go.Proofs.Ytllodjcfcjmocaa
open Go.RowKit Go.Proofs

/-- At b lies the disk D, and the block c holds the bytes l; both were made since w0. -/
def Beside (w0 w : World) (b : Nat) (D : DD) (c : Nat) (l : List UInt8) : Prop :=
  ∃ F, DiskAt w F b D ∧ Only NoB w0 w ∧ (∀ k, F k → w0.heap.size ≤ k) ∧ ¬ F c ∧ w0.heap.size ≤ c ∧ Blk w c 5 (l.map byteV).toArray
def BesideR (w0 : World) (b : Nat) (c : Nat) (l : List UInt8) (v : Value) (D' : DD) (e : Ending) (w' : World) : Prop := e = .returned v ∧ Beside w0 w' b D' c l

section
variable {w0 w w' : World} {b c : Nat} {D : DD} {F : Nat → Prop} {l : List UInt8}
theorem Beside.live (h : Beside w0 w b D c l) : Live w0 w b D := by obtain ⟨F, h1, h2, h3, _⟩ := h; exact ⟨F, h1, h2, h3⟩
theorem Beside.ge (h : Beside w0 w b D c l) : w0.heap.size ≤ c := by obtain ⟨F, h1, h2, h3, h4, h5, _⟩ := h; exact h5
theorem Beside.only (h : Beside w0 w b D c l) : Only NoB w0 w := h.live.only
theorem Live.beside (h : Live w0 w b D) (ho : Only NoB w w') (hb : Blk w' w.heap.size 5 (l.map byteV).toArray) : Beside w0 w' b D w.heap.size l := by
  obtain ⟨F, hd, h1, h2⟩ := h
  exact ⟨F, hd.only ho fun _ _ => id, h1.trans ho, h2, fun hF => by have := hd.1 _ hF; omega, h1.size, hb⟩
theorem Beside.quit (h : Beside w0 w b D c l) (ho : Only NoB w w') : Beside w0 w' b D c l := by
  obtain ⟨F, hd, h1, h2, h3, h4, h5⟩ := h
  exact ⟨F, hd.only ho fun _ _ => id, h1.trans ho, h2, h3, h4, h5.only ho id⟩
theorem beside_of {v : Value} {D' : DD} {e : Ending} (h1 : Only NoB w0 w) (h2 : ∀ k, F k → w0.heap.size ≤ k) (h3 : ¬ F c) (h4 : w0.heap.size ≤ c) (h5 : Blk w c 5 (l.map byteV).toArray) (hd : Deed w F b v D' e w') : BesideR w0 b c l v D' e w' := by
  obtain ⟨he, F', hd', ho, hg⟩ := hd
  refine ⟨he, F', hd', only_new h1 ho h2, fun k hk => ?_, fun hF => ?_, h4, h5.only ho h3⟩
  · rcases hg k hk with h | h
    · exact h2 k h
    · have := h1.size; omega
  · rcases hg c hF with h | h
    · exact h3 h
    · have := h5.lt; omega
theorem Beside.write (h : Beside w0 w b D c l) (s : Int) (K : Nat → Prop) (v : Value) (m : List UInt8) (hv : Bytes w K v m) (hf : Few D) :
    Calls Try.prog 10 #[.pointer (some ⟨b, 0, none⟩), .int .i64 s, v] w (BesideR w0 b c l (.int .i64 (DD.write s m D).2) (DD.write s m D).1) := by
  obtain ⟨F, hd, h1, h2, h3, h4, h5⟩ := h
  exact (write_any hd s K v m hv hf.cache hf.keep hf.deeds).mono fun e w' h => beside_of h1 h2 h3 h4 h5 h
theorem Beside.flush (h : Beside w0 w b D c l) (hf : Few D) : Calls Try.prog 12 #[.pointer (some ⟨b, 0, none⟩)] w (BesideR w0 b c l (.int .i64 (DD.flush D).2) (DD.flush D).1) := by
  obtain ⟨F, hd, h1, h2, h3, h4, h5⟩ := h
  exact (flush_any hd hf.keep hf.deeds).mono fun e w' h => beside_of h1 h2 h3 h4 h5 h
theorem Beside.on (h : Beside w0 w b D c l) : Calls Try.prog 14 #[.pointer (some ⟨b, 0, none⟩)] w (BesideR w0 b c l (.tuple #[]) (DD.on D)) := by
  obtain ⟨F, hd, h1, h2, h3, h4, h5⟩ := h
  exact (on_any hd).mono fun e w' h => beside_of h1 h2 h3 h4 h5 h
theorem Beside.crash (h : Beside w0 w b D c l) (v : Value) (m : List Bool) (hv : Bools w (fun k => k < w0.heap.size) v m) (hl : m.length < 1000000000) :
    Calls Try.prog 13 #[.pointer (some ⟨b, 0, none⟩), v] w (BesideR w0 b c l (.tuple #[]) (DD.crash m D)) := by
  obtain ⟨F, hd, h1, h2, h3, h4, h5⟩ := h
  exact (crash_any hd _ v m hv (fun k hk hF => by have := h2 k hF; omega) hl).mono fun e w' h => beside_of h1 h2 h3 h4 h5 h
theorem Beside.read (h : Beside w0 w b D c l) (s : Int) : Calls Try.prog 15 #[.pointer (some ⟨b, 0, none⟩), .int .i64 s] w (ReadOut w (DD.read s D).1 (DD.read s D).2) := h.live.read s
theorem Beside.cell (h : Beside w0 w b D c l) {i : Nat} (hi : i < l.length) : w.cell? ⟨c, i, none⟩ = some (.int .u8 l[i].toNat) := by
  obtain ⟨F, hd, h1, h2, h3, h4, h5⟩ := h
  rw [h5.cell]
  simp [hi, byteV]
theorem Beside.frozen (h : Beside w0 w b D c l) (i : Nat) : w.frozen? ⟨c, i, none⟩ = false := by
  obtain ⟨F, hd, h1, h2, h3, h4, h5⟩ := h
  exact h5.frozen i
theorem Beside.set_ (h : Beside w0 w b D c l) (i : Nat) (x : UInt8) : Beside w0 (w.setCell ⟨c, i, none⟩ (.int .u8 x.toNat)) b D c (l.set i x) := by
  obtain ⟨F, hd, h1, h2, h3, h4, h5⟩ := h
  have ho : Only (fun k => k = c) w (w.setCell ⟨c, i, none⟩ (.int .u8 x.toNat)) := (Only.refl (fun k => k = c) w).setCell (p := ⟨c, i, none⟩) (.inl rfl) _
  refine ⟨F, hd.only ho fun k hk e => h3 (e ▸ hk), only_new h1 ho fun k hk => by subst hk; exact h4, h2, h3, h4, ?_⟩
  have := h5.set_ i (.int .u8 x.toNat)
  have he : ((l.map byteV).toArray.setIfInBounds i (Value.int .u8 x.toNat)) = ((l.set i x).map byteV).toArray := by
    apply Array.toList_inj.1
    simp [byteV]
  rw [he] at this
  exact this
end
end Go.Proofs.Ytllodjcfcjmocaa
