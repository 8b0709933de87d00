import Derived.Test.YtllodjcfcjmocaaDisk6
/- A DISK THAT A LAW MADE: all of it is new. The law's 'bytes'; the document's example. -/
namespace Go.Proofs.Ytllodjcfcjmocaa
open Go.RowKit Go.Proofs

/-- At b lies the disk D, made since w0; nothing that was there in w0 has turned. -/
def Live (w0 w : World) (b : Nat) (D : DD) : Prop := ∃ F, DiskAt w F b D ∧ Only NoB w0 w ∧ ∀ k, F k → w0.heap.size ≤ k
/-- A call answers v, and the disk is D' then. -/
def LiveR (w0 : World) (b : Nat) (v : Value) (D' : DD) (e : Ending) (w' : World) : Prop := e = .returned v ∧ Live w0 w' b D'

section
variable {w0 w w' : World} {b : Nat} {D : DD} {F : Nat → Prop}
theorem only_new {F : Nat → Prop} {w0 w w' : World} (h : Only NoB w0 w) (ho : Only F w w') (hF : ∀ k, F k → w0.heap.size ≤ k) : Only NoB w0 w' :=
  h.trans' ho fun i hi hk => by have := hF i hk; omega
theorem Live.wf (h : Live w0 w b D) : D.Wf := by obtain ⟨F, h, _⟩ := h; exact h.wf
theorem Live.only (h : Live w0 w b D) : Only NoB w0 w := by obtain ⟨F, _, h, _⟩ := h; exact h
theorem Live.quit (h : Live w0 w b D) (ho : Only NoB w w') : Live w0 w' b D := by
  obtain ⟨F, hd, h1, h2⟩ := h
  exact ⟨F, hd.only ho fun _ _ => id, h1.trans ho, h2⟩
theorem live_of {v : Value} {D' : DD} {e : Ending} (h1 : Only NoB w0 w) (h2 : ∀ k, F k → w0.heap.size ≤ k) (hd : Deed w F b v D' e w') : LiveR w0 b v D' e w' := by
  obtain ⟨he, F', hd', ho, hg⟩ := hd
  refine ⟨he, F', hd', only_new h1 ho h2, fun k hk => ?_⟩
  rcases hg k hk with h | h
  · exact h2 k h
  · have := h1.size; omega
theorem Live.made {n m : Nat} {e : Ending} (h : Made w n m e w') : ∃ b, e = .returned (.tuple #[.pointer (some ⟨b, 0, none⟩), .int .i64 0]) ∧ Live w w' b (DD.new n m) := by
  obtain ⟨b, F, he, hd, ho, hF⟩ := h
  exact ⟨b, he, F, hd, ho, hF⟩

/-- The bounds of what a disk of a law ever holds. -/
structure Few (D : DD) : Prop where
  cache : D.cache.length + 1 < 1000000000
  keep : D.keep.length < 1000000000
  deeds : D.deeds + 1 < 1000000000

theorem Live.write (h : Live w0 w b D) (s : Int) (K : Nat → Prop) (v : Value) (l : List UInt8) (hv : Bytes w K v l) (hf : Few D) :
    Calls Try.prog 10 #[.pointer (some ⟨b, 0, none⟩), .int .i64 s, v] w (LiveR w0 b (.int .i64 (DD.write s l D).2) (DD.write s l D).1) := by
  obtain ⟨F, hd, h1, h2⟩ := h
  exact (write_any hd s K v l hv hf.cache hf.keep hf.deeds).mono fun e w' h => live_of h1 h2 h
theorem Live.flush (h : Live w0 w b D) (hf : Few D) : Calls Try.prog 12 #[.pointer (some ⟨b, 0, none⟩)] w (LiveR w0 b (.int .i64 (DD.flush D).2) (DD.flush D).1) := by
  obtain ⟨F, hd, h1, h2⟩ := h
  exact (flush_any hd hf.keep hf.deeds).mono fun e w' h => live_of h1 h2 h
theorem Live.on (h : Live w0 w b D) : Calls Try.prog 14 #[.pointer (some ⟨b, 0, none⟩)] w (LiveR w0 b (.tuple #[]) (DD.on D)) := by
  obtain ⟨F, hd, h1, h2⟩ := h
  exact (on_any hd).mono fun e w' h => live_of h1 h2 h
/-- The truths are old memory. -/
theorem Live.crash (h : Live w0 w b D) (v : Value) (l : List Bool) (hv : Bools w (fun k => k < w0.heap.size) v l) (hl : l.length < 1000000000) :
    Calls Try.prog 13 #[.pointer (some ⟨b, 0, none⟩), v] w (LiveR w0 b (.tuple #[]) (DD.crash l D)) := by
  obtain ⟨F, hd, h1, h2⟩ := h
  exact (crash_any hd _ v l hv (fun k hk hF => by have := h2 k hF; omega) hl).mono fun e w' h => live_of h1 h2 h
/-- The truths are newer than the disk. -/
theorem Live.crash_new {w1 : World} (h : Live w0 w b D) (ho : Only NoB w w1) (v : Value) (l : List Bool) (hv : Bools w1 (From w.heap.size) v l) (hl : l.length < 1000000000) :
    Calls Try.prog 13 #[.pointer (some ⟨b, 0, none⟩), v] w1 (LiveR w0 b (.tuple #[]) (DD.crash l D)) := by
  obtain ⟨F, hd, h1, h2⟩ := h
  exact (crash_any (hd.only ho fun _ _ => id) _ v l hv (fun k hk hF => by have := hd.1 k hF; have : w.heap.size ≤ k := hk; omega) hl).mono fun e w' h => live_of (h1.trans ho) h2 h
theorem Live.arm (h : Live w0 w b D) (n : Int) (hn : n < 9223372036854775808) (K : Nat → Prop) (v : Value) (l : List Bool) (hv : Bools w K v l) (hl : l.length ≤ 1000000000) :
    Calls Try.prog 17 #[.pointer (some ⟨b, 0, none⟩), .int .i64 n, v] w (LiveR w0 b (.tuple #[]) (DD.arm n l D)) := by
  obtain ⟨F, hd, h1, h2⟩ := h
  exact (arm_any hd n hn K v l hv hl).mono fun e w' h => live_of h1 h2 h
theorem Live.read (h : Live w0 w b D) (s : Int) : Calls Try.prog 15 #[.pointer (some ⟨b, 0, none⟩), .int .i64 s] w (ReadOut w (DD.read s D).1 (DD.read s D).2) := by
  obtain ⟨F, hd, h1, h2⟩ := h; exact read_any hd s
theorem Live.up (h : Live w0 w b D) : Calls Try.prog 18 #[.pointer (some ⟨b, 0, none⟩)] w fun e w' => e = .returned (.bool (!D.down)) ∧ w = w' := by
  obtain ⟨F, hd, h1, h2⟩ := h; exact up_any hd
theorem Live.deeds (h : Live w0 w b D) : Calls Try.prog 19 #[.pointer (some ⟨b, 0, none⟩)] w fun e w' => e = .returned (.int .i64 D.deeds) ∧ w = w' := by
  obtain ⟨F, hd, h1, h2⟩ := h; exact deeds_any hd
end

/-- The law's 'bytes': sixteen, the fourth is x. -/
def bytesL (x : UInt8) : List UInt8 := [0, 0, 0, x, 0, 0, 0, 0, 0, 0, 0, 0, 0, 0, 0, 0]
/-- What makes bytes answers. -/
def BytesOut (w : World) (l : List UInt8) (e : Ending) (w' : World) : Prop := ∃ v, e = .returned v ∧ Bytes w' (From w.heap.size) v l ∧ Only NoB w w'

theorem rd_new_bytes (w : World) (t : TypeId) (l : List UInt8) : Bytes (w.alloc (.cells (l.map byteV).toArray t)) (From w.heap.size) (.slice (some ⟨w.heap.size, 0, none⟩) l.length l.length) l :=
  (rd_new w t 1 l.length (l.map byteV) (by simp)).mono fun k hk _ => by subst hk; exact Nat.le_refl _

set_option maxHeartbeats 400000 in
theorem bytes_any (x : UInt8) (w : World) : Calls Try.prog 11 #[.int .u8 x.toNat] w (BytesOut w (bytesL x)) := by
  have hmk : ∀ w, (Instr.makeSlice 28 (.int .i64 16) (.int .i64 16)).run Try.prog w = .ok (.slice (some ⟨w.heap.size, 0, none⟩) 16 16) (w.alloc (.cells ((bytesL 0).map byteV).toArray 5)) := fun _ => by kernel_rfl
  simp only [bytesL, List.map_cons, List.map_nil, byteV] at hmk
  go_enter Try.func11, Try.ntmps11
  go_wp2_with fail
  go_ret
  refine ⟨_, rfl, rd_new_bytes w 5 (bytesL x), (Only.refl NoB w).alloc _⟩
end Go.Proofs.Ytllodjcfcjmocaa
