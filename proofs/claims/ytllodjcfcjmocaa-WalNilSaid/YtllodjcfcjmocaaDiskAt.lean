import Derived.Test.YtllodjcfcjmocaaProg
import Derived.Test.YtllodjcfcjmocaaLaw
import Derived.Test.YtllodjcfcjmocaaDd
/-
  A DISK IN MEMORY: what the program's object of a disk is, and what stays of it.
-/
namespace Go.Proofs.Ytllodjcfcjmocaa
open Go.RowKit Go.Proofs

/-- The cells of the cache's row. -/
def CacheR (w : World) (F : Nat → Prop) : List Value → List (Nat × List UInt8) → Prop
  | [], [] => True
  | a :: v :: xs, c :: cs => a = .int .i64 (c.1 : Int) ∧ Bytes w F v c.2 ∧ CacheR w F xs cs
  | _, _ => False

section
variable {w w' : World} {F G : Nat → Prop}
theorem CacheR.keep : ∀ {xs : List Value} {cs : List (Nat × List UInt8)}, CacheR w F xs cs → (∀ k, F k → k < w.heap.size → w'.heap[k]? = w.heap[k]?) → CacheR w' F xs cs
  | [], [], _, _ => trivial
  | _ :: _ :: _, _ :: _, h, hk => ⟨h.1, h.2.1.keep hk, CacheR.keep h.2.2 hk⟩
  | [], _ :: _, h, _ => h.elim
  | [_], [], h, _ => h.elim
  | [_], _ :: _, h, _ => h.elim
  | _ :: _ :: _, [], h, _ => h.elim
theorem CacheR.mono : ∀ {xs : List Value} {cs : List (Nat × List UInt8)}, CacheR w F xs cs → (∀ k, F k → k < w.heap.size → G k) → CacheR w G xs cs
  | [], [], _, _ => trivial
  | _ :: _ :: _, _ :: _, h, hk => ⟨h.1, h.2.1.mono hk, CacheR.mono h.2.2 hk⟩
  | [], _ :: _, h, _ => h.elim
  | [_], [], h, _ => h.elim
  | [_], _ :: _, h, _ => h.elim
  | _ :: _ :: _, [], h, _ => h.elim
theorem CacheR.len : ∀ {xs : List Value} {cs : List (Nat × List UInt8)}, CacheR w F xs cs → xs.length = cs.length * 2
  | [], [], _ => rfl
  | _ :: _ :: xs, _ :: cs, h => by have := CacheR.len h.2.2; simp; omega
  | [], _ :: _, h => h.elim
  | [_], [], h => h.elim
  | [_], _ :: _, h => h.elim
  | _ :: _ :: _, [], h => h.elim
theorem CacheR.snoc {s : Nat} {l : List UInt8} {v : Value} (hv : Bytes w F v l) : ∀ {xs : List Value} {cs : List (Nat × List UInt8)}, CacheR w F xs cs → CacheR w F (xs ++ [.int .i64 (s : Int), v]) (cs ++ [(s, l)])
  | [], [], _ => ⟨rfl, hv, trivial⟩
  | _ :: _ :: _, _ :: _, h => ⟨h.1, h.2.1, CacheR.snoc hv h.2.2⟩
  | [], _ :: _, h => h.elim
  | [_], [], h => h.elim
  | [_], _ :: _, h => h.elim
  | _ :: _ :: _, [], h => h.elim
theorem CacheR.at_ : ∀ {xs : List Value} {cs : List (Nat × List UInt8)}, CacheR w F xs cs → ∀ {i : Nat} {c : Nat × List UInt8}, cs[i]? = some c → xs[i * 2]? = some (.int .i64 (c.1 : Int)) ∧ ∃ v, xs[i * 2 + 1]? = some v ∧ Bytes w F v c.2
  | [], [], _, i, c, hc => by simp at hc
  | a :: v :: xs, x :: cs, h, 0, c, hc => by
    simp at hc; subst hc
    exact ⟨by simp [h.1], v, by simp, h.2.1⟩
  | a :: v :: xs, x :: cs, h, i + 1, c, hc => by
    obtain ⟨h1, u, h2, h3⟩ := CacheR.at_ h.2.2 (i := i) (c := c) (by simpa using hc)
    refine ⟨?_, u, ?_, h3⟩
    · rw [show (i + 1) * 2 = i * 2 + 1 + 1 by omega]; simpa using h1
    · rw [show (i + 1) * 2 + 1 = i * 2 + 1 + 1 + 1 by omega]; simpa using h2
  | [], _ :: _, h, _, _, _ => h.elim
  | [_], [], h, _, _, _ => h.elim
  | [_], _ :: _, h, _, _, _ => h.elim
  | _ :: _ :: _, [], h, _, _, _ => h.elim
end

/-- What the map of the sectors that were written says. -/
def DoneR (w : World) (F : Nat → Prop) (D : DD) (f : Int → Option Value) : Prop :=
  ∀ i : Nat, i < D.n → match f i with | none => D.done i = DD.zero D.m | some v => Bytes w F v (D.done i)

def diskCells (D : DD) (bm : Nat) (cv kv : Value) : Array Value :=
  #[.int .i64 (D.n : Int), .int .i64 (D.m : Int), .map (some bm), cv, .bool D.down, .int .i64 (D.left : Int), kv, .int .i64 (D.deeds : Int)]

/-- R: the blocks that the disk's own operations never write into: bytes, the truths of Arm. -/
structure DiskIn (w : World) (R : Nat → Prop) (b : Nat) (D : DD) (bm : Nat) (cv kv : Value) (xs : List Value) (f : Int → Option Value) : Prop where
  wf : D.Wf
  rb : ¬ R b
  rm : ¬ R bm
  rc : ∀ g, cv.ownBlock = some g → ¬ R g
  lt : ∀ k, R k → k < w.heap.size
  blk : Blk w b 66 (diskCells D bm cv kv)
  own : w.ownsRow 0 69 2 cv D.cache.length xs
  cache : CacheR w R xs D.cache
  map : IMap w bm f
  done : DoneR w R D f
  kept : Bools w R kv D.keep
  left : D.left < 9223372036854775808
  cap : D.cache.length < 1000000000
  deeds : D.deeds < 1000000000

/-- The blocks of a disk. -/
def diskF (R : Nat → Prop) (b bm : Nat) (cv : Value) : Nat → Prop := fun k => R k ∨ k = b ∨ k = bm ∨ cv.ownBlock = some k

/-- At block b lies the disk D; all that it is lies in F. -/
def DiskAt (w : World) (F : Nat → Prop) (b : Nat) (D : DD) : Prop :=
  (∀ k, F k → k < w.heap.size) ∧ ∃ R bm cv kv xs f, DiskIn w R b D bm cv kv xs f ∧ ∀ k, diskF R b bm cv k → F k

theorem DoneR.keep {w w' : World} {F : Nat → Prop} {D : DD} {f : Int → Option Value} (h : DoneR w F D f) (hk : ∀ k, F k → k < w.heap.size → w'.heap[k]? = w.heap[k]?) : DoneR w' F D f := by
  intro i hi
  have := h i hi
  cases hf : f i with
  | none => rw [hf] at this; simpa [hf] using this
  | some v => rw [hf] at this; exact Rd.keep this hk
theorem DoneR.mono {w : World} {F G : Nat → Prop} {D : DD} {f : Int → Option Value} (h : DoneR w F D f) (hk : ∀ k, F k → k < w.heap.size → G k) : DoneR w G D f := by
  intro i hi
  have := h i hi
  cases hf : f i with
  | none => rw [hf] at this; simpa [hf] using this
  | some v => rw [hf] at this; exact Rd.mono this hk

theorem ownsRow_keep {w w' : World} {e : TypeId} {size n : Nat} {v : Value} {xs : List Value} (h : w.ownsRow 0 e size v n xs) (hk : ∀ k, v.ownBlock = some k → w'.heap[k]? = w.heap[k]?) : w'.ownsRow 0 e size v n xs := by
  refine ⟨h.1, ?_⟩
  rcases h.2 with h0 | ⟨g, cap, cur, rfl, hb, hg, r⟩
  · exact .inl h0
  · exact .inr ⟨g, cap, cur, rfl, hb, (hk g rfl).trans hg, r⟩

section
variable {w w' : World} {F G R : Nat → Prop} {b bm : Nat} {D : DD} {cv kv : Value} {xs : List Value} {f : Int → Option Value}
theorem DiskIn.ltF (h : DiskIn w R b D bm cv kv xs f) : ∀ k, diskF R b bm cv k → k < w.heap.size := by
  rintro k (hk | rfl | rfl | hk)
  · exact h.lt k hk
  · exact h.blk.lt
  · exact h.map.lt
  · exact (h.own.lt k hk).2
theorem DiskIn.at_ (h : DiskIn w R b D bm cv kv xs f) : DiskAt w (diskF R b bm cv) b D := ⟨h.ltF, R, bm, cv, kv, xs, f, h, fun _ hk => hk⟩
theorem DiskIn.bm_ne (h : DiskIn w R b D bm cv kv xs f) : bm ≠ b := h.map.ne_blk h.blk
theorem DiskIn.cv_ne (h : DiskIn w R b D bm cv kv xs f) : cv.ownBlock ≠ some b := h.blk.ne_own h.own (by decide)
theorem DiskIn.cv_nm (h : DiskIn w R b D bm cv kv xs f) : cv.ownBlock ≠ some bm := by
  intro he
  rcases h.own.2 with ⟨rfl, _⟩ | ⟨g', cap, cur, rfl, _, hh, _⟩
  · cases he
  · have : g' = bm := by simpa [Value.ownBlock] using he
    subst this
    exact IMap.ne_blk h.map (show Blk w g' _ cur from hh) rfl
theorem DiskIn.keep (h : DiskIn w R b D bm cv kv xs f) (hs : w.heap.size ≤ w'.heap.size) (hk : ∀ k, diskF R b bm cv k → w'.heap[k]? = w.heap[k]?) : DiskIn w' R b D bm cv kv xs f :=
  ⟨h.wf, h.rb, h.rm, h.rc, fun k hF => Nat.lt_of_lt_of_le (h.lt k hF) hs, (hk b (.inr (.inl rfl))).trans h.blk, ownsRow_keep h.own fun k hg => hk k (.inr (.inr (.inr hg))), h.cache.keep fun k hF _ => hk k (.inl hF), h.map.keep (hk bm (.inr (.inr (.inl rfl)))), h.done.keep fun k hF _ => hk k (.inl hF), Rd.keep h.kept fun k hF _ => hk k (.inl hF), h.left, h.cap, h.deeds⟩
theorem DiskIn.drew (h : DiskIn w R b D bm cv kv xs f) : DiskIn w.drew R b D bm cv kv xs f := h.keep (Nat.le_refl _) fun _ _ => rfl
theorem DiskAt.keep (h : DiskAt w F b D) (hs : w.heap.size ≤ w'.heap.size) (hk : ∀ k, F k → w'.heap[k]? = w.heap[k]?) : DiskAt w' F b D := by
  obtain ⟨hl, R, bm, cv, kv, xs, f, h, hF⟩ := h
  exact ⟨fun k hk => Nat.lt_of_lt_of_le (hl k hk) hs, R, bm, cv, kv, xs, f, h.keep hs fun k hd => hk k (hF k hd), hF⟩
theorem DiskAt.wf (h : DiskAt w F b D) : D.Wf := by obtain ⟨hl, R, bm, cv, kv, xs, f, h, hF⟩ := h; exact h.wf
theorem DiskAt.only (h : DiskAt w F b D) (ho : Only G w w') (hd : ∀ k, F k → ¬ G k) : DiskAt w' F b D :=
  h.keep ho.size fun k hF => ho.block k (h.1 k hF) (hd k hF)
theorem DiskIn.cell (h : DiskIn w R b D bm cv kv xs f) (i : Nat) (v : Value) (hi : (diskCells D bm cv kv)[i]? = some v) : w.cell? ⟨b, i, none⟩ = some v := by rw [h.blk.cell, hi]
theorem DiskIn.frozen (h : DiskIn w R b D bm cv kv xs f) (i : Nat) : w.frozen? ⟨b, i, none⟩ = false := h.blk.frozen i
/-- The disk's own block turned at one of its numbers and truths; all else stays. -/
theorem DiskIn.turn (h : DiskIn w R b D bm cv kv xs f) (i : Nat) (u : Value) (D' : DD) (hc : (diskCells D bm cv kv).setIfInBounds i u = diskCells D' bm cv kv)
    (h1 : D'.n = D.n) (h2 : D'.m = D.m) (h3 : D'.done = D.done) (h4 : D'.cache = D.cache) (h5 : D'.keep = D.keep) (h6 : D'.left < 9223372036854775808) (h7 : D'.deeds < 1000000000) :
    DiskIn (w.setCell ⟨b, i, none⟩ u) R b D' bm cv kv xs f := by
  have hne : ∀ k, k ≠ b → (w.setCell ⟨b, i, none⟩ u).heap[k]? = w.heap[k]? := fun k hk => Below.heap_setCell w _ u k hk
  have hR : ∀ k, R k → k < w.heap.size → (w.setCell ⟨b, i, none⟩ u).heap[k]? = w.heap[k]? := fun k hk _ => hne k (fun e => h.rb (e ▸ hk))
  have hbs := h.blk.set_ i u
  have hw : D'.Wf := ⟨by rw [h1]; exact h.wf.n1, by rw [h1]; exact h.wf.n2, by rw [h2]; exact h.wf.m1, by rw [h2]; exact h.wf.m2, by rw [h3, h2]; exact h.wf.done, by rw [h4, h1, h2]; exact h.wf.cache⟩
  have hd : DoneR w R D' f := by
    intro i hi
    rw [h1] at hi
    have := h.done i hi
    rw [h2, h3]
    exact this
  refine ⟨hw, h.rb, h.rm, h.rc, fun k hk => by rw [World.size_setCell]; exact h.lt k hk, by rw [← hc]; exact hbs, ?_, ?_, h.map.keep (hne bm h.bm_ne), hd.keep hR, ?_, h6, by rw [h4]; exact h.cap, h7⟩
  · rw [h4]; exact ownsRow_keep h.own fun k hk => hne k (fun e => h.cv_ne (e ▸ hk))
  · rw [h4]; exact h.cache.keep hR
  · rw [h5]; exact Rd.keep h.kept hR
end
end Go.Proofs.Ytllodjcfcjmocaa
