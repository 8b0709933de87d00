import Derived.Test.YtllodjcfcjmocaaDisk6
import Derived.Test.YtllodjcfcjmocaaAwake
/- THE DOCUMENT's DISK IN MEMORY: the same plain state as the program's disk. -/
namespace Go.Proofs.Ytllodjcfcjmocaa
open Go.RowKit Go.Proofs

def refCells (D : DD) (lv cv kv : Value) : Array Value :=
  #[.int .i64 (D.m : Int), lv, cv, .bool (!D.down), .int .i64 (D.left : Int), kv, .int .i64 (D.deeds : Int)]
/-- The sectors' texts. -/
def rowL (n : Nat) (f : Nat → List UInt8) : List Value := (List.range n).map fun i => strOf (f i)
theorem rowL_len (n : Nat) (f : Nat → List UInt8) : (rowL n f).length = n := by simp [rowL]
theorem rowL_get {n i : Nat} (f : Nat → List UInt8) (h : i < n) : (rowL n f)[i]? = some (strOf (f i)) := by simp [rowL, h]
theorem rowL_set {n s : Nat} (f : Nat → List UInt8) (l : List UInt8) : (rowL n f).set s (strOf l) = rowL n (DD.setS f s l) := by
  apply List.ext_getElem
  · simp [rowL]
  · intro i h1 h2
    simp [rowL, List.getElem_set, DD.setS]
    by_cases h : s = i
    · subst h; simp
    · rw [if_neg h, if_neg (fun e => h e.symm)]
theorem rowL_snoc (n : Nat) (f : Nat → List UInt8) : rowL n f ++ [strOf (f n)] = rowL (n + 1) f := by simp [rowL, List.range_succ]

/-- R: the blocks that the document's disk never writes into. -/
structure RefIn (w : World) (R : Nat → Prop) (b : Nat) (D : DD) (lv cv kv : Value) (xs : List Value) : Prop where
  rb : ¬ R b
  rl : ∀ g, lv.ownBlock = some g → ¬ R g
  rc : ∀ g, cv.ownBlock = some g → ¬ R g
  lt : ∀ k, R k → k < w.heap.size
  blk : Blk w b 56 (refCells D lv cv kv)
  sec : w.ownsRow 0 9 1 lv D.n (rowL D.n D.done)
  own : w.ownsRow 0 69 2 cv D.cache.length xs
  cache : CacheR w R xs D.cache
  cn : ∀ c ∈ D.cache, c.1 < D.n
  kept : Bools w R kv D.keep
  left : D.left < 9223372036854775808
  cap : D.cache.length < 1000000000
  deeds : D.deeds < 1000000000
  n : D.n ≤ 65536
  m : D.m ≤ 4096

def refF (R : Nat → Prop) (b : Nat) (lv cv : Value) : Nat → Prop := fun k => R k ∨ k = b ∨ lv.ownBlock = some k ∨ cv.ownBlock = some k
def refW (b : Nat) (lv cv : Value) : Nat → Prop := fun k => k = b ∨ lv.ownBlock = some k ∨ cv.ownBlock = some k
/-- At block b lies the document's disk D; all that it is lies in F. -/
def RefAt (w : World) (F : Nat → Prop) (b : Nat) (D : DD) : Prop :=
  (∀ k, F k → k < w.heap.size) ∧ ∃ R lv cv kv xs, RefIn w R b D lv cv kv xs ∧ ∀ k, refF R b lv cv k → F k
/-- A call of the document's disk at b: it answers v, and the disk is D' then. -/
def RefD (w : World) (F : Nat → Prop) (b : Nat) (v : Value) (D' : DD) (e : Ending) (w' : World) : Prop :=
  e = .returned v ∧ ∃ F', RefAt w' F' b D' ∧ Only F w w' ∧ Grows F F' w
/-- The same of its parts. -/
def RefDIn (w : World) (R : Nat → Prop) (b : Nat) (lv cv kv : Value) (v : Value) (D' : DD) (e : Ending) (w' : World) : Prop :=
  e = .returned v ∧ ∃ cv' xs, RefIn w' R b D' lv cv' kv xs ∧ (∀ g, cv'.ownBlock = some g → cv.ownBlock = some g) ∧ Only (refW b lv cv) w w'

theorem own_ne {w : World} {e1 e2 : TypeId} {s1 s2 n1 n2 : Nat} {v1 v2 : Value} {xs1 xs2 : List Value} (h1 : w.ownsRow 0 e1 s1 v1 n1 xs1) (h2 : w.ownsRow 0 e2 s2 v2 n2 xs2) (hne : e1 ≠ e2) : ∀ g, v1.ownBlock = some g → v2.ownBlock ≠ some g := by
  intro g hg
  rcases h1.2 with ⟨rfl, _⟩ | ⟨g', cap, cur, rfl, _, hh, _⟩
  · cases hg
  · have : g' = g := by simpa [Value.ownBlock] using hg
    subst this
    exact Blk.ne_own (show Blk w g' e1 cur from hh) h2 (Ne.symm hne)

section
variable {w w' : World} {F G R : Nat → Prop} {b : Nat} {D : DD} {lv cv kv : Value} {xs : List Value}
theorem refW_F {k : Nat} (h : refW b lv cv k) : refF R b lv cv k := .inr h
theorem RefIn.ltF (h : RefIn w R b D lv cv kv xs) : ∀ k, refF R b lv cv k → k < w.heap.size := by
  rintro k (hk | rfl | hk | hk)
  · exact h.lt k hk
  · exact h.blk.lt
  · exact (h.sec.lt k hk).2
  · exact (h.own.lt k hk).2
theorem RefIn.lv_ne (h : RefIn w R b D lv cv kv xs) : lv.ownBlock ≠ some b := h.blk.ne_own h.sec (by decide)
theorem RefIn.cv_ne (h : RefIn w R b D lv cv kv xs) : cv.ownBlock ≠ some b := h.blk.ne_own h.own (by decide)
theorem RefIn.lc (h : RefIn w R b D lv cv kv xs) : ∀ g, lv.ownBlock = some g → cv.ownBlock ≠ some g := own_ne h.sec h.own (by decide)
theorem RefIn.keep (h : RefIn w R b D lv cv kv xs) (hs : w.heap.size ≤ w'.heap.size) (hk : ∀ k, refF R b lv cv k → w'.heap[k]? = w.heap[k]?) : RefIn w' R b D lv cv kv xs :=
  ⟨h.rb, h.rl, h.rc, fun k hF => Nat.lt_of_lt_of_le (h.lt k hF) hs, (hk b (.inr (.inl rfl))).trans h.blk, ownsRow_keep h.sec fun k hg => hk k (.inr (.inr (.inl hg))), ownsRow_keep h.own fun k hg => hk k (.inr (.inr (.inr hg))),
    h.cache.keep fun k hF _ => hk k (.inl hF), h.cn, Rd.keep h.kept fun k hF _ => hk k (.inl hF), h.left, h.cap, h.deeds, h.n, h.m⟩
theorem RefIn.only (h : RefIn w R b D lv cv kv xs) (ho : Only G w w') (hd : ∀ k, refF R b lv cv k → ¬ G k) : RefIn w' R b D lv cv kv xs :=
  h.keep ho.size fun k hF => ho.block k (h.ltF k hF) (hd k hF)
theorem RefIn.at_ (h : RefIn w R b D lv cv kv xs) : RefAt w (refF R b lv cv) b D := ⟨h.ltF, R, lv, cv, kv, xs, h, fun _ hk => hk⟩
theorem RefAt.only (h : RefAt w F b D) (ho : Only G w w') (hd : ∀ k, F k → ¬ G k) : RefAt w' F b D := by
  obtain ⟨hl, R, lv, cv, kv, xs, h, hF⟩ := h
  exact ⟨fun k hk => Nat.lt_of_lt_of_le (hl k hk) ho.size, R, lv, cv, kv, xs, h.only ho fun k hk => hd k (hF k hk), hF⟩
theorem RefDIn.out {v : Value} {D' : DD} {e : Ending} (h : RefDIn w R b lv cv kv v D' e w') (hF : ∀ k, refF R b lv cv k → F k) (hs : ∀ k, F k → k < w.heap.size) : RefD w F b v D' e w' := by
  obtain ⟨he, cv', xs, hd, hown, ho⟩ := h
  refine ⟨he, F, ⟨fun k hk => Nat.lt_of_lt_of_le (hs k hk) ho.size, R, lv, cv', kv, xs, hd, ?_⟩, ho.mono fun k _ hk => hF k (refW_F hk), Grows.refl _ _⟩
  intro k hk
  apply hF
  rcases hk with h | h | h | h
  · exact .inl h
  · exact .inr (.inl h)
  · exact .inr (.inr (.inl h))
  · exact .inr (.inr (.inr (hown k h)))
theorem RefIn.cell (h : RefIn w R b D lv cv kv xs) (i : Nat) (v : Value) (hi : (refCells D lv cv kv)[i]? = some v) : w.cell? ⟨b, i, none⟩ = some v := by rw [h.blk.cell, hi]
theorem RefIn.frozen (h : RefIn w R b D lv cv kv xs) (i : Nat) : w.frozen? ⟨b, i, none⟩ = false := h.blk.frozen i
/-- The disk's own block turned at one of its numbers and truths. -/
theorem RefIn.turn (h : RefIn w R b D lv cv kv xs) (i : Nat) (u : Value) (D' : DD) (hc : (refCells D lv cv kv).setIfInBounds i u = refCells D' lv cv kv)
    (h1 : D'.n = D.n) (h2 : D'.m = D.m) (h3 : D'.done = D.done) (h4 : D'.cache = D.cache) (h5 : D'.keep = D.keep) (h6 : D'.left < 9223372036854775808) (h7 : D'.deeds < 1000000000) :
    RefIn (w.setCell ⟨b, i, none⟩ u) R b D' lv cv kv xs := by
  have hne : ∀ k, k ≠ b → (w.setCell ⟨b, i, none⟩ u).heap[k]? = w.heap[k]? := fun k hk => Below.heap_setCell w _ u k hk
  have hR : ∀ k, R k → k < w.heap.size → (w.setCell ⟨b, i, none⟩ u).heap[k]? = w.heap[k]? := fun k hk _ => hne k (fun e => h.rb (e ▸ hk))
  refine ⟨h.rb, h.rl, h.rc, fun k hk => by rw [World.size_setCell]; exact h.lt k hk, by rw [← hc]; exact h.blk.set_ i u, ?_, ?_, ?_, by rw [h4, h1]; exact h.cn, ?_, h6, by rw [h4]; exact h.cap, h7, by rw [h1]; exact h.n, by rw [h2]; exact h.m⟩
  · rw [h1, h3]; exact ownsRow_keep h.sec fun k hk => hne k (fun e => h.lv_ne (e ▸ hk))
  · rw [h4]; exact ownsRow_keep h.own fun k hk => hne k (fun e => h.cv_ne (e ▸ hk))
  · rw [h4]; exact h.cache.keep hR
  · rw [h5]; exact Rd.keep h.kept hR
/-- The cache is forgotten. -/
theorem RefIn.forgot (h : RefIn w R b D lv cv kv xs) : RefIn (w.setCell ⟨b, 2, none⟩ (.slice none 0 0)) R b { D with cache := [] } lv (.slice none 0 0) kv [] := by
  have hne : ∀ k, k ≠ b → (w.setCell ⟨b, 2, none⟩ (.slice none 0 0)).heap[k]? = w.heap[k]? := fun k hk => Below.heap_setCell w _ _ k hk
  have hR : ∀ k, R k → k < w.heap.size → (w.setCell ⟨b, 2, none⟩ (.slice none 0 0)).heap[k]? = w.heap[k]? := fun k hk _ => hne k (fun e => h.rb (e ▸ hk))
  exact ⟨h.rb, h.rl, fun g hg => (by cases hg), fun k hk => by rw [World.size_setCell]; exact h.lt k hk, h.blk.set_ 2 _, ownsRow_keep h.sec fun k hk => hne k (fun e => h.lv_ne (e ▸ hk)), World.ownsRow_nil _ _ _ _, trivial, fun c hc => (by cases hc), Rd.keep h.kept hR, h.left, by simp, h.deeds, h.n, h.m⟩
/-- A sector's text is stored. -/
theorem RefIn.stored {g c : Nat} (h : RefIn w R b D (.slice (some ⟨g, 0, none⟩) D.n c) cv kv xs) (s : Nat) (l : List UInt8) :
    RefIn (w.setCell ⟨g, s, none⟩ (strOf l)) R b { D with done := DD.setS D.done s l } (.slice (some ⟨g, 0, none⟩) D.n c) cv kv xs := by
  have hne : ∀ k, k ≠ g → (w.setCell ⟨g, s, none⟩ (strOf l)).heap[k]? = w.heap[k]? := fun k hk => Below.heap_setCell w _ _ k hk
  have hR : ∀ k, R k → k < w.heap.size → (w.setCell ⟨g, s, none⟩ (strOf l)).heap[k]? = w.heap[k]? := fun k hk _ => hne k (fun e => h.rl g rfl (e ▸ hk))
  refine ⟨h.rb, h.rl, h.rc, fun k hk => by rw [World.size_setCell]; exact h.lt k hk, h.blk.far (fun e => h.lv_ne (by rw [e]; rfl)) _, ?_, ownsRow_keep h.own fun k hk => hne k (fun e => h.lc g rfl (e ▸ hk)), h.cache.keep hR, h.cn, Rd.keep h.kept hR, h.left, h.cap, h.deeds, h.n, h.m⟩
  have := (h.sec.stored s (strOf l)).1
  rw [rowL_set] at this
  exact this
/-- More blocks that are only read. -/
theorem RefIn.more (h : RefIn w R b D lv cv kv xs) (N : Nat → Prop) (hN : ∀ k, N k → k < w.heap.size ∧ k ≠ b ∧ lv.ownBlock ≠ some k ∧ cv.ownBlock ≠ some k) : RefIn w (fun k => R k ∨ N k) b D lv cv kv xs :=
  ⟨fun hk => hk.elim h.rb (fun hk => (hN _ hk).2.1 rfl), fun g hg hk => hk.elim (h.rl g hg) (fun hk => (hN _ hk).2.2.1 hg), fun g hg hk => hk.elim (h.rc g hg) (fun hk => (hN _ hk).2.2.2 hg), fun k hk => hk.elim (h.lt k) (fun hk => (hN _ hk).1),
    h.blk, h.sec, h.own, h.cache.mono fun _ hk _ => .inl hk, h.cn, Rd.mono h.kept fun _ hk _ => .inl hk, h.left, h.cap, h.deeds, h.n, h.m⟩
/-- Other truths are kept. -/
theorem RefIn.armed (h : RefIn w R b D lv cv kv xs) {kv' : Value} {l : List Bool} (hk : Bools w R kv' l) : RefIn (w.setCell ⟨b, 5, none⟩ kv') R b { D with keep := l } lv cv kv' xs := by
  have hne : ∀ k, k ≠ b → (w.setCell ⟨b, 5, none⟩ kv').heap[k]? = w.heap[k]? := fun k hk => Below.heap_setCell w _ _ k hk
  have hR : ∀ k, R k → k < w.heap.size → (w.setCell ⟨b, 5, none⟩ kv').heap[k]? = w.heap[k]? := fun k hk _ => hne k (fun e => h.rb (e ▸ hk))
  exact ⟨h.rb, h.rl, h.rc, fun k hk => by rw [World.size_setCell]; exact h.lt k hk, h.blk.set_ 5 kv', ownsRow_keep h.sec fun k hk => hne k (fun e => h.lv_ne (e ▸ hk)), ownsRow_keep h.own fun k hk => hne k (fun e => h.cv_ne (e ▸ hk)), h.cache.keep hR, h.cn, Rd.keep hk hR, h.left, h.cap, h.deeds, h.n, h.m⟩
theorem RefIn.far (h : RefIn w R b D lv cv kv xs) {k : Nat} (hk : w.heap.size ≤ k) : k ≠ b ∧ lv.ownBlock ≠ some k ∧ cv.ownBlock ≠ some k :=
  ⟨fun e => by have := h.blk.lt; omega, fun e => by have := (h.sec.lt k e).2; omega, fun e => by have := (h.own.lt k e).2; omega⟩
/-- One write more in the cache. -/
theorem RefIn.put (h : RefIn w R b D lv cv kv xs) {s : Nat} {l : List UInt8} {v cv' : Value} (hs : s < D.n) (hv : Bytes w R v l) (hcap : D.cache.length + 1 < 1000000000)
    (ha : App w (fun k => cv.ownBlock = some k) 69 2 cv D.cache.length 1 xs [.int .i64 (s : Int), v] cv' w') (hN : ¬ R w.heap.size) :
    RefIn (w'.setCell ⟨b, 2, none⟩ cv') R b (DD.put s l D) lv cv' kv (xs ++ [.int .i64 (s : Int), v]) := by
  have ho := ha.only
  have hR : ∀ k, R k → k < w.heap.size → w'.heap[k]? = w.heap[k]? := fun k hk hlt => ho.block k hlt (fun e => h.rc k e hk)
  have hne : ∀ k, k ≠ b → (w'.setCell ⟨b, 2, none⟩ cv').heap[k]? = w'.heap[k]? := fun k hk => Below.heap_setCell w' _ _ k hk
  have hR' : ∀ k, R k → k < w.heap.size → (w'.setCell ⟨b, 2, none⟩ cv').heap[k]? = w.heap[k]? := fun k hk hlt => (hne k (fun e => h.rb (e ▸ hk))).trans (hR k hk hlt)
  have hb2 := h.blk.only ho h.cv_ne
  have hcvb : ∀ g, cv'.ownBlock = some g → g ≠ b ∧ ¬ R g := by
    intro g hg
    rcases ha.own.2 g hg with hg | rfl
    · exact ⟨fun e => h.cv_ne (e ▸ hg), h.rc g hg⟩
    · exact ⟨fun e => by have := h.blk.lt; omega, hN⟩
  refine ⟨h.rb, h.rl, fun g hg => (hcvb g hg).2, fun k hk => by rw [World.size_setCell]; exact Nat.lt_of_lt_of_le (h.lt k hk) ho.size, hb2.set_ 2 cv', ownsRow_keep h.sec fun k hk => (hne k (fun e => h.lv_ne (e ▸ hk))).trans (ho.block k (h.sec.lt k hk).2 (h.lc k hk)), ?_, ?_, ?_, Rd.keep h.kept hR', h.left, by simp [DD.put]; omega, h.deeds, h.n, h.m⟩
  · have : (DD.put s l D).cache.length = D.cache.length + 1 := by simp [DD.put]
    rw [this]
    exact ownsRow_keep ha.own.1 fun k hk => hne k (hcvb k hk).1
  · exact (h.cache.keep hR').snoc (Rd.keep hv hR')
  · intro c hc
    simp only [DD.put, List.mem_append, List.mem_singleton] at hc
    rcases hc with hc | rfl
    · exact h.cn c hc
    · exact hs
end
end Go.Proofs.Ytllodjcfcjmocaa
