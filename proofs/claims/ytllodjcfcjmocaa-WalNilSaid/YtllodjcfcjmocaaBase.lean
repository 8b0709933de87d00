import Derived.WalkKit
import Derived.Maps.AppendAt
import Derived.Deep.AppendLies
import Derived.Deep.RegionHeld3
import Derived.Deep.QuietTactic
import Derived.BigQuiet
import Derived.Lib.Hide
import Derived.Laws.CopyOwn
import Derived.WalkSpells
import Derived.WalkLawsBesides
/-
  WORDS FOR MEMORY: what a call may turn (Only), what a slice reads (Rd), a block known whole (Blk), a map with int keys (IMap); the laws on them. No program in sight.
-/
namespace Go.Proofs.Ytllodjcfcjmocaa
open Go.RowKit

/-! ## What a call may turn -/
/-- Only the blocks of F, and new ones, are turned. -/
structure Only (F : Nat → Prop) (w w' : World) : Prop where
  os : w'.os = w.os
  tape : w'.tape = w.tape
  output : w'.output = w.output
  size : w.heap.size ≤ w'.heap.size
  block : ∀ k, k < w.heap.size → ¬ F k → w'.heap[k]? = w.heap[k]?

/-- No block is turned. -/
abbrev NoB : Nat → Prop := fun _ => False
/-- The blocks from B on. -/
def From (B : Nat) : Nat → Prop := fun k => B ≤ k
/-- F' holds of F and of what is new in w alone. -/
def Grows (F F' : Nat → Prop) (w : World) : Prop := ∀ k, F' k → F k ∨ w.heap.size ≤ k

section
variable {F F' G : Nat → Prop} {a w w' w'' : World}
theorem Only.refl (F : Nat → Prop) (w : World) : Only F w w := ⟨rfl, rfl, rfl, Nat.le_refl _, fun _ _ _ => rfl⟩
theorem Only.trans (h : Only F w w') (k : Only F w' w'') : Only F w w'' :=
  ⟨k.os.trans h.os, k.tape.trans h.tape, k.output.trans h.output, Nat.le_trans h.size k.size,
    fun i hi hF => (k.block i (Nat.lt_of_lt_of_le hi h.size) hF).trans (h.block i hi hF)⟩
theorem Only.mono (h : Only F w w') (hF : ∀ k, k < w.heap.size → F k → G k) : Only G w w' :=
  ⟨h.os, h.tape, h.output, h.size, fun i hi hG => h.block i hi (fun hf => hG (hF i hi hf))⟩
/-- A second step may turn what the first one made, too. -/
theorem Only.trans' (h : Only F w w') (k : Only F' w' w'') (hg : ∀ i, i < w.heap.size → F' i → F i) : Only F w w'' :=
  ⟨k.os.trans h.os, k.tape.trans h.tape, k.output.trans h.output, Nat.le_trans h.size k.size,
    fun i hi hF => (k.block i (Nat.lt_of_lt_of_le hi h.size) (fun hf => hF (hg i hi hf))).trans (h.block i hi hF)⟩
theorem Only.drew (h : Only F a w) : Only F a w.drew := ⟨h.os, h.tape, h.output, h.size, h.block⟩
theorem Only.drewN (h : Only F a w) (n : Nat) : Only F a (w.drewN n) := ⟨h.os, h.tape, h.output, h.size, h.block⟩
theorem Only.alloc (h : Only F a w) (o : Obj) : Only F a (w.alloc o) :=
  h.trans ⟨rfl, rfl, rfl, by simp, fun k hk _ => Below.heap_alloc _ _ _ hk⟩
theorem Only.setCell (h : Only F a w) {p : Addr} (hp : F p.block ∨ a.heap.size ≤ p.block) (u : Value) : Only F a (w.setCell p u) :=
  h.trans' (F' := fun k => k = p.block) ⟨rfl, rfl, rfl, by simp [World.setCell], fun k _ hk => Below.heap_setCell _ _ _ _ hk⟩
    (fun i hi e => by rcases hp with hp | hp; (· rw [e]; exact hp); (· rw [e] at hi; omega))
theorem Only.grown (h : Only F a w) {row : Option Nat} (hg : w.grownBy w' row) (hr : ∀ k, row = some k → F k ∨ a.heap.size ≤ k) : Only F a w' :=
  h.trans' (F' := fun k => row = some k) ⟨hg.os, hg.tape, hg.output, hg.size, fun k hk hn => hg.block k hk (fun e => hn e.symm)⟩
    (fun i hi e => by rcases hr i e with hp | hp; (· exact hp); (· omega))
theorem Only.of_grown {row : Option Nat} (hg : w.grownBy w' row) : Only (fun k => row = some k) w w' :=
  ⟨hg.os, hg.tape, hg.output, hg.size, fun k hk hn => hg.block k hk (fun e => hn e.symm)⟩
theorem Only.of_below (h : Below w.heap.size w w') : Only NoB w w' := ⟨h.os, h.tape, h.output, h.size, fun k hk _ => h.block k hk⟩
theorem Only.below {B : Nat} (h : Only F w w') (hB : B ≤ w.heap.size) (hF : ∀ k, F k → B ≤ k) : Below B w w' :=
  ⟨h.os, h.tape, h.output, h.size, fun k hk => h.block k (by omega) (fun hf => by have := hF k hf; omega)⟩
theorem Only.cell (h : Only F w w') {p : Addr} {v : Value} (hc : w.cell? p = some v) (hF : ¬ F p.block) : w'.cell? p = some v :=
  (World.cell?_of_block (h.block p.block (World.block_lt_of_cell? w p hc) hF)).trans hc
theorem Only.frozen (h : Only F w w') {p : Addr} (hp : p.block < w.heap.size) (hF : ¬ F p.block) : w'.frozen? p = w.frozen? p :=
  World.frozen?_of_block (h.block p.block hp hF)
theorem Only.heap (h : Only F w w') {k : Nat} {o : Obj} (hc : w.heap[k]? = some o) (hF : ¬ F k) : w'.heap[k]? = some o :=
  (h.block k (Array.getElem?_eq_some_iff.1 hc).1 hF).trans hc
theorem Grows.refl (F : Nat → Prop) (w : World) : Grows F F w := fun _ h => .inl h
theorem Grows.trans {F'' : Nat → Prop} (h : Grows F F' w) (k : Grows F' F'' w') (hs : w.heap.size ≤ w'.heap.size) : Grows F F'' w :=
  fun i hi => by rcases k i hi with h1 | h1; (· exact h i h1); (· exact .inr (by omega))
/-- Two steps, each by its own ground, which grows. -/
theorem Only.steps (h : Only F w w') (hg : Grows F F' w) (k : Only F' w' w'') : Only F w w'' :=
  h.trans' k (fun i hi hf => by rcases hg i hf with h1 | h1; (· exact h1); (· omega))
end

/-! ## Addresses -/
theorem add_block (a : Addr) (n : Nat) : (a.add n).block = a.block := by unfold Addr.add; split <;> rfl
theorem add_add (a : Addr) (i j : Nat) : (a.add i).add j = a.add (i + j) := by
  unfold Addr.add
  by_cases hi : i = 0 <;> by_cases hj : j = 0 <;> simp [hi, hj, Nat.add_assoc]

/-! ## A slice that reads as a list of cells -/
/-- The slice v has n elements of 'size' cells, which are xs, in a block of F. -/
def Rd (w : World) (F : Nat → Prop) (size : Nat) (v : Value) (n : Nat) (xs : List Value) : Prop :=
  ∃ A c, v = .slice A n c ∧ n ≤ c ∧ xs.length = n * size ∧ (0 < n * size → ∃ ad, A = some ad ∧ F ad.block ∧ ∀ j u, xs[j]? = some u → w.cell? (ad.add j) = some u)

section
variable {w w' : World} {F G : Nat → Prop} {size n : Nat} {v : Value} {xs : List Value}
theorem Rd.nil (w : World) (F : Nat → Prop) (size : Nat) : Rd w F size (.slice none 0 0) 0 [] := ⟨none, 0, rfl, Nat.le_refl _, by simp, fun h => by simp at h⟩
theorem Rd.keep (h : Rd w F size v n xs) (hk : ∀ k, F k → k < w.heap.size → w'.heap[k]? = w.heap[k]?) : Rd w' F size v n xs := by
  obtain ⟨A, c, hv, hc, hl, h⟩ := h
  refine ⟨A, c, hv, hc, hl, fun hn => ?_⟩
  obtain ⟨ad, hA, hF, hcell⟩ := h hn
  refine ⟨ad, hA, hF, fun j u hu => ?_⟩
  have hc1 := hcell j u hu
  have hlt := World.block_lt_of_cell? w _ hc1
  rw [add_block] at hlt
  rw [World.cell?_of_block (w := w) (by rw [add_block]; exact hk _ hF hlt)]
  exact hc1
theorem Rd.mono (h : Rd w F size v n xs) (hk : ∀ k, F k → k < w.heap.size → G k) : Rd w G size v n xs := by
  obtain ⟨A, c, hv, hc, hl, h⟩ := h
  refine ⟨A, c, hv, hc, hl, fun hn => ?_⟩
  obtain ⟨ad, hA, hF, hcell⟩ := h hn
  obtain ⟨u, hu⟩ : ∃ u, xs[0]? = some u := ⟨xs[0]'(by omega), List.getElem?_eq_getElem (by omega)⟩
  have hlt := World.block_lt_of_cell? w _ (hcell 0 u hu)
  rw [add_block] at hlt
  exact ⟨ad, hA, hk _ hF hlt, hcell⟩
theorem Rd.only (h : Rd w F size v n xs) (ho : Only G w w') (hd : ∀ k, F k → ¬ G k) : Rd w' F size v n xs :=
  h.keep fun k hF hlt => ho.block k hlt (hd k hF)
theorem Rd.own {e : TypeId} (h : w.ownsRow 0 e size v n xs) (hF : ∀ g, v.ownBlock = some g → F g) : Rd w F size v n xs := by
  obtain ⟨hl, h⟩ := h
  rcases h with ⟨rfl, rfl⟩ | ⟨g, cap, cur, rfl, _, hg, hnc, hcm, hcs, htake⟩
  · have : xs = [] := List.eq_nil_of_length_eq_zero (by simpa using hl)
    subst this
    exact Rd.nil w F size
  · refine ⟨_, _, rfl, hnc, hl, fun _ => ⟨_, rfl, hF g rfl, fun j u hu => ?_⟩⟩
    rw [Addr.add_lit, Nat.zero_add, cell_of_row w g j cur e (0, 0) hg]
    rw [← htake, List.getElem?_take] at hu
    split at hu
    · simpa using hu
    · cases hu
theorem Rd.open_ (h : Rd w F size v n xs) (hn : 0 < n * size) : ∃ g off c, v = .slice (some ⟨g, off, none⟩) n c ∧ n ≤ c ∧ F g ∧ ∀ j u, xs[j]? = some u → w.cell? ⟨g, off + j, none⟩ = some u := by
  obtain ⟨A, c, hv, hc, hl, h⟩ := h
  obtain ⟨⟨g, off, spot⟩, hA, hF, hcell⟩ := h hn
  obtain ⟨u, hu⟩ : ∃ u, xs[0]? = some u := ⟨xs[0]'(by omega), List.getElem?_eq_getElem (by omega)⟩
  have hs : spot = none := by
    have h0 := hcell 0 u hu
    simp only [Addr.add_zero'] at h0
    unfold World.cell? at h0
    cases spot with
    | none => rfl
    | some s =>
      split at h0
      · simp at h0
      · cases h0
  subst hs
  exact ⟨g, off, c, by rw [hv, hA], hc, hF, fun j u hu => by have := hcell j u hu; rwa [Addr.add_lit] at this⟩
theorem Rd.len_le (h : Rd w F size v n xs) : xs.length = n * size := by obtain ⟨A, c, hv, hc, hl, h⟩ := h; exact hl
end

/-! ## A block that is known whole -/
def Blk (w : World) (g : Nat) (t : TypeId) (cs : Array Value) : Prop := w.heap[g]? = some (.cells cs t (0, 0))
section
variable {w w' : World} {g : Nat} {t : TypeId} {cs : Array Value}
theorem Blk.lt (h : Blk w g t cs) : g < w.heap.size := (Array.getElem?_eq_some_iff.1 h).1
theorem Blk.cell (h : Blk w g t cs) (i : Nat) : w.cell? ⟨g, i, none⟩ = cs[i]? := cell_of_row w g i cs t (0, 0) h
theorem Blk.frozen (h : Blk w g t cs) (i : Nat) : w.frozen? ⟨g, i, none⟩ = false := by
  unfold Blk at h
  simp [World.frozen?, h]
theorem Blk.new (w : World) (t : TypeId) (cs : Array Value) : Blk (w.alloc (.cells cs t)) w.heap.size t cs := heap_alloc_new w _
theorem Blk.alloc (h : Blk w g t cs) (o : Obj) : Blk (w.alloc o) g t cs := (Below.heap_alloc w o g h.lt).trans h
theorem Blk.drew (h : Blk w g t cs) : Blk w.drew g t cs := h
theorem Blk.set_ (h : Blk w g t cs) (i : Nat) (u : Value) : Blk (w.setCell ⟨g, i, none⟩ u) g t (cs.setIfInBounds i u) := by
  unfold Blk at h ⊢
  simp [World.setCell, Array.getElem?_modify, h]
theorem Blk.far (h : Blk w g t cs) {p : Addr} (hp : g ≠ p.block) (u : Value) : Blk (w.setCell p u) g t cs := (Below.heap_setCell w p u g hp).trans h
theorem Blk.only {F : Nat → Prop} (h : Blk w g t cs) (ho : Only F w w') (hg : ¬ F g) : Blk w' g t cs := ho.heap h hg
theorem Blk.ne_ {g' : Nat} {t' : TypeId} {cs' : Array Value} (h : Blk w g t cs) (h' : Blk w g' t' cs') (hne : t ≠ t') : g ≠ g' := by
  rintro rfl
  unfold Blk at h h'
  rw [h] at h'
  injection h' with h'
  injection h' with _ ht
  exact hne ht
theorem Blk.ne_own {base : Nat} {e : TypeId} {size n : Nat} {v : Value} {xs : List Value} (hg : Blk w g t cs) (h : w.ownsRow base e size v n xs) (hne : e ≠ t) : v.ownBlock ≠ some g := by
  rcases h.2 with ⟨rfl, _⟩ | ⟨g', cap, cur, rfl, _, hh, _⟩
  · simp [Value.ownBlock]
  · intro he
    have : g' = g := by simpa [Value.ownBlock] using he
    subst this
    exact Blk.ne_ (t := e) hh hg hne rfl
end

/-! ## Bytes, truths -/
def byteV (x : UInt8) : Value := .int .u8 x.toNat
def boolV (x : Bool) : Value := .bool x
/-- v is a slice that reads as the bytes l. -/
def Bytes (w : World) (F : Nat → Prop) (v : Value) (l : List UInt8) : Prop := Rd w F 1 v l.length (l.map byteV)
def Bools (w : World) (F : Nat → Prop) (v : Value) (l : List Bool) : Prop := Rd w F 1 v l.length (l.map boolV)
theorem oneCell_bytes (l : List UInt8) : ∀ u ∈ l.map byteV, u.oneCell' = true := by
  intro u hu
  obtain ⟨x, _, rfl⟩ := List.mem_map.1 hu
  rfl
theorem oneCell_bools (l : List Bool) : ∀ u ∈ l.map boolV, u.oneCell' = true := by
  intro u hu
  obtain ⟨x, _, rfl⟩ := List.mem_map.1 hu
  rfl

/-! ## A map with int keys -/
def keyI : Value → Option Int
  | .int .i64 q => some q
  | _ => none
theorem keyI_some {v : Value} {k : Int} : keyI v = some k ↔ v = .int .i64 k := by
  constructor
  · intro h
    unfold keyI at h
    split at h
    · cases h; rfl
    · cases h
  · rintro rfl; rfl
def findE (k : Int) : List MapEntry → Option Value
  | [] => none
  | e :: es => if keyI e.key = some k then some e.val else findE k es
/-- The map at block b gives f k at the key k. -/
def IMap (w : World) (b : Nat) (f : Int → Option Value) : Prop :=
  ∃ es clock, w.heap[b]? = some (.map es clock) ∧ (∀ e ∈ es.toList, ∃ k, e.key = .int .i64 k) ∧ ∀ k, findE k es.toList = f k
def upd {α : Type} (f : Int → Option α) (k : Int) (v : α) : Int → Option α := fun j => if j = k then some v else f j

section
variable {P : Program} {w w' : World} {b : Nat} {f : Int → Option Value}
theorem IMap.lt (h : IMap w b f) : b < w.heap.size := by obtain ⟨es, ck, h, _⟩ := h; exact (Array.getElem?_eq_some_iff.1 h).1
theorem IMap.keep (h : IMap w b f) (hk : w'.heap[b]? = w.heap[b]?) : IMap w' b f := by
  obtain ⟨es, ck, h, h2⟩ := h
  exact ⟨es, ck, hk.trans h, h2⟩
theorem IMap.ne_blk {g : Nat} {t : TypeId} {cs : Array Value} (h : IMap w b f) (h' : Blk w g t cs) : b ≠ g := by
  rintro rfl
  obtain ⟨es, ck, h, _⟩ := h
  unfold Blk at h'
  rw [h] at h'
  cases h'
theorem IMap.made (w : World) : IMap (w.alloc (.map #[] 0)) w.heap.size (fun _ => none) :=
  ⟨#[], 0, heap_alloc_new w _, by simp, fun k => rfl⟩

theorem findNow_int (k : Int) : ∀ (es : List MapEntry) (i : Nat), (∀ e ∈ es, ∃ k, e.key = .int .i64 k) →
    ∃ r, Instr.findNow (.int .i64) (.int .i64 k) es i = some r ∧ r.map (·.2) = findE k es ∧
      (∀ j v, r = some (j, v) → i ≤ j ∧ ∃ e, es[j - i]? = some e ∧ e.key = .int .i64 k ∧ e.val = v ∧ ∀ m, m < j - i → ∀ e', es[m]? = some e' → e'.key ≠ .int .i64 k)
  | [], i, _ => ⟨none, rfl, rfl, fun _ _ h => by cases h⟩
  | e :: es, i, h => by
    obtain ⟨q, hq⟩ := h e (by simp)
    by_cases hk : k = q
    · subst hk
      refine ⟨some (i, e.val), by simp [Instr.findNow, hq, Instr.sameNow], by simp [findE, hq, keyI], fun j v hj => ?_⟩
      cases hj
      refine ⟨Nat.le_refl _, e, by simp, hq, rfl, fun m hm => by omega⟩
    · obtain ⟨r, h1, h2, h3⟩ := findNow_int k es (i + 1) (fun e he => h e (by simp [he]))
      have hb : (k == q) = false := by simp [hk]
      refine ⟨r, by simp [Instr.findNow, hq, Instr.sameNow, hb, h1], by rw [h2]; simp [findE, hq, keyI, Ne.symm hk], fun j v hj => ?_⟩
      obtain ⟨hl, e', he', hke, hv, hm⟩ := h3 j v hj
      refine ⟨by omega, e', ?_, hke, hv, fun m hm' e'' he'' => ?_⟩
      · rw [show j - i = (j - (i + 1)) + 1 by omega]; simpa using he'
      · rcases m with _ | m
        · simp at he''; subst he''; rw [hq]; simp [Ne.symm hk]
        · exact hm m (by omega) e'' (by simpa using he'')

theorem run_checkKey_int {kt : TypeId} (c : Bool) (n : Nat) (hk : P.underlying kt = some (.int .i64)) (v : Value) (w : World) : (Instr.checkKey c (n + 1) kt v).run P w = .ok () w := by
  unfold Instr.checkKey
  simp [run_underlying hk, Result.andThen]

theorem IMap.lookup {t kt e : TypeId} (h : IMap w b f) (ht : P.underlying t = some (.map kt e)) (hk : P.underlying kt = some (.int .i64)) {z : Value} (hz : (zeroValue e).run P w = .ok z w) (c : Bool) (k : Int) :
    (Instr.lookup t (.map (some b)) (.int .i64 k) c).run P w = .ok (if c then .tuple #[(f k).getD z, .bool (f k).isSome] else (f k).getD z) w := by
  obtain ⟨es, ck, hb, hkeys, hf⟩ := h
  obtain ⟨r, h1, h2, _⟩ := findNow_int k es.toList 0 hkeys
  rw [hf k] at h2
  unfold Instr.lookup
  simp only [run_underlying ht, Sem.run_bind, Sem.run_pure, Result.andThen_ok, MapKept.run_getObj_map hb, run_checkKey_int _ 9999 hk, Instr.findKey, run_underlying hk, h1]
  cases r with
  | none =>
    have : f k = none := by simpa using h2.symm
    cases c <;> simp [this, hz]
  | some x =>
    have : f k = some x.2 := by simpa using h2.symm
    cases c <;> simp [this]

theorem findE_push (k q : Int) (v : Value) (bn : Nat) : ∀ es : List MapEntry, findE q es = none → findE k (es ++ [⟨.int .i64 q, v, bn⟩]) = if k = q then some v else findE k es
  | [], _ => by by_cases h : k = q <;> simp [findE, h, keyI, eq_comm]
  | e :: es, h => by
    simp only [findE] at h
    by_cases hq : keyI e.key = some q
    · rw [if_pos hq] at h; cases h
    · rw [if_neg hq] at h
      have ih := findE_push k q v bn es h
      simp only [List.cons_append, findE, ih]
      by_cases he : keyI e.key = some k
      · rw [if_pos he, if_pos he, if_neg (fun e' => hq (by rw [← e']; exact he))]
      · rw [if_neg he, if_neg he]

theorem findE_modify (k q : Int) (v : Value) : ∀ (es : List MapEntry) (j : Nat) (e : MapEntry), es[j]? = some e → e.key = .int .i64 q → (∀ m, m < j → ∀ e', es[m]? = some e' → e'.key ≠ .int .i64 q) →
    findE k (es.modify j fun e => { e with key := .int .i64 q, val := v }) = if k = q then some v else findE k es
  | [], j, e, h, _, _ => by simp at h
  | x :: es, 0, e, h, he, _ => by
    simp at h
    subst h
    by_cases hk : k = q
    · simp [findE, hk, keyI]
    · simp [findE, he, hk, Ne.symm hk, keyI]
  | x :: es, j + 1, e, h, he, hm => by
    have hx : ¬ keyI x.key = some q := fun e => hm 0 (by omega) x (by simp) (keyI_some.1 e)
    have ih := findE_modify k q v es j e (by simpa using h) he (fun m hm' e' he' => hm (m + 1) (by omega) e' (by simpa using he'))
    simp only [List.modify_succ_cons, findE, ih]
    by_cases hk : k = q
    · subst hk; rw [if_neg hx, if_pos rfl, if_pos rfl]
    · rw [if_neg hk, if_neg hk]

theorem IMap.update {t kt e : TypeId} (h : IMap w b f) (ht : P.underlying t = some (.map kt e)) (hk : P.underlying kt = some (.int .i64)) (k : Int) (v : Value) :
    ∃ w', (Instr.mapUpdate t (.map (some b)) (.int .i64 k) v).run P w = .ok () w' ∧ IMap w' b (upd f k v) ∧ Only (fun i => i = b) w w' := by
  obtain ⟨es, ck, hb, hkeys, hf⟩ := h
  obtain ⟨r, h1, h2, h3⟩ := findNow_int k es.toList 0 hkeys
  have honly : ∀ o, Only (fun i => i = b) w (Go.ChangeMaps.setBlock w b o) := fun o =>
    ⟨rfl, rfl, rfl, by simp [Go.ChangeMaps.setBlock], fun i _ hi => by simp [Go.ChangeMaps.setBlock, Ne.symm hi]⟩
  cases r with
  | none =>
    have hno : findE k es.toList = none := by simpa using h2.symm
    refine ⟨Go.ChangeMaps.setBlock w b (.map (es.push ⟨.int .i64 k, v, ck⟩) (ck + 1)), ?_, ⟨_, _, Go.ChangeMaps.heap_setBlock_same hb _, ?_, ?_⟩, honly _⟩
    · simp [Instr.mapUpdate, run_underlying ht, MapKept.run_getObj_map hb, run_checkKey_int _ 9999 hk, Instr.findKey, run_underlying hk, h1, MapKept.run_setObj_map _ hb, Result.andThen, Go.ChangeMaps.setBlock]
    · intro x hx
      simp at hx
      rcases hx with hx | rfl
      · exact hkeys x (by simpa using hx)
      · exact ⟨k, rfl⟩
    · intro q
      simp only [Array.toList_push, findE_push q k v ck _ hno, upd, hf q]
  | some x =>
    obtain ⟨j, u⟩ := x
    obtain ⟨_, e0, he0, hke, hv, hm⟩ := h3 j u rfl
    simp only [Nat.sub_zero] at he0 hm
    have he0' : es[j]? = some e0 := by simpa using he0
    have hst : (Instr.keyThatStays (.int .i64 k) (.int .i64 k)).run P w = .ok (.int .i64 k) w := by simp [Instr.keyThatStays, Instr.sameBits]
    refine ⟨Go.ChangeMaps.setBlock w b (.map (es.modify j fun e => { e with key := .int .i64 k, val := v }) ck), ?_, ⟨_, _, Go.ChangeMaps.heap_setBlock_same hb _, ?_, ?_⟩, honly _⟩
    · simp [Instr.mapUpdate, run_underlying ht, MapKept.run_getObj_map hb, run_checkKey_int _ 9999 hk, Instr.findKey, run_underlying hk, h1, he0', hke, hst, MapKept.run_setObj_map _ hb, Result.andThen, Go.ChangeMaps.setBlock]
    · intro x hx
      rw [Array.toList_modify] at hx
      obtain ⟨i, hi, rfl⟩ := List.mem_iff_getElem.1 hx
      rw [List.getElem_modify]
      split
      · exact ⟨k, rfl⟩
      · exact hkeys _ (List.getElem_mem _)
    · intro q
      rw [Array.toList_modify, findE_modify q k v _ j e0 he0 hke hm, upd, hf q]
end

/-! ## A builtin by its run -/
theorem wpList_builtin {P : Program} (w : World) {ops : Array Oper} {rest : List Oper} {o : Oper} {a : Act} {Q : Exit → Act → World → Prop}
    (hg : o.guard = none) (bi : Builtin) (args : Array Operand) (ts : Array TypeId) (hop : o.op = Op.call { callee := Callee.builtin bi, args := args, argTypes := ts })
    (R : Value → World → Prop) (vs : Array Value) (hvs : args.map a.eval = vs) (hrun : ∃ v w', (∀ cb, (builtin bi ts o.type cb vs).run P w = Result.ok (Next.value v) w') ∧ R v w')
    (hK : ∀ v w', R v w' → wpList P ops Q rest (a.put o.dst v) w') : wpList P ops Q (o :: rest) a w := by
  refine wpList_plain hg fun K hK' => ?_
  obtain ⟨v, w', h1, h2⟩ := hrun
  subst hvs
  unfold Oper.wp
  simp [execOp, hop, resolve, invoke, h1]
  exact hK' _ _ (hK v w' h2)
end Go.Proofs.Ytllodjcfcjmocaa
