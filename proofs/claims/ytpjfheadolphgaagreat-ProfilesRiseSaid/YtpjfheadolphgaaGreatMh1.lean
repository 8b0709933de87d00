import Derived.WalkKit
import Derived.Maps.AppendAt
import Derived.Deep.AppendLies
import Derived.Deep.RegionHeld3
import Derived.Deep.QuietTactic
import Derived.BigQuiet
import Derived.Lib.Hide
import Derived.Laws.CopyOwn
import Derived.WalkSpells
import Derived.WalkLawsBesides
import Derived.Laws.Strings
import Derived.Test.YtpjfheadolphgaaGreatProg
import Derived.Deep.DeepFit
import Derived.RangeFuncNested
import Derived.RangeFuncBound
import Derived.RangeFuncCalls
import Derived.RangeFuncLeaves
import Derived.RangeFuncBox
import Derived.Shelf.Abstract
import Derived.Shelf.RegionOpen
import Derived.OwnWalkIn
import Derived.TacticsInMore
import Derived.LoopNIn
import Derived.LoopIn
import Derived.Deep.RegionLaw
import Derived.Lib.AppendStr
import Derived.Lib.AppendZerosOnto
import Derived.Lib.AppendZeros
import Derived.Deep.CutBlock
import Derived.Deep.DeepCutAuto
set_option linter.unusedVariables false
set_option linter.unusedSimpArgs false
namespace Go.Proofs.YtpjfheadolphgaaGreat
open Go.RowKit
set_option maxRecDepth 20000
structure Only (F : Nat → Prop) (w w' : World) : Prop where
 os : w'.os = w.os
 tape : w'.tape = w.tape
 output : w'.output = w.output
 size : w.heap.size ≤ w'.heap.size
 block : ∀ k, k < w.heap.size → ¬ F k → w'.heap[k]? = w.heap[k]?
abbrev NoB : Nat → Prop := fun _ => False
def From (B : Nat) : Nat → Prop := fun k => B ≤ k
def Grows (F F' : Nat → Prop) (w : World) : Prop := ∀ k, F' k → F k ∨ w.heap.size ≤ k
section
variable {F F' G : Nat → Prop} {a w w' w'' : World}
theorem Only.refl (F : Nat → Prop) (w : World) : Only F w w := ⟨rfl, rfl, rfl, Nat.le_refl _, fun _ _ _ => rfl⟩
theorem Only.trans (h : Only F w w') (k : Only F w' w'') : Only F w w'' :=
 ⟨k.os.trans h.os, k.tape.trans h.tape, k.output.trans h.output, Nat.le_trans h.size k.size,
  fun i hi hF => (k.block i (Nat.lt_of_lt_of_le hi h.size) hF).trans (h.block i hi hF)⟩
theorem Only.mono (h : Only F w w') (hF : ∀ k, k < w.heap.size → F k → G k) : Only G w w' :=
 ⟨h.os, h.tape, h.output, h.size, fun i hi hG => h.block i hi (fun hf => hG (hF i hi hf))⟩
theorem Only.trans' (h : Only F w w') (k : Only F' w' w'') (hg : ∀ i, i < w.heap.size → F' i → F i) : Only F w w'' :=
 ⟨k.os.trans h.os, k.tape.trans h.tape, k.output.trans h.output, Nat.le_trans h.size k.size,
  fun i hi hF => (k.block i (Nat.lt_of_lt_of_le hi h.size) (fun hf => hF (hg i hi hf))).trans (h.block i hi hF)⟩
theorem Only.drew (h : Only F a w) : Only F a w.drew := ⟨h.os, h.tape, h.output, h.size, h.block⟩
theorem Only.drewN (h : Only F a w) (n : Nat) : Only F a (w.drewN n) := ⟨h.os, h.tape, h.output, h.size, h.block⟩
theorem Only.alloc (h : Only F a w) (o : Obj) : Only F a (w.alloc o) :=
 h.trans ⟨rfl, rfl, rfl, by simp, fun k hk _ => Below.heap_alloc _ _ _ hk⟩
theorem Only.setCell (h : Only F a w) {p : Addr} (hp : F p.block ∨ a.heap.size ≤ p.block) (u : Value) : Only F a (w.setCell p u) :=
 h.trans' (F' := fun k => k = p.block) ⟨rfl, rfl, rfl, by simp [World.setCell], fun k _ hk => Below.heap_setCell _ _ _ _ hk⟩
  (fun i hi e => by rcases hp with hp | hp; (· rw [e]; exact hp); (· rw [e] at hi; omega))
theorem Only.grown (h : Only F a w) {row : Option Nat} (hg : w.grownBy w' row) (hr : ∀ k, row = some k → F k ∨ a.heap.size ≤ k) : Only F a w' :=
 h.trans' (F' := fun k => row = some k) ⟨hg.os, hg.tape, hg.output, hg.size, fun k hk hn => hg.block k hk (fun e => hn e.symm)⟩
  (fun i hi e => by rcases hr i e with hp | hp; (· exact hp); (· omega))
theorem Only.of_grown {row : Option Nat} (hg : w.grownBy w' row) : Only (fun k => row = some k) w w' :=
 ⟨hg.os, hg.tape, hg.output, hg.size, fun k hk hn => hg.block k hk (fun e => hn e.symm)⟩
theorem Only.below {B : Nat} (h : Only F w w') (hB : B ≤ w.heap.size) (hF : ∀ k, F k → B ≤ k) : Below B w w' :=
 ⟨h.os, h.tape, h.output, h.size, fun k hk => h.block k (by omega) (fun hf => by have := hF k hf; omega)⟩
theorem Only.cell (h : Only F w w') {p : Addr} {v : Value} (hc : w.cell? p = some v) (hF : ¬ F p.block) : w'.cell? p = some v :=
 (World.cell?_of_block (h.block p.block (World.block_lt_of_cell? w p hc) hF)).trans hc
theorem Only.heap (h : Only F w w') {k : Nat} {o : Obj} (hc : w.heap[k]? = some o) (hF : ¬ F k) : w'.heap[k]? = some o :=
 (h.block k (Array.getElem?_eq_some_iff.1 hc).1 hF).trans hc
theorem Grows.refl (F : Nat → Prop) (w : World) : Grows F F w := fun _ h => .inl h
theorem Grows.trans {F'' : Nat → Prop} (h : Grows F F' w) (k : Grows F' F'' w') (hs : w.heap.size ≤ w'.heap.size) : Grows F F'' w :=
 fun i hi => by rcases k i hi with h1 | h1; (· exact h i h1); (· exact .inr (by omega))
theorem Only.steps (h : Only F w w') (hg : Grows F F' w) (k : Only F' w' w'') : Only F w w'' :=
 h.trans' k (fun i hi hf => by rcases hg i hf with h1 | h1; (· exact h1); (· omega))
end
theorem add_block (a : Addr) (n : Nat) : (a.add n).block = a.block := by unfold Addr.add; split <;> rfl
theorem add_add (a : Addr) (i j : Nat) : (a.add i).add j = a.add (i + j) := by
 unfold Addr.add
 by_cases hi : i = 0 <;> by_cases hj : j = 0 <;> simp [hi, hj, Nat.add_assoc]
def Rd (w : World) (F : Nat → Prop) (size : Nat) (v : Value) (n : Nat) (xs : List Value) : Prop :=
 ∃ A c, v = .slice A n c ∧ n ≤ c ∧ xs.length = n * size ∧ (0 < n * size → ∃ ad, A = some ad ∧ F ad.block ∧ ∀ j u, xs[j]? = some u → w.cell? (ad.add j) = some u)
section
variable {w w' : World} {F G : Nat → Prop} {size n : Nat} {v : Value} {xs : List Value}
theorem Rd.nil (w : World) (F : Nat → Prop) (size : Nat) : Rd w F size (.slice none 0 0) 0 [] := ⟨none, 0, rfl, Nat.le_refl _, by simp, fun h => by simp at h⟩
theorem Rd.keep (h : Rd w F size v n xs) (hk : ∀ k, F k → k < w.heap.size → w'.heap[k]? = w.heap[k]?) : Rd w' F size v n xs := by
 obtain ⟨A, c, hv, hc, hl, h⟩ := h
 refine ⟨A, c, hv, hc, hl, fun hn => ?_⟩
 obtain ⟨ad, hA, hF, hcell⟩ := h hn
 refine ⟨ad, hA, hF, fun j u hu => ?_⟩
 have hc1 := hcell j u hu
 have hlt := World.block_lt_of_cell? w _ hc1
 rw [add_block] at hlt
 rw [World.cell?_of_block (w := w) (by rw [add_block]; exact hk _ hF hlt)]
 exact hc1
theorem Rd.mono (h : Rd w F size v n xs) (hk : ∀ k, F k → k < w.heap.size → G k) : Rd w G size v n xs := by
 obtain ⟨A, c, hv, hc, hl, h⟩ := h
 refine ⟨A, c, hv, hc, hl, fun hn => ?_⟩
 obtain ⟨ad, hA, hF, hcell⟩ := h hn
 obtain ⟨u, hu⟩ : ∃ u, xs[0]? = some u := ⟨xs[0]'(by omega), List.getElem?_eq_getElem (by omega)⟩
 have hlt := World.block_lt_of_cell? w _ (hcell 0 u hu)
 rw [add_block] at hlt
 exact ⟨ad, hA, hk _ hF hlt, hcell⟩
theorem Rd.only (h : Rd w F size v n xs) (ho : Only G w w') (hd : ∀ k, F k → ¬ G k) : Rd w' F size v n xs :=
 h.keep fun k hF hlt => ho.block k hlt (hd k hF)
theorem Rd.own {e : TypeId} (h : w.ownsRow 0 e size v n xs) (hF : ∀ g, v.ownBlock = some g → F g) : Rd w F size v n xs := by
 obtain ⟨hl, h⟩ := h
 rcases h with ⟨rfl, rfl⟩ | ⟨g, cap, cur, rfl, _, hg, hnc, hcm, hcs, htake⟩
 ·have : xs = [] := List.eq_nil_of_length_eq_zero (by simpa using hl)
  subst this
  exact Rd.nil w F size
 ·refine ⟨_, _, rfl, hnc, hl, fun _ => ⟨_, rfl, hF g rfl, fun j u hu => ?_⟩⟩
  rw [Addr.add_lit, Nat.zero_add, cell_of_row w g j cur e (0, 0) hg]
  rw [← htake, List.getElem?_take] at hu
  split at hu
  ·simpa using hu
  ·cases hu
theorem Rd.open_ (h : Rd w F size v n xs) (hn : 0 < n * size) : ∃ g off c, v = .slice (some ⟨g, off, none⟩) n c ∧ n ≤ c ∧ F g ∧ ∀ j u, xs[j]? = some u → w.cell? ⟨g, off + j, none⟩ = some u := by
 obtain ⟨A, c, hv, hc, hl, h⟩ := h
 obtain ⟨⟨g, off, spot⟩, hA, hF, hcell⟩ := h hn
 obtain ⟨u, hu⟩ : ∃ u, xs[0]? = some u := ⟨xs[0]'(by omega), List.getElem?_eq_getElem (by omega)⟩
 have hs : spot = none := by
  have h0 := hcell 0 u hu
  simp only [Addr.add_zero'] at h0
  unfold World.cell? at h0
  cases spot with
  | none => rfl
  | some s =>
   split at h0
   ·simp at h0
   ·cases h0
 subst hs
 exact ⟨g, off, c, by rw [hv, hA], hc, hF, fun j u hu => by have := hcell j u hu; rwa [Addr.add_lit] at this⟩
theorem Rd.len_le (h : Rd w F size v n xs) : xs.length = n * size := by obtain ⟨A, c, hv, hc, hl, h⟩ := h; exact hl
end
def Blk (w : World) (g : Nat) (t : TypeId) (cs : Array Value) : Prop := w.heap[g]? = some (.cells cs t (0, 0))
section
variable {w w' : World} {g : Nat} {t : TypeId} {cs : Array Value}
theorem Blk.lt (h : Blk w g t cs) : g < w.heap.size := (Array.getElem?_eq_some_iff.1 h).1
theorem Blk.cell (h : Blk w g t cs) (i : Nat) : w.cell? ⟨g, i, none⟩ = cs[i]? := cell_of_row w g i cs t (0, 0) h
theorem Blk.frozen (h : Blk w g t cs) (i : Nat) : w.frozen? ⟨g, i, none⟩ = false := by
 unfold Blk at h
 simp [World.frozen?, h]
theorem Blk.new (w : World) (t : TypeId) (cs : Array Value) : Blk (w.alloc (.cells cs t)) w.heap.size t cs := heap_alloc_new w _
theorem Blk.alloc (h : Blk w g t cs) (o : Obj) : Blk (w.alloc o) g t cs := (Below.heap_alloc w o g h.lt).trans h
theorem Blk.drew (h : Blk w g t cs) : Blk w.drew g t cs := h
theorem Blk.set_ (h : Blk w g t cs) (i : Nat) (u : Value) : Blk (w.setCell ⟨g, i, none⟩ u) g t (cs.setIfInBounds i u) := by
 unfold Blk at h ⊢
 simp [World.setCell, Array.getElem?_modify, h]
theorem Blk.far (h : Blk w g t cs) {p : Addr} (hp : g ≠ p.block) (u : Value) : Blk (w.setCell p u) g t cs := (Below.heap_setCell w p u g hp).trans h
theorem Blk.only {F : Nat → Prop} (h : Blk w g t cs) (ho : Only F w w') (hg : ¬ F g) : Blk w' g t cs := ho.heap h hg
theorem Blk.ne_ {g' : Nat} {t' : TypeId} {cs' : Array Value} (h : Blk w g t cs) (h' : Blk w g' t' cs') (hne : t ≠ t') : g ≠ g' := by
 rintro rfl
 unfold Blk at h h'
 rw [h] at h'
 injection h' with h'
 injection h' with _ ht
 exact hne ht
theorem Blk.ne_own {base : Nat} {e : TypeId} {size n : Nat} {v : Value} {xs : List Value} (hg : Blk w g t cs) (h : w.ownsRow base e size v n xs) (hne : e ≠ t) : v.ownBlock ≠ some g := by
 rcases h.2 with ⟨rfl, _⟩ | ⟨g', cap, cur, rfl, _, hh, _⟩
 ·simp [Value.ownBlock]
 ·intro he
  have : g' = g := by simpa [Value.ownBlock] using he
  subst this
  exact Blk.ne_ (t := e) hh hg hne rfl
end
def byteV (x : UInt8) : Value := .int .u8 x.toNat
def boolV (x : Bool) : Value := .bool x
def Bytes (w : World) (F : Nat → Prop) (v : Value) (l : List UInt8) : Prop := Rd w F 1 v l.length (l.map byteV)
def Bools (w : World) (F : Nat → Prop) (v : Value) (l : List Bool) : Prop := Rd w F 1 v l.length (l.map boolV)
theorem oneCell_bytes (l : List UInt8) : ∀ u ∈ l.map byteV, u.oneCell' = true := by
 intro u hu
 obtain ⟨x, _, rfl⟩ := List.mem_map.1 hu
 rfl
def keyI : Value → Option Int
 | .int .i64 q => some q
 | _ => none
theorem keyI_some {v : Value} {k : Int} : keyI v = some k ↔ v = .int .i64 k := by
 constructor
 ·intro h
  unfold keyI at h
  split at h
  ·cases h; rfl
  ·cases h
 ·rintro rfl; rfl
def findE (k : Int) : List MapEntry → Option Value
 | [] => none
 | e :: es => if keyI e.key = some k then some e.val else findE k es
def IMap (w : World) (b : Nat) (f : Int → Option Value) : Prop :=
 ∃ es clock, w.heap[b]? = some (.map es clock) ∧ (∀ e ∈ es.toList, ∃ k, e.key = .int .i64 k) ∧ ∀ k, findE k es.toList = f k
def upd {α : Type} (f : Int → Option α) (k : Int) (v : α) : Int → Option α := fun j => if j = k then some v else f j
section
variable {P : Program} {w w' : World} {b : Nat} {f : Int → Option Value}
theorem IMap.lt (h : IMap w b f) : b < w.heap.size := by obtain ⟨es, ck, h, _⟩ := h; exact (Array.getElem?_eq_some_iff.1 h).1
theorem IMap.keep (h : IMap w b f) (hk : w'.heap[b]? = w.heap[b]?) : IMap w' b f := by
 obtain ⟨es, ck, h, h2⟩ := h
 exact ⟨es, ck, hk.trans h, h2⟩
theorem IMap.ne_blk {g : Nat} {t : TypeId} {cs : Array Value} (h : IMap w b f) (h' : Blk w g t cs) : b ≠ g := by
 rintro rfl
 obtain ⟨es, ck, h, _⟩ := h
 unfold Blk at h'
 rw [h] at h'
 cases h'
theorem IMap.made (w : World) : IMap (w.alloc (.map #[] 0)) w.heap.size (fun _ => none) :=
 ⟨#[], 0, heap_alloc_new w _, by simp, fun k => rfl⟩
theorem findNow_int (k : Int) : ∀ (es : List MapEntry) (i : Nat), (∀ e ∈ es, ∃ k, e.key = .int .i64 k) →
  ∃ r, Instr.findNow (.int .i64) (.int .i64 k) es i = some r ∧ r.map (·.2) = findE k es ∧
   (∀ j v, r = some (j, v) → i ≤ j ∧ ∃ e, es[j - i]? = some e ∧ e.key = .int .i64 k ∧ e.val = v ∧ ∀ m, m < j - i → ∀ e', es[m]? = some e' → e'.key ≠ .int .i64 k)
 | [], i, _ => ⟨none, rfl, rfl, fun _ _ h => by cases h⟩
 | e :: es, i, h => by
  obtain ⟨q, hq⟩ := h e (by simp)
  by_cases hk : k = q
  ·subst hk
   refine ⟨some (i, e.val), by simp [Instr.findNow, hq, Instr.sameNow], by simp [findE, hq, keyI], fun j v hj => ?_⟩
   cases hj
   refine ⟨Nat.le_refl _, e, by simp, hq, rfl, fun m hm => by omega⟩
  ·obtain ⟨r, h1, h2, h3⟩ := findNow_int k es (i + 1) (fun e he => h e (by simp [he]))
   have hb : (k == q) = false := by simp [hk]
   refine ⟨r, by simp [Instr.findNow, hq, Instr.sameNow, hb, h1], by rw [h2]; simp [findE, hq, keyI, Ne.symm hk], fun j v hj => ?_⟩
   obtain ⟨hl, e', he', hke, hv, hm⟩ := h3 j v hj
   refine ⟨by omega, e', ?_, hke, hv, fun m hm' e'' he'' => ?_⟩
   ·rw [show j - i = (j - (i + 1)) + 1 by omega]; simpa using he'
   ·rcases m with _ | m
    ·simp at he''; subst he''; rw [hq]; simp [Ne.symm hk]
    ·exact hm m (by omega) e'' (by simpa using he'')
theorem run_checkKey_int {kt : TypeId} (c : Bool) (n : Nat) (hk : P.underlying kt = some (.int .i64)) (v : Value) (w : World) : (Instr.checkKey c (n + 1) kt v).run P w = .ok () w := by
 unfold Instr.checkKey
 simp [run_underlying hk, Result.andThen]
theorem IMap.lookup {t kt e : TypeId} (h : IMap w b f) (ht : P.underlying t = some (.map kt e)) (hk : P.underlying kt = some (.int .i64)) {z : Value} (hz : (zeroValue e).run P w = .ok z w) (c : Bool) (k : Int) :
  (Instr.lookup t (.map (some b)) (.int .i64 k) c).run P w = .ok (if c then .tuple #[(f k).getD z, .bool (f k).isSome] else (f k).getD z) w := by
 obtain ⟨es, ck, hb, hkeys, hf⟩ := h
 obtain ⟨r, h1, h2, _⟩ := findNow_int k es.toList 0 hkeys
 rw [hf k] at h2
 unfold Instr.lookup
 simp only [run_underlying ht, Sem.run_bind, Sem.run_pure, Result.andThen_ok, MapKept.run_getObj_map hb, run_checkKey_int _ 9999 hk, Instr.findKey, run_underlying hk, h1]
 cases r with
 | none =>
  have : f k = none := by simpa using h2.symm
  cases c <;> simp [this, hz]
 | some x =>
  have : f k = some x.2 := by simpa using h2.symm
  cases c <;> simp [this]
theorem findE_push (k q : Int) (v : Value) (bn : Nat) : ∀ es : List MapEntry, findE q es = none → findE k (es ++ [⟨.int .i64 q, v, bn⟩]) = if k = q then some v else findE k es
 | [], _ => by by_cases h : k = q <;> simp [findE, h, keyI, eq_comm]
 | e :: es, h => by
  simp only [findE] at h
  by_cases hq : keyI e.key = some q
  ·rw [if_pos hq] at h; cases h
  ·rw [if_neg hq] at h
   have ih := findE_push k q v bn es h
   simp only [List.cons_append, findE, ih]
   by_cases he : keyI e.key = some k
   ·rw [if_pos he, if_pos he, if_neg (fun e' => hq (by rw [← e']; exact he))]
   ·rw [if_neg he, if_neg he]
theorem findE_modify (k q : Int) (v : Value) : ∀ (es : List MapEntry) (j : Nat) (e : MapEntry), es[j]? = some e → e.key = .int .i64 q → (∀ m, m < j → ∀ e', es[m]? = some e' → e'.key ≠ .int .i64 q) →
  findE k (es.modify j fun e => { e with key := .int .i64 q, val := v }) = if k = q then some v else findE k es
 | [], j, e, h, _, _ => by simp at h
 | x :: es, 0, e, h, he, _ => by
  simp at h
  subst h
  by_cases hk : k = q
  ·simp [findE, hk, keyI]
  ·simp [findE, he, hk, Ne.symm hk, keyI]
 | x :: es, j + 1, e, h, he, hm => by
  have hx : ¬ keyI x.key = some q := fun e => hm 0 (by omega) x (by simp) (keyI_some.1 e)
  have ih := findE_modify k q v es j e (by simpa using h) he (fun m hm' e' he' => hm (m + 1) (by omega) e' (by simpa using he'))
  simp only [List.modify_succ_cons, findE, ih]
  by_cases hk : k = q
  ·subst hk; rw [if_neg hx, if_pos rfl, if_pos rfl]
  ·rw [if_neg hk, if_neg hk]
end
end Go.Proofs.YtpjfheadolphgaaGreat
namespace Go.Proofs.YtpjfheadolphgaaGreat
open Go.RowKit
set_option maxRecDepth 20000
def Elt (P : Program) (e : TypeId) (z : Value) (size bytes : Nat) : Prop :=
 (P.info? e).map (fun i => (i.zero, i.size, i.bytes)) = some (some z, size, bytes) ∧ z.cells.size = size ∧ 0 < size ∧ 0 < bytes
def Own (w : World) (F : Nat → Prop) (e : TypeId) (size : Nat) (v : Value) (n : Nat) (xs : List Value) : Prop :=
 w.ownsRow 0 e size v n xs ∧ ∀ g, v.ownBlock = some g → F g
section
variable {w w' : World} {F G : Nat → Prop} {e : TypeId} {size n : Nat} {v : Value} {xs : List Value}
theorem Own.rd (h : Own w F e size v n xs) : Rd w F size v n xs := Rd.own h.1 h.2
theorem Own.nil (w : World) (F : Nat → Prop) (e : TypeId) (size : Nat) : Own w F e size (.slice none 0 0) 0 [] := ⟨World.ownsRow_nil w 0 e size, fun g h => by cases h⟩
theorem Own.mono (h : Own w F e size v n xs) (hk : ∀ k, F k → k < w.heap.size → G k) : Own w G e size v n xs :=
 ⟨h.1, fun g hg => hk g (h.2 g hg) (h.1.lt g hg).2⟩
theorem Own.keep (h : Own w F e size v n xs) (hk : ∀ k, v.ownBlock = some k → w'.heap[k]? = w.heap[k]?) : Own w' F e size v n xs := by
 refine ⟨⟨h.1.1, ?_⟩, h.2⟩
 rcases h.1.2 with h0 | ⟨g, cap, cur, rfl, hb, hg, r⟩
 ·exact .inl h0
 ·exact .inr ⟨g, cap, cur, rfl, hb, (hk g rfl).trans hg, r⟩
theorem Own.only (h : Own w F e size v n xs) (ho : Only G w w') (hd : ∀ k, F k → ¬ G k) : Own w' F e size v n xs :=
 h.keep fun k hk => ho.block k (h.1.lt k hk).2 (hd k (h.2 k hk))
theorem Own.len (h : Own w F e size v n xs) : xs.length = n * size := h.1.1
theorem Own.alloc (h : Own w F e size v n xs) (o : Obj) : Own (w.alloc o) F e size v n xs := h.keep fun k hk => Below.heap_alloc w o k (h.1.lt k hk).2
theorem Own.shape (h : Own w F e size v n xs) : ∃ A c, v = .slice A n c ∧ n ≤ c := by
 rcases h.1.2 with ⟨rfl, rfl⟩ | ⟨g, cap, cur, rfl, hb, hg, hn, r⟩
 ·exact ⟨_, _, rfl, Nat.le_refl _⟩
 ·exact ⟨_, _, rfl, hn⟩
theorem Own.lt (h : Own w F e size v n xs) {g : Nat} (hg : v.ownBlock = some g) : g < w.heap.size := (h.1.lt g hg).2
end
structure App (w : World) (F : Nat → Prop) (e : TypeId) (size : Nat) (v : Value) (n m : Nat) (xs news : List Value) (v' : Value) (w' : World) : Prop where
 own : Own w' (fun k => F k ∨ k = w.heap.size) e size v' (n + m) (xs ++ news)
 only : Only (fun k => v.ownBlock = some k) w w'
 lies : v'.ownBlock = v.ownBlock ∨ v'.ownBlock = some w.heap.size
 shape : ∃ A c, v' = .slice A (n + m) c ∧ n + m ≤ c
 nil : v' = .slice none 0 0 ↔ v = .slice none 0 0 ∧ m = 0
section
variable {P : Program} {w : World}
theorem Elt.parts {e : TypeId} {z : Value} {size bytes : Nat} (h : Elt P e z size bytes) : ∃ i, P.info? e = some i ∧ i.zero = some z ∧ i.size = size ∧ i.bytes = bytes := info_parts h.1
theorem run_append_nothing {t ty e : TypeId} {z : Value} {size bytes : Nat} (ht : P.underlying t = some (.slice e)) (he : Elt P e z size bytes)
  {v : Value} {n : Nat} {xs : List Value} (hown : w.ownsRow 0 e size v n xs) (c : Nat) : (Builtin.append_ #[t, t] ty #[v, .slice none 0 c]).run P w = .ok v w := by
 obtain ⟨i, hi, _, hs, _⟩ := he.parts
 rcases hown.2 with ⟨rfl, rfl⟩ | ⟨g, cap, cur, rfl, _, _, hnc, _⟩
 ·simp [Builtin.append_, run_underlying ht, sizeOf, typeInfo, hi, Builtin.lenOf, Builtin.firstCells]
 ·simp [Builtin.append_, run_underlying ht, sizeOf, typeInfo, hi, Builtin.lenOf, Builtin.firstCells, hnc, storeCells]
theorem run_append_rd {t ty e : TypeId} {z : Value} {size bytes : Nat} (ht : P.underlying t = some (.slice e)) (he : Elt P e z size bytes)
  {F G : Nat → Prop} {v : Value} {n : Nat} {xs : List Value} (hown : Own w F e size v n xs) {s : Value} {m : Nat} {news : List Value} (hr : Rd w G size s m news)
  (h1 : ∀ u ∈ news, u.oneCell' = true) (hb : (n + m) * bytes ≤ 140737488355328) :
  ∃ v' w', (Builtin.append_ #[t, t] ty #[v, s]).run P w = .ok v' w' ∧ App w F e size v n m xs news v' w' := by
 obtain ⟨A, c, rfl, hc, hl, hcell⟩ := hr
 obtain ⟨i, hi, hz, hs, hby⟩ := he.parts
 have hsz := he.2.2.1
 have h63 : n + m ≤ maxLen := by
  have h := Nat.le_trans (Nat.le_mul_of_pos_right (n + m) he.2.2.2) hb
  simp only [maxLen]; omega
 have hcase : (A = none ∧ m = 0) ∨ ∃ ad, A = some ad ∧ ∀ j u, news[j]? = some u → w.cell? (ad.add j) = some u := by
  rcases Nat.eq_zero_or_pos m with h0 | h0
  ·subst h0
   have : news = [] := List.eq_nil_of_length_eq_zero (by simpa using hl)
   subst this
   cases A with
   | none => exact .inl ⟨rfl, rfl⟩
   | some ad => exact .inr ⟨ad, rfl, fun j u h => by simp at h⟩
  ·obtain ⟨ad, hA, _, hx⟩ := hcell (Nat.mul_pos h0 hsz)
   exact .inr ⟨ad, hA, hx⟩
 rcases hcase with ⟨rfl, rfl⟩ | ⟨ad, rfl, hx⟩
 ·have hn : news = [] := List.eq_nil_of_length_eq_zero (by simpa using hl)
  subst hn
  refine ⟨v, w, run_append_nothing ht he hown.1 c, ⟨by simpa using hown.mono fun k hk _ => Or.inl hk, Only.refl _ _, .inl rfl, ?_, by simp⟩⟩
  simpa using hown.shape
 ·obtain ⟨v', w', hrun, h2, h3, h4, h5⟩ := run_append_own_at (P := P) w 0 t ty e i z size bytes ht hi hz hs hby he.2.1 hsz v n xs hown.1 ad m c news hl hx h1 h63 hb (Nat.zero_le _)
  have hO : Own w' (fun k => F k ∨ k = w.heap.size) e size v' (n + m) (xs ++ news) := by
   refine ⟨h2, fun g hg => ?_⟩
   rcases h5 with h5 | h5
   ·exact .inl (hown.2 g (h5 ▸ hg))
   ·rw [h5] at hg; injection hg with hg; exact .inr hg.symm
  exact ⟨v', w', hrun, hO, Only.of_grown h3, h5, hO.shape, h4⟩
theorem wpList_app {ops : Array Oper} {rest : List Oper} {o : Oper} {a : Act} {Q : Exit → Act → World → Prop} (hgd : o.guard = none) (s x : Operand) (t : TypeId)
  (ho : o.op = .call { callee := .builtin .append, args := #[s, x], argTypes := #[t, t] }) {e : TypeId} {z : Value} {size bytes : Nat} (ht : P.underlying t = some (.slice e)) (he : Elt P e z size bytes)
  {F G : Nat → Prop} {v : Value} {n : Nat} {xs : List Value} (hs : a.eval s = v) {sv : Value} {m : Nat} {news : List Value} (hx : a.eval x = sv) (hown : Own w F e size v n xs) (hr : Rd w G size sv m news)
  (h1 : ∀ u ∈ news, u.oneCell' = true) (hb : (n + m) * bytes ≤ 140737488355328)
  (hK : ∀ v' w', App w F e size v n m xs news v' w' → wpList P ops Q rest (a.put o.dst v') w') : wpList P ops Q (o :: rest) a w := by
 subst hs; subst hx
 refine wpList_plain hgd fun _ hK' => ?_
 obtain ⟨v', w', hrun, h2⟩ := run_append_rd (ty := o.type) ht he hown hr h1 hb
 unfold Oper.wp execOp
 simp only [ho, resolve, invoke, builtin, Sem.run_bind, Sem.run_pure, Result.andThen_ok, List.map_toArray, List.map_cons, List.map_nil, hrun]
 exact hK' _ _ (hK v' w' h2)
theorem step_app {ops : Array Oper} {o : Oper} {a : Act} {K : Act → World → Prop} {Q : Exit → Act → World → Prop} {E : Prop} (hgd : o.guard = none) (s x : Operand) (t : TypeId)
  (ho : o.op = .call { callee := .builtin .append, args := #[s, x], argTypes := #[t, t] }) {e : TypeId} {z : Value} {size bytes : Nat} (ht : P.underlying t = some (.slice e)) (he : Elt P e z size bytes)
  {F G : Nat → Prop} {v : Value} {n : Nat} {xs : List Value} (hs : a.eval s = v) {sv : Value} {m : Nat} {news : List Value} (hx : a.eval x = sv) (hown : Own w F e size v n xs) (hr : Rd w G size sv m news)
  (h1 : ∀ u ∈ news, u.oneCell' = true) (hb : (n + m) * bytes ≤ 140737488355328)
  (hK : ∀ v' w', App w F e size v n m xs news v' w' → K (a.put o.dst v') w') : if Region.wanted o (yielded ops a.tmps) = true then Oper.wp P o a w K Q else E := by
 subst hs; subst hx
 have hw : Region.wanted o (yielded ops a.tmps) = true := by simp [Region.wanted, hgd]
 rw [if_pos hw]
 obtain ⟨v', w', hrun, h2⟩ := run_append_rd (ty := o.type) ht he hown hr h1 hb
 unfold Oper.wp execOp
 simp only [ho, resolve, invoke, builtin, Sem.run_bind, Sem.run_pure, Result.andThen_ok, List.map_toArray, List.map_cons, List.map_nil, hrun]
 exact hK v' w' h2
theorem rd_new (w : World) (t size n : Nat) (cs : List Value) (hl : cs.length = n * size) : Rd (w.alloc (.cells cs.toArray t)) (fun k => k = w.heap.size) size (.slice (some ⟨w.heap.size, 0, none⟩) n n) n cs :=
 ⟨_, _, rfl, Nat.le_refl _, hl, fun _ => ⟨_, rfl, rfl, fun j u hu => by
  rw [Addr.add_lit, Nat.zero_add, cell_of_row _ _ j cs.toArray t (0, 0) (heap_alloc_new w _)]
  simpa using hu⟩⟩
theorem step_go {ops : Array Oper} {o : Oper} {a : Act} {K : Act → World → Prop} {Q : Exit → Act → World → Prop} {E : Prop} (hgd : o.guard = none) (f : FuncId) (args : List Operand) (ts : Array TypeId)
  (ho : o.op = .call { callee := .value (.func f), args := args.toArray, argTypes := ts }) (vs : List Value) (hvs : args.map a.eval = vs) (hcf : ∀ w, (callFunc f vs.toArray).run P w = .ok (.enter f vs.toArray) w)
  {S : Ending → World → Prop} (hc : Calls P f vs.toArray w S) (hS : ∀ e w', S e w' → ∃ v, e = .returned v) (hK : ∀ v w', S (.returned v) w' → K (a.put o.dst v) w') : if Region.wanted o (yielded ops a.tmps) = true then Oper.wp P o a w K Q else E := by
 subst hvs
 have hw : Region.wanted o (yielded ops a.tmps) = true := by simp [Region.wanted, hgd]
 rw [if_pos hw]
 have hf : a.eval (.func f) = .func (.func f) #[] #[] := rfl
 have hrun : (execOp a.eval o).run P w = .ok (.enter f (args.map a.eval).toArray) w := by
  have h1 := hcf w
  unfold execOp
  simp only [ho, resolve, hf]
  simp [invoke, Deferred.ofValue]
  exact h1
 unfold Oper.wp
 rw [hrun]
 refine hc.mono fun e w' hs => ?_
 obtain ⟨v, rfl⟩ := hS e w' hs
 exact hK v w' hs
theorem noPanic_mk {Q : Exit → Act → World → Prop} {a : Act} (h : Q .normal a w) : NoPanic Q .normal a w := h
structure Cpy (w : World) (g off : Nat) (t : TypeId) (cur cs : List Value) (w' : World) : Prop where
 blk : Blk w' g t (splice cur off cs).toArray
 only : Only (fun k => k = g) w w'
theorem only_setRow (w : World) (g : Nat) (cs : Array Value) : Only (fun k => k = g) w (w.setRow g cs) :=
 ⟨rfl, rfl, rfl, by simp, fun k _ hk => setRow_other w g k _ (fun e => hk e)⟩
theorem run_copy_rd {dT sT ty e : TypeId} (hu : P.underlying dT = some (.slice e)) (hsz : (P.info? e).map (·.size) = some 1) {G : Nat → Prop} {g off dLen dCap : Nat} {t : TypeId} {cur : List Value}
  (hg : Blk w g t cur.toArray) (hfit : off + dLen ≤ cur.length) {s : Value} {m : Nat} {news : List Value} (hr : Rd w G 1 s m news) (h1 : ∀ u ∈ news, u.oneCell' = true) :
  ∃ w', (Builtin.copy_ #[dT, sT] ty #[.slice (some ⟨g, off, none⟩) dLen dCap, s]).run P w = .ok (.int .i64 (Nat.min m dLen)) w' ∧ Cpy w g off t cur (news.take (Nat.min m dLen)) w' := by
 obtain ⟨A, c, rfl, hc, hl, hcell⟩ := hr
 simp only [Nat.mul_one] at hl hcell
 have hm1 : Nat.min m dLen ≤ m := Nat.min_le_left _ _
 have hm2 : Nat.min m dLen ≤ dLen := Nat.min_le_right _ _
 have hlen : (news.take (Nat.min m dLen)).length = Nat.min m dLen := by rw [List.length_take, hl]; omega
 rcases Nat.eq_zero_or_pos (Nat.min m dLen) with h0 | h0
 ·refine ⟨w, ?_, ?_, Only.refl _ _⟩
  ·have := run_copy_none (P := P) w dT sT ty e (some ⟨g, off, none⟩) A dLen dCap m c hu hsz h0
   rw [h0]
   exact this
  ·rw [h0]; simpa [splice] using hg
 ·obtain ⟨ad, rfl, _, hx⟩ := hcell (by omega)
  have := run_copy_row (P := P) w dT sT ty e g off dLen dCap ad m c cur.toArray t (news.take (Nat.min m dLen)) hu hsz hg hlen
   (fun j v hv => hx j v (by rw [List.getElem?_take] at hv; split at hv; (· exact hv); (· cases hv))) (by rw [hlen]; simp; omega) (fun v hv => h1 v (List.mem_of_mem_take hv))
  rw [hlen] at this
  refine ⟨_, this, ?_, only_setRow w g _⟩
  have hb := setRow_heap w g cur.toArray ((news.take (Nat.min m dLen)) |> fun cs => (cur.take off ++ cs ++ cur.drop (off + Nat.min m dLen)).toArray) t (0, 0) hg
  unfold Blk splice
  rw [hlen]
  simpa using hb
theorem step_cpy {ops : Array Oper} {o : Oper} {a : Act} {K : Act → World → Prop} {Q : Exit → Act → World → Prop} {E : Prop} (hgd : o.guard = none) (d s : Operand) (dT sT : TypeId)
  (ho : o.op = .call { callee := .builtin .copy, args := #[d, s], argTypes := #[dT, sT] }) {e : TypeId} (hu : P.underlying dT = some (.slice e)) (hsz : (P.info? e).map (·.size) = some 1) {G : Nat → Prop} {g off dLen dCap : Nat} {t : TypeId} {cur : List Value}
  (hd : a.eval d = .slice (some ⟨g, off, none⟩) dLen dCap) {sv : Value} (hs : a.eval s = sv) (hg : Blk w g t cur.toArray) (hfit : off + dLen ≤ cur.length) {m : Nat} {news : List Value} (hr : Rd w G 1 sv m news) (h1 : ∀ u ∈ news, u.oneCell' = true)
  (hK : ∀ w', Cpy w g off t cur (news.take (Nat.min m dLen)) w' → K (a.put o.dst (.int .i64 (Nat.min m dLen))) w') : if Region.wanted o (yielded ops a.tmps) = true then Oper.wp P o a w K Q else E := by
 subst hs
 have hw : Region.wanted o (yielded ops a.tmps) = true := by simp [Region.wanted, hgd]
 rw [if_pos hw]
 obtain ⟨w', hrun, h2⟩ := run_copy_rd (P := P) (sT := sT) (ty := o.type) hu hsz hg hfit (dCap := dCap) hr h1
 unfold Oper.wp execOp
 simp only [ho, resolve, invoke, builtin, Sem.run_bind, Sem.run_pure, Result.andThen_ok, List.map_toArray, List.map_cons, List.map_nil, hd, hrun]
 exact hK w' h2
theorem run_mk {t e : TypeId} {z : Value} {size bytes : Nat} (ht : P.underlying t = some (.slice e)) (he : Elt P e z size bytes) (kl kc : IntKind) (n : Nat) (hb : bytes * n ≤ 281474976710656) :
  ∃ w', (Instr.makeSlice t (.int kl n) (.int kc n)).run P w = .ok (.slice (some ⟨w.heap.size, 0, none⟩) n n) w' ∧ Blk w' w.heap.size e (madeCells z.cells (n * size)) ∧ Only NoB w w' := by
 obtain ⟨i, hi, hz, hs, hby⟩ := he.parts
 have hm : n ≤ maxLen := by
  have := Nat.le_trans (Nat.le_mul_of_pos_left n he.2.2.2) hb
  simp only [maxLen]; omega
 obtain ⟨w', hrun, hown, hg⟩ := run_make_full (P := P) w 0 t e i z size ht hi hz hs kl kc n (by rw [hby]; exact hb) hm (Nat.zero_le _)
 refine ⟨w', hrun, ?_, (Only.of_grown hg).mono fun k _ hk => by cases hk⟩
 rcases hown.2 with ⟨h, _⟩ | ⟨g, cap, cur, h, _, hg', _, _, hcs, htake⟩
 ·cases h
 ·injection h with h1 h2 h3
  injection h1 with h1
  injection h1 with h1
  subst h1; subst h3
  have : cur = madeCells z.cells (n * size) := by
   apply Array.toList_inj.1
   rw [← htake, List.take_of_length_le (by simp [hcs])]
  rw [← this]
  exact hg'
theorem wpList_mk {ops : Array Oper} {rest : List Oper} {o : Oper} {a : Act} {Q : Exit → Act → World → Prop} (hgd : o.guard = none) (l c : Operand) (t : TypeId) (hop : o.op = Op.makeSlice t l c)
  {e : TypeId} {z : Value} {size bytes : Nat} (ht : P.underlying t = some (.slice e)) (he : Elt P e z size bytes) (kl kc : IntKind) (n : Nat) (hl : a.eval l = .int kl n) (hc : a.eval c = .int kc n) (hb : bytes * n ≤ 281474976710656)
  (hK : ∀ w', Blk w' w.heap.size e (madeCells z.cells (n * size)) → Only NoB w w' → wpList P ops Q rest (a.put o.dst (.slice (some ⟨w.heap.size, 0, none⟩) n n)) w') : wpList P ops Q (o :: rest) a w := by
 refine wpList_plain hgd fun K hK' => ?_
 obtain ⟨w', hrun, r1, r2⟩ := run_mk (P := P) (w := w) ht he kl kc n hb
 unfold Oper.wp
 simp [execOp, hop, hl, hc, hrun, Result.andThen]
 exact hK' _ _ (hK w' r1 r2)
theorem madeCells_one (z : Value) (n : Nat) : madeCells #[z] (n * 1) = (List.replicate n z).toArray := by
 apply Array.toList_inj.1
 rw [Nat.mul_one, toList_madeCells_one]
end
end Go.Proofs.YtpjfheadolphgaaGreat
namespace Go.Proofs.YtpjfheadolphgaaGreat
open Go.RowKit
set_option maxRecDepth 20000
section
variable {w w' : World} {F G : Nat → Prop} {e : TypeId} {size n : Nat} {v : Value} {xs : List Value}
theorem Own.open_ (h : Own w F e size v n xs) (hn : 0 < n * size) : ∃ (g c : Nat) (cs : Array Value), v = .slice (some ⟨g, 0, none⟩) n c ∧ n ≤ c ∧ F g ∧ Blk w g e cs ∧ cs.size = c * size ∧ (∀ (j : Nat) (u : Value), xs[j]? = some u → cs[j]? = some u) ∧ (∀ (j : Nat) (u : Value), xs[j]? = some u → w.cell? ⟨g, j, none⟩ = some u) ∧
  (∀ (j : Nat) (u : Value), Own (w.setCell ⟨g, j, none⟩ u) F e size v n (xs.set j u)) := by
 obtain ⟨⟨hl, h1⟩, hF⟩ := h
 rcases h1 with ⟨e1, h0⟩ | ⟨g, cap, cur, rfl, hb, hg, hnc, hcm, hcs, htake⟩
 ·rw [h0] at hn; simp at hn
 ·have hcell : ∀ (j : Nat) (u : Value), xs[j]? = some u → cur[j]? = some u := by
   intro j u hu
   rw [← htake, List.getElem?_take] at hu
   split at hu
   ·simpa using hu
   ·cases hu
  refine ⟨g, cap, cur, rfl, hnc, hF g rfl, hg, hcs, hcell, fun j u hu => by rw [cell_of_row w g j cur e (0, 0) hg]; exact hcell j u hu, fun j u => ⟨⟨by simpa using hl, .inr ⟨g, cap, cur.setIfInBounds j u, rfl, hb, (show Blk w g e cur from hg).set_ j u, hnc, hcm, by simpa using hcs, ?_⟩⟩, hF⟩⟩
  rw [Array.toList_setIfInBounds, List.take_set, htake]
end
end Go.Proofs.YtpjfheadolphgaaGreat
namespace Go.Proofs.YtpjfheadolphgaaGreat
structure DD where
 n : Nat
 m : Nat
 done : Nat → List UInt8
 cache : List (Nat × List UInt8)
 down : Bool
 left : Nat
 keep : List Bool
 deeds : Nat
namespace DD
def setS (f : Nat → List UInt8) (s : Nat) (l : List UInt8) : Nat → List UInt8 := fun k => if k = s then l else f k
def zero (m : Nat) : List UInt8 := List.replicate m 0
def new (n m : Nat) : DD := ⟨n, m, fun _ => zero m, [], false, 0, [], 0⟩
def last (s : Nat) : List (Nat × List UInt8) → Option (List UInt8)
 | [] => none
 | c :: cs => match last s cs with | some l => some l | none => if c.1 = s then some c.2 else none
def at_ (D : DD) (s : Nat) : List UInt8 := (last s D.cache).getD (D.done s)
def sector (D : DD) (s : Int) : Bool := decide (0 ≤ s ∧ s < D.n)
def read (s : Int) (D : DD) : List UInt8 × Int := if D.down then ([], 50) else if D.sector s then (D.at_ s.toNat, 0) else ([], 1)
structure Wf (D : DD) : Prop where
 n1 : 1 ≤ D.n
 n2 : D.n ≤ 65536
 m1 : 16 ≤ D.m
 m2 : D.m ≤ 4096
 done : ∀ i, (D.done i).length = D.m
 cache : ∀ c ∈ D.cache, c.1 < D.n ∧ c.2.length = D.m
theorem Wf.new {n m : Nat} (h1 : 1 ≤ n) (h2 : n ≤ 65536) (h3 : 16 ≤ m) (h4 : m ≤ 4096) : Wf (new n m) :=
 ⟨h1, h2, h3, h4, fun _ => by simp [DD.new, zero], fun c hc => by simp [DD.new] at hc⟩
theorem Wf.left {D : DD} (h : Wf D) (b : Nat) : Wf { D with left := b } := ⟨h.n1, h.n2, h.m1, h.m2, h.done, h.cache⟩
theorem Wf.deeds {D : DD} (h : Wf D) (b : Nat) : Wf { D with deeds := b } := ⟨h.n1, h.n2, h.m1, h.m2, h.done, h.cache⟩
theorem last_none {s : Nat} : ∀ {l : List (Nat × List UInt8)}, (∀ c ∈ l, c.1 ≠ s) → last s l = none
 | [], _ => rfl
 | c :: l, h => by rw [last, last_none fun c hc => h c (by simp [hc])]; simp [h c (by simp)]
theorem last_some {s : Nat} : ∀ {l : List (Nat × List UInt8)} {j : Nat} {c : Nat × List UInt8}, l[j]? = some c → c.1 = s → (∀ i, j < i → ∀ x, l[i]? = some x → x.1 ≠ s) → last s l = some c.2
 | [], j, c, h, _, _ => by simp at h
 | x :: l, 0, c, h, hc, hn => by
  simp at h; subst h
  have : last s l = none := last_none fun y hy => by
   obtain ⟨i, hi, rfl⟩ := List.mem_iff_getElem.1 hy
   exact hn (i + 1) (by omega) _ (by simp [hi])
  rw [last, this]; simp [hc]
 | x :: l, j + 1, c, h, hc, hn => by
  have := last_some (l := l) (j := j) (c := c) (by simpa using h) hc (fun i hi y hy => hn (i + 1) (by omega) y (by simpa using hy))
  rw [last, this]
theorem last_len {m : Nat} {s : Nat} : ∀ {l : List (Nat × List UInt8)} {x : List UInt8}, (∀ c ∈ l, c.2.length = m) → last s l = some x → x.length = m
 | [], x, _, h => by cases h
 | c :: l, x, hl, h => by
  simp only [last] at h
  split at h
  ·rename_i y hy
   injection h with h; subst h
   exact last_len (fun c hc => hl c (by simp [hc])) hy
  ·split at h
   ·injection h with h; subst h; exact hl c (by simp)
   ·cases h
theorem Wf.at_ {D : DD} (h : Wf D) (s : Nat) : (D.at_ s).length = D.m := by
 unfold DD.at_
 cases hl : last s D.cache with
 | none => exact h.done s
 | some x => exact last_len (fun c hc => (h.cache c hc).2) hl
end DD
end Go.Proofs.YtpjfheadolphgaaGreat
namespace Go.Proofs.YtpjfheadolphgaaGreat
abbrev Str := List UInt8
abbrev KV := Str × Str
def lts (a b : Str) : Prop := Go.Op.bytesLess a b = true
instance (a b : Str) : Decidable (lts a b) := inferInstanceAs (Decidable (_ = _))
def les (a b : Str) : Prop := ¬ lts b a
instance (a b : Str) : Decidable (les a b) := inferInstanceAs (Decidable (¬ _))
theorem bytesLess_cons (a b : UInt8) (x y : Str) : Go.Op.bytesLess (a :: x) (b :: y) = (decide (a < b) || (a == b && Go.Op.bytesLess x y)) := rfl
theorem lts_nil (a : Str) : ¬ lts a [] := by unfold lts; cases a <;> simp [Go.Op.bytesLess]
theorem nil_les (a : Str) : les [] a := lts_nil a
theorem lts_cons {a b : UInt8} {x y : Str} : lts (a :: x) (b :: y) ↔ a < b ∨ (a = b ∧ lts x y) := by
 unfold lts
 rw [bytesLess_cons]
 simp
theorem lts_irrefl : ∀ a : Str, ¬ lts a a
 | [] => lts_nil []
 | x :: a => by rw [lts_cons]; rintro (h | ⟨_, h⟩); (· exact UInt8.lt_irrefl x h); (· exact lts_irrefl a h)
theorem lts_trans : ∀ {a b c : Str}, lts a b → lts b c → lts a c
 | a, b, [], _, h => (lts_nil _ h).elim
 | a, [], z :: c, h, _ => (lts_nil _ h).elim
 | [], y :: b, z :: c, _, _ => rfl
 | x :: a, y :: b, z :: c, h1, h2 => by
  rw [lts_cons] at *
  rcases h1 with h1 | ⟨rfl, h1⟩
  ·rcases h2 with h2 | ⟨rfl, h2⟩
   ·exact .inl (UInt8.lt_trans h1 h2)
   ·exact .inl h1
  ·rcases h2 with h2 | ⟨rfl, h2⟩
   ·exact .inl h2
   ·exact .inr ⟨rfl, lts_trans h1 h2⟩
theorem lts_total : ∀ a b : Str, lts a b ∨ a = b ∨ lts b a
 | [], [] => .inr (.inl rfl)
 | [], _ :: _ => .inl rfl
 | _ :: _, [] => .inr (.inr rfl)
 | x :: a, y :: b => by
  rw [lts_cons, lts_cons]
  rcases UInt8.lt_or_lt_of_ne (a := x) (b := y) |> fun f => Decidable.em (x = y) |>.imp id f with h | h | h
  ·subst h
   rcases lts_total a b with h | h | h
   ·exact .inl (.inr ⟨rfl, h⟩)
   ·exact .inr (.inl (by rw [h]))
   ·exact .inr (.inr (.inr ⟨rfl, h⟩))
  ·exact .inl (.inl h)
  ·exact .inr (.inr (.inl h))
theorem lts_asymm {a b : Str} (h : lts a b) : ¬ lts b a := fun k => lts_irrefl a (lts_trans h k)
theorem lts_ne {a b : Str} (h : lts a b) : a ≠ b := fun e => lts_irrefl b (e ▸ h)
theorem lts_les {a b : Str} (h : lts a b) : les a b := lts_asymm h
theorem les_refl (a : Str) : les a a := lts_irrefl a
theorem les_iff {a b : Str} : les a b ↔ lts a b ∨ a = b := by
 constructor
 ·intro h
  rcases lts_total a b with h1 | h1 | h1
  ·exact .inl h1
  ·exact .inr h1
  ·exact (h h1).elim
 ·rintro (h | rfl)
  ·exact lts_les h
  ·exact les_refl a
theorem les_lts {a b c : Str} (h : les a b) (k : lts b c) : lts a c := by
 rcases les_iff.1 h with h | rfl
 ·exact lts_trans h k
 ·exact k
theorem lts_of_les {a b c : Str} (h : lts a b) (k : les b c) : lts a c := by
 rcases les_iff.1 k with k | rfl
 ·exact lts_trans h k
 ·exact h
theorem les_trans {a b c : Str} (h : les a b) (k : les b c) : les a c := by
 rcases les_iff.1 h with h | rfl
 ·exact lts_les (lts_of_les h k)
 ·exact k
def bel (k : Str) : Option Str → Prop
 | none => True
 | some h => lts k h
def les' : Option Str → Option Str → Prop
 | _, none => True
 | some a, some b => les a b
 | none, some _ => False
theorem bel_mono {k : Str} {a b : Option Str} (h : bel k a) (hl : les' a b) : bel k b := by
 cases b with
 | none => trivial
 | some b => cases a with
  | none => exact hl.elim
  | some a => exact lts_of_les h hl
def Srt (M : List KV) : Prop := M.Pairwise fun a b => lts a.1 b.1
def get (k : Str) : List KV → Option Str
 | [] => none
 | x :: M => if x.1 = k then some x.2 else get k M
def ins (k v : Str) : List KV → List KV
 | [] => [(k, v)]
 | x :: M => if lts k x.1 then (k, v) :: x :: M else if x.1 = k then (k, v) :: M else x :: ins k v M
def del (k : Str) (M : List KV) : List KV := M.filter fun x => !decide (x.1 = k)
def next (k : Str) : List KV → Option KV
 | [] => none
 | x :: M => if lts k x.1 then some x else next k M
theorem get_none {k : Str} : ∀ {M : List KV}, (∀ x ∈ M, x.1 ≠ k) → get k M = none
 | [], _ => rfl
 | x :: M, h => by rw [get, if_neg (h x (by simp)), get_none fun y hy => h y (by simp [hy])]
theorem get_append {k : Str} : ∀ {A B : List KV}, get k (A ++ B) = (get k A).or (get k B)
 | [], B => rfl
 | x :: A, B => by
  rw [List.cons_append, get, get, get_append (A := A)]
  split <;> rfl
theorem del_none {k : Str} {M : List KV} (h : ∀ x ∈ M, x.1 ≠ k) : del k M = M := by
 unfold del
 rw [List.filter_eq_self]
 intro x hx
 simp [h x hx]
theorem del_append (k : Str) (A B : List KV) : del k (A ++ B) = del k A ++ del k B := List.filter_append ..
theorem mem_del {k : Str} {M : List KV} {x : KV} : x ∈ del k M ↔ x ∈ M ∧ x.1 ≠ k := by unfold del; simp
theorem Srt.del {M : List KV} (h : Srt M) (k : Str) : Srt (del k M) := List.Pairwise.sublist List.filter_sublist h
theorem mem_ins {k v : Str} {x : KV} : ∀ {M : List KV}, x ∈ ins k v M → x = (k, v) ∨ (x ∈ M ∧ (Srt M → x.1 ≠ k))
 | [], h => by rw [ins] at h; simp at h; exact .inl h
 | y :: M, h => by
  rw [ins] at h
  split at h
  ·rename_i hlt
   rcases List.mem_cons.1 h with h | h
   ·exact .inl h
   ·refine .inr ⟨h, fun hs => ?_⟩
    rcases List.mem_cons.1 h with rfl | h
    ·exact fun e => lts_irrefl _ (e ▸ hlt)
    ·exact fun e => lts_irrefl _ (lts_trans hlt (e ▸ (List.pairwise_cons.1 hs).1 _ h))
  ·split at h
   ·rename_i e
    rcases List.mem_cons.1 h with h | h
    ·exact .inl h
    ·refine .inr ⟨by simp [h], fun hs e' => ?_⟩
     have := (List.pairwise_cons.1 hs).1 _ h
     rw [e, e'] at this
     exact lts_irrefl _ this
   ·rename_i e
    rcases List.mem_cons.1 h with rfl | h
    ·exact .inr ⟨by simp, fun _ => e⟩
    ·rcases mem_ins h with h | ⟨h, h2⟩
     ·exact .inl h
     ·exact .inr ⟨by simp [h], fun hs => h2 (List.pairwise_cons.1 hs).2⟩
theorem mem_ins_self (k v : Str) : ∀ M : List KV, (k, v) ∈ ins k v M
 | [] => by simp [ins]
 | y :: M => by
  rw [ins]
  split
  ·simp
  ·split
   ·simp
   ·simp [mem_ins_self k v M]
theorem Srt.ins {k v : Str} : ∀ {M : List KV}, Srt M → Srt (ins k v M)
 | [], _ => by simp [Go.Proofs.YtpjfheadolphgaaGreat.ins, Srt]
 | x :: M, h => by
  have h' := List.pairwise_cons.1 h
  rw [Go.Proofs.YtpjfheadolphgaaGreat.ins]
  split
  ·rename_i hlt
   refine List.pairwise_cons.2 ⟨fun y hy => ?_, h⟩
   rcases List.mem_cons.1 hy with rfl | hy
   ·exact hlt
   ·exact lts_trans hlt (h'.1 y hy)
  ·rename_i hlt
   split
   ·rename_i e
    refine List.pairwise_cons.2 ⟨fun y hy => ?_, h'.2⟩
    have := h'.1 y hy
    rw [e] at this
    exact this
   ·rename_i e
    refine List.pairwise_cons.2 ⟨fun y hy => ?_, Srt.ins h'.2⟩
    rcases mem_ins hy with rfl | ⟨hy, _⟩
    ·rcases lts_total x.1 k with h1 | h1 | h1
     ·exact h1
     ·exact (e h1).elim
     ·exact (hlt h1).elim
    ·exact h'.1 y hy
theorem ins_left {k v : Str} : ∀ {A B : List KV}, (∀ x ∈ A, lts x.1 k) → ins k v (A ++ B) = A ++ ins k v B
 | [], _, _ => rfl
 | x :: A, B, h => by
  have hx := h x (by simp)
  rw [List.cons_append, ins, if_neg (lts_asymm hx), if_neg (lts_ne hx), ins_left fun y hy => h y (by simp [hy])]
  rfl
theorem ins_right {k v : Str} : ∀ {A B : List KV}, (∀ x ∈ B, lts k x.1) → ins k v (A ++ B) = ins k v A ++ B
 | [], [], _ => rfl
 | [], y :: B, h => by have := h y (by simp); simp [ins, this]
 | x :: A, B, h => by
  rw [List.cons_append, ins, ins]
  split
  ·rfl
  ·split
   ·rfl
   ·rw [ins_right h]; rfl
theorem ins_get_length {k v : Str} : ∀ {M : List KV}, Srt M → (ins k v M).length = M.length + (if (get k M).isSome then 0 else 1)
 | [], _ => by simp [ins, get]
 | x :: M, h => by
  have h' := List.pairwise_cons.1 h
  rw [ins, get]
  by_cases hlt : lts k x.1
  ·have hg : get k M = none := get_none fun y hy e => lts_irrefl k (lts_trans hlt (by have := h'.1 y hy; rwa [e] at this))
   have hx : ¬ x.1 = k := fun e => by rw [e] at hlt; exact lts_irrefl _ hlt
   rw [if_pos hlt, if_neg hx, hg]
   simp
  ·by_cases e : x.1 = k
   ·rw [if_neg hlt, if_pos e, if_pos e]; simp
   ·simp [hlt, e, ins_get_length h'.2]; omega
theorem get_ins {k v q : Str} : ∀ {M : List KV}, Srt M → get q (ins k v M) = if q = k then some v else get q M
 | [], _ => by
  rw [ins, get, get]
  by_cases e : q = k
  ·simp [e]
  ·rw [if_neg (fun h => e h.symm), if_neg e]; rfl
 | x :: M, h => by
  have h' := List.pairwise_cons.1 h
  rw [ins]
  split
  ·rename_i hlt
   rw [get]
   by_cases e : q = k
   ·simp [e]
   ·rw [if_neg (fun h => e h.symm), if_neg e]
  ·split
   ·rename_i e1
    rw [get, get]
    by_cases e : q = k
    ·simp [e]
    ·rw [if_neg (fun h => e h.symm), if_neg e, if_neg (fun h => e (h.symm.trans e1))]
   ·rename_i e1
    rw [get, get, get_ins h'.2]
    by_cases e2 : x.1 = q
    ·rw [if_pos e2, if_pos e2, if_neg (fun h => e1 (e2.trans h))]
    ·rw [if_neg e2, if_neg e2]
theorem get_del {k q : Str} : ∀ {M : List KV}, get q (del k M) = if q = k then none else get q M
 | [] => by simp [del, get]
 | x :: M => by
  have ih := get_del (k := k) (q := q) (M := M)
  unfold del at *
  by_cases e : x.1 = k
  ·rw [List.filter_cons_of_neg (by simp [e]), ih, get]
   by_cases e2 : q = k
   ·simp [e2]
   ·rw [if_neg e2, if_neg e2, if_neg (fun h => e2 (h.symm.trans e))]
  ·rw [List.filter_cons_of_pos (by simp [e]), get, get, ih]
   by_cases e2 : x.1 = q
   ·rw [if_pos e2, if_pos e2, if_neg (fun h => e (e2.trans h))]
   ·rw [if_neg e2, if_neg e2]
theorem next_left {k : Str} : ∀ {A B : List KV}, (∀ x ∈ A, les x.1 k) → next k (A ++ B) = next k B
 | [], _, _ => rfl
 | x :: A, B, h => by rw [List.cons_append, next, if_neg (h x (by simp)), next_left fun y hy => h y (by simp [hy])]
theorem next_append {k : Str} : ∀ {A B : List KV}, next k (A ++ B) = (next k A).or (next k B)
 | [], _ => rfl
 | x :: A, B => by
  rw [List.cons_append, next, next, next_append (A := A)]
  split <;> rfl
end Go.Proofs.YtpjfheadolphgaaGreat
namespace Go.Proofs.YtpjfheadolphgaaGreat
structure NodeD where
 leaf : Bool
 pairs : List (Str × Str)
 keys : List Str
 children : List Nat
namespace NodeD
def sizeP : List (Str × Str) → Nat
 | [] => 0
 | p :: ps => 2 + p.1.length + p.2.length + sizeP ps
def sizeK : List Str → Nat
 | [] => 0
 | k :: ks => 1 + k.length + sizeK ks
def size (n : NodeD) : Nat := 3 + 3 * n.children.length + sizeP n.pairs + sizeK n.keys
def most (m : Nat) : Nat := (m - 16) / 4 - 4
def text (s : Str) : Str := UInt8.ofNat s.length :: s
def textsP : List (Str × Str) → Str
 | [] => []
 | p :: ps => text p.1 ++ (text p.2 ++ textsP ps)
def textsK : List Str → Str
 | [] => []
 | k :: ks => text k ++ textsK ks
def child (c : Nat) : Str := [UInt8.ofNat (c / 65536), UInt8.ofNat (c / 256), UInt8.ofNat c]
def kids : List Nat → Str
 | [] => []
 | c :: cs => child c ++ kids cs
def body (n : NodeD) : Str := textsP n.pairs ++ (kids n.children ++ textsK n.keys)
def count (n : NodeD) : Nat := if n.leaf then n.pairs.length else n.keys.length
def head (n : NodeD) : Str := [if n.leaf then 1 else 2, UInt8.ofNat (n.count / 256), UInt8.ofNat n.count]
def bytes (n : NodeD) (m : Nat) : Str := n.head ++ (n.body ++ List.replicate (m - n.size) 0)
theorem text_len (s : Str) : (text s).length = 1 + s.length := by simp [text]; omega
theorem textsP_len : ∀ ps : List (Str × Str), (textsP ps).length = sizeP ps
 | [] => rfl
 | p :: ps => by rw [textsP, List.length_append, List.length_append, text_len, text_len, textsP_len ps, sizeP]; omega
theorem textsK_len : ∀ ks : List Str, (textsK ks).length = sizeK ks
 | [] => rfl
 | k :: ks => by rw [textsK, List.length_append, text_len, textsK_len ks, sizeK]
theorem kids_len : ∀ cs : List Nat, (kids cs).length = 3 * cs.length
 | [] => rfl
 | c :: cs => by rw [kids, List.length_append, kids_len cs, List.length_cons]; simp [child]; omega
theorem body_len (n : NodeD) : n.body.length + 3 = n.size := by
 unfold body size
 rw [List.length_append, List.length_append, textsP_len, kids_len, textsK_len]
 omega
theorem bytes_len (n : NodeD) {m : Nat} (h : n.size ≤ m) : (n.bytes m).length = m := by
 unfold bytes
 rw [List.length_append, List.length_append, List.length_replicate]
 have := body_len n
 simp [head]
 omega
theorem child_val {c : Nat} (h : c < 16777216) : (UInt8.ofNat (c / 65536)).toNat * 65536 + (UInt8.ofNat (c / 256)).toNat * 256 + (UInt8.ofNat c).toNat = c := by
 rw [UInt8.toNat_ofNat', UInt8.toNat_ofNat', UInt8.toNat_ofNat']
 omega
theorem sizeP_append (a b : List (Str × Str)) : sizeP (a ++ b) = sizeP a + sizeP b := by
 induction a with
 | nil => simp [sizeP]
 | cons p a ih => rw [List.cons_append, sizeP, sizeP, ih]; omega
theorem sizeK_append (a b : List Str) : sizeK (a ++ b) = sizeK a + sizeK b := by
 induction a with
 | nil => simp [sizeK]
 | cons p a ih => rw [List.cons_append, sizeK, sizeK, ih]; omega
structure Ok (n : NodeD) (m : Nat) : Prop where
 size : n.size ≤ m
 leaf : n.leaf = true → n.children = [] ∧ n.keys = []
 inner : n.leaf = false → n.pairs = [] ∧ n.children.length = n.keys.length + 1
 key : ∀ k ∈ n.keys, 1 ≤ k.length ∧ k.length ≤ 255 ∧ k.length ≤ most m
 pair : ∀ p ∈ n.pairs, 1 ≤ p.1.length ∧ p.1.length ≤ 255 ∧ p.2.length ≤ 255 ∧ p.1.length + p.2.length ≤ most m
 kid : ∀ c ∈ n.children, 1 ≤ c ∧ c < 16777216
 rise : n.keys.Pairwise lts
 riseP : Srt n.pairs
end NodeD
end Go.Proofs.YtpjfheadolphgaaGreat
namespace Go.Proofs.YtpjfheadolphgaaGreat
structure PD where
 n : Nat
 m : Nat
 own : Nat
 used : Nat → Bool
 page : Nat → List UInt8
 root : Nat
namespace PD
def is (D : PD) (p : Nat) : Bool := decide (D.own < p ∧ p < D.n)
def may (D : PD) (p : Int) : Bool := decide (0 ≤ p) && (D.is p.toNat && D.used p.toNat)
def putPage (p : Nat) (l : List UInt8) (D : PD) : PD := { D with page := DD.setS D.page p l }
def turn (p : Nat) (b : Bool) (D : PD) : PD := { D with used := fun q => if q = p then b else D.used q }
def free (D : PD) : Nat → Nat → Option Nat
 | _, 0 => none
 | p, k + 1 => if D.used p then free D (p + 1) k else some p
def take (D : PD) : PD × (Nat × Int) := match D.free (D.own + 1) (D.n - (D.own + 1)) with
 | some p => (putPage p (DD.zero D.m) (turn p true D), (p, 0))
 | none => (D, (0, 6))
theorem free_some {D : PD} : ∀ {k p q : Nat}, D.free p k = some q → p ≤ q ∧ q < p + k ∧ D.used q = false ∧ ∀ i, p ≤ i → i < q → D.used i = true
 | 0, p, q, h => by cases h
 | k + 1, p, q, h => by
  rw [free] at h
  split at h
  ·rename_i hu
   obtain ⟨h1, h2, h3, h4⟩ := free_some h
   refine ⟨by omega, by omega, h3, fun i hi hq => ?_⟩
   by_cases hip : i = p
   ·rw [hip]; exact hu
   ·exact h4 i (by omega) hq
  ·rename_i hu
   injection h with h
   subst h
   exact ⟨Nat.le_refl _, by omega, by simpa using hu, fun i hi hq => by omega⟩
theorem free_none {D : PD} : ∀ {k p : Nat}, D.free p k = none → ∀ i, p ≤ i → i < p + k → D.used i = true
 | 0, p, _, i, h1, h2 => by omega
 | k + 1, p, h, i, h1, h2 => by
  rw [free] at h
  split at h
  ·rename_i hu
   by_cases hip : i = p
   ·rw [hip]; exact hu
   ·exact free_none h i (by omega) (by omega)
  ·cases h
end PD
end Go.Proofs.YtpjfheadolphgaaGreat
namespace Go.Proofs.YtpjfheadolphgaaGreat
structure Ent where
 lo : Str
 c : Nat
 M : List KV
 P : List Nat
 f : Nat
def nxt (hi : Option Str) : List Ent → Option Str
 | [] => hi
 | e :: _ => some e.lo
def ChainW (S : Ent → Option Str → Prop) (hi : Option Str) : List Ent → Prop
 | [] => True
 | e :: l => S e (nxt hi l) ∧ ChainW S hi l
def leafN (ps : List KV) : NodeD := ⟨true, ps, [], []⟩
def innerN (es : List Ent) : NodeD := ⟨false, [], es.tail.map Ent.lo, es.map Ent.c⟩
def full (n : NodeD) (m : Nat) : Nat := if m < n.size + NodeD.most m + 4 then 1 else 0
def flatM (es : List Ent) : List KV := es.flatMap Ent.M
def flatP (es : List Ent) : List Nat := es.flatMap Ent.P
def sumF (es : List Ent) : Nat := (es.map Ent.f).sum
def Sub (D : PD) : Nat → Ent → Option Str → Prop
 | 0, e, hi => (leafN e.M).Ok D.m ∧ e.M ≠ [] ∧ (∀ x ∈ e.M, les e.lo x.1 ∧ bel x.1 hi) ∧ D.page e.c = (leafN e.M).bytes D.m ∧ e.P = [e.c] ∧ e.f = full (leafN e.M) D.m
 | h + 1, e, hi => ∃ x es, x.lo = e.lo ∧ (innerN (x :: es)).Ok D.m ∧ ChainW (Sub D h) hi (x :: es) ∧ D.page e.c = (innerN (x :: es)).bytes D.m ∧
   e.M = flatM (x :: es) ∧ e.P = e.c :: flatP (x :: es) ∧ e.f = full (innerN (x :: es)) D.m + sumF (x :: es)
section
variable {S S' : Ent → Option Str → Prop} {hi hi' : Option Str} {D D' : PD} {h : Nat} {e : Ent}
theorem nxt_append (a b : List Ent) : nxt hi (a ++ b) = nxt (nxt hi b) a := by cases a <;> rfl
theorem chain_append : ∀ {a b : List Ent}, ChainW S hi (a ++ b) ↔ ChainW S (nxt hi b) a ∧ ChainW S hi b
 | [], b => by simp [ChainW]
 | e :: a, b => by
  rw [List.cons_append, ChainW, ChainW, chain_append (a := a), nxt_append]
  exact and_assoc.symm
theorem ChainW.imp : ∀ {l : List Ent}, ChainW S hi l → (∀ e ∈ l, ∀ hi, S e hi → S' e hi) → ChainW S' hi l
 | [], _, _ => trivial
 | e :: l, h, f => ⟨f e (by simp) _ h.1, ChainW.imp h.2 fun e he => f e (by simp [he])⟩
theorem flatM_append (a b : List Ent) : flatM (a ++ b) = flatM a ++ flatM b := List.flatMap_append
theorem flatP_append (a b : List Ent) : flatP (a ++ b) = flatP a ++ flatP b := List.flatMap_append
theorem flatM_cons (e : Ent) (b : List Ent) : flatM (e :: b) = e.M ++ flatM b := rfl
theorem flatP_cons (e : Ent) (b : List Ent) : flatP (e :: b) = e.P ++ flatP b := rfl
theorem sumF_append (a b : List Ent) : sumF (a ++ b) = sumF a + sumF b := by simp [sumF]
theorem sumF_cons (e : Ent) (b : List Ent) : sumF (e :: b) = e.f + sumF b := by simp [sumF]
theorem flatM_nil : flatM [] = [] := rfl
structure Facts (e : Ent) (hi : Option Str) : Prop where
 ne : e.M ≠ []
 srt : Srt e.M
 rng : ∀ x ∈ e.M, les e.lo x.1 ∧ bel x.1 hi
theorem Facts.lt (h : Facts e hi) : bel e.lo hi := by
 obtain ⟨x, hx⟩ := List.exists_mem_of_ne_nil _ h.ne
 obtain ⟨h1, h2⟩ := h.rng x hx
 cases hi with
 | none => trivial
 | some b => exact les_lts h1 h2
structure ChainF (hi : Option Str) (l : List Ent) : Prop where
 srt : Srt (flatM l)
 rng : ∀ x ∈ flatM l, bel x.1 hi
 low : ∀ e l', l = e :: l' → ∀ x ∈ flatM l, les e.lo x.1
 los : (l.map Ent.lo).Pairwise lts
 bel : ∀ e ∈ l, bel e.lo hi
theorem chain_facts (hS : ∀ e hi, S e hi → Facts e hi) : ∀ {l : List Ent} {hi}, ChainW S hi l → ChainF hi l
 | [], _, _ => ⟨List.Pairwise.nil, by simp [flatM], by simp, List.Pairwise.nil, by simp⟩
 | e :: l, hi, h => by
  have f := hS _ _ h.1
  have ih := chain_facts hS h.2
  have hlt : ∀ e' l', l = e' :: l' → ∀ x ∈ e.M, lts x.1 e'.lo := by
   rintro e' l' rfl x hx
   exact (f.rng x hx).2
  have hcross : ∀ x ∈ e.M, ∀ y ∈ flatM l, lts x.1 y.1 := by
   intro x hx y hy
   cases l with
   | nil => simp [flatM] at hy
   | cons e' l' => exact lts_of_les (hlt e' l' rfl x hx) (ih.low e' l' rfl y hy)
  obtain ⟨x0, hx0⟩ := List.exists_mem_of_ne_nil _ f.ne
  have hlo : ∀ e' ∈ l, lts e.lo e'.lo := by
   intro e' he'
   cases l with
   | nil => simp at he'
   | cons e1 l' =>
    have h1 : lts e.lo e1.lo := les_lts (f.rng x0 hx0).1 (hlt e1 l' rfl x0 hx0)
    rcases List.mem_cons.1 he' with rfl | he'
    ·exact h1
    ·exact lts_trans h1 ((List.pairwise_cons.1 ih.los).1 _ (List.mem_map_of_mem he'))
  have hbel : ∀ x ∈ e.M, bel x.1 hi := by
   intro x hx
   cases l with
   | nil => exact (f.rng x hx).2
   | cons e1 l' =>
    have h1 := hlt e1 l' rfl x hx
    have h2 := ih.bel e1 (by simp)
    cases hi with
    | none => trivial
    | some b => exact lts_trans h1 h2
  refine ⟨?_, ?_, ?_, ?_, ?_⟩
  ·rw [flatM_cons]
   exact List.pairwise_append.2 ⟨f.srt, ih.srt, hcross⟩
  ·intro x hx
   rw [flatM_cons] at hx
   rcases List.mem_append.1 hx with hx | hx
   ·exact hbel x hx
   ·exact ih.rng x hx
  ·rintro e' l' he x hx
   injection he with h1 h2
   subst h1
   rw [flatM_cons] at hx
   rcases List.mem_append.1 hx with hx | hx
   ·exact (f.rng x hx).1
   ·exact lts_les (les_lts (f.rng x0 hx0).1 (hcross x0 hx0 x hx))
  ·exact List.pairwise_cons.2 ⟨fun y hy => by obtain ⟨e', he', rfl⟩ := List.mem_map.1 hy; exact hlo e' he', ih.los⟩
  ·intro e' he'
   rcases List.mem_cons.1 he' with rfl | he'
   ·have := hbel x0 hx0
    cases hi with
    | none => trivial
    | some b => exact les_lts (f.rng x0 hx0).1 this
   ·exact ih.bel e' he'
theorem sub_facts : ∀ {h : Nat} {e : Ent} {hi}, Sub D h e hi → Facts e hi
 | 0, e, hi, h => ⟨h.2.1, h.1.riseP, h.2.2.1⟩
 | h + 1, e, hi, hs => by
  obtain ⟨x, es, h1, h2, h3, h4, h5, h6, h7⟩ := hs
  have f := chain_facts (fun e hi hs => sub_facts (h := h) hs) h3
  refine ⟨?_, by rw [h5]; exact f.srt, fun y hy => ?_⟩
  ·rw [h5, flatM_cons]
   have := (sub_facts h3.1).ne
   simp [this]
  ·rw [h5] at hy
   exact ⟨h1 ▸ f.low x es rfl y hy, f.rng y hy⟩
theorem ChainW.facts {l : List Ent} (hc : ChainW (Sub D h) hi l) : ChainF hi l := chain_facts (fun _ _ hs => sub_facts hs) hc
theorem sub_c : ∀ {h : Nat} {e : Ent} {hi}, Sub D h e hi → ∃ P, e.P = e.c :: P
 | 0, e, hi, h => ⟨[], h.2.2.2.2.1⟩
 | h + 1, e, hi, hs => by
  obtain ⟨x, es, h1, h2, h3, h4, h5, h6, h7⟩ := hs
  exact ⟨_, h6⟩
theorem chain_hi (hS : ∀ e a b, les' a b → S e a → S e b) (hl : les' hi hi') : ∀ {l : List Ent}, ChainW S hi l → ChainW S hi' l
 | [], _ => trivial
 | e :: l, hc => by
  refine ⟨?_, chain_hi hS hl hc.2⟩
  cases l with
  | nil => exact hS _ _ _ hl hc.1
  | cons e' l' => exact hc.1
theorem sub_hi : ∀ {h : Nat} {e : Ent} {hi hi'}, les' hi hi' → Sub D h e hi → Sub D h e hi'
 | 0, e, hi, hi', hl, h => ⟨h.1, h.2.1, fun x hx => ⟨(h.2.2.1 x hx).1, bel_mono (h.2.2.1 x hx).2 hl⟩, h.2.2.2⟩
 | h + 1, e, hi, hi', hl, hs => by
  obtain ⟨x, es, h1, h2, h3, h4⟩ := hs
  exact ⟨x, es, h1, h2, chain_hi (S := Sub D h) (fun e a b hl hs => sub_hi (h := h) hl hs) hl h3, h4⟩
def Ent.low (e : Ent) (lo : Str) : Ent := { e with lo := lo }
theorem sub_lo : ∀ {h : Nat} {e : Ent} {hi} {lo : Str}, les lo e.lo → Sub D h e hi → Sub D h (e.low lo) hi
 | 0, e, hi, lo, hl, h => ⟨h.1, h.2.1, fun x hx => ⟨les_trans hl (h.2.2.1 x hx).1, (h.2.2.1 x hx).2⟩, h.2.2.2⟩
 | h + 1, e, hi, lo, hl, hs => by
  obtain ⟨x, es, h1, h2, h3, h4⟩ := hs
  exact ⟨x.low lo, es, rfl, h2, ⟨sub_lo (by rw [h1]; exact hl) h3.1, h3.2⟩, h4⟩
theorem sub_frame (hm : D'.m = D.m) : ∀ {h : Nat} {e : Ent} {hi}, (∀ q ∈ e.P, D'.page q = D.page q) → Sub D h e hi → Sub D' h e hi
 | 0, e, hi, hp, hs => by
  obtain ⟨h1, h2, h3, h4, h5, h6⟩ := hs
  refine ⟨by rw [hm]; exact h1, h2, h3, ?_, h5, by rw [hm]; exact h6⟩
  rw [hm, hp e.c (by rw [h5]; simp), h4]
 | h + 1, e, hi, hp, hs => by
  obtain ⟨x, es, h1, h2, h3, h4, h5, h6, h7⟩ := hs
  refine ⟨x, es, h1, by rw [hm]; exact h2, h3.imp fun e' he' hi hs => sub_frame hm (fun q hq => hp q ?_) hs, ?_, h5, h6, by rw [hm]; exact h7⟩
  ·rw [h6]
   exact List.mem_cons_of_mem _ (List.mem_flatMap.2 ⟨e', he', hq⟩)
  ·rw [hm, hp e.c (by rw [h6]; simp), h4]
def PlaceK (ks : List Str) (key : Str) (i : Nat) : Prop := ∃ a b, ks = a ++ b ∧ a.length = i ∧ (∀ k ∈ a, les k key) ∧ ∀ k ∈ b, lts key k
def PlaceP (ps : List KV) (key : Str) (i : Nat) (is : Bool) : Prop :=
 ∃ a b, ps = a ++ b ∧ a.length = i ∧ (∀ x ∈ a, lts x.1 key) ∧ if is then ∃ v c, b = (key, v) :: c ∧ ∀ x ∈ c, lts key x.1 else ∀ x ∈ b, lts key x.1
theorem placeP_get {ps : List KV} {key : Str} {i : Nat} {is : Bool} (h : PlaceP ps key i is) : (get key ps).isSome = is := by
 obtain ⟨a, b, rfl, rfl, ha, hb⟩ := h
 rw [get_append, get_none fun x hx => lts_ne (ha x hx)]
 cases is with
 | true =>
  obtain ⟨v, c, rfl, hc⟩ := hb
  simp [get]
 | false =>
  rw [if_neg (by simp)] at hb
  rw [get_none fun x hx e => lts_irrefl key (by have := hb x hx; rwa [e] at this)]
  rfl
structure Around (es : List Ent) (hi : Option Str) (key : Str) (e1 : List Ent) (x : Ent) (e2 : List Ent) : Prop where
 eq : es = e1 ++ x :: e2
 lo : les x.lo key
 bel : bel key (nxt hi e2)
 ahead : ∀ y ∈ flatM e1, lts y.1 key
 behind : ∀ y ∈ flatM e2, lts key y.1
theorem around {x0 : Ent} {es : List Ent} {key : Str} {i : Nat} (hc : ChainW (Sub D h) hi (x0 :: es)) (hlo : les x0.lo key) (hb : bel key hi) (hp : PlaceK (es.map Ent.lo) key i) :
  ∃ e1 x e2, Around (x0 :: es) hi key e1 x e2 ∧ e1.length = i := by
 obtain ⟨a, b, he, rfl, ha, hb'⟩ := hp
 obtain ⟨t1, t2, rfl, h1, h2⟩ := List.map_eq_append_iff.1 he
 have hlen : t1.length = a.length := by rw [← h1]; simp
 obtain ⟨e1, x, hx⟩ : ∃ e1 x, x0 :: t1 = e1 ++ [x] := ⟨(x0 :: t1).dropLast, (x0 :: t1).getLast (by simp), (List.dropLast_concat_getLast (by simp)).symm⟩
 have hes : x0 :: (t1 ++ t2) = e1 ++ x :: t2 := by
  rw [← List.cons_append, hx]; simp
 have hl : e1.length = t1.length := by have := congrArg List.length hx; simp at this; omega
 refine ⟨e1, x, t2, ⟨hes, ?_, ?_, ?_, ?_⟩, by omega⟩
 ·have : x ∈ x0 :: t1 := by rw [hx]; simp
  rcases List.mem_cons.1 this with rfl | this
  ·exact hlo
  ·exact ha _ (by rw [← h1]; exact List.mem_map_of_mem this)
 ·cases t2 with
  | nil => exact hb
  | cons y t2 => exact hb' _ (by rw [← h2]; simp)
 ·rw [hes, chain_append] at hc
  intro y hy
  have := hc.1.facts.rng y hy
  have hxl : les x.lo key := by
   have : x ∈ x0 :: t1 := by rw [hx]; simp
   rcases List.mem_cons.1 this with rfl | this
   ·exact hlo
   ·exact ha _ (by rw [← h1]; exact List.mem_map_of_mem this)
  exact lts_of_les this hxl
 ·rw [hes, chain_append] at hc
  intro y hy
  have f := hc.2.2.facts
  cases t2 with
  | nil => simp [flatM] at hy
  | cons z t2 =>
   have h3 : lts key z.lo := hb' _ (by rw [← h2]; simp)
   exact lts_of_les h3 (f.low z t2 rfl y hy)
section
variable {es e1 e2 : List Ent} {x : Ent} {key : Str}
theorem Around.get (h : Around es hi key e1 x e2) : get key (flatM es) = get key x.M := by
 rw [h.eq, flatM_append, flatM_cons, get_append, get_none fun y hy => lts_ne (h.ahead y hy), get_append,
  get_none (M := flatM e2) fun y hy e => lts_irrefl key (by have := h.behind y hy; rwa [e] at this)]
 cases Go.Proofs.YtpjfheadolphgaaGreat.get key x.M <;> rfl
theorem Around.ins (h : Around es hi key e1 x e2) (v : Str) : ins key v (flatM es) = flatM e1 ++ (ins key v x.M ++ flatM e2) := by
 rw [h.eq, flatM_append, flatM_cons, ins_left h.ahead, ins_right h.behind]
theorem Around.del (h : Around es hi key e1 x e2) : del key (flatM es) = flatM e1 ++ (del key x.M ++ flatM e2) := by
 rw [h.eq, flatM_append, flatM_cons, del_append, del_append, del_none fun y hy => lts_ne (h.ahead y hy),
  del_none (M := flatM e2) fun y hy e => lts_irrefl key (by have := h.behind y hy; rwa [e] at this)]
end
end
end Go.Proofs.YtpjfheadolphgaaGreat
namespace Go.Proofs.YtpjfheadolphgaaGreat
open Go.RowKit Go.Proofs
set_option maxRecDepth 20000
theorem Ty.str : Elt Tryz.prog 9 (.string ⟨#[]⟩) 1 16 := ⟨by kernel_rfl, rfl, by omega, by omega⟩
theorem Ty.nat : Elt Tryz.prog 3 (.int .i64 0) 1 8 := ⟨by kernel_rfl, rfl, by omega, by omega⟩
theorem Ty.pair : Elt Tryz.prog 83 (.agg #[.string ⟨#[]⟩, .string ⟨#[]⟩]) 2 32 := ⟨by kernel_rfl, rfl, by omega, by omega⟩
def strV (s : Str) : Value := .string ⟨s.toArray⟩
def natV (c : Nat) : Value := .int .i64 (c : Int)
def pairL : List KV → List Value
 | [] => []
 | p :: ps => strV p.1 :: strV p.2 :: pairL ps
theorem pairL_len : ∀ ps : List KV, (pairL ps).length = ps.length * 2
 | [] => rfl
 | p :: ps => by simp [pairL, pairL_len ps]; omega
theorem pairL_append : ∀ a b : List KV, pairL (a ++ b) = pairL a ++ pairL b
 | [], _ => rfl
 | p :: a, b => by simp [pairL, pairL_append a b]
theorem pairL_get : ∀ {ps : List KV} {i : Nat} {p : KV}, ps[i]? = some p → (pairL ps)[i * 2]? = some (strV p.1) ∧ (pairL ps)[i * 2 + 1]? = some (strV p.2)
 | q :: ps, 0, p, h => by simp at h; subst h; simp [pairL]
 | q :: ps, i + 1, p, h => by
  obtain ⟨h1, h2⟩ := pairL_get (ps := ps) (i := i) (p := p) (by simpa using h)
  refine ⟨?_, ?_⟩
  ·rw [show (i + 1) * 2 = i * 2 + 1 + 1 by omega]; simpa [pairL] using h1
  ·rw [show (i + 1) * 2 + 1 = i * 2 + 1 + 1 + 1 by omega]; simpa [pairL] using h2
theorem oneCell_pairs : ∀ (ps : List KV), ∀ u ∈ pairL ps, u.oneCell' = true
 | [], u, hu => by cases hu
 | p :: ps, u, hu => by
  simp only [pairL, List.mem_cons] at hu
  rcases hu with rfl | rfl | hu
  ·rfl
  ·rfl
  ·exact oneCell_pairs ps u hu
theorem oneCell_strs (l : List Str) : ∀ u ∈ l.map strV, u.oneCell' = true := by
 intro u hu; obtain ⟨x, _, rfl⟩ := List.mem_map.1 hu; rfl
theorem oneCell_nats (l : List Nat) : ∀ u ∈ l.map natV, u.oneCell' = true := by
 intro u hu; obtain ⟨x, _, rfl⟩ := List.mem_map.1 hu; rfl
def nodeV (leaf : Bool) (pv kv cv : Value) : Value := .agg #[.bool leaf, pv, kv, cv]
structure NodeR (w : World) (F : Nat → Prop) (pv kv cv : Value) (n : NodeD) : Prop where
 pairs : Rd w F 2 pv n.pairs.length (pairL n.pairs)
 keys : Rd w F 1 kv n.keys.length (n.keys.map strV)
 kids : Rd w F 1 cv n.children.length (n.children.map natV)
structure NodeO (w : World) (F : Nat → Prop) (pv kv cv : Value) (n : NodeD) : Prop where
 pairs : Own w F 83 2 pv n.pairs.length (pairL n.pairs)
 keys : Own w F 9 1 kv n.keys.length (n.keys.map strV)
 kids : Own w F 3 1 cv n.children.length (n.children.map natV)
 apart : ∀ q, kv.ownBlock = some q → cv.ownBlock ≠ some q
section
variable {w w' : World} {F G : Nat → Prop} {pv kv cv : Value} {n : NodeD}
theorem NodeO.r (h : NodeO w F pv kv cv n) : NodeR w F pv kv cv n := ⟨h.pairs.rd, h.keys.rd, h.kids.rd⟩
theorem NodeR.only (h : NodeR w F pv kv cv n) (ho : Only G w w') (hd : ∀ k, F k → ¬ G k) : NodeR w' F pv kv cv n := ⟨h.pairs.only ho hd, h.keys.only ho hd, h.kids.only ho hd⟩
theorem NodeO.only (h : NodeO w F pv kv cv n) (ho : Only G w w') (hd : ∀ k, F k → ¬ G k) : NodeO w' F pv kv cv n := ⟨h.pairs.only ho hd, h.keys.only ho hd, h.kids.only ho hd, h.apart⟩
theorem NodeR.mono (h : NodeR w F pv kv cv n) (hk : ∀ k, F k → k < w.heap.size → G k) : NodeR w G pv kv cv n := ⟨h.pairs.mono hk, h.keys.mono hk, h.kids.mono hk⟩
theorem NodeO.mono (h : NodeO w F pv kv cv n) (hk : ∀ k, F k → k < w.heap.size → G k) : NodeO w G pv kv cv n := ⟨h.pairs.mono hk, h.keys.mono hk, h.kids.mono hk, h.apart⟩
theorem NodeR.quit (h : NodeR w F pv kv cv n) (ho : Only NoB w w') : NodeR w' F pv kv cv n := h.only ho fun _ _ => id
theorem NodeO.quit (h : NodeO w F pv kv cv n) (ho : Only NoB w w') : NodeO w' F pv kv cv n := h.only ho fun _ _ => id
theorem NodeR.shape (h : NodeR w F pv kv cv n) : ∃ pA pc kA kc cA cc, pv = .slice pA n.pairs.length pc ∧ kv = .slice kA n.keys.length kc ∧ cv = .slice cA n.children.length cc := by
 obtain ⟨pA, pc, rfl, _⟩ := h.pairs
 obtain ⟨kA, kc, rfl, _⟩ := h.keys
 obtain ⟨cA, cc, rfl, _⟩ := h.kids
 exact ⟨_, _, _, _, _, _, rfl, rfl, rfl⟩
end
end Go.Proofs.YtpjfheadolphgaaGreat
namespace Go.Proofs.YtpjfheadolphgaaGreat
open Go.RowKit Go.Proofs
set_option maxRecDepth 20000
def CacheR (w : World) (F : Nat → Prop) : List Value → List (Nat × List UInt8) → Prop
 | [], [] => True
 | a :: v :: xs, c :: cs => a = .int .i64 (c.1 : Int) ∧ Bytes w F v c.2 ∧ CacheR w F xs cs
 | _, _ => False
section
variable {w w' : World} {F G : Nat → Prop}
theorem CacheR.keep : ∀ {xs : List Value} {cs : List (Nat × List UInt8)}, CacheR w F xs cs → (∀ k, F k → k < w.heap.size → w'.heap[k]? = w.heap[k]?) → CacheR w' F xs cs
 | [], [], _, _ => trivial
 | _ :: _ :: _, _ :: _, h, hk => ⟨h.1, h.2.1.keep hk, CacheR.keep h.2.2 hk⟩
 | [], _ :: _, h, _ => h.elim
 | [_], [], h, _ => h.elim
 | [_], _ :: _, h, _ => h.elim
 | _ :: _ :: _, [], h, _ => h.elim
theorem CacheR.at_ : ∀ {xs : List Value} {cs : List (Nat × List UInt8)}, CacheR w F xs cs → ∀ {i : Nat} {c : Nat × List UInt8}, cs[i]? = some c → xs[i * 2]? = some (.int .i64 (c.1 : Int)) ∧ ∃ v, xs[i * 2 + 1]? = some v ∧ Bytes w F v c.2
 | [], [], _, i, c, hc => by simp at hc
 | a :: v :: xs, x :: cs, h, 0, c, hc => by
  simp at hc; subst hc
  exact ⟨by simp [h.1], v, by simp, h.2.1⟩
 | a :: v :: xs, x :: cs, h, i + 1, c, hc => by
  obtain ⟨h1, u, h2, h3⟩ := CacheR.at_ h.2.2 (i := i) (c := c) (by simpa using hc)
  refine ⟨?_, u, ?_, h3⟩
  ·rw [show (i + 1) * 2 = i * 2 + 1 + 1 by omega]; simpa using h1
  ·rw [show (i + 1) * 2 + 1 = i * 2 + 1 + 1 + 1 by omega]; simpa using h2
 | [], _ :: _, h, _, _, _ => h.elim
 | [_], [], h, _, _, _ => h.elim
 | [_], _ :: _, h, _, _, _ => h.elim
 | _ :: _ :: _, [], h, _, _, _ => h.elim
end
def DoneR (w : World) (F : Nat → Prop) (D : DD) (f : Int → Option Value) : Prop :=
 ∀ i : Nat, i < D.n → match f i with | none => D.done i = DD.zero D.m | some v => Bytes w F v (D.done i)
def diskCells (D : DD) (bm : Nat) (cv kv : Value) : Array Value :=
 #[.int .i64 (D.n : Int), .int .i64 (D.m : Int), .map (some bm), cv, .bool D.down, .int .i64 (D.left : Int), kv, .int .i64 (D.deeds : Int)]
structure DiskIn (w : World) (R : Nat → Prop) (b : Nat) (D : DD) (bm : Nat) (cv kv : Value) (xs : List Value) (f : Int → Option Value) : Prop where
 wf : D.Wf
 rb : ¬ R b
 rm : ¬ R bm
 rc : ∀ g, cv.ownBlock = some g → ¬ R g
 lt : ∀ k, R k → k < w.heap.size
 blk : Blk w b 233 (diskCells D bm cv kv)
 own : w.ownsRow 0 313 2 cv D.cache.length xs
 cache : CacheR w R xs D.cache
 map : IMap w bm f
 done : DoneR w R D f
 kept : Bools w R kv D.keep
 left : D.left < 9223372036854775808
 cap : D.cache.length < 1000000000
 deeds : D.deeds < 1000000000
def diskF (R : Nat → Prop) (b bm : Nat) (cv : Value) : Nat → Prop := fun k => R k ∨ k = b ∨ k = bm ∨ cv.ownBlock = some k
def DiskAt (w : World) (F : Nat → Prop) (b : Nat) (D : DD) : Prop :=
 (∀ k, F k → k < w.heap.size) ∧ ∃ R bm cv kv xs f, DiskIn w R b D bm cv kv xs f ∧ ∀ k, diskF R b bm cv k → F k
theorem DoneR.keep {w w' : World} {F : Nat → Prop} {D : DD} {f : Int → Option Value} (h : DoneR w F D f) (hk : ∀ k, F k → k < w.heap.size → w'.heap[k]? = w.heap[k]?) : DoneR w' F D f := by
 intro i hi
 have := h i hi
 cases hf : f i with
 | none => rw [hf] at this; simpa [hf] using this
 | some v => rw [hf] at this; exact Rd.keep this hk
theorem ownsRow_keep {w w' : World} {e : TypeId} {size n : Nat} {v : Value} {xs : List Value} (h : w.ownsRow 0 e size v n xs) (hk : ∀ k, v.ownBlock = some k → w'.heap[k]? = w.heap[k]?) : w'.ownsRow 0 e size v n xs := by
 refine ⟨h.1, ?_⟩
 rcases h.2 with h0 | ⟨g, cap, cur, rfl, hb, hg, r⟩
 ·exact .inl h0
 ·exact .inr ⟨g, cap, cur, rfl, hb, (hk g rfl).trans hg, r⟩
section
variable {w w' : World} {F G R : Nat → Prop} {b bm : Nat} {D : DD} {cv kv : Value} {xs : List Value} {f : Int → Option Value}
theorem DiskIn.ltF (h : DiskIn w R b D bm cv kv xs f) : ∀ k, diskF R b bm cv k → k < w.heap.size := by
 rintro k (hk | rfl | rfl | hk)
 ·exact h.lt k hk
 ·exact h.blk.lt
 ·exact h.map.lt
 ·exact (h.own.lt k hk).2
theorem DiskIn.keep (h : DiskIn w R b D bm cv kv xs f) (hs : w.heap.size ≤ w'.heap.size) (hk : ∀ k, diskF R b bm cv k → w'.heap[k]? = w.heap[k]?) : DiskIn w' R b D bm cv kv xs f :=
 ⟨h.wf, h.rb, h.rm, h.rc, fun k hF => Nat.lt_of_lt_of_le (h.lt k hF) hs, (hk b (.inr (.inl rfl))).trans h.blk, ownsRow_keep h.own fun k hg => hk k (.inr (.inr (.inr hg))), h.cache.keep fun k hF _ => hk k (.inl hF), h.map.keep (hk bm (.inr (.inr (.inl rfl)))), h.done.keep fun k hF _ => hk k (.inl hF), Rd.keep h.kept fun k hF _ => hk k (.inl hF), h.left, h.cap, h.deeds⟩
theorem DiskAt.keep (h : DiskAt w F b D) (hs : w.heap.size ≤ w'.heap.size) (hk : ∀ k, F k → w'.heap[k]? = w.heap[k]?) : DiskAt w' F b D := by
 obtain ⟨hl, R, bm, cv, kv, xs, f, h, hF⟩ := h
 exact ⟨fun k hk => Nat.lt_of_lt_of_le (hl k hk) hs, R, bm, cv, kv, xs, f, h.keep hs fun k hd => hk k (hF k hd), hF⟩
theorem DiskAt.wf (h : DiskAt w F b D) : D.Wf := by obtain ⟨hl, R, bm, cv, kv, xs, f, h, hF⟩ := h; exact h.wf
theorem DiskAt.only (h : DiskAt w F b D) (ho : Only G w w') (hd : ∀ k, F k → ¬ G k) : DiskAt w' F b D :=
 h.keep ho.size fun k hF => ho.block k (h.1 k hF) (hd k hF)
theorem DiskIn.cell (h : DiskIn w R b D bm cv kv xs f) (i : Nat) (v : Value) (hi : (diskCells D bm cv kv)[i]? = some v) : w.cell? ⟨b, i, none⟩ = some v := by rw [h.blk.cell, hi]
end
end Go.Proofs.YtpjfheadolphgaaGreat
namespace Go.Proofs.YtpjfheadolphgaaGreat
open Go.RowKit Go.Proofs
set_option maxRecDepth 20000
theorem Ty.change : Elt Tryz.prog 313 (.agg #[.int .i64 0, .slice none 0 0]) 2 32 := ⟨by kernel_rfl, rfl, by omega, by omega⟩
theorem Ty.byte : Elt Tryz.prog 5 (.int .u8 0) 1 1 := ⟨by kernel_rfl, rfl, by omega, by omega⟩
theorem Ty.byteSize : (Tryz.prog.info? 5).map (·.size) = some 1 := by kernel_rfl
theorem Ty.bytesU : Tryz.prog.underlying 162 = some (.slice 5) := by kernel_rfl
theorem Ty.bool : Elt Tryz.prog 4 (.bool false) 1 1 := ⟨by kernel_rfl, rfl, by omega, by omega⟩
section
variable {w w' w2 : World} {F G R : Nat → Prop} {b bm : Nat} {D : DD} {cv kv : Value} {xs : List Value} {f : Int → Option Value}
end
end Go.Proofs.YtpjfheadolphgaaGreat
namespace Go.Proofs.YtpjfheadolphgaaGreat
open Go.RowKit Go.Proofs
set_option maxRecDepth 20000
def Quit (w : World) (v : Value) (e : Ending) (w' : World) : Prop := e = .returned v ∧ Only NoB w w'
section
variable {R F : Nat → Prop} {b bm : Nat} {D : DD} {cv kv : Value} {xs : List Value} {f : Int → Option Value} {w : World}
theorem ready_down (h : DiskIn w R b D bm cv kv xs f) (hd : D.down = true) : Calls Tryz.prog 253 #[.pointer (some ⟨b, 0, none⟩)] w fun e w' => e = .returned (.int .i64 50) ∧ w = w' := by
 have h4 : w.cell? ⟨b, 4, none⟩ = some (.bool true) := h.cell 4 _ (by rw [← hd]; rfl)
 clear h hd
 go_enter Tryz.func253, Tryz.ntmps253
 go_wp2
 all_goals (go_ret; exact ⟨rfl, rfl⟩)
theorem ready_up (h : DiskIn w R b D bm cv kv xs f) (hd : D.down = false) : Calls Tryz.prog 253 #[.pointer (some ⟨b, 0, none⟩)] w fun e w' => e = .returned (.int .i64 0) ∧ w = w' := by
 have h4 : w.cell? ⟨b, 4, none⟩ = some (.bool false) := h.cell 4 _ (by rw [← hd]; rfl)
 clear h hd
 go_enter Tryz.func253, Tryz.ntmps253
 go_wp2
 all_goals (go_ret; exact ⟨rfl, rfl⟩)
theorem size_any (h : DiskAt w F b D) : Calls Tryz.prog 161 #[.pointer (some ⟨b, 0, none⟩)] w fun e w' => e = .returned (.tuple #[.int .i64 D.n, .int .i64 D.m]) ∧ w' = w.drew := by
 obtain ⟨_, R, bm, cv, kv, xs, f, h, _⟩ := h
 have h0 : w.cell? ⟨b, 0, none⟩ = some (.int .i64 D.n) := h.cell 0 _ rfl
 have h1 : w.cell? ⟨b, 1, none⟩ = some (.int .i64 D.m) := h.cell 1 _ rfl
 clear h
 go_enter Tryz.func161, Tryz.ntmps161
 go_wp2
 go_region
 all_goals go_wp2
 all_goals (go_ret2; exact ⟨rfl, rfl⟩)
end
end Go.Proofs.YtpjfheadolphgaaGreat
namespace Go.Proofs.YtpjfheadolphgaaGreat
open Go.RowKit Go.Proofs
set_option maxRecDepth 20000
section
variable {w w' : World} {F G : Nat → Prop} {pv kv cv : Value} {n : NodeD}
theorem within_any (a b c : Int) (w : World) : Calls Tryz.prog 241 #[.int .i64 a, .int .i64 b, .int .i64 c] w fun e w' => e = .returned (.bool (decide (b ≤ a ∧ a ≤ c))) ∧ w = w' := by
 obtain ⟨z, hz⟩ : ∃ z, z = decide (b ≤ a ∧ a ≤ c) := ⟨_, rfl⟩
 rw [← hz]
 by_cases h1 : b ≤ a
 ·by_cases h2 : a ≤ c
  ·obtain rfl : z = true := by rw [hz]; simp [h1, h2]
   clear hz
   go_enter Tryz.func241, Tryz.ntmps241
   go_wp2
   go_ret
   exact ⟨rfl, rfl⟩
  ·obtain rfl : z = false := by rw [hz]; simp [h2]
   clear hz
   go_enter Tryz.func241, Tryz.ntmps241
   go_wp2
   go_ret
   exact ⟨rfl, rfl⟩
 ·obtain rfl : z = false := by rw [hz]; simp [h1]
  clear hz
  go_enter Tryz.func241, Tryz.ntmps241
  go_wp2
  go_ret
  exact ⟨rfl, rfl⟩
theorem within_yes {a b c : Int} (h : b ≤ a ∧ a ≤ c) (w : World) : Calls Tryz.prog 241 #[.int .i64 a, .int .i64 b, .int .i64 c] w fun e w' => e = .returned (.bool true) ∧ w = w' := by
 have := within_any a b c w
 rwa [decide_eq_true h] at this
theorem most_ok (m : Nat) (h1 : 64 ≤ m) (h2 : m ≤ 4096) (w : World) : Calls Tryz.prog 220 #[.int .i64 m] w fun e w' => e = .returned (.tuple #[.int .i64 (NodeD.most m : Int), .int .i64 0]) ∧ w = w' := by
 have HM : Hid (((m : Int) - 16) / 4 - 4 = (NodeD.most m : Int)) := Lib.hid (by unfold NodeD.most; omega)
 go_enter Tryz.func220, Tryz.ntmps220
 go_wp2_with fail
 refine (within_yes (by omega) _).mono ?_
 rintro e w1 ⟨rfl, rfl⟩
 go_wp2_with fail
 go_ret2
 rw [HM.out]
 exact ⟨rfl, rfl⟩
theorem vint {k : IntKind} {a b : Int} (h : a = b) : Value.int k a = Value.int k b := by rw [h]
theorem sizeP_take (ps : List KV) {k : Nat} (h : k < ps.length) : NodeD.sizeP (ps.take (k + 1)) = NodeD.sizeP (ps.take k) + (2 + ps[k].1.length + ps[k].2.length) := by
 rw [List.take_succ_eq_append_getElem h, NodeD.sizeP_append]
 simp [NodeD.sizeP]
theorem sizeK_take (ks : List Str) {k : Nat} (h : k < ks.length) : NodeD.sizeK (ks.take (k + 1)) = NodeD.sizeK (ks.take k) + (1 + ks[k].length) := by
 rw [List.take_succ_eq_append_getElem h, NodeD.sizeK_append]
 simp [NodeD.sizeK]
theorem sizeP_ge : ∀ ps : List KV, 2 * ps.length ≤ NodeD.sizeP ps
 | [] => by simp
 | p :: ps => by have := sizeP_ge ps; rw [NodeD.sizeP, List.length_cons]; omega
theorem sizeK_ge : ∀ ks : List Str, ks.length ≤ NodeD.sizeK ks
 | [] => by simp
 | k :: ks => by have := sizeK_ge ks; rw [NodeD.sizeK, List.length_cons]; omega
theorem sizeP_le (ps : List KV) (k : Nat) : NodeD.sizeP (ps.take k) ≤ NodeD.sizeP ps := by
 have := NodeD.sizeP_append (ps.take k) (ps.drop k)
 rw [List.take_append_drop] at this
 omega
theorem sizeK_le (ks : List Str) (k : Nat) : NodeD.sizeK (ks.take k) ≤ NodeD.sizeK ks := by
 have := NodeD.sizeK_append (ks.take k) (ks.drop k)
 rw [List.take_append_drop] at this
 omega
set_option maxHeartbeats 1000000 in
theorem nsize_any (h : NodeR w F pv kv cv n) (hb : n.size ≤ 1000000000) : Calls Tryz.prog 242 #[nodeV n.leaf pv kv cv] w (Quit w (.int .i64 n.size)) := by
 have H := Lib.hid h
 obtain ⟨pA, pc, kA, kc, cA, cc, rfl, rfl, rfl⟩ := h.shape
 obtain ⟨s, hs⟩ : ∃ s, s = n.size := ⟨_, rfl⟩
 have hsz : 3 + 3 * n.children.length + NodeD.sizeP n.pairs + NodeD.sizeK n.keys ≤ 1000000000 := hb
 have HSZ : Hid (s = 3 + 3 * n.children.length + NodeD.sizeP n.pairs + NodeD.sizeK n.keys) := Lib.hid hs
 rw [← hs]
 obtain ⟨ps, hps⟩ : ∃ ps, ps = n.pairs := ⟨_, rfl⟩
 obtain ⟨ks, hks⟩ : ∃ ks, ks = n.keys := ⟨_, rfl⟩
 obtain ⟨cl, hcl⟩ : ∃ cl, cl = n.children.length := ⟨_, rfl⟩
 obtain ⟨lf, hlf⟩ : ∃ lf, lf = n.leaf := ⟨_, rfl⟩
 have HP := Lib.hid h.pairs
 have HK := Lib.hid h.keys
 rw [← hps] at HP HSZ hsz
 rw [← hks] at HK HSZ hsz
 rw [← hcl] at HSZ hsz
 rw [← hps, ← hks, ← hcl, ← hlf]
 have hpl := sizeP_ge ps
 have hkl := sizeK_ge ks
 have hpl2 : ps.length ≤ 1000000000 := by omega
 have hkl2 : ks.length ≤ 1000000000 := by omega
 clear h hs H hps hks hcl hlf hb
 obtain ⟨W0, hW0⟩ : ∃ W0, W0 = w.alloc (.cells #[.bool lf, .slice pA ps.length pc, .slice kA ks.length kc, .slice cA cl cc] 200) := ⟨_, rfl⟩
 have HW0 := Lib.hid hW0
 have CB : Hid (W0.cell? ⟨w.heap.size, 2, none⟩ = some (.slice kA ks.length kc)) := Lib.hid (by rw [hW0]; exact (Blk.new w _ _).cell 2)
 have HW1 : Hid (Only NoB w W0) := Lib.hid (by rw [hW0]; exact (Only.refl NoB w).alloc _)
 clear hW0
 unfold nodeV
 go_enter Tryz.func242, Tryz.ntmps242
 go_wp2_with fail
 go_loopw [3, 16] (fun o i wr => ∃ k : Nat, k ≤ ps.length ∧ i = .int .i64 k ∧ o = .int .i64 ((3 + 3 * cl + NodeD.sizeP (ps.take k) : Nat) : Int) ∧ Only NoB W0 wr) (fun _ i _ => ps.length - (intOf i).toNat)
 case atStart => exact ⟨0, Nat.zero_le _, rfl, by simp [NodeD.sizeP], by rw [HW0.out]; exact Only.refl NoB _⟩
 case round =>
  obtain ⟨k, hk, rfl, rfl, ho⟩ := hrel
  have HO := Lib.hid ho
  have hle := sizeP_le ps k
  obtain ⟨x, hx⟩ : ∃ x, x = NodeD.sizeP (ps.take k) := ⟨_, rfl⟩
  rw [← hx] at hle ⊢
  have HX := Lib.hid hx
  clear ho hx
  by_cases hlt : k < ps.length
  ·have hst := sizeP_take ps hlt
   have hle2 := sizeP_le ps (k + 1)
   obtain ⟨g, off, c, hve, _, _, hcell⟩ := HP.out.open_ (by omega)
   injection hve with q1 q2 q3
   subst q1; subst q3
   obtain ⟨p1, p2⟩ := pairL_get (List.getElem?_eq_getElem hlt)
   have c1 := (HW1.out.trans HO.out).cell (hcell _ _ p1) id
   have c2 := (HW1.out.trans HO.out).cell (hcell _ _ p2) id
   obtain ⟨⟨a, b⟩, hab⟩ : ∃ q, q = ps[k] := ⟨_, rfl⟩
   rw [← hab] at c1 c2 hst
   simp only at hst
   rw [← HX.out] at hst
   rw [hst] at hle2
   unfold strV at c1 c2
   have HST := Lib.hid hst
   rw [← Nat.add_assoc] at c2
   clear hcell p1 p2 q2 hst hab
   go_wp2_with fail
   exact ⟨⟨k + 1, by omega, by go_num, by rw [HST.out]; exact vint (by omega), HO.out.alloc _⟩, by simp [intOf]; omega⟩
  ·obtain rfl : k = ps.length := by omega
   have cb := HO.out.cell CB.out id
   rw [List.take_length] at HX
   go_wp2_with fail
   clear cb
   go_loopw [3, 34] (fun o i wr => ∃ k : Nat, k ≤ ks.length ∧ i = .int .i64 k ∧ o = .int .i64 ((3 + 3 * cl + x + NodeD.sizeK (ks.take k) : Nat) : Int) ∧ Only NoB W0 wr) (fun _ i _ => ks.length - (intOf i).toNat)
   case atStart => exact ⟨0, Nat.zero_le _, rfl, vint (by simp [NodeD.sizeK]), HO.out⟩
   case round =>
    obtain ⟨k, hk, rfl, rfl, ho⟩ := hrel
    have HO := Lib.hid ho
    have hle := sizeK_le ks k
    obtain ⟨y, hy⟩ : ∃ y, y = NodeD.sizeK (ks.take k) := ⟨_, rfl⟩
    rw [← hy] at hle ⊢
    have HY := Lib.hid hy
    clear ho hy
    by_cases hlt : k < ks.length
    ·have hst := sizeK_take ks hlt
     have hle2 := sizeK_le ks (k + 1)
     obtain ⟨g, off, c, hve, _, _, hcell⟩ := HK.out.open_ (by omega)
     injection hve with q1 q2 q3
     subst q1; subst q3
     have c1 := (HW1.out.trans HO.out).cell (hcell k (strV ks[k]) (by rw [List.getElem?_map, List.getElem?_eq_getElem hlt]; rfl)) id
     obtain ⟨a, hab⟩ : ∃ q, q = ks[k] := ⟨_, rfl⟩
     rw [← hab] at c1 hst
     rw [← HY.out] at hst
     rw [hst] at hle2
     unfold strV at c1
     have HST := Lib.hid hst
     clear hcell q2 hst hab
     go_wp2_with fail
     exact ⟨⟨k + 1, by omega, by go_num, by rw [HST.out]; exact vint (by omega), HO.out⟩, by simp [intOf]; omega⟩
    ·obtain rfl : k = ks.length := by omega
     rw [List.take_length] at HY
     have HE : Hid ((3 + 3 * cl + x + y : Nat) = s) := Lib.hid (by rw [HSZ.out, HX.out, HY.out])
     go_wp2_with fail
     go_ret
     rw [← HE.out]
     exact ⟨by congr 1, HW1.out.trans HO.out⟩
end
end Go.Proofs.YtpjfheadolphgaaGreat
namespace Go.Proofs.YtpjfheadolphgaaGreat
open Go.RowKit Go.Proofs
set_option maxRecDepth 20000
section
variable {w w' : World} {F G : Nat → Prop} {pv kv cv : Value} {n : NodeD}
set_option maxHeartbeats 1000000 in
theorem rise_ok (v : Value) (ks : List Str) (hv : Rd w F 1 v ks.length (ks.map strV)) (h1 : ks.Pairwise lts) (h2 : ∀ k ∈ ks, 1 ≤ k.length ∧ k.length ≤ 255) (hl : ks.length ≤ 1000000) :
  Calls Tryz.prog 237 #[v] w fun e w' => e = .returned (.bool true) ∧ w = w' := by
 obtain ⟨A, c, rfl, _⟩ := id hv
 have HV := Lib.hid hv
 have H1 := Lib.hid h1
 have H2 := Lib.hid h2
 clear hv h1 h2
 go_enter Tryz.func237, Tryz.ntmps237
 go_wp2_with fail
 go_loop [7] (fun i => ∃ k : Nat, k ≤ ks.length ∧ i = .int .i64 k) (fun i => ks.length - (intOf i).toNat)
 case atStart => exact ⟨0, Nat.zero_le _, rfl⟩
 case round =>
  obtain ⟨k, hk, rfl⟩ := hrel
  by_cases hlt : k < ks.length
  ·obtain ⟨g, off, c', hve, _, _, hcell⟩ := HV.out.open_ (by omega)
   injection hve with q1 q2 q3
   subst q1; subst q3
   have c1 := hcell k (strV ks[k]) (by rw [List.getElem?_map, List.getElem?_eq_getElem hlt]; rfl)
   have hb := H2.out ks[k] (List.getElem_mem hlt)
   obtain ⟨a, hab⟩ : ∃ q, q = ks[k] := ⟨_, rfl⟩
   rw [← hab] at c1 hb
   unfold strV at c1
   rcases k with _ | k
   ·rw [Nat.add_zero] at c1
    clear hcell q2 hab
    go_wp2_with fail
    refine (within_yes (by omega) _).mono ?_
    rintro e w1 ⟨rfl, rfl⟩
    go_wp2_with fail
    exact ⟨⟨1, by omega, by go_num⟩, by simp [intOf]; omega⟩
   ·have c2 := hcell k (strV ks[k]) (by rw [List.getElem?_map, List.getElem?_eq_getElem (by omega)]; rfl)
    have hlt2 : lts ks[k] ks[k + 1] := List.pairwise_iff_getElem.1 H1.out k (k + 1) (by omega) hlt (by omega)
    rw [← hab] at hlt2
    obtain ⟨b, hbb⟩ : ∃ q, q = ks[k] := ⟨_, rfl⟩
    rw [← hbb] at c2 hlt2
    unfold strV at c2
    unfold lts at hlt2
    clear hcell q2 hab hbb
    go_wp2_with fail
    refine (within_yes (by omega) _).mono ?_
    rintro e w1 ⟨rfl, rfl⟩
    go_wp2_with fail
    exact ⟨⟨k + 1 + 1, by omega, by go_num⟩, by simp [intOf]; omega⟩
  ·go_wp2_with fail
   go_ret
   exact ⟨rfl, rfl⟩
theorem long_no (s : Str) (b : Nat) (room : Nat) (hc : w.cell? ⟨b, 0, none⟩ = some (.int .i64 room)) (hs : s.length ≤ room) (hr : room ≤ 1000000) :
  Calls Tryz.prog 238 #[.string ⟨s.toArray⟩, .pointer (some ⟨b, 0, none⟩)] w fun e w' => e = .returned (.bool false) ∧ w = w' := by
 have hd : decide (room < s.length) = false := by simp; omega
 go_enter Tryz.func238, Tryz.ntmps238
 go_wp2
 go_ret
 exact ⟨rfl, rfl⟩
theorem child_no (c : Nat) (h : 1 ≤ c ∧ c < 16777216) (w : World) : Calls Tryz.prog 240 #[.int .i64 c] w fun e w' => e = .returned (.bool false) ∧ w = w' := by
 go_enter Tryz.func240, Tryz.ntmps240
 go_wp2_with fail
 refine (within_yes (by omega) _).mono ?_
 rintro e w1 ⟨rfl, rfl⟩
 go_wp2_with fail
 go_ret
 exact ⟨rfl, rfl⟩
set_option maxHeartbeats 1000000 in
theorem indexS_none (v : Value) (ks : List Str) (hv : Rd w F 1 v ks.length (ks.map strV)) (b room : Nat) (hc : w.cell? ⟨b, 0, none⟩ = some (.int .i64 room)) (h2 : ∀ k ∈ ks, k.length ≤ room) (hr : room ≤ 1000000) (hl : ks.length ≤ 1000000) :
  Calls Tryz.prog 219 #[v, .func (.func 238) #[] #[.pointer (some ⟨b, 0, none⟩)]] w fun e w' => e = .returned (.int .i64 (-1)) ∧ w = w' := by
 obtain ⟨A, c, rfl, _⟩ := id hv
 have HV := Lib.hid hv
 have HN : Hid (∀ k (hk : k < ks.length), Calls Tryz.prog 238 #[.string ⟨(ks[k]).toArray⟩, .pointer (some ⟨b, 0, none⟩)] w fun e w' => e = .returned (.bool false) ∧ w = w') := Lib.hid fun k hk => long_no _ b room hc (h2 _ (List.getElem_mem hk)) hr
 clear hv h2 hc
 go_enter Tryz.func219, Tryz.ntmps219
 go_wp2_with fail
 go_loop [8] (fun i => ∃ k : Nat, k ≤ ks.length ∧ i = .int .i64 k) (fun i => ks.length - (intOf i).toNat)
 case atStart => exact ⟨0, Nat.zero_le _, rfl⟩
 case round =>
  obtain ⟨k, hk, rfl⟩ := hrel
  by_cases hlt : k < ks.length
  ·obtain ⟨g, off, c', hve, _, _, hcell⟩ := HV.out.open_ (by omega)
   injection hve with q1 q2 q3
   subst q1; subst q3
   have c1 := hcell k (strV ks[k]) (by rw [List.getElem?_map, List.getElem?_eq_getElem hlt]; rfl)
   have hn := HN.out k hlt
   obtain ⟨a, hab⟩ : ∃ q, q = ks[k] := ⟨_, rfl⟩
   rw [← hab] at c1 hn
   unfold strV at c1
   have HNN := Lib.hid hn
   clear hcell q2 hab hn
   go_wp2_with fail
   refine HNN.out.mono ?_
   rintro e w1 ⟨rfl, rfl⟩
   go_wp2_with fail
   exact ⟨⟨k + 1, by omega, by go_num⟩, by simp [intOf]; omega⟩
  ·go_wp2_with fail
   go_ret
   exact ⟨rfl, rfl⟩
theorem containsS_none (v : Value) (ks : List Str) (hv : Rd w F 1 v ks.length (ks.map strV)) (b room : Nat) (hc : w.cell? ⟨b, 0, none⟩ = some (.int .i64 room)) (h2 : ∀ k ∈ ks, k.length ≤ room) (hr : room ≤ 1000000) (hl : ks.length ≤ 1000000) :
  Calls Tryz.prog 130 #[v, .func (.func 238) #[] #[.pointer (some ⟨b, 0, none⟩)]] w fun e w' => e = .returned (.bool false) ∧ w = w' := by
 have HI := Lib.hid (indexS_none v ks hv b room hc h2 hr hl)
 obtain ⟨A, c, rfl, _⟩ := id hv
 clear hv hc h2
 go_enter Tryz.func130, Tryz.ntmps130
 go_wp2_with fail
 refine HI.out.mono ?_
 rintro e w1 ⟨rfl, rfl⟩
 go_wp2_with fail
 go_ret
 exact ⟨rfl, rfl⟩
set_option maxHeartbeats 1000000 in
theorem indexI_none (v : Value) (cs : List Nat) (hv : Rd w F 1 v cs.length (cs.map natV)) (h2 : ∀ k ∈ cs, 1 ≤ k ∧ k < 16777216) (hl : cs.length ≤ 1000000) :
  Calls Tryz.prog 294 #[v, .func (.func 240) #[] #[]] w fun e w' => e = .returned (.int .i64 (-1)) ∧ w = w' := by
 obtain ⟨A, c, rfl, _⟩ := id hv
 have HV := Lib.hid hv
 have HN : Hid (∀ k (hk : k < cs.length), Calls Tryz.prog 240 #[.int .i64 cs[k]] w fun e w' => e = .returned (.bool false) ∧ w = w') := Lib.hid fun k hk => child_no _ (h2 _ (List.getElem_mem hk)) w
 clear hv h2
 go_enter Tryz.func294, Tryz.ntmps294
 go_wp2_with fail
 go_loop [8] (fun i => ∃ k : Nat, k ≤ cs.length ∧ i = .int .i64 k) (fun i => cs.length - (intOf i).toNat)
 case atStart => exact ⟨0, Nat.zero_le _, rfl⟩
 case round =>
  obtain ⟨k, hk, rfl⟩ := hrel
  by_cases hlt : k < cs.length
  ·obtain ⟨g, off, c', hve, _, _, hcell⟩ := HV.out.open_ (by omega)
   injection hve with q1 q2 q3
   subst q1; subst q3
   have c1 := hcell k (natV cs[k]) (by rw [List.getElem?_map, List.getElem?_eq_getElem hlt]; rfl)
   have hn := HN.out k hlt
   obtain ⟨a, hab⟩ : ∃ q, q = cs[k] := ⟨_, rfl⟩
   rw [← hab] at c1 hn
   unfold natV at c1
   have HNN := Lib.hid hn
   clear hcell q2 hab hn
   go_wp2_with fail
   refine HNN.out.mono ?_
   rintro e w1 ⟨rfl, rfl⟩
   go_wp2_with fail
   exact ⟨⟨k + 1, by omega, by go_num⟩, by simp [intOf]; omega⟩
  ·go_wp2_with fail
   go_ret
   exact ⟨rfl, rfl⟩
theorem containsI_none (v : Value) (cs : List Nat) (hv : Rd w F 1 v cs.length (cs.map natV)) (h2 : ∀ k ∈ cs, 1 ≤ k ∧ k < 16777216) (hl : cs.length ≤ 1000000) :
  Calls Tryz.prog 239 #[v, .func (.func 240) #[] #[]] w fun e w' => e = .returned (.bool false) ∧ w = w' := by
 have HI := Lib.hid (indexI_none v cs hv h2 hl)
 obtain ⟨A, c, rfl, _⟩ := id hv
 clear hv h2
 go_enter Tryz.func239, Tryz.ntmps239
 go_wp2_with fail
 refine HI.out.mono ?_
 rintro e w1 ⟨rfl, rfl⟩
 go_wp2_with fail
 go_ret
 exact ⟨rfl, rfl⟩
end
end Go.Proofs.YtpjfheadolphgaaGreat
namespace Go.Proofs.YtpjfheadolphgaaGreat
open Go.RowKit Go.Proofs
set_option maxRecDepth 20000
def isNilS : Value → Bool
 | .slice none _ _ => true
 | _ => false
def Cloned (w : World) (size n : Nat) (xs : List Value) (v : Value) (e : Ending) (w' : World) : Prop :=
 ∃ v', e = .returned v' ∧ Rd w' (From w.heap.size) size v' n xs ∧ Only NoB w w' ∧ isNilS v' = isNilS v ∧ (∀ g, v'.ownBlock = some g → w.heap.size ≤ g)
def Soft (w : World) (k : Nat) : Prop := ∃ cs t, w.heap[k]? = some (.cells cs t (0, 0))
def Fresh (w w' : World) : Nat → Prop := fun k => w.heap.size ≤ k ∧ Soft w' k
theorem Own.soft {w : World} {F : Nat → Prop} {e size : Nat} {v : Value} {n : Nat} {xs : List Value} (h : Own w F e size v n xs) : Rd w (fun k => F k ∧ Soft w k) size v n xs :=
 Rd.own h.1 fun g hg => ⟨h.2 g hg, by
  rcases h.1.2 with ⟨rfl, _⟩ | ⟨g', cap, cur, rfl, _, hh, _⟩
  ·cases hg
  ·injection hg with hg
   subst hg
   exact ⟨cur, _, hh⟩⟩
def Cloned2 (w : World) (size n : Nat) (xs : List Value) (v : Value) (e : Ending) (w' : World) : Prop :=
 ∃ v', e = .returned v' ∧ Rd w' (Fresh w w') size v' n xs ∧ Only NoB w w' ∧ isNilS v' = isNilS v ∧ (∀ g, v'.ownBlock = some g → w.heap.size ≤ g)
theorem Cloned2.cloned {w : World} {size n : Nat} {xs : List Value} {v : Value} {e : Ending} {w' : World} (h : Cloned2 w size n xs v e w') : Cloned w size n xs v e w' := by
 obtain ⟨v', he, hr, h⟩ := h
 exact ⟨v', he, hr.mono fun k hk _ => hk.1, h⟩
theorem own_empty (w : World) (e size : Nat) : Own (w.alloc (.cells #[] e)) (From w.heap.size) e size (.slice (some ⟨w.heap.size, 0, none⟩) 0 0) 0 [] :=
 ⟨World.ownsRow_made w #[] 0 (Nat.zero_le _) (by simp [maxLen]) (by simp), fun g hg => by injection hg with hg; subst hg; exact Nat.le_refl _⟩
section
variable {R F : Nat → Prop} {b bm : Nat} {D : DD} {cv kv : Value} {xs : List Value} {f : Int → Option Value} {w : World}
theorem App.cloned {e size n : Nat} {A : Addr} {c : Nat} {news : List Value} {v' : Value} {w' : World}
  (h : App (w.alloc (.cells #[] e)) (From w.heap.size) e size (.slice (some ⟨w.heap.size, 0, none⟩) 0 0) 0 n [] news v' w') : Cloned2 w size n news (.slice (some A) n c) (.returned v') w' := by
 have hon : ∀ g, v'.ownBlock = some g → w.heap.size ≤ g := by
  intro g hg
  rcases h.lies with h1 | h1
  ·rw [h1] at hg; injection hg with hg; subst hg; exact Nat.le_refl _
  ·rw [h1] at hg; injection hg with hg; subst hg; simp
 refine ⟨v', rfl, ?_, ?_, ?_, hon⟩
 ·have := h.own.soft
  simp only [Nat.zero_add, List.nil_append] at this
  refine this.mono fun k hk _ => ⟨?_, hk.2⟩
  rcases hk.1 with hk | rfl
  ·exact hk
  ·simp
 ·refine ((Only.refl NoB w).alloc (.cells #[] e)).trans' h.only fun i hi he => ?_
  injection he with he
  simp at he
  omega
 ·obtain ⟨A', c', rfl, _⟩ := h.shape
  cases A' with
  | none =>
   exfalso
   rcases h.lies with h1 | h1 <;> simp [Value.ownBlock] at h1
  | some _ => rfl
set_option maxHeartbeats 400000 in
theorem clone_byte2 (K : Nat → Prop) (v : Value) (n : Nat) (xs : List Value) (hv : Rd w K 1 v n xs) (h1 : ∀ u ∈ xs, u.oneCell' = true) (hl : n ≤ 1000000000) :
  Calls Tryz.prog 235 #[v] w (Cloned2 w 1 n xs v) := by
 obtain ⟨A, c, rfl, hc, hn, hcell⟩ := id hv
 have hnil := fun (w : World) => Lib.run_eql_slice_nil (P := Tryz.prog) w 162 5 A n c 0 0 (by kernel_rfl)
 have H1 := Lib.hid h1
 have HV := Lib.hid (Rd.keep (w' := w.alloc (.cells #[] 5)) hv fun k _ hlt => Below.heap_alloc _ _ _ hlt)
 cases A with
 | none =>
  have h0 : n = 0 := by
   rcases Nat.eq_zero_or_pos n with h | h
   ·exact h
   ·obtain ⟨ad, h, _⟩ := hcell (by omega); cases h
  subst h0
  obtain rfl : xs = [] := List.eq_nil_of_length_eq_zero (by simpa using hn)
  clear hcell hv HV H1 h1
  simp only [Option.isNone_none] at hnil
  go_enter Tryz.func235, Tryz.ntmps235
  go_wp2_with fail
  go_ret
  exact ⟨_, rfl, Rd.nil _ _ _, Only.refl _ _, rfl, fun g hg => by cases hg⟩
 | some ad =>
  clear hcell hv h1
  simp only [Option.isNone_some] at hnil
  go_enter Tryz.func235, Tryz.ntmps235
  go_wp2_with (at_builtin; refine wpList_app rfl _ _ _ rfl (by kernel_rfl) Ty.byte rfl rfl (own_empty _ _ _) HV.out H1.out (by omega) ?_; intro v' w' ha; have HA := Lib.hid ha; clear ha)
  go_ret
  exact HA.out.cloned
theorem clone_byte (K : Nat → Prop) (v : Value) (n : Nat) (xs : List Value) (hv : Rd w K 1 v n xs) (h1 : ∀ u ∈ xs, u.oneCell' = true) (hl : n ≤ 1000000000) :
  Calls Tryz.prog 235 #[v] w (Cloned w 1 n xs v) := (clone_byte2 K v n xs hv h1 hl).mono fun _ _ h => h.cloned
end
end Go.Proofs.YtpjfheadolphgaaGreat
namespace Go.Proofs.YtpjfheadolphgaaGreat
open Go.RowKit Go.Proofs
set_option maxRecDepth 20000
section
variable {R F : Nat → Prop} {b bm : Nat} {D : DD} {cv kv : Value} {xs : List Value} {f : Int → Option Value} {w w' : World}
def News (w w' : World) : Nat → Prop := fun k => w.heap.size ≤ k ∧ k < w'.heap.size
theorem Rd.news {G : Nat → Prop} {size n : Nat} {v : Value} {ys : List Value} (h : Rd w' (From w.heap.size) size v n ys) (hG : ∀ k, News w w' k → G k) : Rd w' G size v n ys :=
 h.mono fun k hk hlt => hG k ⟨hk, hlt⟩
end
end Go.Proofs.YtpjfheadolphgaaGreat
namespace Go.Proofs.YtpjfheadolphgaaGreat
open Go.RowKit Go.Proofs Go.Shelf
set_option maxRecDepth 20000
attribute [local go_sem] Oper.semAt_some
def bwd (len k : Nat) : List Nat := (List.range k).map fun j => len - 1 - j
theorem bwd_succ (len k : Nat) : bwd len (k + 1) = bwd len k ++ [len - 1 - k] := by simp [bwd, List.range_succ]
theorem bwd_length (len k : Nat) : (bwd len k).length = k := by simp [bwd]
set_option maxRecDepth 20000 in
set_option maxHeartbeats 2000000 in
theorem backw1_in (F : Fence) (n : Nat) (h7 : F.fn 303) (hro : F.round = none) (hn : 1 ≤ n) (l Bs n₀ g len cap : Nat) (va vb : Nat → Value) (hreach : len < 1000000000) (hb : 0 < len → g < n₀) (hBs : Bs < n₀) (J Jx : List (Fin len) → World → Prop) (A : Option Addr) (hA : 0 < len → A = some ⟨g, 0, none⟩)
  (hY : ∀ (pre : List (Fin len)) (x : Fin len) (W : World), J pre W → pre.length < len → YieldAt F (n - 1) Tryz.prog l #[.int .i64 (x.1 : Int), .agg #[va x.1, vb x.1]] W fun e W' =>
   (e = .returned (.bool true) ∧ J (pre ++ [x]) W' ∧ Below n₀ W W') ∨ (e = .returned (.bool false) ∧ Jx (pre ++ [x]) W'))
  (W : World) (hBc : W.cell? ⟨Bs, 0, none⟩ = some (.slice A len cap)) (hc : ∀ j, j < len → W.cell? ⟨g, j * 2, none⟩ = some (va j) ∧ W.cell? ⟨g, j * 2 + 1, none⟩ = some (vb j)) (h0 : J [] W) :
  CallsIn F n Tryz.prog 303 #[.func (.yield l) #[] #[], .pointer (some ⟨Bs, 0, none⟩)] W fun e W' => (∃ v, e = .returned v) ∧
   ((∃ ys, ys.map (·.1) = bwd len len ∧ J ys W') ∨ (∃ pre, (∃ k, k ≤ len ∧ pre.map (·.1) = bwd len k) ∧ Jx pre W')) := by
 refine callsIn_of_wp Tryz.func303 rfl h7 ?_ hro
 simp only [Tryz.ntmps303, List.size_toArray, List.length_cons, List.length_nil, Nat.reduceAdd, Nat.reduceSub, Array.replicate_succ, Array.replicate_zero, List.push_toArray, List.append_toArray, List.nil_append, List.cons_append]
 gi_wp2
 gi_loopw [3] (fun i wr => ∃ m k : Nat, m + k = len ∧ i = .int .i64 ((m : Int) - 1) ∧ (∃ pre : List (Fin len), pre.map (·.1) = bwd len k ∧ J pre wr) ∧ Below n₀ W wr)
  (fun i _ => (intOf i + 1).toNat)
 case atStart => exact ⟨len, 0, by omega, rfl, ⟨[], rfl, h0⟩, Below.refl _ _⟩
 case round =>
  obtain ⟨m, k, hmk, rfl, ⟨pre, hpre, hJs⟩, hnx⟩ := hrel
  have hBx := (hnx.cell (p := ⟨Bs, 0, none⟩) hBs).trans hBc
  cases m with
  | zero =>
   have hk : k = len := by omega
   subst hk
   have HP := Lib.hid hpre
   clear hmk hpre
   gi_wp2
   go_end0
   exact ⟨⟨_, rfl⟩, .inl ⟨_, HP.out, hJs⟩⟩
  | succ m =>
   have hlen : m < len := by omega
   have hA' := hA (by omega)
   subst hA'
   obtain ⟨c1, c2⟩ := hc m hlen
   have c1' := (hnx.cell (p := ⟨g, m * 2, none⟩) (hb (by omega))).trans c1
   have c2' := (hnx.cell (p := ⟨g, m * 2 + 1, none⟩) (hb (by omega))).trans c2
   obtain ⟨fn, tmps, assign, body, hy, hR⟩ := hY pre ⟨m, hlen⟩ wr hJs (by have := congrArg List.length hpre; rw [List.length_map, bwd_length] at this; omega)
   dsimp only at hy
   have HP := Lib.hid hpre
   clear hpre
   have HMK := Lib.hid hmk
   have hi : ((m + 1 : Nat) : Int) - 1 = (m : Int) := by omega
   rw [hi]
   clear hi hmk c1 c2 hc hBc
   gi_wp2
   refine hR.mono ?_
   have HB : Hid ((pre ++ [(⟨m, hlen⟩ : Fin len)]).map (fun x : Fin len => x.1) = bwd len (k + 1)) := Lib.hid (by rw [List.map_append, HP.out, bwd_succ, show len - 1 - k = m by have := HMK.out; omega]; rfl)
   rintro e W3 (⟨rfl, hJ3, hk3⟩ | ⟨rfl, hJx3⟩)
   ·gi_wp2
    go_roundw
    case rel => exact ⟨m, k + 1, by have := HMK.out; omega, by simp, ⟨_, HB.out, hJ3⟩, hnx.trans hk3⟩
    case measure => simp [intOf]
   ·gi_wp2
    refine bodyPost_ret (results_none rfl _ _ _) rfl ?_
    exact ⟨⟨_, rfl⟩, .inr ⟨_, ⟨k + 1, by have := HMK.out; omega, HB.out⟩, hJx3⟩⟩
set_option maxHeartbeats 1000000 in
theorem backw_in (F : Fence) (n : Nat) (h5 : F.fn 254) (hro : F.round = none) (a : Option Addr) (len cap : Nat) (w : World) :
  CallsIn F n Tryz.prog 254 #[.slice a len cap] w fun e w' => e = .returned (.func (.func 303) #[] #[.pointer (some ⟨w.heap.size, 0, none⟩)]) ∧ w' = w.alloc (.cells #[.slice a len cap] 230) := by
 refine callsIn_of_wp Tryz.func254 rfl h5 ?_ hro
 simp only [Tryz.ntmps254, List.size_toArray, List.length_cons, List.length_nil, Nat.reduceAdd, Nat.reduceSub, Array.replicate_succ, Array.replicate_zero, List.push_toArray, List.append_toArray, List.nil_append, List.cons_append]
 gi_wp2
 go_ret
 exact ⟨rfl, rfl⟩
theorem backw_stops (F : Fence) (n : Nat) (h7 : F.fn 303) (hro : F.round = none) (hn : 1 ≤ n) (Bs g len cap : Nat) (va vb : Nat → Value) (hreach : len < 1000000000) (A : Option Addr) (hA : 0 < len → A = some ⟨g, 0, none⟩) (w : World)
  (hBs : Bs < w.heap.size) (hg : 0 < len → g < w.heap.size) (hBc : w.cell? ⟨Bs, 0, none⟩ = some (.slice A len cap)) (hc : ∀ j, j < len → w.cell? ⟨g, j * 2, none⟩ = some (va j) ∧ w.cell? ⟨g, j * 2 + 1, none⟩ = some (vb j)) :
  SeqStopsK F n Tryz.prog 303 #[.pointer (some ⟨Bs, 0, none⟩)] (fun x : Fin len => #[Value.int .i64 (x.1 : Int), .agg #[va x.1, vb x.1]]) (Below w.heap.size) (fun ys => ys.map (·.1) = bwd len len)
   (fun pre => ∃ k, k ≤ len ∧ pre.map (·.1) = bwd len k) len w := fun l J Jx W hW _ _ hY h0 =>
 backw1_in F n h7 hro hn l Bs w.heap.size g len cap va vb hreach hg hBs J Jx A hA hY W ((hW.cell (p := ⟨Bs, 0, none⟩) hBs).trans hBc)
  (fun j hj => ⟨(hW.cell (p := ⟨g, j * 2, none⟩) (hg (by omega))).trans (hc j hj).1, (hW.cell (p := ⟨g, j * 2 + 1, none⟩) (hg (by omega))).trans (hc j hj).2⟩) h0
end Go.Proofs.YtpjfheadolphgaaGreat
namespace Go.Proofs.YtpjfheadolphgaaGreat
open Go.RowKit Go.Proofs Go.Shelf
set_option maxRecDepth 20000
attribute [local go_sem] Oper.semAt_some
section
variable {R F : Nat → Prop} {b bm : Nat} {D : DD} {cv kv : Value} {xs : List Value} {f : Int → Option Value} {w w' : World}
def ReadOut2 (w : World) (l : List UInt8) (er : Int) (e : Ending) (w' : World) : Prop :=
 ∃ v, e = .returned (.tuple #[v, .int .i64 er]) ∧ Bytes w' (Fresh w w') v l ∧ Only NoB w w'
theorem Soft.grown {w w' : World} {k : Nat} (h : Soft w k) {row : Option Nat} (hg : w.grownBy w' row) (hr : ∀ r, row = some r → ∃ o : Obj, w.heap[r]? = some o ∧ o.isCells = false) : Soft w' k := by
 obtain ⟨cs, t, h⟩ := h
 refine ⟨cs, t, (hg.block k (Array.getElem?_eq_some_iff.1 h).1 fun e => ?_).trans h⟩
 obtain ⟨o, ho, hc⟩ := hr k e.symm
 rw [h] at ho; injection ho with ho; subst ho; cases hc
theorem Soft.keep {w w' : World} {k : Nat} (h : Soft w k) (hk : w'.heap[k]? = w.heap[k]?) : Soft w' k := by
 obtain ⟨cs, t, h⟩ := h
 exact ⟨cs, t, hk.trans h⟩
def readW (w : World) (s : Int) : World := ((w.alloc (.cells #[.int .i64 s] 3)).alloc (.cells #[.slice none 0 0] 162)).alloc (.cells #[.int .i64 0] 38)
theorem readW_heap (w : World) (s : Int) {k : Nat} (hk : k < w.heap.size) : (readW w s).heap[k]? = w.heap[k]? := by
 unfold readW
 rw [Below.heap_alloc _ _ _ (by simp; omega), Below.heap_alloc _ _ _ (by simp; omega), Below.heap_alloc _ _ _ hk]
theorem readW_size (w : World) (s : Int) : (readW w s).heap.size = w.heap.size + 3 := by simp [readW]
theorem DiskIn.readW (h : DiskIn w R b D bm cv kv xs f) (s : Int) : DiskIn (readW w s) R b D bm cv kv xs f :=
 h.keep (by rw [readW_size]; omega) fun k hk => readW_heap w s (h.ltF k hk)
set_option maxHeartbeats 400000 in
theorem read_down (h : DiskIn w R b D bm cv kv xs f) (hd : D.down = true) (s : Int) : Calls Tryz.prog 162 #[.pointer (some ⟨b, 0, none⟩), .int .i64 s] w (ReadOut2 w [] 50) := by
 have HR := Lib.hid (ready_down (h.readW s) hd)
 clear h
 go_enter Tryz.func162, Tryz.ntmps162
 go_wp2_with fail
 refine HR.out.mono ?_
 rintro e w1 ⟨rfl, rfl⟩
 unfold readW
 go_wp2_with fail
 refine bodyPost_ret (v := .tuple #[.slice none 0 0, .int .i64 50]) (by simp [results, Tryz.f162, go_sem]) rfl ⟨_, rfl, Rd.nil _ _ _, ?_⟩
 exact ((((Only.refl NoB w).alloc _).alloc _).alloc _)
set_option maxHeartbeats 400000 in
theorem read_bad (h : DiskIn w R b D bm cv kv xs f) (hd : D.down = false) (s : Int) (hs : D.sector s = false) : Calls Tryz.prog 162 #[.pointer (some ⟨b, 0, none⟩), .int .i64 s] w (ReadOut2 w [] 1) := by
 have HR := Lib.hid (ready_up (h.readW s) hd)
 have hn : (readW w s).cell? ⟨b, 0, none⟩ = some (.int .i64 D.n) := (h.readW s).cell 0 _ rfl
 unfold readW at hn
 clear h
 have hor : decide (s < 0) = true ∨ (decide (s < 0) = false ∧ decide (s ≥ (D.n : Int)) = true) := by
  simp only [DD.sector, decide_eq_false_iff_not] at hs
  simp only [decide_eq_true_eq, decide_eq_false_iff_not]; omega
 rcases hor with h0 | ⟨h0, h1⟩
 all_goals
  go_enter Tryz.func162, Tryz.ntmps162
  go_wp2_with fail
  refine HR.out.mono ?_
  rintro e w1 ⟨rfl, rfl⟩
  unfold readW
  go_wp2_with fail
  go_quiet (fail)
  go_wp2_with fail
  refine bodyPost_ret (v := .tuple #[.slice none 0 0, .int .i64 1]) (by simp [results, Tryz.f162, go_sem]) rfl ⟨_, rfl, Rd.nil _ _ _, ?_⟩
  exact (((((((Only.refl NoB w).alloc _).alloc _).alloc _).drewN nq).setCell (.inr (by simp)) _).setCell (.inr (by simp; omega)) _)
def ReadI (W0 : World) (cs : List (Nat × List UInt8)) (s : Nat) (pre : List (Fin cs.length)) (W : World) : Prop :=
 (∀ j ∈ pre, cs[j.1].1 ≠ s) ∧ Only NoB W0 W
def ReadX (q : Nat) (W0 : World) (cs : List (Nat × List UInt8)) (s : Nat) (c : Code) (pre : List (Fin cs.length)) (W : World) : Prop :=
 c = .ret ∧ ∃ (ini : List (Fin cs.length)) (j : Fin cs.length) (v : Value), pre = ini ++ [j] ∧ cs[j.1].1 = s ∧ (∀ j ∈ ini, cs[j.1].1 ≠ s) ∧ W.cell? ⟨q + 1, 0, none⟩ = some v ∧ W.cell? ⟨q + 1 + 1, 0, none⟩ = some (.int .i64 0) ∧
  Bytes W (Fresh W0 W) v cs[j.1].2 ∧ Only (fun k => k = q + 1 ∨ k = q + 1 + 1) W0 W
theorem Rd.kept {w w' : World} {G : Nat → Prop} {size n : Nat} {v : Value} {ys : List Value} (h : Rd w G size v n ys) {row : Option Nat} (hg : w.grownBy w' row) (hr : ∀ r, row = some r → ∃ o : Obj, w.heap[r]? = some o ∧ o.isCells = false) : Rd w' G size v n ys := by
 obtain ⟨A, c, hv, hc, hl, h⟩ := h
 exact ⟨A, c, hv, hc, hl, fun hn => by
  obtain ⟨ad, hA, hF, hcell⟩ := h hn
  exact ⟨ad, hA, hF, fun j u hu => cell_kept (hcell j u hu) hg hr⟩⟩
theorem readI_own (W0 : World) (cs : List (Nat × List UInt8)) (s : Nat) : OwnFrom W0.heap.size (ReadI W0 cs s) := fun _ _ _ _ hs hg hr => ⟨hs.1, hs.2.grown hg fun k e => .inr (hr k e).1⟩
theorem readX_own (q : Nat) (W0 : World) (cs : List (Nat × List UInt8)) (s : Nat) (c : Code) : OwnFrom W0.heap.size (ReadX q W0 cs s c) := by
 rintro pre W W' row ⟨hc, ini, j, v, h1, h2, h3, h4, h5, h6, h7⟩ hg hr
 have hr' := fun r e => (hr r e).2
 exact ⟨hc, ini, j, v, h1, h2, h3, cell_kept h4 hg hr', cell_kept h5 hg hr', (Rd.kept h6 hg hr').mono fun k hk _ => ⟨hk.1, hk.2.grown hg hr'⟩, h7.grown hg fun k e => .inr (hr k e).1⟩
theorem ReadI.last {W0 W : World} {cs : List (Nat × List UInt8)} {s : Nat} {ys : List (Fin cs.length)} (h : ReadI W0 cs s ys W) (hy : ys.map (·.1) = bwd cs.length cs.length) : DD.last s cs = none := by
 refine DD.last_none fun c hc => ?_
 obtain ⟨j, hj, rfl⟩ := List.mem_iff_getElem.1 hc
 have : j ∈ ys.map (·.1) := by
  rw [hy]
  simp only [bwd, List.mem_map, List.mem_range]
  exact ⟨cs.length - 1 - j, by omega, by omega⟩
 obtain ⟨y, hy', rfl⟩ := List.mem_map.1 this
 exact h.1 y hy'
theorem ReadX.last {q : Nat} {W0 W : World} {cs : List (Nat × List UInt8)} {s : Nat} {c : Code} {pre : List (Fin cs.length)} (h : ReadX q W0 cs s c pre W) (hy : ∃ k, k ≤ cs.length ∧ pre.map (·.1) = bwd cs.length k) :
  ∃ l v, DD.last s cs = some l ∧ W.cell? ⟨q + 1, 0, none⟩ = some v ∧ W.cell? ⟨q + 1 + 1, 0, none⟩ = some (.int .i64 0) ∧ Bytes W (Fresh W0 W) v l ∧ Only (fun k => k = q + 1 ∨ k = q + 1 + 1) W0 W := by
 obtain ⟨_, ini, j, v, rfl, h2, h3, h4, h5, h6, h7⟩ := h
 obtain ⟨k, hk, hy⟩ := hy
 refine ⟨cs[j.1].2, v, ?_, h4, h5, h6, h7⟩
 obtain ⟨k, rfl⟩ : ∃ m, k = m + 1 := by
  cases k with
  | zero => simp [bwd] at hy
  | succ m => exact ⟨m, rfl⟩
 rw [bwd_succ, List.map_append] at hy
 obtain ⟨hy1, hy2⟩ := List.append_inj' hy rfl
 have hj : j.1 = cs.length - 1 - k := by simpa using hy2
 refine DD.last_some (j := j.1) (List.getElem?_eq_getElem j.2) h2 fun i hi x hx => ?_
 obtain ⟨hil, rfl⟩ := List.getElem?_eq_some_iff.1 hx
 have : i ∈ ini.map (·.1) := by
  rw [hy1]
  simp only [bwd, List.mem_map, List.mem_range]
  exact ⟨cs.length - 1 - i, by omega, by omega⟩
 obtain ⟨y, hy', rfl⟩ := List.mem_map.1 this
 exact h3 y hy'
theorem DiskIn.looked (h : DiskIn w R b D bm cv kv xs f) {s : Nat} (hs : s < D.n) :
  ∃ n ns, Rd w R 1 ((f s).getD (.slice none 0 0)) n ns ∧ (∀ u ∈ ns, u.oneCell' = true) ∧ splice (List.replicate D.m (Value.int .u8 0)) 0 (ns.take (Nat.min n D.m)) = (D.done s).map byteV := by
 have hd := h.done s hs
 cases hf : f s with
 | none =>
  rw [hf] at hd
  refine ⟨0, [], Rd.nil _ _ _, by simp, ?_⟩
  rw [show D.done s = DD.zero D.m from hd]
  simp [splice, DD.zero, byteV]
 | some v =>
  rw [hf] at hd
  refine ⟨_, _, hd, oneCell_bytes _, ?_⟩
  have hl := h.wf.done s
  have : Nat.min (D.done s).length D.m = D.m := by rw [hl]; exact Nat.min_self _
  rw [this, List.take_of_length_le (by simp [hl]), splice]
  simp [hl]
set_option maxHeartbeats 1000000 in
theorem read_ok (h : DiskIn w R b D bm cv kv xs f) (hd : D.down = false) (s : Nat) (hs : s < D.n) : Calls Tryz.prog 162 #[.pointer (some ⟨b, 0, none⟩), .int .i64 s] w (ReadOut2 w (D.at_ s) 0) := by
  have HR := Lib.hid (ready_up (h.readW s) hd)
  have hn : (readW w s).cell? ⟨b, 0, none⟩ = some (.int .i64 D.n) := (h.readW s).cell 0 _ rfl
  have hc3 : (readW w s).cell? ⟨b, 3, none⟩ = some cv := (h.readW s).cell 3 _ rfl
  unfold readW at hn hc3
  have hs' : (s : Int) < (D.n : Int) := by omega
  have e1 : decide ((s : Int) < 0) = false := by simp
  have e2 : decide (s ≥ D.n) = false := by simpa using hs
  have e2' : decide ((s : Int) ≥ (D.n : Int)) = false := by simpa using hs
  obtain ⟨cA, cc, rfl, _⟩ := Own.shape (F := fun _ => True) ⟨h.own, fun _ _ => trivial⟩
  have H := Lib.hid h
  clear h hd hs
  refine (callsIn_wide (n := 6)).1 ?_
  refine callsIn_of_wp_marks Tryz.func162 rfl trivial ?_ rfl
  refine wpIn_wide.2 ?_
  simp only [Tryz.ntmps162, List.size_toArray, List.length_cons, List.length_nil, Nat.reduceAdd, Nat.reduceSub, Array.replicate_succ, Array.replicate_zero, List.push_toArray, List.append_toArray, List.nil_append, List.cons_append]
  go_wp2_with fail
  refine HR.out.mono ?_
  rintro e w1 ⟨rfl, rfl⟩
  unfold readW
  go_wp2_with fail
  go_quiet (fail)
  go_wp2_with (go_at_call 254; refine (callsIn_wide.1 (backw_in Fence.wide 3 trivial rfl _ _ _ _)).mono ?_; rintro e w1 ⟨rfl, rfl⟩)
  obtain ⟨W0, hW0⟩ : ∃ W0 : World, W0 = (((((w.alloc (Obj.cells #[Value.int IntKind.i64 ↑s] 3)).alloc (Obj.cells #[Value.slice none 0 0] 162)).alloc (Obj.cells #[Value.int IntKind.i64 0] 38)).drewN nq).alloc (Obj.cells #[Value.slice cA D.cache.length cc] 230)) := ⟨_, rfl⟩
  rw [← hW0]
  have hsz : W0.heap.size = w.heap.size + 4 := by rw [hW0]; simp
  have ho0 : Only NoB w W0 := by rw [hW0]; exact (((((Only.refl NoB w).alloc _).alloc _).alloc _).drewN _).alloc _
  have d0 := H.out.keep ho0.size fun k hk => ho0.block k (H.out.ltF k hk) id
  have b1 : Blk W0 w.heap.size 3 #[.int .i64 s] := by
    rw [hW0]; exact (((Blk.new w _ _).alloc _).alloc _).alloc _
  have b2 : Blk W0 (w.heap.size + 1) 162 #[.slice none 0 0] := by
    rw [hW0]; have := Blk.new (w.alloc (Obj.cells #[Value.int IntKind.i64 ↑s] 3)) 162 #[.slice none 0 0]; rw [World.size_alloc] at this; exact (this.alloc _).alloc _
  have b3 : Blk W0 (w.heap.size + 1 + 1) 38 #[.int .i64 0] := by
    rw [hW0]; have := Blk.new ((w.alloc (Obj.cells #[Value.int IntKind.i64 ↑s] 3)).alloc (Obj.cells #[Value.slice none 0 0] 162)) 38 #[.int .i64 0]; rw [World.size_alloc, World.size_alloc] at this; exact this.alloc _
  have b4 : Blk W0 (w.heap.size + 1 + 1 + 1) 230 #[.slice cA D.cache.length cc] := by
    rw [hW0]; have := Blk.new ((((w.alloc (Obj.cells #[Value.int IntKind.i64 ↑s] 3)).alloc (Obj.cells #[Value.slice none 0 0] 162)).alloc (Obj.cells #[Value.int IntKind.i64 0] 38)).drewN nq) 230 #[.slice cA D.cache.length cc]
    rw [show ((((w.alloc (Obj.cells #[Value.int IntKind.i64 ↑s] 3)).alloc (Obj.cells #[Value.slice none 0 0] 162)).alloc (Obj.cells #[Value.int IntKind.i64 0] 38)).drewN nq).heap.size = w.heap.size + 1 + 1 + 1 by simp] at this; exact this
  clear hW0 HR hn hc3
  obtain ⟨g, hgA, hgc⟩ : ∃ g, (0 < D.cache.length → cA = some ⟨g, 0, none⟩ ∧ g < W0.heap.size) ∧ ∀ j, j < D.cache.length → W0.cell? ⟨g, j * 2, none⟩ = some (xs.getD (j * 2) undef) ∧ W0.cell? ⟨g, j * 2 + 1, none⟩ = some (xs.getD (j * 2 + 1) undef) := by
    rcases d0.own.2 with ⟨h0, h0'⟩ | ⟨g, cap, cur, he, _, hg, _⟩
    · exact ⟨0, fun hp => by omega, fun j hj => by omega⟩
    · injection he with he
      refine ⟨g, fun _ => ⟨he, (Array.getElem?_eq_some_iff.1 hg).1⟩, fun j hj => ?_⟩
      subst he
      have hcl := d0.own.cells (g := g) rfl
      obtain ⟨x1, v, x2, _⟩ := d0.cache.at_ (i := j) (c := D.cache[j]) (List.getElem?_eq_getElem hj)
      have y1 := hcl _ _ x1
      have y2 := hcl _ _ x2
      rw [Addr.add_lit, Nat.zero_add] at y1 y2
      rw [List.getD_eq_getElem?_getD, List.getD_eq_getElem?_getD, x1, x2]
      exact ⟨y1, y2⟩
  have hcap := d0.cap
  refine (wpIn_wide (n := 6)).1 ?_
  refine wpIn_rangeFunc_ownH (n := 6) rfl (by omega) (gf := 303) (lb := #[.pointer (some ⟨w.heap.size + 1 + 1 + 1, 0, none⟩)]) rfl trivial (enters_of Tryz.func303 (by kernel_rfl) rfl)
    (backw_stops Fence.wide 5 trivial rfl (by omega) (w.heap.size + 1 + 1 + 1) g D.cache.length cc (fun i => xs.getD (i * 2) undef) (fun i => xs.getD (i * 2 + 1) undef) hcap cA (fun h => (hgA h).1) W0 (by omega) (fun h => (hgA h).2) (b4.cell 0) hgc)
    belowK_t (belowK_b (Nat.le_refl _)) (Below.refl _ _) (fun _ => rfl)
    (ReadI W0 D.cache s) (ReadX w.heap.size W0 D.cache s) (readI_own _ _ _) (readX_own _ _ _ _) ⟨by simp, Only.refl _ _⟩
    (fun (x : Fin D.cache.length) a' W => ∃ Bx, W0.heap.size ≤ Bx ∧ Blk W Bx 313 #[xs.getD (x.1 * 2) undef, xs.getD (x.1 * 2 + 1) undef] ∧ ∃ a30 a31, a' = Act.mk #[Value.pointer (some { block := b, off := 0 }), Value.int IntKind.i64 (s : Int), undef,
          Value.pointer (some { block := w.heap.size, off := 0 }),
          Value.pointer (some { block := w.heap.size + 1, off := 0 }),
          Value.pointer (some { block := w.heap.size + 1 + 1, off := 0 }), Value.int IntKind.i64 0, undef, Value.pointer (some ⟨Bx, 0, none⟩), undef,
          Value.pointer (some { block := b, off := 0 }), Value.int IntKind.i64 0, Value.int IntKind.i64 0,
          Value.bool false, undef, Value.int IntKind.i64 (s : Int), Value.bool false, Value.bool false,
          Value.int IntKind.i64 (s : Int), Value.pointer (some { block := b, off := 0 }),
          Value.pointer (some { block := b, off := 0 }), Value.pointer (some { block := b, off := 0 }),
          Value.int IntKind.i64 (D.n : Int), Value.bool false, Value.bool false, Value.pointer (some { block := b, off := 0 }),
          Value.pointer (some { block := b, off := 0 }), Value.pointer (some { block := b, off := 3 }),
          Value.slice cA D.cache.length cc,
          Value.func (Fn.func 303) #[] #[Value.pointer (some { block := w.heap.size + 1 + 1 + 1, off := 0 })], a30,
          a31, undef, undef, undef, undef, undef, undef, undef, undef, undef, undef, undef, undef, undef, undef, undef,
          undef, undef, undef, undef, undef, undef] [])
    ?hAx ?assign ?body ?done ?stop
  case hAx =>
    rintro x a' _ W W' row ⟨Bx, h1, h2, h3⟩ hg hr
    refine ⟨Bx, h1, (hg.block Bx h2.lt fun e => ?_).trans h2, h3⟩
    obtain ⟨_, o, ho, hc⟩ := hr Bx e.symm
    unfold Blk at h2
    rw [h2] at ho; injection ho with ho; subst ho; cases hc
  case assign =>
    intro l pre x W K hI hK
    obtain ⟨x1, v, x2, x3⟩ := d0.cache.at_ (i := x.1) (c := D.cache[x.1]) (List.getElem?_eq_getElem x.2)
    obtain ⟨vA, vc, rfl, _⟩ := id x3
    simp only [List.getD_eq_getElem?_getD, x1, x2, Option.getD_some] at hK ⊢
    have HK := Lib.hid hK
    have HI := Lib.hid hI
    clear hK hI x1 x2 x3
    gi_wp2
    exact HK.out _ _ ((KeepsOthers.alloc _ _).from _) ((Below.refl _ W).alloc HI.out.2.size _) ⟨HI.out.1, HI.out.2.alloc _⟩ ⟨W.heap.size, HI.out.2.size, Blk.new _ _ _, _, _, rfl⟩
  case body =>
    rintro l pre x a' W hl _ hI ⟨Bx, hBx, hblk, a30, a31, rfl⟩ hlt
    obtain ⟨x1, v, x2, x3⟩ := d0.cache.at_ (i := x.1) (c := D.cache[x.1]) (List.getElem?_eq_getElem x.2)
    obtain ⟨vA, vc, rfl, _⟩ := id x3
    simp only [List.getD_eq_getElem?_getD, x1, x2, Option.getD_some] at hblk
    have c1 : W.cell? ⟨Bx, 0, none⟩ = some (.int .i64 (D.cache[x.1].1 : Int)) := hblk.cell 0
    have c2 : W.cell? ⟨Bx, 1, none⟩ = some (.slice vA D.cache[x.1].2.length vc) := hblk.cell 1
    have cs : W.cell? ⟨w.heap.size, 0, none⟩ = some (.int .i64 (s : Int)) := hI.2.cell (b1.cell 0) id
    have hb2 := b2.only hI.2 id
    have hb3 := b3.only hI.2 id
    have hbm := d0.wf.cache D.cache[x.1] (List.getElem_mem x.2)
    have hm2 := d0.wf.m2
    have HI := Lib.hid hI
    by_cases hx : D.cache[x.1].1 = s
    · have hq : ((D.cache[x.1].1 : Int) == (s : Int)) = true := by rw [beq_iff_eq]; omega
      have hq' : (D.cache[x.1].1 == s) = true := by rw [beq_iff_eq]; exact hx
      have HCl := Lib.hid (clone_byte2 (w := W) R (.slice vA D.cache[x.1].2.length vc) D.cache[x.1].2.length (D.cache[x.1].2.map byteV) (Rd.only (G := NoB) x3 (hI.2) (fun _ _ => id)) (oneCell_bytes _) (by omega))
      have HX := Lib.hid hx
      have HB2 := Lib.hid hb2
      have HB3 := Lib.hid hb3
      clear hI hblk x1 x2 x3 hx hb2 hb3 hbm
      gi_wp2_with (refine ⟨trivial, ?_⟩; gi_at_call 235; refine (CallsIn.inRound l (callsIn_wide.2 HCl.out)).mono ?_; rintro e w1 ⟨v', rfl, hr, ho, _, _⟩; obtain ⟨A', c', rfl, _⟩ := id hr; have b2' := HB2.out.only ho id; have b3' := HB3.out.only ho id; have d2 := b2'.cell 0; have d3 := b3'.cell 0; have f2 := b2'.frozen 0; have f3 := b3'.frozen 0; dsimp at d2 d3; have HO := Lib.hid ho; have HRd := Lib.hid hr; clear ho hr b2' b3')
      have hne : (⟨w.heap.size + 1 + 1, 0, none⟩ : Addr) ≠ ⟨w.heap.size + 1, 0, none⟩ := by simp
      refine ⟨KeepsFrom.trans ⟨HO.out.size, fun k o _ hk _ => HO.out.heap hk id⟩ (((KeepsOthers.setCell _ _ _).trans (KeepsOthers.setCell _ _ _)).from _), rfl, pre, x, _, rfl, HX.out, HI.out.1,
        (World.cell?_setCell_other _ _ _ _ hne).trans (World.cell?_setCell_same' _ _ _ (by rw [d2]; rfl)), World.cell?_setCell_same' _ _ _ (by rw [World.cell?_setCell_other _ _ _ _ hne.symm, d3]; rfl), ?_, ?_⟩
      · have hs0 := HI.out.2.size
        have hst : ∀ k, W.heap.size ≤ k → ∀ (u1 u2 : Value) (w1 : World), ((w1.setCell ⟨w.heap.size + 1, 0, none⟩ u1).setCell ⟨w.heap.size + 1 + 1, 0, none⟩ u2).heap[k]? = w1.heap[k]? := fun k hk u1 u2 w1 => by
          rw [Below.heap_setCell _ _ _ _ (by simp; omega), Below.heap_setCell _ _ _ _ (by simp; omega)]
        exact Rd.mono (Rd.keep HRd.out fun k hk _ => hst k hk.1 _ _ _) fun k hk _ => ⟨Nat.le_trans hs0 hk.1, hk.2.keep (hst k hk.1 _ _ _)⟩
      · exact (((HI.out.2.trans HO.out).mono fun _ _ hk => hk.elim).setCell (.inl (.inl rfl)) _).setCell (.inl (.inr rfl)) _
    · have hq : ((D.cache[x.1].1 : Int) == (s : Int)) = false := by rw [beq_eq_false_iff_ne]; omega
      have hq' : (D.cache[x.1].1 == s) = false := by rw [beq_eq_false_iff_ne]; exact hx
      have HX := Lib.hid hx
      clear hI hblk x1 x2 x3 hx hb2 hb3 hbm
      gi_wp2_with fail
      refine ⟨KeepsFrom.refl _ _, Below.refl _ _, fun j hj => ?_, HI.out.2⟩
      rcases List.mem_append.1 hj with hj | hj
      · exact HI.out.1 j hj
      · obtain rfl := List.mem_singleton.1 hj; exact HX.out
  case done =>
    rintro D' ys W hD hS hI hK
    have HL := Lib.hid (ReadI.last hI hS)
    have hO := hI.2
    have dW := d0.keep hO.size fun k hk => hO.block k (d0.ltF k hk) id
    have c1 : W.cell? ⟨b, 1, none⟩ = some (.int .i64 D.m) := dW.cell 1 _ rfl
    have hm2 := dW.wf.m2
    have HD2 := Lib.hid dW
    have HO := Lib.hid hO
    have hK0 := hK
    have HK := Lib.hid hK
    obtain ⟨n, ns, hrd, hone, hres⟩ := dW.looked (s := s) (by omega)
    have hlk := fun (w2 : World) (ho2 : Only NoB W w2) => ((dW.keep ho2.size fun k hk => ho2.block k (dW.ltF k hk) id).map).lookup (P := Tryz.prog) (t := 229) (kt := 3) (e := 162) (by kernel_rfl) (by kernel_rfl) (z := .slice none 0 0) (by kernel_rfl) false (s : Int)
    have HLK := Lib.hid hlk
    have HRd := Lib.hid hrd
    have HOn := Lib.hid hone
    have HRes := Lib.hid hres
    have hb2 := b2.only hO id
    have hb3 := b3.only hO id
    have hcs : W.cell? ⟨w.heap.size, 0, none⟩ = some (.int .i64 (s : Int)) := hO.cell (b1.cell 0) id
    have HB2 := Lib.hid hb2
    have HB3 := Lib.hid hb3
    have HCS := Lib.hid hcs
    clear hS hI dW hO hK hK0 hlk hrd hone hres hb2 hb3 hcs
    go_wp2_with (at_make; refine wpList_mk (by rfl) _ _ _ (by rfl) (by kernel_rfl) Ty.byte .i64 .i64 D.m (by rfl) (by rfl) (by omega) ?_; intro W1 hblk ho1; have HB := Lib.hid hblk; have HO1 := Lib.hid ho1; clear hblk ho1)
    have ho1 := HO1.out
    have c2 : W1.cell? ⟨b, 2, none⟩ = some (.map (some bm)) := ho1.cell (HD2.out.cell 2 _ rfl) id
    have cs1 : W1.cell? ⟨w.heap.size, 0, none⟩ = some (.int .i64 (s : Int)) := ho1.cell HCS.out id
    have hlk := HLK.out W1.drew (ho1.drew)
    simp only [Bool.false_eq_true, if_false] at hlk
    obtain ⟨sv, hsv⟩ : ∃ sv, sv = (f (s : Int)).getD (.slice none 0 0) := ⟨_, rfl⟩
    rw [← hsv] at hlk
    have HRd1 := HRd.out
    rw [← hsv] at HRd1
    have HR2 := Lib.hid (Rd.only (w' := W1.drew) HRd1 ho1.drew (fun _ _ => id))
    have hbl := HB.out
    have hm1 : madeCells (Value.int IntKind.u8 0).cells (D.m * 1) = (List.replicate D.m (Value.int .u8 0)).toArray := madeCells_one _ _
    rw [hm1] at hbl
    have HB1 := Lib.hid (show Blk W1.drew W.heap.size 5 (List.replicate D.m (Value.int .u8 0)).toArray from hbl)
    have HFit := Lib.hid (show 0 + D.m ≤ (List.replicate D.m (Value.int .u8 0)).length by simp)
    clear hm1 hbl HRd1 hsv ho1 HB HRd HLK
    refine wp_region_noPanic ?_
    go_region_law
      ((refine step_cpy (by rfl) _ _ _ _ (by rfl) Ty.bytesU Ty.byteSize (by rfl) (by rfl) HB1.out HFit.out HR2.out HOn.out ?_; intro w3 hcp; have HCp := Lib.hid hcp; clear hcp))
    all_goals
      refine noPanic_mk ?_
      have ho3 : Only (fun k => k = W.heap.size) W w3 := ((HO1.out.drew).mono fun _ _ hk => hk.elim).trans HCp.out.only
      have hW0 := HO.out.size
      have hk3 : w3.heap[D']? = some (.deferred (some [])) := ho3.heap HK.out (fun (e : D' = W.heap.size) => by have := (Array.getElem?_eq_some_iff.1 HK.out).1; omega)
      have n2 : w.heap.size + 1 ≠ W.heap.size := by omega
      have n3 : w.heap.size + 1 + 1 ≠ W.heap.size := by omega
      have b2' := HB2.out.only ho3 n2
      have b3' := HB3.out.only ho3 n3
      have d2 : w3.cell? ⟨w.heap.size + 1, 0, none⟩ = some (.slice none 0 0) := b2'.cell 0
      have d3 : w3.cell? ⟨w.heap.size + 1 + 1, 0, none⟩ = some (.int .i64 0) := b3'.cell 0
      have f2 := b2'.frozen 0
      have f3 := b3'.frozen 0
      have HO3 := Lib.hid ho3
      have HK3 := Lib.hid hk3
      clear ho3 hk3 b2' b3' hlk
      go_wp2_with fail
      have hne : (⟨w.heap.size + 1 + 1, 0, none⟩ : Addr) ≠ ⟨w.heap.size + 1, 0, none⟩ := by simp
      have hKf : ((w3.setCell ⟨w.heap.size + 1, 0, none⟩ (.slice (some ⟨W.heap.size, 0, none⟩) D.m D.m)).setCell ⟨w.heap.size + 1 + 1, 0, none⟩ (.int .i64 0)).heap[D']? = some (.deferred (some [])) := by
        rw [Below.heap_setCell _ _ _ _ (by simp; omega), Below.heap_setCell _ _ _ _ (by simp; omega)]; exact HK3.out
      refine ⟨by simp, .inl ⟨_, _, rfl, run_takeDeferred hKf, ?_⟩⟩
      have hg := grownBy_putObj' ((w3.setCell ⟨w.heap.size + 1, 0, none⟩ (.slice (some ⟨W.heap.size, 0, none⟩) D.m D.m)).setCell ⟨w.heap.size + 1 + 1, 0, none⟩ (.int .i64 0)) D' (.deferred none)
      have hr : ∀ r, some D' = some r → ∃ o : Obj, ((w3.setCell ⟨w.heap.size + 1, 0, none⟩ (.slice (some ⟨W.heap.size, 0, none⟩) D.m D.m)).setCell ⟨w.heap.size + 1 + 1, 0, none⟩ (.int .i64 0)).heap[r]? = some o ∧ o.isCells = false := fun r e => by cases e; exact ⟨_, hKf, rfl⟩
      have hc4 := cell_kept ((World.cell?_setCell_other _ _ _ _ hne).trans (World.cell?_setCell_same' w3 ⟨w.heap.size + 1, 0, none⟩ (.slice (some ⟨W.heap.size, 0, none⟩) D.m D.m) (by rw [d2]; rfl))) hg hr
      have hc5 := cell_kept (World.cell?_setCell_same' (w3.setCell ⟨w.heap.size + 1, 0, none⟩ (.slice (some ⟨W.heap.size, 0, none⟩) D.m D.m)) ⟨w.heap.size + 1 + 1, 0, none⟩ (.int .i64 0) (by rw [World.cell?_setCell_other _ _ _ _ hne.symm, d3]; rfl)) hg hr
      refine ⟨.tuple #[.slice (some ⟨W.heap.size, 0, none⟩) D.m D.m, .int .i64 0], by simp [results, Tryz.f162, go_sem, hc4, hc5], _, rfl, ?_, ?_⟩
      · have hat : D.at_ s = D.done s := by unfold DD.at_; rw [HL.out]; rfl
        have hlen : (D.at_ s).length = D.m := HD2.out.wf.at_ s
        rw [hat] at hlen ⊢
        have hbk := HCp.out.blk
        rw [HRes.out] at hbk
        refine ⟨_, _, by rw [hlen], by rw [hlen]; exact Nat.le_refl _, by simp, fun _ => ⟨⟨W.heap.size, 0, none⟩, rfl, ⟨show w.heap.size ≤ W.heap.size by omega, Soft.grown (Soft.keep (w := w3) ⟨_, _, hbk⟩ (by rw [Below.heap_setCell _ _ _ _ (by simp; omega), Below.heap_setCell _ _ _ _ (by simp; omega)])) hg hr⟩, fun j u hu => ?_⟩⟩
        refine cell_kept ?_ hg hr
        rw [Addr.add_lit, World.cell?_setCell_other _ _ _ _ (by simp <;> omega), World.cell?_setCell_other _ _ _ _ (by simp <;> omega), Nat.zero_add, hbk.cell]
        simpa using hu
      · refine Only.grown (((((ho0.trans HO.out).trans' HO3.out fun i hi (hk : i = W.heap.size) => by omega).setCell (.inr (by simp)) _).setCell (.inr (by simp; omega)) _)) hg fun k e => by cases e; exact .inr (by omega)
  case stop =>
    rintro D' c pre W hD hS hX hK
    obtain ⟨l, v, h1, h2, h3, h4, h5⟩ := ReadX.last hX hS
    obtain ⟨rfl, _⟩ := hX
    have H1 := Lib.hid h1
    clear h1 hS
    gi_wp2_with fail
    refine ⟨by simp, .inl ⟨_, _, rfl, run_takeDeferred hK, ?_⟩⟩
    have hg := grownBy_putObj' W D' (.deferred none)
    have hr : ∀ r, some D' = some r → ∃ o : Obj, W.heap[r]? = some o ∧ o.isCells = false := fun r e => by cases e; exact ⟨_, hK, rfl⟩
    have hc4 := cell_kept h2 hg hr
    have hc5 := cell_kept h3 hg hr
    obtain ⟨A', c', rfl, _⟩ := id h4
    refine ⟨.tuple #[.slice A' l.length c', .int .i64 0], by simp [results, Tryz.f162, go_sem, hc4, hc5], _, rfl, ?_, ?_⟩
    · have hat : D.at_ s = l := by unfold DD.at_; rw [H1.out]; rfl
      rw [hat]
      exact (Rd.kept h4 hg hr).mono fun k hk _ => ⟨show w.heap.size ≤ k by have : W0.heap.size ≤ k := hk.1; omega, hk.2.grown hg hr⟩
    · exact (ho0.trans' h5 fun i hi hk => by rcases hk with hk | hk <;> omega).grown hg fun k e => by cases e; exact .inr (by omega)
end
end Go.Proofs.YtpjfheadolphgaaGreat
namespace Go.Proofs.YtpjfheadolphgaaGreat
open Go.RowKit Go.Proofs
set_option maxRecDepth 20000
section
variable {R F : Nat → Prop} {b bm : Nat} {D : DD} {cv kv : Value} {xs : List Value} {f : Int → Option Value} {w w' : World}
theorem read_any2 (h : DiskAt w F b D) (s : Int) : Calls Tryz.prog 162 #[.pointer (some ⟨b, 0, none⟩), .int .i64 s] w (ReadOut2 w (DD.read s D).1 (DD.read s D).2) := by
 obtain ⟨_, R, bm, cv, kv, xs, f, h, _⟩ := h
 unfold DD.read
 cases hd : D.down with
 | true => exact read_down h hd s
 | false =>
  cases hs : D.sector s with
  | false => exact read_bad h hd s hs
  | true =>
   have hs' := hs
   simp only [DD.sector, decide_eq_true_eq] at hs'
   obtain ⟨n, rfl⟩ := Int.eq_ofNat_of_zero_le hs'.1
   exact read_ok h hd n (by omega)
def Made (w : World) (n m : Nat) (e : Ending) (w' : World) : Prop :=
 ∃ b F, e = .returned (.tuple #[.pointer (some ⟨b, 0, none⟩), .int .i64 0]) ∧ DiskAt w' F b (DD.new n m) ∧ Only NoB w w' ∧ ∀ k, F k → w.heap.size ≤ k
set_option maxHeartbeats 400000 in
theorem new_ok (n m : Nat) (h1 : 1 ≤ n) (h2 : n ≤ 65536) (h3 : 16 ≤ m) (h4 : m ≤ 4096) (w : World) : Calls Tryz.prog 76 #[.int .i64 n, .int .i64 m] w (Made w n m) := by
 have e1 : decide ((n : Int) < 1) = false := by simp; omega
 have e2 : decide ((n : Int) > 65536) = false := by simp; omega
 have e3 : decide ((m : Int) < 16) = false := by simp; omega
 have e4 : decide ((m : Int) > 4096) = false := by simp; omega
 have hmm := fun w => @run_makeMap Tryz.prog w
 go_enter Tryz.func76, Tryz.ntmps76
 go_wp2_with fail
 go_ret2
 have hb : Blk ((w.alloc (.map #[] 0)).alloc (.cells (diskCells (DD.new n m) w.heap.size (.slice none 0 0) (.slice none 0 0)) 233)) (w.heap.size + 1) 233 (diskCells (DD.new n m) w.heap.size (.slice none 0 0) (.slice none 0 0)) := by
  have := Blk.new (w.alloc (.map #[] 0)) 233 (diskCells (DD.new n m) w.heap.size (.slice none 0 0) (.slice none 0 0))
  rw [World.size_alloc] at this
  exact this
 refine ⟨w.heap.size + 1, fun k => k = w.heap.size ∨ k = w.heap.size + 1, rfl, ⟨?_, fun _ => False, w.heap.size, .slice none 0 0, .slice none 0 0, [], fun _ => none, ⟨DD.Wf.new h1 h2 h3 h4, id, id, fun _ _ => id, fun _ hk => hk.elim, hb, World.ownsRow_nil _ _ _ _, trivial, ?_, fun i _ => rfl, Rd.nil _ _ _, by simp [DD.new], by simp [DD.new], by simp [DD.new]⟩, ?_⟩, ((Only.refl NoB w).alloc _).alloc _, ?_⟩
 ·rintro k (rfl | rfl) <;> simp; omega
 ·exact (IMap.made w).keep (Below.heap_alloc _ _ _ (by simp))
 ·rintro k (hk | rfl | rfl | hk)
  ·exact hk.elim
  ·exact .inr rfl
  ·exact .inl rfl
  ·cases hk
 ·rintro k (rfl | rfl) <;> omega
end
end Go.Proofs.YtpjfheadolphgaaGreat
namespace Go.Proofs.YtpjfheadolphgaaGreat
open Go.RowKit Go.Proofs
set_option maxRecDepth 20000
section
variable {w0 w w' : World} {b : Nat} {D : DD} {F : Nat → Prop}
theorem only_new {F : Nat → Prop} {w0 w w' : World} (h : Only NoB w0 w) (ho : Only F w w') (hF : ∀ k, F k → w0.heap.size ≤ k) : Only NoB w0 w' :=
 h.trans' ho fun i hi hk => by have := hF i hk; omega
end
end Go.Proofs.YtpjfheadolphgaaGreat
namespace Go.Proofs.YtpjfheadolphgaaGreat
open Go.RowKit Go.Proofs
set_option maxRecDepth 20000
structure WD where
 D : DD
 log : Nat
 dead : Bool
def walCells (b : Nat) (W : WD) : Array Value :=
 #[.pointer (some ⟨b, 0, none⟩), .int .i64 (W.log : Int), .int .i64 ((W.D.n - 1 - W.log : Nat) : Int), .int .i64 (W.D.m : Int), .bool W.dead]
structure WalIn (w : World) (G : Nat → Prop) (a b : Nat) (W : WD) : Prop where
 disk : DiskAt w G b W.D
 blk : Blk w a 237 (walCells b W)
 off : ¬ G a
 log1 : 1 ≤ W.log
 log2 : 3 + 3 * W.log ≤ W.D.m
 log3 : 1 + W.log < W.D.n
section
variable {w w' : World} {F G : Nat → Prop} {a b : Nat} {W : WD}
theorem WalIn.cell (h : WalIn w G a b W) (i : Nat) (v : Value) (hi : (walCells b W)[i]? = some v) : w.cell? ⟨a, i, none⟩ = some v := by rw [h.blk.cell, hi]
theorem WalIn.only (h : WalIn w G a b W) (ho : Only F w w') (hd : ∀ k, (G k ∨ k = a) → ¬ F k) : WalIn w' G a b W :=
 ⟨h.disk.only ho fun k hk => hd k (.inl hk), h.blk.only ho (hd a (.inr rfl)), h.off, h.log1, h.log2, h.log3⟩
theorem WalIn.quit (h : WalIn w G a b W) (ho : Only NoB w w') : WalIn w' G a b W := h.only ho fun _ _ => id
theorem WalIn.read (h : WalIn w G a b W) (s : Int) : Calls Tryz.prog 162 #[.pointer (some ⟨b, 0, none⟩), .int .i64 s] w (ReadOut2 w (DD.read s W.D).1 (DD.read s W.D).2) := read_any2 h.disk s
theorem Grows.only {F' : Nat → Prop} {w2 : World} (hg : Grows F F' w) (ho : Only F w w') (hk : Only F' w' w2) : Only F w w2 := ho.steps hg hk
end
end Go.Proofs.YtpjfheadolphgaaGreat
namespace Go.Proofs.YtpjfheadolphgaaGreat
open Go.RowKit Go.Proofs
set_option maxRecDepth 20000
abbrev Ch := Int × List UInt8
end Go.Proofs.YtpjfheadolphgaaGreat
namespace Go.Proofs.YtpjfheadolphgaaGreat
structure Held (D : PD) (P : List Nat) : Prop where
 nodup : P.Nodup
 is : ∀ q ∈ P, D.is q = true
 used : ∀ q ∈ P, D.used q = true
structure Turned (D D' : PD) (P P' : List Nat) : Prop where
 n : D'.n = D.n
 m : D'.m = D.m
 own : D'.own = D.own
 root : D'.root = D.root
 page : ∀ q, q ∉ P → D.used q = true → D'.page q = D.page q
 fresh : ∀ q ∈ P', q ∈ P ∨ D.used q = false
 used : ∀ q, D'.used q = true ↔ q ∈ P' ∨ (D.used q = true ∧ q ∉ P)
 nodup : P'.Nodup
 is : ∀ q ∈ P', D.is q = true
def FreeGE (D : PD) (k : Nat) : Prop := ∃ L : List Nat, L.Nodup ∧ L.length = k ∧ ∀ q ∈ L, D.is q = true ∧ D.used q = false
def Ent.wt (e : Ent) : Nat := e.P.length + e.f
def sumW (es : List Ent) : Nat := (es.map Ent.wt).sum
section
variable {D D' D'' : PD} {P P' P'' A B : List Nat} {k : Nat}
theorem sumW_append (a b : List Ent) : sumW (a ++ b) = sumW a + sumW b := by simp [sumW]
theorem sumW_cons (e : Ent) (b : List Ent) : sumW (e :: b) = e.wt + sumW b := by simp [sumW]
theorem sumW_eq : ∀ es : List Ent, sumW es = (flatP es).length + sumF es
 | [] => rfl
 | e :: es => by rw [sumW_cons, sumW_eq es, flatP_cons, sumF_cons, List.length_append, Ent.wt]; omega
theorem is_of (hn : D'.n = D.n) (ho : D'.own = D.own) (q : Nat) : D'.is q = D.is q := by unfold PD.is; rw [hn, ho]
theorem Turned.is_ (h : Turned D D' P P') (q : Nat) : D'.is q = D.is q := is_of h.n h.own q
theorem Turned.held (h : Turned D D' P P') : Held D' P' := ⟨h.nodup, fun q hq => by rw [h.is_]; exact h.is q hq, fun q hq => (h.used q).2 (.inl hq)⟩
theorem Turned.refl (h : Held D P) : Turned D D P P :=
 ⟨rfl, rfl, rfl, rfl, fun _ _ _ => rfl, fun q hq => .inl hq, fun q => ⟨fun hu => by by_cases hq : q ∈ P; (· exact .inl hq); (· exact .inr ⟨hu, hq⟩), fun hq => hq.elim (h.used q) (·.1)⟩, h.nodup, h.is⟩
theorem Turned.trans (h : Turned D D' P P') (k : Turned D' D'' P' P'') : Turned D D'' P P'' := by
 refine ⟨k.n.trans h.n, k.m.trans h.m, k.own.trans h.own, k.root.trans h.root, fun q hq hu => ?_, fun q hq => ?_, fun q => ?_, k.nodup, fun q hq => by rw [← h.is_]; exact k.is q hq⟩
 ·have h1 := (h.used q).2 (.inr ⟨hu, hq⟩)
  have h2 : q ∉ P' := fun h3 => by rcases h.fresh q h3 with h4 | h4; (· exact hq h4); (· rw [hu] at h4; cases h4)
  rw [k.page q h2 h1, h.page q hq hu]
 ·rcases k.fresh q hq with h1 | h1
  ·exact h.fresh q h1
  ·by_cases hP : q ∈ P
   ·exact .inl hP
   ·refine .inr ?_
    cases hu : D.used q with
    | false => rfl
    | true => rw [(h.used q).2 (.inr ⟨hu, hP⟩)] at h1; cases h1
 ·constructor
  ·intro hu
   rcases (k.used q).1 hu with h1 | ⟨h1, h2⟩
   ·exact .inl h1
   ·rcases (h.used q).1 h1 with h3 | h3
    ·exact (h2 h3).elim
    ·exact .inr h3
  ·rintro (h1 | ⟨h1, h2⟩)
   ·exact (k.used q).2 (.inl h1)
   ·refine (k.used q).2 (.inr ⟨(h.used q).2 (.inr ⟨h1, h2⟩), fun h3 => ?_⟩)
    rcases h.fresh q h3 with h4 | h4
    ·exact h2 h4
    ·rw [h1] at h4; cases h4
theorem Turned.perm {Q Q' : List Nat} (h : Turned D D' P P') (hP : P.Perm Q) (hP' : P'.Perm Q') : Turned D D' Q Q' :=
 ⟨h.n, h.m, h.own, h.root, fun q hq hu => h.page q (fun h1 => hq (hP.mem_iff.1 h1)) hu, fun q hq => (h.fresh q (hP'.mem_iff.2 hq)).imp hP.mem_iff.1 id,
  fun q => by rw [h.used q, hP.mem_iff, hP'.mem_iff], hP'.nodup_iff.1 h.nodup, fun q hq => h.is q (hP'.mem_iff.2 hq)⟩
theorem Held.mid (h : Held D (A ++ P ++ B)) : Held D P := ⟨by have := h.nodup; rw [List.append_assoc, List.nodup_append] at this; exact (List.nodup_append.1 this.2.1).1, fun q hq => h.is q (by simp [hq]), fun q hq => h.used q (by simp [hq])⟩
theorem Turned.ctx (h : Turned D D' P P') (hh : Held D (A ++ P ++ B)) : Turned D D' (A ++ P ++ B) (A ++ P' ++ B) := by
 have hn := hh.nodup
 rw [List.append_assoc, List.nodup_append] at hn
 obtain ⟨hA, hPB, hAP⟩ := hn
 rw [List.nodup_append] at hPB
 obtain ⟨hP, hB, hPB⟩ := hPB
 have hnot : ∀ q ∈ P', q ∉ A ∧ q ∉ B := by
  intro q hq
  rcases h.fresh q hq with h1 | h1
  ·exact ⟨fun h2 => hAP q h2 q (by simp [h1]) rfl, fun h2 => hPB q h1 q h2 rfl⟩
  ·exact ⟨fun h2 => (by rw [hh.used q (by simp [h2])] at h1; cases h1), fun h2 => (by rw [hh.used q (by simp [h2])] at h1; cases h1)⟩
 refine ⟨h.n, h.m, h.own, h.root, fun q hq hu => h.page q (fun h1 => hq (by simp [h1])) hu, fun q hq => ?_, fun q => ?_, ?_, fun q hq => ?_⟩
 ·simp only [List.mem_append] at hq ⊢
  rcases hq with (hq | hq) | hq
  ·exact .inl (.inl (.inl hq))
  ·exact (h.fresh q hq).imp (fun h => .inl (.inr h)) id
  ·exact .inl (.inr hq)
 ·rw [h.used q]
  simp only [List.mem_append]
  constructor
  ·rintro (h1 | ⟨h1, h2⟩)
   ·exact .inl (.inl (.inr h1))
   ·by_cases h3 : q ∈ A
    ·exact .inl (.inl (.inl h3))
    ·by_cases h4 : q ∈ B
     ·exact .inl (.inr h4)
     ·exact .inr ⟨h1, fun h5 => by rcases h5 with (h5 | h5) | h5 <;> contradiction⟩
  ·rintro (((h1 | h1) | h1) | ⟨h1, h2⟩)
   ·exact .inr ⟨hh.used q (by simp [h1]), fun h2 => hAP q h1 q (by simp [h2]) rfl⟩
   ·exact .inl h1
   ·exact .inr ⟨hh.used q (by simp [h1]), fun h2 => hPB q h2 q h1 rfl⟩
   ·exact .inr ⟨h1, fun h3 => h2 (.inl (.inr h3))⟩
 ·rw [List.append_assoc, List.nodup_append]
  refine ⟨hA, List.nodup_append.2 ⟨h.nodup, hB, fun a ha b hb e => ?_⟩, fun a ha b hb e => ?_⟩
  ·subst e; exact (hnot a ha).2 hb
  ·subst e
   rcases List.mem_append.1 hb with hb | hb
   ·exact (hnot a hb).1 ha
   ·exact hAP a ha a (by simp [hb]) rfl
 ·simp only [List.mem_append] at hq
  rcases hq with (hq | hq) | hq
  ·exact hh.is q (by simp [hq])
  ·exact h.is q hq
  ·exact hh.is q (by simp [hq])
theorem Turned.sub {h : Nat} {e : Ent} {hi : Option Str} (ht : Turned D D' P P') (hd : ∀ q ∈ e.P, q ∉ P) (hu : ∀ q ∈ e.P, D.used q = true) (hs : Sub D h e hi) : Sub D' h e hi :=
 sub_frame ht.m (fun q hq => ht.page q (hd q hq) (hu q hq)) hs
theorem Turned.chain {h : Nat} {es : List Ent} {hi : Option Str} (ht : Turned D D' P P') (hd : ∀ q ∈ flatP es, q ∉ P) (hu : ∀ q ∈ flatP es, D.used q = true) (hs : ChainW (Sub D h) hi es) : ChainW (Sub D' h) hi es :=
 hs.imp fun e he _ hs => ht.sub (fun q hq => hd q (List.mem_flatMap.2 ⟨e, he, hq⟩)) (fun q hq => hu q (List.mem_flatMap.2 ⟨e, he, hq⟩)) hs
theorem turned_put (h : Held D P) {c : Nat} (hc : c ∈ P) (l : List UInt8) : Turned D (PD.putPage c l D) P P :=
 ⟨rfl, rfl, rfl, rfl, fun q hq _ => by simp only [PD.putPage, DD.setS]; rw [if_neg (fun e : q = c => hq (e ▸ hc))], fun q hq => .inl hq, (Turned.refl h).used, h.nodup, h.is⟩
theorem page_put (c : Nat) (l : List UInt8) : (PD.putPage c l D).page c = l := by simp [PD.putPage, DD.setS]
theorem page_put_ne {c q : Nat} (h : q ≠ c) (l : List UInt8) : (PD.putPage c l D).page q = D.page q := by simp [PD.putPage, DD.setS, h]
theorem FreeGE.mono {j : Nat} (h : FreeGE D k) (hj : j ≤ k) : FreeGE D j := by
 obtain ⟨L, h1, h2, h3⟩ := h
 exact ⟨L.take j, List.Pairwise.sublist (List.take_sublist _ _) h1, by rw [List.length_take, h2]; omega, fun q hq => h3 q (List.mem_of_mem_take hq)⟩
theorem FreeGE.same (h : FreeGE D k) (hn : D'.n = D.n) (ho : D'.own = D.own) (hu : D'.used = D.used) : FreeGE D' k := by
 obtain ⟨L, h1, h2, h3⟩ := h
 exact ⟨L, h1, h2, fun q hq => by rw [is_of hn ho, hu]; exact h3 q hq⟩
theorem FreeGE.put (h : FreeGE D k) (c : Nat) (l : List UInt8) : FreeGE (PD.putPage c l D) k := h.same rfl rfl rfl
theorem take_some (h : FreeGE D (k + 1)) : ∃ r, D.take = (PD.putPage r (DD.zero D.m) (PD.turn r true D), (r, 0)) ∧ D.is r = true ∧ D.used r = false ∧ FreeGE (PD.turn r true D) k := by
 obtain ⟨L, h1, h2, h3⟩ := h
 cases hf : D.free (D.own + 1) (D.n - (D.own + 1)) with
 | none =>
  exfalso
  obtain ⟨q, hq⟩ : ∃ q, q ∈ L := List.exists_mem_of_ne_nil _ (by intro e; rw [e] at h2; cases h2)
  obtain ⟨h4, h5⟩ := h3 q hq
  unfold PD.is at h4
  simp at h4
  have := PD.free_none hf q (by omega) (by omega)
  rw [this] at h5
  cases h5
 | some r =>
  obtain ⟨h4, h5, h6, h7⟩ := PD.free_some hf
  refine ⟨r, by unfold PD.take; rw [hf], by unfold PD.is; simp; omega, h6, ?_⟩
  by_cases hr : r ∈ L
  ·refine ⟨L.erase r, h1.erase r, by rw [List.length_erase_of_mem hr, h2]; rfl, fun q hq => ?_⟩
   have hq' := (List.Nodup.mem_erase_iff h1).1 hq
   refine ⟨by rw [is_of (D := D) (D' := PD.turn r true D) rfl rfl]; exact (h3 q hq'.2).1, ?_⟩
   simp only [PD.turn]
   rw [if_neg hq'.1]
   exact (h3 q hq'.2).2
  ·refine FreeGE.mono (k := k + 1) ⟨L, h1, h2, fun q hq => ?_⟩ (by omega)
   refine ⟨by rw [is_of (D := D) (D' := PD.turn r true D) rfl rfl]; exact (h3 q hq).1, ?_⟩
   simp only [PD.turn]
   rw [if_neg (fun e : q = r => hr (e ▸ hq))]
   exact (h3 q hq).2
theorem turned_take (h : Held D P) {r : Nat} (hr : D.is r = true) (hu : D.used r = false) (l : List UInt8) : Turned D (PD.putPage r l (PD.turn r true D)) P (r :: P) := by
 refine ⟨rfl, rfl, rfl, rfl, fun q hq h1 => ?_, fun q hq => ?_, fun q => ?_, ?_, fun q hq => ?_⟩
 ·rw [page_put_ne (fun e => by rw [e, hu] at h1; cases h1)]
  rfl
 ·rcases List.mem_cons.1 hq with rfl | hq
  ·exact .inr hu
  ·exact .inl hq
 ·simp only [PD.putPage, PD.turn, List.mem_cons]
  by_cases e : q = r
  ·simp [e]
  ·rw [if_neg e]
   constructor
   ·intro h1
    by_cases h2 : q ∈ P
    ·exact .inl (.inr h2)
    ·exact .inr ⟨h1, h2⟩
   ·rintro ((h1 | h1) | h1)
    ·exact (e h1).elim
    ·exact h.used q h1
    ·exact h1.1
 ·refine List.nodup_cons.2 ⟨fun h1 => ?_, h.nodup⟩
  rw [h.used r h1] at hu
  cases hu
 ·rcases List.mem_cons.1 hq with rfl | hq
  ·exact hr
  ·exact h.is q hq
theorem turned_give {r : Nat} (h : Held D (A ++ r :: B)) : Turned D (PD.turn r false D) (A ++ r :: B) (A ++ B) := by
 have hn := h.nodup
 have hn2 : (r :: (A ++ B)).Nodup := (List.perm_middle.nodup_iff).1 hn
 obtain ⟨h1, h2⟩ := List.nodup_cons.1 hn2
 refine ⟨rfl, rfl, rfl, rfl, fun q hq _ => rfl, fun q hq => .inl ?_, fun q => ?_, h2, fun q hq => h.is q ?_⟩
 ·simp at hq ⊢; rcases hq with hq | hq <;> simp [hq]
 ·simp only [PD.turn]
  by_cases e : q = r
  ·subst e
   simp only [if_true]
   constructor
   ·intro h3; cases h3
   ·rintro (h3 | ⟨_, h3⟩)
    ·exact (h1 h3).elim
    ·exact (h3 (by simp)).elim
  ·rw [if_neg e]
   constructor
   ·intro h3
    by_cases h4 : q ∈ A ++ B
    ·exact .inl h4
    ·refine .inr ⟨h3, fun h5 => h4 ?_⟩
     simp at h5 ⊢
     rcases h5 with h5 | h5 | h5
     ·exact .inl h5
     ·exact (e h5).elim
     ·exact .inr h5
   ·rintro (h3 | h3)
    ·apply h.used q
     simp at h3 ⊢
     rcases h3 with h3 | h3 <;> simp [h3]
    ·exact h3.1
 ·simp at hq ⊢; rcases hq with hq | hq <;> simp [hq]
end
end Go.Proofs.YtpjfheadolphgaaGreat
namespace Go.Proofs.YtpjfheadolphgaaGreat
def cut (half : Nat) : List Nat → Nat → Nat
 | [], _ => 0
 | s :: l, acc => if l = [] then 0 else if acc < half then 1 + cut half l (acc + s) else 0
theorem cut_lt (half : Nat) : ∀ (l : List Nat) (acc : Nat), l ≠ [] → cut half l acc < l.length
 | [], _, h => (h rfl).elim
 | s :: l, acc, _ => by
  rw [cut]
  split
  ·simp
  ·rename_i hl
   split
   ·have := cut_lt half l (acc + s) hl
    simp; omega
   ·simp
theorem cut_le_half (half q : Nat) : ∀ (l : List Nat) (acc : Nat), (∀ s ∈ l, s ≤ q) → cut half l acc = 0 ∨ acc + (l.take (cut half l acc)).sum < half + q
 | [], _, _ => .inl rfl
 | s :: l, acc, h => by
  rw [cut]
  split
  ·exact .inl rfl
  ·split
   ·rename_i hl hacc
    right
    rw [Nat.add_comm 1, List.take_succ_cons, List.sum_cons]
    have hs := h s (by simp)
    rcases cut_le_half half q l (acc + s) (fun x hx => h x (by simp [hx])) with h1 | h1
    ·rw [h1]; simp; omega
    ·omega
   ·exact .inl rfl
theorem half_le_cut (half : Nat) : ∀ (l : List Nat) (acc : Nat), l ≠ [] → half ≤ acc + (l.take (cut half l acc)).sum ∨ cut half l acc + 1 = l.length
 | [], _, h => (h rfl).elim
 | s :: l, acc, _ => by
  rw [cut]
  split
  ·rename_i hl; subst hl; exact .inr rfl
  ·rename_i hl
   split
   ·rw [Nat.add_comm 1, List.take_succ_cons, List.sum_cons]
    rcases half_le_cut half l (acc + s) hl with h1 | h1
    ·exact .inl (by omega)
    ·exact .inr (by simp; omega)
   ·exact .inl (by simp; omega)
theorem cut_step (half : Nat) : ∀ (l : List Nat) (acc k : Nat), k ≤ cut half l acc → (k < cut half l acc ↔ k + 1 < l.length ∧ acc + (l.take k).sum < half)
 | [], acc, k, h => by simp [cut] at h ⊢
 | s :: l, acc, k, h => by
  rw [cut] at h ⊢
  split at h
  ·rename_i hl
   subst hl
   simp at h; subst h; simp
  ·rename_i hl
   have hlen : 0 < l.length := List.length_pos_iff.2 hl
   split at h
   ·rename_i hacc
    rw [if_neg hl, if_pos hacc]
    rcases k with _ | k
    ·simp; omega
    ·have := cut_step half l (acc + s) k (by omega)
     rw [List.take_succ_cons, List.sum_cons, List.length_cons, ← Nat.add_assoc, show (k + 1 < 1 + cut half l (acc + s)) ↔ k < cut half l (acc + s) by omega, this]
     omega
   ·rename_i hacc
    rw [if_neg hl, if_neg hacc]
    obtain rfl : k = 0 := by omega
    simp; omega
def szP (p : KV) : Nat := 2 + p.1.length + p.2.length
def szK (k : Str) : Nat := 4 + k.length
theorem sum_szP : ∀ ps : List KV, (ps.map szP).sum = NodeD.sizeP ps
 | [] => rfl
 | p :: ps => by rw [List.map_cons, List.sum_cons, sum_szP ps, NodeD.sizeP, szP]
theorem sum_szK : ∀ ks : List Str, (ks.map szK).sum = NodeD.sizeK ks + 3 * ks.length
 | [] => rfl
 | k :: ks => by rw [List.map_cons, List.sum_cons, sum_szK ks, NodeD.sizeK, szK, List.length_cons]; omega
def splitAt (n : NodeD) (m : Nat) : Nat := if n.leaf then cut (m / 2) (n.pairs.map szP) 0 else cut (m / 2) (n.keys.map szK) 0
def splitN (n : NodeD) (m : Nat) : NodeD × Str × NodeD :=
 if n.leaf then (⟨true, n.pairs.take (splitAt n m), [], []⟩, (n.pairs.getD (splitAt n m) ([], [])).1, ⟨true, n.pairs.drop (splitAt n m), [], []⟩)
 else (⟨false, [], n.keys.take (splitAt n m), n.children.take (splitAt n m + 1)⟩, n.keys.getD (splitAt n m) [], ⟨false, [], n.keys.drop (splitAt n m + 1), n.children.drop (splitAt n m + 1)⟩)
def settleD (c : Nat) (n : NodeD) (D : PD) : PD × Str × Nat :=
 if n.size ≤ D.m then (PD.putPage c (n.bytes D.m) D, [], 0)
 else (PD.putPage c ((splitN n D.m).1.bytes D.m) (PD.putPage D.take.2.1 ((splitN n D.m).2.2.bytes D.m) D.take.1), (splitN n D.m).2.1, D.take.2.1)
def KeyOk (m : Nat) (k : Str) : Prop := 1 ≤ k.length ∧ k.length ≤ 255 ∧ k.length ≤ NodeD.most m
def PairOk (m : Nat) (p : KV) : Prop := 1 ≤ p.1.length ∧ p.1.length ≤ 255 ∧ p.2.length ≤ 255 ∧ p.1.length + p.2.length ≤ NodeD.most m
theorem leaf_ok {m : Nat} {ps : List KV} : (leafN ps).Ok m ↔ 3 + NodeD.sizeP ps ≤ m ∧ (∀ p ∈ ps, PairOk m p) ∧ Srt ps := by
 constructor
 ·intro h
  have := h.size
  simp [NodeD.size, leafN, NodeD.sizeK] at this
  exact ⟨this, h.pair, h.riseP⟩
 ·rintro ⟨h1, h2, h3⟩
  exact ⟨by simp [NodeD.size, leafN, NodeD.sizeK]; omega, fun _ => ⟨rfl, rfl⟩, (fun h => by cases h), by simp [leafN], h2, by simp [leafN], by simp [leafN], h3⟩
theorem inner_size (x : Ent) (es : List Ent) : (innerN (x :: es)).size = 6 + ((es.map Ent.lo).map szK).sum := by
 rw [sum_szK]
 simp [NodeD.size, innerN, NodeD.sizeP]
 omega
theorem inner_ok {m : Nat} {x : Ent} {es : List Ent} : (innerN (x :: es)).Ok m ↔ (innerN (x :: es)).size ≤ m ∧ (∀ e ∈ es, KeyOk m e.lo) ∧ (∀ e ∈ x :: es, 1 ≤ e.c ∧ e.c < 16777216) ∧ (es.map Ent.lo).Pairwise lts := by
 constructor
 ·intro h
  refine ⟨h.size, fun e he => h.key _ (List.mem_map_of_mem (by simpa using he)), fun e he => h.kid _ (List.mem_map_of_mem he), h.rise⟩
 ·rintro ⟨h1, h2, h3, h4⟩
  refine ⟨h1, (fun h => by cases h), fun _ => ⟨rfl, by simp [innerN]⟩, ?_, by simp [innerN], ?_, h4, List.Pairwise.nil⟩
  ·intro k hk
   obtain ⟨e, he, rfl⟩ := List.mem_map.1 hk
   exact h2 e (by simpa using he)
  ·intro k hk
   obtain ⟨e, he, rfl⟩ := List.mem_map.1 hk
   exact h3 e he
theorem most_le (m : Nat) (h : 64 ≤ m) : 4 * NodeD.most m + 32 ≤ m := by unfold NodeD.most; omega
theorem split_leaf {m : Nat} (hm : 64 ≤ m) {ps : List KV} (hok : ∀ p ∈ ps, PairOk m p) (h1 : m < 3 + NodeD.sizeP ps) (h2 : 3 + NodeD.sizeP ps ≤ m + NodeD.most m + 2) :
    ∃ a y b, ps = a ++ y :: b ∧ a ≠ [] ∧ splitN (leafN ps) m = (leafN a, y.1, leafN (y :: b)) ∧ full (leafN a) m = 0 ∧ full (leafN (y :: b)) m = 0 ∧ 3 + NodeD.sizeP a ≤ m ∧ 3 + NodeD.sizeP (y :: b) ≤ m ∧ splitAt (leafN ps) m = a.length := by
  have hmost := most_le m hm
  have hne : ps.map szP ≠ [] := by intro e; have : ps = [] := by simpa using e
                                   subst this; simp [NodeD.sizeP] at h1; omega
  have hlt := cut_lt (m / 2) (ps.map szP) 0 hne
  have hq : ∀ s ∈ ps.map szP, s ≤ NodeD.most m + 2 := by
    intro s hs
    obtain ⟨p, hp, rfl⟩ := List.mem_map.1 hs
    have := (hok p hp).2.2.2
    unfold szP; omega
  have hu := cut_le_half (m / 2) (NodeD.most m + 2) (ps.map szP) 0 hq
  have hl := half_le_cut (m / 2) (ps.map szP) 0 hne
  obtain ⟨k, hk⟩ : ∃ k, k = cut (m / 2) (ps.map szP) 0 := ⟨_, rfl⟩
  rw [← hk] at hlt hu hl
  rw [List.length_map] at hlt hl
  have hsum := sum_szP ps
  obtain ⟨a, ha⟩ : ∃ a, a = ps.take k := ⟨_, rfl⟩
  have hdrop : ps.drop k = ps[k] :: ps.drop (k + 1) := List.drop_eq_getElem_cons hlt
  have hps : ps = a ++ ps[k] :: ps.drop (k + 1) := by rw [ha, ← hdrop, List.take_append_drop]
  have hsz : NodeD.sizeP ps = NodeD.sizeP a + NodeD.sizeP (ps[k] :: ps.drop (k + 1)) := by rw [← NodeD.sizeP_append, ← hps]
  have htk : ((ps.map szP).take k).sum = NodeD.sizeP a := by rw [← List.map_take, sum_szP, ha]
  rw [htk] at hu hl
  have hyk : szP ps[k] ≤ NodeD.most m + 2 := hq _ (List.mem_map_of_mem (List.getElem_mem hlt))
  have hlast : k + 1 = ps.length → NodeD.sizeP (ps[k] :: ps.drop (k + 1)) ≤ NodeD.most m + 2 := by
    intro e
    rw [List.drop_of_length_le (by omega), NodeD.sizeP, NodeD.sizeP]
    unfold szP at hyk
    omega
  have ha0 : k ≠ 0 := by
    intro e
    rw [e] at ha
    simp at ha
    subst ha
    rw [NodeD.sizeP] at hl
    rcases hl with hl | hl
    · omega
    · have := hlast hl
      rw [NodeD.sizeP] at hsz
      omega
  have hal : a.length = k := by rw [ha, List.length_take]; omega
  have hA : NodeD.sizeP a < m / 2 + (NodeD.most m + 2) := by rcases hu with hu | hu <;> omega
  have hB : m / 2 ≤ NodeD.sizeP a := by
    rcases hl with hl | hl
    · omega
    · have := hlast hl; omega
  have hs1 : (leafN a).size = 3 + NodeD.sizeP a := by simp [NodeD.size, leafN, NodeD.sizeK]
  have hs2 : (leafN (ps[k] :: ps.drop (k + 1))).size = 3 + NodeD.sizeP (ps[k] :: ps.drop (k + 1)) := by simp [NodeD.size, leafN, NodeD.sizeK]
  have hsa : splitAt (leafN ps) m = k := by rw [hk]; rfl
  refine ⟨a, ps[k], ps.drop (k + 1), hps, fun e => by rw [e] at hal; simp at hal; omega, ?_, ?_, ?_, by omega, by omega, by rw [hsa, hal]⟩
  · unfold splitN
    rw [hsa]
    simp only [leafN, if_true]
    rw [← ha, ← hdrop, List.getD_eq_getElem?_getD, List.getElem?_eq_getElem hlt]
    rfl
  · unfold full; rw [hs1, if_neg (by omega)]
  · unfold full; rw [hs2, if_neg (by omega)]
theorem split_inner {m : Nat} (hm : 64 ≤ m) {x : Ent} {es : List Ent} (hok : ∀ e ∈ es, KeyOk m e.lo) (h1 : m < (innerN (x :: es)).size) (h2 : (innerN (x :: es)).size ≤ m + NodeD.most m + 4) :
  ∃ a y b, es = a ++ y :: b ∧ splitN (innerN (x :: es)) m = (innerN (x :: a), y.lo, innerN (y :: b)) ∧ full (innerN (x :: a)) m = 0 ∧ full (innerN (y :: b)) m = 0 ∧
   (innerN (x :: a)).size ≤ m ∧ (innerN (y :: b)).size ≤ m ∧ splitAt (innerN (x :: es)) m = a.length := by
 have hmost := most_le m hm
 rw [inner_size] at h1 h2
 obtain ⟨L, hL⟩ : ∃ L, L = (es.map Ent.lo).map szK := ⟨_, rfl⟩
 rw [← hL] at h1 h2
 have hne : L ≠ [] := by intro e; rw [e] at h1; simp at h1; omega
 have hlt := cut_lt (m / 2) L 0 hne
 have hq : ∀ s ∈ L, s ≤ NodeD.most m + 4 ∧ 5 ≤ s := by
  intro s hs
  rw [hL] at hs
  obtain ⟨k, hk, rfl⟩ := List.mem_map.1 hs
  obtain ⟨e, he, rfl⟩ := List.mem_map.1 hk
  have h3 := hok e he
  have := h3.2.2
  have := h3.1
  unfold szK; omega
 have hu := cut_le_half (m / 2) (NodeD.most m + 4) L 0 (fun s hs => (hq s hs).1)
 have hl := half_le_cut (m / 2) L 0 hne
 obtain ⟨k, hk⟩ : ∃ k, k = cut (m / 2) L 0 := ⟨_, rfl⟩
 rw [← hk] at hlt hu hl
 have hLl : L.length = es.length := by rw [hL]; simp
 have hdropL : L.drop k = L[k] :: L.drop (k + 1) := List.drop_eq_getElem_cons hlt
 have hsumL : L.sum = (L.take k).sum + (L[k] + (L.drop (k + 1)).sum) := by
  rw [← List.sum_cons, ← hdropL, ← List.sum_append, List.take_append_drop]
 have hLk := hq L[k] (List.getElem_mem hlt)
 have hke : k < es.length := by omega
 have hdrop : es.drop k = es[k] :: es.drop (k + 1) := List.drop_eq_getElem_cons hke
 have hlast : k + 1 = L.length → (L.drop (k + 1)).sum = 0 := by
  intro e; rw [List.drop_of_length_le (by omega)]; rfl
 have hA : (L.take k).sum < m / 2 + (NodeD.most m + 4) := by
  rcases hu with hu | hu
  ·rw [hu]; simp; omega
  ·omega
 have hB : m / 2 ≤ (L.take k).sum := by
  rcases hl with hl | hl
  ·omega
  ·have := hlast hl; omega
 have ht1 : ((es.take k).map Ent.lo).map szK = L.take k := by rw [hL, ← List.map_take, ← List.map_take]
 have ht2 : ((es.drop (k + 1)).map Ent.lo).map szK = L.drop (k + 1) := by rw [hL, ← List.map_drop, ← List.map_drop]
 have hs1 : (innerN (x :: es.take k)).size = 6 + (L.take k).sum := by rw [inner_size, ht1]
 have hs2 : (innerN (es[k] :: es.drop (k + 1))).size = 6 + (L.drop (k + 1)).sum := by rw [inner_size, ht2]
 have hsa : splitAt (innerN (x :: es)) m = k := by rw [hk, hL]; rfl
 refine ⟨es.take k, es[k], es.drop (k + 1), by rw [← hdrop, List.take_append_drop], ?_, ?_, ?_, by omega, by omega, by rw [hsa, List.length_take]; omega⟩
 ·unfold splitN
  rw [hsa]
  simp only [innerN, List.tail_cons, List.map_cons, List.take_succ_cons, List.drop_succ_cons, Bool.false_eq_true, if_false, List.map_take, List.map_drop]
  have e1 : (es.map Ent.lo).getD k [] = es[k].lo := by rw [List.getD_eq_getElem?_getD, List.getElem?_map, List.getElem?_eq_getElem hke]; rfl
  have e2 : (es.map Ent.c).drop k = es[k].c :: (es.map Ent.c).drop (k + 1) := by rw [← List.map_drop, hdrop, List.map_cons, List.map_drop]
  rw [e1, e2]
 ·unfold full; rw [hs1, if_neg (by omega)]
 ·unfold full; rw [hs2, if_neg (by omega)]
end Go.Proofs.YtpjfheadolphgaaGreat
namespace Go.Proofs.YtpjfheadolphgaaGreat
open Go.RowKit Go.Proofs
set_option maxRecDepth 20000
section
variable {w w' : World} {F G : Nat → Prop} {pv kv cv : Value} {n : NodeD} {m : Nat} {ks : List Str} {cs : List Nat} {ps : List KV}
theorem ok_keys (hok : n.Ok m) (hm : m ≤ 4096) : n.keys.length ≤ 4096 ∧ n.pairs.length ≤ 4096 ∧ n.children.length ≤ 4096 := by
 have h1 := sizeK_ge n.keys
 have h2 := sizeP_ge n.pairs
 have h3 : n.size = 3 + 3 * n.children.length + NodeD.sizeP n.pairs + NodeD.sizeK n.keys := rfl
 have := hok.size
 omega
set_option maxHeartbeats 2000000 in
theorem check_inner (h : NodeR w F pv kv cv ⟨false, [], ks, cs⟩) (hok : NodeD.Ok ⟨false, [], ks, cs⟩ m) (h1 : 64 ≤ m) (h2 : m ≤ 4096) : Calls Tryz.prog 145 #[nodeV false pv kv cv, .int .i64 m] w (Quit w (.int .i64 0)) := by
 have hsz := hok.size
 obtain ⟨i1, i2⟩ := hok.inner rfl
 have hl := ok_keys hok h2
 obtain ⟨pA, pc, kA, kc, cA, cc, rfl, rfl, rfl⟩ := h.shape
 simp only [List.length_nil] at i2 hl ⊢
 obtain ⟨W1, hW1⟩ : ∃ W1, W1 = (w.alloc (.cells #[.bool false, .slice pA 0 pc, .slice kA ks.length kc, .slice cA cs.length cc] 200)).alloc (.cells #[.int .i64 (NodeD.most m)] 3) := ⟨_, rfl⟩
 have ho : Only NoB w W1 := by rw [hW1]; exact ((Only.refl NoB w).alloc _).alloc _
 have hcr : W1.cell? ⟨w.heap.size + 1, 0, none⟩ = some (.int .i64 (NodeD.most m)) := by
  rw [hW1]
  have := (Blk.new (w.alloc (.cells #[.bool false, .slice pA 0 pc, .slice kA ks.length kc, .slice cA cs.length cc] 200)) 3 #[.int .i64 (NodeD.most m)]).cell 0
  rw [World.size_alloc] at this
  exact this
 have hm1 := most_le m h1
 have hk := h.keys.only ho fun _ _ => id
 have hc := h.kids.only ho fun _ _ => id
 have HR : Hid (Calls Tryz.prog 237 #[.slice kA ks.length kc] W1 fun e w' => e = .returned (.bool true) ∧ W1 = w') := Lib.hid (rise_ok _ ks hk hok.rise (fun k hk => ⟨(hok.key k hk).1, (hok.key k hk).2.1⟩) (by omega))
 have HC : Hid (Calls Tryz.prog 130 #[.slice kA ks.length kc, .func (.func 238) #[] #[.pointer (some ⟨w.heap.size + 1, 0, none⟩)]] W1 fun e w' => e = .returned (.bool false) ∧ W1 = w') := Lib.hid (containsS_none _ ks hk _ (NodeD.most m) hcr (fun k hk => (hok.key k hk).2.2) (by omega) (by omega))
 have HD : Hid (Calls Tryz.prog 239 #[.slice cA cs.length cc, .func (.func 240) #[] #[]] W1 fun e w' => e = .returned (.bool false) ∧ W1 = w') := Lib.hid (containsI_none _ cs hc hok.kid (by omega))
 have HS : Hid (Calls Tryz.prog 242 #[nodeV false (.slice pA 0 pc) (.slice kA ks.length kc) (.slice cA cs.length cc)] W1 (Quit W1 (.int .i64 (NodeD.size ⟨false, [], ks, cs⟩)))) := Lib.hid (nsize_any (h.quit ho) (by omega))
 have HM := Lib.hid (most_ok m h1 h2 (w.alloc (.cells #[.bool false, .slice pA 0 pc, .slice kA ks.length kc, .slice cA cs.length cc] 200)))
 obtain ⟨sz, hs⟩ : ∃ sz, sz = NodeD.size ⟨false, [], ks, cs⟩ := ⟨_, rfl⟩
 rw [← hs] at HS hsz
 have HW1 := Lib.hid hW1
 have HO := Lib.hid ho
 have e2 : ((cs.length : Int) == (ks.length : Int) + 1) = true := by simp; omega
 have hcb : Blk W1 w.heap.size 200 #[.bool false, .slice pA 0 pc, .slice kA ks.length kc, .slice cA cs.length cc] := by rw [hW1]; exact (Blk.new w _ _).alloc _
 have HCB := Lib.hid hcb
 clear h hok i1 i2 hW1 ho hcr hs hk hc hcb
 unfold nodeV
 go_enter Tryz.func145, Tryz.ntmps145
 go_wp2_with fail
 refine HM.out.mono ?_
 rintro e w1 ⟨rfl, rfl⟩
 go_wp2_with fail
 rw [← HW1.out]
 have b0 := HCB.out.cell 0
 have b1 := HCB.out.cell 1
 have b2 := HCB.out.cell 2
 have b3 := HCB.out.cell 3
 refine HR.out.mono ?_
 rintro e w1 ⟨rfl, rfl⟩
 go_wp2_with fail
 refine HC.out.mono ?_
 rintro e w1 ⟨rfl, rfl⟩
 go_wp2_with fail
 refine HD.out.mono ?_
 rintro e w1 ⟨rfl, rfl⟩
 go_wp2_with fail
 refine HS.out.mono ?_
 rintro e w2 ⟨rfl, ho2⟩
 have HO2 := Lib.hid ho2
 clear ho2 b0 b1 b2 b3
 go_wp2_with fail
 go_ret
 exact ⟨rfl, HO.out.trans HO2.out⟩
def keysP (ps : List KV) : List Str := ps.map (·.1)
theorem keysP_take (ps : List KV) {k : Nat} (h : k < ps.length) : (keysP (ps.take (k + 1))).map strV = (keysP (ps.take k)).map strV ++ [strV ps[k].1] := by
 unfold keysP
 rw [List.take_succ_eq_append_getElem h, List.map_append, List.map_append]; rfl
set_option maxHeartbeats 4000000 in
theorem check_leaf (h : NodeR w F pv kv cv ⟨true, ps, [], []⟩) (hok : NodeD.Ok ⟨true, ps, [], []⟩ m) (hne : ps ≠ []) (h1 : 64 ≤ m) (h2 : m ≤ 4096) : Calls Tryz.prog 145 #[nodeV true pv kv cv, .int .i64 m] w (Quit w (.int .i64 0)) := by
 have hsz := hok.size
 have hl := ok_keys hok h2
 obtain ⟨pA, pc, kA, kc, cA, cc, rfl, rfl, rfl⟩ := h.shape
 simp only [List.length_nil] at hl ⊢
 obtain ⟨W1, hW1⟩ : ∃ W1, W1 = (w.alloc (.cells #[.bool true, .slice pA ps.length pc, .slice kA 0 kc, .slice cA 0 cc] 200)).alloc (.cells #[.int .i64 (NodeD.most m)] 3) := ⟨_, rfl⟩
 have ho : Only NoB w W1 := by rw [hW1]; exact ((Only.refl NoB w).alloc _).alloc _
 have hcr : W1.cell? ⟨w.heap.size + 1, 0, none⟩ = some (.int .i64 (NodeD.most m)) := by
  rw [hW1]
  have := (Blk.new (w.alloc (.cells #[.bool true, .slice pA ps.length pc, .slice kA 0 kc, .slice cA 0 cc] 200)) 3 #[.int .i64 (NodeD.most m)]).cell 0
  rw [World.size_alloc] at this
  exact this
 have hm1 := most_le m h1
 have HM := Lib.hid (most_ok m h1 h2 (w.alloc (.cells #[.bool true, .slice pA ps.length pc, .slice kA 0 kc, .slice cA 0 cc] 200)))
 have HNS : Hid (∀ W2, Only NoB W1 W2 → Calls Tryz.prog 242 #[nodeV true (.slice pA ps.length pc) (.slice kA 0 kc) (.slice cA 0 cc)] W2 (Quit W2 (.int .i64 (NodeD.size ⟨true, ps, [], []⟩)))) := Lib.hid fun W2 ho2 => nsize_any (h.quit (ho.trans ho2)) (by omega)
 have HRI : Hid (∀ W2 (v : Value), Rd W2 (From W1.heap.size) 1 v ps.length ((keysP ps).map strV) → Calls Tryz.prog 237 #[v] W2 fun e w' => e = .returned (.bool true) ∧ W2 = w') := Lib.hid fun W2 v hv => by
  have hlen : (keysP ps).length = ps.length := by simp [keysP]
  rw [← hlen] at hv
  refine rise_ok v (keysP ps) hv ?_ (fun k hk => ?_) (by omega)
  ·have := hok.riseP
   unfold keysP
   rw [List.pairwise_map]
   exact this
  ·obtain ⟨p, hp, rfl⟩ := List.mem_map.1 hk
   exact ⟨(hok.pair p hp).1, (hok.pair p hp).2.1⟩
 have HCO : Hid (∀ W2 (v : Value), Only NoB W1 W2 → Rd W2 (From W1.heap.size) 1 v ps.length ((keysP ps).map strV) → Calls Tryz.prog 130 #[v, .func (.func 238) #[] #[.pointer (some ⟨w.heap.size + 1, 0, none⟩)]] W2 fun e w' => e = .returned (.bool false) ∧ W2 = w') := Lib.hid fun W2 v ho2 hv => by
  have hlen : (keysP ps).length = ps.length := by simp [keysP]
  rw [← hlen] at hv
  refine containsS_none v (keysP ps) hv _ (NodeD.most m) (ho2.cell hcr id) (fun k hk => ?_) (by omega) (by omega)
  obtain ⟨p, hp, rfl⟩ := List.mem_map.1 hk
  have := (hok.pair p hp).2.2.2
  show p.1.length ≤ _
  omega
 have HCI : Hid (∀ W2, Only NoB W1 W2 → Calls Tryz.prog 239 #[.slice cA 0 cc, .func (.func 240) #[] #[]] W2 fun e w' => e = .returned (.bool false) ∧ W2 = w') := Lib.hid fun W2 ho2 => containsI_none _ [] (h.kids.only (ho.trans ho2) fun _ _ => id) (by simp) (by simp)
 have HP := Lib.hid (h.pairs.only ho fun _ _ => id)
 have HPO := Lib.hid hok.pair
 obtain ⟨sz, hs⟩ : ∃ sz, sz = NodeD.size ⟨true, ps, [], []⟩ := ⟨_, rfl⟩
 rw [← hs] at HNS hsz
 have HW1 := Lib.hid hW1
 have HO := Lib.hid ho
 have HCR := Lib.hid hcr
 have HWS : Hid (W1.heap.size = w.heap.size + 2) := Lib.hid (by rw [hW1]; simp)
 have hcb : Blk W1 w.heap.size 200 #[.bool true, .slice pA ps.length pc, .slice kA 0 kc, .slice cA 0 cc] := by rw [hW1]; exact (Blk.new w _ _).alloc _
 have HCB := Lib.hid hcb
 have hpos : 0 < ps.length := List.length_pos_iff.2 hne
 have e0 : ((ps.length : Int) == 0) = false := by simp; omega
 clear h hok hW1 ho hcr hs hcb hne
 unfold nodeV
 go_enter Tryz.func145, Tryz.ntmps145
 go_wp2_with fail
 refine HM.out.mono ?_
 rintro e w1 ⟨rfl, rfl⟩
 go_wp2_with fail
 rw [← HW1.out]
 go_loopw [7, 8, 48] (fun kv ok i wr => ∃ k : Nat, k ≤ ps.length ∧ i = .int .i64 k ∧ ok = .bool true ∧ Own wr (From W1.heap.size) 9 1 kv k ((keysP (ps.take k)).map strV) ∧ Only NoB W1 wr) (fun _ _ i _ => ps.length - (intOf i).toNat)
 case atStart => exact ⟨0, Nat.zero_le _, rfl, by simp, Own.nil _ _ _ _, Only.refl _ _⟩
 case round =>
  obtain ⟨k, hk, rfl, rfl, hown, ho1⟩ := hrel
  obtain ⟨vA, vc, rfl, _⟩ := hown.shape
  have HW := Lib.hid hown
  have HO1 := Lib.hid ho1
  by_cases hlt : k < ps.length
  ·obtain ⟨g, off, c', hve, _, _, hcell⟩ := HP.out.open_ (by omega)
   injection hve with q1 q2 q3
   subst q1; subst q3
   obtain ⟨p1, p2⟩ := pairL_get (List.getElem?_eq_getElem hlt)
   have c1 := HO1.out.cell (hcell _ _ p1) id
   have c2 := HO1.out.cell (hcell _ _ p2) id
   have cr := HO1.out.cell HCR.out id
   have hpo := HPO.out _ (List.getElem_mem hlt)
   have hkt := keysP_take ps hlt
   obtain ⟨⟨a, b⟩, hab⟩ : ∃ q, q = ps[k] := ⟨_, rfl⟩
   rw [← hab] at c1 c2 hpo hkt
   simp only at hpo
   obtain ⟨o1, o2, o3, o4⟩ := hpo
   unfold strV at c1 c2
   have HKT := Lib.hid hkt
   rw [← Nat.add_assoc] at c2
   have hsz1 := HO1.out.size
   have hws := HWS.out
   have hrs : w.heap.size + 1 < wr.heap.size := by omega
   clear hcell p1 p2 q2 hab hkt hown ho1 hws
   have HP1 : Hid (Own ((wr.alloc (.cells #[.string ⟨a.toArray⟩, .string ⟨b.toArray⟩] 83)).alloc (.cells #[.string ⟨a.toArray⟩] 9)) (From W1.heap.size) 9 1 (.slice vA k vc) k ((keysP (ps.take k)).map strV)) := Lib.hid ((HW.out.alloc _).alloc _)
   have HP2 : Hid (Rd ((wr.alloc (.cells #[.string ⟨a.toArray⟩, .string ⟨b.toArray⟩] 83)).alloc (.cells #[.string ⟨a.toArray⟩] 9)) (fun q => q = wr.heap.size + 1) 1 (.slice (some ⟨wr.heap.size + 1, 0, none⟩) 1 1) 1 [.string ⟨a.toArray⟩]) := Lib.hid (by
    have := rd_new (wr.alloc (.cells #[.string ⟨a.toArray⟩, .string ⟨b.toArray⟩] 83)) 9 1 1 [.string ⟨a.toArray⟩] rfl
    rw [World.size_alloc] at this
    exact this)
   have KA : Hid (∀ v7 w7, App ((wr.alloc (.cells #[.string ⟨a.toArray⟩, .string ⟨b.toArray⟩] 83)).alloc (.cells #[.string ⟨a.toArray⟩] 9)) (From W1.heap.size) 9 1 (.slice vA k vc) k 1 ((keysP (ps.take k)).map strV) [.string ⟨a.toArray⟩] v7 w7 →
     w7.cell? ⟨wr.heap.size, 0, none⟩ = some (.string ⟨a.toArray⟩) ∧ w7.cell? ⟨wr.heap.size, 1, none⟩ = some (.string ⟨b.toArray⟩) ∧ w7.cell? ⟨w.heap.size + 1, 0, none⟩ = some (.int .i64 (NodeD.most m)) ∧
     Own w7 (From W1.heap.size) 9 1 v7 (k + 1) ((keysP (ps.take (k + 1))).map strV) ∧ Only NoB W1 w7) := Lib.hid fun v7 w7 ha => by
    have hB : Blk ((wr.alloc (.cells #[.string ⟨a.toArray⟩, .string ⟨b.toArray⟩] 83)).alloc (.cells #[.string ⟨a.toArray⟩] 9)) wr.heap.size 83 #[.string ⟨a.toArray⟩, .string ⟨b.toArray⟩] := (Blk.new wr _ _).alloc _
    have hlt7 : ∀ q, (Value.slice vA k vc).ownBlock = some q → W1.heap.size ≤ q ∧ q < wr.heap.size := fun q hq => ⟨HW.out.2 q hq, HW.out.lt hq⟩
    have hB7 := hB.only ha.only fun e => by have := (hlt7 _ e).2; omega
    have hoo : Only NoB W1 w7 := only_new ((HO1.out.alloc _).alloc _) ha.only fun q hq => (hlt7 q hq).1
    refine ⟨hB7.cell 0, hB7.cell 1, hoo.cell HCR.out id, ?_, hoo⟩
    rw [HKT.out]
    exact ha.own.mono fun q hq _ => by rcases hq with hq | hq; (· exact hq); (· unfold From; rw [hq]; simp; omega)
   go_wp2_with (at_builtin; refine wpList_app rfl _ _ _ rfl (by kernel_rfl) Ty.str rfl rfl HP1.out HP2.out (by simp [Value.oneCell']) (by omega) ?_; intro v7 w7 ha7; obtain ⟨A7, c7, rfl, _⟩ := id ha7.shape; obtain ⟨cp1, cp2, cr7, k1, k2⟩ := KA.out _ _ ha7; have K1 := Lib.hid k1; have K2 := Lib.hid k2; clear ha7 k1 k2)
   have ed : decide ((a.length : Int) + (b.length : Int) ≤ (NodeD.most m : Int)) = true := by simp; omega
   exact ⟨⟨k + 1, by omega, rfl, by rw [ed], K1.out, K2.out⟩, by simp [intOf]; omega⟩
  ·obtain rfl : k = ps.length := by omega
   have hown' := HW.out
   rw [List.take_length] at hown'
   have HR := Lib.hid (HRI.out wr _ hown'.rd)
   have HC := Lib.hid (HCO.out wr _ HO1.out hown'.rd)
   have HD := Lib.hid (HCI.out wr HO1.out)
   have HS := Lib.hid (HNS.out wr HO1.out)
   have hcb := HCB.out.only HO1.out id
   have b0 := hcb.cell 0
   have b1 := hcb.cell 1
   have b2 := hcb.cell 2
   have b3 := hcb.cell 3
   clear hown' hown ho1 hcb
   go_wp2_with fail
   refine HR.out.mono ?_
   rintro e w1 ⟨rfl, rfl⟩
   go_wp2_with fail
   refine HC.out.mono ?_
   rintro e w1 ⟨rfl, rfl⟩
   go_wp2_with fail
   refine HD.out.mono ?_
   rintro e w1 ⟨rfl, rfl⟩
   go_wp2_with fail
   refine HS.out.mono ?_
   rintro e w2 ⟨rfl, ho2⟩
   have HO2 := Lib.hid ho2
   clear ho2 b0 b1 b2 b3
   go_wp2_with fail
   go_ret
   exact ⟨rfl, (HO.out.trans HO1.out).trans HO2.out⟩
end
end Go.Proofs.YtpjfheadolphgaaGreat
namespace Go.Proofs.YtpjfheadolphgaaGreat
open Go.RowKit Go.Lib
set_option maxRecDepth 20000
section
variable {P : Program} {w : World}
theorem wrap_zero64 : IntKind.i64.wrap 0 = 0 := by decide
theorem strCells_mk (l : List UInt8) : strCells ⟨l.toArray⟩ = l.map byteV := by simp [strCells, byteV]
theorem grown_own {F : Nat → Prop} {e : TypeId} {z : Value} {size bytes : Nat} (he : Elt P e z size bytes) {n m : Nat} {xs news : List Value} (hl : (xs ++ news).length = (n + m) * size) (h63 : n + m ≤ maxLen) (old : Nat) (v : Value) (A : Array Value)
  (hA : A = xs.toArray ++ news.toArray ++ Builtin.zeroCells z.cells (grownCap w (n + m) old e - (n + m))) (hnil : ¬ (v = .slice none 0 0 ∧ m = 0)) :
  App w F e size v n m xs news (.slice (some ⟨w.heap.size, 0, none⟩) (n + m) (grownCap w (n + m) old e)) (w.drew.alloc (.cells A e)) := by
 have hge := grownCap_ge w (n + m) old e
 have hcm : grownCap w (n + m) old e ≤ maxLen := grownCap_le_maxLen w (n + m) old e h63
 have hown : Own (w.drew.alloc (.cells A e)) (fun k => F k ∨ k = w.heap.size) e size (.slice (some ⟨w.heap.size, 0, none⟩) (n + m) (grownCap w (n + m) old e)) (n + m) (xs ++ news) := by
  refine ⟨⟨hl, .inr ⟨w.heap.size, _, _, rfl, Nat.zero_le _, heap_alloc_new w.drew _, hge, hcm, ?_, ?_⟩⟩, fun g hg => by injection hg with hg; exact .inr hg.symm⟩
  ·have hxl : xs.length + news.length = (n + m) * size := by rw [← List.length_append]; exact hl
   rw [hA]
   simp only [Array.size_append, List.size_toArray, size_zeroCells, he.2.1, hxl, ← Nat.add_mul]
   congr 1
   omega
  ·rw [hA]
   simp only [Array.toList_append, List.append_assoc]
   rw [← List.append_assoc, ← hl]
   exact List.take_left
 exact ⟨hown, (((Only.refl _ w).drew).alloc _), .inr rfl, ⟨_, _, rfl, hge⟩, by simp only [Value.slice.injEq, reduceCtorEq, false_and, false_iff]; exact hnil⟩
theorem room_own {F : Nat → Prop} {e : TypeId} {size : Nat} {n m g cap : Nat} {cur : Array Value} {xs news : List Value} (hl : (xs ++ news).length = (n + m) * size) (hxl : xs.length = n * size) (hg : w.heap[g]? = some (.cells cur e (0, 0))) (hroom : n + m ≤ cap) (hcm : cap ≤ maxLen)
  (hcs : cur.size = cap * size) (htake : cur.toList.take (n * size) = xs) (hF : F g) :
  App w F e size (.slice (some ⟨g, 0, none⟩) n cap) n m xs news (.slice (some ⟨g, 0, none⟩) (n + m) cap) (w.setRow g (cur.toList.take (n * size) ++ news ++ cur.toList.drop (n * size + news.length)).toArray) := by
 have hnl : news.length = m * size := by rw [List.length_append, hxl, Nat.add_mul] at hl; omega
 have hle : (n + m) * size ≤ cap * size := Nat.mul_le_mul_right _ hroom
 rw [Nat.add_mul] at hle
 refine ⟨⟨⟨hl, .inr ⟨g, cap, _, rfl, Nat.zero_le _, setRow_heap w g cur _ e _ hg, hroom, hcm, ?_, ?_⟩⟩, fun q hq => by injection hq with hq; subst hq; exact .inl hF⟩, ?_, .inl rfl, ⟨_, _, rfl, hroom⟩, by simp⟩
 ·have hct : cur.toList.length = cap * size := by rw [Array.length_toList]; exact hcs
  simp only [List.size_toArray, List.length_append, List.length_take, List.length_drop, hct]
  omega
 ·rw [htake, ← hl]
  exact List.take_left
 ·exact (only_setRow w g _).mono fun k _ hk => by rw [hk]; rfl
theorem run_app_str {t u ty e : TypeId} (ht : P.underlying t = some (.slice e)) (hu : P.underlying u = some .string) (he : Elt P e (.int .u8 0) 1 1) {F : Nat → Prop} {v : Value} {n : Nat} {xs : List Value} (hown : Own w F e 1 v n xs) (s : ByteArray)
  (hb : n + s.size ≤ 140737488355328) : ∃ v' w', (Builtin.append_ #[t, u] ty #[v, .string s]).run P w = .ok v' w' ∧ App w F e 1 v n s.size xs (strCells s) v' w' := by
 obtain ⟨i, hi, hz, hs, hby⟩ := he.parts
 have h63 : n + s.size ≤ maxLen := by simp only [maxLen]; omega
 have hxl : xs.length = n := by simpa using hown.1.1
 have hlen : (xs ++ strCells s).length = (n + s.size) * 1 := by rw [List.length_append, hxl, strCells_length, Nat.mul_one]
 rcases hown.1.2 with ⟨rfl, rfl⟩ | ⟨g, cap, cur, rfl, _, hg, hnc, hcm, hcs, htake⟩
 ·have hx : xs = [] := List.eq_nil_of_length_eq_zero hxl
  subst hx
  by_cases hm : s.size = 0
  ·have hn : strCells s = [] := List.eq_nil_of_length_eq_zero (by rw [strCells_length]; exact hm)
   refine ⟨.slice none 0 0, w, ?_, ?_⟩
   ·have hf := run_firstCells_string (P := P) w 1 s
    rw [hm] at hf
    simp [Builtin.append_, run_underlying ht, run_underlying hu, sizeOf, typeInfo, hi, hs, Builtin.lenOf, hm, hf]
   ·rw [hm, hn]
    exact ⟨Own.nil _ _ _ _, Only.refl _ _, .inl rfl, ⟨_, _, rfl, Nat.le_refl _⟩, by simp⟩
  ·have hr := run_append_nil_string (P := P) w t u ty e i (.int .u8 0) ht hu hi hz s (by omega) (by omega) (by rw [hby]; omega)
   have e1 : (s.data.map fun b => Value.int .u8 b.toNat) = (strCells s).toArray := by
    apply Array.ext'
    simp [strCells]
   rw [e1] at hr
   have := grown_own (F := F) (w := w) he (n := 0) (m := s.size) (xs := []) (news := strCells s) (by simp [strCells_length]) (by omega) 0 (.slice none 0 0) _ rfl (by simp [hm])
   simp only [Nat.zero_add, Array.empty_append, List.toArray] at this ⊢
   exact ⟨_, _, hr, this⟩
 ·by_cases hroom : n + s.size ≤ cap
  ·have hcs' : cur.size = cap := by simpa using hcs
   have hr := run_append_room_string (P := P) w t u ty e i ht hu hi hs g n cap cur hg s hroom (by omega)
   have := room_own (w := w) (F := F) hlen (by rw [hxl, Nat.mul_one]) hg hroom hcm hcs htake (hown.2 g rfl)
   simp only [Nat.mul_one, strCells_length] at this
   exact ⟨_, _, hr, this⟩
  ·have holds : ∀ j u, xs[j]? = some u → w.cell? ((⟨g, 0, none⟩ : Addr).add j) = some u := hown.1.cells (g := g) rfl
   have hr := run_append_grow_string (P := P) w t u ty e i (.int .u8 0) ht hu hi hz ⟨g, 0, none⟩ n cap xs (by rw [hs]; simpa using hxl) holds s (by omega) (by omega) (by rw [hby]; exact growslice_fits (by omega) (by omega))
   exact ⟨_, _, hr, grown_own he hlen h63 cap _ _ rfl (by simp)⟩
def zerosL (z : Value) (k : Nat) : List Value := (Builtin.zeroCells z.cells k).toList
theorem zerosL_len {z : Value} {size : Nat} (h : z.cells.size = size) (k : Nat) : (zerosL z k).length = k * size := by
 unfold zerosL; rw [Array.length_toList, size_zeroCells, h]
theorem zerosL_one {z : Value} (h : z.cells = #[z]) (k : Nat) : zerosL z k = List.replicate k z := by
 unfold zerosL Builtin.zeroCells
 rw [h]
 apply List.ext_getElem
 ·simp
 ·intro i h1 h2
  simp [Nat.mod_one]
theorem zerosL_cell {z : Value} (hz1 : ∀ u ∈ z.cells, u.oneCell' = true) (hz0 : 0 < z.cells.size) (k : Nat) : ∀ u ∈ zerosL z k, u.oneCell' = true := by
 intro u hu
 simp only [zerosL, Builtin.zeroCells, Array.toList_map, List.mem_map] at hu
 obtain ⟨j, hj, rfl⟩ := hu
 have hjs : j % z.cells.size < z.cells.size := Nat.mod_lt _ hz0
 rw [getElem!_pos z.cells _ hjs]
 exact hz1 _ (Array.getElem_mem _)
theorem run_app_zeros {t tn ty e : TypeId} {z : Value} {size bytes : Nat} {kq kn : IntKind} (ht : P.underlying t = some (.slice e)) (htn : P.underlying tn = some (.int kn)) (he : Elt P e z size bytes) (hzr : ∀ w, (zeroValue e).run P w = .ok z w) (hz1 : ∀ u ∈ z.cells, u.oneCell' = true)
  {F : Nat → Prop} {v : Value} {n : Nat} {xs : List Value} (hown : Own w F e size v n xs) (k : Nat) (hb : (n + k) * bytes ≤ 140737488355328) :
  ∃ v' w', (Builtin.append_ #[t, tn] ty #[v, .int kq k]).run P w = .ok v' w' ∧ App w F e size v n k xs (zerosL z k) v' w' := by
 obtain ⟨i, hi, hz, hs, hby⟩ := he.parts
 have hsz := he.2.2.1
 have hbp := he.2.2.2
 have hnk : n + k ≤ 140737488355328 := Nat.le_trans (Nat.le_mul_of_pos_right (n + k) hbp) hb
 have h63 : n + k ≤ maxLen := by simp only [maxLen]; omega
 have hkb : k * bytes ≤ 140737488355328 := Nat.le_trans (Nat.mul_le_mul_right _ (by omega)) hb
 have hxl := hown.1.1
 have hzl := zerosL_len he.2.1 k
 have hlen : (xs ++ zerosL z k).length = (n + k) * size := by rw [List.length_append, hxl, hzl, Nat.add_mul]
 have hw : IntKind.i64.wrap (k : Int) = k := by rw [IntKind.wrap_i64]; omega
 have hneg : ¬ ((k : Int) < 0) := by omega
 have h48i : ¬ (281474976710656 < (k : Int) * (i.bytes : Int)) := by
  rw [hby, ← Int.natCast_mul]
  omega
 rcases hown.1.2 with ⟨rfl, rfl⟩ | ⟨g, cap, cur, rfl, _, hg, hnc, hcm, hcs, htake⟩
 ·have hx : xs = [] := List.eq_nil_of_length_eq_zero (by simpa using hxl)
  subst hx
  by_cases hk : k = 0
  ·subst hk
   refine ⟨.slice none 0 0, w, ?_, ?_⟩
   ·simp [Builtin.append_, run_underlying ht, run_underlying htn, sizeOf, typeInfo, hi, asInt, asIntOf, wrap_zero64]
   ·have : zerosL z 0 = [] := List.eq_nil_of_length_eq_zero (by rw [hzl]; simp)
    rw [this]
    exact ⟨Own.nil _ _ _ _, Only.refl _ _, .inl rfl, ⟨_, _, rfl, Nat.le_refl _⟩, by simp⟩
  ·have hr := run_append_nil_zeros (P := P) w t tn ty e i z kq kn ht htn hi hz k (by omega) (by rw [hs]; exact hsz) (by omega) (by rw [hby]; omega)
   have := grown_own (F := F) (w := w) he (n := 0) (m := k) (xs := []) (news := zerosL z k) (by simpa using hlen) (by omega) 0 (.slice none 0 0) _ rfl (by simp [hk])
   simp only [Nat.zero_add, Array.empty_append, zerosL, Array.toArray_toList] at this ⊢
   exact ⟨_, _, hr, this⟩
 ·by_cases hroom : n + k ≤ cap
  ·have hfit : n * size + (zerosL z k).length ≤ cur.size := by rw [hzl, hcs, ← Nat.add_mul]; exact Nat.mul_le_mul_right _ hroom
   have hst := run_storeCells_at P g (n * size) e (zerosL z k) 0 cur w hg (by omega) (zerosL_cell hz1 (by rw [he.2.1]; exact hsz) k)
   simp only [Nat.add_zero] at hst
   have := room_own (w := w) (F := F) (news := zerosL z k) hlen hxl hg hroom hcm hcs htake (hown.2 g rfl)
   refine ⟨_, _, ?_, this⟩
   by_cases hk : k * size = 0
   ·have hz0 : zerosL z k = [] := List.eq_nil_of_length_eq_zero (by rw [hzl]; exact hk)
    rw [hz0] at hst ⊢
    simp only [storeCells] at hst
    have hks : k = 0 := by rcases Nat.mul_eq_zero.1 hk with h | h; (· exact h); (· omega)
    subst hks
    have hst' : w.setRow g cur = w := by
     have h1 := hst
     simp only [Sem.run_pure, List.append_nil, List.length_nil, Nat.add_zero, List.take_append_drop, Array.toArray_toList] at h1
     injection h1 with _ h1
     exact h1.symm
    simp [Builtin.append_, run_underlying ht, run_underlying htn, sizeOf, typeInfo, hi, asInt, asIntOf, wrap_zero64, hnc, storeCells, hst']
   ·have hz0 : (Builtin.zeroCells z.cells k).toList = zerosL z k := rfl
    rw [hby] at h48i
    simp [Builtin.append_, run_underlying ht, run_underlying htn, sizeOf, typeInfo, hi, hby, asInt, asIntOf, hw, hneg, h48i, hroom, hzr, hz0, Addr.add_lit, hs, hk, hst]
  ·have holds : ∀ j u, xs[j]? = some u → w.drew.cell? ((⟨g, 0, none⟩ : Addr).add j) = some u := hown.1.cells (g := g) rfl
   have hold := run_firstCells_some (P := P) w.drew i.size n ⟨g, 0, none⟩ n cap xs (by rw [hs]; exact hxl) holds
   have hk0 : 0 < k := by omega
   have hr := run_append_grow_zeros (P := P) w t tn ty e i z kq kn ht htn hi hz (some ⟨g, 0, none⟩) n cap xs hold k hk0 (by rw [hs]; exact hsz) (by omega) (by omega) (by rw [hby]; omega) (by rw [hby]; exact growslice_fits (by omega) hb)
   have := grown_own (F := F) (w := w) he (n := n) (m := k) (xs := xs) (news := zerosL z k) hlen h63 cap (.slice (some ⟨g, 0, none⟩) n cap) _ rfl (by simp)
   simp only [zerosL, Array.toArray_toList] at this ⊢
   exact ⟨_, _, hr, this⟩
theorem wpList_app_str {ops : Array Oper} {rest : List Oper} {o : Oper} {a : Act} {Q : Exit → Act → World → Prop} (hgd : o.guard = none) (s x : Operand) (t u : TypeId)
  (ho : o.op = .call { callee := .builtin .append, args := #[s, x], argTypes := #[t, u] }) {e : TypeId} (ht : P.underlying t = some (.slice e)) (hu : P.underlying u = some .string) (he : Elt P e (.int .u8 0) 1 1)
  {F : Nat → Prop} {v : Value} {n : Nat} {xs : List Value} (hs : a.eval s = v) {sv : ByteArray} (hx : a.eval x = .string sv) (hown : Own w F e 1 v n xs) (hb : n + sv.size ≤ 140737488355328)
  (hK : ∀ v' w', App w F e 1 v n sv.size xs (strCells sv) v' w' → wpList P ops Q rest (a.put o.dst v') w') : wpList P ops Q (o :: rest) a w := by
 subst hs
 obtain ⟨v', w', hrun, h2⟩ := run_app_str (ty := o.type) ht hu he hown sv hb
 exact wpList_append_run w hgd s x t u ho _ _ rfl hx v' w' hrun (hK _ _ h2)
theorem wpList_app_zeros {ops : Array Oper} {rest : List Oper} {o : Oper} {a : Act} {Q : Exit → Act → World → Prop} (hgd : o.guard = none) (s x : Operand) (t tn : TypeId)
  (ho : o.op = .call { callee := .builtin .append, args := #[s, x], argTypes := #[t, tn] }) {e : TypeId} {z : Value} {size bytes : Nat} {kq kn : IntKind} (ht : P.underlying t = some (.slice e)) (htn : P.underlying tn = some (.int kn)) (he : Elt P e z size bytes)
  (hzr : ∀ w, (zeroValue e).run P w = .ok z w) (hz1 : ∀ u ∈ z.cells, u.oneCell' = true)
  {F : Nat → Prop} {v : Value} {n : Nat} {xs : List Value} (hs : a.eval s = v) (k : Nat) (hx : a.eval x = .int kq k) (hown : Own w F e size v n xs) (hb : (n + k) * bytes ≤ 140737488355328)
  (hK : ∀ v' w', App w F e size v n k xs (zerosL z k) v' w' → wpList P ops Q rest (a.put o.dst v') w') : wpList P ops Q (o :: rest) a w := by
 subst hs
 obtain ⟨v', w', hrun, h2⟩ := run_app_zeros (ty := o.type) (kq := kq) ht htn he hzr hz1 hown k hb
 exact wpList_append_run w hgd s x t tn ho _ _ rfl hx v' w' hrun (hK _ _ h2)
theorem run_mk0 {t e : TypeId} {z : Value} {size bytes : Nat} (ht : P.underlying t = some (.slice e)) (he : Elt P e z size bytes) (kl kc : IntKind) (c : Nat) (hb : bytes * c ≤ 281474976710656) :
  ∃ w', (Instr.makeSlice t (.int kl 0) (.int kc c)).run P w = .ok (.slice (some ⟨w.heap.size, 0, none⟩) 0 c) w' ∧ Own w' (From w.heap.size) e size (.slice (some ⟨w.heap.size, 0, none⟩) 0 c) 0 [] ∧ Only NoB w w' := by
 obtain ⟨i, hi, hz, hs, hby⟩ := he.parts
 have hm : c ≤ maxLen := by
  have := Nat.le_trans (Nat.le_mul_of_pos_left c he.2.2.2) hb
  simp only [maxLen]; omega
 obtain ⟨w', hrun, hown, hg⟩ := run_make_own (P := P) w 0 t e i z size ht hi hz hs kl kc c (by rw [hby]; exact hb) hm (Nat.zero_le _)
 exact ⟨w', hrun, ⟨hown, fun g hg => by injection hg with hg; subst hg; exact Nat.le_refl _⟩, (Only.of_grown hg).mono fun k _ hk => by cases hk⟩
theorem wpList_mk0 {ops : Array Oper} {rest : List Oper} {o : Oper} {a : Act} {Q : Exit → Act → World → Prop} (hgd : o.guard = none) (l c : Operand) (t : TypeId) (hop : o.op = Op.makeSlice t l c)
  {e : TypeId} {z : Value} {size bytes : Nat} (ht : P.underlying t = some (.slice e)) (he : Elt P e z size bytes) (kl kc : IntKind) (n : Nat) (hl : a.eval l = .int kl 0) (hc : a.eval c = .int kc n) (hb : bytes * n ≤ 281474976710656)
  (hK : ∀ w', Own w' (From w.heap.size) e size (.slice (some ⟨w.heap.size, 0, none⟩) 0 n) 0 [] → Only NoB w w' → wpList P ops Q rest (a.put o.dst (.slice (some ⟨w.heap.size, 0, none⟩) 0 n)) w') : wpList P ops Q (o :: rest) a w := by
 refine wpList_plain hgd fun K hK' => ?_
 obtain ⟨w', hrun, r1, r2⟩ := run_mk0 (P := P) (w := w) ht he kl kc n hb
 unfold Oper.wp
 simp [execOp, hop, hl, hc, hrun, Result.andThen]
 exact hK' _ _ (hK w' r1 r2)
end
end Go.Proofs.YtpjfheadolphgaaGreat
namespace Go.Proofs.YtpjfheadolphgaaGreat
open Go.RowKit Go.Proofs
set_option maxRecDepth 20000
section
variable {w w' : World} {F G : Nat → Prop} {pv kv cv : Value} {n : NodeD} {m B : Nat} {ks : List Str} {cs : List Nat} {ps : List KV}
def More (w : World) (B e size : Nat) (v : Value) (n : Nat) (xs : List Value) (en : Ending) (w' : World) : Prop :=
 ∃ v', en = .returned v' ∧ Own w' (From B) e size v' n xs ∧ Only (fun k => v.ownBlock = some k) w w'
theorem more_two {e size k m1 m2 n : Nat} {v v7 v8 : Value} {xs a b c : List Value} {o : Obj} {w7 w8 : World} (hB : B ≤ w.heap.size) (h1 : App (w.alloc o) (From B) e size v k m1 xs a v7 w7)
  (h2 : App w7 (fun q => From B q ∨ q = (w.alloc o).heap.size) e size v7 (k + m1) m2 (xs ++ a) b v8 w8) (hc : xs ++ a ++ b = c) (hn : k + m1 + m2 = n) : More w B e size v n c (.returned v8) w8 := by
 subst hc; subst hn
 have s1 := h1.only.size
 simp at s1
 refine ⟨v8, rfl, h2.own.mono fun q hq _ => ?_, ?_⟩
 ·rcases hq with (hq | hq) | hq
  ·exact hq
  ·rw [hq]; unfold From; simp; omega
  ·rw [hq]; unfold From; omega
 ·refine (((Only.refl (fun q => v.ownBlock = some q) w).alloc o).trans' h1.only fun q _ hq => hq).trans' h2.only fun q hq hh => ?_
  rcases h1.lies with e1 | e1
  ·rw [e1] at hh; exact hh
  ·rw [e1] at hh
   injection hh with hh
   simp at hh
   omega
theorem text_any (v : Value) (k : Nat) (xs : List Value) (hv : Own w (From B) 5 1 v k xs) (hB : B ≤ w.heap.size) (s : Str) (hs : s.length ≤ 255) (hk : k ≤ 1000000) :
  Calls Tryz.prog 327 #[v, strV s] w (More w B 5 1 v (k + (1 + s.length)) (xs ++ (NodeD.text s).map byteV)) := by
 obtain ⟨A, c, rfl, _⟩ := hv.shape
 have H := Lib.hid hv
 have HB := Lib.hid hB
 have hconv : Value.int .u8 (s.length : Int) = byteV (UInt8.ofNat s.length) := by
  unfold byteV
  rw [UInt8.toNat_ofNat', Nat.mod_eq_of_lt (by omega)]
 have HCV := Lib.hid hconv
 have HP1 : Hid (Own (w.alloc (.cells #[.int .u8 (s.length : Int)] 5)) (From B) 5 1 (.slice A k c) k xs) := Lib.hid (hv.alloc _)
 have HP2 : Hid (Rd (w.alloc (.cells #[.int .u8 (s.length : Int)] 5)) (fun q => q = w.heap.size) 1 (.slice (some ⟨w.heap.size, 0, none⟩) 1 1) 1 [.int .u8 (s.length : Int)]) := Lib.hid (rd_new w 5 1 1 [.int .u8 (s.length : Int)] rfl)
 clear hv hB hconv
 unfold strV
 go_enter Tryz.func327, Tryz.ntmps327
 go_wp2_with (first | (at_builtin; refine wpList_app rfl _ _ _ rfl (by kernel_rfl) Ty.byte rfl rfl HP1.out HP2.out (by simp [Value.oneCell']) (by omega) ?_; intro v7 w7 ha7; obtain ⟨A7, c7, rfl, _⟩ := id ha7.shape; have HA := Lib.hid ha7; clear ha7) | (at_builtin; refine wpList_app_str rfl _ _ _ _ rfl (by kernel_rfl) (by kernel_rfl) Ty.byte rfl rfl HA.out.own (by show k + 1 + (s.toArray).size ≤ _; rw [List.size_toArray]; omega) ?_; intro v8 w8 ha8; have HA8 := Lib.hid ha8; clear ha8))
 go_ret
 have ha : App (w.alloc (.cells #[.int .u8 (s.length : Int)] 5)) (From B) 5 1 (.slice A k c) k 1 xs [.int .u8 (s.length : Int)] (.slice A7 (k + 1) c7) w7 := HA.out
 have hb : App w7 (fun q => From B q ∨ q = (w.alloc (.cells #[.int .u8 (s.length : Int)] 5)).heap.size) 5 1 (.slice A7 (k + 1) c7) (k + 1) s.length (xs ++ [.int .u8 (s.length : Int)]) (s.map byteV) v8 w8 := by
  have h1 := HA8.out
  rw [strCells_mk] at h1
  exact h1
 exact more_two HB.out ha hb (by rw [HCV.out]; simp [NodeD.text]) (by omega)
end
end Go.Proofs.YtpjfheadolphgaaGreat
namespace Go.Proofs.YtpjfheadolphgaaGreat
open Go.RowKit
set_option maxRecDepth 20000
section
variable {P : Program} {ops : Array Oper} {Q : Exit → Act → World → Prop} {S : World → Prop} {fuel : Nat} {listed listed' : Array Bool} {a : Act} {w : World}
theorem held_skip {i d : Nat} (hd : (ops[i]?).map (·.dst) = some (some d)) (hs : Region.noSelect ops = true) (hf : Region.free .any ops listed i = true) (hr : (Region.ready .any ops listed).contains i = true)
  (hl : listed.setIfInBounds i true = listed') (hw : (ops[i]?).map (fun o => Region.wanted o (yielded ops a.tmps)) = some false)
  (hQ : ∀ c (a : Act) (d : Option Tmp) (v : Value) w, Q (.panic c) (a.put d v) w → Q (.panic c) a w) (hS : S w)
  (h : wpAnyH P .any ops Q S fuel listed' (a.put (some d) undef) w) : wpAnyH P .any ops Q S (fuel + 1) listed a w := by
 cases ho : ops[i]? with
 | none => rw [ho] at hd; cases hd
 | some o =>
  rw [ho] at hd hw
  have hd : o.dst = some d := by simpa using hd
  have hw : Region.wanted o (yielded ops a.tmps) = false := by simpa using hw
  subst hl
  exact wpAnyH_take (v := undef) ho hs hf hr (fun c a w => hQ c a _ _ w) (.inr ⟨hw, rfl⟩) hS (by rw [hd]; exact h)
theorem held_take {i d : Nat} {v : Value} (hd : (ops[i]?).map (·.dst) = some (some d)) (hs : Region.noSelect ops = true) (hf : Region.free .any ops listed i = true) (hr : (Region.ready .any ops listed).contains i = true)
  (hl : listed.setIfInBounds i true = listed') (hw : (ops[i]?).map (fun o => Region.wanted o (yielded ops a.tmps)) = some true)
  (hQ : ∀ c (a : Act) (d : Option Tmp) (v : Value) w, Q (.panic c) (a.put d v) w → Q (.panic c) a w) (hS : S w)
  (hy : ∀ o, ops[i]? = some o → ∀ w, S w → (execOp a.eval o).run P w = .ok (.value v) w)
  (h : wpAnyH P .any ops Q S fuel listed' (a.put (some d) v) w) : wpAnyH P .any ops Q S (fuel + 1) listed a w := by
 cases ho : ops[i]? with
 | none => rw [ho] at hd; cases hd
 | some o =>
  rw [ho] at hd hw
  have hd : o.dst = some d := by simpa using hd
  have hw : Region.wanted o (yielded ops a.tmps) = true := by simpa using hw
  subst hl
  exact wpAnyH_take (v := v) ho hs hf hr (fun c a w => hQ c a _ _ w) (.inl ⟨hw, hy o ho⟩) hS (by rw [hd]; exact h)
theorem held_step {i : Nat} (hr : Region.ready .any ops listed = [i]) (hl : listed.setIfInBounds i true = listed') (hw : (ops[i]?).map (fun o => Region.wanted o (yielded ops a.tmps)) = some true)
  (h : ∀ o, ops[i]? = some o → ∀ K : Act → World → Prop, Shut (∀ a w, S w → (S w → wpAnyH P .any ops Q S fuel listed' a w) → K a w) → Oper.wp P o a w K Q) : wpAnyH P .any ops Q S (fuel + 1) listed a w := by
 cases ho : ops[i]? with
 | none => rw [ho] at hw; cases hw
 | some o =>
  rw [ho] at hw
  have hw : Region.wanted o (yielded ops a.tmps) = true := by simpa using hw
  subst hl
  refine wpAnyH_ready hr (by simp) (AllReadyH.cons ho (fun K hK => ?_) AllReadyH.nil)
  rw [if_pos hw]
  exact h o ho K hK
theorem held_start {id n : Nat} (hm : P.follows .mixedOrders = true) (hn : ops.size = n) (hl : Array.replicate n false = listed) (hS : S w.drew) (h : S w.drew → wpAnyH P .any ops Q S n listed a w.drew) : (Code.region id ops true).wp P Q a w := by
 subst hn; subst hl
 exact wp_region_held_drew hm hS h
end
end Go.Proofs.YtpjfheadolphgaaGreat
namespace Go.Proofs.YtpjfheadolphgaaGreat
open Go.RowKit
set_option maxRecDepth 20000
section
variable {P : Program} {ops : Array Oper} {Q : Exit → Act → World → Prop} {S : World → Prop} {fuel : Nat} {listed listed' listed2 : Array Bool} {a : Act} {w : World}
theorem held_two {i j : Nat} (hr : Region.ready .any ops listed = [i, j]) (hl : listed.setIfInBounds i true = listed') (hl2 : listed.setIfInBounds j true = listed2) (hw : (ops[i]?).map (fun o => Region.wanted o (yielded ops a.tmps)) = some true) (hw2 : (ops[j]?).map (fun o => Region.wanted o (yielded ops a.tmps)) = some true)
  (h : ∀ o, ops[i]? = some o → ∀ K : Act → World → Prop, Shut (∀ a w, S w → (S w → wpAnyH P .any ops Q S fuel listed' a w) → K a w) → Oper.wp P o a w K Q)
  (h2 : ∀ o, ops[j]? = some o → ∀ K : Act → World → Prop, Shut (∀ a w, S w → (S w → wpAnyH P .any ops Q S fuel listed2 a w) → K a w) → Oper.wp P o a w K Q) : wpAnyH P .any ops Q S (fuel + 1) listed a w := by
 cases ho : ops[i]? with
 | none => rw [ho] at hw; cases hw
 | some o =>
  cases ho2 : ops[j]? with
  | none => rw [ho2] at hw2; cases hw2
  | some o2 =>
   rw [ho] at hw
   rw [ho2] at hw2
   have hw : Region.wanted o (yielded ops a.tmps) = true := by simpa using hw
   have hw2 : Region.wanted o2 (yielded ops a.tmps) = true := by simpa using hw2
   subst hl; subst hl2
   refine wpAnyH_ready hr (by simp) (AllReadyH.cons ho (fun K hK => ?_) (AllReadyH.cons ho2 (fun K hK => ?_) AllReadyH.nil))
   ·rw [if_pos hw]; exact h o ho K hK
   ·rw [if_pos hw2]; exact h2 o2 ho2 K hK
end
end Go.Proofs.YtpjfheadolphgaaGreat
namespace Go.Proofs.YtpjfheadolphgaaGreat
open Go.RowKit
set_option maxRecDepth 20000
section
variable {P : Program} {ops : Array Oper} {Q : Exit → Act → World → Prop} {S : World → Prop} {fuel : Nat} {listed : Array Bool} {a a' : Act} {w : World}
theorem hT (i d : Nat) {v : Value} (h : wpAnyH P .any ops Q S fuel (listed.setIfInBounds i true) a' w) (hS : S w := by assumption) (hd : (ops[i]?).map (·.dst) = some (some d) := by kernel_rfl) (hs : Region.noSelect ops = true := by kernel_rfl) (hf : Region.free .any ops listed i = true := by kernel_rfl) (hr : (Region.ready .any ops listed).contains i = true := by kernel_rfl)
  (hw : (ops[i]?).map (fun o => Region.wanted o (yielded ops a.tmps)) = some true := by kernel_rfl) (hQ : ∀ c (a : Act) (d : Option Tmp) (v : Value) w, Q (.panic c) (a.put d v) w → Q (.panic c) a w := by exact fun _ _ _ _ _ h => h)
  (hy : ∀ o, ops[i]? = some o → ∀ w, S w → (execOp a.eval o).run P w = .ok (.value v) w := by (intro o ho w' hSw; cases ho; (try dsimp only at hSw); go_simp; try with_reducible rfl))
  (hp : a.put (some d) v = a' := by ((try simp only [Act.put, List.setIfInBounds_toArray, List.set_cons_zero, List.set_cons_succ]); exact rfl)) : wpAnyH P .any ops Q S (fuel + 1) listed a w :=
 held_take hd hs hf hr rfl hw hQ hS hy (hp ▸ h)
theorem hV (i d : Nat) (v : Value) (h : wpAnyH P .any ops Q S fuel (listed.setIfInBounds i true) a' w) (hS : S w := by assumption) (hd : (ops[i]?).map (·.dst) = some (some d) := by kernel_rfl) (hs : Region.noSelect ops = true := by kernel_rfl) (hf : Region.free .any ops listed i = true := by kernel_rfl) (hr : (Region.ready .any ops listed).contains i = true := by kernel_rfl)
  (hw : (ops[i]?).map (fun o => Region.wanted o (yielded ops a.tmps)) = some true := by kernel_rfl) (hQ : ∀ c (a : Act) (d : Option Tmp) (v : Value) w, Q (.panic c) (a.put d v) w → Q (.panic c) a w := by exact fun _ _ _ _ _ h => h)
  (hy : ∀ o, ops[i]? = some o → ∀ w, S w → (execOp a.eval o).run P w = .ok (.value v) w := by (intro o ho w' hSw; cases ho; (try dsimp only at hSw); go_simp; first | done | with_reducible rfl | simp [*]))
  (hp : a.put (some d) v = a' := by ((try simp only [Act.put, List.setIfInBounds_toArray, List.set_cons_zero, List.set_cons_succ]); exact rfl)) : wpAnyH P .any ops Q S (fuel + 1) listed a w :=
 held_take hd hs hf hr rfl hw hQ hS hy (hp ▸ h)
theorem hK (i d : Nat) (h : wpAnyH P .any ops Q S fuel (listed.setIfInBounds i true) a' w) (hS : S w := by assumption) (hd : (ops[i]?).map (·.dst) = some (some d) := by kernel_rfl) (hs : Region.noSelect ops = true := by kernel_rfl) (hf : Region.free .any ops listed i = true := by kernel_rfl) (hr : (Region.ready .any ops listed).contains i = true := by kernel_rfl)
  (hw : (ops[i]?).map (fun o => Region.wanted o (yielded ops a.tmps)) = some false := by kernel_rfl) (hQ : ∀ c (a : Act) (d : Option Tmp) (v : Value) w, Q (.panic c) (a.put d v) w → Q (.panic c) a w := by exact fun _ _ _ _ _ h => h)
  (hp : a.put (some d) undef = a' := by ((try simp only [Act.put, List.setIfInBounds_toArray, List.set_cons_zero, List.set_cons_succ]); exact rfl)) : wpAnyH P .any ops Q S (fuel + 1) listed a w :=
 held_skip hd hs hf hr rfl hw hQ hS (hp ▸ h)
theorem hE (i : Nat) (h : ∀ o, ops[i]? = some o → ∀ K : Act → World → Prop, Shut (∀ a w, S w → (S w → wpAnyH P .any ops Q S fuel (listed.setIfInBounds i true) a w) → K a w) → Oper.wp P o a w K Q)
  (hr : Region.ready .any ops listed = [i] := by kernel_rfl) (hw : (ops[i]?).map (fun o => Region.wanted o (yielded ops a.tmps)) = some true := by kernel_rfl) : wpAnyH P .any ops Q S (fuel + 1) listed a w := held_step hr rfl hw h
theorem hE2 (i j : Nat) (h : ∀ o, ops[i]? = some o → ∀ K : Act → World → Prop, Shut (∀ a w, S w → (S w → wpAnyH P .any ops Q S fuel (listed.setIfInBounds i true) a w) → K a w) → Oper.wp P o a w K Q)
  (h2 : ∀ o, ops[j]? = some o → ∀ K : Act → World → Prop, Shut (∀ a w, S w → (S w → wpAnyH P .any ops Q S fuel (listed.setIfInBounds j true) a w) → K a w) → Oper.wp P o a w K Q)
  (hr : Region.ready .any ops listed = [i, j] := by kernel_rfl) (hw : (ops[i]?).map (fun o => Region.wanted o (yielded ops a.tmps)) = some true := by kernel_rfl) (hw2 : (ops[j]?).map (fun o => Region.wanted o (yielded ops a.tmps)) = some true := by kernel_rfl) : wpAnyH P .any ops Q S (fuel + 1) listed a w := held_two hr rfl rfl hw hw2 h h2
theorem hB (id n : Nat) (S : World → Prop) (hS : S w.drew) (h : S w.drew → wpAnyH P .any ops (NoPanic Q) S n (Array.replicate n false) a w.drew) (hm : P.follows .mixedOrders = true := by kernel_rfl) (hn : ops.size = n := by kernel_rfl) : (Code.region id ops true).wp P Q a w :=
 wp_region_noPanic (held_start hm hn rfl hS h)
end
end Go.Proofs.YtpjfheadolphgaaGreat
