import Derived.Test.YtllodjcfcjmocaaPair
/- A SLICE OF NEW MEMORY that its owner writes into. -/
namespace Go.Proofs.Ytllodjcfcjmocaa
open Go.RowKit Go.Proofs
/-- v reads as xs, in a block of N that is known whole. -/
def WrL (w : World) (N : Nat → Prop) (v : Value) (xs : List Value) : Prop :=
  xs = [] ∨ ∃ g off c t cs, v = .slice (some ⟨g, off, none⟩) xs.length c ∧ N g ∧ Blk w g t cs ∧ ∀ j u, xs[j]? = some u → cs[off + j]? = some u
section
variable {w w' : World} {N M : Nat → Prop} {v : Value} {xs : List Value}
theorem WrL.of {n : Nat} (h : Rd w (fun k => N k ∧ Soft w k) 1 v n xs) : WrL w N v xs := by
  have hl := h.len_le
  rcases Nat.eq_zero_or_pos n with h0 | h0
  · exact .inl (List.eq_nil_of_length_eq_zero (by omega))
  · obtain ⟨g, off, c, hv, _, ⟨hg, cs, t, hs⟩, hcell⟩ := h.open_ (by omega)
    refine .inr ⟨g, off, c, t, cs, by rw [hv, hl, Nat.mul_one], hg, hs, fun j u hu => ?_⟩
    have := hcell j u hu
    rwa [cell_of_row w g (off + j) cs t (0, 0) hs] at this
theorem WrL.keep (h : WrL w N v xs) (hk : ∀ k, N k → w'.heap[k]? = w.heap[k]?) : WrL w' N v xs := by
  rcases h with h | ⟨g, off, c, t, cs, hv, hg, hb, hc⟩
  · exact .inl h
  · exact .inr ⟨g, off, c, t, cs, hv, hg, (hk g hg).trans hb, hc⟩
theorem WrL.rd {n : Nat} (h : WrL w N v xs) (hn : xs.length = n) (hv : ∃ A c, v = .slice A n c ∧ n ≤ c) : Rd w N 1 v n xs := by
  obtain ⟨A, c, rfl, hc⟩ := hv
  refine ⟨A, c, rfl, hc, by omega, fun h0 => ?_⟩
  rcases h with h | ⟨g, off, c', t, cs, hv, hg, hb, hcs⟩
  · subst h; simp at hn; omega
  · injection hv with h1 h2 h3
    subst h1
    exact ⟨_, rfl, hg, fun j u hu => by rw [Addr.add_lit, cell_of_row w g (off + j) cs t (0, 0) hb]; exact hcs j u hu⟩
theorem WrL.store (h : WrL w N v xs) {j : Nat} {u0 : Value} (hj : xs[j]? = some u0) : ∃ g off c, v = .slice (some ⟨g, off, none⟩) xs.length c ∧ N g ∧ w.cell? ⟨g, off + j, none⟩ = some u0 ∧ w.frozen? ⟨g, off + j, none⟩ = false ∧ ∀ u, WrL (w.setCell ⟨g, off + j, none⟩ u) N v (xs.set j u) := by
  rcases h with h | ⟨g, off, c, t, cs, hv, hg, hb, hc⟩
  · subst h; simp at hj
  · refine ⟨g, off, c, hv, hg, by rw [hb.cell]; exact hc j u0 hj, hb.frozen _, fun u => .inr ⟨g, off, c, t, _, by rw [hv, List.length_set], hg, hb.set_ _ u, fun i x hx => ?_⟩⟩
    have hjl := (List.getElem?_eq_some_iff.1 hj).1
    have hcl := (Array.getElem?_eq_some_iff.1 (hc j u0 hj)).1
    rw [Array.getElem?_setIfInBounds]
    rw [List.getElem?_set] at hx
    by_cases hij : j = i
    · subst hij
      rw [if_pos rfl] at hx ⊢
      rw [if_pos hjl] at hx
      rw [if_pos hcl]
      exact hx
    · rw [if_neg hij] at hx
      rw [if_neg (by omega)]
      exact hc i x hx
end
/-- 'append([]T{}, s...)', behind a new block o. -/
theorem made_own {wr w1 : World} {e n c : Nat} {src : List Value} {A : Option Addr} {o : Obj} (ha : App ((wr.alloc o).alloc (.cells #[] e)) (From (wr.heap.size + 1)) e 1 (.slice (some ⟨wr.heap.size + 1, 0, none⟩) 0 0) 0 n [] src (.slice A (0 + n) c) w1) :
    Only NoB wr w1 ∧ w1.heap[wr.heap.size]? = some o ∧ WrL w1 (fun k => News wr w1 k ∧ k ≠ wr.heap.size) (.slice A n c) src ∧ Rd w1 (From wr.heap.size) 1 (.slice A n c) n src := by
  have hs := ha.own.soft
  rw [Nat.zero_add, List.nil_append] at hs
  have h2 : ∀ k, ((From (wr.heap.size + 1) k ∨ k = ((wr.alloc o).alloc (.cells #[] e)).heap.size) ∧ Soft w1 k) → wr.heap.size + 1 ≤ k := by
    rintro k ⟨hk | hk, _⟩
    · exact hk
    · rw [hk]; simp
  have ho : Only NoB wr w1 := only_new (((Only.refl NoB wr).alloc o).alloc _) ha.only fun k hk => by injection hk with hk; rw [← hk]; simp
  refine ⟨ho, ?_, WrL.of (hs.mono fun k hk hlt => ⟨⟨⟨by have := h2 k hk; omega, hlt⟩, by have := h2 k hk; omega⟩, hk.2⟩), hs.mono fun k hk _ => by have := h2 k hk; show wr.heap.size ≤ k; omega⟩
  rw [ha.only.block wr.heap.size (by simp; omega) (fun hk => by injection hk with hk; simp at hk), Below.heap_alloc _ _ _ (by simp)]
  exact heap_alloc_new wr o
theorem empty_own (wr : World) (o : Obj) (e : Nat) : Own ((wr.alloc o).alloc (.cells #[] e)) (From (wr.heap.size + 1)) e 1 (.slice (some ⟨wr.heap.size + 1, 0, none⟩) 0 0) 0 [] := by
  have := own_empty (wr.alloc o) e 1
  rwa [World.size_alloc] at this
/-- The cells of a call of the script. -/
def opCells (cl : Int) (o : OpD) (bv kv : Value) : Array Value := #[.int .i64 cl, .int .i64 o.sector, .int .i64 o.n, bv, kv]
end Go.Proofs.Ytllodjcfcjmocaa
