import Derived.Test.YtllodjcfcjmocaaLaw
import Derived.Deep.Slices
import Derived.ChangeArms
import Derived.ChangeOld
/- WHAT A LAW'S ARGUMENTS READ AS: slices of bytes, truths, numbers. No program in sight. -/
namespace Go.Proofs.Ytllodjcfcjmocaa
open Go.RowKit Go.Deep

/-- The blocks that were there. -/
def Old (w : World) : Nat → Prop := fun k => k < w.heap.size

theorem list_of {α : Type} (p : Nat → α → Prop) : ∀ n : Nat, (∀ i, i < n → ∃ y, p i y) → ∃ l : List α, l.length = n ∧ ∀ i (h : i < l.length), p i l[i]
  | 0, _ => ⟨[], rfl, fun i h => by simp at h⟩
  | n + 1, h => by
    obtain ⟨l, hl, hp⟩ := list_of p n fun i hi => h i (by omega)
    obtain ⟨y, hy⟩ := h n (by omega)
    refine ⟨l ++ [y], by simp [hl], fun i hi => ?_⟩
    by_cases hin : i < l.length
    · rw [List.getElem_append_left hin]; exact hp i hin
    · have : i = n := by simp at hi; omega
      subst this
      rw [List.getElem_append_right (by omega)]
      simpa [hl] using hy

section
variable {H : Type} {enc : TypeId × Value → H} {P : Program} {w : World} {base : Nat} {spare : Nat → Bool} {held : Bool}
theorem arg_slice {α : Type} (f : α → Value) (Good : α → Prop) {t e : TypeId} (ht : P.underlying t = some (.slice e)) (hc : P.cellsOf e = 1)
    (hel : ∀ n cs (x : DataW H × List MemPlace), DataW.trod enc P w base spare held n e cs = some x → ∃ y, cs = [f y] ∧ Good y)
    {fuel : Nat} {v : Value} {x : DataW H × List MemPlace} (h : DataW.trod enc P w base spare held fuel t [v] = some x) :
    ∃ l : List α, Rd w (Old w) 1 v l.length (l.map f) ∧ ∀ y ∈ l, Good y := by
  rcases open_slice ht h with ⟨hcs, _⟩ | ⟨a, len, cap, m, n, D, Pl, hcs, hb, hl, hm, hmm, _, hi⟩
  · injection hcs with hcs
    subst hcs
    exact ⟨[], Rd.nil _ _ _, by simp⟩
  · injection hcs with hcs
    subst hcs
    obtain ⟨l, hll, hp⟩ := list_of (fun i (y : α) => w.cell? (a.add i) = some (f y) ∧ Good y) len fun i hil => by
      have him : i < m := by rw [hmm]; split <;> omega
      obtain ⟨cs', h1, h2⟩ := hi i him
      obtain ⟨y, rfl, hy⟩ := hel _ _ _ h2
      rw [hc, Nat.mul_one] at h1
      have h3 := (World.cells?_some h1).2.2 0 (by omega)
      rw [add_add, Nat.add_zero] at h3
      exact ⟨y, h3, hy⟩
    refine ⟨l, ⟨some a, cap, by rw [hll], by omega, by simp, fun hn => ⟨a, rfl, ?_, fun j u hu => ?_⟩⟩, fun y hy => ?_⟩
    · have h0 := (hp 0 (by omega)).1
      have := World.block_lt_of_cell? w _ h0
      rwa [add_block] at this
    · obtain ⟨y, hy, rfl⟩ := List.getElem?_map ▸ hu |> fun hu => Option.map_eq_some_iff.1 (by simpa using hu)
      obtain ⟨hj, rfl⟩ := List.getElem?_eq_some_iff.1 hy
      exact (hp j hj).1
    · obtain ⟨i, hi', rfl⟩ := List.mem_iff_getElem.1 hy
      exact (hp i hi').2
theorem arg_bytes {t e : TypeId} (ht : P.underlying t = some (.slice e)) (he : P.underlying e = some (.int .u8)) (hc : P.cellsOf e = 1) {v : Value} {d : DataW H} {ps : List MemPlace} (h : DataW.Trod enc P w base spare held t v d ps) (hv : v.cells = #[v]) :
    ∃ l : List UInt8, Bytes w (Old w) v l := by
  obtain ⟨fuel, h⟩ := h
  rw [hv] at h
  obtain ⟨l, h1, _⟩ := arg_slice byteV (fun _ => True) ht hc (fun n cs x hx => by
    obtain ⟨k, rfl, _, hw⟩ := DataW.trod_int he hx
    simp [Lit.wf, IntKind.min, IntKind.max, IntKind.signed, IntKind.bits] at hw
    refine ⟨UInt8.ofNat k.toNat, ?_, trivial⟩
    have : (UInt8.ofNat k.toNat).toNat = k.toNat := by rw [UInt8.toNat_ofNat']; omega
    simp only [byteV, this]
    rw [Int.toNat_of_nonneg (by omega)]) h
  exact ⟨l, h1⟩
theorem arg_bools {t e : TypeId} (ht : P.underlying t = some (.slice e)) (he : P.underlying e = some .bool) (hc : P.cellsOf e = 1) {v : Value} {d : DataW H} {ps : List MemPlace} (h : DataW.Trod enc P w base spare held t v d ps) (hv : v.cells = #[v]) :
    ∃ l : List Bool, Bools w (Old w) v l := by
  obtain ⟨fuel, h⟩ := h
  rw [hv] at h
  obtain ⟨l, h1, _⟩ := arg_slice boolV (fun _ => True) ht hc (fun n cs x hx => by
    obtain ⟨b, rfl, _⟩ := DataW.trod_bool he hx
    exact ⟨b, rfl, trivial⟩) h
  exact ⟨l, h1⟩
/-- v is a slice that reads as the numbers l. -/
def Ints (w : World) (F : Nat → Prop) (v : Value) (l : List Int) : Prop := Rd w F 1 v l.length (l.map (Value.int .i64))
theorem arg_ints {t e : TypeId} (ht : P.underlying t = some (.slice e)) (he : P.underlying e = some (.int .i64)) (hc : P.cellsOf e = 1) {v : Value} {d : DataW H} {ps : List MemPlace} (h : DataW.Trod enc P w base spare held t v d ps) (hv : v.cells = #[v]) :
    ∃ l : List Int, Ints w (Old w) v l ∧ ∀ n ∈ l, (Lit.int .i64 n).wf = true := by
  obtain ⟨fuel, h⟩ := h
  rw [hv] at h
  exact arg_slice (Value.int .i64) (fun n => (Lit.int .i64 n).wf = true) ht hc (fun n cs x hx => by
    obtain ⟨k, rfl, _, hw⟩ := DataW.trod_int he hx
    exact ⟨k, rfl, hw⟩) h
end
end Go.Proofs.Ytllodjcfcjmocaa
