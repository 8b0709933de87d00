import Derived.Test.YtllodjcfcjmocaaDisks
/- ALL OF THE CACHE, OR NONE, as plain data. -/
namespace Go.Proofs.Ytllodjcfcjmocaa
open Go.RowKit Go.Proofs

/-- The first k writes of a list: the i-th into the sector l[i] mod n, of bytes (i + off). -/
def wD (n off : Nat) (l : List Int) (D0 : DD) : Nat → DD
  | 0 => D0
  | k + 1 => (DD.write (l.getD k 0 % (n : Int)) (bytesL (UInt8.ofNat (k + off))) (wD n off l D0 k)).1
/-- None of the first k is below nought. -/
def Up0 (l : List Int) (k : Nat) : Prop := ∀ i, i < k → ∃ x : Nat, l.getD i 0 = x
theorem Up0.snoc {l : List Int} {k x : Nat} (h : Up0 l k) (hx : l.getD k 0 = x) : Up0 l (k + 1) := fun i hi => by
  by_cases hik : i < k
  · exact h i hik
  · obtain rfl : i = k := by omega
    exact ⟨x, hx⟩
theorem wD_step {n off k q : Nat} {l : List Int} {D0 : DD} (hn : 0 < n) (h : DD.Calm n 16 q (wD n off l D0 k)) {x : Nat} (hx : l.getD k 0 = x) :
    wD n off l D0 (k + 1) = { DD.put (x % n) (bytesL (UInt8.ofNat (k + off))) (wD n off l D0 k) with deeds := (wD n off l D0 k).deeds + 1 } ∧ (DD.write (l.getD k 0 % (n : Int)) (bytesL (UInt8.ofNat (k + off))) (wD n off l D0 k)).2 = 0 := by
  have hm : x % n < n := Nat.mod_lt _ hn
  have he := h.write_eq (s := x % n) (l := bytesL (UInt8.ofNat (k + off))) hm rfl
  have hs : l.getD k 0 % (n : Int) = ((x % n : Nat) : Int) := by rw [hx]; rfl
  constructor
  · rw [wD, hs, he]
  · rw [hs, he]
theorem wD_calm {n off q : Nat} {l : List Int} {D0 : DD} (hn : 0 < n) (h0 : DD.Calm n 16 q D0) : ∀ k, Up0 l k → DD.Calm n 16 (q + k) (wD n off l D0 k)
  | 0, _ => h0
  | k + 1, h => by
    obtain ⟨x, hx⟩ := h k (by omega)
    have hc := wD_calm (off := off) hn h0 k fun i hi => h i (by omega)
    have hm : x % n < n := Nat.mod_lt _ hn
    have := hc.write_calm (s := x % n) (l := bytesL (UInt8.ofNat (k + off))) hm rfl
    have hs : l.getD k 0 % (n : Int) = ((x % n : Nat) : Int) := by rw [hx]; rfl
    rw [wD, hs]
    exact this
theorem wD_done {n off q : Nat} {l : List Int} {D0 : DD} (hn : 0 < n) (h0 : DD.Calm n 16 q D0) : ∀ k, Up0 l k → (wD n off l D0 k).done = D0.done ∧ (wD n off l D0 k).cache.length = D0.cache.length + k
  | 0, _ => ⟨rfl, rfl⟩
  | k + 1, h => by
    obtain ⟨x, hx⟩ := h k (by omega)
    have hk : Up0 l k := fun i hi => h i (by omega)
    obtain ⟨h1, h2⟩ := wD_done hn h0 k hk
    rw [(wD_step hn (wD_calm hn h0 k hk) hx).1]
    exact ⟨h1, by simp [DD.put, h2]; omega⟩
theorem applyC_congr (is js : Nat → Bool) (s : Nat) : ∀ (l : List (Nat × List UInt8)) (i : Nat) (f : Nat → List UInt8), (∀ j, j < l.length → is (i + j) = js (i + j)) → DD.applyC is i l f s = DD.applyC js i l f s
  | [], _, _, _ => rfl
  | c :: l, i, f, h => by
    have h0 := h 0 (by simp)
    rw [Nat.add_zero] at h0
    rw [DD.applyC, DD.applyC, h0]
    exact applyC_congr is js s l (i + 1) _ fun j hj => by rw [show i + 1 + j = i + (j + 1) by omega]; exact h (j + 1) (by simpa using hj)
theorem applyC_none (is : Nat → Bool) (s : Nat) : ∀ (l : List (Nat × List UInt8)) (i : Nat) (f : Nat → List UInt8), (∀ j, is j = false) → DD.applyC is i l f s = f s
  | [], _, _, _ => rfl
  | c :: l, i, f, h => by rw [DD.applyC, h i]; exact applyC_none is s l (i + 1) f h

theorem put1_self {α : Type} (f : Nat → α) (i : Nat) (x : α) : put1 f i x i = x := by simp [put1]
theorem put1_put1 {α : Type} (f : Nat → α) (i : Nat) (x y : α) : put1 (put1 f i x) i y = put1 f i y := by funext j; unfold put1; split <;> rfl
/-- Behind the writes ahead and a Flush. -/
def keepE (n : Nat) (la : List Int) : DD := (DD.flush (wD n 1 la (DD.new n 16) la.length)).1
/-- Behind the writes behind it. -/
def keepX (n : Nat) (la lb : List Int) : DD := wD n 101 lb (keepE n la) lb.length
section
variable {n : Nat} {la lb : List Int}
theorem keepE_calm (hn : 0 < n) (ha : Up0 la la.length) : DD.Calm n 16 (la.length + 1) (keepE n la) := by
  have := (wD_calm hn (DD.Calm.new n 16) la.length ha (off := 1)).flush_calm
  rwa [Nat.zero_add] at this
theorem keepE_done (hn : 0 < n) (ha : Up0 la la.length) (t : Nat) : (keepE n la).done t = (keepE n la).at_ t := by
  have hc := wD_calm hn (DD.Calm.new n 16) la.length ha (off := 1)
  exact (hc.flush_done t).trans (hc.flush_at t).symm
theorem keepE_cache (hn : 0 < n) (ha : Up0 la la.length) : (keepE n la).cache = [] := by
  unfold keepE
  rw [(wD_calm hn (DD.Calm.new n 16) la.length ha (off := 1)).flush_eq]
  rfl
theorem keepX_calm (hn : 0 < n) (ha : Up0 la la.length) (hb : Up0 lb lb.length) : DD.Calm n 16 (la.length + 1 + lb.length) (keepX n la lb) := wD_calm hn (keepE_calm hn ha) _ hb
/-- Nothing is kept: as it was at the Flush. -/
theorem keep_none (hn : 0 < n) (ha : Up0 la la.length) (hb : Up0 lb lb.length) (t : Nat) : (DD.on (DD.crash [] (keepX n la lb))).at_ t = (keepE n la).at_ t := by
  rw [((keepX_calm hn ha hb).crash_calm []).2, applyC_none _ _ _ _ _ (fun j => by simp [DD.kept])]
  unfold keepX
  rw [(wD_done hn (keepE_calm hn ha) _ hb).1, keepE_done hn ha]
/-- All is kept: as if they had been flushed. -/
theorem keep_all (hn : 0 < n) (ha : Up0 la la.length) (hb : Up0 lb lb.length) (t : Nat) : (DD.on (DD.crash (List.replicate lb.length true) (keepX n la lb))).at_ t = (DD.flush (keepX n la lb)).1.at_ t := by
  have hc := keepX_calm hn ha hb
  rw [(hc.crash_calm _).2, hc.flush_at]
  rw [applyC_congr _ (fun _ => true) t _ 0 _ fun j hj => ?_]
  · exact DD.applyC_all t _ 0 _
  · have hl : (keepX n la lb).cache.length = lb.length := by
      unfold keepX
      rw [(wD_done hn (keepE_calm hn ha) _ hb).2, keepE_cache hn ha]
      simp
    rw [hl] at hj
    unfold DD.kept
    rw [Nat.zero_add, List.getD_eq_getElem?_getD]
    simp [hj]
end
end Go.Proofs.Ytllodjcfcjmocaa
