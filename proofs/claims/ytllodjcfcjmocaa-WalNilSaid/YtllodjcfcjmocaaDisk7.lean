import Derived.Test.YtllodjcfcjmocaaAwake
import Derived.Test.YtllodjcfcjmocaaArgs
/- A DISK WITHOUT CUTS, as plain data: writes, a Flush, a crash. -/
namespace Go.Proofs.Ytllodjcfcjmocaa
open Go.RowKit Go.Proofs

theorem bytes_int (z : Int) (h0 : 0 ≤ z) (h1 : z < 256) (w : World) : Calls Try.prog 11 #[.int .u8 z] w (BytesOut w (bytesL (UInt8.ofNat z.toNat))) := by
  have := bytes_any (UInt8.ofNat z.toNat) w
  have hz : ((UInt8.ofNat z.toNat).toNat : Int) = z := by rw [UInt8.toNat_ofNat']; omega
  rw [hz] at this
  exact this

namespace DD
theorem last_append (s : Nat) (c : Nat × List UInt8) : ∀ l : List (Nat × List UInt8), last s (l ++ [c]) = if c.1 = s then some c.2 else last s l
  | [] => by simp [last]
  | x :: l => by
    rw [List.cons_append, last, last_append s c l]
    by_cases h : c.1 = s
    · simp [h]
    · simp [h, last]
theorem at_put (s t : Nat) (l : List UInt8) (D : DD) : (put s l D).at_ t = if t = s then l else D.at_ t := by
  unfold at_ put
  simp only
  rw [last_append]
  by_cases h : s = t
  · subst h; simp
  · simp [h, Ne.symm h]
theorem applyC_all (s : Nat) : ∀ (l : List (Nat × List UInt8)) (i : Nat) (f : Nat → List UInt8), applyC (fun _ => true) i l f s = (last s l).getD (f s)
  | [], i, f => rfl
  | c :: l, i, f => by
    rw [applyC, applyC_all s l]
    simp only [if_true, last]
    cases h : last s l with
    | some x => simp
    | none =>
      by_cases hc : c.1 = s
      · simp [setS, hc]
      · simp [setS, hc, Ne.symm hc]
/-- A disk whose deeds are never cut, with power. -/
structure Calm (n m k : Nat) (D : DD) : Prop where
  n : D.n = n
  m : D.m = m
  down : D.down = false
  left : D.left = 0
  keep : D.keep.length ≤ 100
  cache : D.cache.length ≤ k
  deeds : D.deeds ≤ k
theorem Calm.few {n m k : Nat} {D : DD} (h : Calm n m k D) (hk : k ≤ 10000) : Few D := ⟨by have := h.cache; omega, by have := h.keep; omega, by have := h.deeds; omega⟩
theorem Calm.new (n m : Nat) : Calm n m 0 (new n m) := ⟨rfl, rfl, rfl, rfl, by simp [DD.new], by simp [DD.new], by simp [DD.new]⟩
theorem Calm.write_eq {n m k : Nat} {D : DD} (h : Calm n m k D) {s : Nat} {l : List UInt8} (hs : s < n) (hl : l.length = m) : write (s : Int) l D = ({ put s l D with deeds := D.deeds + 1 }, 0) := by
  unfold write
  rw [if_neg (by simp [h.down]), if_pos (by unfold mayWrite sector; rw [h.n, h.m]; simp [hl]; exact hs)]
  unfold deed
  rw [if_pos (show (put (s : Int).toNat l D).left = 0 from h.left)]
  rfl
theorem Calm.write_calm {n m k : Nat} {D : DD} (h : Calm n m k D) {s : Nat} {l : List UInt8} (hs : s < n) (hl : l.length = m) : Calm n m (k + 1) (write (s : Int) l D).1 := by
  rw [h.write_eq hs hl]
  exact ⟨h.n, h.m, h.down, h.left, h.keep, by have := h.cache; simp [put]; omega, by have := h.deeds; simp; omega⟩
theorem Calm.write_at {n m k : Nat} {D : DD} (h : Calm n m k D) {s : Nat} {l : List UInt8} (hs : s < n) (hl : l.length = m) (t : Nat) : (write (s : Int) l D).1.at_ t = if t = s then l else D.at_ t := by
  rw [h.write_eq hs hl]
  exact at_put s t l D
theorem Calm.flush_eq {n m k : Nat} {D : DD} (h : Calm n m k D) : flush D = (settle (fun _ => true) { D with deeds := D.deeds + 1 }, 0) := by
  unfold flush
  rw [if_neg (by simp [h.down])]
  unfold deed
  rw [if_pos h.left]
theorem Calm.flush_calm {n m k : Nat} {D : DD} (h : Calm n m k D) : Calm n m (k + 1) (flush D).1 := by
  rw [h.flush_eq]
  exact ⟨h.n, h.m, h.down, h.left, h.keep, by simp [settle], by have := h.deeds; simp [settle]; omega⟩
theorem Calm.flush_at {n m k : Nat} {D : DD} (h : Calm n m k D) (t : Nat) : (flush D).1.at_ t = D.at_ t := by
  rw [h.flush_eq]
  unfold at_ settle
  simp only [last, Option.getD_none]
  exact applyC_all t D.cache 0 D.done
theorem Calm.flush_done {n m k : Nat} {D : DD} (h : Calm n m k D) (t : Nat) : (flush D).1.done t = D.at_ t := by
  rw [h.flush_eq]
  exact applyC_all t D.cache 0 D.done
theorem Calm.read_calm {n m k : Nat} {D : DD} (h : Calm n m k D) {s : Nat} (hs : s < n) : read (s : Int) D = (D.at_ s, 0) := by
  unfold read
  rw [if_neg (by simp [h.down]), if_pos (by unfold sector; rw [h.n]; simp; exact hs)]
  rfl
/-- What a crash leaves of a sector: what it had, or what one of the kept writes gave it. -/
theorem applyC_some (is : Nat → Bool) (s : Nat) : ∀ (l : List (Nat × List UInt8)) (i : Nat) (f : Nat → List UInt8),
    applyC is i l f s = f s ∨ ∃ j c, l[j]? = some c ∧ c.1 = s ∧ is (i + j) = true ∧ applyC is i l f s = c.2
  | [], i, f => .inl rfl
  | c :: l, i, f => by
    rw [applyC]
    rcases applyC_some is s l (i + 1) (if is i then setS f c.1 c.2 else f) with h | ⟨j, x, hj, hx, hi, he⟩
    · by_cases hi : is i = true
      · by_cases hc : s = c.1
        · exact .inr ⟨0, c, rfl, hc.symm, hi, by rw [h, if_pos hi]; simp [setS, hc]⟩
        · exact .inl (by rw [h, if_pos hi]; simp [setS, hc])
      · exact .inl (by rw [h, if_neg hi])
    · exact .inr ⟨j + 1, x, by simpa using hj, hx, by rw [show i + (j + 1) = i + 1 + j by omega]; exact hi, he⟩
/-- Behind a crash, with power again. -/
theorem Calm.crash_calm {n m k : Nat} {D : DD} (h : Calm n m k D) (keep : List Bool) : Calm n m k (on (crash keep D)) ∧ (∀ t, (on (crash keep D)).at_ t = applyC (kept keep) 0 D.cache D.done t) := by
  unfold crash
  rw [if_neg (by simp [h.down])]
  exact ⟨⟨h.n, h.m, rfl, rfl, h.keep, by simp [settle, on], h.deeds⟩, fun t => rfl⟩
end DD
end Go.Proofs.Ytllodjcfcjmocaa
