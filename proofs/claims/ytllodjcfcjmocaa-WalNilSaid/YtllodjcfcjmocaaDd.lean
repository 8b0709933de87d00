/-
  A DISK AS PLAIN DATA: its sectors, its cache, whether there is power, which deed is cut. No program in sight.
-/
namespace Go.Proofs.Ytllodjcfcjmocaa

structure DD where
  n : Nat
  m : Nat
  done : Nat → List UInt8
  cache : List (Nat × List UInt8)
  down : Bool
  left : Nat
  keep : List Bool
  deeds : Nat

namespace DD
def setS (f : Nat → List UInt8) (s : Nat) (l : List UInt8) : Nat → List UInt8 := fun k => if k = s then l else f k
def zero (m : Nat) : List UInt8 := List.replicate m 0
def new (n m : Nat) : DD := ⟨n, m, fun _ => zero m, [], false, 0, [], 0⟩
/-- The last of the cache's writes to a sector. -/
def last (s : Nat) : List (Nat × List UInt8) → Option (List UInt8)
  | [] => none
  | c :: cs => match last s cs with | some l => some l | none => if c.1 = s then some c.2 else none
def at_ (D : DD) (s : Nat) : List UInt8 := (last s D.cache).getD (D.done s)
def applyC (is : Nat → Bool) : Nat → List (Nat × List UInt8) → (Nat → List UInt8) → (Nat → List UInt8)
  | _, [], f => f
  | i, c :: cs, f => applyC is (i + 1) cs (if is i then setS f c.1 c.2 else f)
def settle (is : Nat → Bool) (D : DD) : DD := { D with done := applyC is 0 D.cache D.done, cache := [] }
def kept (keep : List Bool) (i : Nat) : Bool := keep.getD i false
def crash (keep : List Bool) (D : DD) : DD := if D.down then D else { settle (kept keep) D with down := true }
def deed (D : DD) : DD × Int :=
  if D.left = 0 then ({ D with deeds := D.deeds + 1 }, 0)
  else if D.left = 1 then (crash D.keep { D with deeds := D.deeds + 1, left := 0 }, 50)
  else ({ D with deeds := D.deeds + 1, left := D.left - 1 }, 0)
def sector (D : DD) (s : Int) : Bool := decide (0 ≤ s ∧ s < D.n)
def mayWrite (D : DD) (s : Int) (l : List UInt8) : Bool := D.sector s && decide (l.length = D.m)
def put (s : Nat) (l : List UInt8) (D : DD) : DD := { D with cache := D.cache ++ [(s, l)] }
def write (s : Int) (l : List UInt8) (D : DD) : DD × Int :=
  if D.down then (D, 50) else if D.mayWrite s l then deed (put s.toNat l D) else (D, 1)
def flush (D : DD) : DD × Int :=
  if D.down then (D, 50) else (settle (fun _ => true) (deed D).1, (deed D).2)
def arm (n : Int) (keep : List Bool) (D : DD) : DD := { D with left := n.toNat, keep := keep }
def on (D : DD) : DD := { D with down := false, left := 0 }
def read (s : Int) (D : DD) : List UInt8 × Int := if D.down then ([], 50) else if D.sector s then (D.at_ s.toNat, 0) else ([], 1)

/-- What a disk that the program made always is. -/
structure Wf (D : DD) : Prop where
  n1 : 1 ≤ D.n
  n2 : D.n ≤ 65536
  m1 : 16 ≤ D.m
  m2 : D.m ≤ 4096
  done : ∀ i, (D.done i).length = D.m
  cache : ∀ c ∈ D.cache, c.1 < D.n ∧ c.2.length = D.m

theorem applyC_snoc (is : Nat → Bool) (c : Nat × List UInt8) : ∀ (i : Nat) (l : List (Nat × List UInt8)) (f : Nat → List UInt8),
    applyC is i (l ++ [c]) f = if is (i + l.length) then setS (applyC is i l f) c.1 c.2 else applyC is i l f
  | i, [], f => by simp [applyC]
  | i, x :: l, f => by
    rw [List.cons_append, applyC, applyC_snoc is c (i + 1) l]
    simp only [applyC, List.length_cons]
    rw [show i + 1 + l.length = i + (l.length + 1) by omega]

theorem applyC_len (is : Nat → Bool) (m : Nat) : ∀ (l : List (Nat × List UInt8)) (i : Nat) (f : Nat → List UInt8), (∀ c ∈ l, c.2.length = m) → (∀ k, (f k).length = m) → ∀ k, (applyC is i l f k).length = m
  | [], i, f, _, hf, k => hf k
  | c :: l, i, f, hl, hf, k => by
    refine applyC_len is m l (i + 1) _ (fun c hc => hl c (by simp [hc])) (fun k => ?_) k
    split
    · unfold setS; split
      · exact hl c (by simp)
      · exact hf k
    · exact hf k

theorem Wf.new {n m : Nat} (h1 : 1 ≤ n) (h2 : n ≤ 65536) (h3 : 16 ≤ m) (h4 : m ≤ 4096) : Wf (new n m) :=
  ⟨h1, h2, h3, h4, fun _ => by simp [DD.new, zero], fun c hc => by simp [DD.new] at hc⟩
theorem Wf.settle {D : DD} (h : Wf D) (is : Nat → Bool) : Wf (settle is D) :=
  ⟨h.n1, h.n2, h.m1, h.m2, fun k => applyC_len is D.m _ 0 _ (fun c hc => (h.cache c hc).2) h.done k, fun c hc => by simp [DD.settle] at hc⟩
theorem Wf.down {D : DD} (h : Wf D) (b : Bool) : Wf { D with down := b } := ⟨h.n1, h.n2, h.m1, h.m2, h.done, h.cache⟩
theorem Wf.left {D : DD} (h : Wf D) (b : Nat) : Wf { D with left := b } := ⟨h.n1, h.n2, h.m1, h.m2, h.done, h.cache⟩
theorem Wf.deeds {D : DD} (h : Wf D) (b : Nat) : Wf { D with deeds := b } := ⟨h.n1, h.n2, h.m1, h.m2, h.done, h.cache⟩
theorem Wf.keep {D : DD} (h : Wf D) (b : List Bool) : Wf { D with keep := b } := ⟨h.n1, h.n2, h.m1, h.m2, h.done, h.cache⟩
theorem Wf.put {D : DD} (h : Wf D) {s : Nat} {l : List UInt8} (hs : s < D.n) (hl : l.length = D.m) : Wf (put s l D) :=
  ⟨h.n1, h.n2, h.m1, h.m2, h.done, fun c hc => by
    simp only [DD.put, List.mem_append, List.mem_singleton] at hc
    rcases hc with hc | rfl
    · exact h.cache c hc
    · exact ⟨hs, hl⟩⟩
theorem Wf.crash {D : DD} (h : Wf D) (keep : List Bool) : Wf (crash keep D) := by
  unfold DD.crash
  split
  · exact h
  · exact (h.settle _).down true
theorem Wf.deed {D : DD} (h : Wf D) : Wf (deed D).1 := by
  unfold DD.deed
  split
  · exact h.deeds _
  · split
    · exact Wf.crash (D := { D with deeds := D.deeds + 1, left := 0 }) ⟨h.n1, h.n2, h.m1, h.m2, h.done, h.cache⟩ _
    · exact ⟨h.n1, h.n2, h.m1, h.m2, h.done, h.cache⟩
theorem Wf.on {D : DD} (h : Wf D) : Wf (on D) := ⟨h.n1, h.n2, h.m1, h.m2, h.done, h.cache⟩
theorem Wf.arm {D : DD} (h : Wf D) (n : Int) (keep : List Bool) : Wf (arm n keep D) := ⟨h.n1, h.n2, h.m1, h.m2, h.done, h.cache⟩
theorem Wf.write {D : DD} (h : Wf D) (s : Int) (l : List UInt8) : Wf (write s l D).1 := by
  unfold DD.write
  split
  · exact h
  · split
    · rename_i hw
      simp only [DD.mayWrite, DD.sector, Bool.and_eq_true, decide_eq_true_eq] at hw
      exact (h.put (by omega) hw.2).deed
    · exact h
theorem Wf.flush {D : DD} (h : Wf D) : Wf (flush D).1 := by
  unfold DD.flush
  split
  · exact h
  · exact h.deed.settle _

theorem last_none {s : Nat} : ∀ {l : List (Nat × List UInt8)}, (∀ c ∈ l, c.1 ≠ s) → last s l = none
  | [], _ => rfl
  | c :: l, h => by rw [last, last_none fun c hc => h c (by simp [hc])]; simp [h c (by simp)]
theorem last_some {s : Nat} : ∀ {l : List (Nat × List UInt8)} {j : Nat} {c : Nat × List UInt8}, l[j]? = some c → c.1 = s → (∀ i, j < i → ∀ x, l[i]? = some x → x.1 ≠ s) → last s l = some c.2
  | [], j, c, h, _, _ => by simp at h
  | x :: l, 0, c, h, hc, hn => by
    simp at h; subst h
    have : last s l = none := last_none fun y hy => by
      obtain ⟨i, hi, rfl⟩ := List.mem_iff_getElem.1 hy
      exact hn (i + 1) (by omega) _ (by simp [hi])
    rw [last, this]; simp [hc]
  | x :: l, j + 1, c, h, hc, hn => by
    have := last_some (l := l) (j := j) (c := c) (by simpa using h) hc (fun i hi y hy => hn (i + 1) (by omega) y (by simpa using hy))
    rw [last, this]
theorem last_len {m : Nat} {s : Nat} : ∀ {l : List (Nat × List UInt8)} {x : List UInt8}, (∀ c ∈ l, c.2.length = m) → last s l = some x → x.length = m
  | [], x, _, h => by cases h
  | c :: l, x, hl, h => by
    simp only [last] at h
    split at h
    · rename_i y hy
      injection h with h; subst h
      exact last_len (fun c hc => hl c (by simp [hc])) hy
    · split at h
      · injection h with h; subst h; exact hl c (by simp)
      · cases h
theorem Wf.at_ {D : DD} (h : Wf D) (s : Nat) : (D.at_ s).length = D.m := by
  unfold DD.at_
  cases hl : last s D.cache with
  | none => exact h.done s
  | some x => exact last_len (fun c hc => (h.cache c hc).2) hl
end DD
end Go.Proofs.Ytllodjcfcjmocaa
