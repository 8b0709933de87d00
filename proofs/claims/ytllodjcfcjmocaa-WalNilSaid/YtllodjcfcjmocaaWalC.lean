import Derived.Test.YtllodjcfcjmocaaWal3
import Derived.Test.YtllodjcfcjmocaaDisk7
/- A COMMIT ON A CALM DISK, as plain data: it is done, whole. -/
namespace Go.Proofs.Ytllodjcfcjmocaa
open Go.RowKit Go.Proofs

/-- The deeds of a commit; cs: the first sector, set. -/
def commitOps (log m : Nat) (l : List Ch) (cs : List UInt8) : List (DD → DD × Int) :=
  [runD (wops (fun k => 1 + (k : Int)) l), DD.flush, DD.write 0 cs, DD.flush, runD (wops (blockAt log l) l), DD.flush, DD.write 0 (DD.zero m), DD.flush]
/-- Changes written to their places. -/
def putsAt : (Nat → Int) → List Ch → (Nat → List UInt8) → Nat → List UInt8
  | _, [], f => f
  | pl, c :: cs, f => putsAt (fun k => pl (k + 1)) cs (DD.setS f (pl 0).toNat c.2)
theorem putsAt_far : ∀ (l : List Ch) (pl : Nat → Int) (f : Nat → List UInt8) (t : Nat), (∀ i, i < l.length → (pl i).toNat ≠ t) → putsAt pl l f t = f t
  | [], _, _, _, _ => rfl
  | c :: cs, pl, f, t, h => by
    rw [putsAt, putsAt_far cs _ _ t fun i hi => h (i + 1) (by simpa using hi)]
    unfold DD.setS
    rw [if_neg (fun e => h 0 (by simp) e.symm)]
theorem putsAt_congr : ∀ (l : List Ch) (pl : Nat → Int) (f g : Nat → List UInt8) (t : Nat), (∀ t, f t = g t) → putsAt pl l f t = putsAt pl l g t
  | [], _, _, _, t, h => h t
  | c :: cs, pl, f, g, t, h => putsAt_congr cs _ _ _ t fun t => by unfold DD.setS; split; (· rfl); (· exact h t)
theorem putsAt_len {m : Nat} : ∀ (l : List Ch) (pl : Nat → Int) (f : Nat → List UInt8), (∀ c ∈ l, c.2.length = m) → (∀ t, (f t).length = m) → ∀ t, (putsAt pl l f t).length = m
  | [], _, _, _, h, t => h t
  | c :: cs, pl, f, hl, h, t => putsAt_len cs _ _ (fun c hc => hl c (by simp [hc])) (fun t => by unfold DD.setS; split; (· exact hl c (by simp)); (· exact h t)) t
theorem wops_cons (pl : Nat → Int) (c : Ch) (cs : List Ch) : wops pl (c :: cs) = DD.write (pl 0) c.2 :: wops (fun k => pl (k + 1)) cs := by simp [wops, List.mapIdx_cons]
theorem wops_calm {n m : Nat} : ∀ (l : List Ch) (pl : Nat → Int) (k : Nat) (D : DD), DD.Calm n m k D → (∀ i, i < l.length → 0 ≤ pl i ∧ pl i < n) → (∀ c ∈ l, c.2.length = m) →
    (runD (wops pl l) D).2 = 0 ∧ DD.Calm n m (k + l.length) (runD (wops pl l) D).1 ∧ ∀ t, (runD (wops pl l) D).1.at_ t = putsAt pl l D.at_ t
  | [], pl, k, D, h, _, _ => ⟨rfl, h, fun _ => rfl⟩
  | c :: cs, pl, k, D, h, hp, hl => by
    obtain ⟨h0, h1⟩ := hp 0 (by simp)
    obtain ⟨s, hs⟩ := Int.eq_ofNat_of_zero_le h0
    have hsn : s < n := by omega
    have hlc := hl c (by simp)
    have hw : DD.write (pl 0) c.2 D = ({ DD.put s c.2 D with deeds := D.deeds + 1 }, 0) := by rw [hs]; exact h.write_eq hsn hlc
    have hc : DD.Calm n m (k + 1) (DD.write (pl 0) c.2 D).1 := by rw [hs]; exact h.write_calm hsn hlc
    have ha : ∀ t, (DD.write (pl 0) c.2 D).1.at_ t = if t = s then c.2 else D.at_ t := fun t => by rw [hs]; exact h.write_at hsn hlc t
    obtain ⟨r1, r2, r3⟩ := wops_calm cs (fun k => pl (k + 1)) (k + 1) _ hc (fun i hi => hp (i + 1) (by simpa using hi)) (fun c hc => hl c (by simp [hc]))
    rw [wops_cons, runD, if_pos (by rw [hw])]
    refine ⟨r1, by rw [List.length_cons, show k + (cs.length + 1) = k + 1 + cs.length by omega]; exact r2, fun t => ?_⟩
    rw [r3 t, putsAt]
    refine putsAt_congr _ _ _ _ _ fun t => ?_
    rw [ha, DD.setS, hs]
    rfl
/-- A commit of changes that may be, on a calm disk. -/
theorem commit_calm {n m k log : Nat} {l : List Ch} {cs : List UInt8} {D : DD} (h : DD.Calm n m k D) (hn : 0 < n) (hcs : cs.length = m) (hlog : 1 + log < n) (hfit : l.length ≤ log) (hl : ∀ c ∈ l, 0 ≤ c.1 ∧ c.1 < ((n - 1 - log : Nat) : Int) ∧ c.2.length = m) :
    (runD (commitOps log m l cs) D).2 = 0 ∧ DD.Calm n m (k + 2 * l.length + 6) (runD (commitOps log m l cs) D).1 ∧ (runD (commitOps log m l cs) D).1.at_ 0 = DD.zero m ∧ ∀ t, 1 + log ≤ t → (runD (commitOps log m l cs) D).1.at_ t = putsAt (blockAt log l) l D.at_ t := by
  have hbp : ∀ i, i < l.length → 0 ≤ blockAt log l i ∧ blockAt log l i < n ∧ 1 + (log : Int) ≤ blockAt log l i := fun i hi => by
    obtain ⟨h1, h2, _⟩ := hl l[i] (List.getElem_mem hi)
    unfold blockAt
    rw [List.getD_eq_getElem?_getD, List.getElem?_eq_getElem hi]
    simp only [Option.getD_some]
    omega
  obtain ⟨a1, a2, a3⟩ := wops_calm l (fun k => 1 + (k : Int)) k D h (fun i hi => by omega) (fun c hc => (hl c hc).2.2)
  obtain ⟨D1, hD1⟩ : ∃ D1, D1 = (runD (wops (fun k => 1 + (k : Int)) l) D).1 := ⟨_, rfl⟩
  rw [← hD1] at a2 a3
  have b2 := a2.flush_calm
  have b3 := a2.flush_at
  have b1 : (DD.flush D1).2 = 0 := by rw [a2.flush_eq]
  obtain ⟨D2, hD2⟩ : ∃ D2, D2 = (DD.flush D1).1 := ⟨_, rfl⟩
  rw [← hD2] at b2 b3
  have c2 : DD.Calm n m _ (DD.write 0 cs D2).1 := b2.write_calm (s := 0) hn hcs
  have c3 : ∀ t, (DD.write 0 cs D2).1.at_ t = if t = 0 then cs else D2.at_ t := b2.write_at (s := 0) hn hcs
  have c1 : (DD.write 0 cs D2).2 = 0 := by have := b2.write_eq (s := 0) hn hcs; rw [show ((0 : Nat) : Int) = 0 from rfl] at this; rw [this]
  obtain ⟨D3, hD3⟩ : ∃ D3, D3 = (DD.write 0 cs D2).1 := ⟨_, rfl⟩
  rw [← hD3] at c2 c3
  have d2 := c2.flush_calm
  have d3 := c2.flush_at
  have d1 : (DD.flush D3).2 = 0 := by rw [c2.flush_eq]
  obtain ⟨D4, hD4⟩ : ∃ D4, D4 = (DD.flush D3).1 := ⟨_, rfl⟩
  rw [← hD4] at d2 d3
  obtain ⟨e1, e2, e3⟩ := wops_calm l (blockAt log l) _ D4 d2 (fun i hi => ⟨(hbp i hi).1, (hbp i hi).2.1⟩) (fun c hc => (hl c hc).2.2)
  obtain ⟨D5, hD5⟩ : ∃ D5, D5 = (runD (wops (blockAt log l) l) D4).1 := ⟨_, rfl⟩
  rw [← hD5] at e2 e3
  have f2 := e2.flush_calm
  have f3 := e2.flush_at
  have f1 : (DD.flush D5).2 = 0 := by rw [e2.flush_eq]
  obtain ⟨D6, hD6⟩ : ∃ D6, D6 = (DD.flush D5).1 := ⟨_, rfl⟩
  rw [← hD6] at f2 f3
  have hz : (DD.zero m).length = m := by simp [DD.zero]
  have g2 : DD.Calm n m _ (DD.write 0 (DD.zero m) D6).1 := f2.write_calm (s := 0) hn hz
  have g3 : ∀ t, (DD.write 0 (DD.zero m) D6).1.at_ t = if t = 0 then DD.zero m else D6.at_ t := f2.write_at (s := 0) hn hz
  have g1 : (DD.write 0 (DD.zero m) D6).2 = 0 := by have := f2.write_eq (s := 0) hn hz; rw [show ((0 : Nat) : Int) = 0 from rfl] at this; rw [this]
  obtain ⟨D7, hD7⟩ : ∃ D7, D7 = (DD.write 0 (DD.zero m) D6).1 := ⟨_, rfl⟩
  rw [← hD7] at g2 g3
  have h2 := g2.flush_calm
  have h3 := g2.flush_at
  have h1 : (DD.flush D7).2 = 0 := by rw [g2.flush_eq]
  have hr : runD (commitOps log m l cs) D = ((DD.flush D7).1, (DD.flush D7).2) := by
    unfold commitOps
    rw [runD, if_pos a1, ← hD1, runD, if_pos b1, ← hD2, runD, if_pos c1, ← hD3, runD, if_pos d1, ← hD4, runD, if_pos e1, ← hD5, runD, if_pos f1, ← hD6, runD, if_pos g1, ← hD7, runD, if_pos h1, runD, h1]
  rw [hr]
  refine ⟨h1, ?_, ?_, fun t ht => ?_⟩
  · have : k + 2 * l.length + 6 = k + l.length + 1 + 1 + 1 + l.length + 1 + 1 + 1 := by omega
    rw [this]
    exact h2
  · rw [h3, g3, if_pos rfl]
  · rw [h3, g3, if_neg (by omega), f3, e3]
    -- the blocks' places see D4 as D, but for the log and the first sector
    have hx : ∀ u, 1 + log ≤ u → D4.at_ u = D.at_ u := fun u hu => by
      rw [d3, c3, if_neg (by omega), b3, a3]
      exact putsAt_far l _ _ u fun i hi => by show (1 + (i : Int)).toNat ≠ u; omega
    have hy : ∀ (l' : List Ch) (pl : Nat → Int) (f g : Nat → List UInt8), (∀ u, 1 + log ≤ u → f u = g u) → ∀ u, 1 + log ≤ u → putsAt pl l' f u = putsAt pl l' g u := by
      intro l'
      induction l' with
      | nil => intro pl f g hfg u hu; exact hfg u hu
      | cons c cs ih =>
        intro pl f g hfg u hu
        rw [putsAt, putsAt]
        exact ih _ _ _ (fun u hu => by unfold DD.setS; split; (· rfl); (· exact hfg u hu)) u hu
    exact hy l _ _ _ hx t ht
end Go.Proofs.Ytllodjcfcjmocaa
