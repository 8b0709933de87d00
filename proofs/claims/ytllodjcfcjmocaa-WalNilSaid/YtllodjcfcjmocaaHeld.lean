import Derived.Test.YtllodjcfcjmocaaBase
/- A REGION THAT DRAWS ITS ORDER, operation by operation, where a guard may say no: the laws beneath. No program in sight. -/
namespace Go.Proofs.Ytllodjcfcjmocaa
open Go.RowKit

section
variable {P : Program} {ops : Array Oper} {Q : Exit → Act → World → Prop} {S : World → Prop} {fuel : Nat} {listed listed' : Array Bool} {a : Act} {w : World}
/-- An operation whose guard says no. -/
theorem held_skip {i d : Nat} (hd : (ops[i]?).map (·.dst) = some (some d)) (hs : Region.noSelect ops = true) (hf : Region.free .any ops listed i = true) (hr : (Region.ready .any ops listed).contains i = true)
    (hl : listed.setIfInBounds i true = listed') (hw : (ops[i]?).map (fun o => Region.wanted o (yielded ops a.tmps)) = some false)
    (hQ : ∀ c (a : Act) (d : Option Tmp) (v : Value) w, Q (.panic c) (a.put d v) w → Q (.panic c) a w) (hS : S w)
    (h : wpAnyH P .any ops Q S fuel listed' (a.put (some d) undef) w) : wpAnyH P .any ops Q S (fuel + 1) listed a w := by
  cases ho : ops[i]? with
  | none => rw [ho] at hd; cases hd
  | some o =>
    rw [ho] at hd hw
    have hd : o.dst = some d := by simpa using hd
    have hw : Region.wanted o (yielded ops a.tmps) = false := by simpa using hw
    subst hl
    exact wpAnyH_take (v := undef) ho hs hf hr (fun c a w => hQ c a _ _ w) (.inr ⟨hw, rfl⟩) hS (by rw [hd]; exact h)
/-- An operation that leaves v in every world that meets S. -/
theorem held_take {i d : Nat} {v : Value} (hd : (ops[i]?).map (·.dst) = some (some d)) (hs : Region.noSelect ops = true) (hf : Region.free .any ops listed i = true) (hr : (Region.ready .any ops listed).contains i = true)
    (hl : listed.setIfInBounds i true = listed') (hw : (ops[i]?).map (fun o => Region.wanted o (yielded ops a.tmps)) = some true)
    (hQ : ∀ c (a : Act) (d : Option Tmp) (v : Value) w, Q (.panic c) (a.put d v) w → Q (.panic c) a w) (hS : S w)
    (hy : ∀ o, ops[i]? = some o → ∀ w, S w → (execOp a.eval o).run P w = .ok (.value v) w)
    (h : wpAnyH P .any ops Q S fuel listed' (a.put (some d) v) w) : wpAnyH P .any ops Q S (fuel + 1) listed a w := by
  cases ho : ops[i]? with
  | none => rw [ho] at hd; cases hd
  | some o =>
    rw [ho] at hd hw
    have hd : o.dst = some d := by simpa using hd
    have hw : Region.wanted o (yielded ops a.tmps) = true := by simpa using hw
    subst hl
    exact wpAnyH_take (v := v) ho hs hf hr (fun c a w => hQ c a _ _ w) (.inl ⟨hw, hy o ho⟩) hS (by rw [hd]; exact h)
/-- An operation that is met by what is known of it: alone it may come up. -/
theorem held_step {i : Nat} (hr : Region.ready .any ops listed = [i]) (hl : listed.setIfInBounds i true = listed') (hw : (ops[i]?).map (fun o => Region.wanted o (yielded ops a.tmps)) = some true)
    (h : ∀ o, ops[i]? = some o → ∀ K : Act → World → Prop, Shut (∀ a w, S w → (S w → wpAnyH P .any ops Q S fuel listed' a w) → K a w) → Oper.wp P o a w K Q) : wpAnyH P .any ops Q S (fuel + 1) listed a w := by
  cases ho : ops[i]? with
  | none => rw [ho] at hw; cases hw
  | some o =>
    rw [ho] at hw
    have hw : Region.wanted o (yielded ops a.tmps) = true := by simpa using hw
    subst hl
    refine wpAnyH_ready hr (by simp) (AllReadyH.cons ho (fun K hK => ?_) AllReadyH.nil)
    rw [if_pos hw]
    exact h o ho K hK
/-- The beginning. -/
theorem held_start {id n : Nat} (hm : P.follows .mixedOrders = true) (hn : ops.size = n) (hl : Array.replicate n false = listed) (hS : S w.drew) (h : S w.drew → wpAnyH P .any ops Q S n listed a w.drew) : (Code.region id ops true).wp P Q a w := by
  subst hn; subst hl
  exact wp_region_held_drew hm hS h
end
end Go.Proofs.Ytllodjcfcjmocaa
