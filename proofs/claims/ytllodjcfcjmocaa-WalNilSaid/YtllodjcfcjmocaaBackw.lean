import Derived.RangeFuncNested
import Derived.RangeFuncBound
import Derived.RangeFuncCalls
import Derived.RangeFuncLeaves
import Derived.RangeFuncBox
import Derived.Shelf.Abstract
import Derived.Shelf.RegionOpen
import Derived.WalkKit
import Derived.OwnWalkIn
import Derived.TacticsInMore
import Derived.LoopNIn
import Derived.LoopIn
import Derived.Test.YtllodjcfcjmocaaDisk4
/- slices.Backward OVER A CACHE: its contract. -/
namespace Go.Proofs.Ytllodjcfcjmocaa
open Go.RowKit Go.Proofs Go.Shelf
attribute [local go_sem] Oper.semAt_some

/-- What has come when k rounds are over: len - 1, len - 2, .. -/
def bwd (len k : Nat) : List Nat := (List.range k).map fun j => len - 1 - j
theorem bwd_succ (len k : Nat) : bwd len (k + 1) = bwd len k ++ [len - 1 - k] := by simp [bwd, List.range_succ]
theorem bwd_length (len k : Nat) : (bwd len k).length = k := by simp [bwd]

set_option maxRecDepth 100000 in
set_option maxHeartbeats 2000000 in
theorem backw1_in (F : Fence) (n : Nat) (h7 : F.fn 55) (hro : F.round = none) (hn : 1 ≤ n) (l Bs n₀ g len cap : Nat) (va vb : Nat → Value) (hreach : len < 1000000000) (hb : 0 < len → g < n₀) (hBs : Bs < n₀) (J Jx : List (Fin len) → World → Prop) (A : Option Addr) (hA : 0 < len → A = some ⟨g, 0, none⟩)
    (hY : ∀ (pre : List (Fin len)) (x : Fin len) (W : World), J pre W → pre.length < len → YieldAt F (n - 1) Try.prog l #[.int .i64 (x.1 : Int), .agg #[va x.1, vb x.1]] W fun e W' =>
      (e = .returned (.bool true) ∧ J (pre ++ [x]) W' ∧ Below n₀ W W') ∨ (e = .returned (.bool false) ∧ Jx (pre ++ [x]) W'))
    (W : World) (hBc : W.cell? ⟨Bs, 0, none⟩ = some (.slice A len cap)) (hc : ∀ j, j < len → W.cell? ⟨g, j * 2, none⟩ = some (va j) ∧ W.cell? ⟨g, j * 2 + 1, none⟩ = some (vb j)) (h0 : J [] W) :
    CallsIn F n Try.prog 55 #[.func (.yield l) #[] #[], .pointer (some ⟨Bs, 0, none⟩)] W fun e W' => (∃ v, e = .returned v) ∧
      ((∃ ys, ys.map (·.1) = bwd len len ∧ J ys W') ∨ (∃ pre, (∃ k, k ≤ len ∧ pre.map (·.1) = bwd len k) ∧ Jx pre W')) := by
  refine callsIn_of_wp Try.func55 rfl h7 ?_ hro
  simp only [Try.ntmps55, List.size_toArray, List.length_cons, List.length_nil, Nat.reduceAdd, Nat.reduceSub, Array.replicate_succ, Array.replicate_zero, List.push_toArray, List.append_toArray, List.nil_append, List.cons_append]
  gi_wp2
  gi_loopw [3] (fun i wr => ∃ m k : Nat, m + k = len ∧ i = .int .i64 ((m : Int) - 1) ∧ (∃ pre : List (Fin len), pre.map (·.1) = bwd len k ∧ J pre wr) ∧ Below n₀ W wr)
    (fun i _ => (intOf i + 1).toNat)
  case atStart => exact ⟨len, 0, by omega, rfl, ⟨[], rfl, h0⟩, Below.refl _ _⟩
  case round =>
    obtain ⟨m, k, hmk, rfl, ⟨pre, hpre, hJs⟩, hnx⟩ := hrel
    have hBx := (hnx.cell (p := ⟨Bs, 0, none⟩) hBs).trans hBc
    cases m with
    | zero =>
      have hk : k = len := by omega
      subst hk
      have HP := Lib.hid hpre
      clear hmk hpre
      gi_wp2
      go_end0
      exact ⟨⟨_, rfl⟩, .inl ⟨_, HP.out, hJs⟩⟩
    | succ m =>
      have hlen : m < len := by omega
      have hA' := hA (by omega)
      subst hA'
      obtain ⟨c1, c2⟩ := hc m hlen
      have c1' := (hnx.cell (p := ⟨g, m * 2, none⟩) (hb (by omega))).trans c1
      have c2' := (hnx.cell (p := ⟨g, m * 2 + 1, none⟩) (hb (by omega))).trans c2
      obtain ⟨fn, tmps, assign, body, hy, hR⟩ := hY pre ⟨m, hlen⟩ wr hJs (by have := congrArg List.length hpre; rw [List.length_map, bwd_length] at this; omega)
      dsimp only at hy
      have HP := Lib.hid hpre
      clear hpre
      have HMK := Lib.hid hmk
      have hi : ((m + 1 : Nat) : Int) - 1 = (m : Int) := by omega
      rw [hi]
      clear hi hmk c1 c2 hc hBc
      gi_wp2
      refine hR.mono ?_
      have HB : Hid ((pre ++ [(⟨m, hlen⟩ : Fin len)]).map (fun x : Fin len => x.1) = bwd len (k + 1)) := Lib.hid (by rw [List.map_append, HP.out, bwd_succ, show len - 1 - k = m by have := HMK.out; omega]; rfl)
      rintro e W3 (⟨rfl, hJ3, hk3⟩ | ⟨rfl, hJx3⟩)
      · gi_wp2
        go_roundw
        case rel => exact ⟨m, k + 1, by have := HMK.out; omega, by simp, ⟨_, HB.out, hJ3⟩, hnx.trans hk3⟩
        case measure => simp [intOf]
      · gi_wp2
        refine bodyPost_ret (results_none rfl _ _ _) rfl ?_
        exact ⟨⟨_, rfl⟩, .inr ⟨_, ⟨k + 1, by have := HMK.out; omega, HB.out⟩, hJx3⟩⟩

set_option maxHeartbeats 1000000 in
theorem backw_in (F : Fence) (n : Nat) (h5 : F.fn 42) (hro : F.round = none) (a : Option Addr) (len cap : Nat) (w : World) :
    CallsIn F n Try.prog 42 #[.slice a len cap] w fun e w' => e = .returned (.func (.func 55) #[] #[.pointer (some ⟨w.heap.size, 0, none⟩)]) ∧ w' = w.alloc (.cells #[.slice a len cap] 54) := by
  refine callsIn_of_wp Try.func42 rfl h5 ?_ hro
  simp only [Try.ntmps42, List.size_toArray, List.length_cons, List.length_nil, Nat.reduceAdd, Nat.reduceSub, Array.replicate_succ, Array.replicate_zero, List.push_toArray, List.append_toArray, List.nil_append, List.cons_append]
  gi_wp2
  go_ret
  exact ⟨rfl, rfl⟩

/-- The iterator over a cache, the last one first. -/
theorem backw_stops (F : Fence) (n : Nat) (h7 : F.fn 55) (hro : F.round = none) (hn : 1 ≤ n) (Bs g len cap : Nat) (va vb : Nat → Value) (hreach : len < 1000000000) (A : Option Addr) (hA : 0 < len → A = some ⟨g, 0, none⟩) (w : World)
    (hBs : Bs < w.heap.size) (hg : 0 < len → g < w.heap.size) (hBc : w.cell? ⟨Bs, 0, none⟩ = some (.slice A len cap)) (hc : ∀ j, j < len → w.cell? ⟨g, j * 2, none⟩ = some (va j) ∧ w.cell? ⟨g, j * 2 + 1, none⟩ = some (vb j)) :
    SeqStopsK F n Try.prog 55 #[.pointer (some ⟨Bs, 0, none⟩)] (fun x : Fin len => #[Value.int .i64 (x.1 : Int), .agg #[va x.1, vb x.1]]) (Below w.heap.size) (fun ys => ys.map (·.1) = bwd len len)
      (fun pre => ∃ k, k ≤ len ∧ pre.map (·.1) = bwd len k) len w := fun l J Jx W hW _ _ hY h0 =>
  backw1_in F n h7 hro hn l Bs w.heap.size g len cap va vb hreach hg hBs J Jx A hA hY W ((hW.cell (p := ⟨Bs, 0, none⟩) hBs).trans hBc)
    (fun j hj => ⟨(hW.cell (p := ⟨g, j * 2, none⟩) (hg (by omega))).trans (hc j hj).1, (hW.cell (p := ⟨g, j * 2 + 1, none⟩) (hg (by omega))).trans (hc j hj).2⟩) h0
end Go.Proofs.Ytllodjcfcjmocaa
