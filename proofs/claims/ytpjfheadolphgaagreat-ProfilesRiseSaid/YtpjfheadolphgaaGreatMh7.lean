import Derived.Test.YtpjfheadolphgaaGreatMh6
import Derived.OwnWalkIn
import Derived.OrdersIn
import Derived.TacticsIn
import Derived.Deep.Fields
import Derived.ChangeSame
import Derived.SizedLaws
set_option linter.unusedVariables false
set_option linter.unusedSimpArgs false
namespace Go.Proofs.YtpjfheadolphgaaGreat
open Go.RowKit Go.Proofs Go.Shelf
set_option maxRecDepth 20000
attribute [local go_sem] Oper.semAt_some
section
variable {w wr w' w0 : World} {G : Nat → Prop} {x : Nat} {L L' : List Str} {a h z : Str} {v : Value}
theorem Ty.path : Elt Tryz.prog 187 (.agg #[.string ⟨#[]⟩, .string ⟨#[]⟩, .int .i64 0, .slice none 0 0]) 4 64 := ⟨by kernel_rfl, rfl, by omega, by omega⟩
def RefPO (w : World) (G : Nat → Prop) (x : Nat) (v : Value) (L : List Str) (e : Ending) (w' : World) : Prop := e = .returned v ∧ ∃ G', RefP w' G' x L ∧ Only G w w' ∧ Grows G G' w
theorem RefPO.from_ {e : Ending} (ho : Only NoB w0 w) (h : RefPO w G x v L e w') : RefPO w0 G x v L e w' := by
 obtain ⟨he, G', h1, h2, h3⟩ := h
 exact ⟨he, G', h1, (ho.mono fun _ _ h => h.elim).trans h2, fun k hk => (h3 k hk).elim .inl fun h => .inr (Nat.le_trans ho.size h)⟩
theorem RefP.put (h : RefP w0 G x L) (hs : L'.Pairwise lts) (ho : Only NoB w0 w) (hown : Own w (From w0.heap.size) 187 4 v L'.length (pathL L')) :
  ∃ G', RefP (w.setCell ⟨x, 0, none⟩ v) G' x L' ∧ Only G w0 (w.setCell ⟨x, 0, none⟩ v) ∧ Grows G G' w0 := by
 obtain ⟨lv, hb, _⟩ := h.cells
 have hb2 := hb.only ho id
 have hx := h.lt x h.in_
 have hv : ∀ k, v.ownBlock = some k → k ≠ x := fun k hk => by
  have : w0.heap.size ≤ k := hown.2 k hk
  omega
 refine ⟨fun k => G k ∨ (w0.heap.size ≤ k ∧ k < w.heap.size), ⟨fun k hk => ?_, .inl h.in_, hs, v, hb2.set_ 0 v, ?_⟩, (ho.mono fun _ _ h => h.elim).setCell (.inl h.in_) _, fun k hk => hk.imp id (·.1)⟩
 ·rw [World.size_setCell]
  rcases hk with hk | hk
  ·exact Nat.lt_of_lt_of_le (h.lt k hk) ho.size
  ·exact hk.2
 ·have h1 := hown.keep (w' := w.setCell ⟨x, 0, none⟩ v) fun k hk => Below.heap_setCell w _ _ k (hv k hk)
  refine h1.mono fun k hk hlt => ?_
  rw [World.size_setCell] at hlt
  have hk : w0.heap.size ≤ k := hk
  exact ⟨.inr ⟨hk, hlt⟩, by omega⟩
theorem rd_all {size n c : Nat} {A : Option Addr} {xs : List Value} {F : Nat → Prop} (h : Rd w F size (.slice A n c) n xs) (ho : Only NoB w w') : Rd w' (fun _ => True) size (.slice A n c) n xs := Rd.only (h.mono (G := fun _ => True) fun _ _ _ => trivial) ho fun _ _ => id
set_option maxHeartbeats 8000000 in
theorem rreg_end (hz0 : z = List.replicate 32 48) (h : RefP w G x L) (ha : stOk a = true) (hl : L.length ≤ 1000) (hlt : ∀ b ∈ L, lts b a) :
  Calls Tryz.prog 39 #[.pointer (some ⟨x, 0, none⟩), .string ⟨a.toArray⟩, .agg (infoC z 0 (.slice none 0 0))] w (RefPO w G x (.int .i64 0) (L ++ [a])) := by
 have hal := stOk_len ha
 have hz : z.length = 32 := by rw [hz0]; rfl
 have HCK0 := fun w => rcheck_ok hz a (by omega) w
 unfold RckOut at HCK0
 rw [ha] at HCK0
 simp only [if_true] at HCK0
 rw [show infoC z 0 (.slice none 0 0) = #[.string ⟨z.toArray⟩, .int .i64 0, .slice none 0 0] from rfl] at HCK0 ⊢
 have HCK := Pk.mk HCK0
 have HPL := Pk.mk fun w1 (h1 : RefP w1 G x L) => rplace23_ok h1 a hl
 obtain ⟨W0, hW0⟩ : ∃ W0, W0 = w.alloc (.cells #[.string ⟨z.toArray⟩, .int .i64 0, .slice none 0 0] 58) := ⟨_, rfl⟩
 have hb0 : Blk W0 w.heap.size 58 #[.string ⟨z.toArray⟩, .int .i64 0, .slice none 0 0] := by rw [hW0]; exact Blk.new w _ _
 have ho0 : Only NoB w W0 := by rw [hW0]; exact (Only.refl NoB w).alloc _
 have x0 : W0.cell? ⟨w.heap.size, 0, none⟩ = some (.string ⟨z.toArray⟩) := hb0.cell 0
 have x1 : W0.cell? ⟨w.heap.size, 1, none⟩ = some (.int .i64 0) := hb0.cell 1
 have x2 : W0.cell? ⟨w.heap.size, 2, none⟩ = some (.slice none 0 0) := hb0.cell 2
 have HB0 := Pk.mk hb0
 have HO0 := Pk.mk ho0
 have HW0 := Pk.mk hW0
 have H0 := Pk.mk (h.quit ho0)
 have HEND : Pk (∀ k is, k ≤ L.length → is = decide (L[k]? = some a) → (∀ h : k < L.length, ¬ lts L[k] a) → k = L.length ∧ is = false) := Pk.mk fun k is hk hi hn => by
  have hkk : k = L.length := by
   apply Decidable.byContradiction
   intro hne
   have hk2 : k < L.length := by omega
   exact hn hk2 (hlt _ (List.getElem_mem hk2))
  subst hkk
  exact ⟨rfl, by rw [hi]; simp⟩
 have SRT : Pk ((L ++ [a]).Pairwise lts) := Pk.mk (List.pairwise_append.2 ⟨h.srt, List.pairwise_singleton _ _, fun b hb y hy => by
  obtain rfl : y = a := by simpa using hy
  exact hlt b hb⟩)
 have HLN := Pk.mk hl
 have PLE : Pk (pathL (L ++ [a]) = pathL L ++ [.string ⟨a.toArray⟩, .string ⟨z.toArray⟩, .int .i64 0, .slice none 0 0]) := Pk.mk (by rw [pathL_append, hz0]; rfl)
 clear h ha hl hlt hal hz hz0 HCK0 hW0 hb0 ho0
 go_enter Tryz.func39, Tryz.ntmps39
 go_wp2_with fail
 rw [← HW0.out]
 refine (HCK.out _).mono ?_
 rintro e w1 ⟨rfl, ho⟩
 have hb1 := HB0.out.only ho id
 have H1 := Pk.mk (H0.out.quit ho)
 have HB1 := Pk.mk hb1
 have HO1 := Pk.mk (HO0.out.trans ho)
 have HPC := Pk.mk (HPL.out _ H1.out)
 clear ho hb1 x0 x1 x2
 go_wp2_with fail
 refine HPC.out.mono ?_
 rintro e w2 ⟨k, is, rfl, ho, hk, hi, _, hn⟩
 obtain ⟨rfl, rfl⟩ := HEND.out k is hk hi hn
 have hb2 := HB1.out.only ho id
 have x0 : w2.cell? ⟨w.heap.size, 0, none⟩ = some (.string ⟨z.toArray⟩) := hb2.cell 0
 have x1 : w2.cell? ⟨w.heap.size, 1, none⟩ = some (.int .i64 0) := hb2.cell 1
 have h2 := H1.out.quit ho
 obtain ⟨w5, hw5⟩ : ∃ w5, w5 = w2.alloc (.cells #[.string ⟨z.toArray⟩, .int .i64 0, .slice none 0 0] 58) := ⟨_, rfl⟩
 obtain ⟨B5, hB5⟩ : ∃ B5, B5 = w2.heap.size := ⟨_, rfl⟩
 have ho5 : Only NoB w2 w5 := by rw [hw5]; exact (Only.refl NoB w2).alloc _
 have hi5 : Blk w5 B5 58 #[.string ⟨z.toArray⟩, .int .i64 0, .slice none 0 0] := by rw [hw5, hB5]; exact Blk.new w2 _ _
 have x2 : w5.cell? ⟨w.heap.size, 2, none⟩ = some (.slice none 0 0) := (hb2.only ho5 id).cell 2
 have X2_ := x2
 have X2 := Pk.mk X2_
 rw [hw5] at x2
 have HI5 := Pk.mk hi5
 have HO5 := Pk.mk ((HO1.out.trans ho).trans ho5)
 have h5 := h2.quit ho5
 have H5 := Pk.mk h5
 have HW5 := Pk.mk hw5
 have HB5 := Pk.mk hB5
 have HLE := HLN.out
 obtain ⟨lv, hb, hown⟩ := h5.cells
 have HB := Pk.mk hb
 clear ho hk hi hn hb2 h2 ho5 hi5 h5 hw5 hB5 X2_
 go_upto_region 8 with fail
 rw [← HW5.out, ← HB5.out]
 clear x0 x1 x2
 go_wp2_with fail
 go_loopw [11] (fun i wr => i = .int .i64 0 ∧ wr = w5) (fun _ _ => 0)
 case atStart => exact ⟨rfl, rfl⟩
 case round =>
  obtain ⟨rfl, rfl⟩ := hrel
  have x2 := X2.out
  rcases hown.1.2 with ⟨rfl, hz⟩ | ⟨g, cap, cur, rfl, _, _, hnc, _⟩
  ·have hL0 : L = [] := List.eq_nil_of_length_eq_zero hz
   subst hL0
   have HRA : Pk (∀ w', Only NoB wr w' → Rd w' (fun _ => True) 4 (.slice none 0 0) 0 (pathL [])) := Pk.mk fun w' _ => Rd.nil _ _ _
   have HRD : Pk (∀ w', Only NoB wr w' → Rd w' (fun _ => True) 4 (.slice none 0 0) 0 []) := Pk.mk fun w' _ => Rd.nil _ _ _
   have LENS : (([] : List Str) ++ [a]).length = 0 + 1 + 0 := rfl
   clear hown hb hz
   have c0 : wr.cell? ⟨x, 0, none⟩ = some (.slice none 0 0) := HB.out.cell 0
   go_upto_region 15 with fail
   go_upto_region 16 with (at_builtin; refine wpList_app rfl _ _ _ rfl (by kernel_rfl) Ty.path rfl rfl (Own.nil wr (From wr.heap.size) _ _) (HRA.out wr (Only.refl NoB wr)) (pathL_one _) (by omega) ?_; intro v7 w7 ha7; obtain ⟨A7, c7, rfl, _⟩ := id ha7.shape; have HA7 := Pk.mk ha7; clear ha7)
   have hown7 : Own w7 (From wr.heap.size) 187 4 (.slice A7 (0 + 0) c7) (0 + 0) (pathL []) := by
    have := HA7.out.own
    rw [List.nil_append] at this
    exact this.mono fun k hk _ => by
     rcases hk with hk | hk
     ·exact hk
     ·exact Nat.le_of_eq hk.symm
   rw [Nat.zero_add] at hown7
   try rw [Nat.zero_add]
   have ho7 : Only NoB wr w7 := HA7.out.only.mono fun k _ hk => by cases hk
   have HW8 := Pk.mk (hown7.alloc (.cells #[.string ⟨a.toArray⟩, .string ⟨z.toArray⟩, .int .i64 0, .slice none 0 0] 187))
   have HR8 := Pk.mk (rd_new w7 187 4 1 [.string ⟨a.toArray⟩, .string ⟨z.toArray⟩, .int .i64 0, .slice none 0 0] rfl)
   have HO7 := Pk.mk ho7
   have i7 := HI5.out.only ho7 id
   have i70 : w7.cell? ⟨B5, 0, none⟩ = some (.string ⟨z.toArray⟩) := i7.cell 0
   have i71 : w7.cell? ⟨B5, 1, none⟩ = some (.int .i64 0) := i7.cell 1
   have i72 : w7.cell? ⟨B5, 2, none⟩ = some (.slice none 0 0) := i7.cell 2
   clear hown7 ho7 i7
   go_upto_region 17 with (at_builtin; refine wpList_app rfl _ _ _ rfl (by kernel_rfl) Ty.path rfl rfl HW8.out HR8.out (by simp [Value.oneCell']) (by omega) ?_; intro v9 w9 ha9; obtain ⟨A9, c9, rfl, _⟩ := id ha9.shape; have HA9 := Pk.mk ha9; clear ha9)
   have ho9 : Only NoB wr w9 := only_new (HO7.out.alloc _) HA9.out.only fun k hk => HW8.out.2 k hk
   have hown9 : Own w9 (From wr.heap.size) 187 4 (.slice A9 (0 + 1) c9) (0 + 1) (pathL [] ++ [.string ⟨a.toArray⟩, .string ⟨z.toArray⟩, .int .i64 0, .slice none 0 0]) := HA9.out.own.mono fun k hk _ => by
    rcases hk with hk | hk
    ·exact hk
    ·rw [World.size_alloc] at hk
     have h2 := HO7.out.size
     show wr.heap.size ≤ k
     omega
   have c9' : w9.cell? ⟨x, 0, none⟩ = some (.slice none 0 0) := (HB.out.only ho9 id).cell 0
   have HO9 := Pk.mk ho9
   have HW9 := Pk.mk hown9
   have HR9 := Pk.mk (HRD.out w9 ho9)
   clear ho9 hown9 c0 i70 i71 i72
   go_upto_region 18 with (at_builtin; refine wpList_app rfl _ _ _ rfl (by kernel_rfl) Ty.path rfl rfl HW9.out HR9.out (by simp) (by omega) ?_; intro v11 w11 ha11; obtain ⟨A11, c11, rfl, _⟩ := id ha11.shape; have HA11 := Pk.mk ha11; clear ha11)
   have ho11 : Only NoB wr w11 := only_new HO9.out HA11.out.only fun k hk => HW9.out.2 k hk
   have hown11 : Own w11 (From wr.heap.size) 187 4 (.slice A11 (0 + 1 + 0) c11) ([] ++ [a]).length (pathL ([] ++ [a])) := by
    have h1 := HA11.out.own
    rw [LENS, PLE.out]
    rw [List.append_nil] at h1
    exact h1.mono fun k hk _ => by
     rcases hk with hk | hk
     ·exact hk
     ·have h2 := HO9.out.size
      show wr.heap.size ≤ k
      omega
   have hbx := HB.out.only ho11 id
   have f0 := hbx.frozen 0
   have c11' : w11.cell? ⟨x, 0, none⟩ = some (.slice none 0 0) := hbx.cell 0
   obtain ⟨G', hg1, hg2, hg3⟩ := H5.out.put SRT.out ho11 hown11
   have HR : Pk (RefPO w G x (.int .i64 0) ([] ++ [a]) (.returned (.int .i64 0)) (w11.setCell ⟨x, 0, none⟩ (.slice A11 (0 + 1 + 0) c11))) := Pk.mk (RefPO.from_ HO5.out ⟨rfl, G', hg1, hg2, hg3⟩)
   clear hown11 ho11 hbx hg1 hg2 hg3 c9'
   go_wp2_with fail
   go_ret
   exact HR.out
  ·have hrd := hown.rd
   have HRA : Pk (∀ w', Only NoB wr w' → Rd w' (fun _ => True) 4 (.slice (some ⟨g, 0, none⟩) L.length cap) L.length (pathL L)) := Pk.mk fun w' ho => rd_all hrd ho
   have LENS : (L ++ [a]).length = L.length + 1 + 0 := by simp
   have hmc : (L.length : Int) ≤ (cap : Int) := by omega
   by_cases hie : L.length = cap
   ·subst hie
    have HRD : Pk (∀ w', Only NoB wr w' → Rd w' (fun _ => True) 4 (.slice (some ⟨g, 0, none⟩) 0 0) 0 []) := Pk.mk fun w' ho => ⟨_, _, rfl, Nat.le_refl _, by simp, fun h => by omega⟩
    clear hown hb hrd
    have c0 : wr.cell? ⟨x, 0, none⟩ = some (.slice (some ⟨g, 0, none⟩) L.length L.length) := HB.out.cell 0
    go_upto_region 15 with fail
    go_upto_region 16 with (at_builtin; refine wpList_app rfl _ _ _ rfl (by kernel_rfl) Ty.path rfl rfl (Own.nil wr (From wr.heap.size) _ _) (HRA.out wr (Only.refl NoB wr)) (pathL_one _) (by omega) ?_; intro v7 w7 ha7; obtain ⟨A7, c7, rfl, _⟩ := id ha7.shape; have HA7 := Pk.mk ha7; clear ha7)
    have hown7 : Own w7 (From wr.heap.size) 187 4 (.slice A7 (0 + L.length) c7) (0 + L.length) (pathL L) := by
     have := HA7.out.own
     rw [List.nil_append] at this
     exact this.mono fun k hk _ => by
      rcases hk with hk | hk
      ·exact hk
      ·exact Nat.le_of_eq hk.symm
    rw [Nat.zero_add] at hown7
    try rw [Nat.zero_add]
    have ho7 : Only NoB wr w7 := HA7.out.only.mono fun k _ hk => by cases hk
    have HW8 := Pk.mk (hown7.alloc (.cells #[.string ⟨a.toArray⟩, .string ⟨z.toArray⟩, .int .i64 0, .slice none 0 0] 187))
    have HR8 := Pk.mk (rd_new w7 187 4 1 [.string ⟨a.toArray⟩, .string ⟨z.toArray⟩, .int .i64 0, .slice none 0 0] rfl)
    have HO7 := Pk.mk ho7
    have i7 := HI5.out.only ho7 id
    have i70 : w7.cell? ⟨B5, 0, none⟩ = some (.string ⟨z.toArray⟩) := i7.cell 0
    have i71 : w7.cell? ⟨B5, 1, none⟩ = some (.int .i64 0) := i7.cell 1
    have i72 : w7.cell? ⟨B5, 2, none⟩ = some (.slice none 0 0) := i7.cell 2
    clear hown7 ho7 i7
    go_upto_region 17 with (at_builtin; refine wpList_app rfl _ _ _ rfl (by kernel_rfl) Ty.path rfl rfl HW8.out HR8.out (by simp [Value.oneCell']) (by omega) ?_; intro v9 w9 ha9; obtain ⟨A9, c9, rfl, _⟩ := id ha9.shape; have HA9 := Pk.mk ha9; clear ha9)
    have ho9 : Only NoB wr w9 := only_new (HO7.out.alloc _) HA9.out.only fun k hk => HW8.out.2 k hk
    have hown9 : Own w9 (From wr.heap.size) 187 4 (.slice A9 (L.length + 1) c9) (L.length + 1) (pathL L ++ [.string ⟨a.toArray⟩, .string ⟨z.toArray⟩, .int .i64 0, .slice none 0 0]) := HA9.out.own.mono fun k hk _ => by
     rcases hk with hk | hk
     ·exact hk
     ·rw [World.size_alloc] at hk
      have h2 := HO7.out.size
      show wr.heap.size ≤ k
      omega
    have c9' : w9.cell? ⟨x, 0, none⟩ = some (.slice (some ⟨g, 0, none⟩) L.length L.length) := (HB.out.only ho9 id).cell 0
    have HO9 := Pk.mk ho9
    have HW9 := Pk.mk hown9
    have HR9 := Pk.mk (HRD.out w9 ho9)
    clear ho9 hown9 c0 i70 i71 i72
    go_upto_region 18 with (at_builtin; refine wpList_app rfl _ _ _ rfl (by kernel_rfl) Ty.path rfl rfl HW9.out HR9.out (by simp) (by omega) ?_; intro v11 w11 ha11; obtain ⟨A11, c11, rfl, _⟩ := id ha11.shape; have HA11 := Pk.mk ha11; clear ha11)
    have ho11 : Only NoB wr w11 := only_new HO9.out HA11.out.only fun k hk => HW9.out.2 k hk
    have hown11 : Own w11 (From wr.heap.size) 187 4 (.slice A11 (L.length + 1 + 0) c11) (L ++ [a]).length (pathL (L ++ [a])) := by
     have h1 := HA11.out.own
     rw [LENS, PLE.out]
     rw [List.append_nil] at h1
     exact h1.mono fun k hk _ => by
      rcases hk with hk | hk
      ·exact hk
      ·have h2 := HO9.out.size
       show wr.heap.size ≤ k
       omega
    have hbx := HB.out.only ho11 id
    have f0 := hbx.frozen 0
    have c11' : w11.cell? ⟨x, 0, none⟩ = some (.slice (some ⟨g, 0, none⟩) L.length L.length) := hbx.cell 0
    obtain ⟨G', hg1, hg2, hg3⟩ := H5.out.put SRT.out ho11 hown11
    have HR : Pk (RefPO w G x (.int .i64 0) (L ++ [a]) (.returned (.int .i64 0)) (w11.setCell ⟨x, 0, none⟩ (.slice A11 (L.length + 1 + 0) c11))) := Pk.mk (RefPO.from_ HO5.out ⟨rfl, G', hg1, hg2, hg3⟩)
    clear hown11 ho11 hbx hg1 hg2 hg3 c9'
    go_wp2_with fail
    go_ret
    exact HR.out
   ·have HRD : Pk (∀ w', Only NoB wr w' → Rd w' (fun _ => True) 4 (.slice (some ⟨g, L.length * 4, none⟩) 0 (cap - L.length)) 0 []) := Pk.mk fun w' ho => ⟨_, _, rfl, Nat.zero_le _, by simp, fun h => by omega⟩
    clear hown hb hrd
    have c0 : wr.cell? ⟨x, 0, none⟩ = some (.slice (some ⟨g, 0, none⟩) L.length cap) := HB.out.cell 0
    go_upto_region 15 with fail
    go_upto_region 16 with (at_builtin; refine wpList_app rfl _ _ _ rfl (by kernel_rfl) Ty.path rfl rfl (Own.nil wr (From wr.heap.size) _ _) (HRA.out wr (Only.refl NoB wr)) (pathL_one _) (by omega) ?_; intro v7 w7 ha7; obtain ⟨A7, c7, rfl, _⟩ := id ha7.shape; have HA7 := Pk.mk ha7; clear ha7)
    have hown7 : Own w7 (From wr.heap.size) 187 4 (.slice A7 (0 + L.length) c7) (0 + L.length) (pathL L) := by
     have := HA7.out.own
     rw [List.nil_append] at this
     exact this.mono fun k hk _ => by
      rcases hk with hk | hk
      ·exact hk
      ·exact Nat.le_of_eq hk.symm
    rw [Nat.zero_add] at hown7
    try rw [Nat.zero_add]
    have ho7 : Only NoB wr w7 := HA7.out.only.mono fun k _ hk => by cases hk
    have HW8 := Pk.mk (hown7.alloc (.cells #[.string ⟨a.toArray⟩, .string ⟨z.toArray⟩, .int .i64 0, .slice none 0 0] 187))
    have HR8 := Pk.mk (rd_new w7 187 4 1 [.string ⟨a.toArray⟩, .string ⟨z.toArray⟩, .int .i64 0, .slice none 0 0] rfl)
    have HO7 := Pk.mk ho7
    have i7 := HI5.out.only ho7 id
    have i70 : w7.cell? ⟨B5, 0, none⟩ = some (.string ⟨z.toArray⟩) := i7.cell 0
    have i71 : w7.cell? ⟨B5, 1, none⟩ = some (.int .i64 0) := i7.cell 1
    have i72 : w7.cell? ⟨B5, 2, none⟩ = some (.slice none 0 0) := i7.cell 2
    clear hown7 ho7 i7
    go_upto_region 17 with (at_builtin; refine wpList_app rfl _ _ _ rfl (by kernel_rfl) Ty.path rfl rfl HW8.out HR8.out (by simp [Value.oneCell']) (by omega) ?_; intro v9 w9 ha9; obtain ⟨A9, c9, rfl, _⟩ := id ha9.shape; have HA9 := Pk.mk ha9; clear ha9)
    have ho9 : Only NoB wr w9 := only_new (HO7.out.alloc _) HA9.out.only fun k hk => HW8.out.2 k hk
    have hown9 : Own w9 (From wr.heap.size) 187 4 (.slice A9 (L.length + 1) c9) (L.length + 1) (pathL L ++ [.string ⟨a.toArray⟩, .string ⟨z.toArray⟩, .int .i64 0, .slice none 0 0]) := HA9.out.own.mono fun k hk _ => by
     rcases hk with hk | hk
     ·exact hk
     ·rw [World.size_alloc] at hk
      have h2 := HO7.out.size
      show wr.heap.size ≤ k
      omega
    have c9' : w9.cell? ⟨x, 0, none⟩ = some (.slice (some ⟨g, 0, none⟩) L.length cap) := (HB.out.only ho9 id).cell 0
    have HO9 := Pk.mk ho9
    have HW9 := Pk.mk hown9
    have HR9 := Pk.mk (HRD.out w9 ho9)
    clear ho9 hown9 c0 i70 i71 i72
    go_upto_region 18 with (at_builtin; refine wpList_app rfl _ _ _ rfl (by kernel_rfl) Ty.path rfl rfl HW9.out HR9.out (by simp) (by omega) ?_; intro v11 w11 ha11; obtain ⟨A11, c11, rfl, _⟩ := id ha11.shape; have HA11 := Pk.mk ha11; clear ha11)
    have ho11 : Only NoB wr w11 := only_new HO9.out HA11.out.only fun k hk => HW9.out.2 k hk
    have hown11 : Own w11 (From wr.heap.size) 187 4 (.slice A11 (L.length + 1 + 0) c11) (L ++ [a]).length (pathL (L ++ [a])) := by
     have h1 := HA11.out.own
     rw [LENS, PLE.out]
     rw [List.append_nil] at h1
     exact h1.mono fun k hk _ => by
      rcases hk with hk | hk
      ·exact hk
      ·have h2 := HO9.out.size
       show wr.heap.size ≤ k
       omega
    have hbx := HB.out.only ho11 id
    have f0 := hbx.frozen 0
    have c11' : w11.cell? ⟨x, 0, none⟩ = some (.slice (some ⟨g, 0, none⟩) L.length cap) := hbx.cell 0
    obtain ⟨G', hg1, hg2, hg3⟩ := H5.out.put SRT.out ho11 hown11
    have HR : Pk (RefPO w G x (.int .i64 0) (L ++ [a]) (.returned (.int .i64 0)) (w11.setCell ⟨x, 0, none⟩ (.slice A11 (L.length + 1 + 0) c11))) := Pk.mk (RefPO.from_ HO5.out ⟨rfl, G', hg1, hg2, hg3⟩)
    clear hown11 ho11 hbx hg1 hg2 hg3 c9'
    go_wp2_with fail
    go_ret
    exact HR.out
end
end Go.Proofs.YtpjfheadolphgaaGreat
namespace Go.Proofs.YtpjfheadolphgaaGreat
open Go.RowKit Go.Proofs Go.Shelf
set_option maxRecDepth 20000
attribute [local go_sem] Oper.semAt_some
section
variable {w w' : World}
def nmK (k : Nat) : Str := List.replicate 32 48 ++ [45, UInt8.ofNat (97 + k)]
def regK (k : Nat) : List Str := (List.range k).map nmK
theorem regK_succ (k : Nat) : regK (k + 1) = regK k ++ [nmK k] := by simp [regK, List.range_succ]
def OpenP (w : World) (e : Ending) (w' : World) : Prop :=
 ∃ t F X x G, e = .returned (.tuple #[.pointer (some ⟨t, 0, none⟩), .pointer (some ⟨x, 0, none⟩)]) ∧ PfAt w' F X t (regK 4) (fun _ => ([], 0)) 4 ∧ RefP w' G x (regK 4) ∧ (∀ k, F k → ¬ G k) ∧ Only NoB w w' ∧ (∀ k, F k → w.heap.size ≤ k) ∧ ∀ k, G k → w.heap.size ≤ k
def OpI (w : World) (t : Nat) (X : XC) (x : Nat) (k : Nat) (wr : World) : Prop :=
 ∃ F M G, KvAt wr F X t 640 400 (ownOf 400 640) M k ∧ PfM (regK k) M (fun _ => ([], 0)) k ∧ RefP wr G x (regK k) ∧ (∀ k, F k → ¬ G k) ∧ Only NoB w wr ∧ (∀ k, F k → w.heap.size ≤ k) ∧ ∀ k, G k → w.heap.size ≤ k
set_option maxHeartbeats 4000000 in
theorem open25_ok : Calls Tryz.prog 57 #[] w (OpenP w) := by
 have HN := Pk.mk (new_ok 402 640 (by omega) (by omega) (by omega) (by omega) w)
 go_enter Tryz.func57, Tryz.ntmps57
 go_wp2_with fail
 refine HN.out.mono ?_
 rintro e w1 ⟨b, G, rfl, hd, ho1, hG⟩
 have hz : (DD.new 402 640).at_ 0 = 0 :: List.replicate 639 0 := by
  show DD.zero 640 = _
  unfold DD.zero
  exact List.replicate_succ (n := 639)
 have HW := Pk.mk (wopen_new hd 1 (by omega) (by show 3 + 3 * 1 ≤ 640; omega) (by show 1 + 1 < 402; omega) rfl 0 _ hz (by decide))
 have HO1 := Pk.mk ho1
 have HG := Pk.mk hG
 clear hd ho1 hG hz
 go_wp2_with fail
 refine HW.out.mono ?_
 rintro e w2 ⟨a, rfl, hw, ho2, ha⟩
 have hroom : ownOf 400 640 + 2 ≤ 400 := by decide
 have HP := Pk.mk (popen_ok (X := freshX a b 400 640) (D := freshD 400 640) hw (fresh_base (by omega) (by omega) (by omega) hroom) (fresh_begin a b 400 640).symm)
 have HO2 := Pk.mk (HO1.out.trans ho2)
 have HA := Pk.mk ha
 clear hw ho2 ha hroom
 go_wp2_with fail
 refine HP.out.mono ?_
 rintro e w3 ⟨pg, rfl, hp, ho3, hpg⟩
 have HB := Pk.mk (begin_ok hp)
 have HO3 := Pk.mk (HO2.out.trans ho3)
 have HPG := Pk.mk hpg
 have HS := Pk.mk ho3.size
 clear hp ho3 hpg
 go_wp2_with fail
 refine HB.out.mono ?_
 rintro e w4 ⟨t, F, rfl, ht, ho4, hF⟩
 have hOk : Only NoB w w4 ∧ ∀ k, F k → w.heap.size ≤ k := by
  have s1 := HO1.out.size
  have s2 := HO2.out.size
  have s3 := HO3.out.size
  have hlow : ∀ k, (G k ∨ k = (freshX a b 400 640).a ∨ k = pg) → w.heap.size ≤ k := fun k hk => by
   rcases hk with hk | hk | hk
   ·exact HG.out k hk
   ·have := HA.out; have hk : k = a := hk; omega
   ·have := HPG.out; omega
  exact ⟨HO3.out.trans' ho4 fun k hk hf => by have := hlow k hf; omega, fun k hk => (hF k hk).elim (hlow k) fun h => by omega⟩
 obtain ⟨X, hX⟩ : ∃ X, X = freshX a b 400 640 := ⟨_, rfl⟩
 rw [← hX] at ht
 have hkv : KvAt w4 F X t 640 400 (ownOf 400 640) [] 0 := ⟨freshD 400 640, .inl ht, fresh_bt (by omega) (by omega) (by omega), rfl, rfl, rfl, fun x hx => by cases hx⟩
 obtain ⟨w5, hw5⟩ : ∃ w5, w5 = w4.alloc (.cells #[.slice none 0 0] 72) := ⟨_, rfl⟩
 have ho5 : Only NoB w4 w5 := by rw [hw5]; exact (Only.refl NoB w4).alloc _
 have hb5 : Blk w5 w4.heap.size 72 #[.slice none 0 0] := by rw [hw5]; exact Blk.new w4 _ _
 have HI : Pk (OpI w t X w4.heap.size 0 w5) := Pk.mk ⟨F, [], fun k => k = w4.heap.size, hkv.quit ho5, PfM.nil, ⟨fun k hk => by have := hb5.lt; omega, rfl, List.Pairwise.nil, _, hb5, Own.nil _ _ _ _⟩, fun k hk he => by have := hkv.lt k hk; omega, hOk.1.trans ho5, hOk.2, fun k hk => by have := hOk.1.size; omega⟩
 have HW5 := Pk.mk hw5
 obtain ⟨x, hx⟩ : ∃ x, x = w4.heap.size := ⟨_, rfl⟩
 rw [← hx] at HI
 have HX := Pk.mk hx
 clear ht ho4 hF hOk hX hkv hw5 ho5 hb5 hx HN HW HP HB HG HA HPG HS HO1 HO2 HO3
 go_wp2_with fail
 rw [← HW5.out, ← HX.out]
 go_loopw [10] (fun i wr => ∃ k : Nat, k ≤ 4 ∧ i = .int .i32 ((97 + k : Nat) : Int) ∧ Pk (OpI w t X x k wr)) (fun i _ => 101 - (intOf i).toNat)
 case atStart => exact ⟨0, by omega, rfl, HI⟩
 case round =>
  obtain ⟨k, hk4, rfl, HI⟩ := hrel
  by_cases hlt : k < 4
  ·obtain rfl | rfl | rfl | rfl : k = 0 ∨ k = 1 ∨ k = 2 ∨ k = 3 := by omega
   ·rw [show (((97 + 0 : Nat)) : Int) = 97 from rfl]
    obtain ⟨F1, M1, G1, hk, hp, hr, hd, ho, hF, hG⟩ := HI.out
    have ho6 : Only NoB wr (wr.alloc (.cells #[.int .u8 97] 5)) := (Only.refl NoB wr).alloc _
    have HC : (convert 162 9 (.slice (some ⟨wr.heap.size, 0, none⟩) 1 1)).run Tryz.prog (wr.alloc (.cells #[.int .u8 97] 5)) = .ok (.string ⟨#[97]⟩) (wr.alloc (.cells #[.int .u8 97] 5)) := conv_new (l := [97]) rfl rfl
    have HD0 := dreg_ok (a := nmK 0) (hk.quit ho6) hp.reg hp.refs (by decide) (by decide) (by omega) (by decide)
    have hsr := hk.srt
    obtain ⟨w6, hw6⟩ : ∃ w6, w6 = wr.alloc (.cells #[.int .u8 97] 5) := ⟨_, rfl⟩
    rw [← hw6] at HC HD0 ho6
    have HD := Pk.mk HD0
    have HP := Pk.mk (hp.reg_ (a := nmK 0) hsr)
    have HR := Pk.mk (hr.quit ho6)
    have HX6 := Pk.mk (ho.trans ho6)
    have HDJ := Pk.mk hd
    have HF := Pk.mk hF
    have HG := Pk.mk hG
    have HW6 := Pk.mk hw6
    have HL := Pk.mk (hr.lt)
    have HS6 := Pk.mk ho6.size
    rw [hw6] at HC
    clear hk hp hr hd ho hF hG ho6 HD0 hsr hw6 HI
    go_wp2_with fail
    rw [← HW6.out]
    clear HC
    refine HD.out.mono ?_
    rintro e w7 ⟨rfl, F7, hk7, ho7, hg7⟩
    have hd7 : ∀ k, F7 k → ¬ G1 k := fun k hf hg => (hg7 k hf).elim (fun h => HDJ.out k h hg) fun h => by have := HL.out k hg; have := HS6.out; omega
    have hr7 := HR.out.only ho7 fun k hg hf => HDJ.out k hf hg
    have HRR := Pk.mk (rreg_end rfl hr7 (a := nmK 0) (by decide) (by decide) (by decide))
    have HK7 := Pk.mk hk7
    have HD7 := Pk.mk hd7
    have HO7 := Pk.mk (HX6.out.trans' ho7 fun k hk hf => by have := HF.out k hf; omega)
    have HF7 : Pk (∀ k, F7 k → w.heap.size ≤ k) := Pk.mk fun k hf => (hg7 k hf).elim (HF.out k) fun h => by have := HX6.out.size; omega
    clear hk7 ho7 hg7 hd7 hr7
    go_wp2_with fail
    refine HRR.out.mono ?_
    rintro e w8 ⟨rfl, G8, hr8, ho8, hg8⟩
    have HI8 : Pk (OpI w t X x (0 + 1) w8) := Pk.mk ⟨F7, _, G8, HK7.out.only ho8 fun k hf hg => HD7.out k hf hg, by rw [regK_succ]; exact HP.out, by rw [regK_succ]; exact hr8, fun k hf hg => (hg8 k hg).elim (HD7.out k hf) fun h => by have := HK7.out.lt k hf; omega, HO7.out.trans' ho8 fun k hk hf => by have := HG.out k hf; omega, HF7.out, fun k hg => (hg8 k hg).elim (HG.out k) fun h => by have := HO7.out.size; omega⟩
    clear hr8 ho8 hg8
    go_wp2_with fail
    exact ⟨⟨0 + 1, by omega, rfl, HI8⟩, by simp [intOf]⟩
   ·rw [show (((97 + 1 : Nat)) : Int) = 98 from rfl]
    obtain ⟨F1, M1, G1, hk, hp, hr, hd, ho, hF, hG⟩ := HI.out
    have ho6 : Only NoB wr (wr.alloc (.cells #[.int .u8 98] 5)) := (Only.refl NoB wr).alloc _
    have HC : (convert 162 9 (.slice (some ⟨wr.heap.size, 0, none⟩) 1 1)).run Tryz.prog (wr.alloc (.cells #[.int .u8 98] 5)) = .ok (.string ⟨#[98]⟩) (wr.alloc (.cells #[.int .u8 98] 5)) := conv_new (l := [98]) rfl rfl
    have HD0 := dreg_ok (a := nmK 1) (hk.quit ho6) hp.reg hp.refs (by decide) (by decide) (by omega) (by decide)
    have hsr := hk.srt
    obtain ⟨w6, hw6⟩ : ∃ w6, w6 = wr.alloc (.cells #[.int .u8 98] 5) := ⟨_, rfl⟩
    rw [← hw6] at HC HD0 ho6
    have HD := Pk.mk HD0
    have HP := Pk.mk (hp.reg_ (a := nmK 1) hsr)
    have HR := Pk.mk (hr.quit ho6)
    have HX6 := Pk.mk (ho.trans ho6)
    have HDJ := Pk.mk hd
    have HF := Pk.mk hF
    have HG := Pk.mk hG
    have HW6 := Pk.mk hw6
    have HL := Pk.mk (hr.lt)
    have HS6 := Pk.mk ho6.size
    rw [hw6] at HC
    clear hk hp hr hd ho hF hG ho6 HD0 hsr hw6 HI
    go_wp2_with fail
    rw [← HW6.out]
    clear HC
    refine HD.out.mono ?_
    rintro e w7 ⟨rfl, F7, hk7, ho7, hg7⟩
    have hd7 : ∀ k, F7 k → ¬ G1 k := fun k hf hg => (hg7 k hf).elim (fun h => HDJ.out k h hg) fun h => by have := HL.out k hg; have := HS6.out; omega
    have hr7 := HR.out.only ho7 fun k hg hf => HDJ.out k hf hg
    have HRR := Pk.mk (rreg_end rfl hr7 (a := nmK 1) (by decide) (by decide) (by decide))
    have HK7 := Pk.mk hk7
    have HD7 := Pk.mk hd7
    have HO7 := Pk.mk (HX6.out.trans' ho7 fun k hk hf => by have := HF.out k hf; omega)
    have HF7 : Pk (∀ k, F7 k → w.heap.size ≤ k) := Pk.mk fun k hf => (hg7 k hf).elim (HF.out k) fun h => by have := HX6.out.size; omega
    clear hk7 ho7 hg7 hd7 hr7
    go_wp2_with fail
    refine HRR.out.mono ?_
    rintro e w8 ⟨rfl, G8, hr8, ho8, hg8⟩
    have HI8 : Pk (OpI w t X x (1 + 1) w8) := Pk.mk ⟨F7, _, G8, HK7.out.only ho8 fun k hf hg => HD7.out k hf hg, by rw [regK_succ]; exact HP.out, by rw [regK_succ]; exact hr8, fun k hf hg => (hg8 k hg).elim (HD7.out k hf) fun h => by have := HK7.out.lt k hf; omega, HO7.out.trans' ho8 fun k hk hf => by have := HG.out k hf; omega, HF7.out, fun k hg => (hg8 k hg).elim (HG.out k) fun h => by have := HO7.out.size; omega⟩
    clear hr8 ho8 hg8
    go_wp2_with fail
    exact ⟨⟨1 + 1, by omega, rfl, HI8⟩, by simp [intOf]⟩
   ·rw [show (((97 + 2 : Nat)) : Int) = 99 from rfl]
    obtain ⟨F1, M1, G1, hk, hp, hr, hd, ho, hF, hG⟩ := HI.out
    have ho6 : Only NoB wr (wr.alloc (.cells #[.int .u8 99] 5)) := (Only.refl NoB wr).alloc _
    have HC : (convert 162 9 (.slice (some ⟨wr.heap.size, 0, none⟩) 1 1)).run Tryz.prog (wr.alloc (.cells #[.int .u8 99] 5)) = .ok (.string ⟨#[99]⟩) (wr.alloc (.cells #[.int .u8 99] 5)) := conv_new (l := [99]) rfl rfl
    have HD0 := dreg_ok (a := nmK 2) (hk.quit ho6) hp.reg hp.refs (by decide) (by decide) (by omega) (by decide)
    have hsr := hk.srt
    obtain ⟨w6, hw6⟩ : ∃ w6, w6 = wr.alloc (.cells #[.int .u8 99] 5) := ⟨_, rfl⟩
    rw [← hw6] at HC HD0 ho6
    have HD := Pk.mk HD0
    have HP := Pk.mk (hp.reg_ (a := nmK 2) hsr)
    have HR := Pk.mk (hr.quit ho6)
    have HX6 := Pk.mk (ho.trans ho6)
    have HDJ := Pk.mk hd
    have HF := Pk.mk hF
    have HG := Pk.mk hG
    have HW6 := Pk.mk hw6
    have HL := Pk.mk (hr.lt)
    have HS6 := Pk.mk ho6.size
    rw [hw6] at HC
    clear hk hp hr hd ho hF hG ho6 HD0 hsr hw6 HI
    go_wp2_with fail
    rw [← HW6.out]
    clear HC
    refine HD.out.mono ?_
    rintro e w7 ⟨rfl, F7, hk7, ho7, hg7⟩
    have hd7 : ∀ k, F7 k → ¬ G1 k := fun k hf hg => (hg7 k hf).elim (fun h => HDJ.out k h hg) fun h => by have := HL.out k hg; have := HS6.out; omega
    have hr7 := HR.out.only ho7 fun k hg hf => HDJ.out k hf hg
    have HRR := Pk.mk (rreg_end rfl hr7 (a := nmK 2) (by decide) (by decide) (by decide))
    have HK7 := Pk.mk hk7
    have HD7 := Pk.mk hd7
    have HO7 := Pk.mk (HX6.out.trans' ho7 fun k hk hf => by have := HF.out k hf; omega)
    have HF7 : Pk (∀ k, F7 k → w.heap.size ≤ k) := Pk.mk fun k hf => (hg7 k hf).elim (HF.out k) fun h => by have := HX6.out.size; omega
    clear hk7 ho7 hg7 hd7 hr7
    go_wp2_with fail
    refine HRR.out.mono ?_
    rintro e w8 ⟨rfl, G8, hr8, ho8, hg8⟩
    have HI8 : Pk (OpI w t X x (2 + 1) w8) := Pk.mk ⟨F7, _, G8, HK7.out.only ho8 fun k hf hg => HD7.out k hf hg, by rw [regK_succ]; exact HP.out, by rw [regK_succ]; exact hr8, fun k hf hg => (hg8 k hg).elim (HD7.out k hf) fun h => by have := HK7.out.lt k hf; omega, HO7.out.trans' ho8 fun k hk hf => by have := HG.out k hf; omega, HF7.out, fun k hg => (hg8 k hg).elim (HG.out k) fun h => by have := HO7.out.size; omega⟩
    clear hr8 ho8 hg8
    go_wp2_with fail
    exact ⟨⟨2 + 1, by omega, rfl, HI8⟩, by simp [intOf]⟩
   ·rw [show (((97 + 3 : Nat)) : Int) = 100 from rfl]
    obtain ⟨F1, M1, G1, hk, hp, hr, hd, ho, hF, hG⟩ := HI.out
    have ho6 : Only NoB wr (wr.alloc (.cells #[.int .u8 100] 5)) := (Only.refl NoB wr).alloc _
    have HC : (convert 162 9 (.slice (some ⟨wr.heap.size, 0, none⟩) 1 1)).run Tryz.prog (wr.alloc (.cells #[.int .u8 100] 5)) = .ok (.string ⟨#[100]⟩) (wr.alloc (.cells #[.int .u8 100] 5)) := conv_new (l := [100]) rfl rfl
    have HD0 := dreg_ok (a := nmK 3) (hk.quit ho6) hp.reg hp.refs (by decide) (by decide) (by omega) (by decide)
    have hsr := hk.srt
    obtain ⟨w6, hw6⟩ : ∃ w6, w6 = wr.alloc (.cells #[.int .u8 100] 5) := ⟨_, rfl⟩
    rw [← hw6] at HC HD0 ho6
    have HD := Pk.mk HD0
    have HP := Pk.mk (hp.reg_ (a := nmK 3) hsr)
    have HR := Pk.mk (hr.quit ho6)
    have HX6 := Pk.mk (ho.trans ho6)
    have HDJ := Pk.mk hd
    have HF := Pk.mk hF
    have HG := Pk.mk hG
    have HW6 := Pk.mk hw6
    have HL := Pk.mk (hr.lt)
    have HS6 := Pk.mk ho6.size
    rw [hw6] at HC
    clear hk hp hr hd ho hF hG ho6 HD0 hsr hw6 HI
    go_wp2_with fail
    rw [← HW6.out]
    clear HC
    refine HD.out.mono ?_
    rintro e w7 ⟨rfl, F7, hk7, ho7, hg7⟩
    have hd7 : ∀ k, F7 k → ¬ G1 k := fun k hf hg => (hg7 k hf).elim (fun h => HDJ.out k h hg) fun h => by have := HL.out k hg; have := HS6.out; omega
    have hr7 := HR.out.only ho7 fun k hg hf => HDJ.out k hf hg
    have HRR := Pk.mk (rreg_end rfl hr7 (a := nmK 3) (by decide) (by decide) (by decide))
    have HK7 := Pk.mk hk7
    have HD7 := Pk.mk hd7
    have HO7 := Pk.mk (HX6.out.trans' ho7 fun k hk hf => by have := HF.out k hf; omega)
    have HF7 : Pk (∀ k, F7 k → w.heap.size ≤ k) := Pk.mk fun k hf => (hg7 k hf).elim (HF.out k) fun h => by have := HX6.out.size; omega
    clear hk7 ho7 hg7 hd7 hr7
    go_wp2_with fail
    refine HRR.out.mono ?_
    rintro e w8 ⟨rfl, G8, hr8, ho8, hg8⟩
    have HI8 : Pk (OpI w t X x (3 + 1) w8) := Pk.mk ⟨F7, _, G8, HK7.out.only ho8 fun k hf hg => HD7.out k hf hg, by rw [regK_succ]; exact HP.out, by rw [regK_succ]; exact hr8, fun k hf hg => (hg8 k hg).elim (HD7.out k hf) fun h => by have := HK7.out.lt k hf; omega, HO7.out.trans' ho8 fun k hk hf => by have := HG.out k hf; omega, HF7.out, fun k hg => (hg8 k hg).elim (HG.out k) fun h => by have := HO7.out.size; omega⟩
    clear hr8 ho8 hg8
    go_wp2_with fail
    exact ⟨⟨3 + 1, by omega, rfl, HI8⟩, by simp [intOf]⟩
  ·obtain rfl : k = 4 := by omega
   rw [show (((97 + 4 : Nat)) : Int) = 101 from rfl]
   go_wp2_with fail
   go_ret2
   obtain ⟨F1, M1, G1, hk, hp, hr, hd, ho, hF, hG⟩ := HI.out
   exact ⟨t, F1, X, x, G1, rfl, ⟨⟨M1, hk, hp⟩, by omega⟩, hr, hd, ho, hF, hG⟩
end
end Go.Proofs.YtpjfheadolphgaaGreat
namespace Go.Proofs.YtpjfheadolphgaaGreat
open Go.RowKit Go.Proofs Go.Shelf
set_option maxRecDepth 20000
attribute [local go_sem] Oper.semAt_some
section
variable {w wr w' : World} {F F1 : Nat → Prop} {X : XC} {t c c' : Nat} {M M' : List KV} {p a : Str} {s : List Gn × Nat} {regs : List Str} {G G' : Pfs} {v : Value}
def curG (s : List Gn × Nat) (p : Str) : Gn := if nameOk p then (s.1.find? fun g => decide (g.1 = s.2)).getD (0, []) else (0, [])
def curE (s : List Gn × Nat) (p : Str) : Nat := if nameOk p then (if s.1 = [] then 5 else 0) else 1
theorem cur_at {l : List Gn} {cu k : Nat} (hk : k < l.length) (h : l[k].1 = cu) (hr : l.Pairwise fun a b => a.1 < b.1) : l.find? (fun g => decide (g.1 = cu)) = some l[k] := by
 rw [List.find?_eq_some_iff_getElem]
 refine ⟨by simpa using h, k, hk, rfl, fun j hj => ?_⟩
 have := List.pairwise_iff_getElem.1 hr j k (by omega) hk hj
 simp only [Bool.not_eq_true', decide_eq_false_iff_not]
 omega
theorem row2_end {ty : TypeId} {w5 : World} {F5 : Nat → Prop} {b : Nat} {m n own : Nat} {z0 z1 : Value} (s5 : KvSt w F X t m n own M c w5 F5) (hb : Bk w w5 F5 b ty #[z0, z1]) (x y : Value) :
  Blk ((w5.setCell ⟨b, 0, none⟩ x).setCell ⟨b, 1, none⟩ y) b ty #[x, y] ∧ KvSt w F X t m n own M c ((w5.setCell ⟨b, 0, none⟩ x).setCell ⟨b, 1, none⟩ y) F5 := by
 obtain ⟨h1, h2⟩ := set2 hb.blk x y
 exact ⟨h1, s5.cel hb h2⟩
def curV (s : List Gn × Nat) (p : Str) : Value := .tuple #[genA (curG s p), .int .i64 (curE s p : Nat)]
set_option maxHeartbeats 8000000 in
theorem pcurrent_ok (h : PfAt w F X t regs G c) (p : Str) (hpl : p.length ≤ 140737488351232) :
  Calls Tryz.prog 61 #[.pointer (some ⟨t, 0, none⟩), .string ⟨p.toArray⟩] w (PfOut w F X t regs (curV (G p) p) G c) := by
 obtain ⟨M, hk, hP⟩ := h.ex
 have HC3 := Pk.mk h.few
 obtain ⟨W0, hW0⟩ : ∃ W0, W0 = w.alloc (.cells #[.int .i64 0, .string ⟨#[]⟩] 105) := ⟨_, rfl⟩
 have ho0 : Only NoB w W0 := by rw [hW0]; exact (Only.refl NoB w).alloc _
 have B0 := Pk.mk (Bk.new (KvSt.start hk) #[.int .i64 0, .string ⟨#[]⟩] 105)
 rw [← hW0] at B0
 have s0 := (KvSt.start hk).quit ho0
 have S0 := Pk.mk s0
 have HW0 := Pk.mk hW0
 have HP := Pk.mk hP
 cases hp : nameOk p with
 | false =>
  have HS := Pk.mk (pstate_bad (w := W0) hp hpl (.pointer (some ⟨t, 0, none⟩)))
  have hv : curV (G p) p = .tuple #[.agg #[.int .i64 (0 : Nat), .string ⟨#[]⟩], .int .i64 (1 : Nat)] := by unfold curV curG curE; rw [hp]; rfl
  rw [hv]
  clear h hk hP hp hpl hW0 ho0 s0 hv
  go_enter Tryz.func61, Tryz.ntmps61
  go_wp2_with fail
  rw [← HW0.out]
  refine HS.out.mono ?_
  rintro e w1 ⟨rfl, ho⟩
  have S1 := Pk.mk (S0.out.quit ho)
  have b1 := B0.out.quit ho
  have o0 : w1.cell? ⟨w.heap.size, 0, none⟩ = some (.int .i64 0) := b1.blk.cell 0
  have o1 : w1.cell? ⟨w.heap.size, 1, none⟩ = some (.string ⟨#[]⟩) := b1.blk.cell 1
  have p0 := b1.blk.frozen 0
  have p1 := b1.blk.frozen 1
  have B1 := Pk.mk b1
  clear ho b1
  go_wp2_with fail
  (try simp only [Exit.inBlock, Exit.then])
  obtain ⟨hbf, hst⟩ := row2_end S1.out B1.out (.int .i64 0) (.string ⟨#[]⟩)
  refine bodyPost_ret (results_row_tmp rfl _ _ w.heap.size 105 _ rfl hbf (by kernel_rfl) (by kernel_rfl)) rfl ?_
  exact PfOut.of hst HP.out HC3.out
 | true =>
  have hsl := hP.state h.few p hp
  have HS := Pk.mk (pstate_ok s0.at_ hp (hP.gens p hp) (hP.cur p hp) hsl)
  have hri := hP.rise p
  have HCV : Pk (curV (G p) p = .tuple #[genA ((((G p).1).find? fun g => decide (g.1 = (G p).2)).getD (0, [])), .int .i64 ((if (G p).1 = [] then 5 else 0 : Nat))]) := Pk.mk (by unfold curV curG curE; rw [hp]; rfl)
  rw [HCV.out]
  obtain ⟨s, hs⟩ : ∃ s, s = G p := ⟨_, rfl⟩
  rw [← hs] at HS hsl hri ⊢
  clear HCV
  obtain ⟨l, cu⟩ := s
  simp only at hsl hri ⊢
  by_cases hn : l = []
  ·subst hn
   have hat : atOf (([] : List Gn), cu) = -1 := rfl
   unfold PsOut at HS
   rw [hat] at HS
   rw [if_pos rfl, show genA ((([] : List Gn).find? fun g => decide (g.1 = cu)).getD (0, [])) = .agg #[.int .i64 (0 : Nat), .string ⟨#[]⟩] from rfl]
   clear h hk hP hp hpl hW0 ho0 s0 hs hsl hri hat
   go_enter Tryz.func61, Tryz.ntmps61
   go_wp2_with fail
   rw [← HW0.out]
   refine HS.out.mono ?_
   rintro e w1 ⟨v, F1, rfl, hown, hk, ho, hgr⟩
   obtain ⟨A, cp, rfl, _⟩ := hown.shape
   have S1 := Pk.mk (S0.out.step hk ho hgr)
   have b1 := B0.out.step ho hgr
   have o0 : w1.cell? ⟨w.heap.size, 0, none⟩ = some (.int .i64 0) := b1.blk.cell 0
   have o1 : w1.cell? ⟨w.heap.size, 1, none⟩ = some (.string ⟨#[]⟩) := b1.blk.cell 1
   have p0 := b1.blk.frozen 0
   have p1 := b1.blk.frozen 1
   have B1 := Pk.mk b1
   clear hown hk ho hgr b1
   go_wp2_with fail
   (try simp only [Exit.inBlock, Exit.then])
   obtain ⟨hbf, hst⟩ := row2_end S1.out B1.out (.int .i64 0) (.string ⟨#[]⟩)
   refine bodyPost_ret (results_row_tmp rfl _ _ w.heap.size 105 _ rfl hbf (by kernel_rfl) (by kernel_rfl)) rfl ?_
   exact PfOut.of hst HP.out HC3.out
  ·obtain ⟨k, hkl, hat, hke⟩ := hsl.at_ hn
   simp only at hkl hke
   unfold PsOut at HS
   rw [hat] at HS
   rw [if_neg hn, cur_at hkl hke hri, Option.getD_some]
   have hcells : Pk (∀ (w1 : World) (A : Option Addr) (cp : Nat) (F : Nat → Prop), Own w1 F 105 2 (.slice A l.length cp) l.length (genL l) → ∃ g off, A = some ⟨g, off, none⟩ ∧ w1.cell? ⟨g, off + k * 2, none⟩ = some (.int .i64 (l[k].1 : Nat)) ∧ w1.cell? ⟨g, off + k * 2 + 1, none⟩ = some (.string ⟨(l[k].2).toArray⟩)) := Pk.mk fun w1 A cp F hown => by
    obtain ⟨g, off, c', hve, _, _, hcell⟩ := hown.rd.open_ (by omega)
    injection hve with q1 q2 q3
    obtain ⟨p1, p2⟩ := genL_get (List.getElem?_eq_getElem hkl)
    exact ⟨g, off, q1, hcell _ _ p1, by rw [Nat.add_assoc]; exact hcell _ _ p2⟩
   obtain ⟨⟨n, b⟩, hnb⟩ : ∃ q, q = l[k] := ⟨_, rfl⟩
   rw [← hnb] at hcells ⊢
   unfold genA
   simp only at hcells ⊢
   have hkL : (k : Int) < (l.length : Int) := by omega
   have hk0 : (0 : Int) ≤ (k : Int) := by omega
   have hkn : ¬ ((k : Int) < 0) := by omega
   clear h hk hP hp hpl hW0 ho0 s0 hs hsl hri hat hke hnb hkl
   go_enter Tryz.func61, Tryz.ntmps61
   go_wp2_with fail
   rw [← HW0.out]
   refine HS.out.mono ?_
   rintro e w1 ⟨v, F1, rfl, hown, hk, ho, hgr⟩
   obtain ⟨A, cp, rfl, _⟩ := hown.shape
   have S1 := Pk.mk (S0.out.step hk ho hgr)
   have b1 := B0.out.step ho hgr
   have o0 : w1.cell? ⟨w.heap.size, 0, none⟩ = some (.int .i64 0) := b1.blk.cell 0
   have o1 : w1.cell? ⟨w.heap.size, 1, none⟩ = some (.string ⟨#[]⟩) := b1.blk.cell 1
   have p0 := b1.blk.frozen 0
   have p1 := b1.blk.frozen 1
   have B1 := Pk.mk b1
   obtain ⟨g, off, rfl, c1, c2⟩ := hcells.out _ _ _ _ hown
   clear hown hk ho hgr b1
   go_wp2_with fail
   (try simp only [Exit.inBlock, Exit.then])
   obtain ⟨hbf, hst⟩ := row2_end S1.out B1.out (.int .i64 (n : Nat)) (.string ⟨b.toArray⟩)
   refine bodyPost_ret (results_row_tmp rfl _ _ w.heap.size 105 _ rfl hbf (by kernel_rfl) (by kernel_rfl)) rfl ?_
   exact PfOut.of hst HP.out HC3.out
def hasN (l : List Gn) (n : Int) : Bool := l.any fun g => decide ((g.1 : Int) = n)
theorem idxF_any {f : Gn → Bool} {l : List Gn} : decide (idxF f l ≥ 0) = l.any f := by
 unfold idxF
 cases h : l.any f with
 | true =>
  obtain ⟨x, hx, hf⟩ := List.any_eq_true.1 h
  rw [if_pos (List.findIdx_lt_length.2 ⟨x, hx, hf⟩)]
  simp
 | false =>
  rw [if_neg]
  ·simp
  ·rw [List.findIdx_lt_length]
   rintro ⟨x, hx, hf⟩
   rw [List.any_eq_false] at h
   exact h x hx hf
def swiE (s : List Gn × Nat) (p : Str) (n : Int) : Nat := if nameOk p then (if hasN s.1 n then 0 else 5) else 1
def swiS (s : List Gn × Nat) (p : Str) (n : Int) : List Gn × Nat := if nameOk p then (if hasN s.1 n then (s.1, n.toNat) else s) else s
theorem hasN_nat {l : List Gn} {n : Int} (h : hasN l n = true) : ∃ a, (n.toNat, a) ∈ l ∧ ((n.toNat : Nat) : Int) = n := by
 unfold hasN at h
 obtain ⟨g, hg, he⟩ := List.any_eq_true.1 h
 have he : (g.1 : Int) = n := by simpa using he
 exact ⟨g.2, by rw [show n.toNat = g.1 by omega]; exact hg, by omega⟩
set_option maxHeartbeats 8000000 in
theorem pswitch_ok (h : PfAt w F X t regs G c) (hc : c + 1 ≤ 390) (p : Str) (n : Int) (hpl : p.length ≤ 140737488351232) :
  Calls Tryz.prog 60 #[.pointer (some ⟨t, 0, none⟩), .string ⟨p.toArray⟩, .int .i64 n] w (PfOut w F X t regs (.int .i64 (swiE (G p) p n : Nat)) (updP G p (swiS (G p) p n)) (c + 1)) := by
 have h3 := own400_640
 obtain ⟨M, hk, hP⟩ := h.ex
 have HC3 := Pk.mk hc
 obtain ⟨W0, hW0⟩ : ∃ W0, W0 = w.alloc (.cells #[.int .i64 n] 3) := ⟨_, rfl⟩
 have ho0 : Only NoB w W0 := by rw [hW0]; exact (Only.refl NoB w).alloc _
 have B0 := Pk.mk (Bk.new (KvSt.start hk) #[.int .i64 n] 3)
 rw [← hW0] at B0
 have s0 := (KvSt.start hk).quit ho0
 have S0 := Pk.mk s0
 have HW0 := Pk.mk hW0
 have HP := Pk.mk (hP.mono (c' := c + 1) (by omega))
 cases hp : nameOk p with
 | false =>
  have HS := Pk.mk (plist_bad (w := W0) hp hpl (.pointer (some ⟨t, 0, none⟩)))
  have hv : swiE (G p) p n = 1 := by unfold swiE; rw [hp]; rfl
  have hv2 : swiS (G p) p n = G p := by unfold swiS; rw [hp]; rfl
  rw [hv, hv2, updP_id]
  clear h hk hP hp hpl hW0 ho0 s0 hv hv2 h3 hc
  go_enter Tryz.func60, Tryz.ntmps60
  go_wp2_with fail
  rw [← HW0.out]
  refine HS.out.mono ?_
  rintro e w1 ⟨rfl, ho⟩
  have S1 := Pk.mk (S0.out.quit ho)
  clear ho
  go_wp2_with fail
  go_ret
  exact PfOut.of ⟨S1.out.at_.mono (by omega), S1.out.on, S1.out.gr⟩ HP.out HC3.out
 | true =>
  have hsl := hP.state h.few p hp
  have HS := Pk.mk (plist_ok s0.at_ hp (hP.gens p hp) hsl.nm hsl.len)
  have hcf := enters_of Tryz.func154 (by kernel_rfl) rfl
  have HCO : Pk (∀ (w1 : World) (v : Value) (F : Nat → Prop), Rd w1 F 2 v (G p).1.length (genL (G p).1) → Blk w1 w.heap.size 3 #[.int .i64 n] → Calls Tryz.prog 153 #[v, .func (.func 154) #[] #[.pointer (some ⟨w.heap.size, 0, none⟩)]] w1 fun e w' => e = .returned (.bool (hasN (G p).1 n)) ∧ Only NoB w1 w') := Pk.mk fun w1 v F hr hb => by
   have := conf_ok (fun g => decide ((g.1 : Int) = n)) 154 #[.pointer (some ⟨w.heap.size, 0, none⟩)] hcf hr hsl.len fun g w2 ho => pswi1_ok g (hb.only ho id)
   rw [idxF_any] at this
   exact this
  cases hh : hasN (G p).1 n with
  | false =>
   have hv : swiE (G p) p n = 5 := by unfold swiE; rw [hp, hh]; rfl
   have hv2 : swiS (G p) p n = G p := by unfold swiS; rw [hp, hh]; rfl
   rw [hv, hv2, updP_id]
   rw [hh] at HCO
   clear h hk hP hp hpl hW0 ho0 s0 hv hv2 h3 hc hsl hcf hh
   go_enter Tryz.func60, Tryz.ntmps60
   go_wp2_with fail
   rw [← HW0.out]
   refine HS.out.mono ?_
   rintro e w1 ⟨v, F1, rfl, hown, hk, ho, hgr⟩
   obtain ⟨A, cp, rfl, _⟩ := hown.shape
   have S1 := Pk.mk (S0.out.step hk ho hgr)
   have HCC := Pk.mk (HCO.out _ _ _ hown.rd (B0.out.step ho hgr).blk)
   clear hown hk ho hgr
   go_wp2_with fail
   refine HCC.out.mono ?_
   rintro e w2 ⟨rfl, ho⟩
   have S2 := Pk.mk (S1.out.quit ho)
   clear ho
   go_wp2_with fail
   go_ret
   exact PfOut.of ⟨S2.out.at_.mono (by omega), S2.out.on, S2.out.gr⟩ HP.out HC3.out
  | true =>
   obtain ⟨a, ha, hnn⟩ := hasN_nat hh
   have hv : swiE (G p) p n = 0 := by unfold swiE; rw [hp, hh]; rfl
   have hv2 : swiS (G p) p n = ((G p).1, n.toNat) := by unfold swiS; rw [hp, hh]; rfl
   rw [hv, hv2]
   rw [hh] at HCO
   have HUS := Pk.mk (hP.use hk.srt hp (s := ((G p).1, n.toNat)) rfl ⟨a, ha⟩)
   simp only [hnn] at HUS
   have HU : Pk (∀ w1 F1, KvAt w1 F1 X t 640 400 (ownOf 400 640) M c → Calls Tryz.prog 152 #[.pointer (some ⟨t, 0, none⟩), .string ⟨p.toArray⟩, .int .i64 n] w1 (KvOut w1 F1 X t 640 400 (ownOf 400 640) (.int .i64 0) (ins (fkey p) (be3i n) M) (c + 1))) := Pk.mk fun w1 F1 h1 => puse_ok h1 hp (by omega) (by omega)
   clear h hk hP hp hpl hW0 ho0 s0 hv hv2 h3 hc hsl hcf hh ha hnn
   go_enter Tryz.func60, Tryz.ntmps60
   go_wp2_with fail
   rw [← HW0.out]
   refine HS.out.mono ?_
   rintro e w1 ⟨v, F1, rfl, hown, hk, ho, hgr⟩
   obtain ⟨A, cp, rfl, _⟩ := hown.shape
   have S1 := Pk.mk (S0.out.step hk ho hgr)
   have B1 := Pk.mk (B0.out.step ho hgr)
   have HCC := Pk.mk (HCO.out _ _ _ hown.rd B1.out.blk)
   clear hown hk ho hgr
   go_wp2_with fail
   refine HCC.out.mono ?_
   rintro e w2 ⟨rfl, ho⟩
   have S2 := Pk.mk (S1.out.quit ho)
   have x0 := (B1.out.quit ho).blk.cell 0
   have HUC := Pk.mk (HU.out _ _ S2.out.at_)
   clear ho
   go_wp2_with fail
   refine HUC.out.mono ?_
   rintro e w3 ⟨rfl, F3, hk, ho, hgr⟩
   have S3 := Pk.mk (S2.out.step hk ho hgr)
   clear hk ho hgr
   go_wp2_with fail
   go_ret
   exact PfOut.of S3.out HUS.out HC3.out
end
end Go.Proofs.YtpjfheadolphgaaGreat
namespace Go.Proofs.YtpjfheadolphgaaGreat
open Go.RowKit Go.Proofs Go.Shelf
set_option maxRecDepth 20000
attribute [local go_sem] Oper.semAt_some
section
variable {w wr w' : World} {F F1 : Nat → Prop} {X : XC} {t c c' : Nat} {M M' : List KV} {p a : Str} {s : List Gn × Nat} {regs : List Str} {G G' : Pfs} {v : Value}
def delE (s : List Gn × Nat) (p : Str) (n : Int) : Nat := if nameOk p then (if hasN s.1 n then (if n = (s.2 : Nat) then 152 else 0) else 5) else 1
def delS (s : List Gn × Nat) (p : Str) (n : Int) : List Gn × Nat := if delE s p n = 0 then (s.1.filter (fun g => !decide (g.1 = n.toNat)), s.2) else s
theorem delS_no {n : Int} (h : delE s p n ≠ 0) : delS s p n = s := by rw [delS, if_neg h]
theorem hasN_at {l : List Gn} {n : Int} (h : hasN l n = true) : ∃ (k : Nat) (hk : k < l.length), idxF (fun g => decide ((g.1 : Int) = n)) l = (k : Int) ∧ (l[k].1 : Int) = n := by
 unfold hasN at h
 obtain ⟨g, hg, he⟩ := List.any_eq_true.1 h
 obtain ⟨k, hk, h1, h2⟩ := idxF_lt (f := fun g => decide ((g.1 : Int) = n)) hg he
 exact ⟨k, hk, h1, by simpa using h2⟩
theorem hasN_no {l : List Gn} {n : Int} (h : hasN l n = false) : idxF (fun g => decide ((g.1 : Int) = n)) l = -1 := by
 refine idxF_none fun j hj => ?_
 unfold hasN at h
 rw [List.any_eq_false] at h
 have := h l[j] (List.getElem_mem hj)
 simpa using this
set_option maxHeartbeats 8000000 in
theorem pdelete_ok (h : PfAt w F X t regs G c) (p : Str) (n : Int) (hpl : p.length ≤ 140737488351232) :
  Calls Tryz.prog 63 #[.pointer (some ⟨t, 0, none⟩), .string ⟨p.toArray⟩, .int .i64 n] w (PfOut w F X t regs (.int .i64 (delE (G p) p n : Nat)) (updP G p (delS (G p) p n)) c) := by
 have h3 := own400_640
 obtain ⟨M, hk, hP⟩ := h.ex
 have HC3 := Pk.mk h.few
 obtain ⟨W0, hW0⟩ : ∃ W0, W0 = w.alloc (.cells #[.int .i64 n] 3) := ⟨_, rfl⟩
 have ho0 : Only NoB w W0 := by rw [hW0]; exact (Only.refl NoB w).alloc _
 have B0 := Pk.mk (Bk.new (KvSt.start hk) #[.int .i64 n] 3)
 rw [← hW0] at B0
 have s0 := (KvSt.start hk).quit ho0
 have S0 := Pk.mk s0
 have HW0 := Pk.mk hW0
 have HP := Pk.mk hP
 cases hp : nameOk p with
 | false =>
  have HS := Pk.mk (pstate_bad (w := W0) hp hpl (.pointer (some ⟨t, 0, none⟩)))
  have hv : delE (G p) p n = 1 := by unfold delE; rw [hp]; rfl
  rw [delS_no (by rw [hv]; omega), hv, updP_id]
  clear h hk hP hp hpl hW0 ho0 s0 hv h3
  go_enter Tryz.func63, Tryz.ntmps63
  go_wp2_with fail
  rw [← HW0.out]
  refine HS.out.mono ?_
  rintro e w1 ⟨rfl, ho⟩
  have S1 := Pk.mk (S0.out.quit ho)
  clear ho
  go_wp2_with fail
  go_ret
  exact PfOut.of S1.out HP.out HC3.out
 | true =>
  have hsl := hP.state h.few p hp
  have HS := Pk.mk (pstate_ok s0.at_ hp (hP.gens p hp) (hP.cur p hp) hsl)
  have hcf := enters_of Tryz.func157 (by kernel_rfl) rfl
  have HCO : Pk (∀ (w1 : World) (v : Value) (F : Nat → Prop), Rd w1 F 2 v (G p).1.length (genL (G p).1) → Blk w1 w.heap.size 3 #[.int .i64 n] → Calls Tryz.prog 156 #[v, .func (.func 157) #[] #[.pointer (some ⟨w.heap.size, 0, none⟩)]] w1 fun e w' => e = .returned (.int .i64 (idxF (fun g => decide ((g.1 : Int) = n)) (G p).1)) ∧ Only NoB w1 w') := Pk.mk fun w1 v F hr hb =>
   idxf_ok (fun g => decide ((g.1 : Int) = n)) 157 #[.pointer (some ⟨w.heap.size, 0, none⟩)] hcf hr hsl.len fun g w2 ho => pdel1_ok g (hb.only ho id)
  cases hh : hasN (G p).1 n with
  | false =>
   have hv : delE (G p) p n = 5 := by unfold delE; rw [hp, hh]; rfl
   rw [delS_no (by rw [hv]; omega), hv, updP_id]
   rw [hasN_no hh] at HCO
   obtain ⟨q, hq⟩ : ∃ q, q = atOf (G p) := ⟨_, rfl⟩
   unfold PsOut at HS
   rw [← hq] at HS
   clear h hk hP hp hpl hW0 ho0 s0 hv h3 hsl hcf hh hq
   go_enter Tryz.func63, Tryz.ntmps63
   go_wp2_with fail
   rw [← HW0.out]
   refine HS.out.mono ?_
   rintro e w1 ⟨v, F1, rfl, hown, hk, ho, hgr⟩
   obtain ⟨A, cp, rfl, _⟩ := hown.shape
   have S1 := Pk.mk (S0.out.step hk ho hgr)
   have HCC := Pk.mk (HCO.out _ _ _ hown.rd (B0.out.step ho hgr).blk)
   clear hown hk ho hgr
   go_wp2_with fail
   refine HCC.out.mono ?_
   rintro e w2 ⟨rfl, ho⟩
   have S2 := Pk.mk (S1.out.quit ho)
   clear ho
   go_wp2_with fail
   go_ret
   exact PfOut.of S2.out HP.out HC3.out
  | true =>
   obtain ⟨k1, hk1, hix, hn1⟩ := hasN_at hh
   have hne : (G p).1 ≠ [] := fun e => by rw [e] at hk1; exact absurd hk1 (Nat.not_lt_zero _)
   obtain ⟨k2, hk2, hat, hn2⟩ := hsl.at_ hne
   rw [hix] at HCO
   unfold PsOut at HS
   rw [hat] at HS
   have hk10 : ¬ ((k1 : Int) < 0) := by omega
   by_cases hcu : n = ((G p).2 : Nat)
   ·have hv : delE (G p) p n = 152 := by unfold delE; rw [hp, hh, if_pos hcu]; rfl
    rw [delS_no (by rw [hv]; omega), hv, updP_id]
    have hkk : k1 = k2 := by
     have h1 : atOf (G p) = idxF (fun g => decide ((g.1 : Int) = n)) (G p).1 := by
      unfold atOf
      refine idxF_congr fun g hg => decide_eq_decide.2 ?_
      rw [hcu]; omega
     rw [hix, hat] at h1; omega
    subst hkk
    clear h hk hP hp hpl hW0 ho0 s0 hv h3 hsl hcf hh hcu hix hat hn1 hn2 hne hk1 hk2
    go_enter Tryz.func63, Tryz.ntmps63
    go_wp2_with fail
    rw [← HW0.out]
    refine HS.out.mono ?_
    rintro e w1 ⟨v, F1, rfl, hown, hk, ho, hgr⟩
    obtain ⟨A, cp, rfl, _⟩ := hown.shape
    have S1 := Pk.mk (S0.out.step hk ho hgr)
    have HCC := Pk.mk (HCO.out _ _ _ hown.rd (B0.out.step ho hgr).blk)
    clear hown hk ho hgr
    go_wp2_with fail
    refine HCC.out.mono ?_
    rintro e w2 ⟨rfl, ho⟩
    have S2 := Pk.mk (S1.out.quit ho)
    clear ho
    go_wp2_with fail
    go_ret
    exact PfOut.of S2.out HP.out HC3.out
   ·have hv : delE (G p) p n = 0 := by unfold delE; rw [hp, hh, if_neg hcu]; rfl
    have hnn : ((n.toNat : Nat) : Int) = n := by omega
    have hle : n.toNat ≤ 16777215 := by
     have := (hsl.nm _ (List.getElem_mem hk1)).2; omega
    rw [delS, if_pos hv, hv]
    have hkk : k1 ≠ k2 := fun e => by subst e; apply hcu; omega
    have hkq : ¬ ((k1 : Int) = (k2 : Int)) := by omega
    have hkq2 : ((k1 : Int) == (k2 : Int)) = false := beq_eq_false_iff_ne.2 hkq
    have HDL := Pk.mk (hP.del (n := n.toNat) hk.srt hp (by omega) hle (by have := h.few; omega))
    have HGN0 := fun w => pgen_any p n (by have := nameOk_len hp; omega) w
    unfold GkOut at HGN0
    rw [show genOk p n = true by unfold genOk numIn; rw [hp, decide_eq_true (by omega)]; rfl] at HGN0
    simp only [if_true] at HGN0
    have HD0 : ∀ w1 F1, KvAt w1 F1 X t 640 400 (ownOf 400 640) M c → Calls Tryz.prog 52 #[.pointer (some ⟨t, 0, none⟩), .string ⟨(gkey p n).toArray⟩] w1 (KvOut w1 F1 X t 640 400 (ownOf 400 640) (.tuple #[.bool (get (gkey p n) M).isSome, .int .i64 0]) (del (gkey p n) M) c) := fun w1 F1 h1 => kv_del h1
    rw [hnn] at HDL
    obtain ⟨ek, hek⟩ : ∃ ek, ek = gkey p n := ⟨_, rfl⟩
    rw [← hek] at HGN0 HD0 HDL
    have HGN := Pk.mk HGN0
    have HD := Pk.mk HD0
    clear h hk hP hp hpl hW0 ho0 s0 hv h3 hsl hcf hh hcu hix hat hn1 hn2 hne hk1 hk2 hnn hle hkk HGN0 HD0 hek
    go_enter Tryz.func63, Tryz.ntmps63
    go_wp2_with fail
    rw [← HW0.out]
    refine HS.out.mono ?_
    rintro e w1 ⟨v, F1, rfl, hown, hk, ho, hgr⟩
    obtain ⟨A, cp, rfl, _⟩ := hown.shape
    have S1 := Pk.mk (S0.out.step hk ho hgr)
    have B1 := Pk.mk (B0.out.step ho hgr)
    have HCC := Pk.mk (HCO.out _ _ _ hown.rd B1.out.blk)
    clear hown hk ho hgr
    go_wp2_with fail
    refine HCC.out.mono ?_
    rintro e w2 ⟨rfl, ho⟩
    have S2 := Pk.mk (S1.out.quit ho)
    have x0 := (B1.out.quit ho).blk.cell 0
    clear ho
    go_wp2_with fail
    refine (HGN.out _).mono ?_
    rintro e w3 ⟨rfl, ho⟩
    have S3 := Pk.mk (S2.out.quit ho)
    have HDC := Pk.mk (HD.out _ _ S3.out.at_)
    clear ho x0
    go_wp2_with fail
    refine HDC.out.mono ?_
    rintro e w4 ⟨rfl, F4, hk, ho, hgr⟩
    have S4 := Pk.mk (S3.out.step hk ho hgr)
    clear hk ho hgr
    go_wp2_with fail
    go_ret
    exact PfOut.of S4.out HDL.out HC3.out
end
end Go.Proofs.YtpjfheadolphgaaGreat
namespace Go.Proofs.YtpjfheadolphgaaGreat
open Go.RowKit Go.Proofs Go.Shelf
set_option maxRecDepth 20000
attribute [local go_sem] Oper.semAt_some
section
variable {w wr w' : World} {F F1 F2 : Nat → Prop} {X : XC} {t c c' : Nat} {M M' : List KV} {p a : Str} {s s2 : List Gn × Nat} {regs : List Str} {G G' : Pfs} {v : Value}
structure PfSt (w : World) (F : Nat → Prop) (X : XC) (t : Nat) (regs : List Str) (G : Pfs) (c : Nat) (wr : World) (F1 : Nat → Prop) : Prop where
 at_ : PfAt wr F1 X t regs G c
 on : Only F w wr
 gr : Grows F F1 w
theorem PfSt.start (h : PfAt w F X t regs G c) : PfSt w F X t regs G c w F := ⟨h, Only.refl _ _, Grows.refl _ _⟩
theorem PfSt.quit (h : PfSt w F X t regs G c wr F1) (ho : Only NoB wr w') : PfSt w F X t regs G c w' F1 := ⟨h.at_.quit ho, h.on.trans (ho.mono fun _ _ h => h.elim), h.gr⟩
theorem PfSt.step (h : PfSt w F X t regs G c wr F1) (h2 : PfAt w' F2 X t regs G' c') (ho : Only F1 wr w') (hg : Grows F1 F2 wr) : PfSt w F X t regs G' c' w' F2 :=
 ⟨h2, h.on.trans' ho fun k hk hf => (h.gr k hf).elim id fun h => by omega, fun k hk => (hg k hk).elim (h.gr k) fun h2 => .inr (Nat.le_trans h.on.size h2)⟩
theorem PfSt.out (h : PfSt w F X t regs G c wr F1) : PfOut w F X t regs v G c (.returned v) wr := ⟨rfl, F1, h.at_, h.on, h.gr⟩
theorem PfAt.lt (h : PfAt w F X t regs G c) : ∀ k, F k → k < w.heap.size := by obtain ⟨M, hk, _⟩ := h.ex; exact hk.lt
theorem pf_state (h : PfAt w F X t regs G c) (p : Str) (hp : nameOk p = true) :
  Calls Tryz.prog 150 #[.pointer (some ⟨t, 0, none⟩), .string ⟨p.toArray⟩] w (fun e w' => ∃ v F', e = .returned (.tuple #[v, .int .i64 (atOf (G p)), .int .i64 0]) ∧ Own w' (fun g => w.heap.size ≤ g ∧ ¬ F' g) 105 2 v (G p).1.length (genL (G p).1) ∧ PfAt w' F' X t regs G c ∧ Only F w w' ∧ Grows F F' w) := by
 obtain ⟨M, hk, hP⟩ := h.ex
 refine (pstate_ok hk hp (hP.gens p hp) (hP.cur p hp) (hP.state h.few p hp)).mono ?_
 rintro e w1 ⟨v, F', rfl, h1, h2, h4, h5⟩
 exact ⟨v, F', rfl, h1, ⟨⟨M, h2, hP⟩, h.few⟩, h4, h5⟩
theorem PfAt.good (h : PfAt w F X t regs G c) (p : Str) : PfL (G p) ∧ (G p).1.Pairwise (fun a b => a.1 < b.1) ∧ (nameOk p = false → (G p).1 = []) := by
 obtain ⟨M, hk, hP⟩ := h.ex
 refine ⟨?_, hP.rise p, hP.bad p⟩
 cases hp : nameOk p with
 | true => exact hP.state h.few p hp
 | false =>
  have h0 := hP.bad p hp
  exact ⟨fun g hg => by rw [h0] at hg; (cases hg), by rw [h0]; simp, fun hn => absurd h0 hn⟩
theorem updP_upd (G : Pfs) (p : Str) (s s2 : List Gn × Nat) : updP (updP G p s) p s2 = updP G p s2 := by
 funext q
 by_cases e : q = p
 ·subst e; rw [updP_same, updP_same]
 ·rw [updP_other e, updP_other e, updP_other e]
def remL (l : List Gn) (cu k : Nat) : List Gn := (l.take k).filter (fun g => decide (g.1 = cu)) ++ l.drop k
theorem remL_zero (l : List Gn) (cu : Nat) : remL l cu 0 = l := by simp [remL]
theorem remL_all (l : List Gn) (cu : Nat) : remL l cu l.length = l.filter fun g => decide (g.1 = cu) := by simp [remL]
theorem remL_cur {l : List Gn} {cu k : Nat} (hk : k < l.length) (h : l[k].1 = cu) : remL l cu (k + 1) = remL l cu k := by
 unfold remL
 rw [List.take_succ_eq_append_getElem hk, List.filter_append, List.drop_eq_getElem_cons hk]
 simp [h]
theorem remL_del {l : List Gn} {cu k : Nat} (hr : l.Pairwise fun a b => a.1 < b.1) (hk : k < l.length) (h : l[k].1 ≠ cu) : (remL l cu k).filter (fun g => !decide (g.1 = l[k].1)) = remL l cu (k + 1) := by
 unfold remL
 rw [List.filter_append, List.drop_eq_getElem_cons hk, List.take_succ_eq_append_getElem hk, List.filter_append]
 have h1 : (l.take k).filter (fun g => decide (g.1 = cu)) = ((l.take k).filter (fun g => decide (g.1 = cu))).filter (fun g => !decide (g.1 = l[k].1)) := by
  rw [List.filter_filter]
  refine List.filter_congr fun g hg => ?_
  obtain ⟨j, hj, rfl⟩ := List.mem_take_iff_getElem.1 hg
  have := List.pairwise_iff_getElem.1 hr j k (by omega) hk (by omega)
  have hne : ¬ l[j].1 = l[k].1 := by omega
  simp [hne]
 have h2 : (l.drop (k + 1)).filter (fun g => !decide (g.1 = l[k].1)) = l.drop (k + 1) := by
  rw [List.filter_eq_self]
  intro g hg
  obtain ⟨j, hj, rfl⟩ := List.mem_drop_iff_getElem.1 hg
  have := List.pairwise_iff_getElem.1 hr k (k + 1 + j) hk (by omega) (by omega)
  have hne : ¬ l[k + 1 + j].1 = l[k].1 := by omega
  simp [hne]
 rw [← h1, List.filter_cons_of_neg (by simp), h2]
 have h3 : [l[k]].filter (fun g => decide (g.1 = cu)) = [] := by simp [h]
 rw [h3, List.append_nil]
theorem remL_has {l : List Gn} {cu k : Nat} (hk : k < l.length) : hasN (remL l cu k) (l[k].1 : Nat) = true := by
 unfold hasN remL
 rw [List.any_eq_true]
 exact ⟨l[k], List.mem_append_right _ (by rw [List.drop_eq_getElem_cons hk]; exact List.mem_cons_self), by simp⟩
def dolA (s : List Gn × Nat) (p : Str) : Nat × Nat := if nameOk p then (if s.1 = [] then (0, 5) else (s.1.length - 1, 0)) else (0, 1)
def dolS (s : List Gn × Nat) : List Gn × Nat := (s.1.filter (fun g => decide (g.1 = s.2)), s.2)
theorem dolS_nil (h : s.1 = []) : dolS s = s := by
 obtain ⟨l, cu⟩ := s
 simp only at h
 subst h; rfl
set_option maxHeartbeats 8000000 in
theorem pdelold_ok (h : PfAt w F X t regs G c) (p : Str) (hpl : p.length ≤ 140737488351232) :
  Calls Tryz.prog 64 #[.pointer (some ⟨t, 0, none⟩), .string ⟨p.toArray⟩] w (PfOut w F X t regs (ansV (dolA (G p) p)) (updP G p (dolS (G p))) c) := by
 obtain ⟨hgl, hgr, hgb⟩ := h.good p
 have S0 := Pk.mk (PfSt.start h)
 cases hp : nameOk p with
 | false =>
  have HS := Pk.mk (pstate_bad (w := w) hp hpl (.pointer (some ⟨t, 0, none⟩)))
  have hv : dolA (G p) p = (0, 1) := by unfold dolA; rw [hp]; rfl
  rw [hv, dolS_nil (hgb hp), updP_id]
  unfold ansV
  clear h hp hpl hv hgl hgr hgb
  go_enter Tryz.func64, Tryz.ntmps64
  go_wp2_with fail
  refine HS.out.mono ?_
  rintro e w1 ⟨rfl, ho⟩
  have S1 := Pk.mk (S0.out.quit ho)
  clear ho
  go_wp2_with fail
  go_ret2
  exact S1.out.out
 | true =>
  have HS := Pk.mk (pf_state h p hp)
  have HID := Pk.mk (updP_id G p)
  have hv : dolA (G p) p = if (G p).1 = [] then (0, 5) else ((G p).1.length - 1, 0) := by unfold dolA; rw [hp]; rfl
  have hd0 : (G p).1 = [] → dolS (G p) = G p := dolS_nil
  rw [hv]
  have HDE : Pk (∀ w1 F1 s (n : Nat), PfAt w1 F1 X t regs (updP G p s) c → hasN s.1 (n : Nat) = true → n ≠ s.2 → Calls Tryz.prog 63 #[.pointer (some ⟨t, 0, none⟩), .string ⟨p.toArray⟩, .int .i64 (n : Nat)] w1 (PfOut w1 F1 X t regs (.int .i64 0) (updP G p (s.1.filter (fun g => !decide (g.1 = n)), s.2)) c)) := Pk.mk fun w1 F1 s n h1 h2 h3 => by
   have := pdelete_ok h1 p (n : Nat) hpl
   rw [updP_same, updP_upd] at this
   have he : delE s p (n : Nat) = 0 := by unfold delE; rw [hp, h2, if_neg (show ¬ ((n : Nat) : Int) = ((s.2 : Nat) : Int) by omega)]; rfl
   rw [delS, if_pos he, he] at this
   exact this
  obtain ⟨s, hs⟩ : ∃ s, s = G p := ⟨_, rfl⟩
  rw [← hs] at HS hgl hgr hd0 HID ⊢
  clear h hp hpl hv hgb hs
  obtain ⟨l, cu⟩ := s
  simp only at hgr HS ⊢
  by_cases hn : l = []
  ·rw [if_pos hn, hd0 hn, HID.out]
   subst hn
   have hat : atOf (([] : List Gn), cu) = -1 := rfl
   rw [hat] at HS
   unfold ansV
   clear hd0 hgl hgr hat
   go_enter Tryz.func64, Tryz.ntmps64
   go_wp2_with fail
   refine HS.out.mono ?_
   rintro e w1 ⟨v, F1, rfl, hown, hk, ho, hgr⟩
   obtain ⟨A, cp, rfl, _⟩ := hown.shape
   have S1 := Pk.mk (S0.out.step hk ho hgr)
   clear hown hk ho hgr
   go_wp2_with fail
   go_ret2
   exact S1.out.out
  ·rw [if_neg hn]
   obtain ⟨ka, hka, hat, hke⟩ := hgl.at_ hn
   simp only at hka hke
   rw [hat] at HS
   have hlen := hgl.len
   simp only at hlen
   have HRI := Pk.mk hgr
   have HKE := Pk.mk hke
   have hl0 := List.length_pos_iff.2 hn
   have hka0 : ¬ ((ka : Int) < 0) := by omega
   unfold ansV dolS
   simp only
   obtain ⟨L1, hL1⟩ : ∃ L1, L1 = l.length - 1 := ⟨_, rfl⟩
   rw [← hL1]
   have HLL := Pk.mk (show (l.length : Int) - 1 = (L1 : Int) ∧ L1 ≤ 1000000 by omega)
   clear hd0 hgl hgr hat hke hL1 hn
   go_enter Tryz.func64, Tryz.ntmps64
   go_wp2_with fail
   refine HS.out.mono ?_
   rintro e w1 ⟨v, F1, rfl, hown, hk, ho, hgr⟩
   obtain ⟨A, cp, rfl, _⟩ := hown.shape
   have hst : PfSt w F X t regs (updP G p (remL l cu 0, cu)) c w1 F1 := by rw [remL_zero, HID.out]; exact S0.out.step hk ho hgr
   have S1 := Pk.mk hst
   have HOW := Pk.mk hown
   clear hown hk ho hgr hst
   go_wp2_with fail
   go_loopw [28] (fun i wr => ∃ k : Nat, k ≤ l.length ∧ i = .int .i64 k ∧ Pk (∃ F2, PfSt w F X t regs (updP G p (remL l cu k, cu)) c wr F2 ∧ Own wr (fun g => w.heap.size ≤ g ∧ ¬ F2 g) 105 2 (.slice A l.length cp) l.length (genL l))) (fun i _ => l.length - (intOf i).toNat)
   case atStart => exact ⟨0, Nat.zero_le _, rfl, Pk.mk ⟨F1, S1.out, HOW.out⟩⟩
   case round =>
    obtain ⟨k, hkl, rfl, HJ⟩ := hrel
    obtain ⟨F2, hs2, how2⟩ := HJ.out
    by_cases hlt : k < l.length
    ·obtain ⟨g, off, c', hve, _, _, hcell⟩ := how2.rd.open_ (by omega)
     injection hve with q1 q2 q3
     subst q1; subst q3
     obtain ⟨p1, p2⟩ := genL_get (List.getElem?_eq_getElem hlt)
     have c1 := hcell _ _ p1
     have c2 := hcell _ _ p2
     rw [← Nat.add_assoc] at c2
     by_cases hkk : k = ka
     ·subst hkk
      have HN : Pk (PfSt w F X t regs (updP G p (remL l cu (k + 1), cu)) c (wr.alloc (.cells #[.int .i64 (l[k].1 : Nat), .string ⟨(l[k].2).toArray⟩] 105)) F2 ∧ Own (wr.alloc (.cells #[.int .i64 (l[k].1 : Nat), .string ⟨(l[k].2).toArray⟩] 105)) (fun g => w.heap.size ≤ g ∧ ¬ F2 g) 105 2 (.slice (some ⟨g, off, none⟩) l.length cp) l.length (genL l)) := Pk.mk ⟨by
       rw [remL_cur hlt HKE.out]
       exact hs2.quit ((Only.refl NoB wr).alloc _), how2.alloc _⟩
      obtain ⟨⟨n, b⟩, hnb⟩ : ∃ q, q = l[k] := ⟨_, rfl⟩
      rw [← hnb] at c1 c2 HN
      unfold strV at c2
      clear hcell p1 p2 q2 hnb hs2 how2 HJ HS S0 S1 HOW HRI HDE HID HLL HKE
      go_wp2_with fail
      refine ⟨⟨k + 1, by omega, by go_num, Pk.mk ⟨F2, HN.out.1, HN.out.2⟩⟩, by simp [intOf]; omega⟩
     ·have hne : l[k].1 ≠ cu := fun e => by
       have hr := HRI.out
       have h2 := HKE.out
       rcases Nat.lt_trichotomy k ka with h1 | h1 | h1
       ·have := List.pairwise_iff_getElem.1 hr k ka hlt hka h1; omega
       ·exact hkk h1
       ·have := List.pairwise_iff_getElem.1 hr ka k hka hlt h1; omega
      have hs3 := hs2.quit ((Only.refl NoB wr).alloc (.cells #[.int .i64 (l[k].1 : Nat), .string ⟨(l[k].2).toArray⟩] 105))
      have how3 := how2.alloc (.cells #[.int .i64 (l[k].1 : Nat), .string ⟨(l[k].2).toArray⟩] 105)
      have x0 : (wr.alloc (.cells #[.int .i64 (l[k].1 : Nat), .string ⟨(l[k].2).toArray⟩] 105)).cell? ⟨wr.heap.size, 0, none⟩ = some (.int .i64 (l[k].1 : Nat)) := (Blk.new wr 105 #[.int .i64 (l[k].1 : Nat), .string ⟨(l[k].2).toArray⟩]).cell 0
      have HDC0 := HDE.out _ _ (remL l cu k, cu) l[k].1 hs3.at_ (remL_has hlt) hne
      simp only at HDC0
      rw [remL_del HRI.out hlt hne] at HDC0
      have HDC := Pk.mk HDC0
      have HS3 := Pk.mk hs3
      have HO3 := Pk.mk how3
      have hkq : ¬ ((k : Int) = (ka : Int)) := by omega
      have hkq2 : ((k : Int) == (ka : Int)) = false := beq_eq_false_iff_ne.2 hkq
      obtain ⟨⟨n, b⟩, hnb⟩ : ∃ q, q = l[k] := ⟨_, rfl⟩
      rw [← hnb] at c1 c2 HDC HS3 HO3 x0
      unfold strV at c2
      simp only at HDC
      clear hcell p1 p2 q2 hnb hs2 how2 HJ HS S0 S1 HOW HRI HDE HID HLL HKE hs3 how3 HDC0 hne hkk
      go_wp2_with fail
      refine HDC.out.mono ?_
      rintro e w5 ⟨rfl, F5, h5, ho5, hg5⟩
      have HN := Pk.mk (⟨HS3.out.step h5 ho5 hg5, own_step HO3.out ho5 hg5⟩ : PfSt w F X t regs (updP G p (remL l cu (k + 1), cu)) c w5 F5 ∧ Own w5 (fun g => w.heap.size ≤ g ∧ ¬ F5 g) 105 2 (.slice (some ⟨g, off, none⟩) l.length cp) l.length (genL l))
      clear h5 ho5 hg5 x0
      go_wp2_with fail
      refine ⟨⟨k + 1, by omega, by go_num, Pk.mk ⟨F5, HN.out.1, HN.out.2⟩⟩, by simp [intOf]; omega⟩
    ·obtain rfl : k = l.length := by omega
     have HR : Pk (PfSt w F X t regs (updP G p (l.filter (fun g => decide (g.1 = cu)), cu)) c wr F2) := Pk.mk (by rw [← remL_all]; exact hs2)
     obtain ⟨hll, hlb⟩ := HLL.out
     have hlw : IntKind.i64.wrap (L1 : Int) = (L1 : Int) := by rw [IntKind.wrap_i64]; omega
     clear hs2 how2 HJ hlt hkl
     go_wp2_with fail
     go_ret2
     exact HR.out.out
end
end Go.Proofs.YtpjfheadolphgaaGreat
namespace Go.Proofs.YtpjfheadolphgaaGreat
open Go.RowKit Go.Proofs Go.Shelf
set_option maxRecDepth 20000
attribute [local go_sem] Oper.semAt_some
section
variable {w w' : World} {l : List Gn} {at_ bA bL : Nat} {z : Int}
theorem pahead_ok (A : Option Addr) (k c : Nat) (n : Int) (w : World) : Calls Tryz.prog 155 #[.slice A k c, .int .i64 n] w fun e w' => e = .returned (.func (.func 252) #[] #[.pointer (some ⟨w.heap.size + 1, 0, none⟩), .pointer (some ⟨w.heap.size, 0, none⟩)]) ∧ w' = (w.alloc (.cells #[.slice A k c] 99)).alloc (.cells #[.int .i64 n] 3) := by
 go_enter Tryz.func155, Tryz.ntmps155
 go_wp2_with fail
 go_ret
 exact ⟨rfl, rfl⟩
def AheadT (l : List Gn) (z : Int) (bA bL : Nat) (W : World) (G : Nat → Prop) : Prop := (∀ k, ¬ G k) ∧ Mine bA 3 #[.int .i64 z] W G ∧ MineS 0 bL 99 105 2 l.length (genL l) W G
theorem aheadT_abid {B : Nat} : Abid B (AheadT l z bA bL) := fun W W' G S h hS ho => ⟨h.1, mine_abid (B := B) W W' G S h.2.1 hS ho, mineS_abid (B' := B) W W' G S h.2.2 hS ho⟩
def aheadE (l : List Gn) (at_ k : Nat) : Array Value := #[genA (l.getD (at_ - 1 - k) (0, []))]
set_option maxHeartbeats 4000000 in
theorem ahead_iter (hz : z = at_ ∨ (at_ = 0 ∧ z = -1)) (hat : at_ ≤ l.length) (hl : l.length ≤ 1000000) (n : Nat) (hn : 1 ≤ n) :
  IterT n Tryz.prog 252 #[.pointer (some ⟨bA, 0, none⟩), .pointer (some ⟨bL, 0, none⟩)] (aheadE l at_) (AheadT l z bA bL) at_ := by
 intro lb J Jx W G hJ hY h0
 refine callsIn_of_wp Tryz.func252 rfl trivial ?_ rfl
 simp only [Tryz.ntmps252, List.size_toArray, List.length_cons, List.length_nil, Nat.reduceAdd, Nat.reduceSub, Array.replicate_succ, Array.replicate_zero, List.push_toArray, List.append_toArray, List.nil_append, List.cons_append]
 have c1 := (hJ 0 W G h0).1.2.1.1.cell 0
 have hw1 : IntKind.i64.wrap (z - 1) = z - 1 := by rw [IntKind.wrap_i64]; omega
 have HJ0 := Pk.mk (⟨G, h0⟩ : ∃ G, J 0 W G)
 have HJ := Pk.mk hJ
 have HY := Pk.mk hY
 have HL := Pk.mk hl
 have HAT := Pk.mk hat
 have HZ := Pk.mk hz
 clear h0 hJ hY hl hat hz
 gi_wp2_with fail
 gi_loopg [4] at_ (fun g s4 wr => ∃ k : Nat, s4 = .int .i64 (z - 1 - k) ∧ g = at_ - k ∧ k ≤ at_ ∧ Pk (∃ G, J k wr G))
 case atStart => exact ⟨0, by congr 1; omega, rfl, Nat.zero_le _, HJ0⟩
 case round =>
  obtain ⟨k, rfl, hg, hkN, hst⟩ := hrel
  obtain ⟨Gr, hJk⟩ := hst.out
  by_cases hlt : k < at_
  ·obtain ⟨hT, hstep⟩ := HJ.out k wr Gr hJk
   obtain ⟨hG, hA, v, hv, hown⟩ := hT
   have hal := HAT.out
   obtain ⟨g, off, c', rfl, _, _, hcell⟩ := hown.rd.open_ (by omega)
   obtain ⟨i, hi⟩ : ∃ i, i = at_ - 1 - k := ⟨_, rfl⟩
   have hil : i < l.length := by omega
   obtain ⟨p1, p2⟩ := genL_get (List.getElem?_eq_getElem hil)
   have c1 := hcell _ _ p1
   have c2 := hcell _ _ p2
   rw [← Nat.add_assoc] at c2
   have z0 := hv.1.cell 0
   obtain ⟨fn, tmps, assign, body, hy, hR⟩ := HY.out k wr Gr hlt hJk
   unfold aheadE at hy
   rw [← hi, List.getD_eq_getElem?_getD, List.getElem?_eq_getElem hil, Option.getD_some] at hy
   have hii : z - 1 - (k : Int) = (i : Int) := by have := HZ.out; omega
   have hiL : (i : Int) < (l.length : Int) := by omega
   have hi0 : (0 : Int) ≤ (i : Int) := by omega
   have hwi : IntKind.i64.wrap ((i : Int) - 1) = z - 1 - ((k + 1 : Nat) : Int) := by rw [IntKind.wrap_i64]; have := HL.out; have := HZ.out; omega
   obtain ⟨⟨nn, b⟩, hnb⟩ : ∃ q, q = l[i] := ⟨_, rfl⟩
   rw [← hnb] at c1 c2 hy
   unfold genA at hy
   unfold strV at c2
   simp only at c1 c2 hy
   have HR := Pk.mk hR
   have HG := Pk.mk hg
   have HLT := Pk.mk hlt
   rw [hii]
   clear hst hJk hstep hG hA hv hown hcell p1 p2 hil hal hnb hi hR hg hkN
   gi_wp2_with fail
   refine HR.out.mono ?_
   rintro e W5 (⟨rfl, hJ5, hk5⟩ | ⟨rfl, hJx5⟩)
   ·have HNEW : Pk (∃ G, J (k + 1) W5 G) := Pk.mk ⟨_, hJ5⟩
    have hgl : at_ - (k + 1) < gk := by have := HG.out; have := HLT.out; omega
    have HKN1 : Pk (k + 1 ≤ at_) := Pk.mk HLT.out
    clear hJ5 hk5 hy
    gi_wp2_with fail
    gi_roundg (at_ - (k + 1))
    case measure => exact hgl
    case rel => exact ⟨k + 1, by push_cast; rfl, rfl, HKN1.out, HNEW⟩
   ·have HJX := Pk.mk hJx5
    have HKN1 : Pk (k + 1 ≤ at_) := Pk.mk HLT.out
    clear hJx5 hy
    gi_wp2_with fail
    refine bodyPost_ret (results_none rfl _ _ _) rfl ?_
    exact ⟨⟨_, rfl⟩, .inr ⟨k + 1, HKN1.out, HJX.out⟩⟩
  ·have hkk : k = at_ := by omega
   subst hkk
   have HJN : Pk (∃ G, J k wr G) := Pk.mk ⟨_, hJk⟩
   have hm1 : ¬ (0 : Int) ≤ z - 1 - (k : Int) := by have := HZ.out; omega
   clear hst hJk hg hlt hkN
   gi_wp2_with fail
   refine bodyPost_end (results_none rfl _ _ _) rfl ?_
   exact ⟨⟨_, rfl⟩, .inl HJN.out⟩
end
end Go.Proofs.YtpjfheadolphgaaGreat
namespace Go.Proofs.YtpjfheadolphgaaGreat
open Go.RowKit Go.Proofs
set_option maxRecDepth 20000
theorem range_tl {P : Program} {n gf N : Nat} {lb : Array Value} {encs : Nat → Array Value} {T T0 : World → (Nat → Prop) → Prop} {g : Operand} {ps : Array Tmp} {assign body : Code} {Q : Exit → Act → World → Prop} {a : Act} {w : World} {G0 : Nat → Prop}
  (hT : Abid w.heap.size T) (hTl : ∀ W G, T W G → ∀ k, G k → k < W.heap.size) (hg : a.eval g = .func (.func gf) #[] lb) (eg : ∀ args w, (callFunc gf args).run P w = .ok (.enter gf args) w) (hT0 : Abid w.heap.size T0) (t0 : T0 w G0) (hseq : IterS (n - 1) P gf lb encs T T0 N) (hps : ∀ k, (encs k).size = ps.size)
  (I : Nat → World → (Nat → Prop) → Prop) (hI : ∀ k, Abid w.heap.size (I k)) (hIT : ∀ k W G W2 G2, T W G → I k W G → T W2 G2 → Only G W W2 → Grows G G2 W → I k W2 G2) (Ix : Code → Nat → World → (Nat → Prop) → Prop) (hIx : ∀ c k W G (o o' : Obj), Ix c k W G → W.heap[w.heap.size + 1]? = some o → o.isCells = false → Ix c k (W.putObj (w.heap.size + 1) o') G) (h0 : T w G0) (i0 : I 0 w G0)
  (Ax : Nat → Act → World → Prop) (hAx : ∀ k a', Abid w.heap.size (fun W _ => Ax k a' W))
  (hassign : ∀ (l k : Nat) (W : World) (G : Nat → Prop) (K : Act → World → Prop), k < N → T W G → I k W G → (∀ a' W', Only NoB W W' → T W' G → I k W' G → Ax k a' W' → K a' W') →
   assign.wpIn (Fence.wide.inRound l) (n - 1 - 1) P (Exit.then K (fun _ _ _ => False)) { tmps := (ps.zip (encs k)).foldl (fun t (p, v) => t.setIfInBounds p v) a.tmps, defers := [] } W)
  (hbody : ∀ (l k : Nat) (a' : Act) (W : World) (G : Nat → Prop), k < N → w.heap.size + 2 ≤ W.heap.size → T W G → I k W G → Ax k a' W → body.wpIn (Fence.wide.inRound l) (n - 1 - 1) P (roundEnd w.heap.size T I Ix k G W) a' W)
  (hdone : ∀ (d : Nat) (W : World) (G : Nat → Prop), w.heap.size ≤ d → ¬ G d → T W G → I N W G → W.heap[d]? = some (.deferred (some [])) → Q .normal { a with defers := { target := .collected d, args := #[] } :: a.defers } W)
  (hstop : ∀ (d : Nat) (c : Code) (k : Nat) (W : World) (G : Nat → Prop), d = w.heap.size → k ≤ N → ¬ G d → T W G → Ix c k W G → W.heap[d]? = some (.deferred (some [])) → c.wpIn Fence.wide n P Q { a with defers := { target := .collected d, args := #[] } :: a.defers } W) :
  (Code.rangeFunc g ps assign body).wpIn Fence.wide n P Q a w := by
 refine wpIn_rangeFunc fun fn hfn => ?_
 obtain ⟨d, hd⟩ : ∃ d, d = w.heap.size := ⟨_, rfl⟩
 obtain ⟨l, hl⟩ : ∃ l, l = w.heap.size + 1 := ⟨_, rfl⟩
 obtain ⟨rec, hrec⟩ : ∃ rec : LoopState → Option Code → Loop, rec = fun st pe => { state := st, pending := pe, fn, tmps := a.tmps, params := ps, assign, body, defers := w.heap.size } := ⟨_, rfl⟩
 obtain ⟨W1, hW1⟩ : ∃ W1, W1 = (w.alloc (.deferred (some []))).alloc (.loop (rec .ready none)) := ⟨_, rfl⟩
 have ho1 : Only NoB w W1 := by rw [hW1]; exact ((Only.refl NoB w).alloc _).alloc _
 have hs1 : W1.heap.size = w.heap.size + 2 := by rw [hW1]; simp
 have hL1 : W1.heap[l]? = some (.loop (rec .ready none)) := by
  rw [hW1, hl]
  have := World.alloc_heap_new (w.alloc (.deferred (some []))) (.loop (rec .ready none))
  rwa [World.size_alloc] at this
 have hD1 : W1.heap[d]? = some (.deferred (some [])) := by
  rw [hW1, hd]
  exact (Below.heap_alloc _ _ _ (by simp)).trans (World.alloc_heap_new w _)
 have hn0 : ¬ G0 l ∧ ¬ G0 d := ⟨fun h => by have := hTl _ _ h0 _ h; omega, fun h => by have := hTl _ _ h0 _ h; omega⟩
 have hdl : d ≠ l := by omega
 refine ⟨l, [{ target := .collected d, args := #[] }], W1, { target := .fn (.func gf) lb, args := #[.func (.yield l) #[] #[]] }, W1, gf, #[.func (.yield l) #[] #[]] ++ lb, W1, ?_, ?_, fun _ _ => trivial, ?_, (fun h => by cases h), ?_⟩
 ·rw [hW1, hrec, hl, hd]; exact run_enterLoop_outer _ _ _ _ _
 ·simp only [resolve, hg]
  simp [go_sem]
 ·simp [invoke, go_sem, eg]
 ·refine (hseq l (fun k W G => T W G ∧ I k W G ∧ ¬ G l ∧ ¬ G d ∧ W.heap[l]? = some (.loop (rec .ready none)) ∧ W.heap[d]? = some (.deferred (some [])))
   (fun k W => ∃ G c, T W G ∧ Ix c k W G ∧ ¬ G l ∧ ¬ G d ∧ W.heap[l]? = some (.loop (rec .done (some c))) ∧ W.heap[d]? = some (.deferred (some []))) W1 G0 ?_ ?_
   ⟨hT.quit h0 ho1, (hI 0).quit i0 ho1, hn0.1, hn0.2, hL1, hD1⟩ (hT0.quit t0 ho1)).mono ?_
  ·rintro k W G ⟨hTW, hIW, nl, nd, h1, h2⟩
   have l1 := (Array.getElem?_eq_some_iff.1 h1).1
   have l2 := (Array.getElem?_eq_some_iff.1 h2).1
   exact ⟨hTW, fun W2 G2 hT2 ho hgr => ⟨hT2, hIT k W G W2 G2 hTW hIW hT2 ho hgr, fun h => (hgr l h).elim nl fun h => by omega, fun h => (hgr d h).elim nd fun h => by omega, (ho.block l l1 nl).trans h1, (ho.block d l2 nd).trans h2⟩⟩
  ·rintro k W G hk ⟨hTW, hIW, nl, nd, h1, h2⟩
   have hy := run_yield (P := P) (args := encs k) h1 (by rw [hrec]; exact hps k)
   rw [hrec] at hy
   refine ⟨fn, _, assign, body, hy, roundIn_of_wpIn hfn (hassign l k W G _ hk hTW hIW ?_)⟩
   clear hy
   intro a' Wa ho hTa hIa hax
   have h1a : Wa.heap[l]? = _ := (ho.block l (Array.getElem?_eq_some_iff.1 h1).1 id).trans h1
   have h2a : Wa.heap[d]? = _ := (ho.block d (Array.getElem?_eq_some_iff.1 h2).1 id).trans h2
   have hb := run_beginRound (P := P) h1a (by rw [hrec])
   obtain ⟨o1, ho1'⟩ : ∃ o1 : Obj, o1 = .loop { rec .ready none with state := .busy } := ⟨_, rfl⟩
   rw [← ho1'] at hb
   have hoc : o1.isCells = false := by rw [ho1']; rfl
   refine ⟨_, hb, ?_⟩
   have h1b : (Wa.putObj l o1).heap[l]? = some o1 := World.putObj_heap_same (Array.getElem?_eq_some_iff.1 h1a).1
   have h2b : (Wa.putObj l o1).heap[d]? = some (.deferred (some [])) := (World.putObj_heap_other hdl).trans h2a
   refine wpIn_mono (hbody l k a' _ G hk (by have h9 := (Array.getElem?_eq_some_iff.1 h1b).1; omega) (hT.put o1 hTa (by omega) nl h1a rfl) ((hI k).put o1 hIa (by omega) nl h1a rfl) ((hAx k a').put (G := fun _ => False) o1 hax (by omega) id h1a rfl)) ?_
   rintro e a3 W3 hp
   cases e with
   | normal =>
    obtain ⟨hgk, hst, hT3, hI3⟩ := hp
    have h1c := hst l o1 (by omega) h1b hoc
    have h2c := hst d _ (by omega) h2b rfl
    have hl3 := (Array.getElem?_eq_some_iff.1 h1c).1
    rw [ho1'] at h1c
    have he := run_endRound (P := P) none h1c
    refine ⟨_, _, he, .inl ⟨rfl, ⟨hT.put _ hT3 (by omega) nl h1c rfl, (hI _).put _ hI3 (by omega) nl h1c rfl, nl, nd, ?_, (World.putObj_heap_other hdl).trans h2c⟩, fun q hq => ?_⟩⟩
    ·rw [World.putObj_heap_same hl3, hrec]
     simp
    ·have hql : q ≠ l := fun e => nl (e ▸ hq)
     rw [World.putObj_heap_other hql, hgk q hq, World.putObj_heap_other hql]
     exact ho.block q (hTl _ _ hTW q hq) id
   | ret =>
    obtain ⟨hst, hT3, hI3⟩ := hp
    have h1c := hst l o1 (by omega) h1b hoc
    have h2c := hst d _ (by omega) h2b rfl
    have hl3 := (Array.getElem?_eq_some_iff.1 h1c).1
    rw [ho1'] at h1c
    have he := run_endRound (P := P) (some .ret) h1c
    refine ⟨_, _, he, .inr ⟨rfl, G, .ret, hT.put _ hT3 (by omega) nl h1c rfl, (by have h9 := h1c; rw [hl] at h9 ⊢; exact hIx _ _ _ _ _ _ hI3 h9 rfl), nl, nd, ?_, (World.putObj_heap_other hdl).trans h2c⟩⟩
    rw [World.putObj_heap_same hl3, hrec]
    simp
   | exit id =>
    obtain ⟨hst, hT3, hI3⟩ := hp
    have h1c := hst l o1 (by omega) h1b hoc
    have h2c := hst d _ (by omega) h2b rfl
    have hl3 := (Array.getElem?_eq_some_iff.1 h1c).1
    rw [ho1'] at h1c
    have he := run_endRound (P := P) (some (.exit id)) h1c
    refine ⟨_, _, he, .inr ⟨rfl, G, .exit id, hT.put _ hT3 (by omega) nl h1c rfl, (by have h9 := h1c; rw [hl] at h9 ⊢; exact hIx _ _ _ _ _ _ hI3 h9 rfl), nl, nd, ?_, (World.putObj_heap_other hdl).trans h2c⟩⟩
    rw [World.putObj_heap_same hl3, hrec]
    simp
   | goto t => exact hp.elim
   | panic ch => exact hp.elim
   | outgrown => exact hp.elim
  ·rintro e W2 ⟨⟨v, rfl⟩, ⟨G, hT2, hI2, nl, nd, h1, h2⟩ | ⟨k, hk, G, c, hT2, hI2, nl, nd, h1, h2⟩⟩
   ·have he := run_endLoop (P := P) h1 (by rw [hrec]; simp)
    refine ⟨none, _, by rw [hrec] at he; exact he, hdone d _ G (by omega) nd (hT.put _ hT2 (by omega) nl h1 rfl) ((hI _).put _ hI2 (by omega) nl h1 rfl) ((World.putObj_heap_other hdl).trans h2)⟩
   ·have he := run_endLoop (P := P) h1 (by rw [hrec]; simp)
    refine ⟨some c, _, by rw [hrec] at he; exact he, hstop d c k _ G (by omega) hk nd (hT.put _ hT2 (by omega) nl h1 rfl) (by have h9 := h1; rw [hl] at h9 ⊢; exact hIx _ _ _ _ _ _ hI2 h9 rfl) ((World.putObj_heap_other hdl).trans h2)⟩
end Go.Proofs.YtpjfheadolphgaaGreat
namespace Go.Proofs.YtpjfheadolphgaaGreat
open Go.RowKit
set_option maxRecDepth 20000
section
variable {P : Program} {ops : Array Oper} {Q : Exit → Act → World → Prop} {fuel l n : Nat} {listed : Array Bool} {a : Act} {w : World}
theorem round_wp {o : Oper} {K : Act → World → Prop} (hnd : ∀ c, o.op ≠ .defer c) (h : o.wp P a w K Q) : o.wpIn (Fence.wide.inRound l) n P a w K Q := by
 refine ⟨fun f _ => trivial, ?_⟩
 have hs : (o.semAt (Fence.wide.inRound l).round a.eval) = execOp a.eval o := Oper.semAt_some l _ _ hnd
 rw [hs]
 unfold Oper.wp at h
 cases hr : (execOp a.eval o).run P w with
 | ok x w' =>
  rw [hr] at h
  cases x with
  | value v => exact h
  | skip => exact h
  | defer d => exact h
  | enter f args => exact ⟨fun h => (by cases h), (callsIn_wide.2 h : CallsIn Fence.wide (n - 1) P f args w' _)⟩
  | row row args => exact ⟨fun h => (by cases h), fun c cs _ => by
    obtain ⟨v, w2, h1, h2⟩ := h c cs
    exact ⟨v, w2, h1, stepsIn_wide.2 h2⟩⟩
  | _ => exact h.elim
 | halt x w' =>
  rw [hr] at h
  cases x <;> exact h
theorem any_round (hQ : ¬ LetsOut Q) (hnd : ∀ (i : Nat) (o : Oper), ops[i]? = some o → ∀ c, o.op ≠ .defer c) : ∀ (fuel : Nat) (listed : Array Bool) (a : Act) (w : World), wpAny P .any ops Q fuel listed a w → wpAnyIn (Fence.wide.inRound l) n P .any ops Q fuel listed a w
 | 0, _, _, _, h => h
 | fuel + 1, listed, a, w, h => by
  refine ⟨h.1, fun i hi => ?_⟩
  have h2 := h.2 i hi
  unfold wpOp at h2
  unfold wpOpIn
  cases ho : ops[i]? with
  | none => rw [ho] at h2; exact any_round hQ hnd fuel _ a w h2
  | some o =>
   rw [ho] at h2
   simp only at h2 ⊢
   split
   ·rename_i hw
    rw [if_pos hw] at h2
    rcases h2 with h2 | h2
    ·exact Oper.wpIn_mono (fun a w => any_round hQ hnd fuel _ a w) (round_wp (hnd i o ho) h2)
    ·exact absurd h2.2 hQ
   ·rename_i hw
    rw [if_neg hw] at h2
    exact ⟨fun f _ => trivial, any_round hQ hnd fuel _ _ w h2⟩
theorem hBR (id n : Nat) (S : World → Prop) (hS : S w.drew) (h : S w.drew → wpAnyH P .any ops (NoPanic Q) S n (Array.replicate n false) a w.drew) (hQ : ∀ a w, ¬ Q .outgrown a w) (hnd : (ops.toList.all fun o => match o.op with | .defer _ => false | _ => true) = true := by kernel_rfl) (hm : P.follows .mixedOrders = true := by kernel_rfl) (hn : ops.size = n := by kernel_rfl) {m : Nat} : (Code.region id ops true).wpIn (Fence.wide.inRound l) m P Q a w := by
 subst hn
 refine wpIn_mono (Q := NoPanic Q) ?_ NoPanic.imp
 refine wpIn_region_any hm (any_round ?_ (fun i o ho c hc => ?_) _ _ _ _ (wpAny_of_held _ _ _ _ (h hS)))
 ·rintro ⟨a, w, h⟩
  exact hQ a w h
 ·have h1 := List.all_eq_true.1 hnd o (by rw [← Array.getElem?_toList] at ho; exact List.mem_of_getElem? ho)
  rw [hc] at h1
  cases h1
end
end Go.Proofs.YtpjfheadolphgaaGreat
namespace Go.Proofs.YtpjfheadolphgaaGreat
open Go.RowKit Go.Proofs Go.Shelf
set_option maxRecDepth 20000
attribute [local go_sem] Oper.semAt_some
section
variable {w wr w' : World} {F F1 F2 : Nat → Prop} {X : XC} {t c c' : Nat} {p a : Str} {s s2 : List Gn × Nat} {regs : List Str} {G G' : Pfs} {v : Value}
def rolA (s : List Gn × Nat) (p : Str) : Gn × Nat := if nameOk p then (if 0 < atOf s then (s.1.getD ((atOf s).toNat - 1) (0, []), 0) else ((0, []), 5)) else ((0, []), 1)
def rolS (s : List Gn × Nat) (p : Str) : List Gn × Nat := if (rolA s p).2 = 0 then (s.1, (rolA s p).1.1) else s
def rolV (r : Gn × Nat) : Value := .tuple #[genA r.1, .int .i64 (r.2 : Nat)]
theorem rolS_no (h : (rolA s p).2 ≠ 0) : rolS s p = s := by rw [rolS, if_neg h]
structure RolB (w : World) (t : Nat) (p : Str) (wr : World) (F1 : Nat → Prop) (g : Gn) (e : Nat) : Prop where
 b0 : Bk w wr F1 w.heap.size 24 #[.pointer (some ⟨t, 0, none⟩)]
 b1 : Bk w wr F1 (w.heap.size + 1) 9 #[.string ⟨p.toArray⟩]
 b2 : Bk w wr F1 (w.heap.size + 1 + 1) 105 #[.int .i64 (g.1 : Nat), .string ⟨g.2.toArray⟩]
 b3 : Bk w wr F1 (w.heap.size + 1 + 1 + 1) 38 #[.int .i64 (e : Nat)]
theorem RolB.quit {g : Gn} {e : Nat} (h : RolB w t p wr F1 g e) (ho : Only NoB wr w') : RolB w t p w' F1 g e := ⟨h.b0.quit ho, h.b1.quit ho, h.b2.quit ho, h.b3.quit ho⟩
theorem RolB.step {g : Gn} {e : Nat} (h : RolB w t p wr F1 g e) (ho : Only F1 wr w') (hg : Grows F1 F2 wr) : RolB w t p w' F2 g e := ⟨h.b0.step ho hg, h.b1.step ho hg, h.b2.step ho hg, h.b3.step ho hg⟩
theorem RolB.set_ {g g' : Gn} {e e' : Nat} (h : RolB w t p wr F1 g e) : RolB w t p (((wr.setCell ⟨w.heap.size + 1 + 1, 0, none⟩ (.int .i64 (g'.1 : Nat))).setCell ⟨w.heap.size + 1 + 1, 1, none⟩ (.string ⟨g'.2.toArray⟩)).setCell ⟨w.heap.size + 1 + 1 + 1, 0, none⟩ (.int .i64 (e' : Nat))) F1 g' e' ∧
  Only (fun k => k = w.heap.size + 1 + 1 ∨ k = w.heap.size + 1 + 1 + 1) wr (((wr.setCell ⟨w.heap.size + 1 + 1, 0, none⟩ (.int .i64 (g'.1 : Nat))).setCell ⟨w.heap.size + 1 + 1, 1, none⟩ (.string ⟨g'.2.toArray⟩)).setCell ⟨w.heap.size + 1 + 1 + 1, 0, none⟩ (.int .i64 (e' : Nat))) := by
 obtain ⟨h1, h2⟩ := set2 h.b2.blk (.int .i64 (g'.1 : Nat)) (.string ⟨g'.2.toArray⟩)
 obtain ⟨W1, hW1⟩ : ∃ W1, W1 = (wr.setCell ⟨w.heap.size + 1 + 1, 0, none⟩ (.int .i64 (g'.1 : Nat))).setCell ⟨w.heap.size + 1 + 1, 1, none⟩ (.string ⟨g'.2.toArray⟩) := ⟨_, rfl⟩
 rw [← hW1] at h1 h2 ⊢
 have h3 : Only (fun k => k = w.heap.size + 1 + 1 + 1) W1 (W1.setCell ⟨w.heap.size + 1 + 1 + 1, 0, none⟩ (.int .i64 (e' : Nat))) := (Only.refl (fun k => k = w.heap.size + 1 + 1 + 1) W1).setCell (p := ⟨w.heap.size + 1 + 1 + 1, 0, none⟩) (.inl rfl) _
 have q3 := (h.b3.far h2 (by omega)).blk.set_ 0 (.int .i64 (e' : Nat))
 exact ⟨⟨(h.b0.far h2 (by omega)).far h3 (by omega), (h.b1.far h2 (by omega)).far h3 (by omega), ⟨h1.only h3 (by show ¬ (w.heap.size + 1 + 1 = w.heap.size + 1 + 1 + 1); omega), h.b2.out, h.b2.low⟩, ⟨q3, h.b3.out, h.b3.low⟩⟩, (h2.mono fun _ _ h => .inl h).trans (h3.mono fun _ _ h => .inr h)⟩
theorem RolB.cel {g : Gn} {e : Nat} (h : RolB w t p wr F1 g e) (s : PfSt w F X t regs G c wr F1) (ho : Only (fun k => k = w.heap.size + 1 + 1 ∨ k = w.heap.size + 1 + 1 + 1) wr w') : PfSt w F X t regs G c w' F1 := by
 obtain ⟨M, hk, hP⟩ := s.at_.ex
 refine ⟨⟨⟨M, hk.only ho fun k hk he => ?_, hP⟩, s.at_.few⟩, s.on.trans' ho fun k hk he => ?_, s.gr⟩
 ·rcases he with rfl | rfl
  ·exact h.b2.out hk
  ·exact h.b3.out hk
 ·rcases he with rfl | rfl <;> omega
theorem results_row_cell {P : Program} {fn : Func} {p u : Tmp} {ty ty2 : TypeId} (h : fn.results = #[.cell p ty, .cell u ty2]) (tmps : Array Value) (w : World) (g g2 : Nat) (t : TypeId) (cs : Array Value) (v2 : Value)
  (hp : tmps.getD p undef = .pointer (some ⟨g, 0, none⟩)) (hg : Blk w g t cs) (hu : (match P.underlying ty with | some (.struct _) | some (.array _ _) => true | _ => false) = true) (hi : (P.info? ty).map (·.size) = some cs.size)
  (hp2 : tmps.getD u undef = .pointer (some ⟨g2, 0, none⟩)) (hg2 : w.cell? ⟨g2, 0, none⟩ = some v2) (hu2 : (match P.underlying ty2 with | some (.struct _) | some (.array _ _) | none => true | _ => false) = false) :
  (results fn tmps).run P w = .ok (.tuple #[.agg cs, v2]) w := by
 have h1 := run_loadVar_blk (P := P) w g t cs hg hu hi
 have hp' : tmps[p]?.getD undef = .pointer (some ⟨g, 0, none⟩) := by simpa using hp
 have hp2' : tmps[u]?.getD undef = .pointer (some ⟨g2, 0, none⟩) := by simpa using hp2
 have h2 := run_loadVar_one (P := P) (ty := ty2) hg2 hu2
 simp [results, h, hp', hp2', asAddr, Result.andThen, h1, h2]
theorem PfSt.only {S : Nat → Prop} (h : PfSt w F X t regs G c wr F1) (ho : Only S wr w') (h1 : ∀ q, F1 q → ¬ S q) (h2 : ∀ q, q < w.heap.size → ¬ S q) : PfSt w F X t regs G c w' F1 := by
 obtain ⟨M, hk, hP⟩ := h.at_.ex
 exact ⟨⟨⟨M, hk.only ho h1, hP⟩, h.at_.few⟩, h.on.trans' ho fun k hk hs => absurd hs (h2 k hk), h.gr⟩
theorem Bk.only {S : Nat → Prop} {b : Nat} {ty : TypeId} {cs : Array Value} (h : Bk w wr F1 b ty cs) (ho : Only S wr w') (hb : ¬ S b) : Bk w w' F1 b ty cs := ⟨h.blk.only ho hb, h.out, h.low⟩
theorem RolB.only {S : Nat → Prop} {g : Gn} {e : Nat} (h : RolB w t p wr F1 g e) (ho : Only S wr w') (hS : ∀ q, q < w.heap.size + 4 → ¬ S q) : RolB w t p w' F1 g e :=
 ⟨h.b0.only ho (hS _ (by omega)), h.b1.only ho (hS _ (by omega)), h.b2.only ho (hS _ (by omega)), h.b3.only ho (hS _ (by omega))⟩
theorem pf_use {n : Nat} (h : PfAt w F X t regs G c) (hc : c + 1 ≤ 390) (hp : nameOk p = true) (hm : ∃ a, (n, a) ∈ (G p).1) :
  Calls Tryz.prog 152 #[.pointer (some ⟨t, 0, none⟩), .string ⟨p.toArray⟩, .int .i64 (n : Nat)] w (PfOut w F X t regs (.int .i64 0) (updP G p ((G p).1, n)) (c + 1)) := by
 have h3 := own400_640
 obtain ⟨M, hk, hP⟩ := h.ex
 refine (puse_ok hk hp (by omega) (by omega)).mono ?_
 rintro e w1 ⟨rfl, F', h1, h4, h5⟩
 exact ⟨rfl, F', ⟨⟨_, h1, hP.use hk.srt hp (s := ((G p).1, n)) rfl hm⟩, hc⟩, h4, h5⟩
structure RolI (w : World) (F : Nat → Prop) (X : XC) (t : Nat) (regs : List Str) (G : Pfs) (c : Nat) (p : Str) (F1 : Nat → Prop) (bL : Nat) (l : List Gn) (z : Int) (sl : Value) (k : Nat) (W : World) (Gx : Nat → Prop) : Prop where
 one : k = 0
 nog : ∀ q, ¬ Gx q
 st : PfSt w F X t regs G c W F1
 rb : RolB w t p W F1 (0, []) 0
 bl : Blk W bL 99 #[sl]
 ba : Blk W (bL + 1) 3 #[.int .i64 z]
 own : Own W (fun g => w.heap.size + 4 ≤ g ∧ ¬ F1 g) 105 2 sl l.length (genL l)
theorem rolI_abid {bL k : Nat} {l : List Gn} {z : Int} {sl : Value} (hB : w.heap.size + 4 ≤ bL) (hF : ∀ q, F1 q → q < bL) : Abid (bL + 2) (RolI w F X t regs G c p F1 bL l z sl k) := fun W W' Gx S h hS ho => by
 have hlow : ∀ q, q < bL + 2 → ¬ S q := fun q hq hs => by have := (hS q hs).1; omega
 refine ⟨h.one, h.nog, h.st.only ho (fun q hq => hlow q (by have := hF q hq; omega)) (fun q hq => hlow q (by omega)), h.rb.only ho (fun q hq => hlow q (by omega)), h.bl.only ho (hlow _ (by omega)), h.ba.only ho (hlow _ (by omega)), h.own.keep fun g hg => ho.block g (h.own.lt hg) fun hs => ?_⟩
 obtain ⟨cur, hc⟩ := own_cells h.own hg
 obtain ⟨_, _, o, h1, h2⟩ := hS g hs
 rw [hc] at h1
 injection h1 with h1
 subst h1
 cases h2
def RolX (w : World) (F : Nat → Prop) (X : XC) (t : Nat) (regs : List Str) (G : Pfs) (c : Nat) (p : Str) (bL N : Nat) (g : Gn) (cd : Code) (_ : Nat) (W : World) (_ : Nat → Prop) : Prop :=
 (cd = .ret ∧ 0 < N) ∧ ∃ F2, PfSt w F X t regs G c W F2 ∧ RolB w t p W F2 g 0 ∧ ∀ q, F2 q → q < bL + 2 ∨ bL + 4 ≤ q
theorem rolX_put {bL N k : Nat} {g : Gn} {cd : Code} (hB : w.heap.size + 4 ≤ bL) {W : World} {Gx : Nat → Prop} {q : Nat} (hq : q = bL + 2 ∨ q = bL + 3) (o' : Obj) (h : RolX w F X t regs G c p bL N g cd k W Gx) : RolX w F X t regs G c p bL N g cd k (W.putObj q o') Gx := by
 obtain ⟨h1, F2, h2, h3, h4⟩ := h
 have hp := put_only W q o'
 exact ⟨h1, F2, h2.only hp (fun r hr he => by have := h4 r hr; have he : r = q := he; omega) (fun r hr he => by have he : r = q := he; omega), h3.only hp (fun r hr he => by have he : r = q := he; omega), h4⟩
set_option maxHeartbeats 8000000 in
theorem prollback_ok (h : PfAt w F X t regs G c) (hc : c + 1 ≤ 390) (p : Str) (hpl : p.length ≤ 140737488351232) :
  Calls Tryz.prog 62 #[.pointer (some ⟨t, 0, none⟩), .string ⟨p.toArray⟩] w (PfOut w F X t regs (rolV (rolA (G p) p)) (updP G p (rolS (G p) p)) (c + 1)) := by
 refine (callsIn_wide (n := 6)).1 ?_
 refine callsIn_of_wp_marks Tryz.func62 rfl trivial ?_ rfl
 refine wpIn_wide.2 ?_
 simp only [Tryz.ntmps62, List.size_toArray, List.length_cons, List.length_nil, Nat.reduceAdd, Nat.reduceSub, Array.replicate_succ, Array.replicate_zero, List.push_toArray, List.append_toArray, List.nil_append, List.cons_append]
 obtain ⟨W0, hW0⟩ : ∃ W0, W0 = (((w.alloc (.cells #[.pointer (some ⟨t, 0, none⟩)] 24)).alloc (.cells #[.string ⟨p.toArray⟩] 9)).alloc (.cells #[.int .i64 0, .string ⟨#[]⟩] 105)).alloc (.cells #[.int .i64 0] 38) := ⟨_, rfl⟩
 have hWa : W0 = allocs w [(#[.pointer (some ⟨t, 0, none⟩)], 24), (#[.string ⟨p.toArray⟩], 9), (#[.int .i64 0, .string ⟨#[]⟩], 105), (#[.int .i64 0], 38)] := hW0
 have ho0 : Only NoB w W0 := by rw [hWa]; exact allocs_only _ _
 have hsz0 : W0.heap.size = w.heap.size + 4 := by rw [hWa, allocs_size]; rfl
 have hF : ∀ k, w.heap.size ≤ k → ¬ F k := fun k hk hf => by have := h.lt k hf; omega
 have rb0 : RolB w t p W0 F (0, []) 0 := ⟨⟨blk_of hWa 0 rfl, hF _ (Nat.le_refl _), Nat.le_refl _⟩, ⟨blk_of hWa 1 rfl, hF _ (by omega), by omega⟩, ⟨blk_of hWa 2 rfl, hF _ (by omega), by omega⟩, ⟨blk_of hWa 3 rfl, hF _ (by omega), by omega⟩⟩
 have s0 := (PfSt.start (h.mono (c' := c + 1) (by omega) hc)).quit ho0
 have S0 := Pk.mk s0
 have t0 := (PfSt.start h).quit ho0
 have T0 := Pk.mk t0
 have R0 := Pk.mk rb0
 have HW0 := Pk.mk hW0
 obtain ⟨hgl, hgr, hgb⟩ := h.good p
 have x0 : W0.cell? ⟨w.heap.size, 0, none⟩ = some (.pointer (some ⟨t, 0, none⟩)) := rb0.b0.blk.cell 0
 have x1 : W0.cell? ⟨w.heap.size + 1, 0, none⟩ = some (.string ⟨p.toArray⟩) := rb0.b1.blk.cell 0
 rw [hW0] at x0 x1
 cases hp : nameOk p with
 | false =>
  have HS := Pk.mk (pstate_bad (w := W0) hp hpl (.pointer (some ⟨t, 0, none⟩)))
  have hv : rolA (G p) p = ((0, []), 1) := by unfold rolA; rw [hp]; rfl
  rw [rolS_no (by rw [hv]; decide), hv, updP_id]
  clear h hp hpl hW0 hWa ho0 s0 rb0 hv hgl hgr hgb hF hc t0 T0 hsz0
  go_wp2_with fail
  rw [← HW0.out]
  refine HS.out.mono ?_
  rintro e w1 ⟨rfl, ho⟩
  have S1 := Pk.mk (S0.out.quit ho)
  have R1 := Pk.mk (R0.out.quit ho)
  have y0 : w1.cell? ⟨w.heap.size + 1 + 1, 0, none⟩ = some (.int .i64 0) := R1.out.b2.blk.cell 0
  have y1 : w1.cell? ⟨w.heap.size + 1 + 1, 1, none⟩ = some (.string ⟨#[]⟩) := R1.out.b2.blk.cell 1
  have y2 := R1.out.b2.blk.frozen 0
  have y3 := R1.out.b2.blk.frozen 1
  have z0 : w1.cell? ⟨w.heap.size + 1 + 1 + 1, 0, none⟩ = some (.int .i64 0) := R1.out.b3.blk.cell 0
  have z1 := R1.out.b3.blk.frozen 0
  clear ho x0 x1
  go_wp2_with fail
  obtain ⟨r2, o2⟩ := R1.out.set_ (g' := (0, [])) (e' := 1)
  refine ⟨_, results_row_cell rfl _ _ (w.heap.size + 1 + 1) (w.heap.size + 1 + 1 + 1) 105 _ _ rfl r2.b2.blk (by kernel_rfl) (by kernel_rfl) rfl (r2.b3.blk.cell 0) (by kernel_rfl), ?_⟩
  exact (R1.out.cel S1.out o2).out
 | true =>
  have HST := Pk.mk (pf_state t0.at_ p hp)
  have hzn : ∃ N : Nat, (atOf (G p) = N ∨ (N = 0 ∧ atOf (G p) = -1)) ∧ N ≤ (G p).1.length ∧ (0 < N → N < (G p).1.length) := by
   by_cases hn : (G p).1 = []
   ·exact ⟨0, .inr ⟨rfl, atOf_nil hn⟩, Nat.zero_le _, fun h => absurd h (Nat.lt_irrefl _)⟩
   ·obtain ⟨k, hk, hat, _⟩ := hgl.at_ hn
    exact ⟨k, .inl hat, by omega, fun _ => hk⟩
  obtain ⟨N, hz, hN, hN2⟩ := hzn
  have hlen := hgl.len
  have hra : rolA (G p) p = if 0 < N then ((G p).1.getD (N - 1) (0, []), 0) else ((0, []), 5) := by
   unfold rolA
   rw [hp]
   simp only [if_true]
   rcases hz with h1 | ⟨h1, h2⟩
   ·rw [h1]
    by_cases h0 : 0 < N
    ·rw [if_pos h0, if_pos (by omega)]; rfl
    ·rw [if_neg h0, if_neg (by omega)]
   ·rw [h2, if_neg (by omega), if_neg (by omega)]
  have HRN : Pk (¬ 0 < N → rolA (G p) p = ((0, []), 5) ∧ updP G p (rolS (G p) p) = G) := Pk.mk fun h0 => by
   have h1 : rolA (G p) p = ((0, []), 5) := by rw [hra, if_neg h0]
   exact ⟨h1, by rw [rolS_no (by rw [h1]; decide), updP_id]⟩
  have HRP : Pk (∀ h0 : 0 < N, rolA (G p) p = ((G p).1.getD (N - 1) (0, []), 0) ∧ rolS (G p) p = ((G p).1, ((G p).1.getD (N - 1) (0, [])).1)) := Pk.mk fun h0 => by
   have h1 : rolA (G p) p = ((G p).1.getD (N - 1) (0, []), 0) := by rw [hra, if_pos h0]
   refine ⟨h1, ?_⟩
   rw [rolS, h1, if_pos rfl]
  have HU : Pk (∀ w1 F1 (n : Nat), PfAt w1 F1 X t regs G c → (∃ a, (n, a) ∈ (G p).1) → Calls Tryz.prog 152 #[.pointer (some ⟨t, 0, none⟩), .string ⟨p.toArray⟩, .int .i64 (n : Nat)] w1 (PfOut w1 F1 X t regs (.int .i64 0) (updP G p ((G p).1, n)) (c + 1))) := Pk.mk fun w1 F1 n h1 h2 => pf_use h1 hc hp h2
  obtain ⟨l, hl⟩ : ∃ l, l = (G p).1 := ⟨_, rfl⟩
  obtain ⟨z, hze⟩ : ∃ z, z = atOf (G p) := ⟨_, rfl⟩
  obtain ⟨A1, hA1⟩ : ∃ A1, A1 = rolA (G p) p := ⟨_, rfl⟩
  obtain ⟨G2, hG2⟩ : ∃ G2, G2 = updP G p (rolS (G p) p) := ⟨_, rfl⟩
  have HG2 := Pk.mk hG2
  rw [← hl, ← hA1] at HRP
  rw [← hl] at hN hN2 hlen HU HST
  rw [← hze] at hz HST
  rw [← hA1, ← hG2] at HRN
  rw [← hA1, ← hG2]
  have HZ := Pk.mk hz
  have HN := Pk.mk hN
  have HN2 := Pk.mk hN2
  have HLE := Pk.mk hlen
  have HSZ := Pk.mk hsz0
  have HP := Pk.mk hp
  have HC := Pk.mk hc
  clear h hp hpl hW0 hWa ho0 s0 rb0 hgl hgr hgb hF hc t0 hsz0 hz hN hN2 hlen hra hl hze hA1 hG2 S0
  go_wp2_with fail
  rw [← HW0.out]
  refine HST.out.mono ?_
  rintro e w1 ⟨v, F1, rfl, hown, hat, ho, hg⟩
  obtain ⟨A, cp, rfl, _⟩ := hown.shape
  have T1 := Pk.mk (T0.out.step hat ho hg)
  have R1 := Pk.mk (R0.out.step ho hg)
  have HOW := Pk.mk hown
  clear hown hat ho hg x0 x1
  go_wp2_with fail
  refine (pahead_ok _ _ _ _ _).mono ?_
  rintro e w2 ⟨rfl, rfl⟩
  go_wp2_with fail
  obtain ⟨bL, hbL⟩ : ∃ bL, bL = w1.heap.size := ⟨_, rfl⟩
  obtain ⟨W2, hW2⟩ : ∃ W2, W2 = (w1.alloc (.cells #[.slice A l.length cp] 99)).alloc (.cells #[.int .i64 z] 3) := ⟨_, rfl⟩
  have hWb : W2 = allocs w1 [(#[.slice A l.length cp], 99), (#[.int .i64 z], 3)] := hW2
  have ho2 : Only NoB w1 W2 := by rw [hWb]; exact allocs_only _ _
  have hs2 : W2.heap.size = bL + 2 := by rw [hWb, allocs_size, hbL]; rfl
  have hB : w.heap.size + 4 ≤ bL := by have := HSZ.out; have := T1.out.on.size; have h5 := R1.out.b3.blk.lt; omega
  have hF1 : ∀ q, F1 q → q < bL := fun q hq => by rw [hbL]; exact T1.out.at_.lt q hq
  have bl2 : Blk W2 bL 99 #[.slice A l.length cp] := by rw [hbL]; exact blk_of hWb 0 rfl
  have ba2 : Blk W2 (bL + 1) 3 #[.int .i64 z] := by rw [hbL]; exact blk_of hWb 1 rfl
  have own2 : Own W2 (fun g => w.heap.size + 4 ≤ g ∧ ¬ F1 g) 105 2 (.slice A l.length cp) l.length (genL l) := by
   have h1 := HOW.out
   rw [HSZ.out] at h1
   rw [hWb]
   exact (h1.alloc _).alloc _
  have hT0 : AheadT l z (bL + 1) bL W2 NoB := ⟨fun k h => h, ⟨ba2, id⟩, _, ⟨bl2, id⟩, own2.mono fun g _ _ => ⟨Nat.zero_le _, id⟩⟩
  have hi0 : RolI w F X t regs G c p F1 bL l z (.slice A l.length cp) 0 W2 NoB := ⟨rfl, fun q h => h, T1.out.quit ho2, R1.out.quit ho2, bl2, ba2, own2⟩
  rw [← hbL, ← hW2]
  have HBB := Pk.mk hB
  have HF1 := Pk.mk hF1
  clear hW2 hWb ho2 bl2 ba2 own2 hbL
  refine (wpIn_wide (n := 6)).1 ?_
  refine range_tl (n := 6) (gf := 252) (N := N) (encs := aheadE l N) (T := AheadT l z (bL + 1) bL) (T0 := fun _ _ => True) aheadT_abid (fun W G hT k hk => (hT.1 k hk).elim) rfl (enters_of Tryz.func252 (by kernel_rfl) rfl) (fun _ _ _ _ _ _ _ => trivial) trivial (fun lb J Jx W G h1 h2 h3 _ => ahead_iter HZ.out HN.out HLE.out 5 (by omega) lb J Jx W G h1 h2 h3) (fun _ => rfl)
   (RolI w F X t regs G c p F1 bL l z (.slice A l.length cp)) (fun k => by rw [hs2]; exact rolI_abid hB hF1) (fun k W Gx W2 G2 hT hI hT2 ho hg => ?stay) (RolX w F X t regs G2 (c + 1) p bL N (l.getD (N - 1) (0, []))) (fun cd k W Gx o o' hx _ _ => by rw [hs2]; exact rolX_put hB (.inr rfl) o' hx)
   hT0 hi0
   (fun k a' W => ∃ Bx, bL + 2 ≤ Bx ∧ Blk W Bx 105 #[.int .i64 ((l.getD (N - 1 - k) (0, [])).1 : Nat), .string ⟨(l.getD (N - 1 - k) (0, [])).2.toArray⟩] ∧ ∃ a24, a' = Act.mk #[.pointer (some ⟨t, 0, none⟩), .string ⟨p.toArray⟩, .pointer (some ⟨w.heap.size, 0, none⟩), .pointer (some ⟨w.heap.size + 1, 0, none⟩), .pointer (some ⟨w.heap.size + 1 + 1, 0, none⟩), .pointer (some ⟨w.heap.size + 1 + 1 + 1, 0, none⟩), .slice A l.length cp, .int .i64 z, .int .i64 0, .pointer (some ⟨Bx, 0, none⟩),
    .tuple #[.slice A l.length cp, .int .i64 z, .int .i64 0], .pointer (some ⟨t, 0, none⟩), .string ⟨p.toArray⟩, .tuple #[.slice A l.length cp, .int .i64 z, .int .i64 0], .slice A l.length cp, .int .i64 z, .int .i64 0, .int .i64 0, .bool false, undef, undef, .slice A l.length cp, .int .i64 z, .func (.func 252) #[] #[.pointer (some ⟨bL + 1, 0, none⟩), .pointer (some ⟨bL, 0, none⟩)], a24, undef, undef, undef, undef, undef, undef, undef] [])
   ?hAx ?assign ?body ?done ?stop
  case stay =>
   have hn : Only NoB W W2 := ho.mono fun q _ hq => hI.nog q hq
   exact ⟨hI.one, hT2.1, hI.st.quit hn, hI.rb.quit hn, hI.bl.only hn id, hI.ba.only hn id, hI.own.keep fun g hg => hn.block g (hI.own.lt hg) id⟩
  case hAx =>
   rintro k a' W W' _ S ⟨Bx, h1, h2, h3⟩ hS ho
   exact ⟨Bx, h1, blk_abid h2 (fun q hq => (hS q hq).2.2) ho, h3⟩
  case assign =>
   intro lb k W Gx K hk hT hI hK
   have HK := Pk.mk hK
   have HT := Pk.mk hT
   have HI := Pk.mk hI
   clear hK hT hI
   unfold aheadE genA
   gi_wp2
   exact HK.out _ _ ((Only.refl NoB W).alloc _) ((aheadT_abid (B := 0)).quit HT.out ((Only.refl NoB W).alloc _)) ((rolI_abid HBB.out HF1.out).quit HI.out ((Only.refl NoB W).alloc _)) ⟨W.heap.size, by have := HI.out.ba.lt; omega, Blk.new _ _ _, _, rfl⟩
  case body =>
   rintro lb k a' W Gx hk hsz hT hI ⟨Bx, hBx, hbx, a24, rfl⟩
   obtain rfl := hI.one
   rw [Nat.sub_zero] at hbx
   obtain ⟨h1, h2⟩ := HRP.out hk
   have hmem : l.getD (N - 1) (0, []) ∈ l := by
    have := HN.out
    rw [List.getD_eq_getElem?_getD, List.getElem?_eq_getElem (by omega)]
    exact List.getElem_mem _
   have hg2 := HG2.out
   rw [h2] at hg2
   obtain ⟨⟨n, a⟩, hgg⟩ : ∃ g, g = l.getD (N - 1) (0, []) := ⟨_, rfl⟩
   rw [← hgg] at hmem hg2 hbx ⊢
   simp only at hbx hg2
   have HUC0 := HU.out W.drew F1 n (hI.st.at_.quit (Only.refl NoB W).drew) ⟨a, hmem⟩
   rw [← hg2] at HUC0
   have HUC := Pk.mk HUC0
   have HT := Pk.mk hT
   have HI := Pk.mk hI
   have HSZ2 := Pk.mk (show bL + 4 ≤ W.heap.size by omega)
   have bx : Bk w W F1 Bx 105 #[.int .i64 (n : Nat), .string ⟨a.toArray⟩] := ⟨hbx, fun hf => by have := HF1.out _ hf; omega, by have := HBB.out; omega⟩
   have BX := Pk.mk bx
   have HBX := Pk.mk hBx
   have s0 : W.drew.cell? ⟨Bx, 0, none⟩ = some (.int .i64 (n : Nat)) := hbx.drew.cell 0
   have s1 : W.drew.cell? ⟨Bx, 1, none⟩ = some (.string ⟨a.toArray⟩) := hbx.drew.cell 1
   have s2 : W.drew.cell? ⟨w.heap.size, 0, none⟩ = some (.pointer (some ⟨t, 0, none⟩)) := hI.rb.b0.blk.drew.cell 0
   have s3 : W.drew.cell? ⟨w.heap.size + 1, 0, none⟩ = some (.string ⟨p.toArray⟩) := hI.rb.b1.blk.drew.cell 0
   have S4 := Pk.mk (⟨s0, s1, s2, s3⟩ : _ ∧ _ ∧ _ ∧ _)
   have HNP := Pk.mk hk
   clear h1 h2 hmem hg2 hgg HUC0 hT hI bx hBx hbx s0 s1 s2 s3 hsz hk hT0 hi0 HRP HRN HOW HST T0 R0 T1 R1
   refine wpIn_block ?_
   refine wpIn_seq ?_
   refine hBR _ 8 (fun w' => w'.cell? ⟨Bx, 0, none⟩ = some (.int .i64 (n : Nat)) ∧ w'.cell? ⟨Bx, 1, none⟩ = some (.string ⟨a.toArray⟩) ∧ w'.cell? ⟨w.heap.size, 0, none⟩ = some (.pointer (some ⟨t, 0, none⟩)) ∧ w'.cell? ⟨w.heap.size + 1, 0, none⟩ = some (.string ⟨p.toArray⟩)) S4.out (fun hHeld => ?_) (fun _ _ h => h)
   refine hT 0 25 ?_
   refine hT 1 26 ?_
   refine hT 2 27 ?_
   refine hT 3 28 ?_
   refine hT 4 29 ?_
   refine hE 5 (fun o ho K hK => ?_)
   cases ho
   go_simp
   refine HUC.out.mono ?_
   rintro e zc ⟨rfl, F2, h2, ho2, hg2⟩
   have r2 := (HI.out.rb.quit (Only.refl NoB W).drew).step ho2 hg2
   have b2 := (BX.out.quit (Only.refl NoB W).drew).step ho2 hg2
   have st2 := (HI.out.st.quit (Only.refl NoB W).drew).step h2 ho2 hg2
   have R2 := Pk.mk r2
   have BX2 := Pk.mk b2
   have ST2 := Pk.mk st2
   have HO2 := Pk.mk ho2
   have HGG := Pk.mk hg2
   have y0 : zc.cell? ⟨w.heap.size + 1 + 1, 0, none⟩ = some (.int .i64 0) := r2.b2.blk.cell 0
   have y1 : zc.cell? ⟨w.heap.size + 1 + 1, 1, none⟩ = some (.string ⟨#[]⟩) := r2.b2.blk.cell 1
   have y2 := r2.b2.blk.frozen 0
   have y3 := r2.b2.blk.frozen 1
   refine hK.out _ _ (⟨b2.blk.cell 0, b2.blk.cell 1, r2.b0.blk.cell 0, r2.b1.blk.cell 0⟩) (fun hHeld => ?_)
   clear hK K
   try simp only [Act.put, List.setIfInBounds_toArray, List.set_cons_zero, List.set_cons_succ]
   clear r2 b2 st2 h2 ho2 hg2
   refine hE 6 (fun o ho K hK => ?_)
   cases ho
   go_simp
   obtain ⟨c6, o6⟩ := set2 R2.out.b2.blk (.int .i64 (n : Nat)) (.string ⟨a.toArray⟩)
   obtain ⟨W6, hW6⟩ : ∃ W6, W6 = (zc.setCell ⟨w.heap.size + 1 + 1, 0, none⟩ (.int .i64 (n : Nat))).setCell ⟨w.heap.size + 1 + 1, 1, none⟩ (.string ⟨a.toArray⟩) := ⟨_, rfl⟩
   rw [← hW6] at c6 o6 ⊢
   have hbq : w.heap.size + 4 ≤ Bx := by have := HBX.out; have := HBB.out; omega
   have q0 := R2.out.b0.blk.only o6 (by show ¬ (w.heap.size = w.heap.size + 1 + 1); omega)
   have q1 := R2.out.b1.blk.only o6 (by show ¬ (w.heap.size + 1 = w.heap.size + 1 + 1); omega)
   have q3 := R2.out.b3.blk.only o6 (by show ¬ (w.heap.size + 1 + 1 + 1 = w.heap.size + 1 + 1); omega)
   have qx := BX2.out.blk.only o6 (by show ¬ (Bx = w.heap.size + 1 + 1); omega)
   have z0 : W6.cell? ⟨w.heap.size + 1 + 1 + 1, 0, none⟩ = some (.int .i64 0) := q3.cell 0
   have z1 := q3.frozen 0
   have Q0 := Pk.mk q0
   have Q1 := Pk.mk q1
   have QX := Pk.mk qx
   have HW6 := Pk.mk hW6
   refine hK.out _ _ (⟨qx.cell 0, qx.cell 1, q0.cell 0, q1.cell 0⟩) (fun hHeld => ?_)
   clear hK K
   try dsimp only
   clear y0 y1 y2 y3 q0 q1 q3 qx c6 o6 hW6
   refine hE 7 (fun o ho K hK => ?_)
   cases ho
   go_simp
   have o7 : Only (fun k => k = w.heap.size + 1 + 1 + 1) W6 (W6.setCell ⟨w.heap.size + 1 + 1 + 1, 0, none⟩ (.int .i64 0)) := (Only.refl (fun k => k = w.heap.size + 1 + 1 + 1) W6).setCell (p := ⟨w.heap.size + 1 + 1 + 1, 0, none⟩) (.inl rfl) _
   have qx := QX.out.only o7 (by show ¬ (Bx = w.heap.size + 1 + 1 + 1); omega)
   have q0 := Q0.out.only o7 (by show ¬ (w.heap.size = w.heap.size + 1 + 1 + 1); omega)
   have q1 := Q1.out.only o7 (by show ¬ (w.heap.size + 1 = w.heap.size + 1 + 1 + 1); omega)
   refine hK.out _ _ (⟨qx.cell 0, qx.cell 1, q0.cell 0, q1.cell 0⟩) (fun hHeld => ?_)
   clear hK K
   try dsimp only
   refine wpAnyH_done (by kernel_rfl) ?_ _
   refine NoPanic.normal ?_
   refine wpIn_ret ?_
   obtain ⟨r7, o27⟩ := R2.out.set_ (g' := (n, a)) (e' := 0)
   rw [← HW6.out] at r7 o27
   have hall : Only (fun k => F1 k ∨ k = w.heap.size + 1 + 1 ∨ k = w.heap.size + 1 + 1 + 1) W (W6.setCell ⟨w.heap.size + 1 + 1 + 1, 0, none⟩ (.int .i64 (0 : Nat))) :=
    (((Only.refl _ W).drew).trans (HO2.out.mono fun _ _ h => .inl h)).trans (o27.mono fun _ _ h => .inr h)
   have hno : ∀ q, w.heap.size + 4 ≤ q → ¬ F1 q → ¬ (F1 q ∨ q = w.heap.size + 1 + 1 ∨ q = w.heap.size + 1 + 1 + 1) := fun q hq hf h => by
    rcases h with h | h | h
    ·exact hf h
    ·omega
    ·omega
   have hbb := HBB.out
   have hnf : ∀ q, bL ≤ q → ¬ F1 q := fun q hq hf => by have := HF1.out q hf; omega
   refine ⟨fun q o hq ho _ => (hall.block q (Array.getElem?_eq_some_iff.1 ho).1 (hno q (by omega) (hnf q (by omega)))).trans ho, ⟨HI.out.nog, ⟨HI.out.ba.only hall (hno _ (by omega) (hnf _ (by omega))), HI.out.nog _⟩, _, ⟨HI.out.bl.only hall (hno _ (by omega) (hnf _ (by omega))), HI.out.nog _⟩, (HI.out.own.keep fun g hg => hall.block g (HI.out.own.lt hg) (hno g (HI.out.own.2 g hg).1 (HI.out.own.2 g hg).2)).mono fun g _ _ => ⟨Nat.zero_le _, HI.out.nog _⟩⟩, ⟨rfl, HNP.out⟩, F2, R2.out.cel ST2.out o27, r7, fun q hq => ?_⟩
   rcases HGG.out q hq with h | h
   ·have := HF1.out q h; omega
   ·have := HSZ2.out; have h : W.heap.size ≤ q := h; omega
  case done =>
   rintro d W Gx hd hnd hT hI hK
   have hN0 : ¬ 0 < N := by have := hI.one; omega
   obtain ⟨ha1, ha2⟩ := HRN.out hN0
   subst ha1
   subst ha2
   have HI := Pk.mk hI
   have HK := Pk.mk hK
   have hbd : bL + 2 ≤ d := by omega
   have HBD := Pk.mk hbd
   have y0 : W.cell? ⟨w.heap.size + 1 + 1, 0, none⟩ = some (.int .i64 0) := hI.rb.b2.blk.cell 0
   have y1 : W.cell? ⟨w.heap.size + 1 + 1, 1, none⟩ = some (.string ⟨#[]⟩) := hI.rb.b2.blk.cell 1
   have y2 := hI.rb.b2.blk.frozen 0
   have y3 := hI.rb.b2.blk.frozen 1
   have z0 : W.cell? ⟨w.heap.size + 1 + 1 + 1, 0, none⟩ = some (.int .i64 0) := hI.rb.b3.blk.cell 0
   have z1 := hI.rb.b3.blk.frozen 0
   clear hI hT hnd hK hT0 hi0 hd hbd hN0 HRP HRN HOW HST T0 R0 T1 R1
   go_wp2_with fail
   obtain ⟨r2, o2⟩ := HI.out.rb.set_ (g' := (0, [])) (e' := 5)
   have st2 := HI.out.rb.cel HI.out.st o2
   obtain ⟨WF, hWF⟩ : ∃ z, z = ((W.setCell ⟨w.heap.size + 1 + 1, 0, none⟩ (.int .i64 (0 : Nat))).setCell ⟨w.heap.size + 1 + 1, 1, none⟩ (.string ⟨([] : Str).toArray⟩)).setCell ⟨w.heap.size + 1 + 1 + 1, 0, none⟩ (.int .i64 (5 : Nat)) := ⟨_, rfl⟩
   rw [show ((W.setCell ⟨w.heap.size + 1 + 1, 0, none⟩ (.int .i64 0)).setCell ⟨w.heap.size + 1 + 1, 1, none⟩ (.string ⟨#[]⟩)).setCell ⟨w.heap.size + 1 + 1 + 1, 0, none⟩ (.int .i64 5) = WF from hWF.symm]
   rw [← hWF] at r2 o2 st2
   have hbb := HBB.out
   have hbd := HBD.out
   have hKF := (o2.block d (Array.getElem?_eq_some_iff.1 HK.out).1 (by omega)).trans HK.out
   refine ⟨by simp, .inl ⟨_, _, rfl, run_takeDeferred hKF, ?_⟩⟩
   have hp := put_only WF d (.deferred none)
   have st3 := st2.only hp (fun q hq he => by have := HF1.out q hq; have he : q = d := he; omega) (fun q hq he => by have he : q = d := he; omega)
   have r3 := r2.only hp (fun q hq he => by have he : q = d := he; omega)
   refine ⟨_, results_row_cell rfl _ _ (w.heap.size + 1 + 1) (w.heap.size + 1 + 1 + 1) 105 _ _ rfl r3.b2.blk (by kernel_rfl) (by kernel_rfl) rfl (r3.b3.blk.cell 0) (by kernel_rfl), ?_⟩
   exact ⟨rfl, F1, st3.at_.mono (by omega) HC.out, st3.on, st3.gr⟩
  case stop =>
   rintro d cd k W Gx hd hk hnd hT hx hK
   obtain ⟨⟨rfl, hNN⟩, F2, st2, r2, hF2⟩ := hx
   obtain ⟨ha1, _⟩ := HRP.out hNN
   subst ha1
   obtain ⟨g, hg⟩ : ∃ g, g = l.getD (N - 1) (0, []) := ⟨_, rfl⟩
   rw [← hg] at r2 ⊢
   have HK := Pk.mk hK
   have hd2 : d = bL + 2 := by omega
   have HD := Pk.mk hd2
   have ST := Pk.mk st2
   have RT := Pk.mk r2
   have HF2 := Pk.mk hF2
   clear hT hnd hK hT0 hi0 hd hd2 hk HRP HRN HOW HST T0 R0 T1 R1 st2 r2 hF2 hg
   gi_wp2_with fail
   refine ⟨by simp, .inl ⟨_, _, rfl, run_takeDeferred HK.out, ?_⟩⟩
   have hp := put_only W d (.deferred none)
   have hd2 := HD.out
   have hbb := HBB.out
   have st3 := ST.out.only hp (fun q hq he => by have := HF2.out q hq; have he : q = d := he; omega) (fun q hq he => by have he : q = d := he; omega)
   have r3 := RT.out.only hp (fun q hq he => by have he : q = d := he; omega)
   refine ⟨_, results_row_cell rfl _ _ (w.heap.size + 1 + 1) (w.heap.size + 1 + 1 + 1) 105 _ _ rfl r3.b2.blk (by kernel_rfl) (by kernel_rfl) rfl (r3.b3.blk.cell 0) (by kernel_rfl), ?_⟩
   exact st3.out
end
end Go.Proofs.YtpjfheadolphgaaGreat
namespace Go.Proofs.YtpjfheadolphgaaGreat
open Go.RowKit Go.Proofs Go.Shelf
set_option maxRecDepth 20000
attribute [local go_sem] Oper.semAt_some
section
variable {w w0 w' : World} {F G0 : Nat → Prop} {X : XC} {t c c' : Nat} {p a : Str} {s s' : List Gn × Nat} {regs : List Str} {G : Pfs} {v : Value} {e : Ending}
structure PfOwn (w0 w : World) (X : XC) (t : Nat) (regs : List Str) (p : Str) (s : List Gn × Nat) (c : Nat) : Prop where
 ex : ∃ F G, PfAt w F X t regs G c ∧ G p = s ∧ Only NoB w0 w ∧ ∀ k, F k → w0.heap.size ≤ k
theorem PfOwn.add (h : PfOwn w0 w X t regs p s c) (hc : c + 2 ≤ 390) (a : Str) (hpl : p.length ≤ 140737488351232) (hal : a.length ≤ 140737488351232) (hv : ansV (addA regs s p a) = v) (hs : addS regs s p a = s') :
  Calls Tryz.prog 59 #[.pointer (some ⟨t, 0, none⟩), .string ⟨p.toArray⟩, .string ⟨a.toArray⟩] w fun e w' => e = .returned v ∧ PfOwn w0 w' X t regs p s' (c + 2) := by
 obtain ⟨F, G, hp, hg, ho, hF⟩ := h.ex
 subst hg; subst hs; subst hv
 refine (padd_ok hp hc p a hpl hal).mono ?_
 rintro e w' ⟨rfl, F', h', ho', hg'⟩
 exact ⟨rfl, ⟨F', _, h', updP_same _ _ _, ho.trans' ho' fun k hk hf => by have := hF k hf; omega, fun k hk => (hg' k hk).elim (hF k) fun h => by have := ho.size; omega⟩⟩
theorem PfOwn.rol (h : PfOwn w0 w X t regs p s c) (hc : c + 1 ≤ 390) (hpl : p.length ≤ 140737488351232) (hv : rolV (rolA s p) = v) (hs : rolS s p = s') :
  Calls Tryz.prog 62 #[.pointer (some ⟨t, 0, none⟩), .string ⟨p.toArray⟩] w fun e w' => e = .returned v ∧ PfOwn w0 w' X t regs p s' (c + 1) := by
 obtain ⟨F, G, hp, hg, ho, hF⟩ := h.ex
 subst hg; subst hs; subst hv
 refine (prollback_ok hp hc p hpl).mono ?_
 rintro e w' ⟨rfl, F', h', ho', hg'⟩
 exact ⟨rfl, ⟨F', _, h', updP_same _ _ _, ho.trans' ho' fun k hk hf => by have := hF k hf; omega, fun k hk => (hg' k hk).elim (hF k) fun h => by have := ho.size; omega⟩⟩
structure PfOwnB (w0 w : World) (X : XC) (t : Nat) (regs : List Str) (p : Str) (s : List Gn × Nat) (c b : Nat) (ty : TypeId) (cs : Array Value) : Prop where
 ex : ∃ F G, PfAt w F X t regs G c ∧ G p = s ∧ Only NoB w0 w ∧ (∀ k, F k → w0.heap.size ≤ k) ∧ ¬ F b
 blk : Blk w b ty cs
section
variable {b : Nat} {ty : TypeId} {cs : Array Value}
theorem PfOwn.with (h : PfOwn w0 w X t regs p s c) (cs : Array Value) (ty : TypeId) : PfOwnB w0 (w.alloc (.cells cs ty)) X t regs p s c w.heap.size ty cs := by
 obtain ⟨F, G, hp, hg, ho, hF⟩ := h.ex
 have ho2 : Only NoB w (w.alloc (.cells cs ty)) := (Only.refl NoB w).alloc _
 obtain ⟨M, hk, _⟩ := hp.ex
 exact ⟨⟨F, G, hp.quit ho2, hg, ho.trans ho2, hF, fun hf => Nat.lt_irrefl _ (hk.lt _ hf)⟩, Blk.new w _ _⟩
theorem PfOwnB.del (h : PfOwnB w0 w X t regs p s c b ty cs) (n : Int) (hpl : p.length ≤ 140737488351232) (hv : .int .i64 (delE s p n : Nat) = v) (hs : delS s p n = s') :
  Calls Tryz.prog 63 #[.pointer (some ⟨t, 0, none⟩), .string ⟨p.toArray⟩, .int .i64 n] w fun e w' => e = .returned v ∧ PfOwnB w0 w' X t regs p s' c b ty cs := by
 obtain ⟨F, G, hp, hg, ho, hF, hb⟩ := h.ex
 have hbl := h.blk
 subst hg; subst hs; subst hv
 refine (pdelete_ok hp p n hpl).mono ?_
 rintro e w' ⟨rfl, F', h', ho', hg'⟩
 exact ⟨rfl, ⟨F', _, h', updP_same _ _ _, ho.trans' ho' fun k hk hf => by have := hF k hf; omega, fun k hk => (hg' k hk).elim (hF k) fun h => by have := ho.size; omega, fun hf => (hg' b hf).elim hb fun h => by have := hbl.lt; omega⟩, hbl.only ho' hb⟩
theorem PfOwnB.dol (h : PfOwnB w0 w X t regs p s c b ty cs) (hpl : p.length ≤ 140737488351232) (hv : ansV (dolA s p) = v) :
  Calls Tryz.prog 64 #[.pointer (some ⟨t, 0, none⟩), .string ⟨p.toArray⟩] w fun e w' => e = .returned v ∧ Only NoB w0 w' ∧ Blk w' b ty cs := by
 obtain ⟨F, G, hp, hg, ho, hF, hb⟩ := h.ex
 have hbl := h.blk
 subst hg; subst hv
 refine (pdelold_ok hp p hpl).mono ?_
 rintro e w' ⟨rfl, F', h', ho', hg'⟩
 exact ⟨rfl, ho.trans' ho' fun k hk hf => by have := hF k hf; omega, hbl.only ho' hb⟩
end
set_option maxHeartbeats 4000000 in
theorem awake25_ok : Calls Tryz.prog 65 #[] w fun e w' => e = .returned (.bool true) ∧ Only NoB w w' := by
 have HT := Pk.mk (open25_ok (w := w))
 have e1 : ansV (addA (regK 4) ([], 0) [112] (nmK 0)) = .tuple #[.int .i64 1, .int .i64 0] := by rw [show addA (regK 4) ([], 0) [112] (nmK 0) = (1, 0) by decide +kernel]; rfl
 have f1 : addS (regK 4) ([], 0) [112] (nmK 0) = ([(1, nmK 0)], 1) := by decide +kernel
 have e2 : ansV (addA (regK 4) ([(1, nmK 0)], 1) [112] (nmK 0)) = .tuple #[.int .i64 1, .int .i64 0] := by rw [show addA (regK 4) ([(1, nmK 0)], 1) [112] (nmK 0) = (1, 0) by decide +kernel]; rfl
 have f2 : addS (regK 4) ([(1, nmK 0)], 1) [112] (nmK 0) = ([(1, nmK 0)], 1) := by decide +kernel
 have e3 : ansV (addA (regK 4) ([(1, nmK 0)], 1) [112] (nmK 1)) = .tuple #[.int .i64 2, .int .i64 0] := by rw [show addA (regK 4) ([(1, nmK 0)], 1) [112] (nmK 1) = (2, 0) by decide +kernel]; rfl
 have f3 : addS (regK 4) ([(1, nmK 0)], 1) [112] (nmK 1) = ([(1, nmK 0), (2, nmK 1)], 2) := by decide +kernel
 have e4 : rolV (rolA ([(1, nmK 0), (2, nmK 1)], 2) [112]) = .tuple #[.agg #[.int .i64 1, .string ⟨(nmK 0).toArray⟩], .int .i64 0] := by rw [show rolA ([(1, nmK 0), (2, nmK 1)], 2) [112] = ((1, nmK 0), 0) by decide +kernel]; rfl
 have f4 : rolS ([(1, nmK 0), (2, nmK 1)], 2) [112] = ([(1, nmK 0), (2, nmK 1)], 1) := by decide +kernel
 have e5 : Value.int .i64 (delE ([(1, nmK 0), (2, nmK 1)], 1) [112] 1 : Nat) = .int .i64 152 := by rw [show delE ([(1, nmK 0), (2, nmK 1)], 1) [112] 1 = 152 by decide +kernel]; rfl
 have f5 : delS ([(1, nmK 0), (2, nmK 1)], 1) [112] 1 = ([(1, nmK 0), (2, nmK 1)], 1) := by decide +kernel
 have e6 : ansV (dolA ([(1, nmK 0), (2, nmK 1)], 1) [112]) = .tuple #[.int .i64 1, .int .i64 0] := by rw [show dolA ([(1, nmK 0), (2, nmK 1)], 1) [112] = (1, 0) by decide +kernel]; rfl
 have H1 : Pk (∀ w1 X t, PfOwn w w1 X t (regK 4) [112] ([], 0) 4 → Calls Tryz.prog 59 #[.pointer (some ⟨t, 0, none⟩), .string ⟨#[112]⟩, .string ⟨(nmK 0).toArray⟩] w1 fun e w' => e = .returned (.tuple #[.int .i64 1, .int .i64 0]) ∧ PfOwn w w' X t (regK 4) [112] ([(1, nmK 0)], 1) 6) := Pk.mk fun w1 X t h => h.add (by omega) (nmK 0) (by decide) (by decide) e1 f1
 have H2 : Pk (∀ w1 X t, PfOwn w w1 X t (regK 4) [112] ([(1, nmK 0)], 1) 6 → Calls Tryz.prog 59 #[.pointer (some ⟨t, 0, none⟩), .string ⟨#[112]⟩, .string ⟨(nmK 0).toArray⟩] w1 fun e w' => e = .returned (.tuple #[.int .i64 1, .int .i64 0]) ∧ PfOwn w w' X t (regK 4) [112] ([(1, nmK 0)], 1) 8) := Pk.mk fun w1 X t h => h.add (by omega) (nmK 0) (by decide) (by decide) e2 f2
 have H3 : Pk (∀ w1 X t, PfOwn w w1 X t (regK 4) [112] ([(1, nmK 0)], 1) 8 → Calls Tryz.prog 59 #[.pointer (some ⟨t, 0, none⟩), .string ⟨#[112]⟩, .string ⟨(nmK 1).toArray⟩] w1 fun e w' => e = .returned (.tuple #[.int .i64 2, .int .i64 0]) ∧ PfOwn w w' X t (regK 4) [112] ([(1, nmK 0), (2, nmK 1)], 2) 10) := Pk.mk fun w1 X t h => h.add (by omega) (nmK 1) (by decide) (by decide) e3 f3
 have H4 : Pk (∀ w1 X t, PfOwn w w1 X t (regK 4) [112] ([(1, nmK 0), (2, nmK 1)], 2) 10 → Calls Tryz.prog 62 #[.pointer (some ⟨t, 0, none⟩), .string ⟨#[112]⟩] w1 fun e w' => e = .returned (.tuple #[.agg #[.int .i64 1, .string ⟨(nmK 0).toArray⟩], .int .i64 0]) ∧ PfOwn w w' X t (regK 4) [112] ([(1, nmK 0), (2, nmK 1)], 1) 11) := Pk.mk fun w1 X t h => h.rol (by omega) (by decide) e4 f4
 have H5 : Pk (∀ w1 X t b, PfOwnB w w1 X t (regK 4) [112] ([(1, nmK 0), (2, nmK 1)], 1) 11 b 105 #[.int .i64 1, .string ⟨(nmK 0).toArray⟩] → Calls Tryz.prog 63 #[.pointer (some ⟨t, 0, none⟩), .string ⟨#[112]⟩, .int .i64 1] w1 fun e w' => e = .returned (.int .i64 152) ∧ PfOwnB w w' X t (regK 4) [112] ([(1, nmK 0), (2, nmK 1)], 1) 11 b 105 #[.int .i64 1, .string ⟨(nmK 0).toArray⟩]) := Pk.mk fun w1 X t b h => h.del 1 (by decide) e5 f5
 have H6 : Pk (∀ w1 X t b, PfOwnB w w1 X t (regK 4) [112] ([(1, nmK 0), (2, nmK 1)], 1) 11 b 105 #[.int .i64 1, .string ⟨(nmK 0).toArray⟩] → Calls Tryz.prog 64 #[.pointer (some ⟨t, 0, none⟩), .string ⟨#[112]⟩] w1 fun e w' => e = .returned (.tuple #[.int .i64 1, .int .i64 0]) ∧ Only NoB w w' ∧ Blk w' b 105 #[.int .i64 1, .string ⟨(nmK 0).toArray⟩]) := Pk.mk fun w1 X t b h => h.dol (by decide) e6
 clear e1 f1 e2 f2 e3 f3 e4 f4 e5 f5 e6
 go_enter Tryz.func65, Tryz.ntmps65
 go_wp2_with fail
 refine HT.out.mono ?_
 rintro e w1 ⟨t, F, X, x, G, rfl, hp, hr, hd, ho, hF, hG⟩
 have HW := Pk.mk (H1.out w1 X t ⟨F, _, hp, rfl, ho, hF⟩)
 clear hp hr hd ho hF hG
 go_wp2_with fail
 refine HW.out.mono ?_
 rintro e w2 ⟨rfl, h2⟩
 have HW := Pk.mk (H2.out w2 X t h2)
 clear h2
 go_wp2_with fail
 refine HW.out.mono ?_
 rintro e w3 ⟨rfl, h3⟩
 have HW := Pk.mk (H3.out w3 X t h3)
 clear h3
 go_wp2_with fail
 refine HW.out.mono ?_
 rintro e w4 ⟨rfl, h4⟩
 have HW := Pk.mk (H4.out w4 X t h4)
 clear h4
 go_wp2_with fail
 refine HW.out.mono ?_
 rintro e w5 ⟨rfl, h5⟩
 have h6 := h5.with #[.int .i64 1, .string ⟨(nmK 0).toArray⟩] 105
 obtain ⟨b6, hb6⟩ : ∃ b, b = w5.heap.size := ⟨_, rfl⟩
 obtain ⟨w6, hw6⟩ : ∃ w6, w6 = w5.alloc (.cells #[.int .i64 1, .string ⟨(nmK 0).toArray⟩] 105) := ⟨_, rfl⟩
 rw [← hw6, ← hb6] at h6
 have HW := Pk.mk (H5.out w6 X t b6 h6)
 have HW6 := Pk.mk hw6
 have HB6 := Pk.mk hb6
 clear h5 h6 hw6 hb6
 go_wp2_with fail
 rw [show w5.alloc (.cells #[.int .i64 1, .string ⟨(nmK 0).toArray⟩] 105) = w6 from HW6.out.symm, ← HB6.out]
 refine HW.out.mono ?_
 rintro e w7 ⟨rfl, h7⟩
 have HW := Pk.mk (H6.out w7 X t b6 h7)
 clear h7
 go_wp2_with fail
 refine HW.out.mono ?_
 rintro e w8 ⟨rfl, ho8, hb8⟩
 have x0 : w8.cell? ⟨b6, 0, none⟩ = some (.int .i64 1) := hb8.cell 0
 have x1 : w8.cell? ⟨b6, 1, none⟩ = some (.string ⟨(nmK 0).toArray⟩) := hb8.cell 1
 have HO8 := Pk.mk ho8
 clear ho8 hb8
 go_wp2_with fail
 go_ret
 exact ⟨rfl, HO8.out⟩
end
end Go.Proofs.YtpjfheadolphgaaGreat
namespace Go.Proofs.YtpjfheadolphgaaGreat
open Go.RowKit Go.Proofs
set_option maxRecDepth 20000
structure OpP where
 a : Int
 n : Int
 p : Str
 s : Str
structure OpPIn (w : World) (g off : Nat) (o : OpP) : Prop where
 a : w.cell? ⟨g, off, none⟩ = some (.int .i64 o.a)
 n : w.cell? ⟨g, off + 1, none⟩ = some (.int .i64 o.n)
 p : w.cell? ⟨g, off + 2, none⟩ = some (.string ⟨o.p.toArray⟩)
 s : w.cell? ⟨g, off + 3, none⟩ = some (.string ⟨o.s.toArray⟩)
def POps (w : World) (F : Nat → Prop) (v : Value) (l : List OpP) : Prop :=
 ∃ A c, v = .slice A l.length c ∧ l.length ≤ c ∧ ∀ i (h : i < l.length), ∃ g off, A = some ⟨g, off, none⟩ ∧ F g ∧ OpPIn w g (off + i * 4) l[i]
theorem POps.open_ {w : World} {F : Nat → Prop} {v : Value} {l : List OpP} (h : POps w F v l) {i : Nat} (hi : i < l.length) : ∃ g off c, v = .slice (some ⟨g, off, none⟩) l.length c ∧ l.length ≤ c ∧ F g ∧ OpPIn w g (off + i * 4) l[i] := by
 obtain ⟨A, c, hv, hc, h⟩ := h
 obtain ⟨g, off, hA, hg, ho⟩ := h i hi
 exact ⟨g, off, c, by rw [hv, hA], hc, hg, ho⟩
theorem POps.shape {w : World} {F : Nat → Prop} {v : Value} {l : List OpP} (h : POps w F v l) : ∃ A c, v = .slice A l.length c ∧ l.length ≤ c := by
 obtain ⟨A, c, hv, hc, _⟩ := h
 exact ⟨A, c, hv, hc⟩
theorem weights_all {H : Type} {P : Program} {e : TypeId} : ∀ {ds : List (DataW H)} {d : DataW H} {n : Nat}, d ∈ ds → n ∈ d.weights P e → n ∈ DataW.weightsAll P e ds
 | x :: ds, d, n, hd, hn => by
  simp only [DataW.weightsAll, List.mem_append]
  rcases List.mem_cons.1 hd with rfl | hd
  ·exact .inl hn
  ·exact .inr (weights_all hd hn)
open Go.ChangeShapes Go.WideShapes Go.Deep in
theorem arg_scp {H : Type} {enc : TypeId × Value → H} {P : Program} {w : World} {base : Nat} {spare : Nat → Bool} {held : Bool} {t e ti ts : TypeId} {fs : Array Field} (ht : P.underlying t = some (.slice e)) (he : P.underlying e = some (.struct fs)) (hone : oneCellFields P fs = true) (hC : P.cellsOf e = 4)
  (hf : fs.toList.map (·.type) = [ti, ti, ts, ts]) (hi : P.underlying ti = some (.int .i64)) (hs : P.underlying ts = some .string)
  {v : Value} {d : DataW H} {ps : List MemPlace} (h : DataW.Trod enc P w base spare held t v d ps) (hv : v.cells = #[v]) (hwt : ∀ n ∈ d.weights P t, n ≤ reachBytes) :
  ∃ l : List OpP, POps w (Old w) v l ∧ ∀ o ∈ l, o.p.length ≤ reachBytes ∧ o.s.length ≤ reachBytes := by
 obtain ⟨fuel, h⟩ := h
 rw [hv] at h
 rcases open_slice ht h with ⟨hcs, _⟩ | ⟨a, len, cap, m, n, D, Pl, hcs, hbb, hl, hm, hmm, hdd, hall⟩
 ·injection hcs with hcs
  subst hcs
  exact ⟨[], ⟨none, 0, rfl, Nat.le_refl _, fun i h => absurd h (Nat.not_lt_zero _)⟩, by simp⟩
 ·injection hcs with hcs
  subst hcs
  injection hdd with hdd
  have hwD : ∀ i, i < len → ∀ n ∈ (D i).weights P e, n ≤ reachBytes := fun i hi n hn => hwt n (by
   rw [hdd, DataW.weights, ht]
   exact List.mem_cons_of_mem _ (List.mem_append_left _ (weights_all (List.mem_map.2 ⟨i, List.mem_range.2 hi, rfl⟩) hn)))
  have hspot : 0 < len → ∃ g off, a = ⟨g, off, none⟩ := fun h0 => by
   obtain ⟨cs', h1, _⟩ := hall 0 (by rw [hmm]; split <;> omega)
   rw [hC] at h1
   obtain ⟨_, hcl, hat⟩ := World.cells?_some h1
   have h2 := hat 0 (by omega)
   rw [List.getElem?_eq_getElem (by omega)] at h2
   obtain ⟨g, off, spot⟩ := a
   cases spot with
   | none => exact ⟨g, off, rfl⟩
   | some s =>
    exfalso
    simp only [Nat.zero_mul, Addr.add_zero'] at h2
    unfold World.cell? at h2
    split at h2
    ·simp at h2
    ·cases h2
  obtain ⟨l, hll, hp⟩ := list_of (fun i (o : OpP) => (∃ g off, a = ⟨g, off, none⟩ ∧ Old w g ∧ OpPIn w g (off + i * 4) o) ∧ o.p.length ≤ reachBytes ∧ o.s.length ≤ reachBytes) len fun i hil => by
   have him : i < m := by rw [hmm]; split <;> omega
   obtain ⟨cs', h1, h2⟩ := hall i him
   rw [hC] at h1
   obtain ⟨ys, n', _, hys, _, hyl, hfd⟩ := DataW.trod_struct he h2
   injection hys with hys
   obtain ⟨_, hcl, hat⟩ := World.cells?_some h1
   have each : ∀ j (tj : TypeId), (fs.toList.map (·.type))[j]? = some tj → j < 4 → ∃ u y, w.cell? (a.add (i * 4 + j)) = some u ∧ DataW.trod enc P w base spare held n' tj [u] = some y ∧ ∀ n ∈ y.1.weights P tj, n ≤ reachBytes := by
    intro j tj hj hj5
    have hjt := hj
    obtain ⟨f, hfj, rfl⟩ := Option.map_eq_some_iff.1 (List.getElem?_map ▸ hj)
    rw [Array.getElem?_toList] at hfj
    obtain ⟨ho, hkk⟩ := hone_of hone j f hfj
    have hjl : j < fs.size := (Array.getElem?_eq_some_iff.1 hfj).1
    have h3 := hfd j f hfj
    rw [ho, hkk, List.drop_eq_getElem_cons (by omega), List.take_succ_cons, List.take_zero] at h3
    rw [List.getElem?_eq_getElem (by omega)] at h3
    refine ⟨_, _, ?_, h3, fun n hn => hwD i hil n ?_⟩
    case refine_2 =>
     rw [hys, DataW.weights, he]
     exact DataW.weights_mem_each (j := j) hjt (by rw [List.getElem?_map, List.getElem?_eq_getElem (by omega)]; rfl) n hn
    have := hat j hj5
    rw [add_add] at this
    rw [this, List.getElem?_eq_getElem (by omega)]
   rw [hf] at each
   obtain ⟨u0, y0, c0, t0, _⟩ := each 0 ti rfl (by omega)
   obtain ⟨u1, y1, c1, t1, _⟩ := each 1 ti rfl (by omega)
   obtain ⟨u2, y2, c2, t2, z2⟩ := each 2 ts rfl (by omega)
   obtain ⟨u3, y3, c3, t3, z3⟩ := each 3 ts rfl (by omega)
   obtain ⟨k0, e0, _, w0⟩ := DataW.trod_int hi t0
   obtain ⟨k1, e1, _, w1⟩ := DataW.trod_int hi t1
   obtain ⟨⟨⟨r⟩⟩, e2, d2, w2⟩ := DataW.trod_string hs t2
   obtain ⟨⟨⟨s⟩⟩, e3, d3, w3⟩ := DataW.trod_string hs t3
   injection e0 with e0; injection e1 with e1; injection e2 with e2; injection e3 with e3
   subst e0; subst e1; subst e2; subst e3
   have g2 : r.length ≤ reachBytes := z2 _ (by rw [d2]; simp [DataW.weights])
   have g3 : s.length ≤ reachBytes := z3 _ (by rw [d3]; simp [DataW.weights])
   obtain ⟨g, off, rfl⟩ := hspot (by omega)
   simp only [Addr.add_lit] at c0 c1 c2 c3
   have hg : Old w g := World.block_lt_of_cell? w _ c0
   exact ⟨⟨k0, k1, r, s⟩, ⟨g, off, rfl, hg, c0, by rw [Nat.add_assoc]; exact c1, by rw [Nat.add_assoc]; exact c2, by rw [Nat.add_assoc]; exact c3⟩, g2, g3⟩
  refine ⟨l, ⟨some a, cap, by rw [hll], by omega, fun i hi => ?_⟩, fun o ho => ?_⟩
  ·obtain ⟨⟨g, off, ha, hg, ho⟩, _⟩ := hp i hi
   exact ⟨g, off, by rw [ha], hg, ho⟩
  ·obtain ⟨i, hi, rfl⟩ := List.mem_iff_getElem.1 ho
   exact (hp i hi).2
end Go.Proofs.YtpjfheadolphgaaGreat
namespace Go.Proofs.YtpjfheadolphgaaGreat
open Go.RowKit Go.Proofs Go.Shelf
set_option maxRecDepth 20000
attribute [local go_sem] Oper.semAt_some
section
variable {w w' : World}
def fewP (l : List OpP) : Prop := l.length ≤ 60 ∧ ∀ o ∈ l, o.p.length + o.s.length ≤ 300
def FewPOut (l : List OpP) (w : World) (e : Ending) (w' : World) : Prop := ∃ b : Bool, e = .returned (.bool b) ∧ Only NoB w w' ∧ (b = true → fewP l)
set_option maxHeartbeats 2000000 in
theorem few25_any (w : World) (F : Nat → Prop) (v : Value) (l : List OpP) (h : POps w F v l) (hz : ∀ o ∈ l, o.p.length ≤ reachBytes ∧ o.s.length ≤ reachBytes) : Calls Tryz.prog 56 #[v] w (FewPOut l w) := by
 obtain ⟨A, c, rfl, _⟩ := h.shape
 have H := Pk.mk h
 have HZ := Pk.mk hz
 clear h hz
 by_cases h1 : ((l.length : Int) > 60)
 ·go_enter Tryz.func56, Tryz.ntmps56
  go_wp2_with fail
  go_ret
  exact ⟨false, rfl, Only.refl NoB w, fun h => (by cases h)⟩
 have e1 : decide ((l.length : Int) > 60) = false := by simpa using h1
 have hl : l.length ≤ 60 := by omega
 clear h1
 go_enter Tryz.func56, Tryz.ntmps56
 go_wp2_with fail
 go_loopw [3] (fun i wr => ∃ k : Nat, k ≤ l.length ∧ i = .int .i64 k ∧ Pk (Only NoB w wr ∧ ∀ j (hj : j < l.length), j < k → l[j].p.length + l[j].s.length ≤ 300)) (fun i _ => l.length - (intOf i).toNat)
 case atStart => exact ⟨0, Nat.zero_le _, rfl, Pk.mk ⟨Only.refl NoB w, fun _ _ h => absurd h (Nat.not_lt_zero _)⟩⟩
 case round =>
  obtain ⟨k, hk, rfl, HI⟩ := hrel
  by_cases hlt : k < l.length
  ·obtain ⟨g, off, cc, hve, _, hg, ho⟩ := H.out.open_ hlt
   injection hve with h1 h2 h3
   subst h1; subst h3
   have hwr : IntKind.i64.wrap ((k : Int) + 1) = ((k + 1 : Nat) : Int) := by rw [IntKind.wrap_i64]; omega
   obtain ⟨o, hoe⟩ : ∃ o, o = l[k] := ⟨_, rfl⟩
   rw [← hoe] at ho
   have hzo := HZ.out o (by rw [hoe]; exact List.getElem_mem hlt)
   have hon := HI.out.1
   have hs : wr.cell? ⟨g, off + k * 4 + 3, none⟩ = some (.string ⟨o.s.toArray⟩) := hon.cell ho.s id
   have hp : wr.cell? ⟨g, off + k * 4 + 2, none⟩ = some (.string ⟨o.p.toArray⟩) := hon.cell ho.p id
   have HOE := Pk.mk hoe
   obtain ⟨P, hP⟩ : ∃ P, P = o.p := ⟨_, rfl⟩
   obtain ⟨Q, hQ⟩ : ∃ Q, Q = o.s := ⟨_, rfl⟩
   rw [← hP] at hp
   rw [← hQ] at hs
   obtain ⟨ls, hls⟩ : ∃ ls, ls = P.length := ⟨_, rfl⟩
   obtain ⟨lt, hlt2⟩ : ∃ lt, lt = Q.length := ⟨_, rfl⟩
   have hls' : P.length = ls := hls.symm
   have hlt' : Q.length = lt := hlt2.symm
   have hsum : IntKind.i64.wrap ((ls : Int) + (lt : Int)) = (ls : Int) + (lt : Int) := by
    have h1 := hzo.1; have h2 := hzo.2
    rw [← hP, hls'] at h1
    rw [← hQ, hlt'] at h2
    have : reachBytes < 140737488355328 := reachBytes_lt
    rw [IntKind.wrap_i64]; omega
   have HPQ : Pk (o.p.length + o.s.length = ls + lt) := Pk.mk (by rw [← hP, ← hQ, hls', hlt'])
   clear ho hoe hls hlt2 hzo hon hP hQ
   go_upto_region 6 with fail
   refine hB _ 14 (fun w' => w'.cell? ⟨g, off + k * 4 + 3, none⟩ = some (.string ⟨Q.toArray⟩) ∧ w'.cell? ⟨g, off + k * 4 + 2, none⟩ = some (.string ⟨P.toArray⟩)) ⟨hs, hp⟩ (fun hHeld => ?_)
   refine hT 0 13 ?_
   refine hT 1 14 ?_
   refine hT 2 15 ?_
   refine hT 3 16 ?_
   refine hT 4 17 ?_
   refine hT 5 18 ?_
   refine hT 6 19 ?_
   refine hT 7 20 ?_
   refine hT 8 21 ?_
   refine hT 9 22 ?_
   refine hT 10 23 ?_
   refine hT 11 24 ?_
   refine hT 12 25 ?_
   refine hT 13 26 ?_
   refine wpAnyH_done (by kernel_rfl) ?_ _
   refine NoPanic.normal ?_
   by_cases hbig : (300 : Int) < (ls : Int) + (lt : Int)
   ·have e2 : decide ((300 : Int) < (ls : Int) + (lt : Int)) = true := by simpa using hbig
    rw [e2]
    clear e2 hwr
    go_wp2_with fail
    go_ret
    exact ⟨false, rfl, HI.out.1.drew, fun h => (by cases h)⟩
   ·have e2 : decide ((300 : Int) < (ls : Int) + (lt : Int)) = false := by simpa using hbig
    rw [e2]
    have HB : Pk (o.p.length + o.s.length ≤ 300) := Pk.mk (by rw [HPQ.out]; omega)
    clear e2 hbig hsum
    go_wp2_with fail
    refine ⟨⟨k + 1, by omega, rfl, Pk.mk ⟨HI.out.1.drew, fun j hj hjk => ?_⟩⟩, by simp [intOf]; omega⟩
    by_cases e : j = k
    ·subst e; rw [← HOE.out]; exact HB.out
    ·exact HI.out.2 j hj (by omega)
  ·obtain rfl : k = l.length := by omega
   go_wp2_with fail
   go_ret
   refine ⟨true, rfl, HI.out.1, fun _ => ⟨by omega, fun o ho => ?_⟩⟩
   obtain ⟨j, hj, rfl⟩ := List.getElem_of_mem ho
   exact HI.out.2 j hj hj
end
end Go.Proofs.YtpjfheadolphgaaGreat
namespace Go.Proofs.YtpjfheadolphgaaGreat
open Go.RowKit Go.Proofs Go.Shelf
set_option maxRecDepth 20000
section
variable {w w0 w' : World} {F F' : Nat → Prop} {X : XC} {t c c' b : Nat} {p a : Str} {regs : List Str} {G G' : Pfs} {ty : TypeId} {cs : Array Value}
structure PfO (w0 w : World) (X : XC) (t : Nat) (regs : List Str) (G : Pfs) (c : Nat) (F : Nat → Prop) : Prop where
 at_ : PfAt w F X t regs G c
 on : Only NoB w0 w
 low : ∀ k, F k → w0.heap.size ≤ k
structure Bq (w : World) (F : Nat → Prop) (b : Nat) (ty : TypeId) (cs : Array Value) : Prop where
 blk : Blk w b ty cs
 out : ¬ F b
theorem PfO.quit (h : PfO w0 w X t regs G c F) (ho : Only NoB w w') : PfO w0 w' X t regs G c F := ⟨h.at_.quit ho, h.on.trans ho, h.low⟩
theorem PfO.mono (h : PfO w0 w X t regs G c F) (hc : c ≤ c') (h3 : c' ≤ 390) : PfO w0 w X t regs G c' F := ⟨h.at_.mono hc h3, h.on, h.low⟩
theorem PfO.step (h : PfO w0 w X t regs G c F) (h2 : PfAt w' F' X t regs G' c') (ho : Only F w w') (hg : Grows F F' w) : PfO w0 w' X t regs G' c' F' :=
 ⟨h2, h.on.trans' ho fun k hk hf => by have := h.low k hf; omega, fun k hk => (hg k hk).elim (h.low k) fun h2 => by have := h.on.size; omega⟩
theorem Bq.quit (h : Bq w F b ty cs) (ho : Only NoB w w') : Bq w' F b ty cs := ⟨h.blk.only ho id, h.out⟩
theorem Bq.step (h : Bq w F b ty cs) (ho : Only F w w') (hg : Grows F F' w) : Bq w' F' b ty cs := ⟨h.blk.only ho h.out, fun hf => (hg b hf).elim h.out fun h2 => by have := h.blk.lt; omega⟩
theorem Bq.new (h : PfO w0 w X t regs G c F) (cs : Array Value) (ty : TypeId) : Bq (w.alloc (.cells cs ty)) F w.heap.size ty cs := ⟨Blk.new w _ _, fun hf => Nat.lt_irrefl _ (h.at_.lt _ hf)⟩
def PfC (w0 w : World) (X : XC) (t : Nat) (regs : List Str) (F : Nat → Prop) (v : Value) (G' : Pfs) (c' : Nat) (e : Ending) (w' : World) : Prop :=
 e = .returned v ∧ ∃ F', PfO w0 w' X t regs G' c' F' ∧ Only F w w' ∧ Grows F F' w
theorem PfO.of (h : PfO w0 w X t regs G c F) {v : Value} {e : Ending} (ho : PfOut w F X t regs v G' c' e w') : PfC w0 w X t regs F v G' c' e w' := by
 obtain ⟨he, F', h1, h2, h3⟩ := ho
 exact ⟨he, F', h.step h1 h2 h3, h2, h3⟩
theorem PfO.add (h : PfO w0 w X t regs G c F) (hc : c + 2 ≤ 390) (p a : Str) (hpl : p.length ≤ 140737488351232) (hal : a.length ≤ 140737488351232) :
  Calls Tryz.prog 59 #[.pointer (some ⟨t, 0, none⟩), .string ⟨p.toArray⟩, .string ⟨a.toArray⟩] w (PfC w0 w X t regs F (.tuple #[.int .i64 ((addA regs (G p) p a).1 : Nat), .int .i64 ((addA regs (G p) p a).2 : Nat)]) (updP G p (addS regs (G p) p a)) (c + 2)) :=
 (padd_ok h.at_ hc p a hpl hal).mono fun _ _ => h.of
theorem PfO.swi (h : PfO w0 w X t regs G c F) (hc : c + 1 ≤ 390) (p : Str) (n : Int) (hpl : p.length ≤ 140737488351232) :
  Calls Tryz.prog 60 #[.pointer (some ⟨t, 0, none⟩), .string ⟨p.toArray⟩, .int .i64 n] w (PfC w0 w X t regs F (.int .i64 (swiE (G p) p n : Nat)) (updP G p (swiS (G p) p n)) (c + 1)) :=
 (pswitch_ok h.at_ hc p n hpl).mono fun _ _ => h.of
theorem PfO.cur (h : PfO w0 w X t regs G c F) (p : Str) (hpl : p.length ≤ 140737488351232) :
  Calls Tryz.prog 61 #[.pointer (some ⟨t, 0, none⟩), .string ⟨p.toArray⟩] w (PfC w0 w X t regs F (.tuple #[.agg #[.int .i64 ((curG (G p) p).1 : Nat), .string ⟨(curG (G p) p).2.toArray⟩], .int .i64 (curE (G p) p : Nat)]) G c) :=
 (pcurrent_ok h.at_ p hpl).mono fun _ _ => h.of
theorem PfO.rol (h : PfO w0 w X t regs G c F) (hc : c + 1 ≤ 390) (p : Str) (hpl : p.length ≤ 140737488351232) :
  Calls Tryz.prog 62 #[.pointer (some ⟨t, 0, none⟩), .string ⟨p.toArray⟩] w (PfC w0 w X t regs F (.tuple #[.agg #[.int .i64 ((rolA (G p) p).1.1 : Nat), .string ⟨(rolA (G p) p).1.2.toArray⟩], .int .i64 ((rolA (G p) p).2 : Nat)]) (updP G p (rolS (G p) p)) (c + 1)) :=
 (prollback_ok h.at_ hc p hpl).mono fun _ _ => h.of
def lisE (p : Str) : Nat := if nameOk p then 0 else 1
def PfLs (w0 w : World) (X : XC) (t : Nat) (regs : List Str) (F : Nat → Prop) (l : List Gn) (en : Nat) (G : Pfs) (c : Nat) (e : Ending) (w' : World) : Prop :=
 ∃ A cp F', e = .returned (.tuple #[.slice A l.length cp, .int .i64 (en : Nat)]) ∧ PfO w0 w' X t regs G c F' ∧ Own w' (fun g => w.heap.size ≤ g ∧ ¬ F' g) 105 2 (.slice A l.length cp) l.length (genL l) ∧ Only F w w' ∧ Grows F F' w
theorem PfO.lis (h : PfO w0 w X t regs G c F) (p : Str) (hpl : p.length ≤ 140737488351232) :
  Calls Tryz.prog 58 #[.pointer (some ⟨t, 0, none⟩), .string ⟨p.toArray⟩] w (PfLs w0 w X t regs F (G p).1 (lisE p) G c) := by
 obtain ⟨h1, _, h3⟩ := h.at_.good p
 cases hp : nameOk p with
 | true =>
  obtain ⟨M, hk, hP⟩ := h.at_.ex
  refine (plist_ok hk hp (hP.gens p hp) h1.nm h1.len).mono ?_
  rintro e w1 ⟨v, F', rfl, g1, g2, g4, g5⟩
  obtain ⟨A, cp, rfl, _⟩ := g1.shape
  exact ⟨A, cp, F', by rw [lisE, hp]; rfl, h.step ⟨⟨M, g2, hP⟩, h.at_.few⟩ g4 g5, g1, g4, g5⟩
 | false =>
  refine (plist_bad hp hpl _).mono ?_
  rintro e w1 ⟨rfl, ho⟩
  rw [h3 hp]
  exact ⟨none, 0, F, by rw [lisE, hp]; rfl, h.quit ho, Own.nil _ _ _ _, ho.mono fun _ _ h => h.elim, Grows.refl _ _⟩
end
end Go.Proofs.YtpjfheadolphgaaGreat
namespace Go.Proofs.YtpjfheadolphgaaGreat
open Go.RowKit Go.Proofs Go.Shelf
set_option maxRecDepth 20000
def Cons (l : List Gn) : Prop := ∀ i (h : i < l.length), l[i].1 = i + 1
theorem Cons.rise {l : List Gn} (h : Cons l) : l.Pairwise fun a b => a.1 < b.1 := by
 rw [List.pairwise_iff_getElem]
 intro i j hi hj hij
 rw [h i hi, h j hj]; omega
theorem Cons.next {l : List Gn} (h : Cons l) : nextN l = l.length + 1 := by
 by_cases hn : l = []
 ·subst hn; rfl
 ·rw [nextN_at hn, h]
  have := List.length_pos_iff.2 hn
  omega
theorem Cons.add {l : List Gn} (h : Cons l) (a : Str) : Cons (l ++ [(l.length + 1, a)]) := by
 intro i hi
 rw [List.length_append, List.length_singleton] at hi
 by_cases e : i < l.length
 ·rw [List.getElem_append_left e]; exact h i e
 ·obtain rfl : i = l.length := by omega
  simp
theorem curG_in {l : List Gn} {cu : Nat} {a p : Str} (hp : nameOk p = true) (hr : l.Pairwise fun a b => a.1 < b.1) (hm : (cu, a) ∈ l) : curG (l, cu) p = (cu, a) := by
 obtain ⟨k, hk, he⟩ := List.getElem_of_mem hm
 have h1 : l[k].1 = cu := by rw [he]
 unfold curG
 rw [hp]
 simp only [if_true]
 rw [cur_at hk h1 hr, he]; rfl
theorem curE_in {s : List Gn × Nat} {p : Str} (hp : nameOk p = true) {g : Gn} (hm : g ∈ s.1) : curE s p = 0 := by
 unfold curE
 rw [hp, if_pos rfl, if_neg (fun h => by rw [h] at hm; cases hm)]
theorem mem_le {l : List Gn} (h : Cons l) {g : Gn} (hm : g ∈ l) : g.1 ≤ l.length := by
 obtain ⟨k, hk, he⟩ := List.getElem_of_mem hm
 rw [← he, h k hk]; omega
theorem rise_add {l : List Gn} {cu : Nat} {a p : Str} {regs : List Str} (hp : nameOk p = true) (hC : Cons l) (hcur : l ≠ [] → ∃ b, (cu, b) ∈ l) (he : (addA regs (l, cu) p a).2 = 0) :
  curG (addS regs (l, cu) p a) p = ((addA regs (l, cu) p a).1, a) ∧ curE (addS regs (l, cu) p a) p = 0 ∧ Cons (addS regs (l, cu) p a).1 ∧
  (((addA regs (l, cu) p a).1 = (curG (l, cu) p).1 ∧ (addA regs (l, cu) p a).1 ≤ l.length ∧ (addS regs (l, cu) p a).1.length = l.length) ∨ ((addA regs (l, cu) p a).1 ≠ (curG (l, cu) p).1 ∧ (addA regs (l, cu) p a).1 = l.length + 1 ∧ (addS regs (l, cu) p a).1.length = l.length + 1)) := by
 unfold addA at he ⊢
 unfold addS
 simp only [hp, if_true] at he ⊢
 by_cases hg : getE regs a = 0
 ·rw [if_pos hg, if_pos hg]
  by_cases hi : isCur (l, cu) a = true
  ·rw [if_pos hi, if_pos hi]
   have hm : (cu, a) ∈ l := by simpa [isCur] using hi
   have h1 := curG_in hp hC.rise hm
   exact ⟨h1, curE_in (s := (l, cu)) hp hm, hC, .inl ⟨by rw [h1], mem_le hC hm, rfl⟩⟩
  ·rw [if_neg hi, if_neg hi]
   have hC2 := hC.add a
   rw [hC.next]
   have hm : (l.length + 1, a) ∈ l ++ [(l.length + 1, a)] := by simp
   refine ⟨curG_in hp hC2.rise hm, curE_in (s := (l ++ [(l.length + 1, a)], l.length + 1)) hp hm, hC2, .inr ⟨?_, rfl, by simp⟩⟩
   have hle : (curG (l, cu) p).1 ≤ l.length := by
    by_cases hn : l = []
    ·subst hn
     have : curG ([], cu) p = (0, []) := by unfold curG; rw [hp]; rfl
     rw [this]; exact Nat.zero_le _
    ·obtain ⟨b, hb⟩ := hcur hn
     rw [curG_in hp hC.rise hb]
     exact mem_le hC hb
   show l.length + 1 ≠ _
   omega
 ·rw [if_neg hg] at he
  exact absurd he hg
theorem rise_no {s : List Gn × Nat} {a p : Str} {regs : List Str} (he : (addA regs s p a).2 ≠ 0) : addS regs s p a = s := by
 unfold addA at he
 unfold addS
 cases hp : nameOk p with
 | false => rfl
 | true =>
  simp only [hp, if_true] at he ⊢
  by_cases hg : getE regs a = 0
  ·rw [if_pos hg] at he
   split at he <;> exact absurd rfl he
  ·rw [if_neg hg]
theorem swi_fst (s : List Gn × Nat) (p : Str) (n : Int) : (swiS s p n).1 = s.1 := by
 unfold swiS
 split
 ·split <;> rfl
 ·rfl
theorem rol_fst (s : List Gn × Nat) (p : Str) : (rolS s p).1 = s.1 := by unfold rolS; split <;> rfl
end Go.Proofs.YtpjfheadolphgaaGreat
