import Derived.Test.YtdipjakblaeekaaGreatMa6
import Derived.OwnWalkIn
import Derived.Lib.ConvBytes
/- keys.Prefix of a chunk. -/
namespace Go.Proofs.YtdipjakblaeekaaGreat
open Go.RowKit Go.Proofs Go.Shelf
set_option maxRecDepth 20000
attribute [local go_sem] Oper.semAt_some
section
variable {w w' : World} {m : Nat}
def byteOf (x : Int) : UInt8 := UInt8.ofNat (x % 256).toNat
theorem byteOf_val (x : Int) : Value.int .u8 (x % 256) = Value.int .u8 (byteOf x).toNat := by
  unfold byteOf
  rw [UInt8.toNat_ofNat']
  congr 1; omega
def be3i (n : Int) : Str := [byteOf (n / 65536), byteOf (n / 256), byteOf n]
theorem be3i_cells (n : Int) : [Value.int .u8 (n / 65536 % 256), .int .u8 (n / 256 % 256), .int .u8 (n % 256)] = (be3i n).map fun b => Value.int .u8 b.toNat := by
  unfold be3i
  simp only [List.map_cons, List.map_nil, byteOf_val]
theorem be3i_nat {n : Nat} (hn : n ≤ 16777215) : be3i n = be3 n := by
  unfold be3i be3 byteOf
  congr 1
  · apply UInt8.toNat.inj; simp; omega
  · congr 1
    · apply UInt8.toNat.inj; simp; omega
    · congr 1; apply UInt8.toNat.inj; simp; omega
theorem number_any (n : Int) : Calls Tryz.prog 83 #[.int .i64 n] w fun e w' => e = .returned (.string ⟨(be3i n).toArray⟩) ∧ Only NoB w w' := by
  have hcv := conv_new (w := w) (n := 3) (be3i_cells n) rfl
  go_enter Tryz.func83, Tryz.ntmps83
  go_wp2_with fail
  go_ret
  exact ⟨rfl, (Only.refl NoB w).alloc _⟩
/-- What keys.Prefix answers of a file. -/
def preAns (n : Int) : Value := if 1 ≤ n ∧ n ≤ 16777215 then .tuple #[.string ⟨((99 : UInt8) :: be3i n).toArray⟩, .int .i64 0] else .tuple #[.string ⟨#[]⟩, .int .i64 1]
set_option maxHeartbeats 2000000 in
theorem prefix_chunk (n : Int) :
    Calls Tryz.prog 59 #[.agg #[.int .i64 3, .string ⟨#[]⟩, .string ⟨#[]⟩, .int .i64 n, .int .i64 0]] w fun e w' => e = .returned (preAns n) ∧ Only NoB w w' := by
  obtain ⟨W0, hW0⟩ : ∃ W0, W0 = w.alloc (.cells #[.int .i64 3, .string ⟨#[]⟩, .string ⟨#[]⟩, .int .i64 n, .int .i64 0] 92) := ⟨_, rfl⟩
  have ho0 : Only NoB w W0 := by rw [hW0]; exact (Only.refl NoB w).alloc _
  have c0 : Blk W0 w.heap.size 92 #[.int .i64 3, .string ⟨#[]⟩, .string ⟨#[]⟩, .int .i64 n, .int .i64 0] := by rw [hW0]; exact Blk.new w _ _
  have x0 := c0.cell 0
  have x3 := c0.cell 3
  have HO0 := Lib.hid ho0
  have HW0 := Lib.hid hW0
  have HK := Lib.hid (key_within (w := W0) (n := 3) (l := 1) (h := 10) ⟨by omega, by omega⟩)
  clear ho0 c0 hW0
  go_enter Tryz.func59, Tryz.ntmps59
  go_wp2_with fail
  rw [← HW0.out]
  refine HK.out.mono ?_
  rintro e w1 ⟨rfl, rfl⟩
  go_upto_region 6 with fail
  refine wp_region_noPanic ?_
  refine held_start (n := 8) (S := (fun w' => w'.cell? ⟨w.heap.size, 0, none⟩ = some (.int .i64 3) ∧ w'.cell? ⟨w.heap.size, 3, none⟩ = some (.int .i64 n))) (listed := #[false, false, false, false, false, false, false, false]) (by kernel_rfl) (by kernel_rfl) (by kernel_rfl) (⟨x0, x3⟩) (fun hHeld => ?_)
  obtain ⟨z0, hz0⟩ : ∃ z, z = W0.drew := ⟨_, rfl⟩
  rw [← hz0] at hHeld ⊢
  have ha : Only NoB W0 z0 := by rw [hz0]; exact (Only.refl NoB W0).drew
  clear hz0
  refine held_take (i := 0) (d := 14) (v := ?_) (listed' := #[true, false, false, false, false, false, false, false]) (by kernel_rfl) (by kernel_rfl) (by kernel_rfl) (by kernel_rfl) (by kernel_rfl) (by kernel_rfl) (fun _ _ _ _ _ h => h) (by assumption) ?_ ?_
  rotate_left
  · (intro o ho w' hSw; cases ho; (try dsimp only at hSw); go_simp; try with_reducible rfl)
  simp only [Act.put, List.setIfInBounds_toArray, List.set_cons_zero, List.set_cons_succ]
  refine held_take (i := 1) (d := 15) (v := ?_) (listed' := #[true, true, false, false, false, false, false, false]) (by kernel_rfl) (by kernel_rfl) (by kernel_rfl) (by kernel_rfl) (by kernel_rfl) (by kernel_rfl) (fun _ _ _ _ _ h => h) (by assumption) ?_ ?_
  rotate_left
  · (intro o ho w' hSw; cases ho; (try dsimp only at hSw); go_simp; try with_reducible rfl)
  simp only [Act.put, List.setIfInBounds_toArray, List.set_cons_zero, List.set_cons_succ]
  refine held_take (i := 3) (d := 17) (v := ?_) (listed' := #[true, true, false, true, false, false, false, false]) (by kernel_rfl) (by kernel_rfl) (by kernel_rfl) (by kernel_rfl) (by kernel_rfl) (by kernel_rfl) (fun _ _ _ _ _ h => h) (by assumption) ?_ ?_
  rotate_left
  · (intro o ho w' hSw; cases ho; (try dsimp only at hSw); go_simp; try with_reducible rfl)
  simp only [Act.put, List.setIfInBounds_toArray, List.set_cons_zero, List.set_cons_succ]
  refine held_take (i := 4) (d := 18) (v := ?_) (listed' := #[true, true, false, true, true, false, false, false]) (by kernel_rfl) (by kernel_rfl) (by kernel_rfl) (by kernel_rfl) (by kernel_rfl) (by kernel_rfl) (fun _ _ _ _ _ h => h) (by assumption) ?_ ?_
  rotate_left
  · (intro o ho w' hSw; cases ho; (try dsimp only at hSw); go_simp; try with_reducible rfl)
  simp only [Act.put, List.setIfInBounds_toArray, List.set_cons_zero, List.set_cons_succ]
  refine held_step (i := 2) (listed' := #[true, true, true, true, true, false, false, false]) (by kernel_rfl) (by kernel_rfl) (by kernel_rfl) (fun o ho K hK => ?_)
  cases ho
  go_simp
  refine (within_ok n 1 16777215).mono ?_
  rintro e zw ⟨rfl, rfl⟩
  refine hK.out _ _ (⟨(ha).cell x0 id, (ha).cell x3 id⟩) (fun hHeld => ?_)
  clear hK K
  try simp only [Act.put, List.setIfInBounds_toArray, List.set_cons_zero, List.set_cons_succ]
  refine held_step (i := 5) (listed' := #[true, true, true, true, true, true, false, false]) (by kernel_rfl) (by kernel_rfl) (by kernel_rfl) (fun o ho K hK => ?_)
  cases ho
  go_simp
  refine (number_any n).mono ?_
  rintro e zc ⟨rfl, hq⟩
  replace ha := ha.trans hq
  refine hK.out _ _ (⟨(ha).cell x0 id, (ha).cell x3 id⟩) (fun hHeld => ?_)
  clear hK K
  try simp only [Act.put, List.setIfInBounds_toArray, List.set_cons_zero, List.set_cons_succ]
  refine held_take (i := 6) (d := 4) (v := ?_) (listed' := #[true, true, true, true, true, true, true, false]) (by kernel_rfl) (by kernel_rfl) (by kernel_rfl) (by kernel_rfl) (by kernel_rfl) (by kernel_rfl) (fun _ _ _ _ _ h => h) (by assumption) ?_ ?_
  rotate_left
  · (intro o ho w' hSw; cases ho; (try dsimp only at hSw); go_simp; try with_reducible rfl)
  simp only [Act.put, List.setIfInBounds_toArray, List.set_cons_zero, List.set_cons_succ]
  refine held_take (i := 7) (d := 5) (v := ?_) (listed' := #[true, true, true, true, true, true, true, true]) (by kernel_rfl) (by kernel_rfl) (by kernel_rfl) (by kernel_rfl) (by kernel_rfl) (by kernel_rfl) (fun _ _ _ _ _ h => h) (by assumption) ?_ ?_
  rotate_left
  · (intro o ho w' hSw; cases ho; (try dsimp only at hSw); go_simp; try with_reducible rfl)
  simp only [Act.put, List.setIfInBounds_toArray, List.set_cons_zero, List.set_cons_succ]
  refine wpAnyH_done (by kernel_rfl) ?_ _
  refine NoPanic.normal ?_
  by_cases hv : 1 ≤ n ∧ n ≤ 16777215
  · have HV := Lib.hid hv
    obtain ⟨hv1, hv2⟩ := hv
    have hb := bytes_text (letterOf 3) (be3i n)
    have hl1 : (be3i n).length = 3 := rfl
    have hl3 : (letterOf 3).length = 1 := rfl
    have HA := Lib.hid ha
    clear ha
    go_wp2_with fail
    refine (letter_ok 3 (by omega) (by omega)).mono ?_
    rintro e z5 ⟨rfl, rfl⟩
    go_wp2_with fail
    refine bodyPost_ret (results_tmp2 rfl _ _ _) rfl ?_
    exact ⟨by rw [preAns, if_pos HV.out]; rfl, HO0.out.trans HA.out⟩
  · have HV := Lib.hid hv
    have HA := Lib.hid ha
    clear ha
    have hv2 : ¬ (1 ≤ n) ∨ ¬ (n ≤ 16777215) := by omega
    clear hv
    rcases hv2 with hv | hv
    · go_wp2_with fail
      refine bodyPost_ret (results_tmp2 rfl _ _ _) rfl ?_
      exact ⟨by rw [preAns, if_neg HV.out]; rfl, HO0.out.trans HA.out⟩
    · go_wp2_with fail
      refine bodyPost_ret (results_tmp2 rfl _ _ _) rfl ?_
      exact ⟨by rw [preAns, if_neg HV.out]; rfl, HO0.out.trans HA.out⟩
end
end Go.Proofs.YtdipjakblaeekaaGreat

/- walk.Drop. -/
namespace Go.Proofs.YtdipjakblaeekaaGreat
open Go.RowKit Go.Proofs Go.Shelf
set_option maxRecDepth 20000
attribute [local go_sem] Oper.semAt_some
section
variable {w w' : World} {F G : Nat → Prop} {X : XC} {t m n own c : Nat} {M : List KV} {key va pre s : Str}
/-- The loop has dropped j pairs. -/
def DropSt (w : World) (F : Nat → Prop) (X : XC) (t m n own : Nat) (pre : Str) (M : List KV) (c : Nat) (j : Nat) (wr : World) : Prop :=
  ∃ Mk, ∃ Fk, KvAt wr Fk X t m n own Mk c ∧ under pre Mk = (under pre M).drop j ∧ rid pre Mk = rid pre M ∧ j ≤ (under pre M).length ∧ Only F w wr ∧ Grows F Fk w
set_option maxHeartbeats 2000000 in
theorem wdrop_ok (h : KvAt w F X t m n own M c) (hpl : pre.length ≤ 1000) (hlen : (under pre M).length ≤ 1000000) :
    Calls Tryz.prog 53 #[.pointer (some ⟨t, 0, none⟩), .string ⟨pre.toArray⟩] w (KvOut w F X t m n own (.tuple #[.int .i64 ((under pre M).length : Nat), .int .i64 0]) (rid pre M) c) := by
  have HS : Hid (DropSt w F X t m n own pre M c 0 w) := Lib.hid ⟨M, F, h, rfl, rfl, Nat.zero_le _, Only.refl _ _, Grows.refl F w⟩
  have HP := Lib.hid hpl
  have HLEN := Lib.hid hlen
  clear h hpl hlen
  go_enter Tryz.func53, Tryz.ntmps53
  go_wp2_with fail
  go_loopg [6] ((under pre M).length) (fun g s6 wr => ∃ j : Nat, s6 = .int .i64 j ∧ g = (under pre M).length - j ∧ Hid (DropSt w F X t m n own pre M c j wr))
  case atStart => exact ⟨0, rfl, rfl, HS⟩
  case round =>
    clear HS
    obtain ⟨j, rfl, hgk, HS⟩ := hrel
    obtain ⟨Mk, Fk, hkv, hun, hri, hj, hon, hgr⟩ := HS.out
    have HF := Lib.hid (kv_first hkv HP.out)
    have HSRT := Lib.hid hkv.srt
    have HUN := Lib.hid hun
    have HRI := Lib.hid hri
    have HJ := Lib.hid hj
    have HON := Lib.hid hon
    have HGR := Lib.hid hgr
    have HGK := Lib.hid hgk
    clear hkv hun hri hj hon hgr hgk HS
    go_wp2_with fail
    refine HF.out.mono ?_
    rintro e2 w2 ⟨rfl, F2, hk2, ho2, hg2⟩
    have hon2 : Only F w w2 := HON.out.trans' ho2 fun k hk hf => (HGR.out k hf).elim id fun h => by omega
    have hgr2 : Grows F F2 w := fun k hk => (hg2 k hk).elim (fun h => HGR.out k h) fun h => .inr (Nat.le_trans HON.out.size h)
    have HON2 := Lib.hid hon2
    have HGR2 := Lib.hid hgr2
    have HK2 := Lib.hid hk2
    clear ho2 hg2 hon2 hgr2 hk2
    cases hu : under pre Mk with
    | nil =>
      have hend : (under pre M).length = j := by
        have := congrArg List.length (HUN.out.symm.trans hu)
        have h2 := HJ.out
        rw [List.length_drop] at this
        simp at this; omega
      have hM := rid_of_under hu
      have hal : Only NoB w2 (w2.alloc (.cells #[.string ⟨#[]⟩, .string ⟨#[]⟩] 52)) := (Only.refl NoB w2).alloc _
      have HE : Hid (KvOut w F X t m n own (.tuple #[.int .i64 ((under pre M).length : Nat), .int .i64 0]) (rid pre M) c (.returned (.tuple #[.int .i64 (j : Nat), .int .i64 0])) (w2.alloc (.cells #[.string ⟨#[]⟩, .string ⟨#[]⟩] 52))) := Lib.hid ⟨by rw [hend], F2, by rw [← HRI.out, hM]; exact HK2.out.quit hal, HON2.out.trans' hal fun k hk hf => hf.elim, HGR2.out⟩
      clear hu hend hM hal
      simp only [List.head?_nil, Option.isSome_none]
      unfold pairO
      go_wp2_with fail
      go_ret2
      exact HE.out
    | cons x L =>
      obtain ⟨h1, h2, h3⟩ := under_del HSRT.out hu
      have hL : L = (under pre M).drop (j + 1) := by rw [← List.drop_drop, ← HUN.out, hu]; rfl
      have hjl : j < (under pre M).length := by
        have := congrArg List.length (HUN.out.symm.trans hu)
        have h2 := HJ.out
        rw [List.length_drop] at this
        simp at this; omega
      have HD := Lib.hid (kv_del (key := x.1) (HK2.out.quit ((Only.refl NoB w2).alloc (.cells #[.string ⟨x.1.toArray⟩, .string ⟨x.2.toArray⟩] 52))))
      have HL1 := Lib.hid (h1.trans hL)
      have HL2 := Lib.hid (h2.trans HRI.out)
      have HJL := Lib.hid hjl
      have hw1 : IntKind.i64.wrap ((j : Int) + 1) = ((j + 1 : Nat) : Int) := by
        have := HLEN.out
        rw [IntKind.wrap_i64]; omega
      have HW1 := Lib.hid hw1
      clear hu h1 h2 h3 hL hjl hw1
      simp only [List.head?_cons, Option.isSome_some]
      unfold pairO strV
      go_wp2_with fail
      refine HD.out.mono ?_
      rintro e3 w3 ⟨rfl, F3, hk3, ho3, hg3⟩
      have HST : Hid (DropSt w F X t m n own pre M c (j + 1) w3) := Lib.hid ⟨_, F3, hk3, HL1.out, HL2.out, HJL.out, (HON2.out.trans' ((Only.refl NoB w2).alloc _) fun k hk hf => hf.elim).trans' ho3 fun k hk hf => (HGR2.out k hf).elim id fun h => by omega, fun k hk => (hg3 k hk).elim (fun h => HGR2.out k h) fun h => .inr (by have := HON2.out.size; simp at h; omega)⟩
      have hlt : (under pre M).length - (j + 1) < gk := by have := HGK.out; have := HJL.out; omega
      have hw1 := HW1.out
      clear hk3 ho3 hg3
      go_wp2_with fail
      go_roundg ((under pre M).length - (j + 1))
      case measure => exact hlt
      case rel => exact ⟨j + 1, rfl, rfl, HST⟩
end
end Go.Proofs.YtdipjakblaeekaaGreat

/- walk.Count. -/
namespace Go.Proofs.YtdipjakblaeekaaGreat
open Go.RowKit Go.Proofs Go.Shelf
set_option maxRecDepth 20000
attribute [local go_sem] Oper.semAt_some
section
variable {w w' : World} {F G : Nat → Prop} {X : XC} {t m n own c : Nat} {D : PD} {M : List KV} {key pre s : Str}
def CountI (w : World) (F : Nat → Prop) (B k : Nat) (W : World) (G : Nat → Prop) : Prop :=
  Mine w.heap.size 3 #[.int .i64 k] W G ∧ Mine (w.heap.size + 1) 23 #[.int .i64 0] W G ∧ Since w F W G ∧ Big B W G
theorem countI_abid {F : Nat → Prop} {B B' k : Nat} (hB : w.heap.size ≤ B') : Abid B' (CountI w F B k) := mine_abid.and (mine_abid.and ((since_abid hB).and big_abid))
theorem countI_stay {T : World → (Nat → Prop) → Prop} {F : Nat → Prop} {B k : Nat} : Stay T (CountI w F B k) := mine_stay.and (mine_stay.and (since_stay.and big_stay))
set_option maxHeartbeats 2000000 in
theorem count_ok (h : TxAt w F X t D) (hb : Bt D M c) (hkl : ∀ x ∈ M, x.1.length ≤ 1000) (hpl : pre.length ≤ 1000) (hlen : (under pre M).length ≤ 1000000) :
    Calls Tryz.prog 22 #[.pointer (some ⟨t, 0, none⟩), .string ⟨pre.toArray⟩] w (fun e w' => ∃ F', e = .returned (.tuple #[.int .i64 ((under pre M).length : Nat), .int .i64 0]) ∧ TxAt w' F' X t D ∧ Only F w w' ∧ Grows F F' w) := by
  refine (callsIn_wide (n := 6)).1 ?_
  refine callsIn_of_wp_marks Tryz.func22 rfl trivial ?_ rfl
  refine wpIn_wide.2 ?_
  simp only [Tryz.ntmps22, List.size_toArray, List.length_cons, List.length_nil, Nat.reduceAdd, Nat.reduceSub, Array.replicate_succ, Array.replicate_zero, List.push_toArray, List.append_toArray, List.nil_append, List.cons_append]
  go_wp2_with fail
  refine (pairs_ok _).mono ?_
  rintro e w1 ⟨rfl, rfl⟩
  go_wp2_with fail
  obtain ⟨R, hR⟩ : ∃ R, R = w.heap.size := ⟨_, rfl⟩
  obtain ⟨W0, hW0⟩ : ∃ W0, W0 = ((((w.alloc (.cells #[.int .i64 0] 3)).alloc (.cells #[.int .i64 0] 23)).alloc (.cells #[.pointer (some ⟨t, 0, none⟩)] 29)).alloc (.cells #[.string ⟨pre.toArray⟩] 9)).alloc (.cells #[.pointer (some ⟨w.heap.size + 1, 0, none⟩)] 97) := ⟨_, rfl⟩
  rw [← hW0]
  have hWa : W0 = allocs w [(#[.int .i64 0], 3), (#[.int .i64 0], 23), (#[.pointer (some ⟨t, 0, none⟩)], 29), (#[.string ⟨pre.toArray⟩], 9), (#[.pointer (some ⟨w.heap.size + 1, 0, none⟩)], 97)] := hW0
  have hs0 : W0.heap.size = w.heap.size + 5 := by rw [hWa, allocs_size]; rfl
  have ho0 : Only NoB w W0 := by rw [hWa]; exact allocs_only _ _
  have b0 : Blk W0 w.heap.size 3 #[.int .i64 0] := blk_of hWa 0 rfl
  have b1 : Blk W0 (w.heap.size + 1) 23 #[.int .i64 0] := blk_of hWa 1 rfl
  have b4 : Blk W0 (w.heap.size + 1 + 1) 29 #[.pointer (some ⟨t, 0, none⟩)] := blk_of hWa 2 rfl
  have b5 : Blk W0 (w.heap.size + 1 + 1 + 1) 9 #[.string ⟨pre.toArray⟩] := blk_of hWa 3 rfl
  have b6 : Blk W0 (w.heap.size + 1 + 1 + 1 + 1) 97 #[.pointer (some ⟨w.heap.size + 1, 0, none⟩)] := blk_of hWa 4 rfl
  have hF : ∀ k, w.heap.size ≤ k → ¬ F k := fun k hk hf => by have := h.lt k hf; omega
  have hT0 : PairsT X t D pre (w.heap.size + 1 + 1 + 1) (w.heap.size + 1 + 1) (w.heap.size + 1 + 1 + 1 + 1) (w.heap.size + 1) W0 F := ⟨h.quit ho0, ⟨b5, hF _ (by omega)⟩, ⟨b4, hF _ (by omega)⟩, ⟨b6, hF _ (by omega)⟩⟩
  have hi0 : CountI w F W0.heap.size 0 W0 F := ⟨⟨b0, hF _ (Nat.le_refl _)⟩, ⟨b1, hF _ (by omega)⟩, ⟨ho0.mono fun _ _ h => h.elim, Grows.refl F w⟩, Nat.le_refl _⟩
  have HLEN := Lib.hid hlen
  clear hW0 hWa b0 b1 b4 b5 b6 hlen
  refine (wpIn_wide (n := 6)).1 ?_
  refine range_tx (n := 6) (gf := 85) (N := (under pre M).length) (encs := pairA (under pre M)) (T := PairsT X t D pre (w.heap.size + 1 + 1 + 1) (w.heap.size + 1 + 1) (w.heap.size + 1 + 1 + 1 + 1) (w.heap.size + 1)) pairsT_abid (fun W G hT => hT.1.lt) rfl (enters_of Tryz.func85 (by kernel_rfl) rfl) (pairs_iter hb hkl hpl 5 (by omega)) (fun _ => rfl)
    (CountI w F W0.heap.size) (fun k => countI_abid (by omega)) (fun k => countI_stay) (fun _ _ _ _ => False) (fun _ _ _ _ _ _ h _ _ => h)
    hT0 hi0
    (fun k a' W => ∃ a11, a' = Act.mk #[.pointer (some ⟨t, 0, none⟩), .string ⟨pre.toArray⟩, undef, undef, .int .i64 0, .int .i64 0, .pointer (some ⟨w.heap.size, 0, none⟩), .pointer (some ⟨w.heap.size + 1, 0, none⟩),
      .pointer (some ⟨t, 0, none⟩), .string ⟨pre.toArray⟩, .func (.func 85) #[] #[.pointer (some ⟨w.heap.size + 1 + 1 + 1, 0, none⟩), .pointer (some ⟨w.heap.size + 1 + 1, 0, none⟩), .pointer (some ⟨w.heap.size + 1 + 1 + 1 + 1, 0, none⟩)], a11, undef, undef, undef, undef, undef, undef] [])
    ?hAx ?assign ?body ?done ?stop
  case hAx =>
    rintro k a' W W' _ S h1 hS ho
    exact h1
  case assign =>
    intro l k W G K hk hT hI hK
    have HK := Lib.hid hK
    have HT := Lib.hid hT
    have HI := Lib.hid hI
    clear hK hT hI
    unfold pairA
    gi_wp2
    exact HK.out _ _ (Only.refl NoB W) HT.out HI.out ⟨.agg #[.string ⟨(keyAt (under pre M) k).toArray⟩, .string ⟨(valAt (under pre M) k).toArray⟩], by simp⟩
  case body =>
    rintro l k a' W G hk hl hT ⟨i0, i1, isn, ibg⟩ ⟨a11, rfl⟩
    have x0 := i0.1.cell 0
    have x1 := i0.1.frozen 0
    have HK := Lib.hid hk
    have HT := Lib.hid hT
    have H0 := Lib.hid i0
    have H1 := Lib.hid i1
    have HSN := Lib.hid isn
    have HBG := Lib.hid ibg
    have HL := Lib.hid hl
    have hw1 : IntKind.i64.wrap ((k : Int) + 1) = (k : Int) + 1 := by
      have := HLEN.out
      rw [IntKind.wrap_i64]; omega
    clear hk hl hT i0 i1 isn ibg
    gi_wp2_with fail
    have a1 := H0.out.1.set_ 0 (.int .i64 ((k : Int) + 1))
    have hst : Only (fun q => q = w.heap.size) W (W.setCell ⟨w.heap.size, 0, none⟩ (.int .i64 ((k : Int) + 1))) := (Only.refl (fun q => q = w.heap.size) W).setCell (p := ⟨w.heap.size, 0, none⟩) (.inl rfl) _
    have hG : ∀ k, G k → ¬ (k = w.heap.size) := fun k hk h => by subst h; exact H0.out.2 hk
    refine ⟨fun q hq => hst.block q (HT.out.1.lt q hq) (hG q hq), fun q o hq ho _ => (hst.block q (Array.getElem?_eq_some_iff.1 ho).1 (by show ¬ (q = w.heap.size); omega)).trans ho, HT.out.beside hst hG ⟨by omega, by omega, by omega⟩, ⟨a1, H0.out.2⟩, ⟨H1.out.1.only hst (by show ¬ (w.heap.size + 1 = w.heap.size); omega), H1.out.2⟩, ⟨HSN.out.1.trans' hst fun k hk h => by have h : k = w.heap.size := h; omega, HSN.out.2⟩, Nat.le_trans HBG.out hst.size⟩
  case done =>
    rintro d W G hd hnd hT ⟨i0, i1, isn, ibg⟩ hK
    have HT := Lib.hid hT
    have HSN := Lib.hid isn
    have HK := Lib.hid hK
    have HND := Lib.hid hnd
    have u0 := i0.1.cell 0
    have u1 := i1.1.cell 0
    clear i0 i1 isn ibg hK hT hnd
    go_wp2_with fail
    refine ⟨by simp, .inl ⟨_, _, rfl, run_takeDeferred HK.out, ?_⟩⟩
    have hp := put_only W d (.deferred none)
    refine ⟨_, results_tmp2 rfl _ _ _, G, rfl, ?_, ?_, HSN.out.2⟩
    · exact HT.out.1.only hp fun k hk he => HND.out (he ▸ hk)
    · exact HSN.out.1.trans' hp fun k hk he => by have he : k = d := he; omega
  case stop =>
    rintro d c k W G hd hk hnd hT hx hK
    exact hx.elim
theorem kv_count (h : KvAt w F X t m n own M c) (hpl : pre.length ≤ 1000) (hlen : (under pre M).length ≤ 1000000) :
    Calls Tryz.prog 22 #[.pointer (some ⟨t, 0, none⟩), .string ⟨pre.toArray⟩] w (KvOut w F X t m n own (.tuple #[.int .i64 ((under pre M).length : Nat), .int .i64 0]) M c) := by
  obtain ⟨D, ht, hb, rfl, rfl, rfl, hkl⟩ := h
  refine (count_ok ht hb hkl hpl hlen).mono ?_
  rintro e w1 ⟨F', rfl, h1, h6, h7⟩
  exact ⟨rfl, F', ⟨D, h1, hb, rfl, rfl, rfl, hkl⟩, h6, h7⟩
end
end Go.Proofs.YtdipjakblaeekaaGreat

/- walk.All. -/
namespace Go.Proofs.YtdipjakblaeekaaGreat
open Go.RowKit Go.Proofs Go.Shelf
set_option maxRecDepth 20000
theorem wpListIn_app {P : Program} {w : World} {Fc : Fence} {nF : Nat} {ops : Array Oper} {rest : List Oper} {o : Oper} {a : Act} {Q : Exit → Act → World → Prop} (hgd : o.guard = none) (s x : Operand) (t : TypeId)
    (ho : o.op = .call { callee := .builtin .append, args := #[s, x], argTypes := #[t, t] }) {e : TypeId} {z : Value} {size bytes : Nat} (ht : P.underlying t = some (.slice e)) (he : Elt P e z size bytes)
    {F G : Nat → Prop} {v : Value} {n : Nat} {xs : List Value} (hs : a.eval s = v) {sv : Value} {m : Nat} {news : List Value} (hx : a.eval x = sv) (hown : Own w F e size v n xs) (hr : Rd w G size sv m news)
    (h1 : ∀ u ∈ news, u.oneCell' = true) (hb : (n + m) * bytes ≤ 140737488355328)
    (hK : ∀ v' w', App w F e size v n m xs news v' w' → wpListIn Fc nF P ops Q rest (a.put o.dst v') w') : wpListIn Fc nF P ops Q (o :: rest) a w := by
  subst hs; subst hx
  refine wpListIn_plain hgd fun K hK' => ?_
  obtain ⟨v', w', hrun, h2⟩ := run_append_rd (ty := o.type) ht he hown hr h1 hb
  unfold Oper.wpIn
  refine ⟨by simp [Oper.about, ho, resolve, Target.leads, Sem.run_pure], ?_⟩
  rw [Oper.semAt_plain Fc _ _ (by rw [ho]; intro c hc'; cases hc')]
  simp only [execOp, ho, resolve, invoke, builtin, Sem.run_bind, Sem.run_pure, Result.andThen_ok, List.map_toArray, List.map_cons, List.map_nil, hrun]
  exact hK' _ _ (hK v' w' h2)
theorem results_cell_cell {P : Program} {fn : Func} {u q : Tmp} {ty2 ty3 : TypeId} (h : fn.results = #[.cell u ty2, .cell q ty3]) (tmps : Array Value) (w : World) (g2 g3 : Nat) (v2 v3 : Value)
    (hp2 : tmps.getD u undef = .pointer (some ⟨g2, 0, none⟩)) (hg2 : w.cell? ⟨g2, 0, none⟩ = some v2) (hu2 : (match P.underlying ty2 with | some (.struct _) | some (.array _ _) | none => true | _ => false) = false)
    (hp3 : tmps.getD q undef = .pointer (some ⟨g3, 0, none⟩)) (hg3 : w.cell? ⟨g3, 0, none⟩ = some v3) (hu3 : (match P.underlying ty3 with | some (.struct _) | some (.array _ _) | none => true | _ => false) = false) :
    (results fn tmps).run P w = .ok (.tuple #[v2, v3]) w := by
  have hp2' : tmps[u]?.getD undef = .pointer (some ⟨g2, 0, none⟩) := by simpa using hp2
  have hp3' : tmps[q]?.getD undef = .pointer (some ⟨g3, 0, none⟩) := by simpa using hp3
  have h2 := run_loadVar_one (P := P) (ty := ty2) hg2 hu2
  have h3 := run_loadVar_one (P := P) (ty := ty3) hg3 hu3
  simp [results, h, hp2', hp3', asAddr, Result.andThen, h2, h3]
/-- A slice of the caller's, in a cell of his. -/
def MineS (B b : Nat) (ty e : TypeId) (size n : Nat) (xs : List Value) (W : World) (G : Nat → Prop) : Prop := ∃ v, Mine b ty #[v] W G ∧ Own W (fun g => B ≤ g ∧ ¬ G g) e size v n xs
theorem own_cells {w : World} {F : Nat → Prop} {e : TypeId} {size n g : Nat} {v : Value} {xs : List Value} (h : Own w F e size v n xs) (hg : v.ownBlock = some g) : ∃ cur, w.heap[g]? = some (.cells cur e (0, 0)) := by
  rcases h.1.2 with ⟨rfl, _⟩ | ⟨g', cap, cur, rfl, _, hh, _⟩
  · cases hg
  · injection hg with hg
    subst hg
    exact ⟨cur, hh⟩
theorem mineS_abid {B B' b : Nat} {ty e : TypeId} {size n : Nat} {xs : List Value} : Abid B' (MineS B b ty e size n xs) := fun W W' G S hi hS ho => by
  obtain ⟨v, h1, h2⟩ := hi
  refine ⟨v, mine_abid W W' G S h1 hS ho, h2.keep fun k hk => ?_⟩
  obtain ⟨cur, hc⟩ := own_cells h2 hk
  refine ho.block k (h2.lt hk) fun hs => ?_
  obtain ⟨_, _, o, h3, h4⟩ := hS k hs
  rw [hc] at h3
  injection h3 with h3
  subst h3
  cases h4
theorem mineS_stay {T : World → (Nat → Prop) → Prop} {B b : Nat} {ty e : TypeId} {size n : Nat} {xs : List Value} : Stay T (MineS B b ty e size n xs) := fun W G W2 G2 hT hi hT2 ho hg => by
  obtain ⟨v, h1, h2⟩ := hi
  refine ⟨v, mine_stay W G W2 G2 hT h1 hT2 ho hg, ?_⟩
  have h3 := h2.keep (w' := W2) fun k hk => ho.block k (h2.lt hk) (h2.2 k hk).2
  exact ⟨h3.1, fun g hgv => ⟨(h2.2 g hgv).1, fun hk => (hg g hk).elim (h2.2 g hgv).2 fun hl => by have := h2.lt hgv; omega⟩⟩
attribute [local go_sem] Oper.semAt_some
section
variable {w w' : World} {F G : Nat → Prop} {X : XC} {t m n own c most : Nat} {D : PD} {M : List KV} {key pre s : Str}
def AllI (w : World) (F : Nat → Prop) (most : Nat) (L : List KV) (B k : Nat) (W : World) (G : Nat → Prop) : Prop :=
  k ≤ most ∧ Mine w.heap.size 3 #[.int .i64 most] W G ∧ Mine (w.heap.size + 1) 47 #[.slice none 0 0] W G ∧ Mine (w.heap.size + 1 + 1) 23 #[.int .i64 0] W G ∧ MineS B (w.heap.size + 1 + 1 + 1) 47 52 2 k (pairL (L.take k)) W G ∧ Mine (w.heap.size + 1 + 1 + 1 + 1) 23 #[.int .i64 0] W G ∧ Since w F W G ∧ Big B W G
theorem allI_abid {F : Nat → Prop} {L : List KV} {B B' k : Nat} (hB : w.heap.size ≤ B') : Abid B' (AllI w F most L B k) := (Abid.pure _).and (mine_abid.and (mine_abid.and (mine_abid.and (mineS_abid.and (mine_abid.and ((since_abid hB).and big_abid))))))
theorem allI_stay {T : World → (Nat → Prop) → Prop} {L : List KV} {F : Nat → Prop} {B k : Nat} : Stay T (AllI w F most L B k) := (Stay.pure _).and (mine_stay.and (mine_stay.and (mine_stay.and (mineS_stay.and (mine_stay.and (since_stay.and big_stay))))))
def AllX (w : World) (F : Nat → Prop) (most : Nat) (L : List KV) (c : Code) (W : World) (G : Nat → Prop) : Prop :=
  (c = .ret ∧ most < L.length) ∧ Mine (w.heap.size + 1) 47 #[.slice none 0 0] W G ∧ Mine (w.heap.size + 1 + 1) 23 #[.int .i64 2] W G ∧ Since w F W G
theorem allX_abid {F : Nat → Prop} {B' : Nat} {L : List KV} {c : Code} (hB : w.heap.size ≤ B') : Abid B' (AllX w F most L c) := (Abid.pure _).and (mine_abid.and (mine_abid.and (since_abid hB)))
/-- What walk.All answers. -/
def AllAns (B : Nat) (F' : Nat → Prop) (most : Nat) (L : List KV) (e : Ending) (w' : World) : Prop :=
  (L.length ≤ most ∧ ∃ v, e = .returned (.tuple #[v, .int .i64 0]) ∧ Own w' (fun g => B ≤ g ∧ ¬ F' g) 52 2 v L.length (pairL L)) ∨ (most < L.length ∧ e = .returned (.tuple #[.slice none 0 0, .int .i64 2]))
set_option maxHeartbeats 2000000 in
theorem all_ok (h : TxAt w F X t D) (hb : Bt D M c) (hkl : ∀ x ∈ M, x.1.length ≤ 1000) (hpl : pre.length ≤ 1000) (hlen : (under pre M).length ≤ 1000000) :
    Calls Tryz.prog 23 #[.pointer (some ⟨t, 0, none⟩), .string ⟨pre.toArray⟩, .int .i64 most] w (fun e w' => ∃ F', AllAns w.heap.size F' most (under pre M) e w' ∧ TxAt w' F' X t D ∧ Only F w w' ∧ Grows F F' w) := by
  refine (callsIn_wide (n := 6)).1 ?_
  refine callsIn_of_wp_marks Tryz.func23 rfl trivial ?_ rfl
  refine wpIn_wide.2 ?_
  simp only [Tryz.ntmps23, List.size_toArray, List.length_cons, List.length_nil, Nat.reduceAdd, Nat.reduceSub, Array.replicate_succ, Array.replicate_zero, List.push_toArray, List.append_toArray, List.nil_append, List.cons_append]
  go_wp2_with fail
  refine (pairs_ok _).mono ?_
  rintro e w1 ⟨rfl, rfl⟩
  go_wp2_with fail
  obtain ⟨R, hR⟩ : ∃ R, R = w.heap.size := ⟨_, rfl⟩
  obtain ⟨W0, hW0⟩ : ∃ W0, W0 = (((((((w.alloc (.cells #[.int .i64 most] 3)).alloc (.cells #[.slice none 0 0] 47)).alloc (.cells #[.int .i64 0] 23)).alloc (.cells #[.slice none 0 0] 47)).alloc (.cells #[.int .i64 0] 23)).alloc (.cells #[.pointer (some ⟨t, 0, none⟩)] 29)).alloc (.cells #[.string ⟨pre.toArray⟩] 9)).alloc (.cells #[.pointer (some ⟨w.heap.size + 1 + 1 + 1 + 1, 0, none⟩)] 97) := ⟨_, rfl⟩
  rw [← hW0]
  have hWa : W0 = allocs w [(#[.int .i64 most], 3), (#[.slice none 0 0], 47), (#[.int .i64 0], 23), (#[.slice none 0 0], 47), (#[.int .i64 0], 23), (#[.pointer (some ⟨t, 0, none⟩)], 29), (#[.string ⟨pre.toArray⟩], 9), (#[.pointer (some ⟨w.heap.size + 1 + 1 + 1 + 1, 0, none⟩)], 97)] := hW0
  have hs0 : W0.heap.size = w.heap.size + 8 := by rw [hWa, allocs_size]; rfl
  have ho0 : Only NoB w W0 := by rw [hWa]; exact allocs_only _ _
  have b0 : Blk W0 w.heap.size 3 #[.int .i64 most] := blk_of hWa 0 rfl
  have b1 : Blk W0 (w.heap.size + 1) 47 #[.slice none 0 0] := blk_of hWa 1 rfl
  have b2 : Blk W0 (w.heap.size + 1 + 1) 23 #[.int .i64 0] := blk_of hWa 2 rfl
  have b3 : Blk W0 (w.heap.size + 1 + 1 + 1) 47 #[.slice none 0 0] := blk_of hWa 3 rfl
  have b4 : Blk W0 (w.heap.size + 1 + 1 + 1 + 1) 23 #[.int .i64 0] := blk_of hWa 4 rfl
  have b5 : Blk W0 (w.heap.size + 1 + 1 + 1 + 1 + 1) 29 #[.pointer (some ⟨t, 0, none⟩)] := blk_of hWa 5 rfl
  have b6 : Blk W0 (w.heap.size + 1 + 1 + 1 + 1 + 1 + 1) 9 #[.string ⟨pre.toArray⟩] := blk_of hWa 6 rfl
  have b7 : Blk W0 (w.heap.size + 1 + 1 + 1 + 1 + 1 + 1 + 1) 97 #[.pointer (some ⟨w.heap.size + 1 + 1 + 1 + 1, 0, none⟩)] := blk_of hWa 7 rfl
  have hF : ∀ k, w.heap.size ≤ k → ¬ F k := fun k hk hf => by have := h.lt k hf; omega
  have hT0 : PairsT X t D pre (w.heap.size + 1 + 1 + 1 + 1 + 1 + 1) (w.heap.size + 1 + 1 + 1 + 1 + 1) (w.heap.size + 1 + 1 + 1 + 1 + 1 + 1 + 1) (w.heap.size + 1 + 1 + 1 + 1) W0 F := ⟨h.quit ho0, ⟨b6, hF _ (by omega)⟩, ⟨b5, hF _ (by omega)⟩, ⟨b7, hF _ (by omega)⟩⟩
  have hi0 : AllI w F most (under pre M) W0.heap.size 0 W0 F := ⟨Nat.zero_le _, ⟨b0, hF _ (Nat.le_refl _)⟩, ⟨b1, hF _ (by omega)⟩, ⟨b2, hF _ (by omega)⟩, ⟨_, ⟨b3, hF _ (by omega)⟩, Own.nil _ _ _ _⟩, ⟨b4, hF _ (by omega)⟩, ⟨ho0.mono fun _ _ h => h.elim, Grows.refl F w⟩, Nat.le_refl _⟩
  have HLEN := Lib.hid hlen
  clear hW0 hWa b0 b1 b2 b3 b4 b5 b6 b7 hlen
  refine (wpIn_wide (n := 6)).1 ?_
  refine range_tx (n := 6) (gf := 85) (N := (under pre M).length) (encs := pairA (under pre M)) (T := PairsT X t D pre (w.heap.size + 1 + 1 + 1 + 1 + 1 + 1) (w.heap.size + 1 + 1 + 1 + 1 + 1) (w.heap.size + 1 + 1 + 1 + 1 + 1 + 1 + 1) (w.heap.size + 1 + 1 + 1 + 1)) pairsT_abid (fun W G hT => hT.1.lt) rfl (enters_of Tryz.func85 (by kernel_rfl) rfl) (pairs_iter hb hkl hpl 5 (by omega)) (fun _ => rfl)
    (AllI w F most (under pre M) W0.heap.size) (fun k => allI_abid (by omega)) (fun k => allI_stay) (fun c _ => AllX w F most (under pre M) c) (fun c _ => allX_abid (by omega))
    hT0 hi0
    (fun k a' W => ∃ Bx, W0.heap.size ≤ Bx ∧ Blk W Bx 52 #[.string ⟨(keyAt (under pre M) k).toArray⟩, .string ⟨(valAt (under pre M) k).toArray⟩] ∧ ∃ a14, a' = Act.mk #[.pointer (some ⟨t, 0, none⟩), .string ⟨pre.toArray⟩, .int .i64 most, undef, undef, .pointer (some ⟨w.heap.size, 0, none⟩), .pointer (some ⟨w.heap.size + 1, 0, none⟩), .pointer (some ⟨w.heap.size + 1 + 1, 0, none⟩), .pointer (some ⟨w.heap.size + 1 + 1 + 1, 0, none⟩), .pointer (some ⟨w.heap.size + 1 + 1 + 1 + 1, 0, none⟩), .pointer (some ⟨Bx, 0, none⟩),
      .pointer (some ⟨t, 0, none⟩), .string ⟨pre.toArray⟩, .func (.func 85) #[] #[.pointer (some ⟨w.heap.size + 1 + 1 + 1 + 1 + 1 + 1, 0, none⟩), .pointer (some ⟨w.heap.size + 1 + 1 + 1 + 1 + 1, 0, none⟩), .pointer (some ⟨w.heap.size + 1 + 1 + 1 + 1 + 1 + 1 + 1, 0, none⟩)], a14, undef, undef, undef, undef, undef, undef, undef, undef, undef, undef, undef, undef] [])
    ?hAx ?assign ?body ?done ?stop
  case hAx =>
    rintro k a' W W' _ S ⟨Bx, h1, h2, h3⟩ hS ho
    exact ⟨Bx, h1, blk_abid h2 (fun q hq => (hS q hq).2.2) ho, h3⟩
  case assign =>
    intro l k W G K hk hT hI hK
    have HK := Lib.hid hK
    have HT := Lib.hid hT
    have HI := Lib.hid hI
    clear hK hT hI
    unfold pairA
    gi_wp2
    exact HK.out _ _ ((Only.refl NoB W).alloc _) ((pairsT_abid (B := 0)).quit HT.out ((Only.refl NoB W).alloc _)) ((allI_abid (Nat.le_refl _)).quit HI.out ((Only.refl NoB W).alloc _)) ⟨W.heap.size, HI.out.2.2.2.2.2.2.2, Blk.new _ _ _, _, rfl⟩
  case body =>
    rintro l k a' W G hk hl hT hI ⟨Bx, hBx, hbx, a14, rfl⟩
    obtain ⟨hkm, i0, i1, i2, ⟨v, i3, ho⟩, i4, isn, ibg⟩ := hI
    obtain ⟨A, cp, rfl, hcp⟩ := ho.shape
    have x0 := hbx.cell 0
    have x1 := hbx.cell 1
    have y0 := i0.1.cell 0
    have z0 := i1.1.cell 0
    have z1 := i1.1.frozen 0
    have u0 := i2.1.cell 0
    have u1 := i2.1.frozen 0
    have v0 := i3.1.cell 0
    have v1 := i3.1.frozen 0
    have HK := Lib.hid hk
    have HKM := Lib.hid hkm
    have HT := Lib.hid hT
    have H0 := Lib.hid i0
    have H1 := Lib.hid i1
    have H2 := Lib.hid i2
    have H3 := Lib.hid i3
    have H4 := Lib.hid i4
    have HO := Lib.hid ho
    have HSN := Lib.hid isn
    have HBG := Lib.hid ibg
    have HL := Lib.hid hl
    have HBX := Lib.hid hBx
    clear hk hl hT i0 i1 i2 i3 i4 isn ibg hBx hbx ho hkm hcp
    by_cases hlt : k < most
    · have hge : ¬ ((most : Int) ≤ (k : Int)) := by omega
      have HLT := Lib.hid hlt
      have hk6 : k ≤ 1000000 := by have := HLEN.out; have := HK.out; omega
      have hR3 : ∀ q, (Value.slice A k cp).ownBlock = some q → ¬ (w.heap.size + 1 + 1 + 1 = q) := fun q hq => by have := (HO.out.2 q hq).1; omega
      have HO1 : Hid (Own (W.alloc (.cells #[.string ⟨(keyAt (under pre M) k).toArray⟩, .string ⟨(valAt (under pre M) k).toArray⟩] 52)) (fun g => (Value.slice A k cp).ownBlock = some g) 52 2 (.slice A k cp) k (pairL ((under pre M).take k))) := Lib.hid (Own.alloc (w := W) ⟨HO.out.1, fun _ h => h⟩ _)
      have HR : Hid (Rd (W.alloc (.cells #[.string ⟨(keyAt (under pre M) k).toArray⟩, .string ⟨(valAt (under pre M) k).toArray⟩] 52)) (fun q => q = W.heap.size) 2 (.slice (some ⟨W.heap.size, 0, none⟩) 1 1) 1 [.string ⟨(keyAt (under pre M) k).toArray⟩, .string ⟨(valAt (under pre M) k).toArray⟩]) := Lib.hid (rd_new W 52 2 1 [.string ⟨(keyAt (under pre M) k).toArray⟩, .string ⟨(valAt (under pre M) k).toArray⟩] rfl)
      have H1N : Hid (∀ u ∈ ([.string ⟨(keyAt (under pre M) k).toArray⟩, .string ⟨(valAt (under pre M) k).toArray⟩] : List Value), u.oneCell' = true) := Lib.hid (by simp [Value.oneCell'])
      have HB3 : Hid (∀ v' w', App (W.alloc (.cells #[.string ⟨(keyAt (under pre M) k).toArray⟩, .string ⟨(valAt (under pre M) k).toArray⟩] 52)) (fun g => (Value.slice A k cp).ownBlock = some g) 52 2 (.slice A k cp) k 1 (pairL ((under pre M).take k)) [.string ⟨(keyAt (under pre M) k).toArray⟩, .string ⟨(valAt (under pre M) k).toArray⟩] v' w' → Blk w' (w.heap.size + 1 + 1 + 1) 47 #[.slice A k cp]) := Lib.hid fun v' w' ha => (H3.out.1.only ((Only.refl NoB W).alloc _) id).only ha.only fun hq => hR3 _ hq rfl
      clear z0 z1 u0 u1 hlt v1 hR3
      gi_wp2_with (gi_at_builtin; refine wpListIn_app rfl _ _ _ rfl (by kernel_rfl) Ty.pair rfl rfl HO1.out HR.out H1N.out (by omega) ?_; intro v' w' ha; obtain ⟨A', c', rfl, hc'⟩ := ha.shape; have hb3 := HB3.out _ _ ha; have v0' := hb3.cell 0; have v1' := hb3.frozen 0; have HA := Lib.hid ha; clear ha hb3 v0 hc')
      rw [← hs0]
      have hoA : Only (fun q => (Value.slice A k cp).ownBlock = some q) W w' := ((Only.refl _ W).alloc _).trans HA.out.only
      have hst : Only (fun q => q = w.heap.size + 1 + 1 + 1) w' (w'.setCell ⟨w.heap.size + 1 + 1 + 1, 0, none⟩ (.slice A' (k + 1) c')) := (Only.refl (fun q => q = w.heap.size + 1 + 1 + 1) w').setCell (p := ⟨w.heap.size + 1 + 1 + 1, 0, none⟩) (.inl rfl) _
      have hall : Only (fun q => q = w.heap.size + 1 + 1 + 1 ∨ (Value.slice A k cp).ownBlock = some q) W (w'.setCell ⟨w.heap.size + 1 + 1 + 1, 0, none⟩ (.slice A' (k + 1) c')) := (hoA.mono fun _ _ h => .inr h).trans (hst.mono fun _ _ h => .inl h)
      have hob : ∀ q, (Value.slice A k cp).ownBlock = some q → w.heap.size + 8 ≤ q ∧ ¬ G q := fun q hq => ⟨by have := (HO.out.2 q hq).1; omega, (HO.out.2 q hq).2⟩
      have hG : ∀ q, G q → ¬ (q = w.heap.size + 1 + 1 + 1 ∨ (Value.slice A k cp).ownBlock = some q) := fun q hq h => by
        rcases h with rfl | h
        · exact H3.out.2 hq
        · exact (hob q h).2 hq
      have hlow : ∀ q, q < w.heap.size + 8 → q ≠ w.heap.size + 1 + 1 + 1 → ¬ (q = w.heap.size + 1 + 1 + 1 ∨ (Value.slice A k cp).ownBlock = some q) := fun q hq hne h => by
        rcases h with h | h
        · exact hne h
        · have := (hob q h).1; omega
      have hkN := HK.out
      have htk : pairL ((under pre M).take (k + 1)) = pairL ((under pre M).take k) ++ [.string ⟨(keyAt (under pre M) k).toArray⟩, .string ⟨(valAt (under pre M) k).toArray⟩] := by
        rw [pairL_take _ hkN]
        unfold keyAt valAt strV
        rw [List.getD_eq_getElem?_getD, List.getElem?_eq_getElem hkN]; rfl
      have hb3 : Blk w' (w.heap.size + 1 + 1 + 1) 47 #[.slice A k cp] := HB3.out _ _ HA.out
      have hown : Own (w'.setCell ⟨w.heap.size + 1 + 1 + 1, 0, none⟩ (.slice A' (k + 1) c')) (fun g => W0.heap.size ≤ g ∧ ¬ G g) 52 2 (.slice A' (k + 1) c') (k + 1) (pairL ((under pre M).take (k + 1))) := by
        rw [htk]
        have hszW := HBG.out
        refine (HA.out.own.only hst fun q hq e => ?_).mono fun q hq _ => ?_
        · have e : q = w.heap.size + 1 + 1 + 1 := e
          rcases hq with hq | hq
          · have := (hob q hq).1; omega
          · have hq : q = _ := hq
            rw [World.size_alloc] at hq
            unfold Big at hszW; omega
        · rcases hq with hq | hq
          · exact HO.out.2 q hq
          · rw [World.size_alloc] at hq
            unfold Big at hszW
            exact ⟨by omega, fun hg => by have := HT.out.1.lt q hg; omega⟩
      refine ⟨fun q hq => hall.block q (HT.out.1.lt q hq) (hG q hq), fun q o hq ho hoc => (hall.block q (Array.getElem?_eq_some_iff.1 ho).1 fun h => ?_).trans ho, HT.out.beside hall hG ⟨hlow _ (by omega) (by omega), hlow _ (by omega) (by omega), hlow _ (by omega) (by omega)⟩, HLT.out, ⟨H0.out.1.only hall (hlow _ (by omega) (by omega)), H0.out.2⟩, ⟨H1.out.1.only hall (hlow _ (by omega) (by omega)), H1.out.2⟩, ⟨H2.out.1.only hall (hlow _ (by omega) (by omega)), H2.out.2⟩, ⟨_, ⟨hb3.set_ 0 _, H3.out.2⟩, hown⟩, ⟨H4.out.1.only hall (hlow _ (by omega) (by omega)), H4.out.2⟩, ⟨HSN.out.1.trans' hall fun q hq h => ?_, HSN.out.2⟩, Nat.le_trans HBG.out hall.size⟩
      · rcases h with h | h
        · omega
        · obtain ⟨cur, hc⟩ := own_cells HO.out h
          rw [hc] at ho
          injection ho with ho
          subst ho
          cases hoc
      · rcases h with h | h
        · omega
        · have := (hob q h).1; omega
    · have hge : (most : Int) ≤ (k : Int) := by omega
      have HGE := Lib.hid hge
      clear hlt v1 x0 x1
      gi_wp2_with fail
      have a1 := H1.out.1.set_ 0 (.slice none 0 0)
      have hst1 : Only (fun k => k = w.heap.size + 1) W (W.setCell ⟨w.heap.size + 1, 0, none⟩ (.slice none 0 0)) := (Only.refl (fun k => k = w.heap.size + 1) W).setCell (p := ⟨w.heap.size + 1, 0, none⟩) (.inl rfl) (.slice none 0 0)
      have a2 := (H2.out.1.only hst1 (by show ¬ (w.heap.size + 1 + 1 = w.heap.size + 1); omega)).set_ 0 (.int .i64 2)
      have hst2 : Only (fun k => k = w.heap.size + 1 + 1) (W.setCell ⟨w.heap.size + 1, 0, none⟩ (.slice none 0 0)) ((W.setCell ⟨w.heap.size + 1, 0, none⟩ (.slice none 0 0)).setCell ⟨w.heap.size + 1 + 1, 0, none⟩ (.int .i64 2)) := (Only.refl (fun k => k = w.heap.size + 1 + 1) _).setCell (p := ⟨w.heap.size + 1 + 1, 0, none⟩) (.inl rfl) (.int .i64 2)
      have hall : Only (fun k => k = w.heap.size + 1 ∨ k = w.heap.size + 1 + 1) W _ := (hst1.mono fun _ _ h => .inl h).trans (hst2.mono fun _ _ h => .inr h)
      have hG : ∀ k, G k → ¬ (k = w.heap.size + 1 ∨ k = w.heap.size + 1 + 1) := fun k hk h => by
        rcases h with rfl | rfl
        · exact H1.out.2 hk
        · exact H2.out.2 hk
      have hkm := HKM.out
      refine ⟨fun q o hq ho _ => (hall.block q (Array.getElem?_eq_some_iff.1 ho).1 (by omega)).trans ho, HT.out.beside hall hG ⟨by omega, by omega, by omega⟩, ⟨rfl, by have := HK.out; have := HGE.out; omega⟩, ⟨a1.only hst2 (by show ¬ (w.heap.size + 1 = w.heap.size + 1 + 1); omega), H1.out.2⟩, ⟨a2, H2.out.2⟩, HSN.out.1.trans' hall fun k hk h => by omega, HSN.out.2⟩
  case done =>
    rintro d W G hd hnd hT ⟨hkm, i0, i1, i2, ⟨v, i3, ho⟩, i4, isn, ibg⟩ hK
    obtain ⟨A, cp, rfl, hcp⟩ := ho.shape
    have HKM := Lib.hid hkm
    have HT := Lib.hid hT
    have H1 := Lib.hid i1
    have H2 := Lib.hid i2
    have H3 := Lib.hid i3
    have HO := Lib.hid ho
    have HSN := Lib.hid isn
    have HK := Lib.hid hK
    have HND := Lib.hid hnd
    have z0 := i1.1.cell 0
    have z1 := i1.1.frozen 0
    have u0 := i2.1.cell 0
    have u1 := i2.1.frozen 0
    have v0 := i3.1.cell 0
    have x0 := i4.1.cell 0
    clear i0 i1 i2 i3 i4 isn ibg ho hK hT hnd hkm hcp
    go_wp2_with fail
    have a1 := H1.out.1.set_ 0 (.slice A (under pre M).length cp)
    have hst1 : Only (fun k => k = w.heap.size + 1) W (W.setCell ⟨w.heap.size + 1, 0, none⟩ (.slice A (under pre M).length cp)) := (Only.refl (fun k => k = w.heap.size + 1) W).setCell (p := ⟨w.heap.size + 1, 0, none⟩) (.inl rfl) _
    have a2 := (H2.out.1.only hst1 (by show ¬ (w.heap.size + 1 + 1 = w.heap.size + 1); omega)).set_ 0 (.int .i64 0)
    have hst2 : Only (fun k => k = w.heap.size + 1 + 1) (W.setCell ⟨w.heap.size + 1, 0, none⟩ (.slice A (under pre M).length cp)) ((W.setCell ⟨w.heap.size + 1, 0, none⟩ (.slice A (under pre M).length cp)).setCell ⟨w.heap.size + 1 + 1, 0, none⟩ (.int .i64 0)) := (Only.refl (fun k => k = w.heap.size + 1 + 1) _).setCell (p := ⟨w.heap.size + 1 + 1, 0, none⟩) (.inl rfl) (.int .i64 0)
    obtain ⟨WF, hWF⟩ : ∃ z, z = (W.setCell ⟨w.heap.size + 1, 0, none⟩ (.slice A (under pre M).length cp)).setCell ⟨w.heap.size + 1 + 1, 0, none⟩ (.int .i64 0) := ⟨_, rfl⟩
    have hall : Only (fun k => k = w.heap.size + 1 ∨ k = w.heap.size + 1 + 1) W WF := by rw [hWF]; exact (hst1.mono fun _ _ h => .inl h).trans (hst2.mono fun _ _ h => .inr h)
    have a1' : Blk WF (w.heap.size + 1) 47 #[.slice A (under pre M).length cp] := by rw [hWF]; exact a1.only hst2 (by show ¬ (w.heap.size + 1 = w.heap.size + 1 + 1); omega)
    have a2' : Blk WF (w.heap.size + 1 + 1) 23 #[.int .i64 0] := by rw [hWF]; exact a2
    have hG : ∀ k, G k → ¬ (k = w.heap.size + 1 ∨ k = w.heap.size + 1 + 1) := fun k hk h => by
      rcases h with rfl | rfl
      · exact H1.out.2 hk
      · exact H2.out.2 hk
    have hKF := (hall.block d (Array.getElem?_eq_some_iff.1 HK.out).1 (by omega)).trans HK.out
    have hown := HO.out.keep (w' := WF) fun q hq => hall.block q (HO.out.lt hq) fun h => by have := (HO.out.2 q hq).1; omega
    rw [← hWF]
    clear hWF hst1 hst2 a1 a2
    refine ⟨by simp, .inl ⟨_, _, rfl, run_takeDeferred hKF, ?_⟩⟩
    have hp := put_only WF d (.deferred none)
    have hS : ∀ q, q = d → ∃ o : Obj, WF.heap[q]? = some o ∧ o.isCells = false := fun q hq => by rw [hq]; exact ⟨_, hKF, rfl⟩
    have c1 := (blk_abid a1' hS hp).cell 0
    have c2 := (blk_abid a2' hS hp).cell 0
    have hown2 := hown.keep (w' := WF.putObj d (.deferred none)) fun q hq => hp.block q (hown.lt hq) fun h => by
      obtain ⟨cur, hc⟩ := own_cells hown hq
      obtain ⟨o, h1, h2⟩ := hS q h
      rw [hc] at h1
      injection h1 with h1
      subst h1
      cases h2
    rw [List.take_length] at hown2
    refine ⟨_, results_cell_cell rfl _ _ (w.heap.size + 1) (w.heap.size + 1 + 1) _ _ rfl c1 (by kernel_rfl) rfl c2 (by kernel_rfl), G, .inl ⟨HKM.out, _, rfl, ⟨hown2.1, fun g hg => ⟨by have := (hown2.2 g hg).1; omega, (hown2.2 g hg).2⟩⟩⟩, ?_, ?_, HSN.out.2⟩
    · exact (HT.out.1.only hall hG).only hp fun k hk he => HND.out (he ▸ hk)
    · exact (HSN.out.1.trans' hall fun k hk he => by omega).trans' hp fun k hk he => by have he : k = d := he; omega
  case stop =>
    rintro d c k W G hd hk hnd hT ⟨⟨rfl, hL0⟩, i1, i2, isn⟩ hK
    have HL0 := Lib.hid hL0
    have HT := Lib.hid hT
    have H1 := Lib.hid i1
    have H2 := Lib.hid i2
    have HSN := Lib.hid isn
    have HK := Lib.hid hK
    have HND := Lib.hid hnd
    clear i1 i2 isn hL0 hT hnd hk
    gi_wp2_with fail
    refine ⟨by simp, .inl ⟨_, _, rfl, run_takeDeferred HK.out, ?_⟩⟩
    have hp := put_only W d (.deferred none)
    have hS : ∀ q, q = d → ∃ o : Obj, W.heap[q]? = some o ∧ o.isCells = false := fun q hq => by rw [hq]; exact ⟨_, HK.out, rfl⟩
    have c1 := (blk_abid H1.out.1 hS hp).cell 0
    have c2 := (blk_abid H2.out.1 hS hp).cell 0
    refine ⟨_, results_cell_cell rfl _ _ (w.heap.size + 1) (w.heap.size + 1 + 1) _ _ rfl c1 (by kernel_rfl) rfl c2 (by kernel_rfl), G, .inr ⟨HL0.out, rfl⟩, ?_, ?_, HSN.out.2⟩
    · exact HT.out.1.only hp fun k hk he => HND.out (he ▸ hk)
    · exact HSN.out.1.trans' hp fun k hk he => by have he : k = d := he; omega
theorem kv_all (h : KvAt w F X t m n own M c) (hpl : pre.length ≤ 1000) (hlen : (under pre M).length ≤ 1000000) :
    Calls Tryz.prog 23 #[.pointer (some ⟨t, 0, none⟩), .string ⟨pre.toArray⟩, .int .i64 most] w (fun e w' => ∃ F', AllAns w.heap.size F' most (under pre M) e w' ∧ KvAt w' F' X t m n own M c ∧ Only F w w' ∧ Grows F F' w) := by
  obtain ⟨D, ht, hb, rfl, rfl, rfl, hkl⟩ := h
  refine (all_ok ht hb hkl hpl hlen).mono ?_
  rintro e w1 ⟨F', h0, h1, h6, h7⟩
  exact ⟨F', h0, ⟨D, h1, hb, rfl, rfl, rfl, hkl⟩, h6, h7⟩
end
end Go.Proofs.YtdipjakblaeekaaGreat

/- files.Chunk, prefix, Drop, ready. -/
namespace Go.Proofs.YtdipjakblaeekaaGreat
open Go.RowKit Go.Proofs Go.Shelf
set_option maxRecDepth 20000
attribute [local go_sem] Oper.semAt_some
section
variable {w w' : World} {F G : Nat → Prop} {X : XC} {t m np own c : Nat} {M : List KV}
/-- A chunk's length. -/
def chunkOf (m : Nat) : Nat := min (NodeD.most m - 6) 200
theorem chunk_ok (h1 : 64 ≤ m) (h2 : m ≤ 4096) : Calls Tryz.prog 11 #[.int .i64 m] w fun e w' => e = .returned (.tuple #[.int .i64 (chunkOf m : Nat), .int .i64 0]) ∧ w = w' := by
  have hmo : 7 ≤ NodeD.most m := by unfold NodeD.most; omega
  have hmx : NodeD.most m ≤ 4096 := by unfold NodeD.most; omega
  have HM := Lib.hid (most_ok m h1 h2 w)
  obtain ⟨q, hq⟩ : ∃ q, q = NodeD.most m := ⟨_, rfl⟩
  have hc : chunkOf m = min (q - 6) 200 := by rw [hq]; rfl
  rw [hc]
  rw [← hq] at HM hmo hmx
  clear hc hq
  have hle : ¬ ((q : Int) ≤ 6) := by omega
  have hw1 : IntKind.i64.wrap ((q : Int) - 6) = (q : Int) - 6 := by rw [IntKind.wrap_i64]; omega
  obtain ⟨r, hr⟩ : ∃ r, r = min (q - 6) 200 := ⟨_, rfl⟩
  rw [← hr]
  have HR := Lib.hid hr
  clear hr
  by_cases hlt : (q : Int) - 6 < 200
  · have hr : (r : Int) = (q : Int) - 6 := by have := HR.out; omega
    rw [hr]
    clear hr
    go_enter Tryz.func11, Tryz.ntmps11
    go_wp2_with fail
    refine HM.out.mono ?_
    rintro e w1 ⟨rfl, rfl⟩
    go_wp2_with fail
    all_goals first | (go_ret2; exact ⟨rfl, rfl⟩) | (exfalso; omega)
  · have hr : (r : Int) = 200 := by have := HR.out; omega
    rw [hr]
    clear hr
    go_enter Tryz.func11, Tryz.ntmps11
    go_wp2_with fail
    refine HM.out.mono ?_
    rintro e w1 ⟨rfl, rfl⟩
    go_wp2_with fail
    all_goals first | (go_ret2; exact ⟨rfl, rfl⟩) | (exfalso; omega) | (go_ret2; refine ⟨?_, rfl⟩; show Ending.returned (Value.tuple #[Value.int IntKind.i64 ((q : Int) - 6), _]) = _; rw [show (q : Int) - 6 = 200 by omega]; rfl)
theorem chunk_bad (m : Int) (h : ¬ (64 ≤ m ∧ m ≤ 4096)) : Calls Tryz.prog 11 #[.int .i64 m] w fun e w' => e = .returned (.tuple #[.int .i64 0, .int .i64 1]) ∧ w = w' := by
  have HM := Lib.hid (most_bad m h w)
  clear h
  go_enter Tryz.func11, Tryz.ntmps11
  go_wp2_with fail
  refine HM.out.mono ?_
  rintro e w1 ⟨rfl, rfl⟩
  go_wp2_with fail
  go_ret2
  exact ⟨rfl, rfl⟩
theorem fprefix_ok (n : Int) : Calls Tryz.prog 51 #[.int .i64 n] w fun e w' => e = .returned (preAns n) ∧ Only NoB w w' := by
  have HP := Lib.hid (prefix_chunk (w := w) n)
  obtain ⟨a, b, hab⟩ : ∃ a b, preAns n = .tuple #[a, b] := by unfold preAns; split <;> exact ⟨_, _, rfl⟩
  rw [hab] at HP ⊢
  clear hab
  go_enter Tryz.func51, Tryz.ntmps51
  go_wp2_with fail
  refine HP.out.mono ?_
  rintro e w1 ⟨rfl, ho⟩
  have HO := Lib.hid ho
  clear ho
  go_wp2_with fail
  go_ret2
  exact ⟨rfl, HO.out⟩
/-- A file's prefix. -/
def fpre (n : Int) : Str := (99 : UInt8) :: be3i n
theorem preAns_ok {n : Int} (h : 1 ≤ n ∧ n ≤ 16777215) : preAns n = .tuple #[.string ⟨(fpre n).toArray⟩, .int .i64 0] := by rw [preAns, if_pos h]; rfl
theorem preAns_bad {n : Int} (h : ¬ (1 ≤ n ∧ n ≤ 16777215)) : preAns n = .tuple #[.string ⟨#[]⟩, .int .i64 1] := by rw [preAns, if_neg h]
theorem fdrop_ok {n : Int} (h : KvAt w F X t m np own M c) (hn : 1 ≤ n ∧ n ≤ 16777215) (hlen : (under (fpre n) M).length ≤ 1000000) :
    Calls Tryz.prog 20 #[.pointer (some ⟨t, 0, none⟩), .int .i64 n] w (KvOut w F X t m np own (.tuple #[.int .i64 ((under (fpre n) M).length : Nat), .int .i64 0]) (rid (fpre n) M) c) := by
  have HP := Lib.hid (fprefix_ok (w := w) n)
  rw [preAns_ok hn] at HP
  have HH := Lib.hid h
  have HL := Lib.hid hlen
  have HD0 : Hid (∀ w1, Only NoB w w1 → Calls Tryz.prog 53 _ w1 _) := Lib.hid fun w1 ho => wdrop_ok (h.quit ho) (pre := fpre n) (by simp [fpre, be3i]) hlen
  obtain ⟨L, hL⟩ : ∃ L, L = (under (fpre n) M).length := ⟨_, rfl⟩
  rw [← hL] at HD0 ⊢
  clear h hlen hL
  go_enter Tryz.func20, Tryz.ntmps20
  go_wp2_with fail
  refine HP.out.mono ?_
  rintro e w1 ⟨rfl, ho⟩
  have HO := Lib.hid ho
  have HD := Lib.hid (HD0.out w1 ho)
  clear ho
  go_wp2_with fail
  refine HD.out.mono ?_
  rintro e w2 ⟨rfl, hk⟩
  have HK : Hid (KvOut w F X t m np own (.tuple #[.int .i64 (L : Nat), .int .i64 0]) (rid (fpre n) M) c (.returned (.tuple #[.int .i64 (L : Nat), .int .i64 0])) w2) := Lib.hid (KvOut.trans (HO.out.mono fun _ _ h => h.elim) (Grows.refl F w) ⟨rfl, hk⟩)
  clear hk
  go_wp2_with fail
  go_ret2
  exact HK.out
theorem fdrop_bad {n : Int} (hn : ¬ (1 ≤ n ∧ n ≤ 16777215)) :
    Calls Tryz.prog 20 #[.pointer (some ⟨t, 0, none⟩), .int .i64 n] w fun e w' => e = .returned (.tuple #[.int .i64 0, .int .i64 1]) ∧ Only NoB w w' := by
  have HP := Lib.hid (fprefix_ok (w := w) n)
  rw [preAns_bad hn] at HP
  clear hn
  go_enter Tryz.func20, Tryz.ntmps20
  go_wp2_with fail
  refine HP.out.mono ?_
  rintro e w1 ⟨rfl, ho⟩
  have HO := Lib.hid ho
  clear ho
  go_wp2_with fail
  go_ret2
  exact ⟨rfl, HO.out⟩
theorem KvAt.m12 (h : KvAt w F X t m np own M c) : 64 ≤ m ∧ m ≤ 4096 := by obtain ⟨D, _, hb, rfl, _⟩ := h; exact ⟨hb.1.m1, hb.1.m2⟩
theorem KvAt.bytes (h : KvAt w F X t m np own M c) : Calls Tryz.prog 80 #[.pointer (some ⟨t, 0, none⟩)] w fun e w' => e = .returned (.int .i64 m) ∧ w = w' := by
  obtain ⟨D, ht, _, rfl, _⟩ := h; exact ht.bytes
theorem ready_ok {n : Int} (h : KvAt w F X t m np own M c) (hn : 1 ≤ n ∧ n ≤ 16777215) :
    Calls Tryz.prog 49 #[.pointer (some ⟨t, 0, none⟩), .int .i64 n] w fun e w' => e = .returned (.tuple #[.int .i64 (chunkOf m : Nat), .int .i64 0]) ∧ Only NoB w w' := by
  have HP := Lib.hid (fprefix_ok (w := w) n)
  rw [preAns_ok hn] at HP
  have HH := Lib.hid h
  clear h
  go_enter Tryz.func49, Tryz.ntmps49
  go_wp2_with fail
  refine HP.out.mono ?_
  rintro e w1 ⟨rfl, ho⟩
  have HO := Lib.hid ho
  have HB := Lib.hid (HH.out.quit ho).bytes
  have HC := Lib.hid (chunk_ok (w := w1) HH.out.m12.1 HH.out.m12.2)
  clear ho
  go_wp2_with fail
  refine HB.out.mono ?_
  rintro e w2 ⟨rfl, rfl⟩
  go_wp2_with fail
  refine HC.out.mono ?_
  rintro e w2 ⟨rfl, rfl⟩
  go_wp2_with fail
  go_ret2
  exact ⟨rfl, HO.out⟩
theorem ready_bad {n : Int} (hn : ¬ (1 ≤ n ∧ n ≤ 16777215)) :
    Calls Tryz.prog 49 #[.pointer (some ⟨t, 0, none⟩), .int .i64 n] w fun e w' => e = .returned (.tuple #[.int .i64 0, .int .i64 1]) ∧ Only NoB w w' := by
  have HP := Lib.hid (fprefix_ok (w := w) n)
  rw [preAns_bad hn] at HP
  clear hn
  go_enter Tryz.func49, Tryz.ntmps49
  go_wp2_with fail
  refine HP.out.mono ?_
  rintro e w1 ⟨rfl, ho⟩
  have HO := Lib.hid ho
  clear ho
  go_wp2_with fail
  go_ret2
  exact ⟨rfl, HO.out⟩
end
end Go.Proofs.YtdipjakblaeekaaGreat

/- A FILE's CHUNKS, in a sorted map. No program in sight. -/
namespace Go.Proofs.YtdipjakblaeekaaGreat
section
variable {M : List KV} {p k v d : Str} {c i j : Nat}
def ckey (p : Str) (i : Nat) : Str := p ++ be2 i
def chunkN (c L : Nat) : Nat := (L + c - 1) / c
def chunkAt (c : Nat) (d : Str) (i : Nat) : Str := (d.drop (c * i)).take c
def chunks (c : Nat) (p d : Str) : List KV := (List.range (chunkN c d.length)).map fun i => (ckey p i, chunkAt c d i)
theorem chunks_len : (chunks c p d).length = chunkN c d.length := by simp [chunks]
theorem chunkN_lt {L : Nat} (hc : 0 < c) : i < chunkN c L ↔ c * i < L := by
  unfold chunkN
  rw [Nat.lt_div_iff_mul_lt hc, Nat.mul_comm]
  omega
theorem chunks_take (hc : 0 < c) (hi : c * i < d.length) : (chunks c p d).take (i + 1) = (chunks c p d).take i ++ [(ckey p i, chunkAt c d i)] := by
  have h : i < (chunks c p d).length := by rw [chunks_len]; exact (chunkN_lt hc).2 hi
  rw [List.take_succ_eq_append_getElem h]
  simp [chunks]
theorem chunks_all (hc : 0 < c) (hi : d.length ≤ c * i) : (chunks c p d).take i = chunks c p d := by
  apply List.take_of_length_le
  rw [chunks_len]
  have : ¬ i < chunkN c d.length := fun h => by have := (chunkN_lt hc).1 h; omega
  omega
theorem lts_pre : ∀ (p : Str) {a b : Str}, lts a b → lts (p ++ a) (p ++ b)
  | [], _, _, h => h
  | x :: p, _, _, h => lts_cons.2 (.inr ⟨rfl, lts_pre p h⟩)
theorem be2_lts (hij : i < j) (hj : j ≤ 65535) : lts (be2 i) (be2 j) := by
  unfold be2
  by_cases h : i / 256 = j / 256
  · rw [h]
    refine lts_cons.2 (.inr ⟨rfl, lts_cons.2 (.inl ?_)⟩)
    rw [UInt8.lt_iff_toNat_lt, UInt8.toNat_ofNat', UInt8.toNat_ofNat']
    omega
  · refine lts_cons.2 (.inl ?_)
    rw [UInt8.lt_iff_toNat_lt, UInt8.toNat_ofNat', UInt8.toNat_ofNat']
    omega
theorem ckey_lts (hij : i < j) (hj : j ≤ 65535) : lts (ckey p i) (ckey p j) := lts_pre p (be2_lts hij hj)
theorem hasP_ckey : hasP p (ckey p i) = true := by simp [hasP, ckey]
theorem chunks_keys {x : KV} (hx : x ∈ (chunks c p d).take i) : ∃ j, j < i ∧ x.1 = ckey p j := by
  obtain ⟨j, hj, rfl⟩ := List.getElem_of_mem hx
  rw [List.length_take] at hj
  refine ⟨j, by omega, ?_⟩
  simp [chunks]
theorem under_ins : ∀ {M : List KV}, Srt M → hasP p k = true → (∀ x ∈ under p M, lts x.1 k) → under p (ins k v M) = under p M ++ [(k, v)] ∧ rid p (ins k v M) = rid p M
  | [], _, hk, _ => by simp [ins, under, rid, hk]
  | x :: M, hs, hk, hl => by
    have hs' := List.pairwise_cons.1 hs
    rw [ins]
    split
    · rename_i hlt
      have hnone : under p (x :: M) = [] := by
        apply List.filter_eq_nil_iff.2
        intro y hy hyp
        have h1 := hl y (List.mem_filter.2 ⟨hy, hyp⟩)
        rcases List.mem_cons.1 hy with rfl | hy
        · exact lts_asymm hlt h1
        · exact lts_asymm (lts_trans hlt (hs'.1 y hy)) h1
      rw [hnone]
      unfold under at hnone ⊢
      unfold rid
      rw [List.filter_cons_of_pos (by simpa using hk), hnone, List.filter_cons_of_neg (by simp [hk])]
      exact ⟨rfl, rfl⟩
    · rename_i hlt
      split
      · rename_i he
        have h1 := hl x (List.mem_filter.2 ⟨by simp, by rw [he]; exact hk⟩)
        rw [he] at h1
        exact (lts_irrefl _ h1).elim
      · obtain ⟨h1, h2⟩ := under_ins (M := M) hs'.2 hk fun y hy => hl y (by unfold under at hy ⊢; exact List.mem_filter.2 ⟨List.mem_cons_of_mem _ (List.mem_filter.1 hy).1, (List.mem_filter.1 hy).2⟩)
        unfold under at h1 ⊢
        unfold rid at h2 ⊢
        by_cases hx : hasP p x.1 = true
        · refine ⟨?_, ?_⟩
          · rw [List.filter_cons_of_pos (by simpa using hx), List.filter_cons_of_pos (by simpa using hx), h1]; rfl
          · rw [List.filter_cons_of_neg (by simp [hx]), List.filter_cons_of_neg (by simp [hx]), h2]
        · refine ⟨?_, ?_⟩
          · rw [List.filter_cons_of_neg (by simpa using hx), List.filter_cons_of_neg (by simpa using hx), h1]
          · rw [List.filter_cons_of_pos (by simpa using hx), List.filter_cons_of_pos (by simpa using hx), h2]
theorem under_rid_self : under p (rid p M) = [] := by
  apply List.filter_eq_nil_iff.2
  intro y hy hyp
  have := (List.mem_filter.1 hy).2
  rw [hyp] at this
  cases this
theorem rid_rid : rid p (rid p M) = rid p M := by
  unfold rid
  rw [List.filter_filter]
  congr 1; funext x; simp
theorem under_other {q : Str} (hl : p.length = q.length) (hne : p ≠ q) : under q (rid p M) = under q M := by
  unfold under rid
  rw [List.filter_filter]
  apply List.filter_congr
  intro x _
  cases hq : hasP q x.1 with
  | false => rfl
  | true =>
    have : hasP p x.1 = false := by
      cases hp : hasP p x.1 with
      | false => rfl
      | true =>
        simp [hasP] at hp hq
        rw [hl] at hp
        exact (hne (hp.symm.trans hq)).elim
    rw [this]; rfl
end
end Go.Proofs.YtdipjakblaeekaaGreat

/- files.Write. -/
namespace Go.Proofs.YtdipjakblaeekaaGreat
open Go.RowKit Go.Proofs Go.Shelf
set_option maxRecDepth 20000
attribute [local go_sem] Oper.semAt_some
section
variable {w w' : World} {F G : Nat → Prop} {X : XC} {t m np own c n : Nat} {M : List KV} {d : Str}
/-- The loop of files.Write has put i chunks. -/
def WrSt (w : World) (F : Nat → Prop) (X : XC) (t m np own n : Nat) (M : List KV) (c : Nat) (d : Str) (i : Nat) (v : Value) (wr : World) : Prop :=
  ∃ Mk, ∃ Fk, KvAt wr Fk X t m np own Mk (c + i) ∧ under (fpre n) Mk = (chunks (chunkOf m) (fpre n) d).take i ∧ rid (fpre n) Mk = rid (fpre n) M ∧ Only F w wr ∧ Grows F Fk w ∧ Bytes wr (fun k => w.heap.size ≤ k ∧ ¬ Fk k) v (d.drop (chunkOf m * i)) ∧ i ≤ chunkN (chunkOf m) d.length
def WrOut (w : World) (F : Nat → Prop) (X : XC) (t m np own n : Nat) (M : List KV) (c : Nat) (d : Str) (e : Ending) (w' : World) : Prop :=
  e = .returned (.int .i64 0) ∧ ∃ M' F', KvAt w' F' X t m np own M' c ∧ under (fpre n) M' = chunks (chunkOf m) (fpre n) d ∧ rid (fpre n) M' = rid (fpre n) M ∧ Only F w w' ∧ Grows F F' w
theorem bytesWorld_only (w : World) (e : TypeId) (s : ByteArray) : Only NoB w (Lib.bytesWorld w e s) :=
  ⟨rfl, rfl, rfl, by rw [Lib.bytesWorld_size]; omega, fun k hk _ => Lib.bytesWorld_at_old w e s k hk⟩
theorem le_grownCap (w : World) (n old : Nat) (e : TypeId) : n ≤ grownCap w n old e := by
  unfold grownCap
  simp [Question.cut]
set_option maxHeartbeats 2000000 in
theorem fwrite_ok (h : KvAt w F X t m np own M c) (hn : 1 ≤ n ∧ n ≤ 16777215) (hd : d.length ≤ 65536) (hN : chunkN (chunkOf m) d.length ≤ 65536) (hroom : c + chunkN (chunkOf m) d.length ≤ np - (own + 1)) (hlen : (under (fpre n) M).length ≤ 1000000) :
    Calls Tryz.prog 16 #[.pointer (some ⟨t, 0, none⟩), .int .i64 n, .string ⟨d.toArray⟩] w (WrOut w F X t m np own n M (c + chunkN (chunkOf m) d.length) d) := by
  have hch : 1 ≤ chunkOf m ∧ chunkOf m ≤ 200 := by
    have := h.m12
    unfold chunkOf NodeD.most
    omega
  have HR := Lib.hid (ready_ok (n := n) h (by omega))
  have HD : Hid (∀ w1, Only NoB w w1 → Calls Tryz.prog 20 _ w1 _) := Lib.hid fun w1 ho => fdrop_ok (n := n) (h.quit ho) (by omega) hlen
  obtain ⟨L, hL⟩ : ∃ L, L = d.length := ⟨_, rfl⟩
  obtain ⟨ch, hc⟩ : ∃ ch, ch = chunkOf m := ⟨_, rfl⟩
  obtain ⟨L0, hL0⟩ : ∃ L0, L0 = (under (fpre n) M).length := ⟨_, rfl⟩
  rw [← hL0] at HD
  rw [← hc] at HR hch hN
  rw [← hL] at hN hd
  have hq : ¬ (65536 < ((L : Int) + ch - 1) / ch) := by
    have : (((L + ch - 1 : Nat) / ch : Nat) : Int) = ((L : Int) + ch - 1) / ch := by
      rw [Int.natCast_ediv]
      congr 1; omega
    unfold chunkN at hN
    omega
  have hdl : d.length = L := hL.symm
  have hL1 : (L : Int) ≤ 65536 := by omega
  have hc0 : (ch : Int) ≠ 0 := by omega
  have hc1 : (1 : Int) ≤ ch := by omega
  have HH := Lib.hid h
  have HN := Lib.hid hn
  have HLL := Lib.hid hL
  have HC := Lib.hid hc
  clear h hlen hL hc hL0
  go_enter Tryz.func16, Tryz.ntmps16
  go_wp2_with fail
  refine HR.out.mono ?_
  rintro e w1 ⟨rfl, ho⟩
  have HO := Lib.hid ho
  clear ho
  go_wp2_with fail
  refine (HD.out w1 HO.out).mono ?_
  rintro e w2 ⟨rfl, F2, hk2, ho2, hg2⟩
  have hr : (ByteArray.mk d.toArray).size = L := by show d.toArray.size = L; simpa using hdl
  have hcv := Lib.run_convert_string_bytes (P := Tryz.prog) w2 9 50 5 ⟨d.toArray⟩ (u := .string) (by kernel_rfl) (by kernel_rfl) (by kernel_rfl)
  rw [hr] at hcv
  obtain ⟨W3, hW3⟩ : ∃ W3, W3 = Lib.bytesWorld w2 5 ⟨d.toArray⟩ := ⟨_, rfl⟩
  obtain ⟨cp, hcp⟩ : ∃ cp, cp = grownCap w2 L 0 5 := ⟨_, rfl⟩
  rw [← hW3, ← hcp] at hcv
  have ho3 : Only NoB w2 W3 := by rw [hW3]; exact bytesWorld_only _ _ _
  have hcpL : L ≤ cp := by rw [hcp]; exact le_grownCap _ _ _ _
  have hby : Bytes W3 (fun k => k = w2.heap.size) (.slice (some ⟨w2.heap.size, 0, none⟩) L cp) d := by
    rw [← hdl] at hcpL ⊢
    refine ⟨_, _, rfl, hcpL, by simp, fun _ => ⟨_, rfl, rfl, fun j u hu => ?_⟩⟩
    rw [Addr.add_lit, Nat.zero_add, hW3, Lib.bytesWorld_cell _ _ _ _ (by
      have := (List.getElem?_eq_some_iff.1 hu).1
      rw [List.length_map] at this
      show j < d.toArray.size
      simpa using this)]
    rw [List.getElem?_map] at hu
    cases hq : d[j]? with
    | none => rw [hq] at hu; cases hu
    | some x =>
      rw [hq] at hu
      injection hu with hu
      rw [← hu]
      show some (Value.int .u8 (d.toArray.toList.getD j 0).toNat) = some (byteV x)
      rw [List.getD_eq_getElem?_getD]
      simp [hq, byteV]
  have hs2 := ho2.size
  have hs1 := HO.out.size
  have HS : Hid (WrSt w F X t m np own n M c d 0 (.slice (some ⟨w2.heap.size, 0, none⟩) L cp) W3) := Lib.hid ⟨_, F2, hk2.quit ho3, by rw [under_rid_self]; rfl, rid_rid, (((HO.out.mono fun _ _ h => h.elim).trans' ho2 fun k hk hf => hf).trans' ho3 fun k hk hf => hf.elim), fun k hk => (hg2 k hk).imp id fun h => by omega, by
    rw [Nat.mul_zero, List.drop_zero]
    exact hby.mono fun k hk _ => by rw [hk]; exact ⟨by omega, fun hf => by have := hk2.lt _ hf; omega⟩, Nat.zero_le _⟩
  clear hW3 hby ho3 hk2 ho2 hg2 hs2 hs1 HD HR hcp hcpL hr
  go_wp2_with fail
  clear hcv hq hL1 hdl
  go_loopg [11, 12] L (fun g s11 s12 wr => ∃ i : Nat, s12 = .int .i64 i ∧ g = L - ch * i ∧ Hid (WrSt w F X t m np own n M c d i s11 wr))
  case atStart => exact ⟨0, rfl, by simp, HS⟩
  case round =>
    clear HS HO
    obtain ⟨i, rfl, hgk, HS⟩ := hrel
    obtain ⟨Mk, Fk, hkv, hun, hri, hon, hgr, hby, hile⟩ := HS.out
    rw [← HC.out] at hun hby hile
    obtain ⟨l, hl⟩ : ∃ l, l = (d.drop (ch * i)).length := ⟨_, rfl⟩
    have hlL : l = L - ch * i := by rw [hl, HLL.out, List.length_drop]
    by_cases hl0 : l = 0
    · subst hl0
      obtain ⟨A, c2, rfl, _⟩ := hby
      have hdn : d.length ≤ ch * i := by have := HLL.out; omega
      rw [chunks_all (by omega) hdn] at hun
      have HE : Hid (WrOut w F X t m np own n M (c + chunkN (chunkOf m) d.length) d (.returned (.int .i64 0)) wr) := Lib.hid ⟨rfl, Mk, Fk, hkv.mono (by rw [← HC.out]; omega), by rw [← HC.out]; exact hun, hri, hon, hgr⟩
      rw [← hl]
      clear hkv hun hri hon hgr hl hlL hdn hile HS hgk
      go_wp2_with fail
      go_ret
      exact HE.out
    · have hl1 : 0 < (d.drop (ch * i)).length := by omega
      obtain ⟨g, off, c2, rfl, hlc, hKg, hcell⟩ := hby.open_ hl1
      rw [← hl] at hlc hby ⊢
      have hil : ch * i < d.length := by have := HLL.out; omega
      have hi := (chunkN_lt (by omega)).2 hil
      have hi6 : i ≤ 65535 := by have := HLL.out; rw [← this] at hi; omega
      have hcv : ∀ (r : Nat) (w' : World), r ≤ l → Only NoB wr w' → (convert 50 9 (.slice (some ⟨g, off, none⟩) r r)).run Tryz.prog w' = .ok (.string ⟨((d.drop (ch * i)).take r).toArray⟩) w' := fun r w' hrl ho => by
        refine conv_bytes' (K := fun _ => True) (Rd.only (G := NoB) (F := fun _ => True) ?_ ho fun _ _ => id)
        have h1 : Rd wr _ 1 (.slice (some ⟨g, off, none⟩) r c2) r _ := Rd.take_ (w := wr) (n := l) (size := 1) (xs := (d.drop (ch * i)).map byteV) (by rw [hl] at hby ⊢; exact hby) hrl
        obtain ⟨A, c3, hv, hc3, hl3, hx⟩ := h1
        rw [Nat.mul_one, ← List.map_take] at hl3 hx
        have hlr : ((d.drop (ch * i)).take r).length = r := by rw [List.length_take]; omega
        rw [hlr]
        refine ⟨_, _, rfl, Nat.le_refl _, by rw [hl3, Nat.mul_one], fun h0 => ?_⟩
        obtain ⟨ad, h4, h5, h6⟩ := hx (by omega)
        injection hv with q1
        exact ⟨ad, q1.trans h4, trivial, h6⟩
      have hput : ∀ (r : Nat) (w5 : World), r = min ch l → Only NoB wr w5 → Calls Tryz.prog 36 #[.pointer (some ⟨t, 0, none⟩), .string ⟨((99 : UInt8) :: (be3 n ++ be2 i)).toArray⟩, .string ⟨((d.drop (ch * i)).take r).toArray⟩] w5 (fun e w6 => (∃ b, e = .returned (.tuple #[.bool b, .int .i64 0])) ∧ ∀ v, (v = .slice (some ⟨g, off + r, none⟩) (l - r) (c2 - r) ∨ (c2 = r ∧ v = .slice (some ⟨g, off, none⟩) (l - r) 0)) → WrSt w F X t m np own n M c d (i + 1) v w6) := fun r w5 hr ho5 => by
        have hkey : (99 : UInt8) :: (be3 n ++ be2 i) = ckey (fpre n) i := by unfold ckey fpre; rw [be3i_nat HN.out.2]; rfl
        have hval : (d.drop (ch * i)).take r = chunkAt ch d i := by
          unfold chunkAt
          rw [hr]
          by_cases hcl : ch ≤ l
          · rw [Nat.min_eq_left hcl]
          · rw [Nat.min_eq_right (by omega), List.take_of_length_le (by omega), List.take_of_length_le (by omega)]
        rw [hkey, hval]
        have hkl : (ckey (fpre n) i).length = 6 := by simp [ckey, fpre, be3i, be2]
        have hvl : (chunkAt ch d i).length ≤ ch := by unfold chunkAt; rw [List.length_take]; omega
        have hpok : PairOk m (ckey (fpre n) i, chunkAt ch d i) := by
          have h12 := hkv.m12
          have hce := HC.out
          unfold chunkOf at hce
          have hmo : 7 ≤ NodeD.most m := by unfold NodeD.most; omega
          refine ⟨by show 1 ≤ (ckey (fpre n) i).length; omega, by show (ckey (fpre n) i).length ≤ 255; omega, by show (chunkAt ch d i).length ≤ 255; omega, by show (ckey (fpre n) i).length + (chunkAt ch d i).length ≤ _; omega⟩
        have hbefore : ∀ x ∈ under (fpre n) Mk, lts x.1 (ckey (fpre n) i) := fun x hx => by
          rw [hun] at hx
          obtain ⟨j, hj, hxe⟩ := chunks_keys hx
          rw [hxe]
          exact ckey_lts hj hi6
        obtain ⟨hu1, hu2⟩ := under_ins (v := chunkAt ch d i) hkv.srt hasP_ckey hbefore
        refine (kv_put (hkv.quit ho5) (by rw [← HC.out] at hroom; omega) hpok (by omega)).mono ?_
        rintro e w6 ⟨rfl, F6, hk6, ho6, hg6⟩
        have hs5 := ho5.size
        have hsr := hon.size
        refine ⟨⟨_, rfl⟩, fun v hv => ⟨_, F6, hk6, by rw [hu1, hun, ← HC.out, ← chunks_take (by omega) hil], hu2.trans hri, (hon.trans' ho5 fun k hk hf => hf.elim).trans' ho6 fun k hk hf => (hgr k hf).elim id fun h => by omega, fun k hk => (hg6 k hk).elim (fun h => hgr k h) fun h => .inr (by omega), ?_, by rw [← HC.out]; omega⟩⟩
        have hd1 : Rd wr _ 1 (.slice (some ⟨g, off + r * 1, none⟩) (l - r) (c2 - r)) (l - r) _ := Rd.drop_ (w := wr) (n := l) (k := r) (size := 1) (xs := (d.drop (ch * i)).map byteV) (by rw [hl] at hby ⊢; exact hby) (by omega)
        rw [Nat.mul_one, ← List.map_drop, List.drop_drop] at hd1
        have hdd : d.drop (ch * i + r) = d.drop (ch * (i + 1)) := by
          rw [Nat.mul_succ]
          by_cases hcl : ch ≤ l
          · rw [hr, Nat.min_eq_left hcl]
          · have hL := HLL.out
            rw [List.drop_of_length_le (by omega), List.drop_of_length_le (by omega)]
        have hdl : l - r = (d.drop (ch * (i + 1))).length := by rw [← hdd, List.length_drop]; have := HLL.out; omega
        rw [hdd] at hd1
        rw [← HC.out]
        unfold Bytes
        rw [← hdl]
        rcases hv with rfl | ⟨hcr, rfl⟩
        · refine (((hd1.mono (G := fun k => (w.heap.size ≤ k ∧ ¬ Fk k) ∧ k < wr.heap.size) fun k hk hlk => ⟨hk, hlk⟩).only ho5 fun _ _ => id).only ho6 fun k hk => hk.1.2).mono fun k hk _ => ⟨hk.1.1, fun hf => ?_⟩
          rcases hg6 k hf with h1 | h1
          · exact hk.1.2 h1
          · have := hk.2; omega
        · have h0 : l - r = 0 := by omega
          rw [h0] at hdl ⊢
          have hnil : d.drop (ch * (i + 1)) = [] := List.length_eq_zero_iff.1 hdl.symm
          rw [hnil]
          exact ⟨_, _, rfl, Nat.le_refl _, rfl, fun h => by omega⟩
      have HPUT := Lib.hid hput
      have HB := Lib.hid (bytes_chunk (w := wr) (n := n) (m := i) HN.out hi6)
      have hl2 : (0 : Int) < l := by omega
      have HCV := Lib.hid hcv
      have HKV := Lib.hid hkv
      have HUN := Lib.hid hun
      have HRI := Lib.hid hri
      have HON := Lib.hid hon
      have HGR := Lib.hid hgr
      have HBY := Lib.hid hby
      have HI := Lib.hid hi
      have HIL := Lib.hid hil
      have HLD := Lib.hid hl
      have HLE := Lib.hid hlL
      have HGK := Lib.hid hgk
      have HKG := Lib.hid hKg
      unfold keyC at HB
      have hi6' := hi6
      clear hput hcv hkv hun hri hon hgr hby hi hil hl hlL hgk hKg hcell hile HS hl1 hi6
      by_cases hcl : (ch : Int) ≤ l
      · go_wp2_with fail
        refine HB.out.mono ?_
        rintro e w5 ⟨rfl, ho5⟩
        have hcv := HCV.out ch w5 (by omega) ho5
        have HP := Lib.hid (HPUT.out ch w5 (by omega) ho5)
        clear ho5
        go_wp2_with fail
        refine HP.out.mono ?_
        rintro e w6 ⟨⟨b, rfl⟩, hst⟩
        have HST := Lib.hid hst
        have hw1 : IntKind.i64.wrap ((i : Int) + 1) = (i : Int) + 1 := by
          have := hi6'
          rw [IntKind.wrap_i64]; omega
        have hlt : L - ch * (i + 1) < gk := by
          have h1 := HGK.out
          have h2 := HLE.out
          rw [Nat.mul_succ]; omega
        clear hst hcv
        go_wp2_with fail
        · go_roundg (L - ch * (i + 1))
          case measure => exact hlt
          case rel => exact ⟨i + 1, rfl, rfl, Lib.hid (HST.out _ (.inr ⟨by omega, by simp⟩))⟩
        · go_roundg (L - ch * (i + 1))
          case measure => exact hlt
          case rel => exact ⟨i + 1, rfl, rfl, Lib.hid (HST.out _ (.inl (by simp)))⟩
      · go_wp2_with fail
        refine HB.out.mono ?_
        rintro e w5 ⟨rfl, ho5⟩
        have hcv := HCV.out l w5 (by omega) ho5
        have HP := Lib.hid (HPUT.out l w5 (by omega) ho5)
        clear ho5
        go_wp2_with fail
        refine HP.out.mono ?_
        rintro e w6 ⟨⟨b, rfl⟩, hst⟩
        have HST := Lib.hid hst
        have hw1 : IntKind.i64.wrap ((i : Int) + 1) = (i : Int) + 1 := by
          have := hi6'
          rw [IntKind.wrap_i64]; omega
        have hlt : L - ch * (i + 1) < gk := by
          have h1 := HGK.out
          have h2 := HLE.out
          rw [Nat.mul_succ]; omega
        clear hst hcv
        go_wp2_with fail
        · go_roundg (L - ch * (i + 1))
          case measure => exact hlt
          case rel => exact ⟨i + 1, rfl, rfl, Lib.hid (HST.out _ (.inr ⟨by omega, by simp⟩))⟩
        · go_roundg (L - ch * (i + 1))
          case measure => exact hlt
          case rel => exact ⟨i + 1, rfl, rfl, Lib.hid (HST.out _ (.inl (by simp)))⟩
end
end Go.Proofs.YtdipjakblaeekaaGreat

/- files.Read. -/
namespace Go.Proofs.YtdipjakblaeekaaGreat
open Go.RowKit Go.Proofs Go.Shelf
set_option maxRecDepth 20000
attribute [local go_sem] Oper.semAt_some
section
variable {w w' : World} {F G : Nat → Prop} {X : XC} {t m np own c n s : Nat} {M : List KV} {d : Str}
/-- What files.Read answers of a file d. -/
def rdAns (d : Str) (s : Nat) : Value := if s = d.length then .tuple #[.string ⟨d.toArray⟩, .int .i64 0] else .tuple #[.string ⟨#[]⟩, .int .i64 4]
theorem chunkN_eq (L ch : Nat) (hc : 1 ≤ ch) : ((L : Int) + ch - 1) / ch = (chunkN ch L : Nat) := by
  unfold chunkN
  rw [Int.natCast_ediv]
  congr 1; omega
/-- The loop of files.Read has come to chunk i. -/
def RdSt (B : Nat) (F' : Nat → Prop) (ch : Nat) (d : Str) (w1 : World) (i : Nat) (v : Value) (wr : World) : Prop :=
  Only NoB w1 wr ∧ Own wr (fun k => B ≤ k) 5 1 v (min (ch * i) d.length) ((d.take (ch * i)).map byteV)
set_option maxHeartbeats 2000000 in
theorem fread_ok (h : KvAt w F X t m np own M c) (hn : 1 ≤ n ∧ n ≤ 16777215) (hs : s ≤ 65536) (hd : d.length ≤ 65536) (hun : under (fpre n) M = chunks (chunkOf m) (fpre n) d) :
    Calls Tryz.prog 18 #[.pointer (some ⟨t, 0, none⟩), .int .i64 n, .int .i64 s] w (KvOut w F X t m np own (rdAns d s) M c) := by
  have hch : 1 ≤ chunkOf m ∧ chunkOf m ≤ 200 := by
    have := h.m12
    unfold chunkOf NodeD.most
    omega
  have HR := Lib.hid (ready_ok (n := n) h (by omega))
  have hPR := fun w1 => fprefix_ok (w := w1) n
  rw [preAns_ok (by omega)] at hPR
  have HPR := Lib.hid hPR
  have hlen : (under (fpre n) M).length = chunkN (chunkOf m) d.length := by rw [hun, chunks_len]
  have hNd : chunkN (chunkOf m) d.length ≤ 65536 := by
    rw [chunkN]
    refine Nat.le_trans (Nat.div_le_div_right (c := chunkOf m) (b := 65536 * chunkOf m + (chunkOf m - 1)) (by have : 65536 * 1 ≤ 65536 * chunkOf m := Nat.mul_le_mul_left _ hch.1; omega)) ?_
    rw [Nat.mul_comm, Nat.mul_add_div (by omega), Nat.div_eq_of_lt (by omega)]
    omega
  have HA : Hid (∀ (w1 : World) (q : Nat), Only NoB w w1 → Calls Tryz.prog 23 #[.pointer (some ⟨t, 0, none⟩), .string ⟨(fpre n).toArray⟩, .int .i64 q] w1 _) := Lib.hid fun w1 q ho => kv_all (most := q) (h.quit ho) (pre := fpre n) (by simp [fpre, be3i]) (by omega)
  obtain ⟨ch, hc⟩ : ∃ ch, ch = chunkOf m := ⟨_, rfl⟩
  rw [← hc] at HR hch hNd hlen hun
  have hq := chunkN_eq s ch hch.1
  obtain ⟨q, hqe⟩ : ∃ q, q = chunkN ch s := ⟨_, rfl⟩
  rw [← hqe] at hq
  have hs1 : (s : Int) ≤ 65536 := by omega
  have hc0 : (ch : Int) ≠ 0 := by omega
  have hc1 : (1 : Int) ≤ ch := by omega
  have HN := Lib.hid hn
  have HH := Lib.hid h
  have HUN := Lib.hid hun
  have HLEN := Lib.hid hlen
  have HND := Lib.hid hNd
  have HQE := Lib.hid hqe
  obtain ⟨R, hR⟩ : ∃ R, R = rdAns d s := ⟨_, rfl⟩
  rw [← hR]
  have HRE := Lib.hid hR
  clear h hn hc hun hlen hNd hqe hR hPR
  go_enter Tryz.func18, Tryz.ntmps18
  go_wp2_with fail
  refine HR.out.mono ?_
  rintro e w1 ⟨rfl, ho⟩
  have HO := Lib.hid ho
  clear ho
  go_wp2_with fail
  refine (HPR.out w1).mono ?_
  rintro e w2 ⟨rfl, ho⟩
  have HO2 := Lib.hid (HO.out.trans ho)
  clear ho
  go_wp2_with fail
  refine (HA.out w2 q HO2.out).mono ?_
  rintro e w3 ⟨F3, hall, hk3, ho3, hg3⟩
  have hkk : KvAt w3 F3 X t m np own M c ∧ Only F w w3 ∧ Grows F F3 w := ⟨hk3, (HO2.out.mono fun _ _ h => h.elim).trans' ho3 fun k hk hf => hf, fun k hk => (hg3 k hk).imp id fun h => Nat.le_trans HO2.out.size h⟩
  have HKK := Lib.hid hkk
  have hs3 := Nat.le_trans HO2.out.size ho3.size
  have hs2 := HO2.out.size
  clear hk3 ho3 hg3 hkk
  rcases hall with ⟨hle, v, rfl, hown⟩ | ⟨hgt, rfl⟩
  · obtain ⟨A, cp, rfl, _⟩ := hown.shape
    obtain ⟨N, hN⟩ : ∃ N, N = (under (fpre n) M).length := ⟨_, rfl⟩
    rw [← hN] at hle hown ⊢
    by_cases hqN : N = q
    · subst hqN
      have HOW := Lib.hid hown
      have HNE := Lib.hid hN
      have HST : Hid (RdSt w3.heap.size F3 ch d w3 0 (.slice none 0 0) w3) := Lib.hid ⟨Only.refl _ _, by simpa using Own.nil w3 _ 5 1⟩
      clear hown hN hle
      go_wp2_with fail
      go_loopg [14, 73] N (fun g s14 s73 wr => ∃ i : Nat, s73 = .int .i64 i ∧ i ≤ N ∧ g = N - i ∧ Hid (RdSt w3.heap.size F3 ch d w3 i s14 wr))
      case atStart => exact ⟨0, rfl, Nat.zero_le _, rfl, HST⟩
      case round =>
        clear HST
        obtain ⟨i, rfl, hiN, hgk, HST⟩ := hrel
        obtain ⟨how, hov⟩ := HST.out
        obtain ⟨A2, c2, rfl, _⟩ := hov.shape
        by_cases hlt : i < N
        · have hltI : (i : Int) < (N : Int) := by omega
          have hlen := HLEN.out
          have hxe : (under (fpre n) M)[i]? = some (ckey (fpre n) i, chunkAt ch d i) := by
            rw [HUN.out]
            unfold chunks
            rw [List.getElem?_map, List.getElem?_range (by rw [← hlen, ← HNE.out]; exact hlt)]; rfl
          have hkey : ckey (fpre n) i = (99 : UInt8) :: (be3 n ++ be2 i) := by unfold ckey fpre; rw [be3i_nat HN.out.2]; rfl
          obtain ⟨hx1, hx2⟩ := pairL_get hxe
          have how3 := HOW.out.only how fun _ _ => id
          obtain ⟨g, c3, cs, hve, hnc, hKg, hB, hcs, hcell, hcl, _⟩ := how3.open_ (by omega)
          injection hve with q1 q2 q3
          subst q1; subst q3
          have y1 := hcl _ _ hx1
          have y2 := hcl _ _ hx2
          rw [hkey] at y1
          unfold strV at y1 y2
          obtain ⟨V, hV⟩ : ∃ V, V = chunkAt ch d i := ⟨_, rfl⟩
          rw [← hV] at y2
          simp only at y1 y2
          have hVl : V.length = min ch (d.length - ch * i) := by rw [hV]; unfold chunkAt; rw [List.length_take, List.length_drop]
          have hil : ch * i < d.length := (chunkN_lt (by omega)).1 (by rw [← hlen, ← HNE.out]; exact hlt)
          have hi6 : i ≤ 65535 := by have := HND.out; have := HNE.out; omega
          have hms : N - (i + 1) < gk := by omega
          have HB : Hid (∀ w', Calls Tryz.prog 50 #[.agg (keyC 3 [] [] n i)] w' _) := Lib.hid fun w' => bytes_chunk HN.out hi6
          unfold keyC at HB
          obtain ⟨lo, hlo⟩ : ∃ lo, lo = min (ch * i) d.length := ⟨_, rfl⟩
          rw [← hlo] at hov ⊢
          have HOV0 := Lib.hid hov
          have HSTEP : Hid (∀ w5 v8 w8, Only NoB wr w5 → App w5 (fun k => w3.heap.size ≤ k) 5 1 (.slice A2 lo c2) lo (ByteArray.mk V.toArray).size ((d.take (ch * i)).map byteV) (Lib.strCells ⟨V.toArray⟩) v8 w8 → RdSt w3.heap.size F3 ch d w3 (i + 1) v8 w8) := Lib.hid fun w5 v8 w8 ho5 ha => by
            have hsz : (ByteArray.mk V.toArray).size = V.length := by show V.toArray.size = _; simp
            rw [hsz, strCells_mk] at ha
            refine ⟨(how.trans ho5).trans' ha.only fun k hk hf => ?_, ?_⟩
            · have := hov.2 k hf; omega
            · have h1 := ha.own
              have hcat : d.take (ch * i) ++ V = d.take (ch * (i + 1)) := by rw [hV]; unfold chunkAt; rw [← List.take_add, ← Nat.mul_succ]
              rw [← List.map_append, hcat] at h1
              have hln : lo + V.length = min (ch * (i + 1)) d.length := by rw [hlo, hVl, Nat.mul_succ]; omega
              rw [hln] at h1
              refine h1.mono fun k hk _ => ?_
              rcases hk with hk | hk
              · exact hk
              · have := how.size; have := ho5.size; omega
          have hlo6 : lo ≤ 65536 := by omega
          have hVc : V.length ≤ 200 := by omega
          by_cases hlast : i + 1 < N
          · have hl1 : (i : Int) + 1 < (N : Int) := by omega
            have hil2 : ch * (i + 1) < d.length := (chunkN_lt (by omega)).1 (by rw [← hlen, ← HNE.out]; exact hlast)
            have hvl : V.length = ch := by rw [hVl]; rw [Nat.mul_succ] at hil2; omega
            clear hVl hV hx1 hx2 hcell hcl hB hcs hKg hnc how3 hov how hlen hxe hkey hlo hil hil2 hgk HST
            go_wp2_with fail
            refine (HB.out _).mono ?_
            rintro e w5 ⟨rfl, ho5⟩
            have HO5 := Lib.hid (((Only.refl NoB wr).alloc (.cells #[.string ⟨((99 : UInt8) :: (be3 n ++ be2 i)).toArray⟩, .string ⟨V.toArray⟩] 52)).trans ho5)
            have HOV := Lib.hid (HOV0.out.only HO5.out fun _ _ => id)
            have hb5 := (Blk.new wr 52 #[.string ⟨((99 : UInt8) :: (be3 n ++ be2 i)).toArray⟩, .string ⟨V.toArray⟩]).only ho5 id
            have z1 := hb5.cell 0
            have z2 := hb5.cell 1
            clear ho5 hb5 y1 y2
            go_wp2_with (at_builtin; refine wpList_app_str rfl _ _ _ _ rfl (by kernel_rfl) (by kernel_rfl) Ty.byte rfl rfl HOV.out (by show _ + (V.toArray).size ≤ _; rw [List.size_toArray]; omega) ?_; intro v8 w8 ha8; have HA8 := Lib.hid ha8; clear ha8)
            have HN8 := Lib.hid (HSTEP.out w5 v8 w8 HO5.out HA8.out)
            clear z1 z2 HA8
            go_wp2_with fail
            go_roundg (N - (i + 1))
            case measure => exact hms
            case rel => exact ⟨i + 1, rfl, by omega, rfl, HN8⟩
          · have hl1 : ¬ ((i : Int) + 1 < (N : Int)) := by omega
            clear hVl hV hx1 hx2 hcell hcl hB hcs hKg hnc how3 hov how hlen hxe hkey hlo hil hgk HST
            go_wp2_with fail
            refine (HB.out _).mono ?_
            rintro e w5 ⟨rfl, ho5⟩
            have HO5 := Lib.hid (((Only.refl NoB wr).alloc (.cells #[.string ⟨((99 : UInt8) :: (be3 n ++ be2 i)).toArray⟩, .string ⟨V.toArray⟩] 52)).trans ho5)
            have HOV := Lib.hid (HOV0.out.only HO5.out fun _ _ => id)
            have hb5 := (Blk.new wr 52 #[.string ⟨((99 : UInt8) :: (be3 n ++ be2 i)).toArray⟩, .string ⟨V.toArray⟩]).only ho5 id
            have z1 := hb5.cell 0
            have z2 := hb5.cell 1
            clear ho5 hb5 y1 y2
            go_wp2_with (at_builtin; refine wpList_app_str rfl _ _ _ _ rfl (by kernel_rfl) (by kernel_rfl) Ty.byte rfl rfl HOV.out (by show _ + (V.toArray).size ≤ _; rw [List.size_toArray]; omega) ?_; intro v8 w8 ha8; have HA8 := Lib.hid ha8; clear ha8)
            have HN8 := Lib.hid (HSTEP.out w5 v8 w8 HO5.out HA8.out)
            clear z1 z2 HA8
            go_wp2_with fail
            go_roundg (N - (i + 1))
            case measure => exact hms
            case rel => exact ⟨i + 1, rfl, by omega, rfl, HN8⟩
        · have hge : ¬ ((i : Int) < (N : Int)) := by omega
          have hNi : ¬ (ch * i < d.length) := fun hh => by
            have h1 := (chunkN_lt (by omega)).2 hh
            rw [← HLEN.out, ← HNE.out] at h1
            exact hlt h1
          have hmin : min (ch * i) d.length = d.length := Nat.min_eq_right (by omega)
          have htk : d.take (ch * i) = d := List.take_of_length_le (by omega)
          rw [hmin, htk] at hov
          rw [hmin]
          have hcv : (convert 50 9 (.slice A2 d.length c2)).run Tryz.prog wr = .ok (.string ⟨d.toArray⟩) wr := conv_bytes' (K := fun k => w3.heap.size ≤ k) hov.rd
          have HEND : Hid (∀ v, R = v → KvOut w F X t m np own R M c (.returned v) wr) := Lib.hid fun v hv => ⟨by rw [hv], F3, HKK.out.1.quit how, HKK.out.2.1.trans' how fun k hk hf => hf.elim, HKK.out.2.2⟩
          obtain ⟨dl, hdl⟩ : ∃ dl, dl = d.length := ⟨_, rfl⟩
          rw [← hdl] at hcv ⊢
          by_cases hsd : s = dl
          · have hR : R = .tuple #[.string ⟨d.toArray⟩, .int .i64 0] := by rw [HRE.out, rdAns, if_pos (hsd.trans hdl)]
            have HE := Lib.hid (HEND.out _ hR)
            have hsI : (dl : Int) = (s : Int) := by omega
            subst hsd
            clear hov how hNi hmin htk hdl hR HST hgk
            go_wp2_with fail
            go_ret2
            exact HE.out
          · have hR : R = .tuple #[.string ⟨#[]⟩, .int .i64 4] := by rw [HRE.out, rdAns, if_neg (fun e => hsd (e.trans hdl.symm))]
            have HE := Lib.hid (HEND.out _ hR)
            have hsI : ¬ ((dl : Int) = (s : Int)) := by omega
            clear hov how hNi hmin htk hdl hR HST hgk hcv
            go_wp2_with fail
            go_ret2
            exact HE.out
    · have hne : ¬ ((N : Int) = (q : Int)) := by omega
      have hsd : s ≠ d.length := fun e => by
        have h1 := HLEN.out
        have h2 := HQE.out
        rw [e] at h2
        omega
      have HE : Hid (KvOut w F X t m np own R M c (.returned (.tuple #[.string ⟨#[]⟩, .int .i64 4])) w3) := Lib.hid ⟨by rw [HRE.out, rdAns, if_neg hsd], F3, HKK.out⟩
      clear hown hN hsd hle
      go_wp2_with fail
      go_ret2
      exact HE.out
  · have hsd : s ≠ d.length := fun e => by
      have h1 := HLEN.out
      have h2 := HQE.out
      rw [e] at h2
      omega
    have HE : Hid (KvOut w F X t m np own R M c (.returned (.tuple #[.string ⟨#[]⟩, .int .i64 4])) w3) := Lib.hid ⟨by rw [HRE.out, rdAns, if_neg hsd], F3, HKK.out⟩
    clear hsd hgt
    go_wp2_with fail
    go_ret2
    exact HE.out
end
end Go.Proofs.YtdipjakblaeekaaGreat

/- chandlerylaw13.open. -/
namespace Go.Proofs.YtdipjakblaeekaaGreat
open Go.RowKit Go.Proofs Go.Shelf
set_option maxRecDepth 20000
attribute [local go_sem] Oper.semAt_some
section
variable {w w' : World} {m : Nat}
def OpenT (w : World) (m : Nat) (e : Ending) (w' : World) : Prop :=
  ∃ t F X, e = .returned (.pointer (some ⟨t, 0, none⟩)) ∧ KvAt w' F X t m 600 (ownOf 600 m) [] 0 ∧ Only NoB w w' ∧ ∀ k, F k → w.heap.size ≤ k
set_option maxHeartbeats 1000000 in
theorem open13_ok (h1 : 64 ≤ m) (h2 : m ≤ 4096) : Calls Tryz.prog 15 #[.int .i64 m] w (OpenT w m) := by
  have HN := Lib.hid (new_ok 602 m (by omega) (by omega) (by omega) h2 w)
  have H1 := Lib.hid h1
  have H2 := Lib.hid h2
  clear h1 h2
  go_enter Tryz.func15, Tryz.ntmps15
  go_wp2_with fail
  refine HN.out.mono ?_
  rintro e w1 ⟨b, G, rfl, hd, ho1, hG⟩
  have hz : (DD.new 602 m).at_ 0 = 0 :: List.replicate (m - 1) 0 := by
    show DD.zero m = _
    unfold DD.zero
    have h64 := H1.out
    obtain ⟨k, hk⟩ : ∃ k, m = k + 1 := ⟨m - 1, by omega⟩
    rw [hk]; rfl
  have HW := Lib.hid (wopen_new hd 1 (by omega) (by show 3 + 3 * 1 ≤ m; have := H1.out; omega) (by show 1 + 1 < 602; omega) rfl 0 _ hz (by decide))
  have HO1 := Lib.hid ho1
  have HG := Lib.hid hG
  clear hd ho1 hG hz
  go_wp2_with fail
  refine HW.out.mono ?_
  rintro e w2 ⟨a, rfl, hw, ho2, ha⟩
  have hroom : ownOf 600 m + 2 ≤ 600 := by
    have := H1.out
    unfold ownOf
    have h3 : (600 + 8 * m - 1) / (8 * m) ≤ 3 := by
      refine Nat.le_trans (Nat.div_le_of_le_mul (n := 3) ?_) (Nat.le_refl _)
      omega
    omega
  have HP := Lib.hid (popen_ok (X := freshX a b 600 m) (D := freshD 600 m) hw (fresh_base (by have := H1.out; omega) H2.out (by omega) hroom) (fresh_begin a b 600 m).symm)
  have HO2 := Lib.hid (HO1.out.trans ho2)
  have HA := Lib.hid ha
  clear hw ho2 ha hroom
  go_wp2_with fail
  refine HP.out.mono ?_
  rintro e w3 ⟨pg, rfl, hp, ho3, hpg⟩
  have HB := Lib.hid (begin_ok hp)
  have HO3 := Lib.hid (HO2.out.trans ho3)
  have HPG := Lib.hid hpg
  have HS := Lib.hid ho3.size
  clear hp ho3 hpg
  go_wp2_with fail
  refine HB.out.mono ?_
  rintro e w4 ⟨t, F, rfl, ht, ho4, hF⟩
  have hOk : Only NoB w w4 ∧ ∀ k, F k → w.heap.size ≤ k := by
    have s1 := HO1.out.size
    have s2 := HO2.out.size
    have s3 := HO3.out.size
    have hlow : ∀ k, (G k ∨ k = (freshX a b 600 m).a ∨ k = pg) → w.heap.size ≤ k := fun k hk => by
      rcases hk with hk | hk | hk
      · exact HG.out k hk
      · have := HA.out; have hk : k = a := hk; omega
      · have := HPG.out; omega
    exact ⟨HO3.out.trans' ho4 fun k hk hf => by have := hlow k hf; omega, fun k hk => (hF k hk).elim (hlow k) fun h => by omega⟩
  have HR : Hid (OpenT w m (.returned (.pointer (some ⟨t, 0, none⟩))) w4) := Lib.hid ⟨t, F, freshX a b 600 m, rfl, ⟨freshD 600 m, .inl ht, fresh_bt H1.out H2.out (by omega), rfl, rfl, rfl, fun x hx => by cases hx⟩, hOk⟩
  clear ht ho4 hF hOk
  go_wp2_with fail
  go_ret
  exact HR.out
end
end Go.Proofs.YtdipjakblaeekaaGreat

/- A TRANSACTION THAT HOLDS FILES: what the calls of files do to it. -/
namespace Go.Proofs.YtdipjakblaeekaaGreat
open Go.RowKit Go.Proofs Go.Shelf
set_option maxRecDepth 20000
section
variable {w w' : World} {F G : Nat → Prop} {X : XC} {t m c n s : Nat} {M : List KV} {d : Str} {D : Nat → Str}
theorem ofNat_mod {a b : Nat} (h : UInt8.ofNat a = UInt8.ofNat b) : a % 256 = b % 256 := by
  have := congrArg UInt8.toNat h
  simpa using this
theorem fpre_inj {a b : Nat} (ha : a ≤ 16777215) (hb : b ≤ 16777215) (h : fpre a = fpre b) : a = b := by
  unfold fpre at h
  rw [be3i_nat ha, be3i_nat hb] at h
  unfold be3 at h
  injection h with _ h
  injection h with h1 h
  injection h with h2 h
  injection h with h3 _
  have e1 := ofNat_mod h1
  have e2 := ofNat_mod h2
  have e3 := ofNat_mod h3
  omega
theorem fpre_len (a b : Int) : (fpre a).length = (fpre b).length := rfl
/-- The transaction t holds the files D, and nothing else. -/
def FlAt (w : World) (F : Nat → Prop) (X : XC) (t m : Nat) (D : Nat → Str) (c : Nat) : Prop :=
  ∃ M, KvAt w F X t m 600 (ownOf 600 m) M c ∧ (∀ n : Nat, 1 ≤ n ∧ n ≤ 16777215 → under (fpre n) M = chunks (chunkOf m) (fpre n) (D n) ∧ (D n).length ≤ 65536) ∧ ∀ x ∈ M, ∃ n : Nat, (1 ≤ n ∧ n ≤ 16777215) ∧ hasP (fpre n) x.1 = true
def FlOut (w : World) (F : Nat → Prop) (X : XC) (t m : Nat) (v : Value) (D : Nat → Str) (c : Nat) (e : Ending) (w' : World) : Prop :=
  e = .returned v ∧ ∃ F', FlAt w' F' X t m D c ∧ Only F w w' ∧ Grows F F' w
/-- File n is d now. -/
def setF (D : Nat → Str) (n : Nat) (d : Str) : Nat → Str := fun k => if k = n then d else D k
theorem fl_new (h : KvAt w F X t m 600 (ownOf 600 m) [] 0) : FlAt w F X t m (fun _ => []) 0 := by
  refine ⟨[], h, fun n _ => ⟨?_, by simp⟩, fun x hx => by cases hx⟩
  have : chunkOf m ≤ 200 := by unfold chunkOf; omega
  have h0 : chunkN (chunkOf m) 0 = 0 := by
    unfold chunkN
    rcases Nat.eq_zero_or_pos (chunkOf m) with h | h
    · rw [h]
    · exact Nat.div_eq_of_lt (by omega)
  simp [chunks, h0, under]
theorem FlAt.m12 (h : FlAt w F X t m D c) : 64 ≤ m ∧ m ≤ 4096 := by obtain ⟨M, hk, _⟩ := h; exact hk.m12
theorem FlAt.quit (h : FlAt w F X t m D c) (ho : Only NoB w w') : FlAt w' F X t m D c := by obtain ⟨M, hk, r⟩ := h; exact ⟨M, hk.quit ho, r⟩
theorem chunkOf_le (h : 64 ≤ m) : 1 ≤ chunkOf m ∧ chunkOf m ≤ 200 := by unfold chunkOf NodeD.most; omega
theorem chunkN_le {ch L : Nat} (hc : 1 ≤ ch) : chunkN ch L ≤ L := by
  unfold chunkN
  rcases Nat.eq_zero_or_pos L with h | h
  · subst h; rw [Nat.div_eq_of_lt (by omega)]; exact Nat.le_refl _
  · refine Nat.div_le_of_le_mul ?_
    obtain ⟨l, rfl⟩ : ∃ l, L = l + 1 := ⟨L - 1, by omega⟩
    rw [Nat.mul_comm, Nat.succ_mul]
    have : l * 1 ≤ l * ch := Nat.mul_le_mul_left _ hc
    omega
theorem fl_turn {M M' : List KV} {d : Str} (hn : 1 ≤ n ∧ n ≤ 16777215) (hd : d.length ≤ 65536) (hu : under (fpre n) M' = chunks (chunkOf m) (fpre n) d) (hr : rid (fpre n) M' = rid (fpre n) M)
    (hD : ∀ n : Nat, 1 ≤ n ∧ n ≤ 16777215 → under (fpre n) M = chunks (chunkOf m) (fpre n) (D n) ∧ (D n).length ≤ 65536) (hM : ∀ x ∈ M, ∃ n : Nat, (1 ≤ n ∧ n ≤ 16777215) ∧ hasP (fpre n) x.1 = true) :
    (∀ k : Nat, 1 ≤ k ∧ k ≤ 16777215 → under (fpre k) M' = chunks (chunkOf m) (fpre k) (setF D n d k) ∧ (setF D n d k).length ≤ 65536) ∧ ∀ x ∈ M', ∃ k : Nat, (1 ≤ k ∧ k ≤ 16777215) ∧ hasP (fpre k) x.1 = true := by
  refine ⟨fun k hk => ?_, fun x hx => ?_⟩
  · unfold setF
    split
    · rename_i h; subst h; exact ⟨hu, hd⟩
    · rename_i h
      have hne : fpre n ≠ fpre k := fun e => h (fpre_inj hn.2 hk.2 e).symm
      rw [← under_other (fpre_len _ _) hne, hr, under_other (fpre_len _ _) hne]
      exact hD k hk
  · cases hp : hasP (fpre n) x.1 with
    | true => exact ⟨n, hn, hp⟩
    | false =>
      have : x ∈ rid (fpre n) M' := List.mem_filter.2 ⟨hx, by simp [hp]⟩
      rw [hr] at this
      exact hM x (List.mem_filter.1 this).1
theorem fl_write (h : FlAt w F X t m D c) (hn : 1 ≤ n ∧ n ≤ 16777215) (hd : d.length ≤ 65536) (hroom : c + chunkN (chunkOf m) d.length ≤ 600 - (ownOf 600 m + 1)) :
    Calls Tryz.prog 16 #[.pointer (some ⟨t, 0, none⟩), .int .i64 n, .string ⟨d.toArray⟩] w (FlOut w F X t m (.int .i64 0) (setF D n d) (c + chunkN (chunkOf m) d.length)) := by
  obtain ⟨M, hk, hD, hM⟩ := h
  have hch := chunkOf_le hk.m12.1
  have hl : (under (fpre n) M).length ≤ 1000000 := by
    rw [(hD n hn).1, chunks_len]
    have := chunkN_le (L := (D n).length) hch.1
    have := (hD n hn).2
    omega
  refine (fwrite_ok hk hn hd (by have := chunkN_le (L := d.length) hch.1; omega) hroom hl).mono ?_
  rintro e w1 ⟨rfl, M', F', h1, h2, h3, h4, h5⟩
  exact ⟨rfl, F', ⟨M', h1, fl_turn hn hd h2 h3 hD hM⟩, h4, h5⟩
theorem fl_drop (h : FlAt w F X t m D c) (hn : 1 ≤ n ∧ n ≤ 16777215) :
    Calls Tryz.prog 20 #[.pointer (some ⟨t, 0, none⟩), .int .i64 n] w (FlOut w F X t m (.tuple #[.int .i64 (chunkN (chunkOf m) (D n).length : Nat), .int .i64 0]) (setF D n []) c) := by
  obtain ⟨M, hk, hD, hM⟩ := h
  have hch := chunkOf_le hk.m12.1
  have hle : (under (fpre n) M).length = chunkN (chunkOf m) (D n).length := by rw [(hD n hn).1, chunks_len]
  have hl : (under (fpre n) M).length ≤ 1000000 := by
    rw [hle]
    have := chunkN_le (L := (D n).length) hch.1
    have := (hD n hn).2
    omega
  have hdr := fdrop_ok (n := n) hk (by omega) hl
  rw [hle] at hdr
  refine hdr.mono ?_
  rintro e w1 ⟨rfl, F', h1, h4, h5⟩
  refine ⟨rfl, F', ⟨_, h1, fl_turn (d := []) hn (by simp) ?_ rid_rid hD hM⟩, h4, h5⟩
  rw [under_rid_self]
  have h0 : chunkN (chunkOf m) 0 = 0 := Nat.div_eq_of_lt (by omega)
  simp [chunks, h0]
theorem fl_read (h : FlAt w F X t m D c) (hn : 1 ≤ n ∧ n ≤ 16777215) (hs : s ≤ 65536) :
    Calls Tryz.prog 18 #[.pointer (some ⟨t, 0, none⟩), .int .i64 n, .int .i64 s] w (FlOut w F X t m (rdAns (D n) s) D c) := by
  obtain ⟨M, hk, hD, hM⟩ := h
  refine (fread_ok hk hn hs (hD n hn).2 (hD n hn).1).mono ?_
  rintro e w1 ⟨rfl, F', h1, h4, h5⟩
  exact ⟨rfl, F', ⟨M, h1, hD, hM⟩, h4, h5⟩
/-- What all files hold, where file n alone has bytes. -/
theorem fl_one (hM : ∀ x ∈ M, ∃ n : Nat, (1 ≤ n ∧ n ≤ 16777215) ∧ hasP (fpre n) x.1 = true) (hD : ∀ n : Nat, 1 ≤ n ∧ n ≤ 16777215 → under (fpre n) M = chunks (chunkOf m) (fpre n) (D n) ∧ (D n).length ≤ 65536) (h64 : 64 ≤ m) (hn : 1 ≤ n ∧ n ≤ 16777215) (h0 : ∀ k, k ≠ n → D k = []) : M = chunks (chunkOf m) (fpre n) (D n) := by
  rw [← (hD n hn).1]
  symm
  apply List.filter_eq_self.2
  intro x hx
  obtain ⟨k, hk, hp⟩ := hM x hx
  by_cases e : k = n
  · subst e; exact hp
  · have h1 := (hD k hk).1
    rw [h0 k e] at h1
    have hch := chunkOf_le h64
    have h2 : chunkN (chunkOf m) 0 = 0 := Nat.div_eq_of_lt (by omega)
    have h3 : under (fpre k) M = [] := by rw [h1]; simp [chunks, h2]
    have : x ∈ under (fpre k) M := List.mem_filter.2 ⟨hx, hp⟩
    rw [h3] at this
    cases this
theorem under_all : under [] M = M := List.filter_eq_self.2 fun x _ => hasP_nil _
theorem fl_count (h : FlAt w F X t m D c) (hn : 1 ≤ n ∧ n ≤ 16777215) (h0 : ∀ k, k ≠ n → D k = []) :
    Calls Tryz.prog 22 #[.pointer (some ⟨t, 0, none⟩), .string ⟨#[]⟩] w (FlOut w F X t m (.tuple #[.int .i64 (chunkN (chunkOf m) (D n).length : Nat), .int .i64 0]) D c) := by
  obtain ⟨M, hk, hD, hM⟩ := h
  have hch := chunkOf_le hk.m12.1
  have hMe := fl_one hM hD hk.m12.1 hn h0
  have hle : (under [] M).length = chunkN (chunkOf m) (D n).length := by rw [under_all, hMe, chunks_len]
  have hcn := kv_count (pre := []) hk (by simp) (by
    rw [hle]
    have := chunkN_le (L := (D n).length) hch.1
    have := (hD n hn).2
    omega)
  rw [hle] at hcn
  refine hcn.mono ?_
  rintro e w1 ⟨rfl, F', h1, h4, h5⟩
  exact ⟨rfl, F', ⟨M, h1, hD, hM⟩, h4, h5⟩
end
end Go.Proofs.YtdipjakblaeekaaGreat

/- chandlerylaw13.awake. -/
namespace Go.Proofs.YtdipjakblaeekaaGreat
open Go.RowKit Go.Proofs Go.Shelf
set_option maxRecDepth 20000
attribute [local go_sem] Oper.semAt_some
section
variable {w w' : World} {F G : Nat → Prop} {X : XC} {t m c n s : Nat}
theorem low_trans {w0 w1 w2 : World} {F F' : Nat → Prop} (h1 : Only NoB w0 w1) (hF : ∀ k, F k → w0.heap.size ≤ k) (h2 : Only F w1 w2) (hg : Grows F F' w1) : Only NoB w0 w2 ∧ ∀ k, F' k → w0.heap.size ≤ k :=
  ⟨h1.trans' h2 fun k hk hf => by have := hF k hf; omega, fun k hk => (hg k hk).elim (hF k) fun h => Nat.le_trans h1.size h⟩
set_option maxHeartbeats 2000000 in
theorem awake13_ok : Calls Tryz.prog 13 #[] w fun e w' => e = .returned (.bool true) ∧ Only NoB w w' := by
  have HC := Lib.hid (chunk_ok (m := 128) (w := w) (by omega) (by omega))
  have hc : chunkOf 128 = 18 := rfl
  rw [hc] at HC
  have HT := Lib.hid (open13_ok (m := 64) (w := w) (by omega) (by omega))
  go_enter Tryz.func13, Tryz.ntmps13
  go_wp2_with fail
  refine HC.out.mono ?_
  rintro e w1 ⟨rfl, rfl⟩
  go_wp2_with fail
  refine HT.out.mono ?_
  rintro e w1 ⟨t, F, X, rfl, hk, ho, hF⟩
  have HF := Lib.hid hF
  have HO := Lib.hid ho
  have HW := Lib.hid (fl_write (n := 1) (d := [97, 98, 99]) (fl_new hk) (by omega) (by simp) (by decide))
  clear hk ho hF
  go_wp2_with fail
  refine HW.out.mono ?_
  rintro e w2 ⟨rfl, F2, hk, ho, hg⟩
  have h2 := low_trans HO.out HF.out ho hg
  have HF := Lib.hid h2.2
  have HO := Lib.hid h2.1
  have HR := Lib.hid (fl_read (n := 1) (s := 3) hk (by omega) (by omega))
  clear hk ho hg h2
  go_wp2_with fail
  refine HR.out.mono ?_
  rintro e w3 ⟨rfl, F3, hk, ho, hg⟩
  have h2 := low_trans HO.out HF.out ho hg
  have HF := Lib.hid h2.2
  have HO := Lib.hid h2.1
  have HR := Lib.hid (fl_read (n := 1) (s := 2) hk (by omega) (by omega))
  clear hk ho hg h2
  have hv3 : rdAns (setF (fun _ => []) 1 [97, 98, 99] 1) 3 = .tuple #[.string ⟨#[97, 98, 99]⟩, .int .i64 0] := rfl
  rw [hv3]
  go_wp2_with fail
  refine HR.out.mono ?_
  rintro e w4 ⟨rfl, F4, hk, ho, hg⟩
  have h2 := low_trans HO.out HF.out ho hg
  have HF := Lib.hid h2.2
  have HO := Lib.hid h2.1
  have HR := Lib.hid (fl_drop (n := 1) hk (by omega))
  clear hk ho hg h2
  have hv2 : rdAns (setF (fun _ => []) 1 [97, 98, 99] 1) 2 = .tuple #[.string ⟨#[]⟩, .int .i64 4] := rfl
  rw [hv2]
  have hN : chunkN (chunkOf 64) (setF (fun _ => []) 1 [97, 98, 99] 1).length = 2 := by decide
  rw [hN] at HR
  go_wp2_with fail
  refine HR.out.mono ?_
  rintro e w5 ⟨rfl, F5, hk, ho, hg⟩
  have h2 := low_trans HO.out HF.out ho hg
  have HO := Lib.hid h2.1
  clear hk ho hg h2
  go_wp2_with fail
  go_ret
  exact ⟨rfl, HO.out⟩
end
end Go.Proofs.YtdipjakblaeekaaGreat

/- FilesOwn: the walk. -/
namespace Go.Proofs.YtdipjakblaeekaaGreat
open Go.RowKit Go.Proofs Go.Shelf
set_option maxRecDepth 20000
attribute [local go_sem] Oper.semAt_some
section
variable {w w' : World} {t m c : Nat}
set_option maxHeartbeats 2000000 in
theorem filesOwn_badsize (size n m : Int) (a b : Str) (ha : a.length ≤ 9223372036854775807) (hb : b.length ≤ 9223372036854775807) (h : ¬ (64 ≤ size ∧ size ≤ 4096)) : Calls Tryz.prog 4 #[.int .i64 size, .string ⟨a.toArray⟩, .string ⟨b.toArray⟩, .int .i64 n, .int .i64 m] w (Quit w (.bool true)) := by
  have HC := Lib.hid (chunk_bad (w := w) size h)
  have HA := Lib.hid (awake13_ok (w := w))
  clear h
  go_enter Tryz.func4, Tryz.ntmps4
  go_wp2_with fail
  refine HC.out.mono ?_
  rintro e w1 ⟨rfl, rfl⟩
  go_wp2_with fail
  refine HA.out.mono ?_
  rintro e w1 ⟨rfl, ho⟩
  have HO := Lib.hid ho
  clear ho
  go_wp2_with fail
  go_ret
  exact ⟨rfl, HO.out⟩
def ownOk (ch : Nat) (size n m : Int) (la lb : Nat) : Prop := size ≤ 300 ∧ (la : Int) + lb ≤ 600 ∧ (1 ≤ n ∧ n ≤ 16777215) ∧ (1 ≤ m ∧ m ≤ 16777215) ∧ n ≠ m ∧ ((la : Int) + lb) / ch ≤ 300
set_option maxHeartbeats 4000000 in
theorem filesOwn_skip (size : Nat) (n m : Int) (a b : Str) (ha : a.length ≤ 4000000000000000000) (hb : b.length ≤ 4000000000000000000) (h1 : 64 ≤ size) (h2 : size ≤ 4096) (hno : ¬ ownOk (chunkOf size) size n m a.length b.length) : Calls Tryz.prog 4 #[.int .i64 size, .string ⟨a.toArray⟩, .string ⟨b.toArray⟩, .int .i64 n, .int .i64 m] w (Quit w (.bool true)) := by
  have hch := chunkOf_le h1
  have HC := Lib.hid (chunk_ok (w := w) (m := size) h1 h2)
  have HA := Lib.hid (awake13_ok (w := w))
  obtain ⟨ch, hc⟩ : ∃ ch, ch = chunkOf size := ⟨_, rfl⟩
  rw [← hc] at HC hch hno
  obtain ⟨la, hla⟩ : ∃ la, la = a.length := ⟨_, rfl⟩
  obtain ⟨lb, hlb⟩ : ∃ lb, lb = b.length := ⟨_, rfl⟩
  rw [← hla, ← hlb] at hno
  rw [← hla] at ha
  rw [← hlb] at hb
  have hla' : a.length = la := hla.symm
  have hlb' : b.length = lb := hlb.symm
  have hc1 : (1 : Int) ≤ ch := by omega
  have hc0 : (ch : Int) ≠ 0 := by omega
  have HNO := Lib.hid hno
  clear hc hla hlb hno
  go_enter Tryz.func4, Tryz.ntmps4
  go_wp2_with fail
  refine HC.out.mono ?_
  rintro e w1 ⟨rfl, rfl⟩
  go_wp2_with fail
  all_goals first
    | (refine HA.out.mono ?_; rintro e w1 ⟨rfl, ho⟩; have HO := Lib.hid ho; clear ho; go_wp2_with fail; go_ret; exact ⟨rfl, HO.out⟩)
    | (exfalso; exact HNO.out ⟨by omega, by omega, ⟨by omega, by omega⟩, ⟨by omega, by omega⟩, by omega, by omega⟩)
theorem rdAns_eq {d : Str} {s : Nat} (h : s = d.length) : rdAns d s = .tuple #[.string ⟨d.toArray⟩, .int .i64 0] := by rw [rdAns, if_pos h]
theorem rdAns_ne {d : Str} {s : Nat} (h : s ≠ d.length) : rdAns d s = .tuple #[.string ⟨#[]⟩, .int .i64 4] := by rw [rdAns, if_neg h]
theorem chunkN_up {ch L : Nat} (hc : 1 ≤ ch) : chunkN ch L ≤ L / ch + 1 := by
  unfold chunkN
  rw [← Nat.add_div_right _ (by omega : 0 < ch)]
  exact Nat.div_le_div_right (by omega)
theorem div_two {ch a b : Nat} (hc : 1 ≤ ch) : a / ch + b / ch ≤ (a + b) / ch := by
  rw [Nat.le_div_iff_mul_le (by omega), Nat.add_mul]
  have h1 := Nat.div_mul_le_self a ch
  have h2 := Nat.div_mul_le_self b ch
  omega
theorem own600 (h : 64 ≤ m) : ownOf 600 m ≤ 3 := by
  unfold ownOf
  refine Nat.div_le_of_le_mul ?_
  omega
end
end Go.Proofs.YtdipjakblaeekaaGreat

/- FilesAgain: the walk. -/
namespace Go.Proofs.YtdipjakblaeekaaGreat
open Go.RowKit Go.Proofs Go.Shelf
set_option maxRecDepth 20000
attribute [local go_sem] Oper.semAt_some
section
variable {w w' : World}
set_option maxHeartbeats 2000000 in
theorem filesAgain_badsize (size : Int) (a b : Str) (h : ¬ (64 ≤ size ∧ size ≤ 4096)) : Calls Tryz.prog 5 #[.int .i64 size, .string ⟨a.toArray⟩, .string ⟨b.toArray⟩] w (Quit w (.bool true)) := by
  have HC := Lib.hid (chunk_bad (w := w) size h)
  have HA := Lib.hid (awake13_ok (w := w))
  clear h
  go_enter Tryz.func5, Tryz.ntmps5
  go_wp2_with fail
  refine HC.out.mono ?_
  rintro e w1 ⟨rfl, rfl⟩
  go_wp2_with fail
  refine HA.out.mono ?_
  rintro e w1 ⟨rfl, ho⟩
  have HO := Lib.hid ho
  clear ho
  go_wp2_with fail
  go_ret
  exact ⟨rfl, HO.out⟩
def againOk (ch : Nat) (size : Int) (la lb : Nat) : Prop := size ≤ 300 ∧ la ≤ 500 ∧ lb ≤ 500 ∧ ((la : Int) + lb) / ch ≤ 300
set_option maxHeartbeats 4000000 in
theorem filesAgain_skip (size : Nat) (a b : Str) (h1 : 64 ≤ size) (h2 : size ≤ 4096) (hno : ¬ againOk (chunkOf size) size a.length b.length) : Calls Tryz.prog 5 #[.int .i64 size, .string ⟨a.toArray⟩, .string ⟨b.toArray⟩] w (Quit w (.bool true)) := by
  have hch := chunkOf_le h1
  have HC := Lib.hid (chunk_ok (w := w) (m := size) h1 h2)
  have HA := Lib.hid (awake13_ok (w := w))
  obtain ⟨ch, hc⟩ : ∃ ch, ch = chunkOf size := ⟨_, rfl⟩
  rw [← hc] at HC hch hno
  obtain ⟨la, hla⟩ : ∃ la, la = a.length := ⟨_, rfl⟩
  obtain ⟨lb, hlb⟩ : ∃ lb, lb = b.length := ⟨_, rfl⟩
  rw [← hla, ← hlb] at hno
  have hla' : a.length = la := hla.symm
  have hlb' : b.length = lb := hlb.symm
  have hc1 : (1 : Int) ≤ ch := by omega
  have hc0 : (ch : Int) ≠ 0 := by omega
  have HNO := Lib.hid hno
  clear hc hla hlb hno
  go_enter Tryz.func5, Tryz.ntmps5
  go_wp2_with fail
  refine HC.out.mono ?_
  rintro e w1 ⟨rfl, rfl⟩
  go_wp2_with fail
  all_goals first
    | (refine HA.out.mono ?_; rintro e w1 ⟨rfl, ho⟩; have HO := Lib.hid ho; clear ho; go_wp2_with fail; go_ret; exact ⟨rfl, HO.out⟩)
    | (exfalso; exact HNO.out ⟨by omega, by omega, by omega, by omega⟩)
set_option maxHeartbeats 4000000 in
theorem filesAgain_main (size : Nat) (a b : Str) (h1 : 64 ≤ size) (h2 : size ≤ 4096) (hok : againOk (chunkOf size) size a.length b.length) : Calls Tryz.prog 5 #[.int .i64 size, .string ⟨a.toArray⟩, .string ⟨b.toArray⟩] w (Quit w (.bool true)) := by
  have hch := chunkOf_le h1
  have hch2 : 2 ≤ chunkOf size := by unfold chunkOf NodeD.most; omega
  have HC := Lib.hid (chunk_ok (w := w) (m := size) h1 h2)
  have HA := Lib.hid fun w1 => awake13_ok (w := w1)
  have HT := Lib.hid (open13_ok (m := size) (w := w) h1 h2)
  have hown := own600 h1
  obtain ⟨o1, o2, o3, o6⟩ := hok
  have hroom : chunkN (chunkOf size) a.length + (chunkN (chunkOf size) b.length + chunkN (chunkOf size) b.length) ≤ 560 := by
    have q1 := chunkN_up (L := a.length) hch.1
    have q2 := chunkN_up (L := b.length) hch.1
    have q3 := div_two (a := a.length) (b := b.length) hch.1
    have q4 : (a.length + b.length) / chunkOf size ≤ 300 := by
      have := o6
      rw [← Int.natCast_add, ← Int.natCast_ediv] at this
      omega
    have q5 : b.length / chunkOf size ≤ 250 := Nat.div_le_of_le_mul (by have : 2 * 250 ≤ chunkOf size * 250 := Nat.mul_le_mul_right _ hch2; omega)
    omega
  obtain ⟨la, hla⟩ : ∃ la, la = a.length := ⟨_, rfl⟩
  obtain ⟨lb, hlb⟩ : ∃ lb, lb = b.length := ⟨_, rfl⟩
  obtain ⟨D3, hD3⟩ : ∃ D3, D3 = setF (setF (setF (fun _ => []) 7 a) 7 b) 7 b := ⟨_, rfl⟩
  have e7 : D3 7 = b := by rw [hD3]; simp [setF]
  have e0 : ∀ k, k ≠ 7 → D3 k = [] := fun k hk => by rw [hD3]; simp [setF, hk]
  have r1 := rdAns_eq hlb
  have hqe := chunkN_eq lb (chunkOf size) hch.1
  obtain ⟨q, hq⟩ : ∃ q, q = chunkN (chunkOf size) lb := ⟨_, rfl⟩
  rw [← hq] at hqe
  have hc7 : chunkN (chunkOf size) (D3 7).length = q := by rw [e7, hq, hlb]
  have HW1 := fun w' F X t (hk : FlAt w' F X t size (fun _ => []) 0) => fl_write (n := 7) (d := a) hk (by omega) (by omega) (by omega)
  have HW2 := fun w' F X t (hk : FlAt w' F X t size (setF (fun _ => []) 7 a) (0 + chunkN (chunkOf size) a.length)) => fl_write (n := 7) (d := b) hk (by omega) (by omega) (by omega)
  have HW3 := fun w' F X t (hk : FlAt w' F X t size (setF (setF (fun _ => []) 7 a) 7 b) (0 + chunkN (chunkOf size) a.length + chunkN (chunkOf size) b.length)) => fl_write (n := 7) (d := b) hk (by omega) (by omega) (by omega)
  rw [← hD3] at HW3
  have HCT := fun w' F X t (c : Nat) (hk : FlAt w' F X t size D3 c) => fl_count (n := 7) hk (by omega) e0
  have HRD := fun w' F X t (c : Nat) (hk : FlAt w' F X t size D3 c) => fl_read (n := 7) (s := lb) hk (by omega) (by omega)
  have HDR := fun w' F X t (c : Nat) (hk : FlAt w' F X t size D3 c) => fl_drop (n := 7) hk (by omega)
  rw [hc7] at HCT HDR
  rw [e7, r1] at HRD
  have A1 := Lib.hid HW1
  have A2 := Lib.hid HW2
  have A3 := Lib.hid HW3
  have A4 := Lib.hid HCT
  have A5 := Lib.hid HRD
  have A6 := Lib.hid HDR
  rw [← hla] at o2 o6
  rw [← hlb] at o3 o6
  have hla' : a.length = la := hla.symm
  have hlb' : b.length = lb := hlb.symm
  obtain ⟨ch, hc⟩ : ∃ ch, ch = chunkOf size := ⟨_, rfl⟩
  rw [← hc] at HC hch o6 hqe
  have hc1 : (1 : Int) ≤ ch := by omega
  have hc0 : (ch : Int) ≠ 0 := by omega
  have ho2 : (la : Int) ≤ 500 := by omega
  have ho3 : (lb : Int) ≤ 500 := by omega
  clear HW1 HW2 HW3 HCT HRD HDR hD3 e7 e0 r1 hq hc7 hroom hown hch2 hla hlb hc o2 o3
  go_enter Tryz.func5, Tryz.ntmps5
  go_wp2_with fail
  refine HC.out.mono ?_
  rintro e w1 ⟨rfl, rfl⟩
  go_wp2_with fail
  refine HT.out.mono ?_
  rintro e w1 ⟨t, F, X, rfl, hk, ho, hF⟩
  have HF := Lib.hid hF
  have HO := Lib.hid ho
  have HX := Lib.hid (A1.out _ _ _ _ (fl_new hk))
  clear hk ho hF
  go_wp2_with fail
  refine HX.out.mono ?_
  rintro e w2 ⟨rfl, Fw2, hk, ho, hg⟩
  have h2 := low_trans HO.out HF.out ho hg
  have HF := Lib.hid h2.2
  have HO := Lib.hid h2.1
  have HX := Lib.hid (A2.out _ _ _ _ hk)
  clear hk ho hg h2
  go_wp2_with fail
  refine HX.out.mono ?_
  rintro e w3 ⟨rfl, Fw3, hk, ho, hg⟩
  have h2 := low_trans HO.out HF.out ho hg
  have HF := Lib.hid h2.2
  have HO := Lib.hid h2.1
  have HX := Lib.hid (A3.out _ _ _ _ hk)
  clear hk ho hg h2
  go_wp2_with fail
  refine HX.out.mono ?_
  rintro e w4 ⟨rfl, Fw4, hk, ho, hg⟩
  have h2 := low_trans HO.out HF.out ho hg
  have HF := Lib.hid h2.2
  have HO := Lib.hid h2.1
  have HX := Lib.hid (A4.out _ _ _ _ _ hk)
  clear hk ho hg h2
  go_wp2_with fail
  refine HX.out.mono ?_
  rintro e w5 ⟨rfl, Fw5, hk, ho, hg⟩
  have h2 := low_trans HO.out HF.out ho hg
  have HF := Lib.hid h2.2
  have HO := Lib.hid h2.1
  have HX := Lib.hid (A5.out _ _ _ _ _ hk)
  clear hk ho hg h2
  go_wp2_with fail
  refine HX.out.mono ?_
  rintro e w6 ⟨rfl, Fw6, hk, ho, hg⟩
  have h2 := low_trans HO.out HF.out ho hg
  have HF := Lib.hid h2.2
  have HO := Lib.hid h2.1
  have HX := Lib.hid (A6.out _ _ _ _ _ hk)
  clear hk ho hg h2
  go_wp2_with fail
  refine HX.out.mono ?_
  rintro e w7 ⟨rfl, Fw7, hk, ho, hg⟩
  have h2 := low_trans HO.out HF.out ho hg
  have HF := Lib.hid h2.2
  have HO := Lib.hid h2.1
  have HX := Lib.hid (HA.out w7)
  clear hk ho hg h2
  go_wp2_with fail
  refine HX.out.mono ?_
  rintro e w11 ⟨rfl, ho⟩
  have HOE := Lib.hid (HO.out.trans ho)
  clear ho
  go_wp2_with fail
  go_ret
  exact ⟨rfl, HOE.out⟩
end
theorem filesAgain_walk (w : World) (size : Int) (_ : (Lit.int .i64 size).wf = true) (s1 : ByteArray) (_ : s1.size ≤ maxLen) (s2 : ByteArray) (_ : s2.size ≤ maxLen) :
    Calls Tryz.prog 5 #[.int .i64 size, .string s1, .string s2] w (Quit w (.bool true)) := by
  obtain ⟨⟨a⟩, rfl⟩ : ∃ x : Array UInt8, s1 = ⟨x⟩ := ⟨s1.data, rfl⟩
  obtain ⟨⟨b⟩, rfl⟩ : ∃ x : Array UInt8, s2 = ⟨x⟩ := ⟨s2.data, rfl⟩
  by_cases hs : 64 ≤ size ∧ size ≤ 4096
  · obtain ⟨sz, rfl⟩ := Int.eq_ofNat_of_zero_le (show 0 ≤ size by omega)
    by_cases hok : againOk (chunkOf sz) sz a.length b.length
    · exact filesAgain_main sz a b (by omega) (by omega) hok
    · exact filesAgain_skip sz a b (by omega) (by omega) hok
  · exact filesAgain_badsize size a b hs
end Go.Proofs.YtdipjakblaeekaaGreat
