import Derived.Test.YtdipjakblaeekaaGreatMc7
set_option linter.unusedVariables false
set_option linter.unusedSimpArgs false
namespace Go.Proofs.YtdipjakblaeekaaGreat
open Go.RowKit Go.Proofs
set_option maxRecDepth 20000
section
variable {w w' : World} {F K : Nat → Prop} {l x mo : Nat} {pv kv cv : Value} {ps : List KV} {low high last : Str} {any b1 : Bool} {dep d cnt : Nat} {hi : Option Str}
def lookC (x mo : Nat) (last : Str) (any : Bool) (dep cnt : Int) : Array Value := #[.pointer (some ⟨x, 0, none⟩), .map (some mo), .string ⟨last.toArray⟩, .bool any, .int .i64 dep, .int .i64 cnt]
def HiS (hi : Option Str) (s : Str) : Prop := (hi = none ∧ s = []) ∨ (hi = some s ∧ s ≠ [])
theorem look_up {w : World} {l : Nat} {T : TypeId} {cs : Array Value} (h : Blk w l T cs) (a b c : Value) (i j k : Nat) : Blk (((w.setCell ⟨l, i, none⟩ a).setCell ⟨l, j, none⟩ b).setCell ⟨l, k, none⟩ c) l T (((cs.setIfInBounds i a).setIfInBounds j b).setIfInBounds k c) ∧
    Only (fun q => q = l) w (((w.setCell ⟨l, i, none⟩ a).setCell ⟨l, j, none⟩ b).setCell ⟨l, k, none⟩ c) :=
  ⟨((h.set_ i a).set_ j b).set_ k c, (((Only.refl (fun q => q = l) w).setCell (p := ⟨l, i, none⟩) (.inl rfl) a).setCell (p := ⟨l, j, none⟩) (.inl rfl) b).setCell (p := ⟨l, k, none⟩) (.inl rfl) c⟩
def LkLeaf (w : World) (l x mo : Nat) (ps : List KV) (d cnt : Nat) (e : Ending) (w' : World) : Prop :=
  e = .returned (.bool true) ∧ ∃ z, ps.getLast? = some z ∧ Blk w' l 105 (lookC x mo z.1 true d (cnt + ps.length : Nat)) ∧ Only (fun q => q = l) w w'
set_option maxHeartbeats 4000000 in
theorem chk_leaf (hp : Rd w K 2 pv ps.length (pairL ps)) (hK : ∀ q, K q → q ≠ l) (dp : Int) (hb : Blk w l 105 (lookC x mo last any dp cnt)) (hge : decide (dp ≥ 0) = b1) (hdq : b1 = true → (dp != (d : Int)) = false) (hne : ps ≠ [])
    (hsrt : Srt ps) (hlow : ∀ y ∈ ps, les low y.1) (hhi : ∀ y ∈ ps, bel y.1 hi) (hh : HiS hi high) (hlast : any = true → ∀ y ∈ ps, lts last y.1) (hl1 : ps.length ≤ 1000000) (hl2 : cnt ≤ 1000000000) :
    Calls Tryz.prog 91 #[.pointer (some ⟨l, 0, none⟩), nodeV true pv kv cv, .int .i64 d, .string ⟨low.toArray⟩, .string ⟨high.toArray⟩] w (LkLeaf w l x mo ps d cnt) := by
  obtain ⟨A, c, rfl, _⟩ := id hp
  obtain ⟨W1, hW1⟩ : ∃ W1, W1 = w.alloc (.cells #[.bool true, .slice A ps.length c, kv, cv] 117) := ⟨_, rfl⟩
  have ho1 : Only NoB w W1 := by rw [hW1]; exact (Only.refl NoB w).alloc _
  have hb1 := hb.only ho1 id
  have hbn : Blk W1 w.heap.size 117 #[.bool true, .slice A ps.length c, kv, cv] := by rw [hW1]; exact Blk.new _ _ _
  have hp1 := Rd.only hp ho1 fun _ _ => id
  have x4 : W1.cell? ⟨l, 4, none⟩ = some (.int .i64 dp) := hb1.cell 4
  have f4 := hb1.frozen 4
  have n1 : W1.cell? ⟨w.heap.size, 1, none⟩ = some (.slice A ps.length c) := hbn.cell 1
  have hlw : l ≠ w.heap.size := fun e => by have := hb.lt; omega
  have hd0 : ((W1.setCell ⟨l, 4, none⟩ (.int .i64 d))).cell? ⟨w.heap.size, 1, none⟩ = some (.slice A ps.length c) := (hbn.far (p := ⟨l, 4, none⟩) (fun e => hlw e.symm) _).cell 1
  have hb2 : Blk (W1.setCell ⟨l, 4, none⟩ (.int .i64 d)) l 105 (lookC x mo last any d cnt) := hb1.set_ 4 _
  have ho2 : Only (fun q => q = l) W1 (W1.setCell ⟨l, 4, none⟩ (.int .i64 d)) := (Only.refl (fun q => q = l) W1).setCell (p := ⟨l, 4, none⟩) (.inl rfl) _
  have HB2 := Lib.hid hb2
  have HO2 := Lib.hid ((ho1.mono fun _ _ h => h.elim).trans ho2)
  have HP2 := Lib.hid (Rd.only hp1 ho2 hK)
  have HK := Lib.hid hK
  have HNE := Lib.hid hne
  have HSRT := Lib.hid hsrt
  have HLOW := Lib.hid hlow
  have HHI := Lib.hid hhi
  have HLAST := Lib.hid hlast
  have HW1 := Lib.hid hW1
  rw [hW1] at x4 n1 hd0
  have fz : (w.alloc (.cells #[.bool true, .slice A ps.length c, kv, cv] 117)).frozen? ⟨l, 4, none⟩ = false := by rw [← hW1]; exact f4
  clear hp hb hsrt hlow hhi hlast hW1 ho1 hb1 hbn hp1 hb2 ho2 hlw f4 hne hK
  unfold nodeV
  cases b1
  case' true => have hdq2 := hdq rfl
  all_goals
    clear hdq
    go_enter Tryz.func91, Tryz.ntmps91
    go_wp2_with fail
    rw [← HW1.out]
    go_loopw [33] (fun i wr => ∃ k : Nat, k ≤ ps.length ∧ i = .int .i64 k ∧ ∃ la an, Hid (Blk wr l 105 (lookC x mo la an d (cnt + k : Nat)) ∧ Only (fun q => q = l) w wr ∧ Rd wr K 2 (.slice A ps.length c) ps.length (pairL ps) ∧ (an = true → ∀ y ∈ ps.drop k, lts la y.1) ∧ (∀ z, ps[k - 1]? = some z → 0 < k → an = true ∧ la = z.1))) (fun i _ => ps.length - (intOf i).toNat)
    case atStart => exact ⟨0, Nat.zero_le _, rfl, last, any, Lib.hid ⟨HB2.out, HO2.out, HP2.out, HLAST.out, fun _ _ h => absurd h (Nat.lt_irrefl _)⟩⟩
    case round =>
      clear HB2 HO2 HP2 x4 n1 hd0 fz HW1
      obtain ⟨k, hk, rfl, la, an, HI⟩ := hrel
      by_cases hlt : k < ps.length
      · obtain ⟨q, hq⟩ : ∃ q, q = wr.heap.size := ⟨_, rfl⟩
        obtain ⟨g, off, cc, hve, _, hg, hcell⟩ := HI.out.2.2.1.open_ (by omega)
        injection hve with e1 e2 e3
        subst e1; subst e3
        obtain ⟨y1, y2⟩ := pairL_get (ps := ps) (i := k) (p := ps[k]) (List.getElem?_eq_getElem hlt)
        have c1 := hcell _ _ y1
        have c2 := hcell _ _ y2
        have hmem : ps[k] ∈ ps := List.getElem_mem hlt
        have hlo2 : ¬ lts ps[k].1 low := HLOW.out _ hmem
        have hhi2 := HHI.out _ hmem
        have hla2 : an = true → lts la ps[k].1 := fun h => HI.out.2.2.2.1 h _ (by rw [List.drop_eq_getElem_cons hlt]; exact List.mem_cons_self)
        have HNX : Hid (∀ y ∈ ps.drop (k + 1), lts ps[k].1 y.1) := Lib.hid fun y hy => by
          have h1 : Srt (ps.drop k) := List.Pairwise.sublist (List.drop_sublist k ps) HSRT.out
          rw [List.drop_eq_getElem_cons hlt] at h1
          exact (List.pairwise_cons.1 h1).1 y hy
        obtain ⟨p, hpe⟩ : ∃ p, p = ps[k] := ⟨_, rfl⟩
        rw [← hpe] at c1 c2 hlo2 hhi2 hla2 HNX
        have HPE : Hid (ps[k]? = some p) := Lib.hid (by rw [hpe]; exact List.getElem?_eq_getElem hlt)
        obtain ⟨a, va⟩ := p
        have hlo2 : Go.Op.bytesLess a low = false := by simpa [lts] using hlo2
        unfold strV at c1 c2
        rw [← Nat.add_assoc] at c2
        obtain ⟨W2, hW2⟩ : ∃ W2, W2 = wr.alloc (.cells #[.string ⟨a.toArray⟩, .string ⟨va.toArray⟩] 52) := ⟨_, rfl⟩
        have hq2 : Blk W2 q 52 #[.string ⟨a.toArray⟩, .string ⟨va.toArray⟩] := by rw [hW2, hq]; exact Blk.new _ _ _
        have ho2 : Only NoB wr W2 := by rw [hW2]; exact (Only.refl NoB wr).alloc _
        have hb2 := HI.out.1.only ho2 id
        have hne : l ≠ q := fun e => by have := HI.out.1.lt; omega
        have HQ := Lib.hid hq
        have HW2 := Lib.hid hW2
        clear hcell y1 y2 hmem hpe hq hW2
        rcases hh with ⟨rfl, rfl⟩ | ⟨rfl, hhne⟩
        · cases an with
          | false =>
            clear hla2
            go_wp2_with fail
            rw [← HW2.out, ← HQ.out]
            have hb3 := hb2.drew
            have hq3 := hq2.drew
            refine hB _ 29 (fun w' => w'.cell? ⟨l, 3, none⟩ = some (.bool false) ∧ w'.cell? ⟨l, 2, none⟩ = some (.string ⟨la.toArray⟩) ∧ w'.cell? ⟨q, 0, none⟩ = some (.string ⟨a.toArray⟩)) (⟨hb3.cell 3, hb3.cell 2, hq3.cell 0⟩) (fun hHeld => ?_)
            refine hT 0 37 ?_
            refine hT 1 38 ?_
            refine hT 2 39 ?_
            refine hT 3 40 ?_
            refine hT 4 41 ?_
            refine hK 5 42 ?_
            refine hK 6 43 ?_
            refine hK 7 44 ?_
            refine hK 8 45 ?_
            refine hK 9 46 ?_
            refine hK 10 47 ?_
            refine hK 11 48 ?_
            refine hT 12 49 ?_
            refine hT 13 50 ?_
            refine hT 14 51 ?_
            refine hT 15 52 ?_
            refine hT 16 53 ?_
            refine hT 17 54 ?_
            refine hT 18 55 ?_
            refine hT 19 56 ?_
            refine hT 20 57 ?_
            refine hT 21 58 ?_
            refine hT 22 59 ?_
            refine hK 23 60 ?_
            refine hK 24 61 ?_
            refine hK 25 62 ?_
            refine hK 26 63 ?_
            refine hT 27 64 ?_
            refine hT 28 65 ?_
            refine wpAnyH_done (by kernel_rfl) ?_ _
            refine NoPanic.normal ?_
            have s2 := hb3.cell 2
            have s3 := hb3.cell 3
            have s5 := hb3.cell 5
            have g2 := hb3.frozen 2
            have g3 := hb3.frozen 3
            have g5 := hb3.frozen 5
            have t0 := hq3.cell 0
            obtain ⟨W3, hW3⟩ : ∃ W3, W3 = W2.drew := ⟨_, rfl⟩
            rw [← hW3] at hb3 hq3 s2 s3 s5 g2 g3 g5 t0 ⊢
            have hb4 := (hb3.set_ 2 (.string ⟨a.toArray⟩)).set_ 3 (.bool true)
            have v5 : ((W3.setCell ⟨l, 2, none⟩ (.string ⟨a.toArray⟩)).setCell ⟨l, 3, none⟩ (.bool true)).cell? ⟨l, 5, none⟩ = some (.int .i64 ((cnt + k : Nat))) := hb4.cell 5
            have k5 := hb4.frozen 5
            obtain ⟨u1, u2⟩ := look_up hb3 (.string ⟨a.toArray⟩) (.bool true) (.int .i64 ((cnt + k : Nat) + 1)) 2 3 5
            have HU := Lib.hid (And.intro u1 u2)
            have HO3 : Hid (Only NoB wr W3) := Lib.hid (by rw [hW3]; exact ho2.drew)
            clear u1 u2 hHeld hW3 hb3 hq3 hb2 hq2 ho2 hb4
            go_wp2_with fail
            refine ⟨⟨k + 1, by omega, by go_num, a, true, Lib.hid ⟨HU.out.1, (HI.out.2.1.trans (HO3.out.mono fun _ _ h => h.elim)).trans HU.out.2, Rd.only (Rd.only HI.out.2.2.1 HO3.out fun _ _ => id) HU.out.2 HK.out, fun _ => HNX.out, fun z hz _ => ⟨rfl, ?_⟩⟩⟩, by simp [intOf]; omega⟩
            rw [Nat.add_sub_cancel, HPE.out] at hz
            cases hz
            rfl
          | true =>
            have hla9 : lts la a := hla2 rfl
            have hla3 : Go.Op.bytesLess a la = false := by simpa [lts] using lts_asymm hla9
            have hla4 : (a == la) = false := by simpa using fun e : a = la => lts_ne hla9 e.symm
            clear hla2 hla9
            go_wp2_with fail
            rw [← HW2.out, ← HQ.out]
            have hb3 := hb2.drew
            have hq3 := hq2.drew
            refine hB _ 29 (fun w' => w'.cell? ⟨l, 3, none⟩ = some (.bool true) ∧ w'.cell? ⟨l, 2, none⟩ = some (.string ⟨la.toArray⟩) ∧ w'.cell? ⟨q, 0, none⟩ = some (.string ⟨a.toArray⟩)) (⟨hb3.cell 3, hb3.cell 2, hq3.cell 0⟩) (fun hHeld => ?_)
            refine hT 0 37 ?_
            refine hT 1 38 ?_
            refine hT 2 39 ?_
            refine hT 3 40 ?_
            refine hT 4 41 ?_
            refine hT 5 42 ?_
            refine hT 6 43 ?_
            refine hT 7 44 ?_
            refine hT 8 45 ?_
            refine hT 9 46 ?_
            refine hT 10 47 ?_
            refine hT 11 48 ?_
            refine hT 12 49 ?_
            refine hT 13 50 ?_
            refine hT 14 51 ?_
            refine hT 15 52 ?_
            refine hT 16 53 ?_
            refine hT 17 54 ?_
            refine hT 18 55 ?_
            refine hT 19 56 ?_
            refine hT 20 57 ?_
            refine hT 21 58 ?_
            refine hT 22 59 ?_
            refine hK 23 60 ?_
            refine hK 24 61 ?_
            refine hK 25 62 ?_
            refine hK 26 63 ?_
            refine hT 27 64 ?_
            refine hT 28 65 ?_
            refine wpAnyH_done (by kernel_rfl) ?_ _
            refine NoPanic.normal ?_
            have s2 := hb3.cell 2
            have s3 := hb3.cell 3
            have s5 := hb3.cell 5
            have g2 := hb3.frozen 2
            have g3 := hb3.frozen 3
            have g5 := hb3.frozen 5
            have t0 := hq3.cell 0
            obtain ⟨W3, hW3⟩ : ∃ W3, W3 = W2.drew := ⟨_, rfl⟩
            rw [← hW3] at hb3 hq3 s2 s3 s5 g2 g3 g5 t0 ⊢
            have hb4 := (hb3.set_ 2 (.string ⟨a.toArray⟩)).set_ 3 (.bool true)
            have v5 : ((W3.setCell ⟨l, 2, none⟩ (.string ⟨a.toArray⟩)).setCell ⟨l, 3, none⟩ (.bool true)).cell? ⟨l, 5, none⟩ = some (.int .i64 ((cnt + k : Nat))) := hb4.cell 5
            have k5 := hb4.frozen 5
            obtain ⟨u1, u2⟩ := look_up hb3 (.string ⟨a.toArray⟩) (.bool true) (.int .i64 ((cnt + k : Nat) + 1)) 2 3 5
            have HU := Lib.hid (And.intro u1 u2)
            have HO3 : Hid (Only NoB wr W3) := Lib.hid (by rw [hW3]; exact ho2.drew)
            clear u1 u2 hHeld hW3 hb3 hq3 hb2 hq2 ho2 hb4
            go_wp2_with fail
            refine ⟨⟨k + 1, by omega, by go_num, a, true, Lib.hid ⟨HU.out.1, (HI.out.2.1.trans (HO3.out.mono fun _ _ h => h.elim)).trans HU.out.2, Rd.only (Rd.only HI.out.2.2.1 HO3.out fun _ _ => id) HU.out.2 HK.out, fun _ => HNX.out, fun z hz _ => ⟨rfl, ?_⟩⟩⟩, by simp [intOf]; omega⟩
            rw [Nat.add_sub_cancel, HPE.out] at hz
            cases hz
            rfl
        · have hhi2 : Go.Op.bytesLess a high = true := hhi2
          cases an with
          | false =>
            clear hla2
            go_wp2_with fail
            rw [← HW2.out, ← HQ.out]
            have hb3 := hb2.drew
            have hq3 := hq2.drew
            refine hB _ 29 (fun w' => w'.cell? ⟨l, 3, none⟩ = some (.bool false) ∧ w'.cell? ⟨l, 2, none⟩ = some (.string ⟨la.toArray⟩) ∧ w'.cell? ⟨q, 0, none⟩ = some (.string ⟨a.toArray⟩)) (⟨hb3.cell 3, hb3.cell 2, hq3.cell 0⟩) (fun hHeld => ?_)
            refine hT 0 37 ?_
            refine hT 1 38 ?_
            refine hT 2 39 ?_
            refine hT 3 40 ?_
            refine hT 4 41 ?_
            refine hK 5 42 ?_
            refine hK 6 43 ?_
            refine hK 7 44 ?_
            refine hK 8 45 ?_
            refine hK 9 46 ?_
            refine hK 10 47 ?_
            refine hK 11 48 ?_
            refine hT 12 49 ?_
            refine hT 13 50 ?_
            refine hT 14 51 ?_
            refine hT 15 52 ?_
            refine hT 16 53 ?_
            refine hT 17 54 ?_
            refine hT 18 55 ?_
            refine hT 19 56 ?_
            refine hT 20 57 ?_
            refine hV 21 58 (.bool true) ?_
            refine hT 22 59 ?_
            refine hT 23 60 ?_
            refine hT 24 61 ?_
            refine hT 25 62 ?_
            refine hT 26 63 ?_
            refine hT 27 64 ?_
            refine hT 28 65 ?_
            refine wpAnyH_done (by kernel_rfl) ?_ _
            refine NoPanic.normal ?_
            have s2 := hb3.cell 2
            have s3 := hb3.cell 3
            have s5 := hb3.cell 5
            have g2 := hb3.frozen 2
            have g3 := hb3.frozen 3
            have g5 := hb3.frozen 5
            have t0 := hq3.cell 0
            obtain ⟨W3, hW3⟩ : ∃ W3, W3 = W2.drew := ⟨_, rfl⟩
            rw [← hW3] at hb3 hq3 s2 s3 s5 g2 g3 g5 t0 ⊢
            have hb4 := (hb3.set_ 2 (.string ⟨a.toArray⟩)).set_ 3 (.bool true)
            have v5 : ((W3.setCell ⟨l, 2, none⟩ (.string ⟨a.toArray⟩)).setCell ⟨l, 3, none⟩ (.bool true)).cell? ⟨l, 5, none⟩ = some (.int .i64 ((cnt + k : Nat))) := hb4.cell 5
            have k5 := hb4.frozen 5
            obtain ⟨u1, u2⟩ := look_up hb3 (.string ⟨a.toArray⟩) (.bool true) (.int .i64 ((cnt + k : Nat) + 1)) 2 3 5
            have HU := Lib.hid (And.intro u1 u2)
            have HO3 : Hid (Only NoB wr W3) := Lib.hid (by rw [hW3]; exact ho2.drew)
            clear u1 u2 hHeld hW3 hb3 hq3 hb2 hq2 ho2 hb4
            go_wp2_with fail
            refine ⟨⟨k + 1, by omega, by go_num, a, true, Lib.hid ⟨HU.out.1, (HI.out.2.1.trans (HO3.out.mono fun _ _ h => h.elim)).trans HU.out.2, Rd.only (Rd.only HI.out.2.2.1 HO3.out fun _ _ => id) HU.out.2 HK.out, fun _ => HNX.out, fun z hz _ => ⟨rfl, ?_⟩⟩⟩, by simp [intOf]; omega⟩
            rw [Nat.add_sub_cancel, HPE.out] at hz
            cases hz
            rfl
          | true =>
            have hla9 : lts la a := hla2 rfl
            have hla3 : Go.Op.bytesLess a la = false := by simpa [lts] using lts_asymm hla9
            have hla4 : (a == la) = false := by simpa using fun e : a = la => lts_ne hla9 e.symm
            clear hla2 hla9
            go_wp2_with fail
            rw [← HW2.out, ← HQ.out]
            have hb3 := hb2.drew
            have hq3 := hq2.drew
            refine hB _ 29 (fun w' => w'.cell? ⟨l, 3, none⟩ = some (.bool true) ∧ w'.cell? ⟨l, 2, none⟩ = some (.string ⟨la.toArray⟩) ∧ w'.cell? ⟨q, 0, none⟩ = some (.string ⟨a.toArray⟩)) (⟨hb3.cell 3, hb3.cell 2, hq3.cell 0⟩) (fun hHeld => ?_)
            refine hT 0 37 ?_
            refine hT 1 38 ?_
            refine hT 2 39 ?_
            refine hT 3 40 ?_
            refine hT 4 41 ?_
            refine hT 5 42 ?_
            refine hT 6 43 ?_
            refine hT 7 44 ?_
            refine hT 8 45 ?_
            refine hT 9 46 ?_
            refine hT 10 47 ?_
            refine hT 11 48 ?_
            refine hT 12 49 ?_
            refine hT 13 50 ?_
            refine hT 14 51 ?_
            refine hT 15 52 ?_
            refine hT 16 53 ?_
            refine hT 17 54 ?_
            refine hT 18 55 ?_
            refine hT 19 56 ?_
            refine hT 20 57 ?_
            refine hV 21 58 (.bool true) ?_
            refine hT 22 59 ?_
            refine hT 23 60 ?_
            refine hT 24 61 ?_
            refine hT 25 62 ?_
            refine hT 26 63 ?_
            refine hT 27 64 ?_
            refine hT 28 65 ?_
            refine wpAnyH_done (by kernel_rfl) ?_ _
            refine NoPanic.normal ?_
            have s2 := hb3.cell 2
            have s3 := hb3.cell 3
            have s5 := hb3.cell 5
            have g2 := hb3.frozen 2
            have g3 := hb3.frozen 3
            have g5 := hb3.frozen 5
            have t0 := hq3.cell 0
            obtain ⟨W3, hW3⟩ : ∃ W3, W3 = W2.drew := ⟨_, rfl⟩
            rw [← hW3] at hb3 hq3 s2 s3 s5 g2 g3 g5 t0 ⊢
            have hb4 := (hb3.set_ 2 (.string ⟨a.toArray⟩)).set_ 3 (.bool true)
            have v5 : ((W3.setCell ⟨l, 2, none⟩ (.string ⟨a.toArray⟩)).setCell ⟨l, 3, none⟩ (.bool true)).cell? ⟨l, 5, none⟩ = some (.int .i64 ((cnt + k : Nat))) := hb4.cell 5
            have k5 := hb4.frozen 5
            obtain ⟨u1, u2⟩ := look_up hb3 (.string ⟨a.toArray⟩) (.bool true) (.int .i64 ((cnt + k : Nat) + 1)) 2 3 5
            have HU := Lib.hid (And.intro u1 u2)
            have HO3 : Hid (Only NoB wr W3) := Lib.hid (by rw [hW3]; exact ho2.drew)
            clear u1 u2 hHeld hW3 hb3 hq3 hb2 hq2 ho2 hb4
            go_wp2_with fail
            refine ⟨⟨k + 1, by omega, by go_num, a, true, Lib.hid ⟨HU.out.1, (HI.out.2.1.trans (HO3.out.mono fun _ _ h => h.elim)).trans HU.out.2, Rd.only (Rd.only HI.out.2.2.1 HO3.out fun _ _ => id) HU.out.2 HK.out, fun _ => HNX.out, fun z hz _ => ⟨rfl, ?_⟩⟩⟩, by simp [intOf]; omega⟩
            rw [Nat.add_sub_cancel, HPE.out] at hz
            cases hz
            rfl
      · obtain rfl : k = ps.length := by omega
        have hpos : 0 < ps.length := List.length_pos_iff.2 HNE.out
        obtain ⟨z, hz⟩ : ∃ z, ps[ps.length - 1]? = some z := ⟨_, List.getElem?_eq_getElem (by omega)⟩
        have hz2 := HI.out.2.2.2.2 z hz hpos
        have HE : Hid (LkLeaf w l x mo ps d cnt (.returned (.bool true)) wr) := Lib.hid ⟨rfl, z, by rw [List.getLast?_eq_getElem?]; exact hz, by rw [← hz2.2, ← hz2.1]; exact HI.out.1, HI.out.2.1⟩
        clear hz hz2 hpos
        go_wp2_with fail
        go_ret
        exact HE.out
end
end Go.Proofs.YtdipjakblaeekaaGreat
namespace Go.Proofs.YtdipjakblaeekaaGreat
open Go.RowKit Go.Proofs
set_option maxRecDepth 20000
structure LkIn (w : World) (F : Nat → Prop) (X : XC) (x t : Nat) (D : PD) (l mo : Nat) (f : Int → Option Value) (h : Nat) (e : Ent) (hi : Option Str) (last : Str) (any : Bool) (dep : Int) (cnt d : Nat) (low high : Str) : Prop where
  tree : TreeAt w F X x t D
  blk : Blk w l 105 (lookC x mo last any dep cnt)
  map : UMap w mo f
  offl : ¬ F l
  offm : ¬ F mo
  fresh : ∀ p ∈ e.P, f (p : Int) = none
  dep : dep = -1 ∨ dep = ((d + h : Nat) : Int)
  low : ∀ y ∈ e.M, les low y.1
  high : HiS hi high
  last : any = true → ∀ y ∈ e.M, lts last y.1
  cnt : cnt + e.M.length ≤ 1000000
  dh : d + h ≤ 1000000
def LkOut (w : World) (F : Nat → Prop) (X : XC) (x t : Nat) (D : PD) (l mo : Nat) (f : Int → Option Value) (e : Ent) (dh cnt : Nat) (en : Ending) (w' : World) : Prop :=
  en = .returned (.int .i64 0) ∧ ∃ f' z, e.M.getLast? = some z ∧ TreeAt w' F X x t D ∧ Blk w' l 105 (lookC x mo z.1 true dh (cnt + e.M.length : Nat)) ∧ UMap w' mo f' ∧ (∀ q : Int, (∀ p ∈ e.P, (p : Int) ≠ q) → f' q = f q) ∧ Only (fun q => F q ∨ q = l ∨ q = mo) w w'
def LkSays (X : XC) (x t : Nat) (D : PD) (l mo h : Nat) : Prop :=
  ∀ (w : World) (F : Nat → Prop) (f : Int → Option Value) (e : Ent) (hi : Option Str) (last : Str) (any : Bool) (dep : Int) (cnt d : Nat) (low high : Str), Sub D h e hi → Mays D e.P → e.P.Nodup → LkIn w F X x t D l mo f h e hi last any dep cnt d low high →
    Calls Tryz.prog 58 #[.pointer (some ⟨l, 0, none⟩), .int .i64 e.c, .int .i64 d, .string ⟨low.toArray⟩, .string ⟨high.toArray⟩] w (LkOut w F X x t D l mo f e (d + h) cnt)
section
variable {w w' : World} {F K : Nat → Prop} {X : XC} {x t l mo h : Nat} {D : PD} {f : Int → Option Value} {e : Ent} {hi : Option Str} {last low high : Str} {any : Bool} {dep : Int} {cnt d : Nat}
theorem TreeAt.off {S : Nat → Prop} (h : TreeAt w F X x t D) (ho : Only S w w') (hF : ∀ k, F k → ¬ S k) (hx : ¬ S x) : TreeAt w' F X x t D := ⟨TxQ.only h.tx ho hF, h.blk.only ho hx, h.out, h.m⟩
theorem Mays.one {P : List Nat} (h : Mays D (e.c :: P)) : D.is e.c = true ∧ D.used e.c = true := h e.c (by simp)
structure LkSt (w W4 wr : World) (F : Nat → Prop) (X : XC) (x t : Nat) (D : PD) (l mo : Nat) (f f' : Int → Option Value) (e : Ent) (h cnt d : Nat) (A B : List Ent) (la : Str) (an : Bool) (dp : Int) : Prop where
  tree : TreeAt wr F X x t D
  blk : Blk wr l 105 (lookC x mo la an dp (cnt + (flatM A).length : Nat))
  map : UMap wr mo f'
  same : ∀ q : Int, (∀ p ∈ e.c :: flatP A, (p : Int) ≠ q) → f' q = f q
  dep : dp = -1 ∨ dp = ((d + 1 + h : Nat) : Int)
  last : an = true → ∀ y ∈ flatM B, lts la y.1
  took : A ≠ [] → dp = ((d + 1 + h : Nat) : Int) ∧ an = true ∧ ∃ z, (flatM A).getLast? = some z ∧ la = z.1
  only : Only (fun q => F q ∨ q = l ∨ q = mo) W4 wr
theorem kid_sub {A B : List Ent} (hc : ChainW (Sub D h) hi (A ++ e :: B)) : Sub D h e (nxt hi B) := (chain_append.1 hc).2.1
theorem kid_srt {A B : List Ent} (hc : ChainW (Sub D h) hi (A ++ e :: B)) {z : KV} (hz : e.M.getLast? = some z) : ∀ y ∈ flatM B, lts z.1 y.1 := by
  have h1 := hc.facts.srt
  rw [flatM_append, flatM_cons] at h1
  have h2 := (List.pairwise_append.1 (List.pairwise_append.1 h1).2.1).2.2
  exact fun y hy => h2 z (List.mem_of_getLast? hz) y hy
theorem LkSt.kid {W4 wr : World} {f' : Int → Option Value} {A B : List Ent} {e' : Ent} {la fr up : Str} {an : Bool} {dp : Int} (hst : LkSt w W4 wr F X x t D l mo f f' e h cnt d A (e' :: B) la an dp) (hin : LkIn w F X x t D l mo f (h + 1) e hi last any dep cnt d low high)
    (hP : e.P = e.c :: flatP (A ++ e' :: B)) (hM : e.M = flatM (A ++ e' :: B)) (hnd : e.P.Nodup) (hfr : ∀ y ∈ e'.M, les fr y.1) (hto : HiS (nxt hi B) up) : LkIn wr F X x t D l mo f' h e' (nxt hi B) la an dp (cnt + (flatM A).length) (d + 1) fr up := by
  refine ⟨hst.tree, hst.blk, hst.map, hin.offl, hin.offm, fun p hp => ?_, hst.dep, hfr, hto, fun h1 y hy => hst.last h1 y (by rw [flatM_cons]; exact List.mem_append_left _ hy), ?_, by have := hin.dh; omega⟩
  · have hp2 : p ∈ e.P := by rw [hP]; simp [flatP_append, flatP_cons, hp]
    rw [hst.same p fun q hq hqp => ?_]
    · exact hin.fresh p hp2
    · have hqp : q = p := by omega
      subst hqp
      rw [hP, flatP_append, flatP_cons] at hnd
      rcases List.mem_cons.1 hq with rfl | hq
      · exact (List.nodup_cons.1 hnd).1 (by simp [hp])
      · exact (List.nodup_append.1 (List.nodup_cons.1 hnd).2).2.2 q hq q (by simp [hp]) rfl
  · have h1 := hin.cnt
    rw [hM, flatM_append, flatM_cons] at h1
    simp only [List.length_append] at h1
    omega
theorem LkSt.next {W4 wr : World} {f' : Int → Option Value} {A B : List Ent} {e' : Ent} {la : Str} {an : Bool} {dp : Int} {en : Ending} (hst : LkSt w W4 wr F X x t D l mo f f' e h cnt d A (e' :: B) la an dp) (hc : ChainW (Sub D h) hi (A ++ e' :: B))
    (hd : LkOut wr F X x t D l mo f' e' (d + 1 + h) (cnt + (flatM A).length) en w') : en = .returned (.int .i64 0) ∧ ∃ f2 z, LkSt w W4 w' F X x t D l mo f f2 e h cnt d (A ++ [e']) B z true ((d + 1 + h : Nat) : Int) := by
  obtain ⟨he, f2, z, hz, h1, h2, h3, h4, h5⟩ := hd
  refine ⟨he, f2, z.1, h1, ?_, h3, fun q hq => ?_, .inr rfl, fun _ => kid_srt hc hz, fun _ => ⟨rfl, rfl, z, ?_, rfl⟩, hst.only.trans h5⟩
  · rw [flatM_append, flatM_cons, flatM_nil, List.append_nil, List.length_append, ← Nat.add_assoc]
    exact h2
  · rw [flatP_append, flatP_cons, flatP_nil, List.append_nil] at hq
    rw [h4 q fun p hp => hq p (by simp [hp])]
    exact hst.same q fun p hp => hq p (by rcases List.mem_cons.1 hp with rfl | hp <;> simp [*])
  · rw [flatM_append, flatM_cons, flatM_nil, List.append_nil, List.getLast?_append, hz]
    rfl
set_option maxHeartbeats 4000000 in
theorem chk_step (ih : ∀ h', h = h' + 1 → LkSays X x t D l mo h') : LkSays X x t D l mo h := by
  intro w F f e hi last any dep cnt d low high hs hm hnd hin
  obtain ⟨n, hnode⟩ := sub_node hs
  obtain ⟨P, hP⟩ := sub_c hs
  have HMAY := Lib.hid hm
  have HNDUP := Lib.hid hnd
  rw [hP] at hm
  obtain ⟨his, hus⟩ := hm.one
  obtain ⟨hlf, hne⟩ := isNode_leaf hs hnode
  have hlm : l ≠ mo := fun e => hin.map.ne_blk hin.blk e.symm
  have hxm : x ≠ mo := fun e => hin.map.ne_blk hin.tree.blk e.symm
  have hlk := hin.map.im.lookup (P := Tryz.prog) (t := 103) (kt := 3) (e := 3) (z := .int .i64 0) (by kernel_rfl) (by kernel_rfl) (by kernel_rfl) false (e.c : Int)
  rw [hin.fresh e.c (by rw [hP]; simp)] at hlk
  obtain ⟨w1, hup, hm1, ho1⟩ := hin.map.update (P := Tryz.prog) (t := 103) (kt := 3) (e := 3) (by kernel_rfl) (by kernel_rfl) (e.c : Int) (.int .i64 1)
  have c1 : w.cell? ⟨l, 1, none⟩ = some (.map (some mo)) := hin.blk.cell 1
  have ht1 := hin.tree.off ho1 (fun k hk e => hin.offm (e ▸ hk)) hxm
  have hb1 := hin.blk.only ho1 hlm
  have c0 : w1.cell? ⟨l, 0, none⟩ = some (.pointer (some ⟨x, 0, none⟩)) := hb1.cell 0
  have HL := Lib.hid (load_ok ht1 his hus hnode.1 hnode.2.1 hne)
  have HIN := Lib.hid hin
  have HND := Lib.hid hnode
  have HSUB := Lib.hid hs
  have HB1 := Lib.hid hb1
  have HM1 := Lib.hid hm1
  have HO1 := Lib.hid ho1
  have HLM := Lib.hid hlm
  have HLF := Lib.hid hlf
  have HNE := Lib.hid hne
  clear hs hm hnd hin hnode his hus hlf hne hb1 hm1 ho1 ht1 hP hlm hxm
  go_enter Tryz.func58, Tryz.ntmps58
  go_wp2_with fail
  refine HL.out.mono ?_
  rintro en w2 ⟨pv, kv, cv, rfl, hn2, ht2, ho2⟩
  obtain ⟨W4, hW4⟩ : ∃ W4, W4 = w2.alloc (.cells #[.bool n.leaf, pv, kv, cv] 117) := ⟨_, rfl⟩
  have ho4 : Only NoB w2 W4 := by rw [hW4]; exact (Only.refl NoB w2).alloc _
  have hm4 : UMap W4 mo (upd f e.c (.int .i64 1)) := (HM1.out.keep (ho2.block mo HM1.out.lt HIN.out.offm)).keep (ho4.block mo (Nat.lt_of_lt_of_le HM1.out.lt ho2.size) id)
  have hb4 := (HB1.out.only ho2 HIN.out.offl).only ho4 id
  have hlk2 := hm4.im.lookup (P := Tryz.prog) (t := 103) (kt := 3) (e := 3) (z := .int .i64 0) (by kernel_rfl) (by kernel_rfl) (by kernel_rfl) false (e.c : Int)
  rw [show upd f (e.c : Int) (Value.int .i64 1) (e.c : Int) = some (.int .i64 1) by simp [upd]] at hlk2
  have d1 : W4.cell? ⟨l, 1, none⟩ = some (.map (some mo)) := hb4.cell 1
  have hbn : Blk W4 w2.heap.size 117 #[.bool n.leaf, pv, kv, cv] := by rw [hW4]; exact Blk.new w2 _ _
  have ho14 : Only (fun q => F q ∨ q = l ∨ q = mo) w W4 := ((HO1.out.mono fun k _ hk => .inr (.inr hk)).trans (ho2.mono fun k _ hk => .inl hk)).trans (ho4.mono fun _ _ h => h.elim)
  have hF2 : ∀ k, w1.heap.size ≤ k → ¬ F k := fun k hk hf => by have := ht2.tx.1 k hf; have := HIN.out.tree.tx.1 k hf; have := HO1.out.size; omega
  have hn4 : NodeR W4 (fun q => w1.heap.size ≤ q ∧ q < W4.heap.size) pv kv cv n := ((hn2.quit ho4).r).mono fun q hq hlt => ⟨hq, hlt⟩
  have ht4 := ht2.quit ho4
  have HB4 := Lib.hid hb4
  have HBN := Lib.hid hbn
  have HM4 := Lib.hid hm4
  have HN4 := Lib.hid hn4
  have HT4 := Lib.hid ht4
  have HF2 := Lib.hid hF2
  have HO4 := Lib.hid ho14
  have HW4 := Lib.hid hW4
  have HS1 := Lib.hid HO1.out.size
  have HS2 := Lib.hid ho2.size
  obtain ⟨pA, pc, kA, kc, cA, cc, rfl, rfl, rfl⟩ := hn4.shape
  clear hn2 ht2 ho2 ho4 hm4 hb4 hbn ho14 hF2 hn4 ht4 c0 c1 hlk hup HL
  rcases h with _ | h
  · have hl : n.leaf = true := by rw [HLF.out]; rfl
    have hn : n = leafN e.M := by
      rcases HND.out.2.2 with ⟨_, hn⟩ | ⟨h', _, _, h0, _⟩
      · exact hn
      · cases h0
    have hp4 := HN4.out.pairs
    rw [hn] at hp4
    have hpl : e.M.length ≤ 1000000 := by have := HIN.out.cnt; omega
    have hl2 := hlk2
    have hbn := HBN.out
    rw [hl] at hbn
    have n0 := hbn.cell 0
    have hbl := HB4.out
    obtain ⟨b1, hge, hdq⟩ : ∃ b1, decide (dep ≥ 0) = b1 ∧ (b1 = true → (dep != (d : Int)) = false) := by
      rcases HIN.out.dep with hd | hd
      · exact ⟨false, by rw [hd]; rfl, fun h => by cases h⟩
      · exact ⟨true, by rw [hd]; simp, fun _ => by rw [hd]; simp⟩
    have HLF2 := chk_leaf (kv := .slice kA n.keys.length kc) (cv := .slice cA n.children.length cc) hp4 (fun q hq e => by have := HB1.out.lt; have := hq.1; omega) dep hbl hge hdq HSUB.out.2.1 (sub_facts HSUB.out).srt HIN.out.low (fun y hy => (HSUB.out.2.2.1 y hy).2) HIN.out.high HIN.out.last hpl (by have := HIN.out.cnt; omega)
    have HLF2 := Lib.hid HLF2
    rw [hl] at HW4 ⊢
    have hnl : n.pairs.length = e.M.length := by rw [hn]; rfl
    rw [hnl] at HW4 n0 hbn ⊢
    rw [HW4.out] at d1 n0 hlk2 HLF2 hbn
    have n1 := hbn.cell 1
    have n2 := hbn.cell 2
    have n3 := hbn.cell 3
    clear hp4 hbl hn hl hl2 hnl hge hdq hbn
    unfold nodeV at HLF2 ⊢
    go_wp2_with fail
    refine HLF2.out.mono ?_
    rintro en w3 ⟨rfl, z, hz, hbz, hoz⟩
    have hoz' : Only (fun q => q = l) W4 w3 := by rw [HW4.out]; exact hoz
    have HE : Hid (LkOut w F X x t D l mo f e (d + 0) cnt (.returned (.int .i64 0)) w3) := Lib.hid ⟨rfl, _, z, hz, HT4.out.off hoz' (fun k hk hq => HIN.out.offl (hq ▸ hk)) (fun hq => HIN.out.tree.blk.ne_ HIN.out.blk (by decide) hq), hbz, HM4.out.keep (hoz'.block mo HM4.out.lt fun hq => HLM.out hq.symm), fun q hq => by
      have := hq e.c (by rw [HSUB.out.2.2.2.2.1]; simp)
      unfold upd
      rw [if_neg fun h => this h.symm], HO4.out.trans (hoz'.mono fun _ _ hq => .inr (.inl hq))⟩
    clear hz hbz hoz hoz'
    go_wp2_with fail
    go_ret
    exact HE.out
  · have hl : n.leaf = false := by rw [HLF.out]; rfl
    obtain ⟨x0, es, hI, hn⟩ : ∃ x0 es, In D h e hi x0 es ∧ n = innerN (x0 :: es) := by
      rcases HND.out.2.2 with ⟨h0, _⟩ | ⟨h', x0, es, h0, hI, hn⟩
      · cases h0
      · injection h0 with h0; subst h0; exact ⟨x0, es, hI, hn⟩
    have HIH := Lib.hid (ih h rfl)
    have HI := Lib.hid hI
    have hkl : n.keys.length = es.length := by rw [hn]; simp [innerN]
    have hcl : n.children.length = es.length + 1 := by rw [hn]; simp [innerN]
    have hkk : n.keys = es.map Ent.lo := by rw [hn]; rfl
    have hcc : n.children = (x0 :: es).map Ent.c := by rw [hn]; rfl
    have hN4 := HN4.out
    have HKB := Lib.hid (show ∀ k ∈ n.keys, 1 ≤ k.length from fun k hk => (HND.out.2.1.key k hk).1)
    have hks : es.length ≤ 4096 := by have := (ok_keys HND.out.2.1 HT4.out.mle).1; omega
    have hkn := hN4.keys
    have hcn := hN4.kids
    rw [hkk] at HKB hkn
    rw [hcc] at hcn
    have hbn := HBN.out
    rw [hl] at hbn HW4 ⊢
    rw [hkl, hcl] at hbn HW4 ⊢
    simp only [List.length_map, List.length_cons] at hkn hcn
    rw [HW4.out] at d1 hlk2
    have hbn1 := hbn
    rw [HW4.out] at hbn1
    have n0 := hbn1.cell 0
    have n3 := hbn1.cell 3
    have ST0 : Hid (LkSt w W4 W4 F X x t D l mo f (upd f e.c (.int .i64 1)) e h cnt d [] (x0 :: es) last any dep) := Lib.hid ⟨HT4.out, HB4.out, HM4.out, fun q hq => by
      have := hq e.c (by simp)
      unfold upd
      rw [if_neg fun h => this h.symm], by rcases HIN.out.dep with h1 | h1; (· exact .inl h1); (· right; rw [h1]; omega), fun h1 y hy => HIN.out.last h1 y (by rw [HI.out.M]; exact hy), fun h1 => (h1 rfl).elim, Only.refl _ _⟩
    have HKN := Lib.hid hkn
    have HCN := Lib.hid hcn
    have HBN2 := Lib.hid hbn
    have hdb : d ≤ 1000000 := by have := HIN.out.dh; omega
    clear hN4 hkk hcc hn hl hkl hcl hkn hcn hbn hbn1 hI ih HBN HN4
    unfold nodeV
    go_wp2_with fail
    rw [← HW4.out]
    go_loopw [74] (fun i wr => ∃ j : Nat, j ≤ (x0 :: es).length ∧ i = .int .i64 j ∧ ∃ f' la an dp, Hid (LkSt w W4 wr F X x t D l mo f f' e h cnt d ((x0 :: es).take j) ((x0 :: es).drop j) la an dp)) (fun i _ => es.length + 1 - (intOf i).toNat)
    case atStart => exact ⟨0, by simp, rfl, _, _, _, _, ST0⟩
    case round =>
      obtain ⟨j, hj, rfl, f', la, an, dp, HST⟩ := hrel
      clear ST0 d1 n0 n3
      by_cases hlt : j < (x0 :: es).length
      · have hlt2 : j < es.length + 1 := hlt
        have hdr := List.drop_eq_getElem_cons hlt
        have hsplit : x0 :: es = (x0 :: es).take j ++ (x0 :: es)[j] :: (x0 :: es).drop (j + 1) := by rw [← hdr, List.take_append_drop]
        have htk : (x0 :: es).take (j + 1) = (x0 :: es).take j ++ [(x0 :: es)[j]] := List.take_succ_eq_append_getElem hlt
        have HTK := Lib.hid htk
        have hst := HST.out
        rw [hdr] at hst
        have hch := HI.out.chain
        have hPe := HI.out.P
        have hMe := HI.out.M
        rw [hsplit] at hch hPe hMe
        obtain ⟨e', he'⟩ : ∃ e', e' = (x0 :: es)[j] := ⟨_, rfl⟩
        obtain ⟨A, hA⟩ : ∃ A, A = (x0 :: es).take j := ⟨_, rfl⟩
        obtain ⟨B, hB⟩ : ∃ B, B = (x0 :: es).drop (j + 1) := ⟨_, rfl⟩
        have hnx : ∀ up, (j < es.length → up = ((x0 :: es)[j + 1]?.map Ent.lo).getD []) → (¬ j < es.length → up = high) → HiS (nxt hi B) up := fun up h1 h2 => by
          by_cases hq : j < es.length
          · have h3 : (x0 :: es)[j + 1]? = some es[j] := by rw [List.getElem?_cons_succ]; exact List.getElem?_eq_getElem hq
            have h4 : B = es[j] :: es.drop (j + 1) := by rw [hB, List.drop_succ_cons]; exact List.drop_eq_getElem_cons hq
            have h5 := h1 hq
            rw [h3] at h5
            rw [h4, h5]
            refine .inr ⟨rfl, fun h6 => ?_⟩
            have h7 := HKB.out es[j].lo (List.mem_map_of_mem (List.getElem_mem hq))
            have h8 : es[j].lo = [] := h6
            rw [h8] at h7
            simp at h7
          · have h4 : B = [] := by rw [hB]; exact List.drop_eq_nil_of_le (by simp; omega)
            rw [h4, h2 hq]
            exact HIN.out.high
        have hfr : ∀ fr, (j = 0 → fr = low) → (j ≠ 0 → fr = e'.lo) → ∀ y ∈ e'.M, les fr y.1 := fun fr h1 h2 y hy => by
          by_cases hq : j = 0
          · rw [h1 hq]
            refine HIN.out.low y ?_
            rw [hMe, flatM_append, flatM_cons, ← he']
            exact List.mem_append_right _ (List.mem_append_left _ hy)
          · rw [h2 hq]
            rw [← he'] at hch
            exact ((sub_facts (kid_sub hch)).rng y hy).1
        rw [← he', ← hA, ← hB] at hst hch hPe hMe
        rw [← hA, ← he'] at HTK
        have HCH := Lib.hid hch
        have hC : ∀ fr up, (∀ y ∈ e'.M, les fr y.1) → HiS (nxt hi B) up → Calls Tryz.prog 58 #[.pointer (some ⟨l, 0, none⟩), .int .i64 e'.c, .int .i64 ((d + 1 : Nat) : Int), .string ⟨fr.toArray⟩, .string ⟨up.toArray⟩] wr (LkOut wr F X x t D l mo f' e' (d + 1 + h) (cnt + (flatM A).length)) :=
          fun fr up h1 h2 => HIH.out wr F f' e' (nxt hi B) la an dp _ (d + 1) fr up (kid_sub hch) (fun q hq => HMAY.out q (by rw [hPe]; simp [flatP_append, flatP_cons, hq])) (by have := HNDUP.out; rw [hPe, flatP_append, flatP_cons] at this; exact (List.nodup_append.1 (List.nodup_append.1 (List.nodup_cons.1 this).2).2.1).1) (hst.kid HIN.out hPe hMe HNDUP.out h1 h2)
        have HST2 := Lib.hid hst
        have hdis : ∀ q, (w1.heap.size ≤ q ∧ q < W4.heap.size) → ¬ (F q ∨ q = l ∨ q = mo) := fun q hq h1 => by
          rcases h1 with h1 | h1 | h1
          · exact HF2.out q hq.1 h1
          · have := HB1.out.lt; omega
          · have := HM1.out.lt; omega
        have hb9 := HBN2.out.only hst.only (hdis _ ⟨HS2.out, by have := HBN2.out.lt; omega⟩)
        have n2 := hb9.cell 2
        have hcn := HCN.out.only hst.only hdis
        have hkn := HKN.out.only hst.only hdis
        obtain ⟨gc, oc, c9, hve, _, _, hcell⟩ := hcn.open_ (by omega)
        injection hve with e1 e2 e3
        subst e1; subst e3
        have k1 := hcell j (natV e'.c) (by rw [List.getElem?_map, List.getElem?_map, List.getElem?_eq_getElem hlt, he']; rfl)
        unfold natV at k1
        have hwd : IntKind.i64.wrap ((d : Int) + 1) = ((d + 1 : Nat) : Int) := by rw [IntKind.wrap_i64]; omega
        have HL2 := Lib.hid he'
        have HBD := Lib.hid hB
        have HX2 := Lib.hid hnx
        have HF3 := Lib.hid hfr
        have HC2 := Lib.hid hC
        have HKX := Lib.hid hkn
        clear hdr hsplit htk hst hch hPe hMe hA hB hnx hfr hC hdis hb9 hcn hkn hcell he'
        rcases j with _ | j
        · by_cases hjl : 0 < es.length
          · obtain ⟨gk, ok, c8, hve, _, _, hkell⟩ := HKX.out.open_ (by omega)
            injection hve with e1 e2 e3
            subst e1; subst e3
            have k2 := hkell 0 (strV es[0].lo) (by rw [List.getElem?_map, List.getElem?_map, List.getElem?_eq_getElem hjl]; rfl)
            unfold strV at k2
            rw [Nat.add_zero] at k1 k2
            have HC := Lib.hid (HC2.out low es[0].lo (HF3.out low (fun _ => rfl) fun h => (h rfl).elim) (HX2.out _ (fun _ => by rw [List.getElem?_cons_succ, List.getElem?_eq_getElem hjl]; rfl) fun h => (h hjl).elim))
            obtain ⟨ku, hku⟩ : ∃ ku, ku = es[0].lo := ⟨_, rfl⟩
            rw [← hku] at HC k2
            clear hkell hku
            go_wp2_with fail
            refine HC.out.mono ?_
            rintro en w5 hd
            obtain ⟨rfl, f2, z, hn⟩ := HST2.out.next HCH.out hd
            have HN := Lib.hid hn
            clear hd hn HC
            go_wp2_with fail
            exact ⟨⟨0 + 1, by rw [List.length_cons]; omega, by go_num, f2, z, true, _, by rw [HTK.out, ← HBD.out]; exact HN⟩, by first | (simp [intOf]; done) | (simp [intOf]; omega)⟩
          · have HC := Lib.hid (HC2.out low high (HF3.out low (fun _ => rfl) fun h => (h rfl).elim) (HX2.out _ (fun h => (hjl h).elim) fun _ => rfl))
            rw [Nat.add_zero] at k1
            have hjd : decide ((0 : Int) < (es.length : Int)) = false := decide_eq_false (by omega)
            have hje : ¬ ((0 : Int) < (es.length : Int)) := by omega
            have hjn : es = [] := List.length_eq_zero_iff.1 (by omega)
            have HJN := Lib.hid hjn
            clear hjl hjn
            go_wp2_with fail
            refine HC.out.mono ?_
            rintro en w5 hd
            obtain ⟨rfl, f2, z, hn⟩ := HST2.out.next HCH.out hd
            have HN := Lib.hid hn
            clear hd hn HC
            go_wp2_with fail
            exact ⟨⟨0 + 1, by rw [List.length_cons]; omega, by go_num, f2, z, true, _, by rw [HTK.out, ← HBD.out]; exact HN⟩, by first | (simp [intOf]; done) | (simp [intOf]; omega)⟩
        · obtain ⟨gk, ok, c8, hve, _, _, hkell⟩ := HKX.out.open_ (by omega)
          injection hve with e1 e2 e3
          subst e1; subst e3
          have k3 := hkell j (strV e'.lo) (by rw [List.getElem?_map, List.getElem?_map, HL2.out, List.getElem?_eq_getElem (by omega)]; rfl)
          unfold strV at k3
          obtain ⟨kf, hkf⟩ : ∃ kf, kf = e'.lo := ⟨_, rfl⟩
          rw [← hkf] at k3
          by_cases hjl : j + 1 < es.length
          · have k2 := hkell (j + 1) (strV es[j + 1].lo) (by rw [List.getElem?_map, List.getElem?_map, List.getElem?_eq_getElem hjl]; rfl)
            unfold strV at k2
            have HC := Lib.hid (HC2.out kf es[j + 1].lo (HF3.out kf (fun h => by omega) fun _ => hkf) (HX2.out _ (fun _ => by rw [List.getElem?_cons_succ, List.getElem?_eq_getElem hjl]; rfl) fun h => (h hjl).elim))
            obtain ⟨ku, hku⟩ : ∃ ku, ku = es[j + 1].lo := ⟨_, rfl⟩
            rw [← hku] at HC k2
            clear hkell hku hkf
            go_wp2_with fail
            refine HC.out.mono ?_
            rintro en w5 hd
            obtain ⟨rfl, f2, z, hn⟩ := HST2.out.next HCH.out hd
            have HN := Lib.hid hn
            clear hd hn HC
            go_wp2_with fail
            exact ⟨⟨j + 1 + 1, by rw [List.length_cons]; omega, by go_num, f2, z, true, _, by rw [HTK.out, ← HBD.out]; exact HN⟩, by first | (simp [intOf]; done) | (simp [intOf]; omega)⟩
          · have HC := Lib.hid (HC2.out kf high (HF3.out kf (fun h => by omega) fun _ => hkf) (HX2.out _ (fun h => (hjl h).elim) fun _ => rfl))
            clear hkell hkf
            go_wp2_with fail
            refine HC.out.mono ?_
            rintro en w5 hd
            obtain ⟨rfl, f2, z, hn⟩ := HST2.out.next HCH.out hd
            have HN := Lib.hid hn
            clear hd hn HC
            go_wp2_with fail
            exact ⟨⟨j + 1 + 1, by rw [List.length_cons]; omega, by go_num, f2, z, true, _, by rw [HTK.out, ← HBD.out]; exact HN⟩, by first | (simp [intOf]; done) | (simp [intOf]; omega)⟩
      · obtain rfl : j = (x0 :: es).length := by omega
        have hst := HST.out
        rw [List.take_length, List.drop_length] at hst
        obtain ⟨hdp, hant, z, hz, hlz⟩ := hst.took (by simp)
        have HE : Hid (LkOut w F X x t D l mo f e (d + (h + 1)) cnt (.returned (.int .i64 0)) wr) := Lib.hid ⟨rfl, f', z, by rw [HI.out.M]; exact hz, hst.tree, by
          have h1 := hst.blk
          rw [hdp, hant, hlz, ← HI.out.M, show d + 1 + h = d + (h + 1) by omega] at h1
          exact h1, hst.map, fun q hq => hst.same q fun p hp => hq p (by rw [HI.out.P]; exact hp), HO4.out.trans hst.only⟩
        clear hst hdp hant hz hlz
        simp only [List.length_cons] at hlt ⊢
        go_wp2_with fail
        go_ret
        exact HE.out
end
end Go.Proofs.YtdipjakblaeekaaGreat
namespace Go.Proofs.YtdipjakblaeekaaGreat
open Go.RowKit Go.Proofs
set_option maxRecDepth 20000
section
variable {w w' : World} {F : Nat → Prop} {X : XC} {x t l mo h m n own c : Nat} {D : PD} {M : List KV} {e : Ent} {hi : Option Str}
theorem chk_page : ∀ h, LkSays X x t D l mo h
  | 0 => chk_step fun h' e => by omega
  | h + 1 => chk_step fun h' e => by
    obtain rfl : h = h' := by omega
    exact chk_page h
theorem sub_pages : ∀ {h : Nat} {e : Ent} {hi : Option Str}, Sub D h e hi → h < e.P.length
  | 0, e, hi, hs => by rw [hs.2.2.2.2.1]; simp
  | h + 1, e, hi, hs => by
    obtain ⟨x0, es, hI⟩ := sub_in hs
    have := sub_pages hI.chain.1
    rw [hI.P, flatP_cons]
    simp
    omega
theorem look_new (w : World) (x : Nat) : Blk ((w.alloc (.map #[] 0)).alloc (.cells (lookC x w.heap.size [] false (-1) 0) 105)) (w.heap.size + 1) 105 (lookC x w.heap.size [] false (-1) 0) ∧ UMap ((w.alloc (.map #[] 0)).alloc (.cells (lookC x w.heap.size [] false (-1) 0) 105)) w.heap.size (fun _ => none) ∧
    Only NoB w ((w.alloc (.map #[] 0)).alloc (.cells (lookC x w.heap.size [] false (-1) 0) 105)) := by
  refine ⟨?_, (UMap.made w).keep (Below.heap_alloc _ _ _ (by simp)), ((Only.refl NoB w).alloc _).alloc _⟩
  have := Blk.new (w.alloc (.map #[] 0)) 105 (lookC x w.heap.size [] false (-1) 0)
  rwa [World.size_alloc] at this
set_option maxHeartbeats 1000000 in
theorem bcheck_ok (ht : TxAt w F X t D) (hb : Bt D M c) (hl : M.length ≤ 1000000) :
    Calls Tryz.prog 24 #[.pointer (some ⟨t, 0, none⟩)] w (DeedT w F X t (.tuple #[.int .i64 (M.length : Nat), .int .i64 0]) D) := by
  have HOF := Lib.hid (of_ok ht hb.1.m1 hb.1.m2)
  have HLT := Lib.hid ht.lt
  have HB := Lib.hid hb
  have HG := Lib.hid hb.1
  have HL := Lib.hid hl
  clear ht hb hl
  go_enter Tryz.func24, Tryz.ntmps24
  go_wp2_with fail
  refine HOF.out.mono ?_
  rintro e w1 ⟨x, rfl, ht1, hx1, ho1, hxl⟩
  have HRT := Lib.hid (root_any ht1)
  have HX1 := Lib.hid hx1
  have HO1 := Lib.hid ho1
  have HXL := Lib.hid hxl
  clear ht1 hx1 ho1 hxl
  go_wp2_with fail
  refine HRT.out.mono ?_
  rintro e6 w6 ⟨rfl, F6, ht6, ho6, hg6⟩
  have hs1 := HO1.out.size
  have hFn : ∀ k, w.heap.size ≤ k → ¬ F k := fun k hk hf => by have := HLT.out k hf; omega
  have hxl := HXL.out
  have hx1l := HX1.out.lt
  have htr : TreeAt w6 F6 X x t D := ⟨ht6, HX1.out.only ho6 (hFn x hxl), fun hk => by rcases hg6 x hk with h1 | h1; (· exact hFn x hxl h1); (· omega), HG.out.m1⟩
  have hon6 : Only F w w6 := (HO1.out.mono fun _ _ h => h.elim).trans ho6
  have hgr6 : Grows F F6 w := fun k hk => (hg6 k hk).imp id fun h => by omega
  have HTR := Lib.hid htr
  have HON := Lib.hid hon6
  have HGR := Lib.hid hgr6
  clear hs1 hFn hxl hx1l htr hon6 hgr6 ht6 ho6 hg6
  rcases HB.out.2 with ⟨hr0, hM, hu⟩ | ⟨h, e, hroot⟩
  · have HE : Hid (DeedT w F X t (.tuple #[.int .i64 (M.length : Nat), .int .i64 0]) D (.returned (.tuple #[.int .i64 0, .int .i64 0])) w6) := Lib.hid ⟨by rw [hM]; rfl, F6, HTR.out.tx, HON.out, HGR.out⟩
    rw [hr0]
    clear hr0 hM hu
    go_wp2_with fail
    go_ret2
    exact HE.out
  · obtain rfl := hroot.M
    have hbq : ((D.root : Int) == 0) = false := by simp; exact hroot.ne0
    have hbr : ¬ ((D.root : Int) = 0) := by have := hroot.ne0; omega
    obtain ⟨b1, b2, b3⟩ := look_new w6 x
    have hoff : ∀ k, w6.heap.size ≤ k → ¬ F6 k := fun k hk hf => by have := HTR.out.tx.1 k hf; omega
    have hh : h ≤ 1000000 := by
      have h1 := sub_pages hroot.sub
      have h2 := nodup_le e.P (List.range D.n) hroot.held.nodup fun q hq => by
        have := hroot.held.is q hq
        unfold PD.is at this
        simp at this ⊢
        omega
      have := HTR.out.tx.base.nle
      simp at h2
      omega
    have hin : LkIn _ F6 X x t D (w6.heap.size + 1) w6.heap.size (fun _ => none) h e none [] false (-1) 0 0 [] [] := ⟨HTR.out.quit b3, b1, b2, hoff _ (by omega), hoff _ (Nat.le_refl _), fun _ _ => rfl, .inl rfl, fun y _ => nil_les _, .inl ⟨rfl, rfl⟩, fun h => (by cases h), by have := HL.out; omega, by omega⟩
    have hpg := chk_page h _ F6 _ e none [] false (-1) 0 0 [] [] hroot.sub (fun q hq => ⟨hroot.held.is q hq, hroot.held.used q hq⟩) hroot.held.nodup hin
    rw [hroot.at_] at hpg
    have HPG := Lib.hid hpg
    have HO3 := Lib.hid b3
    have HOFF := Lib.hid hoff
    clear hpg hin b1 b2 b3 hroot hoff hh
    unfold lookC at HPG HO3
    have hmm := fun w => @run_makeMap Tryz.prog w
    go_wp2_with fail
    refine HPG.out.mono ?_
    rintro e7 w7 ⟨rfl, f', z, hz, ht7, hb7, hm7, _, ho7⟩
    have x5 : w7.cell? ⟨w6.heap.size + 1, 5, none⟩ = some (.int .i64 ((0 + e.M.length : Nat) : Int)) := hb7.cell 5
    have hon : Only F w w7 := (HON.out.trans (HO3.out.mono fun _ _ h => h.elim)).trans' ho7 fun k hk hq => by
      have := HON.out.size
      rcases hq with hq | hq | hq
      · exact (HGR.out k hq).elim id fun h => by omega
      · omega
      · omega
    have HE : Hid (DeedT w F X t (.tuple #[.int .i64 (e.M.length : Nat), .int .i64 0]) D (.returned (.tuple #[.int .i64 (e.M.length : Nat), .int .i64 0])) w7) := Lib.hid ⟨rfl, F6, ht7.tx, hon, HGR.out⟩
    clear hz ht7 hb7 hm7 ho7 hon
    go_wp2_with fail
    go_ret2
    exact HE.out
theorem kv_check (h : KvAt w F X t m n own M c) (hl : M.length ≤ 1000000) :
    Calls Tryz.prog 24 #[.pointer (some ⟨t, 0, none⟩)] w (KvOut w F X t m n own (.tuple #[.int .i64 (M.length : Nat), .int .i64 0]) M c) := by
  obtain ⟨D, ht, hb, rfl, rfl, rfl, hkl⟩ := h
  refine (bcheck_ok ht hb hl).mono ?_
  rintro e w1 ⟨rfl, F', h1, h6, h7⟩
  exact ⟨rfl, F', ⟨D, h1.at_, hb, rfl, rfl, rfl, hkl⟩, h6, h7⟩
end
end Go.Proofs.YtdipjakblaeekaaGreat
namespace Go.Proofs.YtdipjakblaeekaaGreat
open Go.RowKit Go.Proofs
set_option maxRecDepth 20000
section
variable {w : World} {F G : Nat → Prop}
set_option maxHeartbeats 1000000 in
theorem pairs08_ok (v u : Value) (L : List KV) (hv : Rd w F 2 v L.length (pairL L)) (hu : Rd w G 2 u L.length (pairL L)) (hl : L.length ≤ 1000000) :
    Calls Tryz.prog 25 #[v, u] w fun e w' => e = .returned (.bool true) ∧ Only NoB w w' := by
  obtain ⟨A, c, rfl, _⟩ := id hv
  obtain ⟨A2, c2, rfl, _⟩ := id hu
  have HV := Lib.hid hv
  have HU := Lib.hid hu
  clear hv hu
  go_enter Tryz.func25, Tryz.ntmps25
  go_wp2_with fail
  go_loopw [5] (fun i wr => ∃ k : Nat, k ≤ L.length ∧ i = .int .i64 k ∧ Only NoB w wr) (fun i _ => L.length - (intOf i).toNat)
  case atStart => exact ⟨0, Nat.zero_le _, rfl, Only.refl _ _⟩
  case round =>
    obtain ⟨k, hk, rfl, ho⟩ := hrel
    have HO := Lib.hid ho
    by_cases hlt : k < L.length
    · obtain ⟨g, off, cc, hve, _, hg, hcell⟩ := (Rd.only HV.out ho fun _ _ => id).open_ (by omega)
      obtain ⟨g2, off2, cc2, hve2, _, hg2, hcell2⟩ := (Rd.only HU.out ho fun _ _ => id).open_ (by omega)
      injection hve with e1 e2 e3
      subst e1; subst e3
      injection hve2 with e1 e2 e3
      subst e1; subst e3
      obtain ⟨y1, y2⟩ := pairL_get (ps := L) (i := k) (p := L[k]) (List.getElem?_eq_getElem hlt)
      have c1 := hcell _ _ y1
      have c2 := hcell _ _ y2
      have d1 := hcell2 _ _ y1
      have d2 := hcell2 _ _ y2
      obtain ⟨p, hp⟩ : ∃ p, p = L[k] := ⟨_, rfl⟩
      rw [← hp] at c1 c2 d1 d2
      obtain ⟨a, b⟩ := p
      unfold strV at c1 c2 d1 d2
      rw [← Nat.add_assoc] at c2 d2
      clear hcell hcell2 y1 y2 hp ho
      go_wp2_with fail
      go_region
      all_goals go_wp2_with fail
      all_goals exact ⟨⟨k + 1, by omega, by go_num, HO.out.drew⟩, by simp [intOf]; omega⟩
    · obtain rfl : k = L.length := by omega
      clear ho
      go_wp2_with fail
      go_ret
      exact ⟨rfl, HO.out⟩
end
end Go.Proofs.YtdipjakblaeekaaGreat
namespace Go.Proofs.YtdipjakblaeekaaGreat
open Go.RowKit Go.Proofs Go.Shelf
set_option maxRecDepth 20000
attribute [local go_sem] Oper.semAt_some
section
variable {w w' : World} {F G : Nat → Prop} {X : XC} {t m c n s : Nat} {D : Nat → Str}
theorem FlAt.mono (h : FlAt w F X t m D c) {c' : Nat} (hc : c ≤ c') : FlAt w F X t m D c' := by obtain ⟨M, hk, r⟩ := h; exact ⟨M, hk.mono hc, r⟩
theorem FlAt.lt (h : FlAt w F X t m D c) : ∀ k, F k → k < w.heap.size := by obtain ⟨M, hk, r⟩ := h; exact hk.lt
theorem FlAt.only {S : Nat → Prop} (h : FlAt w F X t m D c) (ho : Only S w w') (hd : ∀ k, F k → ¬ S k) : FlAt w' F X t m D c := by obtain ⟨M, hk, r⟩ := h; exact ⟨M, hk.only ho hd, r⟩
theorem FlAt.out {v : Value} (h : FlAt w F X t m D c) (ho : Only NoB w w') : FlOut w F X t m v D c (.returned v) w' := ⟨rfl, F, h.quit ho, ho.mono fun _ _ h => h.elim, Grows.refl F w⟩
theorem rchunk_ok (h1 : 64 ≤ m) (h2 : m ≤ 4096) : Calls Tryz.prog 12 #[.int .i64 m] w fun e w' => e = .returned (.int .i64 (chunkOf m : Nat)) ∧ w = w' := by
  have h1' : (64 : Int) ≤ m := by omega
  have h2' : (m : Int) ≤ 4096 := by omega
  have HR : Hid (∀ w, Calls Tryz.prog 43 #[.int .i64 (m : Int)] w fun e w' => e = .returned (.bool true) ∧ w = w') := Lib.hid fun w => by
    go_enter Tryz.func43, Tryz.ntmps43
    go_wp2_with fail
    go_ret
    exact ⟨rfl, rfl⟩
  obtain ⟨q, hq⟩ : ∃ q, q = NodeD.most m := ⟨_, rfl⟩
  have hq1 : 7 ≤ q ∧ q ≤ 4096 ∧ (q : Int) = ((m : Int) - 16) / 4 - 4 := by rw [hq]; unfold NodeD.most; omega
  have HM : Hid (∀ w, Calls Tryz.prog 44 #[.int .i64 (m : Int)] w fun e w' => e = .returned (.int .i64 (q : Int)) ∧ w = w') := Lib.hid fun w => by
    have hd : ((m : Int) - 16).tdiv 4 = (q : Int) + 4 := by rw [Int.tdiv_eq_ediv_of_nonneg (by omega)]; omega
    go_enter Tryz.func44, Tryz.ntmps44
    go_wp2_with fail
    go_ret
    refine ⟨?_, rfl⟩
    first | rfl | (show Ending.returned (Value.int IntKind.i64 _) = _; congr 2; omega)
  have hc : chunkOf m = min (q - 6) 200 := by rw [hq]; rfl
  rw [hc]
  obtain ⟨r, hr⟩ : ∃ r, r = min (q - 6) 200 := ⟨_, rfl⟩
  rw [← hr]
  have HRR := Lib.hid hr
  have q1 := hq1.1
  have q2 := hq1.2.1
  have hw1 : IntKind.i64.wrap ((q : Int) - 6) = (q : Int) - 6 := by rw [IntKind.wrap_i64]; omega
  clear hq hc hr hq1
  by_cases hlt : (q : Int) - 6 < 200
  · have hr : (r : Int) = (q : Int) - 6 := by have := HRR.out; omega
    rw [hr]
    clear hr
    go_enter Tryz.func12, Tryz.ntmps12
    go_wp2_with fail
    refine (HR.out w).mono ?_
    rintro e w1 ⟨rfl, rfl⟩
    go_wp2_with fail
    refine (HM.out w).mono ?_
    rintro e w1 ⟨rfl, rfl⟩
    go_wp2_with fail
    refine (HM.out w).mono ?_
    rintro e w1 ⟨rfl, rfl⟩
    go_wp2_with fail
    all_goals first | (go_ret; exact ⟨rfl, rfl⟩) | (exfalso; omega)
  · have hr : (r : Int) = 200 := by have := HRR.out; omega
    rw [hr]
    clear hr
    go_enter Tryz.func12, Tryz.ntmps12
    go_wp2_with fail
    refine (HR.out w).mono ?_
    rintro e w1 ⟨rfl, rfl⟩
    go_wp2_with fail
    refine (HM.out w).mono ?_
    rintro e w1 ⟨rfl, rfl⟩
    go_wp2_with fail
    refine (HM.out w).mono ?_
    rintro e w1 ⟨rfl, rfl⟩
    go_wp2_with fail
    all_goals first | (go_ret; exact ⟨rfl, rfl⟩) | (exfalso; omega) | (go_ret; refine ⟨?_, rfl⟩; show Ending.returned (Value.int IntKind.i64 ((q : Int) - 6)) = _; rw [show (q : Int) - 6 = 200 by omega])
theorem range08_bad (m : Int) (h : ¬ (64 ≤ m ∧ m ≤ 4096)) (w : World) : Calls Tryz.prog 43 #[.int .i64 m] w fun e w' => e = .returned (.bool false) ∧ w = w' := by
  by_cases h1 : 64 ≤ m
  · have e2 : decide (m ≤ 4096) = false := by simp; omega
    clear h
    go_enter Tryz.func43, Tryz.ntmps43
    go_wp2_with fail
    go_ret
    exact ⟨rfl, rfl⟩
  · have e1 : decide (m ≥ 64) = false := by simp; omega
    clear h h1
    go_enter Tryz.func43, Tryz.ntmps43
    go_wp2_with fail
    go_ret
    exact ⟨rfl, rfl⟩
theorem rchunk_bad (m : Int) (h : ¬ (64 ≤ m ∧ m ≤ 4096)) : Calls Tryz.prog 12 #[.int .i64 m] w fun e w' => e = .returned (.int .i64 0) ∧ w = w' := by
  have HR := Lib.hid (range08_bad m h w)
  clear h
  go_enter Tryz.func12, Tryz.ntmps12
  go_wp2_with fail
  refine HR.out.mono ?_
  rintro e w1 ⟨rfl, rfl⟩
  go_wp2_with fail
  go_ret
  exact ⟨rfl, rfl⟩
end
end Go.Proofs.YtdipjakblaeekaaGreat
namespace Go.Proofs.YtdipjakblaeekaaGreat
open Go.RowKit Go.Proofs Go.Shelf
set_option maxRecDepth 20000
attribute [local go_sem] Oper.semAt_some
section
variable {w w' : World} {F : Nat → Prop} {X : XC} {t m c n : Nat} {D : Nat → Str}
theorem FlAt.one (h : FlAt w F X t m D c) (hn : 1 ≤ n ∧ n ≤ 16777215) (h0 : ∀ k, k ≠ n → D k = []) : KvAt w F X t m 600 (ownOf 600 m) (chunks (chunkOf m) (fpre n) (D n)) c := by
  obtain ⟨M, hk, hD, hM⟩ := h
  rw [← fl_one hM hD hk.m12.1 hn h0]
  exact hk
theorem chunks_bad (size : Int) (v : Value) (n : Value) (h : ¬ (64 ≤ size ∧ size ≤ 4096)) : Calls Tryz.prog 6 #[.int .i64 size, v, n] w (Quit w (.bool true)) := by
  have HR := Lib.hid (rchunk_bad (w := w) size h)
  clear h
  go_enter Tryz.func6, Tryz.ntmps6
  go_wp2_with fail
  refine HR.out.mono ?_
  rintro e w1 ⟨rfl, rfl⟩
  go_wp2_with fail
  go_ret
  exact ⟨rfl, Only.refl _ _⟩
def chunksOk (ch : Nat) (size n : Int) (l : Nat) : Prop := size ≤ 300 ∧ l ≤ 600 ∧ (l : Int) / ch ≤ 300 ∧ 1 ≤ n ∧ n ≤ 16777215
set_option maxHeartbeats 4000000 in
theorem chunks_skip (size : Nat) (d : Str) (n : Int) (h1 : 64 ≤ size) (h2 : size ≤ 4096) (hno : ¬ chunksOk (chunkOf size) size n d.length) : Calls Tryz.prog 6 #[.int .i64 size, .string ⟨d.toArray⟩, .int .i64 n] w (Quit w (.bool true)) := by
  have hch := chunkOf_le h1
  have HR := Lib.hid (rchunk_ok (w := w) (m := size) h1 h2)
  obtain ⟨ch, hc⟩ : ∃ ch, ch = chunkOf size := ⟨_, rfl⟩
  rw [← hc] at HR hch hno
  obtain ⟨ld, hld⟩ : ∃ ld, ld = d.length := ⟨_, rfl⟩
  rw [← hld] at hno
  have hld' : d.length = ld := hld.symm
  have hb0 : ((ch : Int) == 0) = false := by simp; omega
  have hc0 : ¬ ((ch : Int) = 0) := by omega
  obtain ⟨z, hz⟩ : ∃ z, z = ld / ch := ⟨_, rfl⟩
  have hdv : (ld : Int).tdiv ch = (z : Int) := by rw [Int.tdiv_eq_ediv_of_nonneg (by omega), hz, Int.natCast_ediv]
  have hz2 : (ld : Int) / ch = (z : Int) := by rw [hz, Int.natCast_ediv]
  have hzl : z ≤ ld := by rw [hz]; exact Nat.div_le_self _ _
  unfold chunksOk at hno
  rw [hz2] at hno
  have HNO := Lib.hid hno
  clear hc hld hno hz hz2
  go_enter Tryz.func6, Tryz.ntmps6
  go_wp2_with fail
  refine HR.out.mono ?_
  rintro e w1 ⟨rfl, rfl⟩
  go_wp2_with fail
  all_goals first
    | (go_ret; exact ⟨rfl, Only.refl _ _⟩)
    | (exfalso; exact HNO.out ⟨by omega, by omega, by omega, by omega, by omega⟩)
theorem ext_ok (d : Str) (a b : Nat) : (ByteArray.mk d.toArray).extract a b = ⟨((d.drop a).take (b - a)).toArray⟩ := by
  apply ByteArray.ext
  rw [ByteArray.data_extract]
  simp
def sElse : Str := [115, 111, 109, 101, 116, 104, 105, 110, 103, 32, 101, 108, 115, 101, 32, 116, 104, 97, 116, 32, 105, 115, 32, 108, 111, 110, 103, 101, 114]
set_option maxHeartbeats 8000000 in
theorem chunks_main (size : Nat) (d : Str) (n : Nat) (h1 : 64 ≤ size) (h2 : size ≤ 4096) (hok : chunksOk (chunkOf size) size n d.length) : Calls Tryz.prog 6 #[.int .i64 size, .string ⟨d.toArray⟩, .int .i64 n] w (Quit w (.bool true)) := by
  have hch := chunkOf_le h1
  have HR := Lib.hid (rchunk_ok (w := w) (m := size) h1 h2)
  have HA := Lib.hid fun w1 => awake13_ok (w := w1)
  have HT := Lib.hid (open13_ok (m := size) (w := w) h1 h2)
  have hown := own600 h1
  obtain ⟨o1, o2, o3, o4, o5⟩ := hok
  have hn : 1 ≤ n ∧ n ≤ 16777215 := by omega
  have hz3 : d.length / chunkOf size ≤ 300 := by rw [← Int.natCast_ediv] at o3; omega
  have hN : chunkN (chunkOf size) d.length ≤ 301 := by have := chunkN_up (L := d.length) hch.1; omega
  have hroom : chunkN (chunkOf size) sElse.length + chunkN (chunkOf size) d.length ≤ 400 := by
    have h1 := chunkN_le (L := sElse.length) hch.1
    have h2 : sElse.length = 29 := rfl
    omega
  have HW1 := fun w' F X t (hk : FlAt w' F X t size (fun _ => []) 0) => fl_write (n := n) (d := sElse) hk hn (by decide) (by omega)
  have HW2 := fun w' F X t (hk : FlAt w' F X t size (setF (fun _ => []) n sElse) (0 + chunkN (chunkOf size) sElse.length)) => fl_write (n := n) (d := d) hk hn (by omega) (by omega)
  have HON := Lib.hid fun w' F X t (hk : FlAt w' F X t size (setF (setF (fun _ => []) n sElse) n d) (0 + chunkN (chunkOf size) sElse.length + chunkN (chunkOf size) d.length)) => (show KvAt w' F X t size 600 (ownOf 600 size) (chunks (chunkOf size) (fpre n) d) (0 + chunkN (chunkOf size) sElse.length + chunkN (chunkOf size) d.length) from by
    have := hk.one hn fun k hk => by simp [setF, hk]
    rwa [show setF (setF (fun _ => []) n sElse) n d n = d by simp [setF]] at this)
  have A1 := HW1
  have A2 := Lib.hid HW2
  have HNN := Lib.hid hN
  obtain ⟨L, hL⟩ : ∃ L, L = chunks (chunkOf size) (fpre n) d := ⟨_, rfl⟩
  rw [← hL] at HON
  have HLL := Lib.hid hL
  have hLl : L.length = chunkN (chunkOf size) d.length := by rw [hL, chunks_len]
  have hl301 : L.length ≤ 301 := by omega
  obtain ⟨cE, hcE⟩ : ∃ cE, cE = 0 + chunkN (chunkOf size) sElse.length + chunkN (chunkOf size) d.length := ⟨_, rfl⟩
  rw [← hcE] at HON
  have HCE := Lib.hid hcE
  obtain ⟨ch, hc⟩ : ∃ ch, ch = chunkOf size := ⟨_, rfl⟩
  have HCH := Lib.hid hc
  rw [← hc] at HR hch hz3
  obtain ⟨ld, hld⟩ : ∃ ld, ld = d.length := ⟨_, rfl⟩
  rw [← hld] at o2 hz3
  have hld' : d.length = ld := hld.symm
  have HLD := Lib.hid hld
  have hb0 : ((ch : Int) == 0) = false := by simp; omega
  have hc0 : ¬ ((ch : Int) = 0) := by omega
  obtain ⟨z, hz⟩ : ∃ z, z = ld / ch := ⟨_, rfl⟩
  have hdv : (ld : Int).tdiv ch = (z : Int) := by rw [Int.tdiv_eq_ediv_of_nonneg (by omega), hz, Int.natCast_ediv]
  rw [← hz] at hz3
  have hn1 : (1 : Int) ≤ n := by omega
  have hn2 : (n : Int) ≤ 16777215 := by omega
  unfold sElse at A1
  have A1 := Lib.hid A1
  have HNP := Lib.hid hn
  clear hL hLl hcE hc hld hz o3 o4 o5 hN hroom HW1 HW2 hown hn
  go_enter Tryz.func6, Tryz.ntmps6
  go_wp2_with fail
  refine HR.out.mono ?_
  rintro e w1 ⟨rfl, rfl⟩
  go_wp2_with fail
  refine HT.out.mono ?_
  rintro e w1 ⟨t, F, X, rfl, hk, ho, hF⟩
  have HF := Lib.hid hF
  have HO := Lib.hid ho
  have HX := Lib.hid (A1.out _ _ _ _ (fl_new hk))
  clear hk ho hF
  go_wp2_with fail
  refine HX.out.mono ?_
  rintro e w2 ⟨rfl, Fw2, hk, ho, hg⟩
  have h2 := low_trans HO.out HF.out ho hg
  have HF := Lib.hid h2.2
  have HO := Lib.hid h2.1
  have HX := Lib.hid (A2.out _ _ _ _ hk)
  clear hk ho hg h2
  go_wp2_with fail
  refine HX.out.mono ?_
  rintro e w3 ⟨rfl, Fw3, hk, ho, hg⟩
  have h2 := low_trans HO.out HF.out ho hg
  have HF := Lib.hid h2.2
  have HO := Lib.hid h2.1
  rw [← HCE.out] at hk
  have HK := Lib.hid (HON.out _ _ _ _ hk)
  have HX := kv_all (pre := []) (most := 1000) HK.out (by simp) (by rw [under_all]; omega)
  rw [under_all] at HX
  have HX := Lib.hid HX
  clear hk ho hg h2
  go_wp2_with fail
  refine HX.out.mono ?_
  rintro e w4 ⟨Fw4, hans, hk, ho, hg⟩
  obtain ⟨_, lv, rfl, hlo⟩ : L.length ≤ 1000 ∧ ∃ v, e = .returned (.tuple #[v, .int .i64 0]) ∧ Own w4 (fun g => w3.heap.size ≤ g ∧ ¬ Fw4 g) 52 2 v L.length (pairL L) := by
    rcases hans with h | h
    · exact h
    · omega
  obtain ⟨lA, lc, rfl, _⟩ := hlo.shape
  have h2 := low_trans HO.out HF.out ho hg
  have HF := Lib.hid h2.2
  have HO := Lib.hid h2.1
  have HK := Lib.hid hk
  have HLO := Lib.hid hlo
  clear hk ho hg h2 hans hlo
  go_wp2_with fail
  go_loopw [11, 12] (fun wv i w' => ∃ k : Nat, k ≤ L.length ∧ i = .int .i64 k ∧ Hid (Only NoB w4 w' ∧ Own w' (fun q => w4.heap.size ≤ q) 52 2 wv k (pairL (L.take k)))) (fun _ i _ => L.length - (intOf i).toNat)
  case atStart => exact ⟨0, Nat.zero_le _, rfl, Lib.hid ⟨Only.refl _ _, Own.nil _ _ _ _⟩⟩
  case round =>
    obtain ⟨k, hk, rfl, HI⟩ := hrel
    by_cases hlt : k < L.length
    · have hkl : ch * k < ld := by
        have h1 := hlt
        rw [HLL.out, chunks_len, ← HCH.out, ← HLD.out] at h1
        exact (chunkN_lt (by omega)).1 h1
      obtain ⟨wA, wc, rfl, _⟩ := HI.out.2.shape
      have hmul : IntKind.i64.wrap ((ch : Int) * k) = ((ch * k : Nat) : Int) := by rw [IntKind.wrap_i64]; push_cast; omega
      have hmlt : ((ch * k : Nat) : Int) < (ld : Int) := by omega
      have hk5 : k ≤ 65535 := by omega
      have hcells : [Value.int .u8 99, .int .u8 ((n : Int) / 65536), .int .u8 ((n : Int) / 256 % 256), .int .u8 ((n : Int) % 256), .int .u8 ((k : Int) / 256), .int .u8 ((k : Int) % 256)] = (ckey (fpre n) k).map fun b => Value.int .u8 b.toNat := by
        have hn9 := HNP.out.2
        unfold ckey fpre
        rw [be3i_nat hn9, List.map_append, List.map_cons, ← be3_cells n hn9, ← be2_cells k hk5]
        rfl
      have hcv := conv_bytes' (bytes_new (w := wr) (n := 6) hcells)
      obtain ⟨key, hkey⟩ : ∃ key, key = ckey (fpre n) k := ⟨_, rfl⟩
      rw [← hkey] at hcv
      have HKEY := Lib.hid hkey
      clear hcells hkey
      have hsz : wr.heap.size + 1 = (wr.alloc (.cells #[.int .u8 99, .int .u8 ((n : Int) / 65536), .int .u8 ((n : Int) / 256 % 256), .int .u8 ((n : Int) % 256), .int .u8 ((k : Int) / 256), .int .u8 ((k : Int) % 256)] 5)).heap.size := by simp
      obtain ⟨W5, hW5⟩ : ∃ W5, W5 = wr.alloc (.cells #[.int .u8 99, .int .u8 ((n : Int) / 65536), .int .u8 ((n : Int) / 256 % 256), .int .u8 ((n : Int) % 256), .int .u8 ((k : Int) / 256), .int .u8 ((k : Int) % 256)] 5) := ⟨_, rfl⟩
      have HW5 := Lib.hid hW5
      have HSZ := Lib.hid hsz
      have HTK : Hid (L.take (k + 1) = L.take k ++ [(key, chunkAt ch d k)]) := Lib.hid (by
        rw [HLL.out, HKEY.out, HCH.out]
        exact chunks_take (by have := HCH.out; omega) (by rw [← HCH.out, ← HLD.out]; exact hkl))
      have hstep : ∀ (u : Str) v6 w6, u = chunkAt ch d k → App (W5.alloc (.cells #[.string ⟨key.toArray⟩, .string ⟨u.toArray⟩] 52)) (fun q => w4.heap.size ≤ q) 52 2 (.slice wA k wc) k 1 (pairL (L.take k)) [.string ⟨key.toArray⟩, .string ⟨u.toArray⟩] v6 w6 → Only NoB w4 w6 ∧ Own w6 (fun q => w4.heap.size ≤ q) 52 2 v6 (k + 1) (pairL (L.take (k + 1))) := by
        intro u v6 w6 hu ha
        have ho5 : Only NoB w4 (W5.alloc (.cells #[.string ⟨key.toArray⟩, .string ⟨u.toArray⟩] 52)) := by rw [HW5.out]; exact (HI.out.1.alloc _).alloc _
        refine ⟨ho5.trans' ha.only fun i hi hq => by have := HI.out.2.2 i hq; omega, ?_⟩
        rw [HTK.out, pairL_append, ← hu]
        exact ha.own.mono fun q hq _ => by rcases hq with hq | hq; (· exact hq); (· rw [hq]; exact ho5.size)
      have HST := Lib.hid hstep
      have hown5 : ∀ u : Str, Own (W5.alloc (.cells #[.string ⟨key.toArray⟩, .string ⟨u.toArray⟩] 52)) (fun q => w4.heap.size ≤ q) 52 2 (.slice wA k wc) k (pairL (L.take k)) := fun u => by rw [HW5.out]; exact (HI.out.2.alloc _).alloc _
      have HOW := Lib.hid hown5
      clear hstep hown5 hsz
      by_cases hmin : ((ch * k : Nat) : Int) + ch < (ld : Int)
      · have hex := ext_ok d (ch * k) (ch * k + ch)
        have hcu : (d.drop (ch * k)).take (ch * k + ch - ch * k) = chunkAt ch d k := by unfold chunkAt; rw [Nat.add_sub_cancel_left]
        have hwa : IntKind.i64.wrap (((ch * k : Nat) : Int) + ch) = ((ch * k + ch : Nat) : Int) := by rw [IntKind.wrap_i64]; omega
        rw [hcu] at hex
        obtain ⟨u, hu⟩ : ∃ u, u = chunkAt ch d k := ⟨_, rfl⟩
        rw [← hu] at hex
        have HU := Lib.hid hu
        have hr6 := rd_new W5 52 2 1 [.string ⟨key.toArray⟩, .string ⟨u.toArray⟩] rfl
        have ho6 := HOW.out u
        rw [hW5] at ho6 hr6
        rw [← HSZ.out] at hr6
        have HR6 := Lib.hid hr6
        have HO6 := Lib.hid ho6
        clear hu hcu hW5 hr6 ho6 HOW
        go_wp2_with (at_builtin; refine wpList_app rfl _ _ _ rfl (by kernel_rfl) Ty.pair rfl rfl HO6.out HR6.out (by simp [Value.oneCell']) (by omega) ?_; intro v6 w6 ha6; obtain ⟨A6, c6, rfl, _⟩ := id ha6.shape; have H6 := Lib.hid (HST.out u _ _ HU.out (by rw [HW5.out]; exact ha6)); clear ha6)
        exact ⟨⟨k + 1, by omega, by go_num, H6⟩, by simp [intOf]; omega⟩
      · have hex := ext_ok d (ch * k) ld
        have hcu : (d.drop (ch * k)).take (ld - ch * k) = chunkAt ch d k := by unfold chunkAt; rw [List.take_of_length_le (by simp; omega), List.take_of_length_le (by simp; omega)]
        have hwa : IntKind.i64.wrap (((ch * k : Nat) : Int) + ch) = ((ch * k : Nat) : Int) + ch := by rw [IntKind.wrap_i64]; omega
        have hif : (if (ld : Int) < (ch : Int) * k + ch then (ld : Int) else (ch : Int) * k + ch) = (ld : Int) := by
          have e1 : ((ch * k : Nat) : Int) = (ch : Int) * k := by push_cast; rfl
          rw [e1] at hmin
          split <;> omega
        rw [hcu] at hex
        obtain ⟨u, hu⟩ : ∃ u, u = chunkAt ch d k := ⟨_, rfl⟩
        rw [← hu] at hex
        have HU := Lib.hid hu
        have hr6 := rd_new W5 52 2 1 [.string ⟨key.toArray⟩, .string ⟨u.toArray⟩] rfl
        have ho6 := HOW.out u
        rw [hW5] at ho6 hr6
        rw [← HSZ.out] at hr6
        have HR6 := Lib.hid hr6
        have HO6 := Lib.hid ho6
        clear hu hcu hW5 hr6 ho6 HOW
        go_wp2_with (at_builtin; refine wpList_app rfl _ _ _ rfl (by kernel_rfl) Ty.pair rfl rfl HO6.out HR6.out (by simp [Value.oneCell']) (by omega) ?_; intro v6 w6 ha6; obtain ⟨A6, c6, rfl, _⟩ := id ha6.shape; have H6 := Lib.hid (HST.out u _ _ HU.out (by rw [HW5.out]; exact ha6)); clear ha6)
        exact ⟨⟨k + 1, by omega, by go_num, H6⟩, by simp [intOf]; omega⟩
    · obtain rfl : k = L.length := by omega
      obtain ⟨wA, wc, rfl, _⟩ := HI.out.2.shape
      have hkl : ¬ ch * L.length < ld := fun h1 => by
        have h2 : L.length < chunkN ch ld := (chunkN_lt (by omega)).2 h1
        rw [HCH.out, HLD.out, ← chunks_len (p := fpre n), ← HLL.out] at h2
        omega
      have hcl : ch * L.length ≤ 200 * 301 := Nat.mul_le_mul hch.2 hl301
      have hmul : IntKind.i64.wrap ((ch : Int) * L.length) = ((ch * L.length : Nat) : Int) := by rw [IntKind.wrap_i64]; push_cast; omega
      have hmlt : ¬ (((ch * L.length : Nat) : Int) < (ld : Int)) := by omega
      have hw := HI.out.2
      rw [List.take_length] at hw
      have HWO := Lib.hid hw
      have HKR := HK.out.quit HI.out.1
      have HCK := Lib.hid (kv_check HKR (by omega))
      have HO5 := Lib.hid (HO.out.trans HI.out.1)
      have HFL := Lib.hid HKR.lt
      have HFL4 := Lib.hid HK.out.lt
      have HLR := Lib.hid (HLO.out.only HI.out.1 fun _ _ => id)
      clear hw HKR
      go_wp2_with fail
      refine HCK.out.mono ?_
      rintro e w6 ⟨rfl, F6, hk6, ho6, hg6⟩
      have h2 := low_trans HO5.out HF.out ho6 hg6
      have HO6 := Lib.hid h2.1
      have hw6 := HWO.out.only ho6 fun q hq hf => by have := HFL4.out q hf; omega
      have hl6 := HLR.out.only ho6 fun q hq hf => hq.2 hf
      have HW6 := Lib.hid hw6
      have HL6 := Lib.hid hl6
      have HAW := Lib.hid (HA.out w6)
      clear hk6 ho6 hg6 h2 hw6 hl6
      go_wp2_with fail
      refine HAW.out.mono ?_
      rintro e w7 ⟨rfl, ho7⟩
      have HP8 := Lib.hid (pairs08_ok _ _ L (Rd.only HL6.out.rd ho7 fun _ _ => id) (Rd.only HW6.out.rd ho7 fun _ _ => id) (by omega))
      have HO7 := Lib.hid (HO6.out.trans ho7)
      clear ho7
      go_wp2_with fail
      refine HP8.out.mono ?_
      rintro e w8 ⟨rfl, ho8⟩
      have HO8 := Lib.hid (HO7.out.trans ho8)
      clear ho8
      go_wp2_with fail
      go_ret
      exact ⟨rfl, HO8.out⟩
end
theorem filesChunks_walk (w : World) (size : Int) (_ : (Lit.int .i64 size).wf = true) (s1 : ByteArray) (_ : s1.size ≤ maxLen) (n : Int) (_ : (Lit.int .i64 n).wf = true) :
    Calls Tryz.prog 6 #[.int .i64 size, .string s1, .int .i64 n] w (Quit w (.bool true)) := by
  obtain ⟨⟨d⟩, rfl⟩ : ∃ x : Array UInt8, s1 = ⟨x⟩ := ⟨s1.data, rfl⟩
  by_cases hs : 64 ≤ size ∧ size ≤ 4096
  · obtain ⟨sz, rfl⟩ := Int.eq_ofNat_of_zero_le (show 0 ≤ size by omega)
    by_cases hok : chunksOk (chunkOf sz) sz n d.length
    · obtain ⟨n', rfl⟩ := Int.eq_ofNat_of_zero_le (show 0 ≤ n by have := hok.2.2.2.1; omega)
      exact chunks_main sz d n' (by omega) (by omega) hok
    · exact chunks_skip sz d n (by omega) (by omega) hok
  · exact chunks_bad size _ _ hs
end Go.Proofs.YtdipjakblaeekaaGreat
