import Derived.Test.YtpjfheadolphgaaGreatMh7
set_option linter.unusedVariables false
set_option linter.unusedSimpArgs false
namespace Go.Proofs.YtpjfheadolphgaaGreat
open Go.RowKit Go.Proofs Go.Shelf
set_option maxRecDepth 20000
attribute [local go_sem] Oper.semAt_some
section
variable {w w' : World}
def RisI (w wr : World) (X : XC) (t L c : Nat) : Prop := ∃ F G, PfO w wr X t (regK 4) G c F ∧ Cons (G [112]).1 ∧ (G [112]).1.length = L
theorem RisI.more {wr : World} {X : XC} {t L c c' : Nat} (h : RisI w wr X t L c) (hc : c ≤ c') (h3 : c' ≤ 390) : RisI w wr X t L c' := by
 obtain ⟨F, G, h1, h2, h4⟩ := h
 exact ⟨F, G, h1.mono hc h3, h2, h4⟩
set_option maxHeartbeats 8000000 in
theorem profilesRise_main (v : Value) (l : List OpP) (hl : POps w (Old w) v l) (hz : ∀ o ∈ l, o.p.length ≤ reachBytes ∧ o.s.length ≤ reachBytes) : Calls Tryz.prog 11 #[v] w fun e w' => e = .returned (.bool true) ∧ Only NoB w w' := by
 obtain ⟨A, c, rfl, _⟩ := hl.shape
 have HF := Pk.mk (few25_any w _ _ l hl hz)
 have HT := Pk.mk fun w => open25_ok (w := w)
 have HAW := Pk.mk fun w => awake25_ok (w := w)
 have H := Pk.mk hl
 clear hl hz
 go_enter Tryz.func11, Tryz.ntmps11
 go_wp2_with fail
 refine HF.out.mono ?_
 rintro e w1 ⟨b, rfl, ho, hb⟩
 have HO1 := Pk.mk ho
 cases b with
 | false =>
  clear ho hb
  go_wp2_with fail
  go_ret
  exact ⟨rfl, HO1.out⟩
 | true =>
  obtain ⟨hl60, hlen⟩ := hb rfl
  have HLN := Pk.mk hlen
  clear ho hb hlen
  go_wp2_with fail
  refine (HT.out _).mono ?_
  rintro e w2 ⟨t, F, X, x, Gx, rfl, hp, hr, hd, ho, hF, hG⟩
  have HI : Pk (RisI w w2 X t 0 (4 + 2 * 0)) := Pk.mk ⟨F, _, ⟨hp, HO1.out.trans ho, fun k hk => by have := hF k hk; have := HO1.out.size; omega⟩, fun i (h : i < ([] : List Gn).length) => absurd h (Nat.not_lt_zero _), rfl⟩
  clear hp hr hd ho hF hG HT
  go_wp2_with fail
  go_loopw [5, 6] (fun r i wr => ∃ k L : Nat, k ≤ l.length ∧ i = .int .i64 k ∧ r = .int .i64 L ∧ L ≤ k ∧ Pk (RisI w wr X t L (4 + 2 * k))) (fun _ i _ => l.length - (intOf i).toNat)
  case atStart => exact ⟨0, 0, Nat.zero_le _, rfl, rfl, Nat.le_refl _, HI⟩
  case round =>
   obtain ⟨k, L, hk, rfl, rfl, hL, HI⟩ := hrel
   by_cases hlt : k < l.length
   ·obtain ⟨g, off, cc, hve, _, hg, ho⟩ := H.out.open_ hlt
    injection hve with h1 h2 h3
    subst h1; subst h3
    obtain ⟨F, G, hpf, hcons, hln⟩ := HI.out
    obtain ⟨o, hoe⟩ : ∃ o, o = l[k] := ⟨_, rfl⟩
    rw [← hoe] at ho
    have hlo := HLN.out o (by rw [hoe]; exact List.getElem_mem hlt)
    have hon := hpf.on
    obtain ⟨oa, on, op, os⟩ := o
    have c0 : wr.cell? ⟨g, off + k * 4, none⟩ = some (.int .i64 oa) := hon.cell ho.a id
    have c1 : wr.cell? ⟨g, off + k * 4 + 1, none⟩ = some (.int .i64 on) := hon.cell ho.n id
    have c2 : wr.cell? ⟨g, off + k * 4 + 2, none⟩ = some (.string ⟨op.toArray⟩) := hon.cell ho.p id
    have c3 : wr.cell? ⟨g, off + k * 4 + 3, none⟩ = some (.string ⟨os.toArray⟩) := hon.cell ho.s id
    have HLO := Pk.mk hlo
    have ho1 : Only NoB wr (wr.alloc (.cells #[.int .i64 oa, .int .i64 on, .string ⟨op.toArray⟩, .string ⟨os.toArray⟩] 98)) := (Only.refl NoB wr).alloc _
    have hb7 := Bq.new hpf #[.int .i64 oa, .int .i64 on, .string ⟨op.toArray⟩, .string ⟨os.toArray⟩] 98
    obtain ⟨W1, hW1⟩ : ∃ W1, W1 = wr.alloc (.cells #[.int .i64 oa, .int .i64 on, .string ⟨op.toArray⟩, .string ⟨os.toArray⟩] 98) := ⟨_, rfl⟩
    obtain ⟨b7, hB7⟩ : ∃ b, b = wr.heap.size := ⟨_, rfl⟩
    rw [← hW1, ← hB7] at hb7
    rw [← hW1] at ho1
    have P1 := Pk.mk (hpf.quit ho1)
    have B7 := Pk.mk hb7
    have HW1 := Pk.mk hW1
    have HB7 := Pk.mk hB7
    have HCO := Pk.mk hcons
    have HLL := Pk.mk hln
    have hkw : IntKind.i64.wrap ((k : Int) + 1) = ((k + 1 : Nat) : Int) := by rw [IntKind.wrap_i64]; omega
    have hk60 : k < 60 := by omega
    clear hpf hcons hln hlo hon ho ho1 hb7 hW1 hB7 hoe
    go_upto_region 11 with fail
    rw [← HW1.out, ← HB7.out]
    clear c0 c1 c2 c3
    have x0 : W1.cell? ⟨b7, 0, none⟩ = some (.int .i64 oa) := B7.out.blk.cell 0
    have x1 : W1.cell? ⟨b7, 1, none⟩ = some (.int .i64 on) := B7.out.blk.cell 1
    by_cases h0 : oa = 0
    ·subst h0
     go_wp2_with fail
     refine (P1.out.cur [112] (by decide)).mono ?_
     rintro e w3 ⟨rfl, F3, p3, ho3, hg3⟩
     obtain ⟨M, hM⟩ : ∃ M, M = (curG (G [112]) [112]).1 := ⟨_, rfl⟩
     obtain ⟨wn, hwn⟩ : ∃ wn, wn = (curG (G [112]) [112]).2 := ⟨_, rfl⟩
     obtain ⟨en, hen⟩ : ∃ en, en = curE (G [112]) [112] := ⟨_, rfl⟩
     rw [← hM, ← hwn, ← hen]
     have HM := Pk.mk hM
     have b73 := B7.out.step ho3 hg3
     have ho4 : Only NoB w3 (w3.alloc (.cells #[.int .i64 (M : Nat), .string ⟨wn.toArray⟩] 105)) := (Only.refl NoB w3).alloc _
     have b8 := Bq.new p3 #[.int .i64 (M : Nat), .string ⟨wn.toArray⟩] 105
     have b74 := b73.quit ho4
     have p4 := p3.quit ho4
     obtain ⟨w4, hw4⟩ : ∃ w4, w4 = w3.alloc (.cells #[.int .i64 (M : Nat), .string ⟨wn.toArray⟩] 105) := ⟨_, rfl⟩
     obtain ⟨q8, hq8⟩ : ∃ b, b = w3.heap.size := ⟨_, rfl⟩
     rw [← hw4] at p4 b74 b8
     rw [← hq8] at b8
     have y3 : w4.cell? ⟨b7, 3, none⟩ = some (.string ⟨os.toArray⟩) := b74.blk.cell 3
     have P4 := Pk.mk p4
     have B7 := Pk.mk b74
     have B8 := Pk.mk b8
     have HW4 := Pk.mk hw4
     have HQ8 := Pk.mk hq8
     have HADD := Pk.mk (p4.add (by omega) [112] os (by decide) (by have h := HLO.out; have h : op.length + os.length ≤ 300 := h; omega))
     rw [hw4] at y3
     clear p3 ho3 hg3 hM hwn hen b73 ho4 b8 b74 p4 hw4 hq8 x0 x1
     go_wp2_with fail
     rw [← HW4.out, ← HQ8.out]
     clear y3
     refine HADD.out.mono ?_
     rintro e w5 ⟨rfl, F5, p5, ho5, hg5⟩
     obtain ⟨N, hN⟩ : ∃ N, N = (addA (regK 4) (G [112]) [112] os).1 := ⟨_, rfl⟩
     obtain ⟨ea, hea⟩ : ∃ ea, ea = (addA (regK 4) (G [112]) [112] os).2 := ⟨_, rfl⟩
     rw [← hN, ← hea]
     have B75 := Pk.mk (B7.out.step ho5 hg5)
     have B85 := Pk.mk (B8.out.step ho5 hg5)
     by_cases hz : ea = 0
     ·subst hz
      have hrd := rise_add (l := (G [112]).1) (cu := (G [112]).2) (a := os) (p := [112]) (regs := regK 4) (by decide) HCO.out (fun hn => ((P1.out.at_.good [112]).1.cur hn).1) hea.symm
      rw [show ((G [112]).1, (G [112]).2) = G [112] from rfl] at hrd
      rw [← hN, ← HM.out, HLL.out] at hrd
      obtain ⟨h1, h2, h3, h4⟩ := hrd
      have HC : Pk (Calls Tryz.prog 61 #[.pointer (some ⟨t, 0, none⟩), .string ⟨#[112]⟩] w5 (PfC w w5 X t (regK 4) F5 (.tuple #[.agg #[.int .i64 (N : Nat), .string ⟨os.toArray⟩], .int .i64 0]) (updP G [112] (addS (regK 4) (G [112]) [112] os)) (4 + 2 * k + 2))) := Pk.mk (by
       have := p5.cur [112] (by decide)
       rw [updP_same, h1, h2] at this
       exact this)
      have HEND : Pk (∀ F w', PfO w w' X t (regK 4) (updP G [112] (addS (regK 4) (G [112]) [112] os)) (4 + 2 * k + 2) F → RisI w w' X t (addS (regK 4) (G [112]) [112] os).1.length (4 + 2 * (k + 1))) := Pk.mk fun F w' h => ⟨F, _, h, by rw [updP_same]; exact h3, by rw [updP_same]⟩
      obtain ⟨LE, hLE⟩ : ∃ LE, LE = (addS (regK 4) (G [112]) [112] os).1.length := ⟨_, rfl⟩
      rw [← hLE] at h4 HEND
      clear h1 h2 h3 hLE hN hea p5 ho5 hg5
      go_wp2_with fail
      refine HC.out.mono ?_
      rintro e w6 ⟨rfl, F6, p6, ho6, hg6⟩
      have ho7 : Only NoB w6 (w6.alloc (.cells #[.int .i64 (N : Nat), .string ⟨os.toArray⟩] 105)) := (Only.refl NoB w6).alloc _
      have y3 : (w6.alloc (.cells #[.int .i64 (N : Nat), .string ⟨os.toArray⟩] 105)).cell? ⟨b7, 3, none⟩ = some (.string ⟨os.toArray⟩) := ((B75.out.step ho6 hg6).quit ho7).blk.cell 3
      have y8 : (w6.alloc (.cells #[.int .i64 (N : Nat), .string ⟨os.toArray⟩] 105)).cell? ⟨q8, 0, none⟩ = some (.int .i64 (M : Nat)) := ((B85.out.step ho6 hg6).quit ho7).blk.cell 0
      have HI6 := Pk.mk (HEND.out _ _ (p6.quit ho7))
      clear p6 ho6 hg6 ho7
      rcases h4 with ⟨hNM, hle, hL2⟩ | ⟨hne, hN1, hL2⟩
      ·subst hNM
       subst hL2
       have hmx : ¬ (LE : Int) < (N : Int) := by omega
       go_wp2_with fail
       exact ⟨⟨k + 1, LE, by omega, rfl, rfl, by omega, HI6⟩, by simp [intOf]; omega⟩
      ·have hne' : ¬ (N : Int) = (M : Int) := by omega
       have hLw : IntKind.i64.wrap ((L : Int) + 1) = (N : Int) := by rw [IntKind.wrap_i64]; omega
       have hmx : (L : Int) < (N : Int) := by omega
       have hLE : LE = N := by omega
       have hNk : N ≤ k + 1 := by omega
       rw [hLE] at HI6
       clear hN1 hL2 hLE
       go_wp2_with fail
       exact ⟨⟨k + 1, N, by omega, rfl, rfl, hNk, HI6⟩, by simp [intOf]; omega⟩
     ·have hno : addS (regK 4) (G [112]) [112] os = G [112] := rise_no (by rw [← hea]; exact hz)
      have hz' : ¬ ((ea : Nat) : Int) = 0 := by omega
      have HI5 : Pk (RisI w w5 X t L (4 + 2 * (k + 1))) := Pk.mk ⟨F5, _, p5, by rw [updP_same, hno]; exact HCO.out, by rw [updP_same, hno]; exact HLL.out⟩
      clear p5 ho5 hg5 hno hN hea
      go_wp2_with fail
      exact ⟨⟨k + 1, L, by omega, rfl, rfl, by omega, HI5⟩, by simp [intOf]; omega⟩
    ·by_cases h1 : oa = 1
     ·subst h1
      have HS := Pk.mk (P1.out.swi (by omega) [112] on (by decide))
      clear HB7 HW1
      go_wp2_with fail
      refine HS.out.mono ?_
      rintro e w3 ⟨rfl, F3, p3, ho3, hg3⟩
      have HI3 : Pk (RisI w w3 X t L (4 + 2 * (k + 1))) := Pk.mk (RisI.more ⟨F3, _, p3, by rw [updP_same, swi_fst]; exact HCO.out, by rw [updP_same, swi_fst]; exact HLL.out⟩ (by omega) (by omega))
      clear p3 ho3 hg3 x0 x1
      go_wp2_with fail
      exact ⟨⟨k + 1, L, by omega, rfl, rfl, by omega, HI3⟩, by simp [intOf]; omega⟩
     ·by_cases h2 : oa = 2
      ·subst h2
       have HS := Pk.mk (P1.out.rol (by omega) [112] (by decide))
       clear HB7 HW1
       go_wp2_with fail
       refine HS.out.mono ?_
       rintro e w3 ⟨rfl, F3, p3, ho3, hg3⟩
       have HI3 : Pk (RisI w w3 X t L (4 + 2 * (k + 1))) := Pk.mk (RisI.more ⟨F3, _, p3, by rw [updP_same, rol_fst]; exact HCO.out, by rw [updP_same, rol_fst]; exact HLL.out⟩ (by omega) (by omega))
       clear p3 ho3 hg3 x0 x1
       go_wp2_with fail
       exact ⟨⟨k + 1, L, by omega, rfl, rfl, by omega, HI3⟩, by simp [intOf]; omega⟩
      ·have HI3 : Pk (RisI w W1 X t L (4 + 2 * (k + 1))) := Pk.mk (RisI.more ⟨F, _, P1.out, HCO.out, HLL.out⟩ (by omega) (by omega))
       clear HB7 HW1
       go_wp2_with fail
       exact ⟨⟨k + 1, L, by omega, rfl, rfl, by omega, HI3⟩, by simp [intOf]; omega⟩
   ·obtain rfl : k = l.length := by omega
    obtain ⟨F, G, hpf, hcons, hln⟩ := HI.out
    have HLI := Pk.mk (hpf.lis [112] (by decide))
    rw [show lisE [112] = 0 by decide] at HLI
    subst hln
    clear hpf hcons HF
    go_wp2_with fail
    refine HLI.out.mono ?_
    rintro e w3 ⟨A3, cp, F3, rfl, p3, how, ho3, hg3⟩
    have HP3 := Pk.mk p3.on
    clear p3 how ho3 hg3
    go_wp2_with fail
    refine (HAW.out _).mono ?_
    rintro e w4 ⟨rfl, ho4⟩
    have HP4 := Pk.mk (HP3.out.trans ho4)
    clear ho4
    go_wp2_with fail
    go_ret
    exact ⟨rfl, HP4.out⟩
end
theorem profilesRise_walk (w : World) (v : Value) (l : List OpP) (hl : POps w (Old w) v l) (hz : ∀ o ∈ l, o.p.length ≤ reachBytes ∧ o.s.length ≤ reachBytes) : Calls Tryz.prog 11 #[v] w (Quit w (.bool true)) := profilesRise_main v l hl hz
end Go.Proofs.YtpjfheadolphgaaGreat
