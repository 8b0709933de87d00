import Derived.Test.YtklfkocebhhgcaaGreatMf5
import Derived.OwnWalkIn
import Derived.Lib.ConvBytes
import Derived.Laws.BitsAllLaws
import Derived.Lib.Bytealg
set_option linter.unusedVariables false
set_option linter.unusedSimpArgs false
namespace Go.Proofs.YtklfkocebhhgcaaGreat
open Go.RowKit Go.Proofs
set_option maxRecDepth 20000
section
variable {w : World} {s : Str}
theorem set_has (b : Nat) (x : UInt8) (v : Bool) (w : World) (hc : w.cell? ⟨b, x.toNat, none⟩ = some (.bool v)) :
  Calls Tryz.prog 240 #[.pointer (some ⟨b, 0, none⟩), .int .u8 x.toNat] w fun e w' => e = .returned (.bool v) ∧ w = w' := by
 have hx256 : (x.toNat : Int) < 256 := by have := UInt8.toNat_lt x; omega
 go_enter Tryz.func240, Tryz.ntmps240
 go_wp2
 go_ret
 exact ⟨rfl, rfl⟩
theorem use_set (n : Int) (w : World) : Calls Tryz.prog 238 #[.int .i64 n] w fun e w' => e = .returned (.bool (decide (8 < n))) ∧ w = w' := by
 go_enter Tryz.func238, Tryz.ntmps238
 go_wp2
 go_ret
 exact ⟨rfl, rfl⟩
def AnyOut (w : World) (s : Str) (e : Ending) (w' : World) : Prop := ∃ v : Int, e = .returned (.int .i64 v) ∧ (0 ≤ v ↔ hasZS s = true) ∧ Only NoB w w'
theorem anyOut_hit {w w' : World} {i : Nat} {b : UInt8} (hb : s[i]? = some b) (h : (b == 0 || b == 47) = true) (ho : Only NoB w w') : AnyOut w s (.returned (.int .i64 (i : Int))) w' :=
 ⟨i, rfl, ⟨fun _ => by unfold hasZS; rw [List.any_eq_true]; exact ⟨b, List.mem_of_getElem? hb, h⟩, fun _ => by omega⟩, ho⟩
theorem anyOut_none {w w' : World} (h : hasZS s = false) (ho : Only NoB w w') : AnyOut w s (.returned (.int .i64 (-1))) w' := ⟨-1, rfl, ⟨fun h => by omega, fun h2 => by rw [h] at h2; cases h2⟩, ho⟩
theorem byte_at {i : Nat} {b : UInt8} (hb : s[i]? = some b) : ∀ h, ((⟨s.toArray⟩ : ByteArray)[i]'h) = b := fun h => by
 obtain ⟨h1, rfl⟩ := List.getElem?_eq_some_iff.1 hb
 simp [ByteArray.getElem_eq_getElem_data]
set_option maxHeartbeats 4000000 in
set_option maxRecDepth 20000 in
theorem any_long (h8 : 8 < s.length) (w : World) (hl : s.length ≤ 1000000000) : Calls Tryz.prog 223 #[.string ⟨s.toArray⟩, .string zs] w (AnyOut w s) := by
 have HM := Lib.hid (mkset_ok w)
 have HU := Lib.hid fun n => use_set n w
 obtain ⟨W2, hW2⟩ : ∃ W2, W2 = (w.alloc (.cells (Lib.setCells [0, 47]) 285)).alloc (.cells (Lib.setCells [0, 47]) 285) := ⟨_, rfl⟩
 have hsc : (storeCells ⟨w.heap.size + 1, 0, none⟩ (Lib.setCells [0, 47]).toList 0).run Tryz.prog ((w.alloc (.cells (Lib.setCells [0, 47]) 285)).alloc (.cells (Array.replicate 256 (.bool false)) 285)) = .ok () W2 := by
  have := run_storeCells_new (P := Tryz.prog) (w.alloc (.cells (Lib.setCells [0, 47]) 285)) 285 (Array.replicate 256 (.bool false)) (Lib.setCells [0, 47]) (by rw [Lib.setCells_size]; exact set_size) (by rw [Lib.setCells_size, Array.size_replicate]) (Lib.setCells_one _)
  rw [hW2]
  simpa using this
 have hsz := Lib.setCells_size [0, 47]
 have hcellAt : ∀ x : UInt8, W2.cell? ⟨w.heap.size + 1, x.toNat, none⟩ = some (.bool (x == 0 || x == 47)) := fun x => by
  rw [hW2, World.cell?_alloc_at _ _ _ _ (by simp), Lib.setCells_at, zs_contains]
 have HC := Lib.hid hcellAt
 have HSC := Lib.hid hsc
 have HO2 : Hid (Only NoB w W2) := Lib.hid (by rw [hW2]; exact ((Only.refl NoB w).alloc _).alloc _)
 have hz := set_zero
 have t230 : Tryz.prog.underlying 285 = some (.array 256 4) := by kernel_rfl
 obtain ⟨ls, hls⟩ : ∃ ls, ls = s.length := ⟨_, rfl⟩
 have hls' : s.length = ls := hls.symm
 have h8d : decide ((8 : Int) < (ls : Int)) = true := decide_eq_true (by omega)
 rw [hls'] at h8 hl
 clear hsc hcellAt hW2 hls
 unfold zs at HM ⊢
 go_enter Tryz.func223, Tryz.ntmps223
 go_wp2_with fail
 refine (HU.out _).mono ?_
 rintro e w1 ⟨rfl, rfl⟩
 rw [h8d]
 go_wp2_with fail
 refine HM.out.mono ?_
 rintro e w1 ⟨rfl, rfl⟩
 go_wp2_with fail
 rw [HSC.out]
 simp only [Result.andThen]
 rw [Oper.upon_skip]
 clear hsz hz t230
 go_wp2_with fail
 go_loop [8] (fun i => ∃ k : Nat, k ≤ ls ∧ i = .int .i64 k ∧ hasZS (s.take k) = false) (fun i => ls - (intOf i).toNat)
 case atStart => exact ⟨0, Nat.zero_le _, rfl, rfl⟩
 case round =>
  obtain ⟨k, hk, rfl, hno⟩ := hrel
  have HN := Lib.hid hno
  clear hno
  by_cases hlt : k < ls
  ·have hks : k < s.length := by omega
   obtain ⟨b, hse⟩ : ∃ b, s[k]? = some b := ⟨_, List.getElem?_eq_getElem hks⟩
   have hb := byte_at hse
   have HSE := Lib.hid hse
   have HS := Lib.hid (set_has (w.heap.size + 1) b _ W2 (HC.out b))
   cases hin : (b == 0 || b == 47) with
   | false =>
    rw [hin] at HS
    have HT := Lib.hid (hasZS_take HSE.out)
    rw [hin] at HT
    clear hse hks hin
    go_wp2_with fail
    refine HS.out.mono ?_
    rintro e w1 ⟨rfl, rfl⟩
    go_wp2_with fail
    exact ⟨⟨k + 1, by omega, by go_num, by rw [HT.out, HN.out]; rfl⟩, by simp [intOf]; omega⟩
   | true =>
    rw [hin] at HS
    have HE := Lib.hid (anyOut_hit HSE.out hin HO2.out)
    clear hse hks hin
    go_wp2_with fail
    refine HS.out.mono ?_
    rintro e w1 ⟨rfl, rfl⟩
    go_wp2_with fail
    go_ret
    exact HE.out
  ·obtain rfl : k = ls := by omega
   have hno := HN.out
   rw [← hls', List.take_length] at hno
   have HE := Lib.hid (anyOut_none hno HO2.out)
   clear hno
   go_wp2_with fail
   go_ret
   exact HE.out
def IterAt (w : World) (r : Nat) (s : Str) (pos : Nat) : Prop := w.heap[r]? = some (.stringIter ⟨s.toArray⟩ pos)
theorem next_any {r pos : Nat} (h : IterAt w r s pos) (hp : pos < s.length) :
  ∃ w', (∀ ty, (Instr.next (.pointer (some ⟨r, 0, none⟩)) true ty).run Tryz.prog w = .ok (.tuple #[.bool true, .int .i64 pos, .int .i32 (Utf8.decode ⟨s.toArray⟩ pos).1]) w') ∧ IterAt w' r s (pos + (Utf8.decode ⟨s.toArray⟩ pos).2) ∧ Only (fun k => k = r) w w' := by
 have hlt : r < w.heap.size := (Array.getElem?_eq_some_iff.1 h).1
 refine ⟨{ w with heap := w.heap.setIfInBounds r (.stringIter ⟨s.toArray⟩ (pos + (Utf8.decode ⟨s.toArray⟩ pos).2)) }, ?_, ?_, ⟨rfl, rfl, rfl, by simp, fun k _ hk => by simp [Ne.symm hk]⟩⟩
 ·intro ty
  have hps : pos < (ByteArray.mk s.toArray).size := hp
  unfold IterAt at h
  simp only [Instr.next, getObj, setObj, Sem.run_bind, Sem.run, h, Result.andThen, hps, if_true]
  simp [goInt]
 ·unfold IterAt
  simp [hlt]
theorem next_end {r pos : Nat} (ty : TypeId) (h : IterAt w r s pos) (hp : ¬ pos < s.length) : (Instr.next (.pointer (some ⟨r, 0, none⟩)) true ty).run Tryz.prog w = .ok (.tuple #[.bool false]) w := by
 have hps : ¬ pos < (ByteArray.mk s.toArray).size := hp
 unfold IterAt at h
 simp [Instr.next, getObj, Sem.run, h, hps]
theorem decodeN_wide (n b0 b1 b2 b3 : Nat) (hn : 1 ≤ n) : 1 ≤ (Lib.decodeN n b0 b1 b2 b3).2 ∧ (Lib.decodeN n b0 b1 b2 b3).2 ≤ n ∧ (Lib.decodeN n b0 b1 b2 b3).2 ≤ 4 ∧ (b0 < 128 → Lib.decodeN n b0 b1 b2 b3 = (b0, 1)) ∧ (128 ≤ b0 → 128 ≤ (Lib.decodeN n b0 b1 b2 b3).1) ∧
  (2 ≤ (Lib.decodeN n b0 b1 b2 b3).2 → b1 / 64 = 2) ∧ (3 ≤ (Lib.decodeN n b0 b1 b2 b3).2 → b2 / 64 = 2) ∧ (4 ≤ (Lib.decodeN n b0 b1 b2 b3).2 → b3 / 64 = 2) := by
 unfold Lib.decodeN
 repeat' split
 all_goals (dsimp only; first | omega | (simp only [Prod.mk.injEq]; omega) | (simp; omega))
theorem rune_at {pos : Nat} (hp : pos < s.length) : 1 ≤ (Utf8.decode ⟨s.toArray⟩ pos).2 ∧ pos + (Utf8.decode ⟨s.toArray⟩ pos).2 ≤ s.length ∧
  (s[pos].toNat < 128 → Utf8.decode ⟨s.toArray⟩ pos = (s[pos].toNat, 1)) ∧ (128 ≤ s[pos].toNat → 128 ≤ (Utf8.decode ⟨s.toArray⟩ pos).1 ∧ ∀ j (h : j < s.length), pos ≤ j → j < pos + (Utf8.decode ⟨s.toArray⟩ pos).2 → 128 ≤ s[j].toNat) := by
 have hd := Lib.decode_N ⟨s.toArray⟩ pos
 simp only at hd
 have hg : ∀ k (h : k < s.length), s.getD k 0 = s[k] := fun k h => by rw [List.getD_eq_getElem?_getD, List.getElem?_eq_getElem h]; rfl
 rw [hd, hg pos hp]
 obtain ⟨h1, h2, h3, h4, h5, h6, h7, h8⟩ := decodeN_wide (s.length - pos) s[pos].toNat (s.getD (pos + 1) 0).toNat (s.getD (pos + 2) 0).toNat (s.getD (pos + 3) 0).toNat (by omega)
 refine ⟨h1, by omega, h4, fun hh => ⟨h5 hh, fun j hj hj1 hj2 => ?_⟩⟩
 obtain ⟨k, rfl⟩ : ∃ k, j = pos + k := ⟨j - pos, by omega⟩
 rcases k with _ | _ | _ | _ | k
 ·exact hh
 ·have := h6 (by omega); rw [hg _ hj] at this; omega
 ·have := h7 (by omega); rw [hg _ hj] at this; omega
 ·have := h8 (by omega); rw [hg _ hj] at this; omega
 ·omega
theorem hasZS_high {i j : Nat} (hij : i ≤ j) (hj : j ≤ s.length) (h : ∀ k (hk : k < s.length), i ≤ k → k < j → 128 ≤ s[k].toNat) : hasZS (s.take j) = hasZS (s.take i) := by
 have : s.take j = s.take i ++ (s.drop i).take (j - i) := by
  rw [← List.take_append_drop i (s.take j), List.take_take, List.drop_take, Nat.min_eq_left hij]
 rw [this]
 unfold hasZS
 rw [List.any_append]
 have h2 : ((s.drop i).take (j - i)).any (fun b => b == 0 || b == 47) = false := by
  rw [List.any_eq_false]
  intro x hx
  obtain ⟨k, hk, rfl⟩ := List.mem_iff_getElem.1 hx
  have hk2 : k < j - i := by simp at hk; omega
  rw [List.getElem_take, List.getElem_drop]
  have := h (i + k) (by omega) (by omega) (by omega)
  simp only [Bool.or_eq_true, beq_iff_eq]
  rintro (e | e) <;> (rw [e] at this; revert this; decide)
 rw [h2, Bool.or_false]
end
end Go.Proofs.YtklfkocebhhgcaaGreat
namespace Go.Proofs.YtklfkocebhhgcaaGreat
open Go.RowKit Go.Proofs
set_option maxRecDepth 20000
def posOf (w : World) (r : Nat) : Nat := match w.heap[r]? with | some (.stringIter _ p) => p | _ => 0
section
variable {w : World} {s : Str}
theorem posOf_at {r p : Nat} (h : IterAt w r s p) : posOf w r = p := by unfold posOf; unfold IterAt at h; rw [h]
set_option maxHeartbeats 4000000 in
theorem any_short (h8 : s.length ≤ 8) (w : World) : Calls Tryz.prog 223 #[.string ⟨s.toArray⟩, .string zs] w (AnyOut w s) := by
 have HU := Lib.hid fun n => use_set n w
 have HA := Lib.hid indexRune_ascii
 have HH := Lib.hid indexRune_high
 obtain ⟨ls, hls⟩ : ∃ ls, ls = s.length := ⟨_, rfl⟩
 have hls' : s.length = ls := hls.symm
 have h8d : decide ((8 : Int) < (ls : Int)) = false := decide_eq_false (by omega)
 have HL := Lib.hid hls'
 obtain ⟨R, hR⟩ : ∃ R, R = w.heap.size := ⟨_, rfl⟩
 have hi0 : IterAt (w.iter ⟨s.toArray⟩ 0) R s 0 := by rw [hR]; exact World.iter_heap w ⟨s.toArray⟩ 0
 have ho0 : Only NoB w (w.iter ⟨s.toArray⟩ 0) := (Only.refl NoB w).alloc _
 have HI := Lib.hid hi0
 have HO := Lib.hid ho0
 have HRL : Hid (w.heap.size ≤ R) := Lib.hid (by rw [hR]; exact Nat.le_refl _)
 have HRR := Lib.hid hR
 clear hls hi0 ho0 h8
 unfold zs at HA HH ⊢
 go_enter Tryz.func223, Tryz.ntmps223
 go_wp2_with fail
 refine (HU.out _).mono ?_
 rintro e w1 ⟨rfl, rfl⟩
 rw [h8d]
 go_wp2_with fail
 rw [← hR]
 clear hR
 go_loopw [9, 10] (fun _ _ wr => ∃ pos : Nat, Hid (IterAt wr R s pos ∧ pos ≤ ls ∧ Only NoB w wr ∧ hasZS (s.take pos) = false)) (fun _ _ wr => ls - posOf wr R)
 case atStart => exact ⟨0, Lib.hid ⟨HI.out, Nat.zero_le _, HO.out, rfl⟩⟩
 case round =>
  obtain ⟨pos, HJ⟩ := hrel
  have hmr : posOf wr R = pos := posOf_at HJ.out.1
  have HMR := Lib.hid hmr
  clear hmr HI HO
  by_cases hlt : pos < ls
  ·have hlt2 : pos < s.length := by have := HL.out; omega
   obtain ⟨h1, h2, h3, h4⟩ := rune_at hlt2
   obtain ⟨w5, hn5, hi5, ho5⟩ := next_any HJ.out.1 hlt2
   obtain ⟨rn, hrn⟩ : ∃ rn, rn = (Utf8.decode ⟨s.toArray⟩ pos).1 := ⟨_, rfl⟩
   obtain ⟨wd, hwd⟩ : ∃ wd, wd = (Utf8.decode ⟨s.toArray⟩ pos).2 := ⟨_, rfl⟩
   rw [← hwd] at h1 h2 h4 hi5
   rw [← hrn] at h4 hn5
   have ho6 : Only NoB w w5 := HJ.out.2.2.1.trans' ho5 fun k hk hq => by have := HRL.out; omega
   obtain ⟨b, hse⟩ : ∃ b, s[pos]? = some b := ⟨_, List.getElem?_eq_getElem hlt2⟩
   have hbe : s[pos] = b := (List.getElem?_eq_some_iff.1 hse).2
   rw [hbe] at h3 h4
   by_cases hb : b.toNat < 128
   ·have h5 := h3 hb
    rw [h5] at hrn hwd
    obtain rfl : rn = b.toNat := hrn
    obtain rfl : wd = 1 := hwd
    have HX := Lib.hid (HA.out b.toNat hb w5)
    have HT := Lib.hid (hasZS_take hse)
    have HI5 := Lib.hid hi5
    have HO6 := Lib.hid ho6
    have HSE := Lib.hid hse
    cases hin : (b == 0 || b == 47) with
    | false =>
     have hzn := zsAt_neg hin
     rw [hzn] at HX
     rw [hin] at HT
     clear h1 h2 h3 h4 h5 hi5 ho5 ho6 hse hbe hin hzn
     go_wp2_with fail
     refine HX.out.mono ?_
     rintro e w6 ⟨rfl, ho7⟩
     have hi6 : IterAt w6 R s (pos + 1) := (ho7.block R (Array.getElem?_eq_some_iff.1 HI5.out).1 id).trans HI5.out
     have HN : Hid (IterAt w6 R s (pos + 1) ∧ pos + 1 ≤ ls ∧ Only NoB w w6 ∧ hasZS (s.take (pos + 1)) = false) := Lib.hid ⟨hi6, by omega, HO6.out.trans ho7, by rw [HT.out, HJ.out.2.2.2]; rfl⟩
     have hm6 := posOf_at hi6
     have HM6 := Lib.hid hm6
     clear ho7 hi6 hm6
     go_wp2_with fail
     exact ⟨⟨pos + 1, HN⟩, by rw [HM6.out, HMR.out]; omega⟩
    | true =>
     have HP := Lib.hid (zsAt_pos hin)
     obtain ⟨v, hv⟩ : ∃ v, v = zsAt b.toNat := ⟨_, rfl⟩
     rw [← hv] at HX HP
     have hv0 := HP.out
     have HIN := Lib.hid hin
     clear h1 h2 h3 h4 h5 hi5 ho5 ho6 hse hbe hin hv
     go_wp2_with fail
     refine HX.out.mono ?_
     rintro e w6 ⟨rfl, ho7⟩
     have HE := Lib.hid (anyOut_hit HSE.out HIN.out (HO6.out.trans ho7))
     clear ho7
     go_wp2_with fail
     go_ret
     exact HE.out
   ·obtain ⟨h5, h6⟩ := h4 (by omega)
    have HX := Lib.hid (HH.out (rn : Int) (by omega) w5)
    have HT := Lib.hid (hasZS_high (i := pos) (j := pos + wd) (by omega) h2 h6)
    have HI5 := Lib.hid hi5
    have HO6 := Lib.hid ho6
    have hwl : pos + wd ≤ ls := by have := HL.out; omega
    clear h2 h3 h4 h5 h6 hi5 ho5 ho6 hse hbe hrn hwd hb
    go_wp2_with fail
    refine HX.out.mono ?_
    rintro e w6 ⟨rfl, ho7⟩
    have hi6 : IterAt w6 R s (pos + wd) := (ho7.block R (Array.getElem?_eq_some_iff.1 HI5.out).1 id).trans HI5.out
    have HN : Hid (IterAt w6 R s (pos + wd) ∧ pos + wd ≤ ls ∧ Only NoB w w6 ∧ hasZS (s.take (pos + wd)) = false) := Lib.hid ⟨hi6, hwl, HO6.out.trans ho7, by rw [HT.out, HJ.out.2.2.2]⟩
    have hm6 := posOf_at hi6
    have HM6 := Lib.hid hm6
    clear ho7 hi6 hm6
    go_wp2_with fail
    exact ⟨⟨pos + wd, HN⟩, by rw [HM6.out, HMR.out]; omega⟩
  ·obtain rfl : pos = ls := by have := HJ.out.2.1; omega
   have hnx := fun ty => next_end ty HJ.out.1 (by have := HL.out; omega)
   have hno := HJ.out.2.2.2
   rw [← hls', List.take_length] at hno
   have HE := Lib.hid (anyOut_none hno HJ.out.2.2.1)
   clear hno
   go_wp2_with fail
   go_ret
   exact HE.out
theorem any_ok (hl : s.length ≤ 1000000000) (w : World) : Calls Tryz.prog 223 #[.string ⟨s.toArray⟩, .string zs] w (AnyOut w s) := by
 by_cases h8 : s.length ≤ 8
 ·exact any_short h8 w
 ·exact any_long (by omega) w hl
theorem containsAny_ok (hl : s.length ≤ 1000000000) (w : World) : Calls Tryz.prog 187 #[.string ⟨s.toArray⟩, .string zs] w fun e w' => e = .returned (.bool (hasZS s)) ∧ Only NoB w w' := by
 have HX := Lib.hid (any_ok hl w)
 unfold zs at HX ⊢
 go_enter Tryz.func187, Tryz.ntmps187
 go_wp2_with fail
 refine HX.out.mono ?_
 rintro e w1 ⟨v, rfl, hv, ho⟩
 have hd : decide (v ≥ 0) = hasZS s := by
  rw [Bool.eq_iff_iff, decide_eq_true_iff]
  exact hv
 have HO := Lib.hid ho
 have HD := Lib.hid hd
 clear hv ho hd
 go_wp2_with fail
 go_ret
 exact ⟨by rw [← HD.out]; rfl, HO.out⟩
def nameOk (s : Str) : Bool := decide (1 ≤ s.length) && (decide (s.length ≤ 64) && !hasZS s)
theorem name_ok (s : Str) (w : World) : Calls Tryz.prog 116 #[.string ⟨s.toArray⟩] w fun e w' => e = .returned (.bool (nameOk s)) ∧ Only NoB w w' := by
 unfold nameOk
 by_cases h1 : 1 ≤ s.length
 ·rw [decide_eq_true h1]
  have hemp : s.isEmpty = false := by
   cases s with
   | nil => cases h1
   | cons => rfl
  obtain ⟨ls, hls⟩ : ∃ ls, ls = s.length := ⟨_, rfl⟩
  have hls' : s.length = ls := hls.symm
  rw [← hls]
  by_cases h2 : ls ≤ 64
  ·rw [decide_eq_true h2]
   have HX := Lib.hid (containsAny_ok (s := s) (by omega) w)
   have h2i : (ls : Int) ≤ 64 := by omega
   unfold zs at HX
   clear hls h1
   go_enter Tryz.func116, Tryz.ntmps116
   go_wp2_with fail
   refine HX.out.mono ?_
   rintro e w1 ⟨rfl, ho⟩
   have HO := Lib.hid ho
   clear ho
   go_wp2_with fail
   go_ret
   exact ⟨rfl, HO.out⟩
  ·rw [decide_eq_false h2]
   have h2i : ¬ (ls : Int) ≤ 64 := by omega
   clear hls h1
   go_enter Tryz.func116, Tryz.ntmps116
   go_wp2_with fail
   go_ret
   exact ⟨rfl, Only.refl _ _⟩
 ·obtain rfl : s = [] := List.eq_nil_of_length_eq_zero (by omega)
  clear h1
  go_enter Tryz.func116, Tryz.ntmps116
  go_wp2_with fail
  go_ret
  exact ⟨rfl, Only.refl _ _⟩
end
end Go.Proofs.YtklfkocebhhgcaaGreat
namespace Go.Proofs.YtklfkocebhhgcaaGreat
open Go.RowKit Go.Proofs Go.Shelf
set_option maxRecDepth 20000
attribute [local go_sem] Oper.semAt_some
section
variable {w w' : World} {b1 b3 b4 : Nat} {A : Str} {cs : Array Value} {v : Bool}
def ChkOut (w : World) (b3 b4 : Nat) (v' : Bool) (cs' : Array Value) (e : Ending) (w' : World) : Prop :=
 (∃ u, e = .returned u) ∧ Blk w' b4 4 #[.bool v'] ∧ Blk w' b3 112 cs' ∧ Only (fun k => k = b4 ∨ k = b3) w w'
theorem chkOut_of {w1 : World} {cs3 : Array Value} (h4 : Blk w1 b4 4 #[.bool v]) (h3 : Blk w1 b3 112 cs3) (hne : b4 ≠ b3) (ho : Only NoB w w1) (v' : Bool) (i : Nat) (u x : Value) : ChkOut w b3 b4 v' (cs3.setIfInBounds i u) (.returned x) ((w1.setCell ⟨b4, 0, none⟩ (.bool v')).setCell ⟨b3, i, none⟩ u) := by
 refine ⟨⟨_, rfl⟩, ?_, ?_, ((ho.mono fun _ _ h => h.elim).setCell (p := ⟨b4, 0, none⟩) (.inl (.inl rfl)) _).setCell (p := ⟨b3, i, none⟩) (.inl (.inr rfl)) _⟩
 ·exact (h4.set_ 0 (.bool v')).far (p := ⟨b3, i, none⟩) hne _
 ·exact (h3.far (p := ⟨b4, 0, none⟩) hne.symm _).set_ i u
theorem check1_any {k : Int} {B : Str} {n m : Int} (h4 : Blk w b4 4 #[.bool v]) (h1 : Blk w b1 112 cs) (hcs : cs[1]? = some (.string ⟨A.toArray⟩)) (h3 : Blk w b3 112 #[.int .i64 k, .string ⟨A.toArray⟩, .string ⟨B.toArray⟩, .int .i64 n, .int .i64 m]) :
  Calls Tryz.prog 196 #[.pointer (some ⟨b4, 0, none⟩), .pointer (some ⟨b1, 0, none⟩), .pointer (some ⟨b3, 0, none⟩)] w (ChkOut w b3 b4 (v && nameOk A) #[.int .i64 k, .string ⟨#[]⟩, .string ⟨B.toArray⟩, .int .i64 n, .int .i64 m]) := by
 have x0 := h4.cell 0
 have x1 := h4.frozen 0
 have z1 := h3.frozen 1
 have z0 : w.cell? ⟨b3, 1, none⟩ = some (.string ⟨A.toArray⟩) := h3.cell 1
 have y0 : w.cell? ⟨b1, 1, none⟩ = some (.string ⟨A.toArray⟩) := by rw [h1.cell]; exact hcs
 have hne : b4 ≠ b3 := h4.ne_ h3 (by decide)
 have HN := Lib.hid (name_ok A w)
 have H4 := Lib.hid h4
 have H3 := Lib.hid h3
 have HNE := Lib.hid hne
 cases v with
 | false =>
  have HE := Lib.hid fun x => chkOut_of H4.out H3.out HNE.out (Only.refl NoB w) (false && nameOk A) 1 (.string ⟨#[]⟩) x
  clear h4 h1 h3
  go_enter Tryz.func196, Tryz.ntmps196
  go_wp2_with fail
  refine bodyPost_end (results_none rfl _ _ _) rfl ?_
  exact HE.out _
 | true =>
  clear h4 h1 h3
  go_enter Tryz.func196, Tryz.ntmps196
  go_wp2_with fail
  refine HN.out.mono ?_
  rintro e w1 ⟨rfl, ho⟩
  have h4' := H4.out.only ho id
  have h3' := H3.out.only ho id
  have x0' := h4'.cell 0
  have x1' := h4'.frozen 0
  have z1' := h3'.frozen 1
  have z0' : w1.cell? ⟨b3, 1, none⟩ = some (.string ⟨A.toArray⟩) := h3'.cell 1
  have HE := Lib.hid fun x => chkOut_of h4' h3' HNE.out ho (true && nameOk A) 1 (.string ⟨#[]⟩) x
  clear h4' h3' ho x0 x1 z0 z1 y0
  go_wp2_with fail
  refine bodyPost_end (results_none rfl _ _ _) rfl ?_
  exact HE.out _
def numIn (n l h : Int) : Bool := decide (l ≤ n ∧ n ≤ h)
theorem kwithin_any (n l h : Int) (w : World) : Calls Tryz.prog 114 #[.int .i64 n, .int .i64 l, .int .i64 h] w fun e w' => e = .returned (.bool (numIn n l h)) ∧ w = w' := by
 refine (within_ok n l h).mono ?_
 rintro e w1 ⟨rfl, rfl⟩
 refine ⟨?_, rfl⟩
 congr 2
theorem check2_any {k : Int} {A B : Str} {n m l : Int} (h4 : Blk w b4 4 #[.bool v]) (h1 : Blk w b1 112 cs) (hcs : cs[3]? = some (.int .i64 n)) (h3 : Blk w b3 112 #[.int .i64 k, .string ⟨A.toArray⟩, .string ⟨B.toArray⟩, .int .i64 n, .int .i64 m]) :
  Calls Tryz.prog 197 #[.int .i64 l, .pointer (some ⟨b4, 0, none⟩), .pointer (some ⟨b1, 0, none⟩), .pointer (some ⟨b3, 0, none⟩)] w (ChkOut w b3 b4 (v && numIn n l 16777215) #[.int .i64 k, .string ⟨A.toArray⟩, .string ⟨B.toArray⟩, .int .i64 0, .int .i64 m]) := by
 have x0 := h4.cell 0
 have x1 := h4.frozen 0
 have z1 := h3.frozen 3
 have z0 : w.cell? ⟨b3, 3, none⟩ = some (.int .i64 n) := h3.cell 3
 have y0 : w.cell? ⟨b1, 3, none⟩ = some (.int .i64 n) := by rw [h1.cell]; exact hcs
 have hne : b4 ≠ b3 := h4.ne_ h3 (by decide)
 have HN := Lib.hid (kwithin_any n l 16777215 w)
 have HE := Lib.hid fun x => chkOut_of h4 h3 hne (Only.refl NoB w) (v && numIn n l 16777215) 3 (.int .i64 0) x
 cases v with
 | false =>
  clear h4 h1 h3
  go_enter Tryz.func197, Tryz.ntmps197
  go_wp2_with fail
  refine bodyPost_end (results_none rfl _ _ _) rfl ?_
  exact HE.out _
 | true =>
  clear h4 h1 h3
  go_enter Tryz.func197, Tryz.ntmps197
  go_wp2_with fail
  refine HN.out.mono ?_
  rintro e w1 ⟨rfl, rfl⟩
  go_wp2_with fail
  refine bodyPost_end (results_none rfl _ _ _) rfl ?_
  exact HE.out _
theorem check_blks (w : World) (cs : Array Value) : ∃ W3, W3 = ((w.alloc (.cells cs 112)).alloc (.cells cs 112)).alloc (.cells #[.bool true] 4) ∧ Blk W3 w.heap.size 112 cs ∧ Blk W3 (w.heap.size + 1) 112 cs ∧ Blk W3 (w.heap.size + 1 + 1) 4 #[.bool true] ∧ Only NoB w W3 := by
 have hWa : ((w.alloc (.cells cs 112)).alloc (.cells cs 112)).alloc (.cells #[.bool true] 4) = allocs w [(cs, 112), (cs, 112), (#[.bool true], 4)] := rfl
 exact ⟨_, rfl, blk_of hWa 0 rfl, blk_of hWa 1 rfl, blk_of hWa 2 rfl, by rw [hWa]; exact allocs_only _ _⟩
def keyV (k : Int) (A B : Str) (n m : Int) : Array Value := #[.int .i64 k, .string ⟨A.toArray⟩, .string ⟨B.toArray⟩, .int .i64 n, .int .i64 m]
def entOk (n : Int) (A : Str) : Bool := numIn n 1 16777215 && nameOk A
def EntAns (n : Int) (A : Str) (w : World) (e : Ending) (w' : World) : Prop := e = .returned (.int .i64 (if entOk n A then 0 else 1)) ∧ Only NoB w w'
set_option maxHeartbeats 2000000 in
theorem check_ent (n : Int) (A : Str) (w : World) : Calls Tryz.prog 129 #[.agg (keyV 4 A [] n 0)] w (EntAns n A w) := by
 obtain ⟨W3, hW3, c0, c1, c2, ho3⟩ := check_blks w (keyV 4 A [] n 0)
 have HO3 := Lib.hid ho3
 have HW3 := Lib.hid hW3
 have HC2 := Lib.hid (check2_any (l := 1) c2 c0 rfl c1)
 have C0 := Lib.hid c0
 clear c0 c1 c2 ho3 hW3
 unfold keyV at HW3 ⊢
 go_enter Tryz.func129, Tryz.ntmps129
 go_wp2_with fail
 rw [← HW3.out]
 refine HC2.out.mono ?_
 rintro e w4 ⟨⟨u, rfl⟩, d2, d1, ho4⟩
 have d0 := C0.out.only ho4 (by rintro (e | e) <;> omega)
 have HC1 := Lib.hid (check1_any d2 d0 rfl d1)
 have D0 := Lib.hid d0
 have HO4 := Lib.hid (HO3.out.trans' ho4 fun k hk (e : k = w.heap.size + 1 + 1 ∨ k = w.heap.size + 1) => by omega)
 clear d0 d1 d2 ho4
 go_wp2_with fail
 refine HC1.out.mono ?_
 rintro e w5 ⟨⟨u, rfl⟩, d2, d1, ho5⟩
 have d0 := D0.out.only ho5 (by rintro (e | e) <;> omega)
 have x0 : w5.cell? ⟨w.heap.size + 1 + 1, 0, none⟩ = some (.bool (true && numIn n 1 16777215 && nameOk A)) := d2.cell 0
 have y0 : w5.cell? ⟨w.heap.size, 0, none⟩ = some (.int .i64 4) := d0.cell 0
 have z0 : w5.cell? ⟨w.heap.size + 1, 0, none⟩ = some (.int .i64 4) := d1.cell 0
 have z1 : w5.cell? ⟨w.heap.size + 1, 1, none⟩ = some (.string ⟨#[]⟩) := d1.cell 1
 have z2 : w5.cell? ⟨w.heap.size + 1, 2, none⟩ = some (.string ⟨#[]⟩) := d1.cell 2
 have z3 : w5.cell? ⟨w.heap.size + 1, 3, none⟩ = some (.int .i64 0) := d1.cell 3
 have z4 : w5.cell? ⟨w.heap.size + 1, 4, none⟩ = some (.int .i64 0) := d1.cell 4
 have HO5 := Lib.hid (HO4.out.trans' ho5 fun k hk (e : k = w.heap.size + 1 + 1 ∨ k = w.heap.size + 1) => by omega)
 rw [Bool.true_and, show (numIn n 1 16777215 && nameOk A) = entOk n A from rfl] at x0
 clear d0 d1 d2 ho5
 cases hb : entOk n A with
 | true =>
  rw [hb] at x0
  have HE : Hid (EntAns n A w (.returned (.int .i64 0)) w5) := Lib.hid ⟨by rw [hb]; rfl, HO5.out⟩
  clear hb
  go_wp2_with fail
  go_ret
  exact HE.out
 | false =>
  rw [hb] at x0
  have HE : Hid (EntAns n A w (.returned (.int .i64 1)) w5) := Lib.hid ⟨by rw [hb]; rfl, HO5.out⟩
  clear hb
  go_wp2_with fail
  go_ret
  exact HE.out
end
end Go.Proofs.YtklfkocebhhgcaaGreat
namespace Go.Proofs.YtklfkocebhhgcaaGreat
open Go.RowKit Go.Proofs Go.Shelf
set_option maxRecDepth 20000
attribute [local go_sem] Oper.semAt_some
section
variable {w w' : World}
def dpre (n : Int) : Str := (100 : UInt8) :: be3i n
def ekey (n : Int) (A : Str) : Str := (100 : UInt8) :: (be3i n ++ A)
theorem entOk_len {n : Int} {A : Str} (h : entOk n A = true) : 1 ≤ A.length ∧ A.length ≤ 64 := by
 unfold entOk nameOk at h
 simp only [Bool.and_eq_true, decide_eq_true_iff] at h
 exact ⟨h.2.1, h.2.2.1⟩
def BytOut (n : Int) (A : Str) (w : World) (e : Ending) (w' : World) : Prop := e = .returned (if entOk n A then .tuple #[.string ⟨(ekey n A).toArray⟩, .int .i64 0] else .tuple #[.string ⟨#[]⟩, .int .i64 1]) ∧ Only NoB w w'
set_option maxHeartbeats 2000000 in
theorem bytes_ent (n : Int) (A : Str) (w : World) : Calls Tryz.prog 113 #[.agg (keyV 4 A [] n 0)] w (BytOut n A w) := by
 obtain ⟨W0, hW0⟩ : ∃ W0, W0 = w.alloc (.cells (keyV 4 A [] n 0) 112) := ⟨_, rfl⟩
 have ho0 : Only NoB w W0 := by rw [hW0]; exact (Only.refl NoB w).alloc _
 have c0 : Blk W0 w.heap.size 112 (keyV 4 A [] n 0) := by rw [hW0]; exact Blk.new w _ _
 have HC := Lib.hid (check_ent n A W0)
 have HO0 := Lib.hid ho0
 have HC0 := Lib.hid c0
 have HW0 := Lib.hid hW0
 clear ho0 c0 hW0
 unfold keyV at HC HW0 ⊢
 cases hb : entOk n A with
 | false =>
  have HB := Lib.hid hb
  clear hb
  go_enter Tryz.func113, Tryz.ntmps113
  go_wp2_with fail
  rw [← HW0.out]
  refine HC.out.mono ?_
  rintro e w1 ⟨rfl, ho1⟩
  have HE : Hid (BytOut n A w (.returned (.tuple #[.string ⟨#[]⟩, .int .i64 1])) w1) := Lib.hid ⟨by rw [HB.out]; rfl, HO0.out.trans ho1⟩
  have hbe := HB.out
  rw [hbe]
  clear ho1 hbe
  go_wp2_with fail
  go_ret2
  exact HE.out
 | true =>
  have HB := Lib.hid hb
  clear hb
  go_enter Tryz.func113, Tryz.ntmps113
  go_wp2_with fail
  rw [← HW0.out]
  refine HC.out.mono ?_
  rintro e w1 ⟨rfl, ho1⟩
  have c1 := HC0.out.only ho1 id
  have hbe := HB.out
  rw [hbe]
  have x0 : w1.cell? ⟨w.heap.size, 0, none⟩ = some (.int .i64 4) := c1.cell 0
  have HC1 := Lib.hid c1
  have HO1 := Lib.hid (HO0.out.trans ho1)
  have HL := Lib.hid (letter_ok (w := w1) 4 (by omega) (by omega))
  clear ho1 c1 HC hbe
  go_wp2_with fail
  refine HL.out.mono ?_
  rintro e w2 ⟨rfl, rfl⟩
  go_upto_region 12 with fail
  refine hB _ 9 (fun w' => w'.cell? ⟨w.heap.size, 3, none⟩ = some (.int .i64 n) ∧ w'.cell? ⟨w.heap.size, 1, none⟩ = some (.string ⟨A.toArray⟩)) (⟨HC1.out.drew.cell 3, HC1.out.drew.cell 1⟩) (fun hHeld => ?_)
  obtain ⟨z0, hz0⟩ : ∃ z, z = w1.drew := ⟨_, rfl⟩
  rw [← hz0] at hHeld ⊢
  have ha : Only NoB w1 z0 := by rw [hz0]; exact (Only.refl NoB w1).drew
  clear hz0
  have hb1 := bytes_text (be3i n) A
  have hb2 := bytes_text (letterOf 4) (be3i n ++ A)
  have hlA := entOk_len HB.out
  have hg1 : ¬ 9223372036854775807 < 3 + A.length := by omega
  have hg2 : ¬ 9223372036854775807 < 1 + (3 + A.length) := by omega
  have hl1 : (be3i n).length = 3 := rfl
  have hl3 : (letterOf 4).length = 1 := rfl
  refine hT 0 46 ?_
  refine hT 1 47 ?_
  refine hT 2 48 ?_
  refine hT 4 50 ?_
  refine hT 5 51 ?_
  refine hE 3 (fun o ho K hK => ?_)
  cases ho
  go_simp
  refine (number_any n).mono ?_
  rintro e zc ⟨rfl, hq⟩
  replace ha := ha.trans hq
  refine hK.out _ _ (⟨(HC1.out.only ha id).cell 3, (HC1.out.only ha id).cell 1⟩) (fun hHeld => ?_)
  clear hK K
  try simp only [Act.put, List.setIfInBounds_toArray, List.set_cons_zero, List.set_cons_succ]
  refine hT 6 52 ?_
  refine hT 7 53 ?_
  refine hT 8 5 ?_
  refine wpAnyH_done (by kernel_rfl) ?_ _
  refine NoPanic.normal ?_
  go_wp2_with fail
  refine bodyPost_ret (results_tmp2 rfl _ _ _) rfl ?_
  exact ⟨by rw [HB.out]; rfl, HO1.out.trans ha⟩
def preAnsD (n : Int) : Value := if 1 ≤ n ∧ n ≤ 16777215 then .tuple #[.string ⟨((100 : UInt8) :: be3i n).toArray⟩, .int .i64 0] else .tuple #[.string ⟨#[]⟩, .int .i64 1]
set_option maxHeartbeats 2000000 in
theorem prefix_ent (n : Int) :
  Calls Tryz.prog 56 #[.agg #[.int .i64 4, .string ⟨#[]⟩, .string ⟨#[]⟩, .int .i64 n, .int .i64 0]] w fun e w' => e = .returned (preAnsD n) ∧ Only NoB w w' := by
 obtain ⟨W0, hW0⟩ : ∃ W0, W0 = w.alloc (.cells #[.int .i64 4, .string ⟨#[]⟩, .string ⟨#[]⟩, .int .i64 n, .int .i64 0] 112) := ⟨_, rfl⟩
 have ho0 : Only NoB w W0 := by rw [hW0]; exact (Only.refl NoB w).alloc _
 have c0 : Blk W0 w.heap.size 112 #[.int .i64 4, .string ⟨#[]⟩, .string ⟨#[]⟩, .int .i64 n, .int .i64 0] := by rw [hW0]; exact Blk.new w _ _
 have x0 := c0.cell 0
 have x3 := c0.cell 3
 have HO0 := Lib.hid ho0
 have HW0 := Lib.hid hW0
 have HK := Lib.hid (key_within (w := W0) (n := 4) (l := 1) (h := 10) ⟨by omega, by omega⟩)
 clear ho0 c0 hW0
 go_enter Tryz.func56, Tryz.ntmps56
 go_wp2_with fail
 rw [← HW0.out]
 refine HK.out.mono ?_
 rintro e w1 ⟨rfl, rfl⟩
 go_upto_region 6 with fail
 refine hB _ 8 (fun w' => w'.cell? ⟨w.heap.size, 0, none⟩ = some (.int .i64 4) ∧ w'.cell? ⟨w.heap.size, 3, none⟩ = some (.int .i64 n)) (⟨x0, x3⟩) (fun hHeld => ?_)
 obtain ⟨z0, hz0⟩ : ∃ z, z = W0.drew := ⟨_, rfl⟩
 rw [← hz0] at hHeld ⊢
 have ha : Only NoB W0 z0 := by rw [hz0]; exact (Only.refl NoB W0).drew
 clear hz0
 refine hT 0 14 ?_
 refine hT 1 15 ?_
 refine hT 3 17 ?_
 refine hT 4 18 ?_
 refine hE 2 (fun o ho K hK => ?_)
 cases ho
 go_simp
 refine (within_ok n 1 16777215).mono ?_
 rintro e zw ⟨rfl, rfl⟩
 refine hK.out _ _ (⟨(ha).cell x0 id, (ha).cell x3 id⟩) (fun hHeld => ?_)
 clear hK K
 try simp only [Act.put, List.setIfInBounds_toArray, List.set_cons_zero, List.set_cons_succ]
 refine hE 5 (fun o ho K hK => ?_)
 cases ho
 go_simp
 refine (number_any n).mono ?_
 rintro e zc ⟨rfl, hq⟩
 replace ha := ha.trans hq
 refine hK.out _ _ (⟨(ha).cell x0 id, (ha).cell x3 id⟩) (fun hHeld => ?_)
 clear hK K
 try simp only [Act.put, List.setIfInBounds_toArray, List.set_cons_zero, List.set_cons_succ]
 refine hT 6 4 ?_
 refine hT 7 5 ?_
 refine wpAnyH_done (by kernel_rfl) ?_ _
 refine NoPanic.normal ?_
 by_cases hv : 1 ≤ n ∧ n ≤ 16777215
 ·have HV := Lib.hid hv
  obtain ⟨hv1, hv2⟩ := hv
  have hb := bytes_text (letterOf 4) (be3i n)
  have hl1 : (be3i n).length = 3 := rfl
  have hl3 : (letterOf 4).length = 1 := rfl
  have HA := Lib.hid ha
  clear ha
  go_wp2_with fail
  refine (letter_ok 4 (by omega) (by omega)).mono ?_
  rintro e z5 ⟨rfl, rfl⟩
  go_wp2_with fail
  refine bodyPost_ret (results_tmp2 rfl _ _ _) rfl ?_
  exact ⟨by rw [preAnsD, if_pos HV.out]; rfl, HO0.out.trans HA.out⟩
 ·have HV := Lib.hid hv
  have HA := Lib.hid ha
  clear ha
  have hv2 : ¬ (1 ≤ n) ∨ ¬ (n ≤ 16777215) := by omega
  clear hv
  rcases hv2 with hv | hv
  ·go_wp2_with fail
   refine bodyPost_ret (results_tmp2 rfl _ _ _) rfl ?_
   exact ⟨by rw [preAnsD, if_neg HV.out]; rfl, HO0.out.trans HA.out⟩
  ·go_wp2_with fail
   refine bodyPost_ret (results_tmp2 rfl _ _ _) rfl ?_
   exact ⟨by rw [preAnsD, if_neg HV.out]; rfl, HO0.out.trans HA.out⟩
end
end Go.Proofs.YtklfkocebhhgcaaGreat
namespace Go.Proofs.YtklfkocebhhgcaaGreat
open Go.RowKit Go.Proofs Go.Shelf
set_option maxRecDepth 20000
attribute [local go_sem] Oper.semAt_some
section
variable {w w' : World} {F G : Nat → Prop} {X : XC} {t m n own c : Nat} {M : List KV} {key va pre s : Str}
def DropSt (w : World) (F : Nat → Prop) (X : XC) (t m n own : Nat) (pre : Str) (M : List KV) (c : Nat) (j : Nat) (wr : World) : Prop :=
 ∃ Mk, ∃ Fk, KvAt wr Fk X t m n own Mk c ∧ under pre Mk = (under pre M).drop j ∧ rid pre Mk = rid pre M ∧ j ≤ (under pre M).length ∧ Only F w wr ∧ Grows F Fk w
set_option maxHeartbeats 2000000 in
theorem wdrop_ok (h : KvAt w F X t m n own M c) (hpl : pre.length ≤ 1000) (hlen : (under pre M).length ≤ 1000000) :
  Calls Tryz.prog 153 #[.pointer (some ⟨t, 0, none⟩), .string ⟨pre.toArray⟩] w (KvOut w F X t m n own (.tuple #[.int .i64 ((under pre M).length : Nat), .int .i64 0]) (rid pre M) c) := by
 have HS : Hid (DropSt w F X t m n own pre M c 0 w) := Lib.hid ⟨M, F, h, rfl, rfl, Nat.zero_le _, Only.refl _ _, Grows.refl F w⟩
 have HP := Lib.hid hpl
 have HLEN := Lib.hid hlen
 clear h hpl hlen
 go_enter Tryz.func153, Tryz.ntmps153
 go_wp2_with fail
 go_loopg [6] ((under pre M).length) (fun g s6 wr => ∃ j : Nat, s6 = .int .i64 j ∧ g = (under pre M).length - j ∧ Hid (DropSt w F X t m n own pre M c j wr))
 case atStart => exact ⟨0, rfl, rfl, HS⟩
 case round =>
  clear HS
  obtain ⟨j, rfl, hgk, HS⟩ := hrel
  obtain ⟨Mk, Fk, hkv, hun, hri, hj, hon, hgr⟩ := HS.out
  have HF := Lib.hid (kv_first hkv HP.out)
  have HSRT := Lib.hid hkv.srt
  have HUN := Lib.hid hun
  have HRI := Lib.hid hri
  have HJ := Lib.hid hj
  have HON := Lib.hid hon
  have HGR := Lib.hid hgr
  have HGK := Lib.hid hgk
  clear hkv hun hri hj hon hgr hgk HS
  go_wp2_with fail
  refine HF.out.mono ?_
  rintro e2 w2 ⟨rfl, F2, hk2, ho2, hg2⟩
  have hon2 : Only F w w2 := HON.out.trans' ho2 fun k hk hf => (HGR.out k hf).elim id fun h => by omega
  have hgr2 : Grows F F2 w := fun k hk => (hg2 k hk).elim (fun h => HGR.out k h) fun h => .inr (Nat.le_trans HON.out.size h)
  have HON2 := Lib.hid hon2
  have HGR2 := Lib.hid hgr2
  have HK2 := Lib.hid hk2
  clear ho2 hg2 hon2 hgr2 hk2
  cases hu : under pre Mk with
  | nil =>
   have hend : (under pre M).length = j := by
    have := congrArg List.length (HUN.out.symm.trans hu)
    have h2 := HJ.out
    rw [List.length_drop] at this
    simp at this; omega
   have hM := rid_of_under hu
   have hal : Only NoB w2 (w2.alloc (.cells #[.string ⟨#[]⟩, .string ⟨#[]⟩] 81)) := (Only.refl NoB w2).alloc _
   have HE : Hid (KvOut w F X t m n own (.tuple #[.int .i64 ((under pre M).length : Nat), .int .i64 0]) (rid pre M) c (.returned (.tuple #[.int .i64 (j : Nat), .int .i64 0])) (w2.alloc (.cells #[.string ⟨#[]⟩, .string ⟨#[]⟩] 81))) := Lib.hid ⟨by rw [hend], F2, by rw [← HRI.out, hM]; exact HK2.out.quit hal, HON2.out.trans' hal fun k hk hf => hf.elim, HGR2.out⟩
   clear hu hend hM hal
   simp only [List.head?_nil, Option.isSome_none]
   unfold pairO
   go_wp2_with fail
   go_ret2
   exact HE.out
  | cons x L =>
   obtain ⟨h1, h2, h3⟩ := under_del HSRT.out hu
   have hL : L = (under pre M).drop (j + 1) := by rw [← List.drop_drop, ← HUN.out, hu]; rfl
   have hjl : j < (under pre M).length := by
    have := congrArg List.length (HUN.out.symm.trans hu)
    have h2 := HJ.out
    rw [List.length_drop] at this
    simp at this; omega
   have HD := Lib.hid (kv_del (key := x.1) (HK2.out.quit ((Only.refl NoB w2).alloc (.cells #[.string ⟨x.1.toArray⟩, .string ⟨x.2.toArray⟩] 81))))
   have HL1 := Lib.hid (h1.trans hL)
   have HL2 := Lib.hid (h2.trans HRI.out)
   have HJL := Lib.hid hjl
   have hw1 : IntKind.i64.wrap ((j : Int) + 1) = ((j + 1 : Nat) : Int) := by
    have := HLEN.out
    rw [IntKind.wrap_i64]; omega
   have HW1 := Lib.hid hw1
   clear hu h1 h2 h3 hL hjl hw1
   simp only [List.head?_cons, Option.isSome_some]
   unfold pairO strV
   go_wp2_with fail
   refine HD.out.mono ?_
   rintro e3 w3 ⟨rfl, F3, hk3, ho3, hg3⟩
   have HST : Hid (DropSt w F X t m n own pre M c (j + 1) w3) := Lib.hid ⟨_, F3, hk3, HL1.out, HL2.out, HJL.out, (HON2.out.trans' ((Only.refl NoB w2).alloc _) fun k hk hf => hf.elim).trans' ho3 fun k hk hf => (HGR2.out k hf).elim id fun h => by omega, fun k hk => (hg3 k hk).elim (fun h => HGR2.out k h) fun h => .inr (by have := HON2.out.size; simp at h; omega)⟩
   have hlt : (under pre M).length - (j + 1) < gk := by have := HGK.out; have := HJL.out; omega
   have hw1 := HW1.out
   clear hk3 ho3 hg3
   go_wp2_with fail
   go_roundg ((under pre M).length - (j + 1))
   case measure => exact hlt
   case rel => exact ⟨j + 1, rfl, rfl, HST⟩
end
end Go.Proofs.YtklfkocebhhgcaaGreat
namespace Go.Proofs.YtklfkocebhhgcaaGreat
open Go.RowKit Go.Proofs Go.Shelf
set_option maxRecDepth 20000
attribute [local go_sem] Oper.semAt_some
section
variable {w w' : World} {F G : Nat → Prop} {X : XC} {t m n own c : Nat} {D : PD} {M : List KV} {key pre s : Str}
def CountI (w : World) (F : Nat → Prop) (B k : Nat) (W : World) (G : Nat → Prop) : Prop :=
 Mine w.heap.size 3 #[.int .i64 k] W G ∧ Mine (w.heap.size + 1) 32 #[.int .i64 0] W G ∧ Since w F W G ∧ Big B W G
theorem countI_abid {F : Nat → Prop} {B B' k : Nat} (hB : w.heap.size ≤ B') : Abid B' (CountI w F B k) := mine_abid.and (mine_abid.and ((since_abid hB).and big_abid))
theorem countI_stay {T : World → (Nat → Prop) → Prop} {F : Nat → Prop} {B k : Nat} : Stay T (CountI w F B k) := mine_stay.and (mine_stay.and (since_stay.and big_stay))
set_option maxHeartbeats 2000000 in
theorem count_ok (h : TxAt w F X t D) (hb : Bt D M c) (hkl : ∀ x ∈ M, x.1.length ≤ 1000) (hpl : pre.length ≤ 1000) (hlen : (under pre M).length ≤ 1000000) :
  Calls Tryz.prog 59 #[.pointer (some ⟨t, 0, none⟩), .string ⟨pre.toArray⟩] w (fun e w' => ∃ F', e = .returned (.tuple #[.int .i64 ((under pre M).length : Nat), .int .i64 0]) ∧ TxAt w' F' X t D ∧ Only F w w' ∧ Grows F F' w) := by
 refine (callsIn_wide (n := 6)).1 ?_
 refine callsIn_of_wp_marks Tryz.func59 rfl trivial ?_ rfl
 refine wpIn_wide.2 ?_
 simp only [Tryz.ntmps59, List.size_toArray, List.length_cons, List.length_nil, Nat.reduceAdd, Nat.reduceSub, Array.replicate_succ, Array.replicate_zero, List.push_toArray, List.append_toArray, List.nil_append, List.cons_append]
 go_wp2_with fail
 refine (pairs_ok _).mono ?_
 rintro e w1 ⟨rfl, rfl⟩
 go_wp2_with fail
 obtain ⟨R, hR⟩ : ∃ R, R = w.heap.size := ⟨_, rfl⟩
 obtain ⟨W0, hW0⟩ : ∃ W0, W0 = ((((w.alloc (.cells #[.int .i64 0] 3)).alloc (.cells #[.int .i64 0] 32)).alloc (.cells #[.pointer (some ⟨t, 0, none⟩)] 24)).alloc (.cells #[.string ⟨pre.toArray⟩] 9)).alloc (.cells #[.pointer (some ⟨w.heap.size + 1, 0, none⟩)] 203) := ⟨_, rfl⟩
 rw [← hW0]
 have hWa : W0 = allocs w [(#[.int .i64 0], 3), (#[.int .i64 0], 32), (#[.pointer (some ⟨t, 0, none⟩)], 24), (#[.string ⟨pre.toArray⟩], 9), (#[.pointer (some ⟨w.heap.size + 1, 0, none⟩)], 203)] := hW0
 have hs0 : W0.heap.size = w.heap.size + 5 := by rw [hWa, allocs_size]; rfl
 have ho0 : Only NoB w W0 := by rw [hWa]; exact allocs_only _ _
 have b0 : Blk W0 w.heap.size 3 #[.int .i64 0] := blk_of hWa 0 rfl
 have b1 : Blk W0 (w.heap.size + 1) 32 #[.int .i64 0] := blk_of hWa 1 rfl
 have b4 : Blk W0 (w.heap.size + 1 + 1) 24 #[.pointer (some ⟨t, 0, none⟩)] := blk_of hWa 2 rfl
 have b5 : Blk W0 (w.heap.size + 1 + 1 + 1) 9 #[.string ⟨pre.toArray⟩] := blk_of hWa 3 rfl
 have b6 : Blk W0 (w.heap.size + 1 + 1 + 1 + 1) 203 #[.pointer (some ⟨w.heap.size + 1, 0, none⟩)] := blk_of hWa 4 rfl
 have hF : ∀ k, w.heap.size ≤ k → ¬ F k := fun k hk hf => by have := h.lt k hf; omega
 have hT0 : PairsT X t D pre (w.heap.size + 1 + 1 + 1) (w.heap.size + 1 + 1) (w.heap.size + 1 + 1 + 1 + 1) (w.heap.size + 1) W0 F := ⟨h.quit ho0, ⟨b5, hF _ (by omega)⟩, ⟨b4, hF _ (by omega)⟩, ⟨b6, hF _ (by omega)⟩⟩
 have hi0 : CountI w F W0.heap.size 0 W0 F := ⟨⟨b0, hF _ (Nat.le_refl _)⟩, ⟨b1, hF _ (by omega)⟩, ⟨ho0.mono fun _ _ h => h.elim, Grows.refl F w⟩, Nat.le_refl _⟩
 have HLEN := Lib.hid hlen
 clear hW0 hWa b0 b1 b4 b5 b6 hlen
 refine (wpIn_wide (n := 6)).1 ?_
 refine range_tx (n := 6) (gf := 188) (N := (under pre M).length) (encs := pairA (under pre M)) (T := PairsT X t D pre (w.heap.size + 1 + 1 + 1) (w.heap.size + 1 + 1) (w.heap.size + 1 + 1 + 1 + 1) (w.heap.size + 1)) pairsT_abid (fun W G hT => hT.1.lt) rfl (enters_of Tryz.func188 (by kernel_rfl) rfl) (pairs_iter hb hkl hpl 5 (by omega)) (fun _ => rfl)
  (CountI w F W0.heap.size) (fun k => countI_abid (by omega)) (fun k => countI_stay) (fun _ _ _ _ => False) (fun _ _ _ _ _ _ h _ _ => h)
  hT0 hi0
  (fun k a' W => ∃ a11, a' = Act.mk #[.pointer (some ⟨t, 0, none⟩), .string ⟨pre.toArray⟩, undef, undef, .int .i64 0, .int .i64 0, .pointer (some ⟨w.heap.size, 0, none⟩), .pointer (some ⟨w.heap.size + 1, 0, none⟩),
   .pointer (some ⟨t, 0, none⟩), .string ⟨pre.toArray⟩, .func (.func 188) #[] #[.pointer (some ⟨w.heap.size + 1 + 1 + 1, 0, none⟩), .pointer (some ⟨w.heap.size + 1 + 1, 0, none⟩), .pointer (some ⟨w.heap.size + 1 + 1 + 1 + 1, 0, none⟩)], a11, undef, undef, undef, undef, undef, undef] [])
  ?hAx ?assign ?body ?done ?stop
 case hAx =>
  rintro k a' W W' _ S h1 hS ho
  exact h1
 case assign =>
  intro l k W G K hk hT hI hK
  have HK := Lib.hid hK
  have HT := Lib.hid hT
  have HI := Lib.hid hI
  clear hK hT hI
  unfold pairA
  gi_wp2
  exact HK.out _ _ (Only.refl NoB W) HT.out HI.out ⟨.agg #[.string ⟨(keyAt (under pre M) k).toArray⟩, .string ⟨(valAt (under pre M) k).toArray⟩], by simp⟩
 case body =>
  rintro l k a' W G hk hl hT ⟨i0, i1, isn, ibg⟩ ⟨a11, rfl⟩
  have x0 := i0.1.cell 0
  have x1 := i0.1.frozen 0
  have HK := Lib.hid hk
  have HT := Lib.hid hT
  have H0 := Lib.hid i0
  have H1 := Lib.hid i1
  have HSN := Lib.hid isn
  have HBG := Lib.hid ibg
  have HL := Lib.hid hl
  have hw1 : IntKind.i64.wrap ((k : Int) + 1) = (k : Int) + 1 := by
   have := HLEN.out
   rw [IntKind.wrap_i64]; omega
  clear hk hl hT i0 i1 isn ibg
  gi_wp2_with fail
  have a1 := H0.out.1.set_ 0 (.int .i64 ((k : Int) + 1))
  have hst : Only (fun q => q = w.heap.size) W (W.setCell ⟨w.heap.size, 0, none⟩ (.int .i64 ((k : Int) + 1))) := (Only.refl (fun q => q = w.heap.size) W).setCell (p := ⟨w.heap.size, 0, none⟩) (.inl rfl) _
  have hG : ∀ k, G k → ¬ (k = w.heap.size) := fun k hk h => by subst h; exact H0.out.2 hk
  refine ⟨fun q hq => hst.block q (HT.out.1.lt q hq) (hG q hq), fun q o hq ho _ => (hst.block q (Array.getElem?_eq_some_iff.1 ho).1 (by show ¬ (q = w.heap.size); omega)).trans ho, HT.out.beside hst hG ⟨by omega, by omega, by omega⟩, ⟨a1, H0.out.2⟩, ⟨H1.out.1.only hst (by show ¬ (w.heap.size + 1 = w.heap.size); omega), H1.out.2⟩, ⟨HSN.out.1.trans' hst fun k hk h => by have h : k = w.heap.size := h; omega, HSN.out.2⟩, Nat.le_trans HBG.out hst.size⟩
 case done =>
  rintro d W G hd hnd hT ⟨i0, i1, isn, ibg⟩ hK
  have HT := Lib.hid hT
  have HSN := Lib.hid isn
  have HK := Lib.hid hK
  have HND := Lib.hid hnd
  have u0 := i0.1.cell 0
  have u1 := i1.1.cell 0
  clear i0 i1 isn ibg hK hT hnd
  go_wp2_with fail
  refine ⟨by simp, .inl ⟨_, _, rfl, run_takeDeferred HK.out, ?_⟩⟩
  have hp := put_only W d (.deferred none)
  refine ⟨_, results_tmp2 rfl _ _ _, G, rfl, ?_, ?_, HSN.out.2⟩
  ·exact HT.out.1.only hp fun k hk he => HND.out (he ▸ hk)
  ·exact HSN.out.1.trans' hp fun k hk he => by have he : k = d := he; omega
 case stop =>
  rintro d c k W G hd hk hnd hT hx hK
  exact hx.elim
theorem kv_count (h : KvAt w F X t m n own M c) (hpl : pre.length ≤ 1000) (hlen : (under pre M).length ≤ 1000000) :
  Calls Tryz.prog 59 #[.pointer (some ⟨t, 0, none⟩), .string ⟨pre.toArray⟩] w (KvOut w F X t m n own (.tuple #[.int .i64 ((under pre M).length : Nat), .int .i64 0]) M c) := by
 obtain ⟨D, ht, hb, rfl, rfl, rfl, hkl⟩ := h
 refine (count_ok ht hb hkl hpl hlen).mono ?_
 rintro e w1 ⟨F', rfl, h1, h6, h7⟩
 exact ⟨rfl, F', ⟨D, h1, hb, rfl, rfl, rfl, hkl⟩, h6, h7⟩
end
end Go.Proofs.YtklfkocebhhgcaaGreat
namespace Go.Proofs.YtklfkocebhhgcaaGreat
open Go.RowKit Go.Proofs Go.Shelf
set_option maxRecDepth 20000
theorem wpListIn_app {P : Program} {w : World} {Fc : Fence} {nF : Nat} {ops : Array Oper} {rest : List Oper} {o : Oper} {a : Act} {Q : Exit → Act → World → Prop} (hgd : o.guard = none) (s x : Operand) (t : TypeId)
  (ho : o.op = .call { callee := .builtin .append, args := #[s, x], argTypes := #[t, t] }) {e : TypeId} {z : Value} {size bytes : Nat} (ht : P.underlying t = some (.slice e)) (he : Elt P e z size bytes)
  {F G : Nat → Prop} {v : Value} {n : Nat} {xs : List Value} (hs : a.eval s = v) {sv : Value} {m : Nat} {news : List Value} (hx : a.eval x = sv) (hown : Own w F e size v n xs) (hr : Rd w G size sv m news)
  (h1 : ∀ u ∈ news, u.oneCell' = true) (hb : (n + m) * bytes ≤ 140737488355328)
  (hK : ∀ v' w', App w F e size v n m xs news v' w' → wpListIn Fc nF P ops Q rest (a.put o.dst v') w') : wpListIn Fc nF P ops Q (o :: rest) a w := by
 subst hs; subst hx
 refine wpListIn_plain hgd fun K hK' => ?_
 obtain ⟨v', w', hrun, h2⟩ := run_append_rd (ty := o.type) ht he hown hr h1 hb
 unfold Oper.wpIn
 refine ⟨by simp [Oper.about, ho, resolve, Target.leads, Sem.run_pure], ?_⟩
 rw [Oper.semAt_plain Fc _ _ (by rw [ho]; intro c hc'; cases hc')]
 simp only [execOp, ho, resolve, invoke, builtin, Sem.run_bind, Sem.run_pure, Result.andThen_ok, List.map_toArray, List.map_cons, List.map_nil, hrun]
 exact hK' _ _ (hK v' w' h2)
theorem results_cell_cell {P : Program} {fn : Func} {u q : Tmp} {ty2 ty3 : TypeId} (h : fn.results = #[.cell u ty2, .cell q ty3]) (tmps : Array Value) (w : World) (g2 g3 : Nat) (v2 v3 : Value)
  (hp2 : tmps.getD u undef = .pointer (some ⟨g2, 0, none⟩)) (hg2 : w.cell? ⟨g2, 0, none⟩ = some v2) (hu2 : (match P.underlying ty2 with | some (.struct _) | some (.array _ _) | none => true | _ => false) = false)
  (hp3 : tmps.getD q undef = .pointer (some ⟨g3, 0, none⟩)) (hg3 : w.cell? ⟨g3, 0, none⟩ = some v3) (hu3 : (match P.underlying ty3 with | some (.struct _) | some (.array _ _) | none => true | _ => false) = false) :
  (results fn tmps).run P w = .ok (.tuple #[v2, v3]) w := by
 have hp2' : tmps[u]?.getD undef = .pointer (some ⟨g2, 0, none⟩) := by simpa using hp2
 have hp3' : tmps[q]?.getD undef = .pointer (some ⟨g3, 0, none⟩) := by simpa using hp3
 have h2 := run_loadVar_one (P := P) (ty := ty2) hg2 hu2
 have h3 := run_loadVar_one (P := P) (ty := ty3) hg3 hu3
 simp [results, h, hp2', hp3', asAddr, Result.andThen, h2, h3]
def MineS (B b : Nat) (ty e : TypeId) (size n : Nat) (xs : List Value) (W : World) (G : Nat → Prop) : Prop := ∃ v, Mine b ty #[v] W G ∧ Own W (fun g => B ≤ g ∧ ¬ G g) e size v n xs
theorem own_cells {w : World} {F : Nat → Prop} {e : TypeId} {size n g : Nat} {v : Value} {xs : List Value} (h : Own w F e size v n xs) (hg : v.ownBlock = some g) : ∃ cur, w.heap[g]? = some (.cells cur e (0, 0)) := by
 rcases h.1.2 with ⟨rfl, _⟩ | ⟨g', cap, cur, rfl, _, hh, _⟩
 ·cases hg
 ·injection hg with hg
  subst hg
  exact ⟨cur, hh⟩
theorem mineS_abid {B B' b : Nat} {ty e : TypeId} {size n : Nat} {xs : List Value} : Abid B' (MineS B b ty e size n xs) := fun W W' G S hi hS ho => by
 obtain ⟨v, h1, h2⟩ := hi
 refine ⟨v, mine_abid W W' G S h1 hS ho, h2.keep fun k hk => ?_⟩
 obtain ⟨cur, hc⟩ := own_cells h2 hk
 refine ho.block k (h2.lt hk) fun hs => ?_
 obtain ⟨_, _, o, h3, h4⟩ := hS k hs
 rw [hc] at h3
 injection h3 with h3
 subst h3
 cases h4
theorem mineS_stay {T : World → (Nat → Prop) → Prop} {B b : Nat} {ty e : TypeId} {size n : Nat} {xs : List Value} : Stay T (MineS B b ty e size n xs) := fun W G W2 G2 hT hi hT2 ho hg => by
 obtain ⟨v, h1, h2⟩ := hi
 refine ⟨v, mine_stay W G W2 G2 hT h1 hT2 ho hg, ?_⟩
 have h3 := h2.keep (w' := W2) fun k hk => ho.block k (h2.lt hk) (h2.2 k hk).2
 exact ⟨h3.1, fun g hgv => ⟨(h2.2 g hgv).1, fun hk => (hg g hk).elim (h2.2 g hgv).2 fun hl => by have := h2.lt hgv; omega⟩⟩
attribute [local go_sem] Oper.semAt_some
section
variable {w w' : World} {F G : Nat → Prop} {X : XC} {t m n own c most : Nat} {D : PD} {M : List KV} {key pre s : Str}
def AllI (w : World) (F : Nat → Prop) (most : Nat) (L : List KV) (B k : Nat) (W : World) (G : Nat → Prop) : Prop :=
 k ≤ most ∧ Mine w.heap.size 3 #[.int .i64 most] W G ∧ Mine (w.heap.size + 1) 113 #[.slice none 0 0] W G ∧ Mine (w.heap.size + 1 + 1) 32 #[.int .i64 0] W G ∧ MineS B (w.heap.size + 1 + 1 + 1) 113 81 2 k (pairL (L.take k)) W G ∧ Mine (w.heap.size + 1 + 1 + 1 + 1) 32 #[.int .i64 0] W G ∧ Since w F W G ∧ Big B W G
theorem allI_abid {F : Nat → Prop} {L : List KV} {B B' k : Nat} (hB : w.heap.size ≤ B') : Abid B' (AllI w F most L B k) := (Abid.pure _).and (mine_abid.and (mine_abid.and (mine_abid.and (mineS_abid.and (mine_abid.and ((since_abid hB).and big_abid))))))
theorem allI_stay {T : World → (Nat → Prop) → Prop} {L : List KV} {F : Nat → Prop} {B k : Nat} : Stay T (AllI w F most L B k) := (Stay.pure _).and (mine_stay.and (mine_stay.and (mine_stay.and (mineS_stay.and (mine_stay.and (since_stay.and big_stay))))))
def AllX (w : World) (F : Nat → Prop) (most : Nat) (L : List KV) (c : Code) (W : World) (G : Nat → Prop) : Prop :=
 (c = .ret ∧ most < L.length) ∧ Mine (w.heap.size + 1) 113 #[.slice none 0 0] W G ∧ Mine (w.heap.size + 1 + 1) 32 #[.int .i64 2] W G ∧ Since w F W G
theorem allX_abid {F : Nat → Prop} {B' : Nat} {L : List KV} {c : Code} (hB : w.heap.size ≤ B') : Abid B' (AllX w F most L c) := (Abid.pure _).and (mine_abid.and (mine_abid.and (since_abid hB)))
def AllAns (B : Nat) (F' : Nat → Prop) (most : Nat) (L : List KV) (e : Ending) (w' : World) : Prop :=
 (L.length ≤ most ∧ ∃ v, e = .returned (.tuple #[v, .int .i64 0]) ∧ Own w' (fun g => B ≤ g ∧ ¬ F' g) 81 2 v L.length (pairL L)) ∨ (most < L.length ∧ e = .returned (.tuple #[.slice none 0 0, .int .i64 2]))
set_option maxHeartbeats 2000000 in
theorem all_ok (h : TxAt w F X t D) (hb : Bt D M c) (hkl : ∀ x ∈ M, x.1.length ≤ 1000) (hpl : pre.length ≤ 1000) (hlen : (under pre M).length ≤ 1000000) :
  Calls Tryz.prog 57 #[.pointer (some ⟨t, 0, none⟩), .string ⟨pre.toArray⟩, .int .i64 most] w (fun e w' => ∃ F', AllAns w.heap.size F' most (under pre M) e w' ∧ TxAt w' F' X t D ∧ Only F w w' ∧ Grows F F' w) := by
 refine (callsIn_wide (n := 6)).1 ?_
 refine callsIn_of_wp_marks Tryz.func57 rfl trivial ?_ rfl
 refine wpIn_wide.2 ?_
 simp only [Tryz.ntmps57, List.size_toArray, List.length_cons, List.length_nil, Nat.reduceAdd, Nat.reduceSub, Array.replicate_succ, Array.replicate_zero, List.push_toArray, List.append_toArray, List.nil_append, List.cons_append]
 go_wp2_with fail
 refine (pairs_ok _).mono ?_
 rintro e w1 ⟨rfl, rfl⟩
 go_wp2_with fail
 obtain ⟨R, hR⟩ : ∃ R, R = w.heap.size := ⟨_, rfl⟩
 obtain ⟨W0, hW0⟩ : ∃ W0, W0 = (((((((w.alloc (.cells #[.int .i64 most] 3)).alloc (.cells #[.slice none 0 0] 113)).alloc (.cells #[.int .i64 0] 32)).alloc (.cells #[.slice none 0 0] 113)).alloc (.cells #[.int .i64 0] 32)).alloc (.cells #[.pointer (some ⟨t, 0, none⟩)] 24)).alloc (.cells #[.string ⟨pre.toArray⟩] 9)).alloc (.cells #[.pointer (some ⟨w.heap.size + 1 + 1 + 1 + 1, 0, none⟩)] 203) := ⟨_, rfl⟩
 rw [← hW0]
 have hWa : W0 = allocs w [(#[.int .i64 most], 3), (#[.slice none 0 0], 113), (#[.int .i64 0], 32), (#[.slice none 0 0], 113), (#[.int .i64 0], 32), (#[.pointer (some ⟨t, 0, none⟩)], 24), (#[.string ⟨pre.toArray⟩], 9), (#[.pointer (some ⟨w.heap.size + 1 + 1 + 1 + 1, 0, none⟩)], 203)] := hW0
 have hs0 : W0.heap.size = w.heap.size + 8 := by rw [hWa, allocs_size]; rfl
 have ho0 : Only NoB w W0 := by rw [hWa]; exact allocs_only _ _
 have b0 : Blk W0 w.heap.size 3 #[.int .i64 most] := blk_of hWa 0 rfl
 have b1 : Blk W0 (w.heap.size + 1) 113 #[.slice none 0 0] := blk_of hWa 1 rfl
 have b2 : Blk W0 (w.heap.size + 1 + 1) 32 #[.int .i64 0] := blk_of hWa 2 rfl
 have b3 : Blk W0 (w.heap.size + 1 + 1 + 1) 113 #[.slice none 0 0] := blk_of hWa 3 rfl
 have b4 : Blk W0 (w.heap.size + 1 + 1 + 1 + 1) 32 #[.int .i64 0] := blk_of hWa 4 rfl
 have b5 : Blk W0 (w.heap.size + 1 + 1 + 1 + 1 + 1) 24 #[.pointer (some ⟨t, 0, none⟩)] := blk_of hWa 5 rfl
 have b6 : Blk W0 (w.heap.size + 1 + 1 + 1 + 1 + 1 + 1) 9 #[.string ⟨pre.toArray⟩] := blk_of hWa 6 rfl
 have b7 : Blk W0 (w.heap.size + 1 + 1 + 1 + 1 + 1 + 1 + 1) 203 #[.pointer (some ⟨w.heap.size + 1 + 1 + 1 + 1, 0, none⟩)] := blk_of hWa 7 rfl
 have hF : ∀ k, w.heap.size ≤ k → ¬ F k := fun k hk hf => by have := h.lt k hf; omega
 have hT0 : PairsT X t D pre (w.heap.size + 1 + 1 + 1 + 1 + 1 + 1) (w.heap.size + 1 + 1 + 1 + 1 + 1) (w.heap.size + 1 + 1 + 1 + 1 + 1 + 1 + 1) (w.heap.size + 1 + 1 + 1 + 1) W0 F := ⟨h.quit ho0, ⟨b6, hF _ (by omega)⟩, ⟨b5, hF _ (by omega)⟩, ⟨b7, hF _ (by omega)⟩⟩
 have hi0 : AllI w F most (under pre M) W0.heap.size 0 W0 F := ⟨Nat.zero_le _, ⟨b0, hF _ (Nat.le_refl _)⟩, ⟨b1, hF _ (by omega)⟩, ⟨b2, hF _ (by omega)⟩, ⟨_, ⟨b3, hF _ (by omega)⟩, Own.nil _ _ _ _⟩, ⟨b4, hF _ (by omega)⟩, ⟨ho0.mono fun _ _ h => h.elim, Grows.refl F w⟩, Nat.le_refl _⟩
 have HLEN := Lib.hid hlen
 clear hW0 hWa b0 b1 b2 b3 b4 b5 b6 b7 hlen
 refine (wpIn_wide (n := 6)).1 ?_
 refine range_tx (n := 6) (gf := 188) (N := (under pre M).length) (encs := pairA (under pre M)) (T := PairsT X t D pre (w.heap.size + 1 + 1 + 1 + 1 + 1 + 1) (w.heap.size + 1 + 1 + 1 + 1 + 1) (w.heap.size + 1 + 1 + 1 + 1 + 1 + 1 + 1) (w.heap.size + 1 + 1 + 1 + 1)) pairsT_abid (fun W G hT => hT.1.lt) rfl (enters_of Tryz.func188 (by kernel_rfl) rfl) (pairs_iter hb hkl hpl 5 (by omega)) (fun _ => rfl)
  (AllI w F most (under pre M) W0.heap.size) (fun k => allI_abid (by omega)) (fun k => allI_stay) (fun c _ => AllX w F most (under pre M) c) (fun c _ => allX_abid (by omega))
  hT0 hi0
  (fun k a' W => ∃ Bx, W0.heap.size ≤ Bx ∧ Blk W Bx 81 #[.string ⟨(keyAt (under pre M) k).toArray⟩, .string ⟨(valAt (under pre M) k).toArray⟩] ∧ ∃ a14, a' = Act.mk #[.pointer (some ⟨t, 0, none⟩), .string ⟨pre.toArray⟩, .int .i64 most, undef, undef, .pointer (some ⟨w.heap.size, 0, none⟩), .pointer (some ⟨w.heap.size + 1, 0, none⟩), .pointer (some ⟨w.heap.size + 1 + 1, 0, none⟩), .pointer (some ⟨w.heap.size + 1 + 1 + 1, 0, none⟩), .pointer (some ⟨w.heap.size + 1 + 1 + 1 + 1, 0, none⟩), .pointer (some ⟨Bx, 0, none⟩),
   .pointer (some ⟨t, 0, none⟩), .string ⟨pre.toArray⟩, .func (.func 188) #[] #[.pointer (some ⟨w.heap.size + 1 + 1 + 1 + 1 + 1 + 1, 0, none⟩), .pointer (some ⟨w.heap.size + 1 + 1 + 1 + 1 + 1, 0, none⟩), .pointer (some ⟨w.heap.size + 1 + 1 + 1 + 1 + 1 + 1 + 1, 0, none⟩)], a14, undef, undef, undef, undef, undef, undef, undef, undef, undef, undef, undef, undef] [])
  ?hAx ?assign ?body ?done ?stop
 case hAx =>
  rintro k a' W W' _ S ⟨Bx, h1, h2, h3⟩ hS ho
  exact ⟨Bx, h1, blk_abid h2 (fun q hq => (hS q hq).2.2) ho, h3⟩
 case assign =>
  intro l k W G K hk hT hI hK
  have HK := Lib.hid hK
  have HT := Lib.hid hT
  have HI := Lib.hid hI
  clear hK hT hI
  unfold pairA
  gi_wp2
  exact HK.out _ _ ((Only.refl NoB W).alloc _) ((pairsT_abid (B := 0)).quit HT.out ((Only.refl NoB W).alloc _)) ((allI_abid (Nat.le_refl _)).quit HI.out ((Only.refl NoB W).alloc _)) ⟨W.heap.size, HI.out.2.2.2.2.2.2.2, Blk.new _ _ _, _, rfl⟩
 case body =>
  rintro l k a' W G hk hl hT hI ⟨Bx, hBx, hbx, a14, rfl⟩
  obtain ⟨hkm, i0, i1, i2, ⟨v, i3, ho⟩, i4, isn, ibg⟩ := hI
  obtain ⟨A, cp, rfl, hcp⟩ := ho.shape
  have x0 := hbx.cell 0
  have x1 := hbx.cell 1
  have y0 := i0.1.cell 0
  have z0 := i1.1.cell 0
  have z1 := i1.1.frozen 0
  have u0 := i2.1.cell 0
  have u1 := i2.1.frozen 0
  have v0 := i3.1.cell 0
  have v1 := i3.1.frozen 0
  have HK := Lib.hid hk
  have HKM := Lib.hid hkm
  have HT := Lib.hid hT
  have H0 := Lib.hid i0
  have H1 := Lib.hid i1
  have H2 := Lib.hid i2
  have H3 := Lib.hid i3
  have H4 := Lib.hid i4
  have HO := Lib.hid ho
  have HSN := Lib.hid isn
  have HBG := Lib.hid ibg
  have HL := Lib.hid hl
  have HBX := Lib.hid hBx
  clear hk hl hT i0 i1 i2 i3 i4 isn ibg hBx hbx ho hkm hcp
  by_cases hlt : k < most
  ·have hge : ¬ ((most : Int) ≤ (k : Int)) := by omega
   have HLT := Lib.hid hlt
   have hk6 : k ≤ 1000000 := by have := HLEN.out; have := HK.out; omega
   have hR3 : ∀ q, (Value.slice A k cp).ownBlock = some q → ¬ (w.heap.size + 1 + 1 + 1 = q) := fun q hq => by have := (HO.out.2 q hq).1; omega
   have HO1 : Hid (Own (W.alloc (.cells #[.string ⟨(keyAt (under pre M) k).toArray⟩, .string ⟨(valAt (under pre M) k).toArray⟩] 81)) (fun g => (Value.slice A k cp).ownBlock = some g) 81 2 (.slice A k cp) k (pairL ((under pre M).take k))) := Lib.hid (Own.alloc (w := W) ⟨HO.out.1, fun _ h => h⟩ _)
   have HR : Hid (Rd (W.alloc (.cells #[.string ⟨(keyAt (under pre M) k).toArray⟩, .string ⟨(valAt (under pre M) k).toArray⟩] 81)) (fun q => q = W.heap.size) 2 (.slice (some ⟨W.heap.size, 0, none⟩) 1 1) 1 [.string ⟨(keyAt (under pre M) k).toArray⟩, .string ⟨(valAt (under pre M) k).toArray⟩]) := Lib.hid (rd_new W 81 2 1 [.string ⟨(keyAt (under pre M) k).toArray⟩, .string ⟨(valAt (under pre M) k).toArray⟩] rfl)
   have H1N : Hid (∀ u ∈ ([.string ⟨(keyAt (under pre M) k).toArray⟩, .string ⟨(valAt (under pre M) k).toArray⟩] : List Value), u.oneCell' = true) := Lib.hid (by simp [Value.oneCell'])
   have HB3 : Hid (∀ v' w', App (W.alloc (.cells #[.string ⟨(keyAt (under pre M) k).toArray⟩, .string ⟨(valAt (under pre M) k).toArray⟩] 81)) (fun g => (Value.slice A k cp).ownBlock = some g) 81 2 (.slice A k cp) k 1 (pairL ((under pre M).take k)) [.string ⟨(keyAt (under pre M) k).toArray⟩, .string ⟨(valAt (under pre M) k).toArray⟩] v' w' → Blk w' (w.heap.size + 1 + 1 + 1) 113 #[.slice A k cp]) := Lib.hid fun v' w' ha => (H3.out.1.only ((Only.refl NoB W).alloc _) id).only ha.only fun hq => hR3 _ hq rfl
   clear z0 z1 u0 u1 hlt v1 hR3
   gi_wp2_with (gi_at_builtin; refine wpListIn_app rfl _ _ _ rfl (by kernel_rfl) Ty.pair rfl rfl HO1.out HR.out H1N.out (by omega) ?_; intro v' w' ha; obtain ⟨A', c', rfl, hc'⟩ := ha.shape; have hb3 := HB3.out _ _ ha; have v0' := hb3.cell 0; have v1' := hb3.frozen 0; have HA := Lib.hid ha; clear ha hb3 v0 hc')
   rw [← hs0]
   have hoA : Only (fun q => (Value.slice A k cp).ownBlock = some q) W w' := ((Only.refl _ W).alloc _).trans HA.out.only
   have hst : Only (fun q => q = w.heap.size + 1 + 1 + 1) w' (w'.setCell ⟨w.heap.size + 1 + 1 + 1, 0, none⟩ (.slice A' (k + 1) c')) := (Only.refl (fun q => q = w.heap.size + 1 + 1 + 1) w').setCell (p := ⟨w.heap.size + 1 + 1 + 1, 0, none⟩) (.inl rfl) _
   have hall : Only (fun q => q = w.heap.size + 1 + 1 + 1 ∨ (Value.slice A k cp).ownBlock = some q) W (w'.setCell ⟨w.heap.size + 1 + 1 + 1, 0, none⟩ (.slice A' (k + 1) c')) := (hoA.mono fun _ _ h => .inr h).trans (hst.mono fun _ _ h => .inl h)
   have hob : ∀ q, (Value.slice A k cp).ownBlock = some q → w.heap.size + 8 ≤ q ∧ ¬ G q := fun q hq => ⟨by have := (HO.out.2 q hq).1; omega, (HO.out.2 q hq).2⟩
   have hG : ∀ q, G q → ¬ (q = w.heap.size + 1 + 1 + 1 ∨ (Value.slice A k cp).ownBlock = some q) := fun q hq h => by
    rcases h with rfl | h
    ·exact H3.out.2 hq
    ·exact (hob q h).2 hq
   have hlow : ∀ q, q < w.heap.size + 8 → q ≠ w.heap.size + 1 + 1 + 1 → ¬ (q = w.heap.size + 1 + 1 + 1 ∨ (Value.slice A k cp).ownBlock = some q) := fun q hq hne h => by
    rcases h with h | h
    ·exact hne h
    ·have := (hob q h).1; omega
   have hkN := HK.out
   have htk : pairL ((under pre M).take (k + 1)) = pairL ((under pre M).take k) ++ [.string ⟨(keyAt (under pre M) k).toArray⟩, .string ⟨(valAt (under pre M) k).toArray⟩] := by
    rw [pairL_take _ hkN]
    unfold keyAt valAt strV
    rw [List.getD_eq_getElem?_getD, List.getElem?_eq_getElem hkN]; rfl
   have hb3 : Blk w' (w.heap.size + 1 + 1 + 1) 113 #[.slice A k cp] := HB3.out _ _ HA.out
   have hown : Own (w'.setCell ⟨w.heap.size + 1 + 1 + 1, 0, none⟩ (.slice A' (k + 1) c')) (fun g => W0.heap.size ≤ g ∧ ¬ G g) 81 2 (.slice A' (k + 1) c') (k + 1) (pairL ((under pre M).take (k + 1))) := by
    rw [htk]
    have hszW := HBG.out
    refine (HA.out.own.only hst fun q hq e => ?_).mono fun q hq _ => ?_
    ·have e : q = w.heap.size + 1 + 1 + 1 := e
     rcases hq with hq | hq
     ·have := (hob q hq).1; omega
     ·have hq : q = _ := hq
      rw [World.size_alloc] at hq
      unfold Big at hszW; omega
    ·rcases hq with hq | hq
     ·exact HO.out.2 q hq
     ·rw [World.size_alloc] at hq
      unfold Big at hszW
      exact ⟨by omega, fun hg => by have := HT.out.1.lt q hg; omega⟩
   refine ⟨fun q hq => hall.block q (HT.out.1.lt q hq) (hG q hq), fun q o hq ho hoc => (hall.block q (Array.getElem?_eq_some_iff.1 ho).1 fun h => ?_).trans ho, HT.out.beside hall hG ⟨hlow _ (by omega) (by omega), hlow _ (by omega) (by omega), hlow _ (by omega) (by omega)⟩, HLT.out, ⟨H0.out.1.only hall (hlow _ (by omega) (by omega)), H0.out.2⟩, ⟨H1.out.1.only hall (hlow _ (by omega) (by omega)), H1.out.2⟩, ⟨H2.out.1.only hall (hlow _ (by omega) (by omega)), H2.out.2⟩, ⟨_, ⟨hb3.set_ 0 _, H3.out.2⟩, hown⟩, ⟨H4.out.1.only hall (hlow _ (by omega) (by omega)), H4.out.2⟩, ⟨HSN.out.1.trans' hall fun q hq h => ?_, HSN.out.2⟩, Nat.le_trans HBG.out hall.size⟩
   ·rcases h with h | h
    ·omega
    ·obtain ⟨cur, hc⟩ := own_cells HO.out h
     rw [hc] at ho
     injection ho with ho
     subst ho
     cases hoc
   ·rcases h with h | h
    ·omega
    ·have := (hob q h).1; omega
  ·have hge : (most : Int) ≤ (k : Int) := by omega
   have HGE := Lib.hid hge
   clear hlt v1 x0 x1
   gi_wp2_with fail
   have a1 := H1.out.1.set_ 0 (.slice none 0 0)
   have hst1 : Only (fun k => k = w.heap.size + 1) W (W.setCell ⟨w.heap.size + 1, 0, none⟩ (.slice none 0 0)) := (Only.refl (fun k => k = w.heap.size + 1) W).setCell (p := ⟨w.heap.size + 1, 0, none⟩) (.inl rfl) (.slice none 0 0)
   have a2 := (H2.out.1.only hst1 (by show ¬ (w.heap.size + 1 + 1 = w.heap.size + 1); omega)).set_ 0 (.int .i64 2)
   have hst2 : Only (fun k => k = w.heap.size + 1 + 1) (W.setCell ⟨w.heap.size + 1, 0, none⟩ (.slice none 0 0)) ((W.setCell ⟨w.heap.size + 1, 0, none⟩ (.slice none 0 0)).setCell ⟨w.heap.size + 1 + 1, 0, none⟩ (.int .i64 2)) := (Only.refl (fun k => k = w.heap.size + 1 + 1) _).setCell (p := ⟨w.heap.size + 1 + 1, 0, none⟩) (.inl rfl) (.int .i64 2)
   have hall : Only (fun k => k = w.heap.size + 1 ∨ k = w.heap.size + 1 + 1) W _ := (hst1.mono fun _ _ h => .inl h).trans (hst2.mono fun _ _ h => .inr h)
   have hG : ∀ k, G k → ¬ (k = w.heap.size + 1 ∨ k = w.heap.size + 1 + 1) := fun k hk h => by
    rcases h with rfl | rfl
    ·exact H1.out.2 hk
    ·exact H2.out.2 hk
   have hkm := HKM.out
   refine ⟨fun q o hq ho _ => (hall.block q (Array.getElem?_eq_some_iff.1 ho).1 (by omega)).trans ho, HT.out.beside hall hG ⟨by omega, by omega, by omega⟩, ⟨rfl, by have := HK.out; have := HGE.out; omega⟩, ⟨a1.only hst2 (by show ¬ (w.heap.size + 1 = w.heap.size + 1 + 1); omega), H1.out.2⟩, ⟨a2, H2.out.2⟩, HSN.out.1.trans' hall fun k hk h => by omega, HSN.out.2⟩
 case done =>
  rintro d W G hd hnd hT ⟨hkm, i0, i1, i2, ⟨v, i3, ho⟩, i4, isn, ibg⟩ hK
  obtain ⟨A, cp, rfl, hcp⟩ := ho.shape
  have HKM := Lib.hid hkm
  have HT := Lib.hid hT
  have H1 := Lib.hid i1
  have H2 := Lib.hid i2
  have H3 := Lib.hid i3
  have HO := Lib.hid ho
  have HSN := Lib.hid isn
  have HK := Lib.hid hK
  have HND := Lib.hid hnd
  have z0 := i1.1.cell 0
  have z1 := i1.1.frozen 0
  have u0 := i2.1.cell 0
  have u1 := i2.1.frozen 0
  have v0 := i3.1.cell 0
  have x0 := i4.1.cell 0
  clear i0 i1 i2 i3 i4 isn ibg ho hK hT hnd hkm hcp
  go_wp2_with fail
  have a1 := H1.out.1.set_ 0 (.slice A (under pre M).length cp)
  have hst1 : Only (fun k => k = w.heap.size + 1) W (W.setCell ⟨w.heap.size + 1, 0, none⟩ (.slice A (under pre M).length cp)) := (Only.refl (fun k => k = w.heap.size + 1) W).setCell (p := ⟨w.heap.size + 1, 0, none⟩) (.inl rfl) _
  have a2 := (H2.out.1.only hst1 (by show ¬ (w.heap.size + 1 + 1 = w.heap.size + 1); omega)).set_ 0 (.int .i64 0)
  have hst2 : Only (fun k => k = w.heap.size + 1 + 1) (W.setCell ⟨w.heap.size + 1, 0, none⟩ (.slice A (under pre M).length cp)) ((W.setCell ⟨w.heap.size + 1, 0, none⟩ (.slice A (under pre M).length cp)).setCell ⟨w.heap.size + 1 + 1, 0, none⟩ (.int .i64 0)) := (Only.refl (fun k => k = w.heap.size + 1 + 1) _).setCell (p := ⟨w.heap.size + 1 + 1, 0, none⟩) (.inl rfl) (.int .i64 0)
  obtain ⟨WF, hWF⟩ : ∃ z, z = (W.setCell ⟨w.heap.size + 1, 0, none⟩ (.slice A (under pre M).length cp)).setCell ⟨w.heap.size + 1 + 1, 0, none⟩ (.int .i64 0) := ⟨_, rfl⟩
  have hall : Only (fun k => k = w.heap.size + 1 ∨ k = w.heap.size + 1 + 1) W WF := by rw [hWF]; exact (hst1.mono fun _ _ h => .inl h).trans (hst2.mono fun _ _ h => .inr h)
  have a1' : Blk WF (w.heap.size + 1) 113 #[.slice A (under pre M).length cp] := by rw [hWF]; exact a1.only hst2 (by show ¬ (w.heap.size + 1 = w.heap.size + 1 + 1); omega)
  have a2' : Blk WF (w.heap.size + 1 + 1) 32 #[.int .i64 0] := by rw [hWF]; exact a2
  have hG : ∀ k, G k → ¬ (k = w.heap.size + 1 ∨ k = w.heap.size + 1 + 1) := fun k hk h => by
   rcases h with rfl | rfl
   ·exact H1.out.2 hk
   ·exact H2.out.2 hk
  have hKF := (hall.block d (Array.getElem?_eq_some_iff.1 HK.out).1 (by omega)).trans HK.out
  have hown := HO.out.keep (w' := WF) fun q hq => hall.block q (HO.out.lt hq) fun h => by have := (HO.out.2 q hq).1; omega
  rw [← hWF]
  clear hWF hst1 hst2 a1 a2
  refine ⟨by simp, .inl ⟨_, _, rfl, run_takeDeferred hKF, ?_⟩⟩
  have hp := put_only WF d (.deferred none)
  have hS : ∀ q, q = d → ∃ o : Obj, WF.heap[q]? = some o ∧ o.isCells = false := fun q hq => by rw [hq]; exact ⟨_, hKF, rfl⟩
  have c1 := (blk_abid a1' hS hp).cell 0
  have c2 := (blk_abid a2' hS hp).cell 0
  have hown2 := hown.keep (w' := WF.putObj d (.deferred none)) fun q hq => hp.block q (hown.lt hq) fun h => by
   obtain ⟨cur, hc⟩ := own_cells hown hq
   obtain ⟨o, h1, h2⟩ := hS q h
   rw [hc] at h1
   injection h1 with h1
   subst h1
   cases h2
  rw [List.take_length] at hown2
  refine ⟨_, results_cell_cell rfl _ _ (w.heap.size + 1) (w.heap.size + 1 + 1) _ _ rfl c1 (by kernel_rfl) rfl c2 (by kernel_rfl), G, .inl ⟨HKM.out, _, rfl, ⟨hown2.1, fun g hg => ⟨by have := (hown2.2 g hg).1; omega, (hown2.2 g hg).2⟩⟩⟩, ?_, ?_, HSN.out.2⟩
  ·exact (HT.out.1.only hall hG).only hp fun k hk he => HND.out (he ▸ hk)
  ·exact (HSN.out.1.trans' hall fun k hk he => by omega).trans' hp fun k hk he => by have he : k = d := he; omega
 case stop =>
  rintro d c k W G hd hk hnd hT ⟨⟨rfl, hL0⟩, i1, i2, isn⟩ hK
  have HL0 := Lib.hid hL0
  have HT := Lib.hid hT
  have H1 := Lib.hid i1
  have H2 := Lib.hid i2
  have HSN := Lib.hid isn
  have HK := Lib.hid hK
  have HND := Lib.hid hnd
  clear i1 i2 isn hL0 hT hnd hk
  gi_wp2_with fail
  refine ⟨by simp, .inl ⟨_, _, rfl, run_takeDeferred HK.out, ?_⟩⟩
  have hp := put_only W d (.deferred none)
  have hS : ∀ q, q = d → ∃ o : Obj, W.heap[q]? = some o ∧ o.isCells = false := fun q hq => by rw [hq]; exact ⟨_, HK.out, rfl⟩
  have c1 := (blk_abid H1.out.1 hS hp).cell 0
  have c2 := (blk_abid H2.out.1 hS hp).cell 0
  refine ⟨_, results_cell_cell rfl _ _ (w.heap.size + 1) (w.heap.size + 1 + 1) _ _ rfl c1 (by kernel_rfl) rfl c2 (by kernel_rfl), G, .inr ⟨HL0.out, rfl⟩, ?_, ?_, HSN.out.2⟩
  ·exact HT.out.1.only hp fun k hk he => HND.out (he ▸ hk)
  ·exact HSN.out.1.trans' hp fun k hk he => by have he : k = d := he; omega
theorem kv_all (h : KvAt w F X t m n own M c) (hpl : pre.length ≤ 1000) (hlen : (under pre M).length ≤ 1000000) :
  Calls Tryz.prog 57 #[.pointer (some ⟨t, 0, none⟩), .string ⟨pre.toArray⟩, .int .i64 most] w (fun e w' => ∃ F', AllAns w.heap.size F' most (under pre M) e w' ∧ KvAt w' F' X t m n own M c ∧ Only F w w' ∧ Grows F F' w) := by
 obtain ⟨D, ht, hb, rfl, rfl, rfl, hkl⟩ := h
 refine (all_ok ht hb hkl hpl hlen).mono ?_
 rintro e w1 ⟨F', h0, h1, h6, h7⟩
 exact ⟨F', h0, ⟨D, h1, hb, rfl, rfl, rfl, hkl⟩, h6, h7⟩
end
end Go.Proofs.YtklfkocebhhgcaaGreat
namespace Go.Proofs.YtklfkocebhhgcaaGreat
open Go.RowKit Go.Proofs Go.Shelf
set_option maxRecDepth 20000
attribute [local go_sem] Oper.semAt_some
section
variable {w w' : World} {F G : Nat → Prop} {X : XC} {t m np own c : Nat} {M : List KV}
def chunkOf (m : Nat) : Nat := min (NodeD.most m - 6) 200
theorem chunk_ok (h1 : 64 ≤ m) (h2 : m ≤ 4096) : Calls Tryz.prog 230 #[.int .i64 m] w fun e w' => e = .returned (.tuple #[.int .i64 (chunkOf m : Nat), .int .i64 0]) ∧ w = w' := by
 have hmo : 7 ≤ NodeD.most m := by unfold NodeD.most; omega
 have hmx : NodeD.most m ≤ 4096 := by unfold NodeD.most; omega
 have HM := Lib.hid (most_ok m h1 h2 w)
 obtain ⟨q, hq⟩ : ∃ q, q = NodeD.most m := ⟨_, rfl⟩
 have hc : chunkOf m = min (q - 6) 200 := by rw [hq]; rfl
 rw [hc]
 rw [← hq] at HM hmo hmx
 clear hc hq
 have hle : ¬ ((q : Int) ≤ 6) := by omega
 have hw1 : IntKind.i64.wrap ((q : Int) - 6) = (q : Int) - 6 := by rw [IntKind.wrap_i64]; omega
 obtain ⟨r, hr⟩ : ∃ r, r = min (q - 6) 200 := ⟨_, rfl⟩
 rw [← hr]
 have HR := Lib.hid hr
 clear hr
 by_cases hlt : (q : Int) - 6 < 200
 ·have hr : (r : Int) = (q : Int) - 6 := by have := HR.out; omega
  rw [hr]
  clear hr
  go_enter Tryz.func230, Tryz.ntmps230
  go_wp2_with fail
  refine HM.out.mono ?_
  rintro e w1 ⟨rfl, rfl⟩
  go_wp2_with fail
  all_goals first | (go_ret2; exact ⟨rfl, rfl⟩) | (exfalso; omega)
 ·have hr : (r : Int) = 200 := by have := HR.out; omega
  rw [hr]
  clear hr
  go_enter Tryz.func230, Tryz.ntmps230
  go_wp2_with fail
  refine HM.out.mono ?_
  rintro e w1 ⟨rfl, rfl⟩
  go_wp2_with fail
  all_goals first | (go_ret2; exact ⟨rfl, rfl⟩) | (exfalso; omega) | (go_ret2; refine ⟨?_, rfl⟩; show Ending.returned (Value.tuple #[Value.int IntKind.i64 ((q : Int) - 6), _]) = _; rw [show (q : Int) - 6 = 200 by omega]; rfl)
theorem fprefix_ok (n : Int) : Calls Tryz.prog 152 #[.int .i64 n] w fun e w' => e = .returned (preAns n) ∧ Only NoB w w' := by
 have HP := Lib.hid (prefix_chunk (w := w) n)
 obtain ⟨a, b, hab⟩ : ∃ a b, preAns n = .tuple #[a, b] := by unfold preAns; split <;> exact ⟨_, _, rfl⟩
 rw [hab] at HP ⊢
 clear hab
 go_enter Tryz.func152, Tryz.ntmps152
 go_wp2_with fail
 refine HP.out.mono ?_
 rintro e w1 ⟨rfl, ho⟩
 have HO := Lib.hid ho
 clear ho
 go_wp2_with fail
 go_ret2
 exact ⟨rfl, HO.out⟩
def fpre (n : Int) : Str := (99 : UInt8) :: be3i n
theorem preAns_ok {n : Int} (h : 1 ≤ n ∧ n ≤ 16777215) : preAns n = .tuple #[.string ⟨(fpre n).toArray⟩, .int .i64 0] := by rw [preAns, if_pos h]; rfl
theorem fdrop_ok {n : Int} (h : KvAt w F X t m np own M c) (hn : 1 ≤ n ∧ n ≤ 16777215) (hlen : (under (fpre n) M).length ≤ 1000000) :
  Calls Tryz.prog 91 #[.pointer (some ⟨t, 0, none⟩), .int .i64 n] w (KvOut w F X t m np own (.tuple #[.int .i64 ((under (fpre n) M).length : Nat), .int .i64 0]) (rid (fpre n) M) c) := by
 have HP := Lib.hid (fprefix_ok (w := w) n)
 rw [preAns_ok hn] at HP
 have HH := Lib.hid h
 have HL := Lib.hid hlen
 have HD0 : Hid (∀ w1, Only NoB w w1 → Calls Tryz.prog 153 _ w1 _) := Lib.hid fun w1 ho => wdrop_ok (h.quit ho) (pre := fpre n) (by simp [fpre, be3i]) hlen
 obtain ⟨L, hL⟩ : ∃ L, L = (under (fpre n) M).length := ⟨_, rfl⟩
 rw [← hL] at HD0 ⊢
 clear h hlen hL
 go_enter Tryz.func91, Tryz.ntmps91
 go_wp2_with fail
 refine HP.out.mono ?_
 rintro e w1 ⟨rfl, ho⟩
 have HO := Lib.hid ho
 have HD := Lib.hid (HD0.out w1 ho)
 clear ho
 go_wp2_with fail
 refine HD.out.mono ?_
 rintro e w2 ⟨rfl, hk⟩
 have HK : Hid (KvOut w F X t m np own (.tuple #[.int .i64 (L : Nat), .int .i64 0]) (rid (fpre n) M) c (.returned (.tuple #[.int .i64 (L : Nat), .int .i64 0])) w2) := Lib.hid (KvOut.trans (HO.out.mono fun _ _ h => h.elim) (Grows.refl F w) ⟨rfl, hk⟩)
 clear hk
 go_wp2_with fail
 go_ret2
 exact HK.out
theorem KvAt.m12 (h : KvAt w F X t m np own M c) : 64 ≤ m ∧ m ≤ 4096 := by obtain ⟨D, _, hb, rfl, _⟩ := h; exact ⟨hb.1.m1, hb.1.m2⟩
theorem KvAt.bytes (h : KvAt w F X t m np own M c) : Calls Tryz.prog 123 #[.pointer (some ⟨t, 0, none⟩)] w fun e w' => e = .returned (.int .i64 m) ∧ w = w' := by
 obtain ⟨D, ht, _, rfl, _⟩ := h; exact ht.bytes
theorem ready_ok {n : Int} (h : KvAt w F X t m np own M c) (hn : 1 ≤ n ∧ n ≤ 16777215) :
  Calls Tryz.prog 198 #[.pointer (some ⟨t, 0, none⟩), .int .i64 n] w fun e w' => e = .returned (.tuple #[.int .i64 (chunkOf m : Nat), .int .i64 0]) ∧ Only NoB w w' := by
 have HP := Lib.hid (fprefix_ok (w := w) n)
 rw [preAns_ok hn] at HP
 have HH := Lib.hid h
 clear h
 go_enter Tryz.func198, Tryz.ntmps198
 go_wp2_with fail
 refine HP.out.mono ?_
 rintro e w1 ⟨rfl, ho⟩
 have HO := Lib.hid ho
 have HB := Lib.hid (HH.out.quit ho).bytes
 have HC := Lib.hid (chunk_ok (w := w1) HH.out.m12.1 HH.out.m12.2)
 clear ho
 go_wp2_with fail
 refine HB.out.mono ?_
 rintro e w2 ⟨rfl, rfl⟩
 go_wp2_with fail
 refine HC.out.mono ?_
 rintro e w2 ⟨rfl, rfl⟩
 go_wp2_with fail
 go_ret2
 exact ⟨rfl, HO.out⟩
end
end Go.Proofs.YtklfkocebhhgcaaGreat
namespace Go.Proofs.YtklfkocebhhgcaaGreat
section
variable {M : List KV} {p k v d : Str} {c i j : Nat}
def ckey (p : Str) (i : Nat) : Str := p ++ be2 i
def chunkN (c L : Nat) : Nat := (L + c - 1) / c
def chunkAt (c : Nat) (d : Str) (i : Nat) : Str := (d.drop (c * i)).take c
def chunks (c : Nat) (p d : Str) : List KV := (List.range (chunkN c d.length)).map fun i => (ckey p i, chunkAt c d i)
theorem chunks_len : (chunks c p d).length = chunkN c d.length := by simp [chunks]
theorem chunkN_lt {L : Nat} (hc : 0 < c) : i < chunkN c L ↔ c * i < L := by
 unfold chunkN
 rw [Nat.lt_div_iff_mul_lt hc, Nat.mul_comm]
 omega
theorem chunks_take (hc : 0 < c) (hi : c * i < d.length) : (chunks c p d).take (i + 1) = (chunks c p d).take i ++ [(ckey p i, chunkAt c d i)] := by
 have h : i < (chunks c p d).length := by rw [chunks_len]; exact (chunkN_lt hc).2 hi
 rw [List.take_succ_eq_append_getElem h]
 simp [chunks]
theorem chunks_all (hc : 0 < c) (hi : d.length ≤ c * i) : (chunks c p d).take i = chunks c p d := by
 apply List.take_of_length_le
 rw [chunks_len]
 have : ¬ i < chunkN c d.length := fun h => by have := (chunkN_lt hc).1 h; omega
 omega
theorem lts_pre : ∀ (p : Str) {a b : Str}, lts a b → lts (p ++ a) (p ++ b)
 | [], _, _, h => h
 | x :: p, _, _, h => lts_cons.2 (.inr ⟨rfl, lts_pre p h⟩)
theorem be2_lts (hij : i < j) (hj : j ≤ 65535) : lts (be2 i) (be2 j) := by
 unfold be2
 by_cases h : i / 256 = j / 256
 ·rw [h]
  refine lts_cons.2 (.inr ⟨rfl, lts_cons.2 (.inl ?_)⟩)
  rw [UInt8.lt_iff_toNat_lt, UInt8.toNat_ofNat', UInt8.toNat_ofNat']
  omega
 ·refine lts_cons.2 (.inl ?_)
  rw [UInt8.lt_iff_toNat_lt, UInt8.toNat_ofNat', UInt8.toNat_ofNat']
  omega
theorem ckey_lts (hij : i < j) (hj : j ≤ 65535) : lts (ckey p i) (ckey p j) := lts_pre p (be2_lts hij hj)
theorem hasP_ckey : hasP p (ckey p i) = true := by simp [hasP, ckey]
theorem chunks_keys {x : KV} (hx : x ∈ (chunks c p d).take i) : ∃ j, j < i ∧ x.1 = ckey p j := by
 obtain ⟨j, hj, rfl⟩ := List.getElem_of_mem hx
 rw [List.length_take] at hj
 refine ⟨j, by omega, ?_⟩
 simp [chunks]
theorem under_ins : ∀ {M : List KV}, Srt M → hasP p k = true → (∀ x ∈ under p M, lts x.1 k) → under p (ins k v M) = under p M ++ [(k, v)] ∧ rid p (ins k v M) = rid p M
 | [], _, hk, _ => by simp [ins, under, rid, hk]
 | x :: M, hs, hk, hl => by
  have hs' := List.pairwise_cons.1 hs
  rw [ins]
  split
  ·rename_i hlt
   have hnone : under p (x :: M) = [] := by
    apply List.filter_eq_nil_iff.2
    intro y hy hyp
    have h1 := hl y (List.mem_filter.2 ⟨hy, hyp⟩)
    rcases List.mem_cons.1 hy with rfl | hy
    ·exact lts_asymm hlt h1
    ·exact lts_asymm (lts_trans hlt (hs'.1 y hy)) h1
   rw [hnone]
   unfold under at hnone ⊢
   unfold rid
   rw [List.filter_cons_of_pos (by simpa using hk), hnone, List.filter_cons_of_neg (by simp [hk])]
   exact ⟨rfl, rfl⟩
  ·rename_i hlt
   split
   ·rename_i he
    have h1 := hl x (List.mem_filter.2 ⟨by simp, by rw [he]; exact hk⟩)
    rw [he] at h1
    exact (lts_irrefl _ h1).elim
   ·obtain ⟨h1, h2⟩ := under_ins (M := M) hs'.2 hk fun y hy => hl y (by unfold under at hy ⊢; exact List.mem_filter.2 ⟨List.mem_cons_of_mem _ (List.mem_filter.1 hy).1, (List.mem_filter.1 hy).2⟩)
    unfold under at h1 ⊢
    unfold rid at h2 ⊢
    by_cases hx : hasP p x.1 = true
    ·refine ⟨?_, ?_⟩
     ·rw [List.filter_cons_of_pos (by simpa using hx), List.filter_cons_of_pos (by simpa using hx), h1]; rfl
     ·rw [List.filter_cons_of_neg (by simp [hx]), List.filter_cons_of_neg (by simp [hx]), h2]
    ·refine ⟨?_, ?_⟩
     ·rw [List.filter_cons_of_neg (by simpa using hx), List.filter_cons_of_neg (by simpa using hx), h1]
     ·rw [List.filter_cons_of_pos (by simpa using hx), List.filter_cons_of_pos (by simpa using hx), h2]
theorem under_rid_self : under p (rid p M) = [] := by
 apply List.filter_eq_nil_iff.2
 intro y hy hyp
 have := (List.mem_filter.1 hy).2
 rw [hyp] at this
 cases this
theorem rid_rid : rid p (rid p M) = rid p M := by
 unfold rid
 rw [List.filter_filter]
 congr 1; funext x; simp
end
end Go.Proofs.YtklfkocebhhgcaaGreat
namespace Go.Proofs.YtklfkocebhhgcaaGreat
open Go.RowKit Go.Proofs Go.Shelf
set_option maxRecDepth 20000
attribute [local go_sem] Oper.semAt_some
section
variable {w w' : World} {F G : Nat → Prop} {X : XC} {t m np own c n : Nat} {M : List KV} {d : Str}
def WrSt (w : World) (F : Nat → Prop) (X : XC) (t m np own n : Nat) (M : List KV) (c : Nat) (d : Str) (i : Nat) (v : Value) (wr : World) : Prop :=
 ∃ Mk, ∃ Fk, KvAt wr Fk X t m np own Mk (c + i) ∧ under (fpre n) Mk = (chunks (chunkOf m) (fpre n) d).take i ∧ rid (fpre n) Mk = rid (fpre n) M ∧ Only F w wr ∧ Grows F Fk w ∧ Bytes wr (fun k => w.heap.size ≤ k ∧ ¬ Fk k) v (d.drop (chunkOf m * i)) ∧ i ≤ chunkN (chunkOf m) d.length
def WrOut (w : World) (F : Nat → Prop) (X : XC) (t m np own n : Nat) (M : List KV) (c : Nat) (d : Str) (e : Ending) (w' : World) : Prop :=
 e = .returned (.int .i64 0) ∧ ∃ M' F', KvAt w' F' X t m np own M' c ∧ under (fpre n) M' = chunks (chunkOf m) (fpre n) d ∧ rid (fpre n) M' = rid (fpre n) M ∧ Only F w w' ∧ Grows F F' w
theorem bytesWorld_only (w : World) (e : TypeId) (s : ByteArray) : Only NoB w (Lib.bytesWorld w e s) :=
 ⟨rfl, rfl, rfl, by rw [Lib.bytesWorld_size]; omega, fun k hk _ => Lib.bytesWorld_at_old w e s k hk⟩
theorem le_grownCap (w : World) (n old : Nat) (e : TypeId) : n ≤ grownCap w n old e := by
 unfold grownCap
 simp [Question.cut]
set_option maxHeartbeats 2000000 in
theorem fwrite_ok (h : KvAt w F X t m np own M c) (hn : 1 ≤ n ∧ n ≤ 16777215) (hd : d.length ≤ 65536) (hN : chunkN (chunkOf m) d.length ≤ 65536) (hroom : c + chunkN (chunkOf m) d.length ≤ np - (own + 1)) (hlen : (under (fpre n) M).length ≤ 1000000) :
  Calls Tryz.prog 134 #[.pointer (some ⟨t, 0, none⟩), .int .i64 n, .string ⟨d.toArray⟩] w (WrOut w F X t m np own n M (c + chunkN (chunkOf m) d.length) d) := by
 have hch : 1 ≤ chunkOf m ∧ chunkOf m ≤ 200 := by
  have := h.m12
  unfold chunkOf NodeD.most
  omega
 have HR := Lib.hid (ready_ok (n := n) h (by omega))
 have HD : Hid (∀ w1, Only NoB w w1 → Calls Tryz.prog 91 _ w1 _) := Lib.hid fun w1 ho => fdrop_ok (n := n) (h.quit ho) (by omega) hlen
 obtain ⟨L, hL⟩ : ∃ L, L = d.length := ⟨_, rfl⟩
 obtain ⟨ch, hc⟩ : ∃ ch, ch = chunkOf m := ⟨_, rfl⟩
 obtain ⟨L0, hL0⟩ : ∃ L0, L0 = (under (fpre n) M).length := ⟨_, rfl⟩
 rw [← hL0] at HD
 rw [← hc] at HR hch hN
 rw [← hL] at hN hd
 have hq : ¬ (65536 < ((L : Int) + ch - 1) / ch) := by
  have : (((L + ch - 1 : Nat) / ch : Nat) : Int) = ((L : Int) + ch - 1) / ch := by
   rw [Int.natCast_ediv]
   congr 1; omega
  unfold chunkN at hN
  omega
 have hdl : d.length = L := hL.symm
 have hL1 : (L : Int) ≤ 65536 := by omega
 have hc0 : (ch : Int) ≠ 0 := by omega
 have hc1 : (1 : Int) ≤ ch := by omega
 have HH := Lib.hid h
 have HN := Lib.hid hn
 have HLL := Lib.hid hL
 have HC := Lib.hid hc
 clear h hlen hL hc hL0
 go_enter Tryz.func134, Tryz.ntmps134
 go_wp2_with fail
 refine HR.out.mono ?_
 rintro e w1 ⟨rfl, ho⟩
 have HO := Lib.hid ho
 clear ho
 go_wp2_with fail
 refine (HD.out w1 HO.out).mono ?_
 rintro e w2 ⟨rfl, F2, hk2, ho2, hg2⟩
 have hr : (ByteArray.mk d.toArray).size = L := by show d.toArray.size = L; simpa using hdl
 have hcv := Lib.run_convert_string_bytes (P := Tryz.prog) w2 9 103 5 ⟨d.toArray⟩ (u := .string) (by kernel_rfl) (by kernel_rfl) (by kernel_rfl)
 rw [hr] at hcv
 obtain ⟨W3, hW3⟩ : ∃ W3, W3 = Lib.bytesWorld w2 5 ⟨d.toArray⟩ := ⟨_, rfl⟩
 obtain ⟨cp, hcp⟩ : ∃ cp, cp = grownCap w2 L 0 5 := ⟨_, rfl⟩
 rw [← hW3, ← hcp] at hcv
 have ho3 : Only NoB w2 W3 := by rw [hW3]; exact bytesWorld_only _ _ _
 have hcpL : L ≤ cp := by rw [hcp]; exact le_grownCap _ _ _ _
 have hby : Bytes W3 (fun k => k = w2.heap.size) (.slice (some ⟨w2.heap.size, 0, none⟩) L cp) d := by
  rw [← hdl] at hcpL ⊢
  refine ⟨_, _, rfl, hcpL, by simp, fun _ => ⟨_, rfl, rfl, fun j u hu => ?_⟩⟩
  rw [Addr.add_lit, Nat.zero_add, hW3, Lib.bytesWorld_cell _ _ _ _ (by
   have := (List.getElem?_eq_some_iff.1 hu).1
   rw [List.length_map] at this
   show j < d.toArray.size
   simpa using this)]
  rw [List.getElem?_map] at hu
  cases hq : d[j]? with
  | none => rw [hq] at hu; cases hu
  | some x =>
   rw [hq] at hu
   injection hu with hu
   rw [← hu]
   show some (Value.int .u8 (d.toArray.toList.getD j 0).toNat) = some (byteV x)
   rw [List.getD_eq_getElem?_getD]
   simp [hq, byteV]
 have hs2 := ho2.size
 have hs1 := HO.out.size
 have HS : Hid (WrSt w F X t m np own n M c d 0 (.slice (some ⟨w2.heap.size, 0, none⟩) L cp) W3) := Lib.hid ⟨_, F2, hk2.quit ho3, by rw [under_rid_self]; rfl, rid_rid, (((HO.out.mono fun _ _ h => h.elim).trans' ho2 fun k hk hf => hf).trans' ho3 fun k hk hf => hf.elim), fun k hk => (hg2 k hk).imp id fun h => by omega, by
  rw [Nat.mul_zero, List.drop_zero]
  exact hby.mono fun k hk _ => by rw [hk]; exact ⟨by omega, fun hf => by have := hk2.lt _ hf; omega⟩, Nat.zero_le _⟩
 clear hW3 hby ho3 hk2 ho2 hg2 hs2 hs1 HD HR hcp hcpL hr
 go_wp2_with fail
 clear hcv hq hL1 hdl
 go_loopg [11, 12] L (fun g s11 s12 wr => ∃ i : Nat, s12 = .int .i64 i ∧ g = L - ch * i ∧ Hid (WrSt w F X t m np own n M c d i s11 wr))
 case atStart => exact ⟨0, rfl, by simp, HS⟩
 case round =>
  clear HS HO
  obtain ⟨i, rfl, hgk, HS⟩ := hrel
  obtain ⟨Mk, Fk, hkv, hun, hri, hon, hgr, hby, hile⟩ := HS.out
  rw [← HC.out] at hun hby hile
  obtain ⟨l, hl⟩ : ∃ l, l = (d.drop (ch * i)).length := ⟨_, rfl⟩
  have hlL : l = L - ch * i := by rw [hl, HLL.out, List.length_drop]
  by_cases hl0 : l = 0
  ·subst hl0
   obtain ⟨A, c2, rfl, _⟩ := hby
   have hdn : d.length ≤ ch * i := by have := HLL.out; omega
   rw [chunks_all (by omega) hdn] at hun
   have HE : Hid (WrOut w F X t m np own n M (c + chunkN (chunkOf m) d.length) d (.returned (.int .i64 0)) wr) := Lib.hid ⟨rfl, Mk, Fk, hkv.mono (by rw [← HC.out]; omega), by rw [← HC.out]; exact hun, hri, hon, hgr⟩
   rw [← hl]
   clear hkv hun hri hon hgr hl hlL hdn hile HS hgk
   go_wp2_with fail
   go_ret
   exact HE.out
  ·have hl1 : 0 < (d.drop (ch * i)).length := by omega
   obtain ⟨g, off, c2, rfl, hlc, hKg, hcell⟩ := hby.open_ hl1
   rw [← hl] at hlc hby ⊢
   have hil : ch * i < d.length := by have := HLL.out; omega
   have hi := (chunkN_lt (by omega)).2 hil
   have hi6 : i ≤ 65535 := by have := HLL.out; rw [← this] at hi; omega
   have hcv : ∀ (r : Nat) (w' : World), r ≤ l → Only NoB wr w' → (convert 103 9 (.slice (some ⟨g, off, none⟩) r r)).run Tryz.prog w' = .ok (.string ⟨((d.drop (ch * i)).take r).toArray⟩) w' := fun r w' hrl ho => by
    refine conv_bytes' (K := fun _ => True) (Rd.only (G := NoB) (F := fun _ => True) ?_ ho fun _ _ => id)
    have h1 : Rd wr _ 1 (.slice (some ⟨g, off, none⟩) r c2) r _ := Rd.take_ (w := wr) (n := l) (size := 1) (xs := (d.drop (ch * i)).map byteV) (by rw [hl] at hby ⊢; exact hby) hrl
    obtain ⟨A, c3, hv, hc3, hl3, hx⟩ := h1
    rw [Nat.mul_one, ← List.map_take] at hl3 hx
    have hlr : ((d.drop (ch * i)).take r).length = r := by rw [List.length_take]; omega
    rw [hlr]
    refine ⟨_, _, rfl, Nat.le_refl _, by rw [hl3, Nat.mul_one], fun h0 => ?_⟩
    obtain ⟨ad, h4, h5, h6⟩ := hx (by omega)
    injection hv with q1
    exact ⟨ad, q1.trans h4, trivial, h6⟩
   have hput : ∀ (r : Nat) (w5 : World), r = min ch l → Only NoB wr w5 → Calls Tryz.prog 45 #[.pointer (some ⟨t, 0, none⟩), .string ⟨((99 : UInt8) :: (be3 n ++ be2 i)).toArray⟩, .string ⟨((d.drop (ch * i)).take r).toArray⟩] w5 (fun e w6 => (∃ b, e = .returned (.tuple #[.bool b, .int .i64 0])) ∧ ∀ v, (v = .slice (some ⟨g, off + r, none⟩) (l - r) (c2 - r) ∨ (c2 = r ∧ v = .slice (some ⟨g, off, none⟩) (l - r) 0)) → WrSt w F X t m np own n M c d (i + 1) v w6) := fun r w5 hr ho5 => by
    have hkey : (99 : UInt8) :: (be3 n ++ be2 i) = ckey (fpre n) i := by unfold ckey fpre; rw [be3i_nat HN.out.2]; rfl
    have hval : (d.drop (ch * i)).take r = chunkAt ch d i := by
     unfold chunkAt
     rw [hr]
     by_cases hcl : ch ≤ l
     ·rw [Nat.min_eq_left hcl]
     ·rw [Nat.min_eq_right (by omega), List.take_of_length_le (by omega), List.take_of_length_le (by omega)]
    rw [hkey, hval]
    have hkl : (ckey (fpre n) i).length = 6 := by simp [ckey, fpre, be3i, be2]
    have hvl : (chunkAt ch d i).length ≤ ch := by unfold chunkAt; rw [List.length_take]; omega
    have hpok : PairOk m (ckey (fpre n) i, chunkAt ch d i) := by
     have h12 := hkv.m12
     have hce := HC.out
     unfold chunkOf at hce
     have hmo : 7 ≤ NodeD.most m := by unfold NodeD.most; omega
     refine ⟨by show 1 ≤ (ckey (fpre n) i).length; omega, by show (ckey (fpre n) i).length ≤ 255; omega, by show (chunkAt ch d i).length ≤ 255; omega, by show (ckey (fpre n) i).length + (chunkAt ch d i).length ≤ _; omega⟩
    have hbefore : ∀ x ∈ under (fpre n) Mk, lts x.1 (ckey (fpre n) i) := fun x hx => by
     rw [hun] at hx
     obtain ⟨j, hj, hxe⟩ := chunks_keys hx
     rw [hxe]
     exact ckey_lts hj hi6
    obtain ⟨hu1, hu2⟩ := under_ins (v := chunkAt ch d i) hkv.srt hasP_ckey hbefore
    refine (kv_put (hkv.quit ho5) (by rw [← HC.out] at hroom; omega) hpok (by omega)).mono ?_
    rintro e w6 ⟨rfl, F6, hk6, ho6, hg6⟩
    have hs5 := ho5.size
    have hsr := hon.size
    refine ⟨⟨_, rfl⟩, fun v hv => ⟨_, F6, hk6, by rw [hu1, hun, ← HC.out, ← chunks_take (by omega) hil], hu2.trans hri, (hon.trans' ho5 fun k hk hf => hf.elim).trans' ho6 fun k hk hf => (hgr k hf).elim id fun h => by omega, fun k hk => (hg6 k hk).elim (fun h => hgr k h) fun h => .inr (by omega), ?_, by rw [← HC.out]; omega⟩⟩
    have hd1 : Rd wr _ 1 (.slice (some ⟨g, off + r * 1, none⟩) (l - r) (c2 - r)) (l - r) _ := Rd.drop_ (w := wr) (n := l) (k := r) (size := 1) (xs := (d.drop (ch * i)).map byteV) (by rw [hl] at hby ⊢; exact hby) (by omega)
    rw [Nat.mul_one, ← List.map_drop, List.drop_drop] at hd1
    have hdd : d.drop (ch * i + r) = d.drop (ch * (i + 1)) := by
     rw [Nat.mul_succ]
     by_cases hcl : ch ≤ l
     ·rw [hr, Nat.min_eq_left hcl]
     ·have hL := HLL.out
      rw [List.drop_of_length_le (by omega), List.drop_of_length_le (by omega)]
    have hdl : l - r = (d.drop (ch * (i + 1))).length := by rw [← hdd, List.length_drop]; have := HLL.out; omega
    rw [hdd] at hd1
    rw [← HC.out]
    unfold Bytes
    rw [← hdl]
    rcases hv with rfl | ⟨hcr, rfl⟩
    ·refine (((hd1.mono (G := fun k => (w.heap.size ≤ k ∧ ¬ Fk k) ∧ k < wr.heap.size) fun k hk hlk => ⟨hk, hlk⟩).only ho5 fun _ _ => id).only ho6 fun k hk => hk.1.2).mono fun k hk _ => ⟨hk.1.1, fun hf => ?_⟩
     rcases hg6 k hf with h1 | h1
     ·exact hk.1.2 h1
     ·have := hk.2; omega
    ·have h0 : l - r = 0 := by omega
     rw [h0] at hdl ⊢
     have hnil : d.drop (ch * (i + 1)) = [] := List.length_eq_zero_iff.1 hdl.symm
     rw [hnil]
     exact ⟨_, _, rfl, Nat.le_refl _, rfl, fun h => by omega⟩
   have HPUT := Lib.hid hput
   have HB := Lib.hid (bytes_chunk (w := wr) (n := n) (m := i) HN.out hi6)
   have hl2 : (0 : Int) < l := by omega
   have HCV := Lib.hid hcv
   have HKV := Lib.hid hkv
   have HUN := Lib.hid hun
   have HRI := Lib.hid hri
   have HON := Lib.hid hon
   have HGR := Lib.hid hgr
   have HBY := Lib.hid hby
   have HI := Lib.hid hi
   have HIL := Lib.hid hil
   have HLD := Lib.hid hl
   have HLE := Lib.hid hlL
   have HGK := Lib.hid hgk
   have HKG := Lib.hid hKg
   unfold keyC at HB
   have hi6' := hi6
   clear hput hcv hkv hun hri hon hgr hby hi hil hl hlL hgk hKg hcell hile HS hl1 hi6
   by_cases hcl : (ch : Int) ≤ l
   ·go_wp2_with fail
    refine HB.out.mono ?_
    rintro e w5 ⟨rfl, ho5⟩
    have hcv := HCV.out ch w5 (by omega) ho5
    have HP := Lib.hid (HPUT.out ch w5 (by omega) ho5)
    clear ho5
    go_wp2_with fail
    refine HP.out.mono ?_
    rintro e w6 ⟨⟨b, rfl⟩, hst⟩
    have HST := Lib.hid hst
    have hw1 : IntKind.i64.wrap ((i : Int) + 1) = (i : Int) + 1 := by
     have := hi6'
     rw [IntKind.wrap_i64]; omega
    have hlt : L - ch * (i + 1) < gk := by
     have h1 := HGK.out
     have h2 := HLE.out
     rw [Nat.mul_succ]; omega
    clear hst hcv
    go_wp2_with fail
    ·go_roundg (L - ch * (i + 1))
     case measure => exact hlt
     case rel => exact ⟨i + 1, rfl, rfl, Lib.hid (HST.out _ (.inr ⟨by omega, by simp⟩))⟩
    ·go_roundg (L - ch * (i + 1))
     case measure => exact hlt
     case rel => exact ⟨i + 1, rfl, rfl, Lib.hid (HST.out _ (.inl (by simp)))⟩
   ·go_wp2_with fail
    refine HB.out.mono ?_
    rintro e w5 ⟨rfl, ho5⟩
    have hcv := HCV.out l w5 (by omega) ho5
    have HP := Lib.hid (HPUT.out l w5 (by omega) ho5)
    clear ho5
    go_wp2_with fail
    refine HP.out.mono ?_
    rintro e w6 ⟨⟨b, rfl⟩, hst⟩
    have HST := Lib.hid hst
    have hw1 : IntKind.i64.wrap ((i : Int) + 1) = (i : Int) + 1 := by
     have := hi6'
     rw [IntKind.wrap_i64]; omega
    have hlt : L - ch * (i + 1) < gk := by
     have h1 := HGK.out
     have h2 := HLE.out
     rw [Nat.mul_succ]; omega
    clear hst hcv
    go_wp2_with fail
    ·go_roundg (L - ch * (i + 1))
     case measure => exact hlt
     case rel => exact ⟨i + 1, rfl, rfl, Lib.hid (HST.out _ (.inr ⟨by omega, by simp⟩))⟩
    ·go_roundg (L - ch * (i + 1))
     case measure => exact hlt
     case rel => exact ⟨i + 1, rfl, rfl, Lib.hid (HST.out _ (.inl (by simp)))⟩
end
end Go.Proofs.YtklfkocebhhgcaaGreat
namespace Go.Proofs.YtklfkocebhhgcaaGreat
open Go.RowKit Go.Proofs Go.Shelf
set_option maxRecDepth 20000
attribute [local go_sem] Oper.semAt_some
section
variable {w w' : World} {l : Str}
def foldN (l : Str) : Nat := l.foldl (fun n b => n * 256 + b.toNat) 0
theorem foldN_snoc (l : Str) (b : UInt8) : foldN (l ++ [b]) = foldN l * 256 + b.toNat := by simp [foldN, List.foldl_append]
theorem foldN_take {k : Nat} {b : UInt8} (h : l[k]? = some b) : foldN (l.take (k + 1)) = foldN (l.take k) * 256 + b.toNat := by
 rw [List.take_add_one, h]
 exact foldN_snoc _ b
theorem foldN_lt (l : Str) : ∀ k, foldN (l.take k) < 256 ^ k
 | 0 => by simp [foldN]
 | k + 1 => by
  have h1 := foldN_lt l k
  cases hb : l[k]? with
  | none => 
   have : l.take (k + 1) = l.take k := by rw [List.take_add_one, hb]; simp
   rw [this, Nat.pow_succ]; omega
  | some b =>
   rw [foldN_take hb, Nat.pow_succ]
   have := b.toNat_lt
   omega
theorem or_step (n x : Nat) (hn : n < 1099511627776) (hx : x < 256) : bits BinOp.or IntKind.i64 (wrap64 ((n : Int) * 256)) (x : Int) = ((n * 256 + x : Nat) : Int) := by
 have e1 : wrap64 ((n : Int) * 256) = ((n * 256 : Nat) : Int) := by unfold wrap64; omega
 rw [e1, i64_or_nat _ _ (by omega) (by omega), nat_join 8 (n * 256) x (by omega) (by omega)]
theorem str_bytes (w : World) (d : Str) : ∃ cp W3, (convert 9 103 (.string ⟨d.toArray⟩)).run Tryz.prog w = .ok (.slice (some ⟨w.heap.size, 0, none⟩) d.length cp) W3 ∧ Bytes W3 (fun k => k = w.heap.size) (.slice (some ⟨w.heap.size, 0, none⟩) d.length cp) d ∧ Only NoB w W3 := by
 have hr : (ByteArray.mk d.toArray).size = d.length := by show d.toArray.size = d.length; simp
 have hcv := Lib.run_convert_string_bytes (P := Tryz.prog) w 9 103 5 ⟨d.toArray⟩ (u := .string) (by kernel_rfl) (by kernel_rfl) (by kernel_rfl)
 rw [hr] at hcv
 refine ⟨_, _, hcv, ⟨_, _, rfl, le_grownCap _ _ _ _, by simp, fun _ => ⟨_, rfl, rfl, fun j u hu => ?_⟩⟩, bytesWorld_only _ _ _⟩
 have hj : j < d.length := by have := (List.getElem?_eq_some_iff.1 hu).1; simpa using this
 rw [Addr.add_lit, Nat.zero_add, Lib.bytesWorld_cell _ _ _ _ (by show j < d.toArray.size; simpa using hj)]
 rw [List.getElem?_map, List.getElem?_eq_getElem hj] at hu
 have hu : byteV d[j] = u := by simpa using hu
 rw [← hu]
 simp [byteV, List.getElem?_eq_getElem hj]
end
end Go.Proofs.YtklfkocebhhgcaaGreat
namespace Go.Proofs.YtklfkocebhhgcaaGreat
open Go.RowKit Go.Proofs Go.Shelf
set_option maxRecDepth 20000
attribute [local go_sem] Oper.semAt_some
section
variable {w w' : World}
theorem ext_str (d : Str) (a b : Nat) : (ByteArray.mk d.toArray).extract a b = ⟨((d.drop a).take (b - a)).toArray⟩ := by
 apply ByteArray.ext
 rw [ByteArray.data_extract]
 simp
theorem foldN_be3 {n : Int} (h0 : 0 ≤ n) (h1 : n ≤ 16777215) : (foldN (be3i n) : Int) = n := by
 obtain ⟨k, rfl⟩ := Int.eq_ofNat_of_zero_le h0
 rw [be3i_nat (by omega)]
 simp only [foldN, be3, List.foldl_cons, List.foldl_nil, UInt8.toNat_ofNat']
 omega
theorem entOk_num {n : Int} {A : Str} (h : entOk n A = true) : 1 ≤ n ∧ n ≤ 16777215 := by
 unfold entOk numIn at h
 simp only [Bool.and_eq_true, decide_eq_true_iff] at h
 exact h.1
end
end Go.Proofs.YtklfkocebhhgcaaGreat
namespace Go.Proofs.YtklfkocebhhgcaaGreat
open Go.RowKit Go.Proofs Go.Shelf
set_option maxRecDepth 20000
def ikey (n : Int) : Str := (105 : UInt8) :: be3i n
structure Ino where
 kind : Nat
 ex : Bool
 links : Nat
 size : Nat
 data : Str
def Ino.zero : Ino := ⟨0, false, 0, 0, []⟩
def Ino.Ok (i : Ino) : Prop := (1 ≤ i.links ∧ i.links ≤ 65535) ∧ ((i.kind = 1 ∧ i.size ≤ 65536 ∧ i.data = []) ∨ (i.kind = 2 ∧ i.ex = false ∧ i.size = 0 ∧ i.data = []) ∨ (i.kind = 3 ∧ (1 ≤ i.data.length ∧ i.data.length ≤ 40) ∧ i.ex = false ∧ i.size = 0))
theorem Ino.Ok.kind_le {i : Ino} (h : i.Ok) : 1 ≤ i.kind ∧ i.kind ≤ 3 := by rcases h.2 with h | h | h <;> omega
theorem Ino.Ok.size_le {i : Ino} (h : i.Ok) : i.size ≤ 65536 := by rcases h.2 with h | h | h <;> omega
theorem Ino.Ok.data_le {i : Ino} (h : i.Ok) : i.data.length ≤ 40 := by
 rcases h.2 with h | h | h
 ·rw [h.2.2]; simp
 ·rw [h.2.2.2]; simp
 ·exact h.2.1.2
def Ino.cells (i : Ino) : Array Value := #[.int .i64 i.kind, .bool i.ex, .int .i64 i.links, .int .i64 i.size, .string ⟨i.data.toArray⟩]
def exB (b : Bool) : UInt8 := if b then 1 else 0
def ihead (i : Ino) : Str := [byteOf i.kind, exB i.ex, byteOf ((i.links : Int) / 256), byteOf i.links, byteOf ((i.size : Int) / 65536), byteOf ((i.size : Int) / 256), byteOf i.size]
def ibytes (i : Ino) : Str := ihead i ++ i.data
def parI (s : Str) : Ino := ⟨(s.headD 0).toNat, (s.drop 1).headD 0 == 1, foldN ((s.drop 2).take 2), foldN ((s.drop 4).take 3), s.drop 7⟩
theorem byteOf_nat (x : Int) : ((byteOf x).toNat : Int) = x % 256 := by
 unfold byteOf
 rw [UInt8.toNat_ofNat']
 omega
theorem parI_ibytes {i : Ino} (h : i.Ok) : parI (ibytes i) = i := by
 have h1 := h.kind_le
 have h2 := h.size_le
 have h3 := h.1
 obtain ⟨k, ex, l, s, d⟩ := i
 have a0 := byteOf_nat (k : Int)
 have a1 := byteOf_nat ((l : Int) / 256)
 have a2 := byteOf_nat (l : Int)
 have a3 := byteOf_nat ((s : Int) / 65536)
 have a4 := byteOf_nat ((s : Int) / 256)
 have a5 := byteOf_nat (s : Int)
 simp only at h1 h2 h3
 have e0 : (byteOf (k : Int)).toNat = k := by omega
 have e1 : foldN [byteOf ((l : Int) / 256), byteOf (l : Int)] = l := by
  simp only [foldN, List.foldl_cons, List.foldl_nil]; omega
 have e2 : foldN [byteOf ((s : Int) / 65536), byteOf ((s : Int) / 256), byteOf (s : Int)] = s := by
  simp only [foldN, List.foldl_cons, List.foldl_nil]; omega
 have e3 : (exB ex == 1) = ex := by cases ex <;> rfl
 show (⟨(byteOf (k : Int)).toNat, exB ex == 1, foldN [byteOf ((l : Int) / 256), byteOf (l : Int)], foldN [byteOf ((s : Int) / 65536), byteOf ((s : Int) / 256), byteOf (s : Int)], d⟩ : Ino) = _
 rw [e0, e1, e2, e3]
theorem ibytes_len (i : Ino) : (ibytes i).length = 7 + i.data.length := by simp [ibytes, ihead]; omega
theorem ihead_cells (i : Ino) : [Value.int .u8 ((i.kind : Int) % 256), .int .u8 ((exB i.ex).toNat : Int), .int .u8 ((i.links : Int) / 256 % 256), .int .u8 ((i.links : Int) % 256), .int .u8 ((i.size : Int) / 65536 % 256), .int .u8 ((i.size : Int) / 256 % 256), .int .u8 ((i.size : Int) % 256)] = (ihead i).map fun b => Value.int .u8 b.toNat := by
 unfold ihead
 simp only [List.map_cons, List.map_nil, byteOf_val]
end Go.Proofs.YtklfkocebhhgcaaGreat
namespace Go.Proofs.YtklfkocebhhgcaaGreat
open Go.RowKit Go.Proofs Go.Shelf
set_option maxRecDepth 20000
attribute [local go_sem] Oper.semAt_some
section
variable {w w' : World}
def InoAns (n : Int) (w : World) (e : Ending) (w' : World) : Prop := e = .returned (.int .i64 (if numIn n 1 16777215 then 0 else 1)) ∧ Only NoB w w'
set_option maxHeartbeats 2000000 in
theorem check_ino (n : Int) (w : World) : Calls Tryz.prog 129 #[.agg (keyV 2 [] [] n 0)] w (InoAns n w) := by
 obtain ⟨W3, hW3, c0, c1, c2, ho3⟩ := check_blks w (keyV 2 [] [] n 0)
 have HO3 := Lib.hid ho3
 have HW3 := Lib.hid hW3
 have HC2 := Lib.hid (check2_any (l := 1) c2 c0 rfl c1)
 have C0 := Lib.hid c0
 clear c0 c1 c2 ho3 hW3
 unfold keyV at HW3 ⊢
 go_enter Tryz.func129, Tryz.ntmps129
 go_wp2_with fail
 rw [← HW3.out]
 refine HC2.out.mono ?_
 rintro e w5 ⟨⟨u, rfl⟩, d2, d1, ho5⟩
 have d0 := C0.out.only ho5 (by rintro (e | e) <;> omega)
 have x0 : w5.cell? ⟨w.heap.size + 1 + 1, 0, none⟩ = some (.bool (true && numIn n 1 16777215)) := d2.cell 0
 have y0 : w5.cell? ⟨w.heap.size, 0, none⟩ = some (.int .i64 2) := d0.cell 0
 have z0 : w5.cell? ⟨w.heap.size + 1, 0, none⟩ = some (.int .i64 2) := d1.cell 0
 have z1 : w5.cell? ⟨w.heap.size + 1, 1, none⟩ = some (.string ⟨#[]⟩) := d1.cell 1
 have z2 : w5.cell? ⟨w.heap.size + 1, 2, none⟩ = some (.string ⟨#[]⟩) := d1.cell 2
 have z3 : w5.cell? ⟨w.heap.size + 1, 3, none⟩ = some (.int .i64 0) := d1.cell 3
 have z4 : w5.cell? ⟨w.heap.size + 1, 4, none⟩ = some (.int .i64 0) := d1.cell 4
 have HO5 := Lib.hid (HO3.out.trans' ho5 fun k hk (e : k = w.heap.size + 1 + 1 ∨ k = w.heap.size + 1) => by omega)
 rw [Bool.true_and] at x0
 clear d0 d1 d2 ho5
 cases hb : numIn n 1 16777215 with
 | true =>
  rw [hb] at x0
  have HE : Hid (InoAns n w (.returned (.int .i64 0)) w5) := Lib.hid ⟨by rw [hb]; rfl, HO5.out⟩
  clear hb
  go_wp2_with fail
  go_ret
  exact HE.out
 | false =>
  rw [hb] at x0
  have HE : Hid (InoAns n w (.returned (.int .i64 1)) w5) := Lib.hid ⟨by rw [hb]; rfl, HO5.out⟩
  clear hb
  go_wp2_with fail
  go_ret
  exact HE.out
def CntAns (w : World) (e : Ending) (w' : World) : Prop := e = .returned (.int .i64 0) ∧ Only NoB w w'
theorem check_cnt (w : World) : Calls Tryz.prog 129 #[.agg (keyV 1 [] [] 0 0)] w (CntAns w) := by
 obtain ⟨W3, hW3, c0, c1, c2, ho3⟩ := check_blks w (keyV 1 [] [] 0 0)
 have HO3 := Lib.hid ho3
 have HW3 := Lib.hid hW3
 have x0 : W3.cell? ⟨w.heap.size + 1 + 1, 0, none⟩ = some (.bool true) := c2.cell 0
 have y0 : W3.cell? ⟨w.heap.size, 0, none⟩ = some (.int .i64 1) := c0.cell 0
 have z0 : W3.cell? ⟨w.heap.size + 1, 0, none⟩ = some (.int .i64 1) := c1.cell 0
 have z1 : W3.cell? ⟨w.heap.size + 1, 1, none⟩ = some (.string ⟨#[]⟩) := c1.cell 1
 have z2 : W3.cell? ⟨w.heap.size + 1, 2, none⟩ = some (.string ⟨#[]⟩) := c1.cell 2
 have z3 : W3.cell? ⟨w.heap.size + 1, 3, none⟩ = some (.int .i64 0) := c1.cell 3
 have z4 : W3.cell? ⟨w.heap.size + 1, 4, none⟩ = some (.int .i64 0) := c1.cell 4
 clear c0 c1 c2 ho3 hW3
 unfold keyV at HW3 ⊢
 go_enter Tryz.func129, Tryz.ntmps129
 go_wp2_with fail
 rw [← HW3.out]
 go_wp2_with fail
 go_ret
 exact ⟨rfl, HO3.out⟩
def IkOut (n : Int) (w : World) (e : Ending) (w' : World) : Prop := e = .returned (if numIn n 1 16777215 then .tuple #[.string ⟨(ikey n).toArray⟩, .int .i64 0] else .tuple #[.string ⟨#[]⟩, .int .i64 1]) ∧ Only NoB w w'
set_option maxHeartbeats 2000000 in
theorem bytes_ino (n : Int) (w : World) : Calls Tryz.prog 113 #[.agg (keyV 2 [] [] n 0)] w (IkOut n w) := by
 obtain ⟨W0, hW0⟩ : ∃ W0, W0 = w.alloc (.cells (keyV 2 [] [] n 0) 112) := ⟨_, rfl⟩
 have ho0 : Only NoB w W0 := by rw [hW0]; exact (Only.refl NoB w).alloc _
 have c0 : Blk W0 w.heap.size 112 (keyV 2 [] [] n 0) := by rw [hW0]; exact Blk.new w _ _
 have HC := Lib.hid (check_ino n W0)
 have HO0 := Lib.hid ho0
 have HC0 := Lib.hid c0
 have HW0 := Lib.hid hW0
 clear ho0 c0 hW0
 unfold keyV at HC HW0 ⊢
 cases hb : numIn n 1 16777215 with
 | false =>
  have HB := Lib.hid hb
  clear hb
  go_enter Tryz.func113, Tryz.ntmps113
  go_wp2_with fail
  rw [← HW0.out]
  refine HC.out.mono ?_
  rintro e w1 ⟨rfl, ho1⟩
  have HE : Hid (IkOut n w (.returned (.tuple #[.string ⟨#[]⟩, .int .i64 1])) w1) := Lib.hid ⟨by rw [HB.out]; rfl, HO0.out.trans ho1⟩
  have hbe := HB.out
  rw [hbe]
  clear ho1 hbe
  go_wp2_with fail
  go_ret2
  exact HE.out
 | true =>
  have HB := Lib.hid hb
  clear hb
  go_enter Tryz.func113, Tryz.ntmps113
  go_wp2_with fail
  rw [← HW0.out]
  refine HC.out.mono ?_
  rintro e w1 ⟨rfl, ho1⟩
  have c1 := HC0.out.only ho1 id
  have hbe := HB.out
  rw [hbe]
  have x0 : w1.cell? ⟨w.heap.size, 0, none⟩ = some (.int .i64 2) := c1.cell 0
  have x3 : w1.cell? ⟨w.heap.size, 3, none⟩ = some (.int .i64 n) := c1.cell 3
  have HO1 := Lib.hid (HO0.out.trans ho1)
  have HL := Lib.hid (letter_ok (w := w1) 2 (by omega) (by omega))
  have HN := Lib.hid (number_any (w := w1) n)
  have hb1 := bytes_text (letterOf 2) (be3i n)
  clear ho1 c1 HC hbe
  go_wp2_with fail
  refine HL.out.mono ?_
  rintro e w2 ⟨rfl, rfl⟩
  go_wp2_with fail
  refine HN.out.mono ?_
  rintro e w2 ⟨rfl, ho2⟩
  have HE : Hid (IkOut n w (.returned (.tuple #[.string ⟨(letterOf 2 ++ be3i n).toArray⟩, .int .i64 0])) w2) := Lib.hid ⟨by rw [HB.out]; rfl, HO1.out.trans ho2⟩
  clear ho2
  go_wp2_with fail
  go_ret2
  exact HE.out
def CkOut (w : World) (e : Ending) (w' : World) : Prop := e = .returned (.tuple #[.string ⟨#[110]⟩, .int .i64 0]) ∧ Only NoB w w'
set_option maxHeartbeats 2000000 in
theorem bytes_cnt (w : World) : Calls Tryz.prog 113 #[.agg (keyV 1 [] [] 0 0)] w (CkOut w) := by
 obtain ⟨W0, hW0⟩ : ∃ W0, W0 = w.alloc (.cells (keyV 1 [] [] 0 0) 112) := ⟨_, rfl⟩
 have ho0 : Only NoB w W0 := by rw [hW0]; exact (Only.refl NoB w).alloc _
 have c0 : Blk W0 w.heap.size 112 (keyV 1 [] [] 0 0) := by rw [hW0]; exact Blk.new w _ _
 have HC := Lib.hid (check_cnt W0)
 have HO0 := Lib.hid ho0
 have HC0 := Lib.hid c0
 have HW0 := Lib.hid hW0
 clear ho0 c0 hW0
 unfold keyV at HC HW0 ⊢
 go_enter Tryz.func113, Tryz.ntmps113
 go_wp2_with fail
 rw [← HW0.out]
 refine HC.out.mono ?_
 rintro e w1 ⟨rfl, ho1⟩
 have c1 := HC0.out.only ho1 id
 have x0 : w1.cell? ⟨w.heap.size, 0, none⟩ = some (.int .i64 1) := c1.cell 0
 have x1 : w1.cell? ⟨w.heap.size, 1, none⟩ = some (.string ⟨#[]⟩) := c1.cell 1
 have HO1 := Lib.hid (HO0.out.trans ho1)
 have HL := Lib.hid (letter_ok (w := w1) 1 (by omega) (by omega))
 clear ho1 c1 HC
 go_wp2_with fail
 refine HL.out.mono ?_
 rintro e w2 ⟨rfl, rfl⟩
 go_wp2_with fail
 go_ret2
 exact ⟨rfl, HO1.out⟩
end
end Go.Proofs.YtklfkocebhhgcaaGreat
namespace Go.Proofs.YtklfkocebhhgcaaGreat
open Go.RowKit Go.Proofs Go.Shelf
set_option maxRecDepth 20000
attribute [local go_sem] Oper.semAt_some
section
variable {w w' : World}
theorem Blk.five {o : Nat} {ty : TypeId} {a b c d e : Value} (h : Blk w o ty #[a, b, c, d, e]) : w.cell? ⟨o, 0, none⟩ = some a ∧ w.cell? ⟨o, 1, none⟩ = some b ∧ w.cell? ⟨o, 2, none⟩ = some c ∧ w.cell? ⟨o, 3, none⟩ = some d ∧ w.cell? ⟨o, 4, none⟩ = some e := ⟨h.cell 0, h.cell 1, h.cell 2, h.cell 3, h.cell 4⟩
theorem Blk.free5 {o : Nat} {ty : TypeId} {cs : Array Value} (h : Blk w o ty cs) : w.frozen? ⟨o, 0, none⟩ = false ∧ w.frozen? ⟨o, 1, none⟩ = false ∧ w.frozen? ⟨o, 2, none⟩ = false ∧ w.frozen? ⟨o, 3, none⟩ = false ∧ w.frozen? ⟨o, 4, none⟩ = false := ⟨h.frozen 0, h.frozen 1, h.frozen 2, h.frozen 3, h.frozen 4⟩
theorem row5_set {o : Nat} {ty : TypeId} {z0 z1 z2 z3 z4 : Value} (hB : Blk w o ty #[z0, z1, z2, z3, z4]) (a b c d e : Value) :
  Blk (((((w.setCell ⟨o, 0, none⟩ a).setCell ⟨o, 1, none⟩ b).setCell ⟨o, 2, none⟩ c).setCell ⟨o, 3, none⟩ d).setCell ⟨o, 4, none⟩ e) o ty #[a, b, c, d, e] ∧
  Only (fun k => k = o) w (((((w.setCell ⟨o, 0, none⟩ a).setCell ⟨o, 1, none⟩ b).setCell ⟨o, 2, none⟩ c).setCell ⟨o, 3, none⟩ d).setCell ⟨o, 4, none⟩ e) :=
 ⟨((((hB.set_ 0 a).set_ 1 b).set_ 2 c).set_ 3 d).set_ 4 e, (((((Only.refl (fun k => k = o) w).setCell (p := ⟨o, 0, none⟩) (.inl rfl) a).setCell (p := ⟨o, 1, none⟩) (.inl rfl) b).setCell (p := ⟨o, 2, none⟩) (.inl rfl) c).setCell (p := ⟨o, 3, none⟩) (.inl rfl) d).setCell (p := ⟨o, 4, none⟩) (.inl rfl) e⟩
theorem only_own {w0 : World} {o : Nat} (h : Only NoB w0 w) (h2 : Only (fun k => k = o) w w') (ho : w0.heap.size ≤ o) : Only NoB w0 w' := h.trans' h2 fun k hk (e : k = o) => by omega
set_option maxHeartbeats 4000000 in
theorem icheck_ok {i : Ino} (h : i.Ok) (w : World) : Calls Tryz.prog 149 #[.agg i.cells] w (CntAns w) := by
 obtain ⟨k, ex, l, s, d⟩ := i
 obtain ⟨⟨a1, a2⟩, hk⟩ := h
 unfold Ino.cells
 simp only at a1 a2 hk ⊢
 have l1 : (1 : Int) ≤ (l : Int) := by omega
 have l2 : (l : Int) ≤ 65535 := by omega
 clear a1 a2
 have HE : Hid (∀ w', Only NoB w w' → CntAns w (.returned (.int .i64 0)) w') := Lib.hid fun w' ho => ⟨rfl, ho⟩
 rcases hk with ⟨rfl, hs, rfl⟩ | ⟨rfl, rfl, rfl, rfl⟩ | ⟨rfl, ⟨hd1, hd2⟩, rfl, rfl⟩
 ·have s1 : (0 : Int) ≤ (s : Int) := by omega
  have s2 : (s : Int) ≤ 65536 := by omega
  clear hs
  go_enter Tryz.func149, Tryz.ntmps149
  go_wp2_with fail
  go_ret
  exact HE.out _ (((Only.refl NoB w).alloc _).alloc _)
 ·go_enter Tryz.func149, Tryz.ntmps149
  go_wp2_with fail
  go_ret
  exact HE.out _ (((Only.refl NoB w).alloc _).alloc _)
 ·have s1 : (1 : Int) ≤ (d.length : Int) := by omega
  have s2 : (d.length : Int) ≤ 40 := by omega
  obtain ⟨ld, hld⟩ : ∃ ld, ld = d.length := ⟨_, rfl⟩
  have hld' : d.length = ld := hld.symm
  rw [hld'] at s1 s2
  clear hd1 hd2 hld
  go_enter Tryz.func149, Tryz.ntmps149
  go_wp2_with fail
  go_ret
  exact HE.out _ (((Only.refl NoB w).alloc _).alloc _)
theorem inumber_ok (l : Str) (hl : l.length ≤ 5) (w : World) : Calls Tryz.prog 145 #[.string ⟨l.toArray⟩] w fun e w' => e = .returned (.int .i64 (foldN l)) ∧ Only NoB w w' := by
 obtain ⟨cp, W3, hcv, hby, ho⟩ := str_bytes w l
 have HBY := Lib.hid hby
 have HO := Lib.hid ho
 clear hby ho
 go_enter Tryz.func145, Tryz.ntmps145
 go_wp2_with fail
 go_loop [9, 3] (fun i n => ∃ k : Nat, k ≤ l.length ∧ i = .int .i64 k ∧ n = .int .i64 (foldN (l.take k))) (fun i _ => l.length - (intOf i).toNat)
 case atStart => exact ⟨0, Nat.zero_le _, rfl, rfl⟩
 case round =>
  obtain ⟨k, hk, rfl, rfl⟩ := hrel
  by_cases hlt : k < l.length
  ·obtain ⟨g, off, c', hve, _, _, hcell⟩ := Rd.open_ HBY.out (by omega)
   injection hve with q1 q2 q3
   injection q1 with q1
   injection q1 with q1 q4
   subst q1; subst q4
   obtain ⟨b, hb⟩ : ∃ b, l[k]? = some b := ⟨_, List.getElem?_eq_getElem hlt⟩
   have c1 := hcell k (.int .u8 b.toNat) (by rw [List.getElem?_map, hb]; rfl)
   rw [Nat.zero_add] at c1
   have hft := foldN_take hb
   have hfl := foldN_lt l k
   have h5 : 256 ^ k ≤ 256 ^ 4 := Nat.pow_le_pow_right (by omega) (by omega)
   have hbl := b.toNat_lt
   have hst := or_step (foldN (l.take k)) b.toNat (by omega) hbl
   obtain ⟨n, hn⟩ : ∃ n, n = foldN (l.take k) := ⟨_, rfl⟩
   rw [← hn] at hft hst ⊢
   have HFT := Lib.hid hft
   clear hcell hb hft hfl h5 hn q2 q3
   go_wp2_with fail
   exact ⟨⟨k + 1, by omega, by go_num, by rw [HFT.out]; push_cast; rfl⟩, by simp [intOf]; omega⟩
  ·obtain rfl : k = l.length := by omega
   rw [List.take_length]
   go_wp2_with fail
   go_ret
   exact ⟨rfl, HO.out⟩
def IbyOut (i : Ino) (w : World) (e : Ending) (w' : World) : Prop := e = .returned (.tuple #[.string ⟨(ibytes i).toArray⟩, .int .i64 0]) ∧ Only NoB w w'
set_option maxHeartbeats 2000000 in
theorem ibytes_ok {i : Ino} (h : i.Ok) (w : World) : Calls Tryz.prog 146 #[.agg i.cells] w (IbyOut i w) := by
 obtain ⟨W0, hW0⟩ : ∃ W0, W0 = w.alloc (.cells i.cells 74) := ⟨_, rfl⟩
 have HC := Lib.hid (icheck_ok h W0)
 have HB0 : Hid (Blk W0 w.heap.size 74 i.cells) := Lib.hid (by rw [hW0]; exact Blk.new w _ _)
 have HO0 : Hid (Only NoB w W0) := Lib.hid (by rw [hW0]; exact (Only.refl NoB w).alloc _)
 have HE0 : Hid (∀ w', Only NoB w w' → IbyOut i w (.returned (.tuple #[.string ⟨(ibytes i).toArray⟩, .int .i64 0])) w') := Lib.hid fun w' ho => ⟨rfl, ho⟩
 have hcv0 := fun w1 => conv_new (w := w1) (n := 7) (ihead_cells i) rfl
 have hbt := bytes_text (ihead i) i.data
 have hlen : (ihead i).length = 7 := rfl
 have hdl := h.data_le
 have HW0 := Lib.hid hW0
 unfold ibytes at HE0
 clear h hW0
 obtain ⟨k, ex, l, s, d⟩ := i
 obtain ⟨hd7, hhd⟩ : ∃ hd7, hd7 = ihead ⟨k, ex, l, s, d⟩ := ⟨_, rfl⟩
 rw [← hhd] at HE0 hcv0 hbt hlen
 unfold Ino.cells at HC HB0 HW0 ⊢
 simp only at HC HB0 HW0 hbt HE0 hcv0 hdl ⊢
 have hg1 : ¬ 9223372036854775807 < 7 + d.length := by omega
 clear hhd hdl
 cases ex with
 | false =>
  unfold exB at hcv0
  simp only [Bool.false_eq_true, if_false] at hcv0
  rw [show ((0 : UInt8).toNat : Int) = 0 from rfl] at hcv0
  go_enter Tryz.func146, Tryz.ntmps146
  go_wp2_with fail
  rw [← HW0.out]
  refine HC.out.mono ?_
  rintro e w1 ⟨rfl, ho1⟩
  obtain ⟨c0, c1, c2, c3, c4⟩ := (HB0.out.only ho1 id).five
  have c5 : (w1.alloc (.cells #[.int .u8 ((k : Int) % 256), .int .u8 0, .int .u8 ((l : Int) / 256 % 256), .int .u8 ((l : Int) % 256), .int .u8 ((s : Int) / 65536 % 256), .int .u8 ((s : Int) / 256 % 256), .int .u8 ((s : Int) % 256)] 5)).cell? ⟨w.heap.size, 4, none⟩ = some (.string ⟨d.toArray⟩) := ((HB0.out.only ho1 id).alloc _).cell 4
  have hcv := hcv0 w1
  have HO1 := Lib.hid (HO0.out.trans ho1)
  clear ho1 hcv0
  go_wp2_with fail
  go_ret2
  exact HE0.out _ (HO1.out.alloc _)
 | true =>
  unfold exB at hcv0
  simp only [if_true] at hcv0
  rw [show ((1 : UInt8).toNat : Int) = 1 from rfl] at hcv0
  go_enter Tryz.func146, Tryz.ntmps146
  go_wp2_with fail
  rw [← HW0.out]
  refine HC.out.mono ?_
  rintro e w1 ⟨rfl, ho1⟩
  obtain ⟨c0, c1, c2, c3, c4⟩ := (HB0.out.only ho1 id).five
  have c5 : (w1.alloc (.cells #[.int .u8 ((k : Int) % 256), .int .u8 1, .int .u8 ((l : Int) / 256 % 256), .int .u8 ((l : Int) % 256), .int .u8 ((s : Int) / 65536 % 256), .int .u8 ((s : Int) / 256 % 256), .int .u8 ((s : Int) % 256)] 5)).cell? ⟨w.heap.size, 4, none⟩ = some (.string ⟨d.toArray⟩) := ((HB0.out.only ho1 id).alloc _).cell 4
  have hcv := hcv0 w1
  have HO1 := Lib.hid (HO0.out.trans ho1)
  clear ho1 hcv0
  go_wp2_with fail
  go_ret2
  exact HE0.out _ (HO1.out.alloc _)
def IparOut (i : Ino) (w : World) (e : Ending) (w' : World) : Prop := e = .returned (.tuple #[.agg i.cells, .int .i64 0]) ∧ Only NoB w w'
set_option maxHeartbeats 8000000 in
theorem iparse_ok {i : Ino} (h : i.Ok) (w : World) : Calls Tryz.prog 80 #[.string ⟨(ibytes i).toArray⟩] w (IparOut i w) := by
 have HIB := Lib.hid fun z => ibytes_ok h z
 have hp := parI_ibytes h
 obtain ⟨s, hs⟩ : ∃ s, s = ibytes i := ⟨_, rfl⟩
 have hls2 := ibytes_len i
 have hdl := h.data_le
 have hN8 := fun z => inumber_ok ((s.drop 2).take 2) (by simp; omega) z
 have hN11 := fun z => inumber_ok ((s.drop 4).take 3) (by simp; omega) z
 have q2 : foldN ((s.drop 2).take 2) = i.links := by rw [hs]; exact congrArg Ino.links hp
 have q3 : foldN ((s.drop 4).take 3) = i.size := by rw [hs]; exact congrArg Ino.size hp
 rw [q2] at hN8
 rw [q3] at hN11
 have hk0 : (byteOf (i.kind : Int)).toNat = i.kind := by have := byteOf_nat (i.kind : Int); have := h.kind_le; omega
 have hx0 : ∀ hh, ((⟨s.toArray⟩ : ByteArray)[0]'hh).toNat = i.kind := fun hh => by rw [byte_at (s := s) (i := 0) (b := byteOf (i.kind : Int)) (by rw [hs]; rfl) hh]; exact hk0
 have hx1 : ∀ hh, ((⟨s.toArray⟩ : ByteArray)[1]'hh) = exB i.ex := byte_at (s := s) (i := 1) (b := exB i.ex) (by rw [hs]; rfl)
 obtain ⟨p2, hp2⟩ : ∃ p, p = (s.drop 2).take 2 := ⟨_, rfl⟩
 obtain ⟨p3, hp3⟩ : ∃ p, p = (s.drop 4).take 3 := ⟨_, rfl⟩
 rw [← hs] at hls2
 obtain ⟨ls, hls⟩ : ∃ ls, ls = s.length := ⟨_, rfl⟩
 have hls' : s.length = ls := hls.symm
 rw [hls'] at hls2
 have e2 : (⟨s.toArray⟩ : ByteArray).extract 2 4 = ⟨p2.toArray⟩ := by rw [ext_str, hp2]
 have e3 : (⟨s.toArray⟩ : ByteArray).extract 4 7 = ⟨p3.toArray⟩ := by rw [ext_str, hp3]
 have e4 : (⟨s.toArray⟩ : ByteArray).extract 7 ls = ⟨i.data.toArray⟩ := by rw [ext_str, hs, show (ibytes i).drop 7 = i.data from rfl, List.take_of_length_le (by omega)]
 rw [← hp2] at hN8
 rw [← hp3] at hN11
 unfold IbyOut at HIB
 rw [← hs] at HIB ⊢
 have hl7 : (7 : Int) ≤ ls := by omega
 have hl4 : (4 : Int) ≤ ls := by omega
 have hl1 : (1 : Int) < ls := by omega
 have hl0 : (0 : Int) < ls := by omega
 have hm7 : 7 ≤ ls := by omega
 have hm4 : 4 ≤ ls := by omega
 have hm1 : 1 < ls := by omega
 have hm0 : 0 < ls := by omega
 have HN8 := Lib.hid hN8
 have HN11 := Lib.hid hN11
 have HE : Hid (∀ w', Only NoB w w' → IparOut i w (.returned (.tuple #[.agg i.cells, .int .i64 0])) w') := Lib.hid fun w' ho => ⟨rfl, ho⟩
 obtain ⟨W0, hW0⟩ : ∃ W0, W0 = w.alloc (.cells #[.int .i64 0, .bool false, .int .i64 0, .int .i64 0, .string ⟨#[]⟩] 74) := ⟨_, rfl⟩
 have HB0 : Hid (Blk W0 w.heap.size 74 #[.int .i64 0, .bool false, .int .i64 0, .int .i64 0, .string ⟨#[]⟩]) := Lib.hid (by rw [hW0]; exact Blk.new w _ _)
 have HO0 : Hid (Only NoB w W0) := Lib.hid (by rw [hW0]; exact (Only.refl NoB w).alloc _)
 have HS0 : Hid (W0.heap.size = w.heap.size + 1) := Lib.hid (by rw [hW0]; simp)
 have HW0 := Lib.hid hW0
 have hwk : IntKind.i64.wrap (i.kind : Int) = (i.kind : Int) := by have := h.kind_le; rw [IntKind.wrap_i64]; omega
 clear h hp hs q2 q3 hk0 hN8 hN11 hp2 hp3 hls hdl hls2 hW0
 obtain ⟨k, ex, l, sz, d⟩ := i
 unfold Ino.cells at HE HIB
 simp only at HE HIB HN8 HN11 hx0 hx1 e4 hwk
 cases ex with
 | false =>
  replace hx1 : ∀ hh, ((⟨s.toArray⟩ : ByteArray)[1]'hh).toNat = 0 := fun hh => by rw [hx1 hh]; rfl
  go_enter Tryz.func80, Tryz.ntmps80
  go_upto_region 3 with fail
  rw [← HW0.out]
  refine hB _ 17 (fun _ => True) (trivial) (fun hHeld => ?_)
  obtain ⟨z0, hz0⟩ : ∃ z, z = W0.drew := ⟨_, rfl⟩
  rw [← hz0]
  have ha0 : Only NoB W0 z0 := by rw [hz0]; exact (Only.refl NoB W0).drew
  clear hz0
  refine hT 0 11 ?_
  refine hT 1 12 ?_
  refine hT 2 13 ?_
  refine hT 3 14 ?_
  refine hT 4 15 ?_
  refine hT 5 16 ?_
  refine hT 6 17 ?_
  refine hT 7 18 ?_
  refine hT 9 20 ?_
  refine hT 10 21 ?_
  refine hT 12 23 ?_
  refine hT 13 24 ?_
  refine hE2 8 15 (fun o ho K hK => ?_) (fun o ho K hK => ?_)
  ·cases ho
   go_simp
   refine (HN8.out z0).mono ?_
   rintro e z1 ⟨rfl, hq⟩
   have ha1 := ha0.trans hq
   clear hq
   refine hK.out _ _ (trivial) (fun hHeld => ?_)
   clear hK K
   try simp only [Act.put, List.setIfInBounds_toArray, List.set_cons_zero, List.set_cons_succ]
   refine hE2 11 15 (fun o ho K hK => ?_) (fun o ho K hK => ?_)
   ·cases ho
    go_simp
    refine (HN11.out z1).mono ?_
    rintro e z2 ⟨rfl, hq⟩
    have ha2 := ha1.trans hq
    clear hq
    refine hK.out _ _ (trivial) (fun hHeld => ?_)
    clear hK K
    try simp only [Act.put, List.setIfInBounds_toArray, List.set_cons_zero, List.set_cons_succ]
    refine hT 14 25 ?_
    refine hE 15 (fun o ho K hK => ?_)
    cases ho
    go_simp
    refine hK.out _ _ (trivial) (fun hHeld => ?_)
    clear hK K
    try dsimp only
    refine hE 16 (fun o ho K hK => ?_)
    cases ho
    go_simp
    refine hK.out _ _ (trivial) (fun hHeld => ?_)
    clear hK K
    try dsimp only
    refine wpAnyH_done (by kernel_rfl) ?_ _
    refine NoPanic.normal ?_
    obtain ⟨z4, hz4⟩ : ∃ z, z = z2.alloc (.cells #[.int .i64 k, .bool false, .int .i64 l, .int .i64 sz, .string ⟨d.toArray⟩] 74) := ⟨_, rfl⟩
    rw [← hz4]
    have hb4 : Blk z4 z2.heap.size 74 #[.int .i64 k, .bool false, .int .i64 l, .int .i64 sz, .string ⟨d.toArray⟩] := by rw [hz4]; exact Blk.new z2 _ _
    have ha4 : Only NoB W0 z4 := by rw [hz4]; exact ha2.alloc _
    clear hz4
    obtain ⟨c0, c1, c2, c3, c4⟩ := hb4.five
    have HA4 := Lib.hid ha4
    have HB4 := Lib.hid hb4
    have HBY := Lib.hid (HIB.out z4)
    clear hb4 ha4
    go_wp2_with fail
    refine HBY.out.mono ?_
    rintro e w5 ⟨rfl, ho5⟩
    obtain ⟨c0, c1, c2, c3, c4⟩ := (HB4.out.only ho5 id).five
    have hb5 := (HB0.out.only HA4.out id).only ho5 id
    obtain ⟨x0, x1, x2, x3, x4⟩ := hb5.five
    obtain ⟨y0, y1, y2, y3, y4⟩ := hb5.free5
    have HB5 := Lib.hid hb5
    have HO5 := Lib.hid ((HO0.out.trans HA4.out).trans ho5)
    clear hb5 ho5
    go_wp2_with fail
    (try simp only [Exit.inBlock, Exit.then])
    obtain ⟨hbf, hst⟩ := row5_set HB5.out (.int .i64 k) (.bool false) (.int .i64 l) (.int .i64 sz) (.string ⟨d.toArray⟩)
    refine bodyPost_ret (results_row_tmp rfl _ _ w.heap.size 74 _ rfl hbf (by kernel_rfl) (by kernel_rfl)) rfl ?_
    exact HE.out _ (only_own HO5.out hst (Nat.le_refl _))
   ·cases ho
    go_simp
    obtain ⟨z2, hz2⟩ : ∃ z, z = z1.alloc (.cells #[.int .i64 0, .bool false, .int .i64 0, .int .i64 0, .string ⟨#[]⟩] 74) := ⟨_, rfl⟩
    rw [← hz2]
    have ha2 : Only NoB W0 z2 := by rw [hz2]; exact ha1.alloc _
    have hb2 : Blk z2 z1.heap.size 74 #[.int .i64 0, .bool false, .int .i64 0, .int .i64 0, .string ⟨#[]⟩] := by rw [hz2]; exact Blk.new z1 _ _
    clear hz2
    refine hK.out _ _ (trivial) (fun hHeld => ?_)
    clear hK K
    try simp only [Act.put, List.setIfInBounds_toArray, List.set_cons_zero, List.set_cons_succ]
    refine hE 11 (fun o ho K hK => ?_)
    cases ho
    go_simp
    refine (HN11.out z2).mono ?_
    rintro e z3 ⟨rfl, hq⟩
    have ha3 := ha2.trans hq
    have hb3 := hb2.only hq id
    obtain ⟨x0, x1, x2, x3, x4⟩ := hb3.five
    obtain ⟨y0, y1, y2, y3, y4⟩ := hb3.free5
    clear hq
    refine hK.out _ _ (trivial) (fun hHeld => ?_)
    clear hK K
    try simp only [Act.put, List.setIfInBounds_toArray, List.set_cons_zero, List.set_cons_succ]
    refine hT 14 25 ?_
    refine hE 16 (fun o ho K hK => ?_)
    cases ho
    go_simp
    skip
    refine hK.out _ _ (trivial) (fun hHeld => ?_)
    clear hK K
    try simp only [Act.put, List.setIfInBounds_toArray, List.set_cons_zero, List.set_cons_succ]
    refine wpAnyH_done (by kernel_rfl) ?_ _
    refine NoPanic.normal ?_
    obtain ⟨hb4, hst⟩ := row5_set hb3 (.int .i64 k) (.bool false) (.int .i64 l) (.int .i64 sz) (.string ⟨d.toArray⟩)
    obtain ⟨z4, hz4⟩ : ∃ z, z = ((((z3.setCell ⟨z1.heap.size, 0, none⟩ (.int .i64 k)).setCell ⟨z1.heap.size, 1, none⟩ (.bool false)).setCell ⟨z1.heap.size, 2, none⟩ (.int .i64 l)).setCell ⟨z1.heap.size, 3, none⟩ (.int .i64 sz)).setCell ⟨z1.heap.size, 4, none⟩ (.string ⟨d.toArray⟩) := ⟨_, rfl⟩
    rw [← hz4] at hb4 hst ⊢
    have ha4 := only_own ha3 hst ha1.size
    clear hz4 hst hb3 x0 x1 x2 x3 x4 y0 y1 y2 y3 y4
    obtain ⟨c0, c1, c2, c3, c4⟩ := hb4.five
    have HA4 := Lib.hid ha4
    have HB4 := Lib.hid hb4
    have HBY := Lib.hid (HIB.out z4)
    clear hb4 ha4
    go_wp2_with fail
    refine HBY.out.mono ?_
    rintro e w5 ⟨rfl, ho5⟩
    obtain ⟨c0, c1, c2, c3, c4⟩ := (HB4.out.only ho5 id).five
    have hb5 := (HB0.out.only HA4.out id).only ho5 id
    obtain ⟨x0, x1, x2, x3, x4⟩ := hb5.five
    obtain ⟨y0, y1, y2, y3, y4⟩ := hb5.free5
    have HB5 := Lib.hid hb5
    have HO5 := Lib.hid ((HO0.out.trans HA4.out).trans ho5)
    clear hb5 ho5
    go_wp2_with fail
    (try simp only [Exit.inBlock, Exit.then])
    obtain ⟨hbf, hst⟩ := row5_set HB5.out (.int .i64 k) (.bool false) (.int .i64 l) (.int .i64 sz) (.string ⟨d.toArray⟩)
    refine bodyPost_ret (results_row_tmp rfl _ _ w.heap.size 74 _ rfl hbf (by kernel_rfl) (by kernel_rfl)) rfl ?_
    exact HE.out _ (only_own HO5.out hst (Nat.le_refl _))
  ·cases ho
   go_simp
   obtain ⟨z1, hz1⟩ : ∃ z, z = z0.alloc (.cells #[.int .i64 0, .bool false, .int .i64 0, .int .i64 0, .string ⟨#[]⟩] 74) := ⟨_, rfl⟩
   rw [← hz1]
   have ha1 : Only NoB W0 z1 := by rw [hz1]; exact ha0.alloc _
   have hb1 : Blk z1 z0.heap.size 74 #[.int .i64 0, .bool false, .int .i64 0, .int .i64 0, .string ⟨#[]⟩] := by rw [hz1]; exact Blk.new z0 _ _
   clear hz1
   refine hK.out _ _ (trivial) (fun hHeld => ?_)
   clear hK K
   try simp only [Act.put, List.setIfInBounds_toArray, List.set_cons_zero, List.set_cons_succ]
   refine hE 8 (fun o ho K hK => ?_)
   cases ho
   go_simp
   refine (HN8.out z1).mono ?_
   rintro e z2 ⟨rfl, hq⟩
   have ha2 := ha1.trans hq
   have hb2 := hb1.only hq id
   clear hq
   refine hK.out _ _ (trivial) (fun hHeld => ?_)
   clear hK K
   try simp only [Act.put, List.setIfInBounds_toArray, List.set_cons_zero, List.set_cons_succ]
   refine hE 11 (fun o ho K hK => ?_)
   cases ho
   go_simp
   refine (HN11.out z2).mono ?_
   rintro e z3 ⟨rfl, hq⟩
   have ha3 := ha2.trans hq
   have hb3 := hb2.only hq id
   obtain ⟨x0, x1, x2, x3, x4⟩ := hb3.five
   obtain ⟨y0, y1, y2, y3, y4⟩ := hb3.free5
   clear hq
   refine hK.out _ _ (trivial) (fun hHeld => ?_)
   clear hK K
   try simp only [Act.put, List.setIfInBounds_toArray, List.set_cons_zero, List.set_cons_succ]
   refine hT 14 25 ?_
   refine hE 16 (fun o ho K hK => ?_)
   cases ho
   go_simp
   skip
   refine hK.out _ _ (trivial) (fun hHeld => ?_)
   clear hK K
   try simp only [Act.put, List.setIfInBounds_toArray, List.set_cons_zero, List.set_cons_succ]
   refine wpAnyH_done (by kernel_rfl) ?_ _
   refine NoPanic.normal ?_
   obtain ⟨hb4, hst⟩ := row5_set hb3 (.int .i64 k) (.bool false) (.int .i64 l) (.int .i64 sz) (.string ⟨d.toArray⟩)
   obtain ⟨z4, hz4⟩ : ∃ z, z = ((((z3.setCell ⟨z0.heap.size, 0, none⟩ (.int .i64 k)).setCell ⟨z0.heap.size, 1, none⟩ (.bool false)).setCell ⟨z0.heap.size, 2, none⟩ (.int .i64 l)).setCell ⟨z0.heap.size, 3, none⟩ (.int .i64 sz)).setCell ⟨z0.heap.size, 4, none⟩ (.string ⟨d.toArray⟩) := ⟨_, rfl⟩
   rw [← hz4] at hb4 hst ⊢
   have ha4 := only_own ha3 hst ha0.size
   clear hz4 hst hb3 x0 x1 x2 x3 x4 y0 y1 y2 y3 y4
   obtain ⟨c0, c1, c2, c3, c4⟩ := hb4.five
   have HA4 := Lib.hid ha4
   have HB4 := Lib.hid hb4
   have HBY := Lib.hid (HIB.out z4)
   clear hb4 ha4
   go_wp2_with fail
   refine HBY.out.mono ?_
   rintro e w5 ⟨rfl, ho5⟩
   obtain ⟨c0, c1, c2, c3, c4⟩ := (HB4.out.only ho5 id).five
   have hb5 := (HB0.out.only HA4.out id).only ho5 id
   obtain ⟨x0, x1, x2, x3, x4⟩ := hb5.five
   obtain ⟨y0, y1, y2, y3, y4⟩ := hb5.free5
   have HB5 := Lib.hid hb5
   have HO5 := Lib.hid ((HO0.out.trans HA4.out).trans ho5)
   clear hb5 ho5
   go_wp2_with fail
   (try simp only [Exit.inBlock, Exit.then])
   obtain ⟨hbf, hst⟩ := row5_set HB5.out (.int .i64 k) (.bool false) (.int .i64 l) (.int .i64 sz) (.string ⟨d.toArray⟩)
   refine bodyPost_ret (results_row_tmp rfl _ _ w.heap.size 74 _ rfl hbf (by kernel_rfl) (by kernel_rfl)) rfl ?_
   exact HE.out _ (only_own HO5.out hst (Nat.le_refl _))
 | true =>
  replace hx1 : ∀ hh, ((⟨s.toArray⟩ : ByteArray)[1]'hh).toNat = 1 := fun hh => by rw [hx1 hh]; rfl
  go_enter Tryz.func80, Tryz.ntmps80
  go_upto_region 3 with fail
  rw [← HW0.out]
  refine hB _ 17 (fun _ => True) (trivial) (fun hHeld => ?_)
  obtain ⟨z0, hz0⟩ : ∃ z, z = W0.drew := ⟨_, rfl⟩
  rw [← hz0]
  have ha0 : Only NoB W0 z0 := by rw [hz0]; exact (Only.refl NoB W0).drew
  clear hz0
  refine hT 0 11 ?_
  refine hT 1 12 ?_
  refine hT 2 13 ?_
  refine hT 3 14 ?_
  refine hT 4 15 ?_
  refine hT 5 16 ?_
  refine hT 6 17 ?_
  refine hT 7 18 ?_
  refine hT 9 20 ?_
  refine hT 10 21 ?_
  refine hT 12 23 ?_
  refine hT 13 24 ?_
  refine hE2 8 15 (fun o ho K hK => ?_) (fun o ho K hK => ?_)
  ·cases ho
   go_simp
   refine (HN8.out z0).mono ?_
   rintro e z1 ⟨rfl, hq⟩
   have ha1 := ha0.trans hq
   clear hq
   refine hK.out _ _ (trivial) (fun hHeld => ?_)
   clear hK K
   try simp only [Act.put, List.setIfInBounds_toArray, List.set_cons_zero, List.set_cons_succ]
   refine hE2 11 15 (fun o ho K hK => ?_) (fun o ho K hK => ?_)
   ·cases ho
    go_simp
    refine (HN11.out z1).mono ?_
    rintro e z2 ⟨rfl, hq⟩
    have ha2 := ha1.trans hq
    clear hq
    refine hK.out _ _ (trivial) (fun hHeld => ?_)
    clear hK K
    try simp only [Act.put, List.setIfInBounds_toArray, List.set_cons_zero, List.set_cons_succ]
    refine hT 14 25 ?_
    refine hE 15 (fun o ho K hK => ?_)
    cases ho
    go_simp
    refine hK.out _ _ (trivial) (fun hHeld => ?_)
    clear hK K
    try dsimp only
    refine hE 16 (fun o ho K hK => ?_)
    cases ho
    go_simp
    refine hK.out _ _ (trivial) (fun hHeld => ?_)
    clear hK K
    try dsimp only
    refine wpAnyH_done (by kernel_rfl) ?_ _
    refine NoPanic.normal ?_
    obtain ⟨z4, hz4⟩ : ∃ z, z = z2.alloc (.cells #[.int .i64 k, .bool true, .int .i64 l, .int .i64 sz, .string ⟨d.toArray⟩] 74) := ⟨_, rfl⟩
    rw [← hz4]
    have hb4 : Blk z4 z2.heap.size 74 #[.int .i64 k, .bool true, .int .i64 l, .int .i64 sz, .string ⟨d.toArray⟩] := by rw [hz4]; exact Blk.new z2 _ _
    have ha4 : Only NoB W0 z4 := by rw [hz4]; exact ha2.alloc _
    clear hz4
    obtain ⟨c0, c1, c2, c3, c4⟩ := hb4.five
    have HA4 := Lib.hid ha4
    have HB4 := Lib.hid hb4
    have HBY := Lib.hid (HIB.out z4)
    clear hb4 ha4
    go_wp2_with fail
    refine HBY.out.mono ?_
    rintro e w5 ⟨rfl, ho5⟩
    obtain ⟨c0, c1, c2, c3, c4⟩ := (HB4.out.only ho5 id).five
    have hb5 := (HB0.out.only HA4.out id).only ho5 id
    obtain ⟨x0, x1, x2, x3, x4⟩ := hb5.five
    obtain ⟨y0, y1, y2, y3, y4⟩ := hb5.free5
    have HB5 := Lib.hid hb5
    have HO5 := Lib.hid ((HO0.out.trans HA4.out).trans ho5)
    clear hb5 ho5
    go_wp2_with fail
    (try simp only [Exit.inBlock, Exit.then])
    obtain ⟨hbf, hst⟩ := row5_set HB5.out (.int .i64 k) (.bool true) (.int .i64 l) (.int .i64 sz) (.string ⟨d.toArray⟩)
    refine bodyPost_ret (results_row_tmp rfl _ _ w.heap.size 74 _ rfl hbf (by kernel_rfl) (by kernel_rfl)) rfl ?_
    exact HE.out _ (only_own HO5.out hst (Nat.le_refl _))
   ·cases ho
    go_simp
    obtain ⟨z2, hz2⟩ : ∃ z, z = z1.alloc (.cells #[.int .i64 0, .bool false, .int .i64 0, .int .i64 0, .string ⟨#[]⟩] 74) := ⟨_, rfl⟩
    rw [← hz2]
    have ha2 : Only NoB W0 z2 := by rw [hz2]; exact ha1.alloc _
    have hb2 : Blk z2 z1.heap.size 74 #[.int .i64 0, .bool false, .int .i64 0, .int .i64 0, .string ⟨#[]⟩] := by rw [hz2]; exact Blk.new z1 _ _
    clear hz2
    refine hK.out _ _ (trivial) (fun hHeld => ?_)
    clear hK K
    try simp only [Act.put, List.setIfInBounds_toArray, List.set_cons_zero, List.set_cons_succ]
    refine hE 11 (fun o ho K hK => ?_)
    cases ho
    go_simp
    refine (HN11.out z2).mono ?_
    rintro e z3 ⟨rfl, hq⟩
    have ha3 := ha2.trans hq
    have hb3 := hb2.only hq id
    obtain ⟨x0, x1, x2, x3, x4⟩ := hb3.five
    obtain ⟨y0, y1, y2, y3, y4⟩ := hb3.free5
    clear hq
    refine hK.out _ _ (trivial) (fun hHeld => ?_)
    clear hK K
    try simp only [Act.put, List.setIfInBounds_toArray, List.set_cons_zero, List.set_cons_succ]
    refine hT 14 25 ?_
    refine hE 16 (fun o ho K hK => ?_)
    cases ho
    go_simp
    skip
    refine hK.out _ _ (trivial) (fun hHeld => ?_)
    clear hK K
    try simp only [Act.put, List.setIfInBounds_toArray, List.set_cons_zero, List.set_cons_succ]
    refine wpAnyH_done (by kernel_rfl) ?_ _
    refine NoPanic.normal ?_
    obtain ⟨hb4, hst⟩ := row5_set hb3 (.int .i64 k) (.bool true) (.int .i64 l) (.int .i64 sz) (.string ⟨d.toArray⟩)
    obtain ⟨z4, hz4⟩ : ∃ z, z = ((((z3.setCell ⟨z1.heap.size, 0, none⟩ (.int .i64 k)).setCell ⟨z1.heap.size, 1, none⟩ (.bool true)).setCell ⟨z1.heap.size, 2, none⟩ (.int .i64 l)).setCell ⟨z1.heap.size, 3, none⟩ (.int .i64 sz)).setCell ⟨z1.heap.size, 4, none⟩ (.string ⟨d.toArray⟩) := ⟨_, rfl⟩
    rw [← hz4] at hb4 hst ⊢
    have ha4 := only_own ha3 hst ha1.size
    clear hz4 hst hb3 x0 x1 x2 x3 x4 y0 y1 y2 y3 y4
    obtain ⟨c0, c1, c2, c3, c4⟩ := hb4.five
    have HA4 := Lib.hid ha4
    have HB4 := Lib.hid hb4
    have HBY := Lib.hid (HIB.out z4)
    clear hb4 ha4
    go_wp2_with fail
    refine HBY.out.mono ?_
    rintro e w5 ⟨rfl, ho5⟩
    obtain ⟨c0, c1, c2, c3, c4⟩ := (HB4.out.only ho5 id).five
    have hb5 := (HB0.out.only HA4.out id).only ho5 id
    obtain ⟨x0, x1, x2, x3, x4⟩ := hb5.five
    obtain ⟨y0, y1, y2, y3, y4⟩ := hb5.free5
    have HB5 := Lib.hid hb5
    have HO5 := Lib.hid ((HO0.out.trans HA4.out).trans ho5)
    clear hb5 ho5
    go_wp2_with fail
    (try simp only [Exit.inBlock, Exit.then])
    obtain ⟨hbf, hst⟩ := row5_set HB5.out (.int .i64 k) (.bool true) (.int .i64 l) (.int .i64 sz) (.string ⟨d.toArray⟩)
    refine bodyPost_ret (results_row_tmp rfl _ _ w.heap.size 74 _ rfl hbf (by kernel_rfl) (by kernel_rfl)) rfl ?_
    exact HE.out _ (only_own HO5.out hst (Nat.le_refl _))
  ·cases ho
   go_simp
   obtain ⟨z1, hz1⟩ : ∃ z, z = z0.alloc (.cells #[.int .i64 0, .bool false, .int .i64 0, .int .i64 0, .string ⟨#[]⟩] 74) := ⟨_, rfl⟩
   rw [← hz1]
   have ha1 : Only NoB W0 z1 := by rw [hz1]; exact ha0.alloc _
   have hb1 : Blk z1 z0.heap.size 74 #[.int .i64 0, .bool false, .int .i64 0, .int .i64 0, .string ⟨#[]⟩] := by rw [hz1]; exact Blk.new z0 _ _
   clear hz1
   refine hK.out _ _ (trivial) (fun hHeld => ?_)
   clear hK K
   try simp only [Act.put, List.setIfInBounds_toArray, List.set_cons_zero, List.set_cons_succ]
   refine hE 8 (fun o ho K hK => ?_)
   cases ho
   go_simp
   refine (HN8.out z1).mono ?_
   rintro e z2 ⟨rfl, hq⟩
   have ha2 := ha1.trans hq
   have hb2 := hb1.only hq id
   clear hq
   refine hK.out _ _ (trivial) (fun hHeld => ?_)
   clear hK K
   try simp only [Act.put, List.setIfInBounds_toArray, List.set_cons_zero, List.set_cons_succ]
   refine hE 11 (fun o ho K hK => ?_)
   cases ho
   go_simp
   refine (HN11.out z2).mono ?_
   rintro e z3 ⟨rfl, hq⟩
   have ha3 := ha2.trans hq
   have hb3 := hb2.only hq id
   obtain ⟨x0, x1, x2, x3, x4⟩ := hb3.five
   obtain ⟨y0, y1, y2, y3, y4⟩ := hb3.free5
   clear hq
   refine hK.out _ _ (trivial) (fun hHeld => ?_)
   clear hK K
   try simp only [Act.put, List.setIfInBounds_toArray, List.set_cons_zero, List.set_cons_succ]
   refine hT 14 25 ?_
   refine hE 16 (fun o ho K hK => ?_)
   cases ho
   go_simp
   skip
   refine hK.out _ _ (trivial) (fun hHeld => ?_)
   clear hK K
   try simp only [Act.put, List.setIfInBounds_toArray, List.set_cons_zero, List.set_cons_succ]
   refine wpAnyH_done (by kernel_rfl) ?_ _
   refine NoPanic.normal ?_
   obtain ⟨hb4, hst⟩ := row5_set hb3 (.int .i64 k) (.bool true) (.int .i64 l) (.int .i64 sz) (.string ⟨d.toArray⟩)
   obtain ⟨z4, hz4⟩ : ∃ z, z = ((((z3.setCell ⟨z0.heap.size, 0, none⟩ (.int .i64 k)).setCell ⟨z0.heap.size, 1, none⟩ (.bool true)).setCell ⟨z0.heap.size, 2, none⟩ (.int .i64 l)).setCell ⟨z0.heap.size, 3, none⟩ (.int .i64 sz)).setCell ⟨z0.heap.size, 4, none⟩ (.string ⟨d.toArray⟩) := ⟨_, rfl⟩
   rw [← hz4] at hb4 hst ⊢
   have ha4 := only_own ha3 hst ha0.size
   clear hz4 hst hb3 x0 x1 x2 x3 x4 y0 y1 y2 y3 y4
   obtain ⟨c0, c1, c2, c3, c4⟩ := hb4.five
   have HA4 := Lib.hid ha4
   have HB4 := Lib.hid hb4
   have HBY := Lib.hid (HIB.out z4)
   clear hb4 ha4
   go_wp2_with fail
   refine HBY.out.mono ?_
   rintro e w5 ⟨rfl, ho5⟩
   obtain ⟨c0, c1, c2, c3, c4⟩ := (HB4.out.only ho5 id).five
   have hb5 := (HB0.out.only HA4.out id).only ho5 id
   obtain ⟨x0, x1, x2, x3, x4⟩ := hb5.five
   obtain ⟨y0, y1, y2, y3, y4⟩ := hb5.free5
   have HB5 := Lib.hid hb5
   have HO5 := Lib.hid ((HO0.out.trans HA4.out).trans ho5)
   clear hb5 ho5
   go_wp2_with fail
   (try simp only [Exit.inBlock, Exit.then])
   obtain ⟨hbf, hst⟩ := row5_set HB5.out (.int .i64 k) (.bool true) (.int .i64 l) (.int .i64 sz) (.string ⟨d.toArray⟩)
   refine bodyPost_ret (results_row_tmp rfl _ _ w.heap.size 74 _ rfl hbf (by kernel_rfl) (by kernel_rfl)) rfl ?_
   exact HE.out _ (only_own HO5.out hst (Nat.le_refl _))
end
end Go.Proofs.YtklfkocebhhgcaaGreat
namespace Go.Proofs.YtklfkocebhhgcaaGreat
open Go.RowKit Go.Proofs Go.Shelf
set_option maxRecDepth 20000
attribute [local go_sem] Oper.semAt_some
section
variable {w w' : World}
def dirOk (n : Int) (A : Str) : Bool := entOk n A && (!decide (A = [46]) && !decide (A = [46, 46]))
def KeyOut (n : Int) (A : Str) (w : World) (e : Ending) (w' : World) : Prop := e = .returned (if dirOk n A then .tuple #[.string ⟨(ekey n A).toArray⟩, .int .i64 0] else .tuple #[.string ⟨#[]⟩, .int .i64 1]) ∧ Only NoB w w'
theorem str_ne {a b : Str} (h : a ≠ b) : (⟨a.toArray⟩ : ByteArray) ≠ ⟨b.toArray⟩ := by
 intro e
 injection e with e
 exact h (by simpa using congrArg Array.toList e)
set_option maxHeartbeats 1000000 in
theorem dkey_ok (n : Int) (A : Str) (w : World) : Calls Tryz.prog 52 #[.int .i64 n, .string ⟨A.toArray⟩] w (KeyOut n A w) := by
 by_cases h1 : A = [46]
 ·subst h1
  have hd : dirOk n [46] = false := by simp [dirOk]
  unfold KeyOut
  rw [hd]
  clear hd
  go_enter Tryz.func52, Tryz.ntmps52
  go_wp2_with fail
  go_ret2
  exact ⟨rfl, .refl _ _⟩
 ·by_cases h2 : A = [46, 46]
  ·subst h2
   have hd : dirOk n [46, 46] = false := by simp [dirOk]
   unfold KeyOut
   rw [hd]
   clear hd h1
   go_enter Tryz.func52, Tryz.ntmps52
   go_wp2_with fail
   go_ret2
   exact ⟨rfl, .refl _ _⟩
  ·have hd : dirOk n A = entOk n A := by simp [dirOk, h1, h2]
   have hq1 : (A == [46]) = false := by simpa using h1
   have hq2 : (A == [46, 46]) = false := by simpa using h2
   unfold KeyOut
   rw [hd]
   obtain ⟨a, b, hab⟩ : ∃ a b, (if entOk n A then Value.tuple #[.string ⟨(ekey n A).toArray⟩, .int .i64 0] else .tuple #[.string ⟨#[]⟩, .int .i64 1]) = .tuple #[a, b] := by split <;> exact ⟨_, _, rfl⟩
   have HBY := bytes_ent n A w
   unfold BytOut keyV at HBY
   rw [hab] at HBY ⊢
   have HBY := Lib.hid HBY
   clear hab hd
   go_enter Tryz.func52, Tryz.ntmps52
   go_wp2_with fail
   refine HBY.out.mono ?_
   rintro e w1 ⟨rfl, ho⟩
   have HO := Lib.hid ho
   clear ho
   go_wp2_with fail
   go_ret2
   exact ⟨rfl, HO.out⟩
def numV (l : Str) : Nat := if l.length = 3 then foldN l else 0
theorem dnum_any {F : Nat → Prop} {v : Value} (l : Str) (hB : Bytes w F v l) : Calls Tryz.prog 55 #[v] w fun e w' => e = .returned (.int .i64 (numV l)) ∧ w' = w := by
 obtain ⟨p, c, rfl, hc, _, _⟩ := id hB
 have HBY := Lib.hid hB
 clear hB
 by_cases h3 : l.length = 3
 ·have hv : numV l = foldN l := by rw [numV, if_pos h3]
  rw [hv]
  have hl3 : (l.length : Int) = 3 := by omega
  clear hv
  go_enter Tryz.func55, Tryz.ntmps55
  go_wp2_with fail
  go_loop [11, 3] (fun i n => ∃ k : Nat, k ≤ l.length ∧ i = .int .i64 k ∧ n = .int .i64 (foldN (l.take k))) (fun i _ => l.length - (intOf i).toNat)
  case atStart => exact ⟨0, Nat.zero_le _, rfl, rfl⟩
  case round =>
   obtain ⟨k, hk, rfl, rfl⟩ := hrel
   by_cases hlt : k < l.length
   ·obtain ⟨g, off, c', hve, _, _, hcell⟩ := Rd.open_ HBY.out (by omega)
    injection hve with q1 q2 q3
    subst q1
    obtain ⟨b, hb⟩ : ∃ b, l[k]? = some b := ⟨_, List.getElem?_eq_getElem hlt⟩
    have c1 := hcell k (.int .u8 b.toNat) (by rw [List.getElem?_map, hb]; rfl)
    have hft := foldN_take hb
    have hfl := foldN_lt l k
    have h5 : 256 ^ k ≤ 256 ^ 4 := Nat.pow_le_pow_right (by omega) (by omega)
    have hbl := b.toNat_lt
    have hst := or_step (foldN (l.take k)) b.toNat (by omega) hbl
    obtain ⟨n, hn⟩ : ∃ n, n = foldN (l.take k) := ⟨_, rfl⟩
    rw [← hn] at hft hst ⊢
    have HFT := Lib.hid hft
    have hk3 : (k : Int) < 3 := by omega
    clear hcell hb hft hfl h5 hn q2 q3
    go_wp2_with fail
    exact ⟨⟨k + 1, by omega, by go_num, by rw [HFT.out]; push_cast; rfl⟩, by simp [intOf]; omega⟩
   ·obtain rfl : k = l.length := by omega
    rw [List.take_length]
    go_wp2_with fail
    go_ret
    exact ⟨rfl, rfl⟩
 ·have hv : numV l = 0 := by rw [numV, if_neg h3]
  rw [hv]
  have hl3 : ¬ (l.length : Int) = 3 := by omega
  clear hv
  go_enter Tryz.func55, Tryz.ntmps55
  go_wp2_with fail
  go_ret
  exact ⟨rfl, rfl⟩
end
end Go.Proofs.YtklfkocebhhgcaaGreat
namespace Go.Proofs.YtklfkocebhhgcaaGreat
open Go.RowKit Go.Proofs Go.Shelf
set_option maxRecDepth 20000
attribute [local go_sem] Oper.semAt_some
section
variable {w w' : World} {F G : Nat → Prop} {X : XC} {t m np own c : Nat} {M : List KV} {key : Str}
theorem kv_get (h : KvAt w F X t m np own M c) :
  Calls Tryz.prog 46 #[.pointer (some ⟨t, 0, none⟩), .string ⟨key.toArray⟩] w (KvOut w F X t m np own (.tuple #[.string ⟨((get key M).getD []).toArray⟩, .bool (get key M).isSome, .int .i64 0]) M c) := by
 obtain ⟨D, ht, hb, rfl, rfl, rfl, hkl⟩ := h
 refine (get_ok ht hb.1.m1 hb.1.m2 hb).mono ?_
 rintro e w1 ⟨rfl, F', h1, h6, h7⟩
 exact ⟨rfl, F', ⟨D, h1.at_, hb, rfl, rfl, rfl, hkl⟩, h6, h7⟩
def findI (M : List KV) (n : Int) (A : Str) : Nat × Nat :=
 if dirOk n A then (match get (ekey n A) M with | none => (0, 5) | some v => if numV v = 0 then (0, 4) else (numV v, 0)) else (0, 1)
def findA (r : Nat × Nat) : Value := .tuple #[.int .i64 (r.1 : Nat), .int .i64 (r.2 : Nat)]
set_option maxHeartbeats 2000000 in
theorem find_ok (n : Int) (A : Str) (h : KvAt w F X t m np own M c) :
  Calls Tryz.prog 14 #[.pointer (some ⟨t, 0, none⟩), .int .i64 n, .string ⟨A.toArray⟩] w (KvOut w F X t m np own (findA (findI M n A)) M c) := by
 have HK := dkey_ok n A w
 unfold KeyOut at HK
 by_cases hd : dirOk n A = true
 ·rw [hd] at HK
  simp only [if_true] at HK
  have HK := Lib.hid HK
  obtain ⟨ek, hek⟩ : ∃ ek, ek = ekey n A := ⟨_, rfl⟩
  have HG0 : ∀ w1, Only NoB w w1 → Calls Tryz.prog 46 #[.pointer (some ⟨t, 0, none⟩), .string ⟨ek.toArray⟩] w1 (KvOut w1 F X t m np own (.tuple #[.string ⟨((get ek M).getD []).toArray⟩, .bool (get ek M).isSome, .int .i64 0]) M c) := fun w1 ho => kv_get (h.quit ho)
  have HGR : Hid (Grows F F w) := Lib.hid (Grows.refl F w)
  unfold findI
  rw [hd, ← hek]
  rw [← hek] at HK
  simp only [if_true]
  clear h hd hek
  cases hg : get ek M with
  | none =>
   simp only [hg, Option.getD_none, Option.isSome_none] at HG0
   have HG0 := Lib.hid HG0
   clear hg
   show Calls _ _ _ _ (KvOut w F X t m np own (.tuple #[.int .i64 (0 : Nat), .int .i64 (5 : Nat)]) M c)
   go_enter Tryz.func14, Tryz.ntmps14
   go_wp2_with fail
   refine HK.out.mono ?_
   rintro e w1 ⟨rfl, ho⟩
   have HG := Lib.hid (HG0.out w1 ho)
   have HO := Lib.hid ho
   clear ho
   go_wp2_with fail
   refine HG.out.mono ?_
   rintro e w2 ⟨rfl, hk⟩
   have HR : Hid (KvOut w F X t m np own (.tuple #[.int .i64 (0 : Nat), .int .i64 (5 : Nat)]) M c (.returned (.tuple #[.int .i64 (0 : Nat), .int .i64 (5 : Nat)])) w2) := Lib.hid (KvOut.trans (HO.out.mono fun _ _ h => h.elim) HGR.out ⟨rfl, hk⟩)
   clear hk
   go_wp2_with fail
   go_ret2
   exact HR.out
  | some v =>
   simp only [hg, Option.getD_some, Option.isSome_some] at HG0
   have HG0 := Lib.hid HG0
   clear hg
   obtain ⟨r, hr⟩ : ∃ r : Nat × Nat, r = (if numV v = 0 then ((0 : Nat), (4 : Nat)) else (numV v, 0)) := ⟨_, rfl⟩
   show Calls _ _ _ _ (KvOut w F X t m np own (findA (if numV v = 0 then ((0 : Nat), (4 : Nat)) else (numV v, 0))) M c)
   rw [← hr]
   have HR0 := Lib.hid hr
   clear hr
   go_enter Tryz.func14, Tryz.ntmps14
   go_wp2_with fail
   refine HK.out.mono ?_
   rintro e w1 ⟨rfl, ho⟩
   have HG := Lib.hid (HG0.out w1 ho)
   have HO := Lib.hid ho
   clear ho
   go_wp2_with fail
   refine HG.out.mono ?_
   rintro e w2 ⟨rfl, F2, hk, ho2, hg2⟩
   obtain ⟨cp, W3, hcv, hby, ho3⟩ := str_bytes w2 v
   have HN := Lib.hid (dnum_any v hby)
   have HR : Hid (KvOut w F X t m np own (findA r) M c (.returned (findA r)) W3) := Lib.hid (KvOut.trans (HO.out.mono fun _ _ h => h.elim) HGR.out ⟨rfl, F2, hk.quit ho3, ho2.trans (ho3.mono fun _ _ h => h.elim), hg2⟩)
   clear hk ho2 hg2 hby ho3
   unfold findA at HR
   by_cases hz : numV v = 0
   ·have hre := HR0.out
    rw [if_pos hz] at hre
    rw [hz] at HN
    subst hre
    clear hz HR0
    go_wp2_with fail
    refine HN.out.mono ?_
    rintro e w4 ⟨rfl, rfl⟩
    go_wp2_with fail
    go_ret2
    exact HR.out
   ·have hre := HR0.out
    rw [if_neg hz] at hre
    obtain ⟨q, hq⟩ : ∃ q, q = numV v := ⟨_, rfl⟩
    rw [← hq] at hz hre HN
    subst hre
    clear hq HR0
    have hz : ¬ (q : Int) = 0 := by omega
    go_wp2_with fail
    refine HN.out.mono ?_
    rintro e w4 ⟨rfl, rfl⟩
    go_wp2_with fail
    go_ret2
    exact HR.out
 ·have hd : dirOk n A = false := by simpa using hd
  rw [hd] at HK
  have hf : findI M n A = (0, 1) := by rw [findI, hd]; rfl
  rw [hf]
  have HK := Lib.hid HK
  have HH := Lib.hid h
  clear h hd hf
  show Calls _ _ _ _ (KvOut w F X t m np own (.tuple #[.int .i64 (0 : Nat), .int .i64 (1 : Nat)]) M c)
  go_enter Tryz.func14, Tryz.ntmps14
  go_wp2_with fail
  refine HK.out.mono ?_
  rintro e w1 ⟨rfl, ho⟩
  have HO := Lib.hid ho
  clear ho
  go_wp2_with fail
  go_ret2
  exact ⟨rfl, F, HH.out.quit HO.out, HO.out.mono fun _ _ h => h.elim, Grows.refl F w⟩
theorem preAnsD_ok {n : Int} (h : 1 ≤ n ∧ n ≤ 16777215) : preAnsD n = .tuple #[.string ⟨(dpre n).toArray⟩, .int .i64 0] := by rw [preAnsD, if_pos h]; rfl
theorem dpre_len (n : Int) : (dpre n).length = 4 := rfl
theorem dcount_ok {n : Int} (hn : 1 ≤ n ∧ n ≤ 16777215) (h : KvAt w F X t m np own M c) (hlen : (under (dpre n) M).length ≤ 1000000) :
  Calls Tryz.prog 19 #[.pointer (some ⟨t, 0, none⟩), .int .i64 n] w (KvOut w F X t m np own (.tuple #[.int .i64 ((under (dpre n) M).length : Nat), .int .i64 0]) M c) := by
 have HP := prefix_ent (w := w) n
 rw [preAnsD_ok hn] at HP
 have HP := Lib.hid HP
 have HC0 : Hid (∀ w1, Only NoB w w1 → Calls Tryz.prog 59 _ w1 _) := Lib.hid fun w1 ho => kv_count (h.quit ho) (pre := dpre n) (by rw [dpre_len]; omega) hlen
 obtain ⟨L, hL⟩ : ∃ L, L = (under (dpre n) M).length := ⟨_, rfl⟩
 rw [← hL] at HC0 ⊢
 clear h hlen hL
 go_enter Tryz.func19, Tryz.ntmps19
 go_wp2_with fail
 refine HP.out.mono ?_
 rintro e w1 ⟨rfl, ho⟩
 have HO := Lib.hid ho
 have HD := Lib.hid (HC0.out w1 ho)
 clear ho
 go_wp2_with fail
 refine HD.out.mono ?_
 rintro e w2 ⟨rfl, hk⟩
 have HK : Hid (KvOut w F X t m np own (.tuple #[.int .i64 (L : Nat), .int .i64 0]) M c (.returned (.tuple #[.int .i64 (L : Nat), .int .i64 0])) w2) := Lib.hid (KvOut.trans (HO.out.mono fun _ _ h => h.elim) (Grows.refl F w) ⟨rfl, hk⟩)
 clear hk
 go_wp2_with fail
 go_ret2
 exact HK.out
end
end Go.Proofs.YtklfkocebhhgcaaGreat
namespace Go.Proofs.YtklfkocebhhgcaaGreat
open Go.RowKit Go.Proofs Go.Shelf
set_option maxRecDepth 20000
attribute [local go_sem] Oper.semAt_some
section
variable {w w' : World} {F G : Nat → Prop} {X : XC} {t m np own c : Nat} {M : List KV} {key : Str}
def remM (M : List KV) (n : Int) (A : Str) : List KV := if (findI M n A).2 = 0 then del (ekey n A) M else M
theorem findI_ok {n : Int} {A : Str} (h : (findI M n A).2 = 0) : dirOk n A = true ∧ (get (ekey n A) M).isSome = true := by
 unfold findI at h
 split at h
 ·rename_i hd
  refine ⟨hd, ?_⟩
  split at h
  ·simp at h
  ·rename_i hv; rw [hv]; rfl
 ·simp at h
theorem findI_bad {n : Int} {A : Str} (h : (findI M n A).2 ≠ 0) : (findI M n A).1 = 0 := by
 unfold findI at h ⊢
 split
 ·rename_i hd
  rw [if_pos hd] at h
  split
  ·rfl
  ·rename_i hv
   rw [hv] at h
   simp only at h
   split
   ·rfl
   ·rename_i hz; rw [if_neg hz] at h; simp at h
 ·rfl
set_option maxHeartbeats 2000000 in
theorem remove_ok (n : Int) (A : Str) (h : KvAt w F X t m np own M c) :
  Calls Tryz.prog 16 #[.pointer (some ⟨t, 0, none⟩), .int .i64 n, .string ⟨A.toArray⟩] w (KvOut w F X t m np own (findA (findI M n A)) (remM M n A) c) := by
 have HF := Lib.hid (find_ok n A h)
 have HGR : Hid (Grows F F w) := Lib.hid (Grows.refl F w)
 by_cases hz : (findI M n A).2 = 0
 ·obtain ⟨hd, hg⟩ := findI_ok hz
  have hm : remM M n A = del (ekey n A) M := by rw [remM, if_pos hz]
  rw [hm]
  unfold findA at HF ⊢
  rw [hz] at HF ⊢
  obtain ⟨q, hq⟩ : ∃ q, q = (findI M n A).1 := ⟨_, rfl⟩
  rw [← hq] at HF ⊢
  have HK0 : Hid (∀ w1, Calls Tryz.prog 52 #[.int .i64 n, .string ⟨A.toArray⟩] w1 (KeyOut n A w1)) := Lib.hid fun w1 => dkey_ok n A w1
  unfold KeyOut at HK0
  rw [hd] at HK0
  simp only [if_true] at HK0
  obtain ⟨ek, hek⟩ : ∃ ek, ek = ekey n A := ⟨_, rfl⟩
  rw [← hek] at HK0 ⊢
  clear hd hg hm hz hq hek h
  go_enter Tryz.func16, Tryz.ntmps16
  go_wp2_with fail
  refine HF.out.mono ?_
  rintro e w1 ⟨rfl, F1, hk, ho, hgr⟩
  have H1 := Lib.hid hk
  have HO := Lib.hid ho
  have HG := Lib.hid hgr
  have HK := Lib.hid (HK0.out w1)
  clear hk ho hgr
  go_wp2_with fail
  refine HK.out.mono ?_
  rintro e w2 ⟨rfl, ho2⟩
  have HD := Lib.hid (kv_del (H1.out.quit ho2) (key := ek))
  have HO2 := Lib.hid (HO.out.trans (ho2.mono fun _ _ h => h.elim))
  have HG2 : Hid (Grows F F1 w) := HG
  clear ho2
  go_wp2_with fail
  refine HD.out.mono ?_
  rintro e w3 ⟨rfl, F3, hk, ho3, hg3⟩
  have HR : Hid (KvOut w F X t m np own (.tuple #[.int .i64 (q : Nat), .int .i64 (0 : Nat)]) (del ek M) c (.returned (.tuple #[.int .i64 (q : Nat), .int .i64 (0 : Nat)])) w3) := Lib.hid (KvOut.trans HO2.out HG2.out ⟨rfl, F3, hk, ho3, hg3⟩)
  clear hk ho3 hg3
  go_wp2_with fail
  go_ret2
  exact HR.out
 ·have hm : remM M n A = M := by rw [remM, if_neg hz]
  rw [hm]
  have h0 := findI_bad hz
  unfold findA at HF ⊢
  rw [h0] at HF ⊢
  obtain ⟨q, hq⟩ : ∃ q, q = (findI M n A).2 := ⟨_, rfl⟩
  rw [← hq] at HF hz ⊢
  have hz : ¬ (q : Int) = 0 := by omega
  clear hm h0 hq h
  go_enter Tryz.func16, Tryz.ntmps16
  go_wp2_with fail
  refine HF.out.mono ?_
  rintro e w1 ⟨rfl, hk⟩
  have HR : Hid (KvOut w F X t m np own (.tuple #[.int .i64 (0 : Nat), .int .i64 (q : Nat)]) M c (.returned (.tuple #[.int .i64 (0 : Nat), .int .i64 (q : Nat)])) w1) := Lib.hid ⟨rfl, hk⟩
  clear hk
  go_wp2_with fail
  go_ret2
  exact HR.out
def addE (M : List KV) (n : Int) (A : Str) (x : Int) : Nat :=
 if dirOk n A = true ∧ (1 ≤ x ∧ x ≤ 16777215) then (if (get (ekey n A) M).isSome then 151 else 0) else 1
def addM (M : List KV) (n : Int) (A : Str) (x : Int) : List KV := if addE M n A x = 0 then ins (ekey n A) (be3i x) M else M
theorem ekey_len (n : Int) (A : Str) : (ekey n A).length = 4 + A.length := by simp [ekey, be3i]; omega
theorem dirOk_ent {n : Int} {A : Str} (h : dirOk n A = true) : entOk n A = true := by
 unfold dirOk at h
 simp only [Bool.and_eq_true] at h
 exact h.1
set_option maxHeartbeats 2000000 in
theorem add_ok (n : Int) (A : Str) (x : Int) (h : KvAt w F X t m np own M c) (hm : 400 ≤ m) (hc : c + 1 ≤ np - (own + 1)) :
  Calls Tryz.prog 12 #[.pointer (some ⟨t, 0, none⟩), .int .i64 n, .string ⟨A.toArray⟩, .int .i64 x] w (KvOut w F X t m np own (.int .i64 (addE M n A x : Nat)) (addM M n A x) (c + 1)) := by
 have HGR : Hid (Grows F F w) := Lib.hid (Grows.refl F w)
 have HK := dkey_ok n A w
 unfold KeyOut at HK
 by_cases hd : dirOk n A = true
 ·by_cases hx : 1 ≤ x ∧ x ≤ 16777215
  ·have hae : addE M n A x = (if (get (ekey n A) M).isSome then 151 else 0) := by rw [addE, if_pos ⟨hd, hx⟩]
   have hlen := entOk_len (dirOk_ent hd)
   have hek1 := ekey_len n A
   rw [hd] at HK
   simp only [if_true] at HK
   have HK := Lib.hid HK
   obtain ⟨ek, hek⟩ : ∃ ek, ek = ekey n A := ⟨_, rfl⟩
   rw [← hek] at HK hae hek1
   have hmo : 80 ≤ NodeD.most m := by unfold NodeD.most; omega
   have HP : Hid (PairOk m (ek, be3i x)) := Lib.hid ⟨by show 1 ≤ ek.length; omega, by show ek.length ≤ 255; omega, by show 3 ≤ 255; omega, by show ek.length + 3 ≤ _; omega⟩
   have HEL : Hid (ek.length ≤ 1000) := Lib.hid (by omega)
   have HC := Lib.hid hc
   have HG0 : Hid (∀ w1, Only NoB w w1 → Calls Tryz.prog 46 #[.pointer (some ⟨t, 0, none⟩), .string ⟨ek.toArray⟩] w1 (KvOut w1 F X t m np own (.tuple #[.string ⟨((get ek M).getD []).toArray⟩, .bool (get ek M).isSome, .int .i64 0]) M c)) := Lib.hid fun w1 ho => kv_get (h.quit ho)
   obtain ⟨hx1, hx2⟩ := hx
   cases hg : (get ek M).isSome with
   | true =>
    rw [hg] at hae HG0
    simp only [if_true] at hae
    have hm2 : addM M n A x = M := by rw [addM, hae]; rfl
    rw [hae, hm2]
    clear h hd hlen hek hek1 hae hm2 hmo hg hm hc
    go_enter Tryz.func12, Tryz.ntmps12
    go_wp2_with fail
    refine HK.out.mono ?_
    rintro e w1 ⟨rfl, ho⟩
    have HG := Lib.hid (HG0.out w1 ho)
    have HO := Lib.hid ho
    clear ho
    go_wp2_with fail
    refine HG.out.mono ?_
    rintro e w2 ⟨rfl, F2, hk, ho2, hg2⟩
    have HR : Hid (KvOut w F X t m np own (.int .i64 (151 : Nat)) M (c + 1) (.returned (.int .i64 (151 : Nat))) w2) := Lib.hid (KvOut.trans (HO.out.mono fun _ _ h => h.elim) HGR.out ⟨rfl, F2, hk.mono (by omega), ho2, hg2⟩)
    clear hk ho2 hg2
    go_wp2_with fail
    go_ret
    exact HR.out
   | false =>
    rw [hg] at hae HG0
    simp only [Bool.false_eq_true, if_false] at hae
    have hm2 : addM M n A x = ins ek (be3i x) M := by rw [addM, hae, hek]; rfl
    rw [hae, hm2]
    have HGF := Lib.hid hg
    clear h hd hlen hek hek1 hae hm2 hmo hg hm hc
    go_enter Tryz.func12, Tryz.ntmps12
    go_wp2_with fail
    refine HK.out.mono ?_
    rintro e w1 ⟨rfl, ho⟩
    have HG := Lib.hid (HG0.out w1 ho)
    have HO := Lib.hid ho
    clear ho
    go_wp2_with fail
    refine HG.out.mono ?_
    rintro e w2 ⟨rfl, F2, hk, ho2, hg2⟩
    have HK2 := Lib.hid hk
    have HO2 := Lib.hid ho2
    have HG2 := Lib.hid hg2
    clear hk ho2 hg2
    have hbc := be3i_cells x
    rw [show x / 65536 % 256 = x / 65536 by omega] at hbc
    have hcv := conv_new (w := w2) (n := 3) hbc rfl
    obtain ⟨W3, hW3⟩ : ∃ W3, W3 = w2.alloc (.cells [Value.int .u8 (x / 65536), .int .u8 (x / 256 % 256), .int .u8 (x % 256)].toArray 5) := ⟨_, rfl⟩
    have ho3 : Only NoB w2 W3 := by rw [hW3]; exact (Only.refl NoB w2).alloc _
    have HB := Lib.hid (kv_put (HK2.out.quit ho3) HC.out HP.out HEL.out)
    have HO3 := Lib.hid (HO2.out.trans (ho3.mono fun _ _ h => h.elim))
    have HW3 := Lib.hid hW3
    clear hbc ho3 hW3
    go_wp2_with fail
    rw [show w2.alloc (.cells #[Value.int .u8 (x / 65536), .int .u8 (x / 256 % 256), .int .u8 (x % 256)] 5) = W3 from HW3.out.symm]
    refine HB.out.mono ?_
    rintro e w4 ⟨rfl, F4, hk, ho4, hg4⟩
    have HR : Hid (KvOut w F X t m np own (.int .i64 (0 : Nat)) (ins ek (be3i x) M) (c + 1) (.returned (.int .i64 (0 : Nat))) w4) := Lib.hid (KvOut.trans (HO.out.mono fun _ _ h => h.elim) HGR.out (KvOut.trans HO3.out HG2.out ⟨rfl, F4, hk, ho4, hg4⟩))
    clear hk ho4 hg4
    go_wp2_with fail
    go_ret
    exact HR.out
  ·have hae : addE M n A x = 1 := by rw [addE, if_neg fun h => hx h.2]
   have hm2 : addM M n A x = M := by rw [addM, hae]; rfl
   rw [hae, hm2]
   rw [hd] at HK
   simp only [if_true] at HK
   have HK := Lib.hid HK
   have HH := Lib.hid h
   have HX : ¬ (1 ≤ x) ∨ ¬ (x ≤ 16777215) := by omega
   obtain ⟨ek, hek⟩ : ∃ ek, ek = ekey n A := ⟨_, rfl⟩
   rw [← hek] at HK
   clear h hd hae hm2 hm hc hx hek
   rcases HX with hx | hx
   all_goals
    go_enter Tryz.func12, Tryz.ntmps12
    go_wp2_with fail
    refine HK.out.mono ?_
    rintro e w1 ⟨rfl, ho⟩
    have HO := Lib.hid ho
    clear ho
    go_wp2_with fail
    go_ret
    exact ⟨rfl, F, (HH.out.mono (by omega)).quit HO.out, HO.out.mono fun _ _ h => h.elim, HGR.out⟩
 ·have hae : addE M n A x = 1 := by rw [addE, if_neg fun h => hd h.1]
  have hm2 : addM M n A x = M := by rw [addM, hae]; rfl
  have hd : dirOk n A = false := by simpa using hd
  rw [hae, hm2]
  rw [hd] at HK
  have HK := Lib.hid HK
  have HH := Lib.hid h
  clear h hd hae hm2 hm hc
  go_enter Tryz.func12, Tryz.ntmps12
  go_wp2_with fail
  refine HK.out.mono ?_
  rintro e w1 ⟨rfl, ho⟩
  have HO := Lib.hid ho
  clear ho
  go_wp2_with fail
  go_ret
  exact ⟨rfl, F, (HH.out.mono (by omega)).quit HO.out, HO.out.mono fun _ _ h => h.elim, HGR.out⟩
end
end Go.Proofs.YtklfkocebhhgcaaGreat
namespace Go.Proofs.YtklfkocebhhgcaaGreat
open Go.RowKit Go.Proofs Go.Shelf
set_option maxRecDepth 20000
section
variable {A B M M' L : List KV} {p d : Str} {ch : Nat}
theorem srt_ext : ∀ {A B : List KV}, Srt A → Srt B → (∀ x, x ∈ A ↔ x ∈ B) → A = B
 | [], [], _, _, _ => rfl
 | [], b :: B, _, _, h => by have := (h b).2 List.mem_cons_self; cases this
 | a :: A, [], _, _, h => by have := (h a).1 List.mem_cons_self; cases this
 | a :: A, b :: B, ha, hb, h => by
  have ha2 := List.pairwise_cons.1 ha
  have hb2 := List.pairwise_cons.1 hb
  have hab : a = b := by
   rcases List.mem_cons.1 ((h a).1 List.mem_cons_self) with e | e
   ·exact e
   ·rcases List.mem_cons.1 ((h b).2 List.mem_cons_self) with e2 | e2
    ·exact e2.symm
    ·exact absurd (hb2.1 a e) (lts_asymm (ha2.1 b e2))
  subst hab
  congr 1
  refine srt_ext ha2.2 hb2.2 fun x => ⟨fun hx => ?_, fun hx => ?_⟩
  ·rcases List.mem_cons.1 ((h x).1 (List.mem_cons_of_mem _ hx)) with e | e
   ·exact absurd (ha2.1 x hx) (by rw [e]; exact lts_irrefl _)
   ·exact e
  ·rcases List.mem_cons.1 ((h x).2 (List.mem_cons_of_mem _ hx)) with e | e
   ·exact absurd (hb2.1 x hx) (by rw [e]; exact lts_irrefl _)
   ·exact e
def insAll (L M : List KV) : List KV := L.foldl (fun M x => ins x.1 x.2 M) M
theorem insAll_srt : ∀ {L M : List KV}, Srt M → Srt (insAll L M)
 | [], _, h => h
 | l :: L, M, h => insAll_srt (L := L) h.ins
theorem insAll_mem : ∀ {L M : List KV}, Srt M → Srt L → (∀ x ∈ L, ∀ y ∈ M, y.1 ≠ x.1) → ∀ x, x ∈ insAll L M ↔ x ∈ L ∨ x ∈ M
 | [], M, _, _, _, x => by simp [insAll]
 | l :: L, M, hM, hL, hd, x => by
  have hL2 := List.pairwise_cons.1 hL
  have ih := insAll_mem (L := L) (M := ins l.1 l.2 M) hM.ins hL2.2 (fun x hx y hy => by
   rcases mem_ins hy with e | e
   ·rw [e]; exact lts_ne (hL2.1 x hx)
   ·exact hd x (List.mem_cons_of_mem _ hx) y e.1) x
  show x ∈ insAll L (ins l.1 l.2 M) ↔ _
  rw [ih, List.mem_cons]
  constructor
  ·rintro (h | h)
   ·exact .inl (.inr h)
   ·rcases mem_ins h with e | e
    ·exact .inl (.inl e)
    ·exact .inr e.1
  ·rintro ((h | h) | h)
   ·rw [h]; exact .inr (mem_ins_self _ _ _)
   ·exact .inl h
   ·exact .inr (mem_ins_of h (hd l List.mem_cons_self x h))
def wrM (ch : Nat) (p d : Str) (M : List KV) : List KV := insAll (chunks ch p d) (rid p M)
theorem mem_under {x : KV} : x ∈ under p M ↔ x ∈ M ∧ hasP p x.1 = true := by unfold under; simp
theorem mem_rid {x : KV} : x ∈ rid p M ↔ x ∈ M ∧ hasP p x.1 = false := by unfold rid; simp
theorem wrM_of (hs : Srt M') (hu : under p M' = chunks ch p d) (hr : rid p M' = rid p M) : M' = wrM ch p d M := by
 have h1 : Srt (chunks ch p d) := by rw [← hu]; exact List.Pairwise.filter _ hs
 have h2 : Srt (rid p M) := by rw [← hr]; exact List.Pairwise.filter _ hs
 have hd : ∀ x ∈ chunks ch p d, ∀ y ∈ rid p M, y.1 ≠ x.1 := fun x hx y hy e => by
  rw [← hu] at hx
  have a := (mem_under.1 hx).2
  have b := (mem_rid.1 hy).2
  rw [e, a] at b
  cases b
 refine srt_ext hs (insAll_srt h2) fun x => ?_
 show x ∈ M' ↔ x ∈ insAll (chunks ch p d) (rid p M)
 rw [insAll_mem h2 h1 hd, ← hu, ← hr, mem_under, mem_rid]
 cases hasP p x.1 <;> simp
end
end Go.Proofs.YtklfkocebhhgcaaGreat
namespace Go.Proofs.YtklfkocebhhgcaaGreat
def parts : Str → List Str
 | [] => [[]]
 | b :: s => if b = 47 then [] :: parts s else match parts s with | p :: ps => (b :: p) :: ps | [] => [[b]]
def cutS : Str → Str × Str × Bool
 | [] => ([], [], false)
 | b :: s => if b = 47 then ([], s, true) else (b :: (cutS s).1, (cutS s).2.1, (cutS s).2.2)
def namesOf (s : Str) : List Str := if s = [] then [] else parts s
theorem parts_cut : ∀ s : Str, parts s = (cutS s).1 :: (if (cutS s).2.2 = true then parts (cutS s).2.1 else [])
 | [] => rfl
 | b :: s => by
  by_cases h : b = 47
  ·simp [parts, cutS, h]
  ·simp only [parts, cutS, if_neg h]
   rw [parts_cut s]
theorem parts_ne (s : Str) : parts s ≠ [] := by rw [parts_cut]; simp
theorem cutS_free : ∀ (a s : Str), (∀ b ∈ a, b ≠ 47) → cutS (a ++ s) = (a ++ (cutS s).1, (cutS s).2.1, (cutS s).2.2)
 | [], s, _ => rfl
 | b :: a, s, h => by
  have hb : b ≠ 47 := h b List.mem_cons_self
  rw [List.cons_append, cutS, if_neg hb, cutS_free a s fun c hc => h c (List.mem_cons_of_mem _ hc)]
  rfl
theorem cutS_len : ∀ s : Str, (cutS s).1.length ≤ s.length ∧ (cutS s).2.1.length ≤ s.length
 | [] => by simp [cutS]
 | b :: s => by
  have := cutS_len s
  unfold cutS
  split
  ·simp
  ·simp only [List.length_cons]; omega
theorem parts_len {s : Str} : (parts s).length ≤ s.length + 1 := by
 induction s with
 | nil => simp [parts]
 | cons b s ih =>
  unfold parts
  split
  ·simp only [List.length_cons]; omega
  ·split
   ·rename_i p ps h
    rw [h] at ih
    simp only [List.length_cons] at ih ⊢
    omega
   ·simp
theorem namesOf_len {s : Str} : (namesOf s).length ≤ s.length + 1 := by
 unfold namesOf
 split
 ·simp
 ·exact parts_len
def RestAt (s : Str) (k : Nat) (r : Str) : Prop := k ≤ (namesOf s).length ∧ (k < (namesOf s).length → (namesOf s).drop k = parts r)
theorem restAt_start (s : Str) : RestAt s 0 s := by
 refine ⟨Nat.zero_le _, fun h => ?_⟩
 unfold namesOf at h ⊢
 split
 ·rename_i e; rw [if_pos e] at h; simp at h
 ·rfl
theorem restAt_step {s r : Str} {k : Nat} (h : RestAt s k r) (hk : k < (namesOf s).length) :
  (namesOf s)[k]? = some (cutS r).1 ∧ (cutS r).2.2 = decide (k + 1 < (namesOf s).length) ∧ RestAt s (k + 1) (cutS r).2.1 := by
 have h2 := h.2 hk
 rw [parts_cut r] at h2
 have h0 : (namesOf s)[k]? = some (cutS r).1 := by
  have := congrArg (fun l => l[0]?) h2
  simpa using this
 have h1 : (namesOf s).drop (k + 1) = if (cutS r).2.2 = true then parts (cutS r).2.1 else [] := by
  have := congrArg List.tail h2
  simpa [List.tail_drop] using this
 have hl := congrArg List.length h1
 rw [List.length_drop] at hl
 cases ht : (cutS r).2.2 with
 | false =>
  rw [ht] at h1 hl
  simp at hl
  refine ⟨h0, ?_, by omega, fun hk2 => by omega⟩
  symm; simp; omega
 | true =>
  rw [ht] at h1 hl
  simp only [if_true] at h1 hl
  have hp : 0 < (parts (cutS r).2.1).length := List.length_pos_iff.2 (parts_ne _)
  refine ⟨h0, ?_, by omega, fun _ => h1⟩
  symm; simp; omega
structure ScanAt (s : Str) (i from_ : Nat) (out : List Str) : Prop where
 le : from_ ≤ i
 top : i ≤ s.length + 1
 free : ∀ b ∈ (s.drop from_).take (i - from_), b ≠ 47
 rest : parts s = out ++ (if from_ ≤ s.length then parts (s.drop from_) else [])
 fin : i = s.length + 1 → from_ = s.length + 1
theorem scan_start (s : Str) : ScanAt s 0 0 [] := ⟨Nat.le_refl _, Nat.zero_le _, by simp, by simp, fun h => by omega⟩
theorem scan_skip {s : Str} {i f : Nat} {out : List Str} (h : ScanAt s i f out) (hi : i < s.length) (hb : s[i] ≠ 47) : ScanAt s (i + 1) f out := by
 have hle := h.le
 refine ⟨by omega, by omega, fun b hbm => ?_, h.rest, fun h2 => by omega⟩
 rw [show i + 1 - f = (i - f) + 1 by omega, List.take_add_one, List.getElem?_drop] at hbm
 rcases List.mem_append.1 hbm with h2 | h2
 ·exact h.free b h2
 ·rw [show f + (i - f) = i by omega, List.getElem?_eq_getElem hi] at h2
  simp at h2
  rw [h2]; exact hb
theorem scan_cut {s : Str} {i f : Nat} {out : List Str} (h : ScanAt s i f out) (hi : i ≤ s.length) (hb : ∀ hl : i < s.length, s[i] = 47) : ScanAt s (i + 1) (i + 1) (out ++ [(s.drop f).take (i - f)]) ∧ (s.drop f).take (i - f) ∈ parts s := by
 have hle := h.le
 have hf : f ≤ s.length := by omega
 have hr := h.rest
 rw [if_pos hf] at hr
 obtain ⟨a, ha⟩ : ∃ a, a = (s.drop f).take (i - f) := ⟨_, rfl⟩
 have hfr := h.free
 rw [← ha] at hfr ⊢
 have hsp : s.drop f = a ++ s.drop i := by
  have := List.take_append_drop (i - f) (s.drop f)
  rw [List.drop_drop, show f + (i - f) = i by omega, ← ha] at this
  exact this.symm
 have hc := cutS_free a (s.drop i) hfr
 rw [← hsp] at hc
 have hp : parts (s.drop f) = a :: (if i + 1 ≤ s.length then parts (s.drop (i + 1)) else []) := by
  rw [parts_cut, hc]
  by_cases hl : i < s.length
  ·rw [List.drop_eq_getElem_cons hl, hb hl, if_pos (show i + 1 ≤ s.length by omega)]
   simp [cutS]
  ·have : s.drop i = [] := List.drop_of_length_le (by omega)
   rw [this, if_neg (show ¬ i + 1 ≤ s.length by omega)]
   simp [cutS]
 refine ⟨⟨Nat.le_refl _, by omega, by simp, ?_, fun h2 => h2⟩, ?_⟩
 ·rw [hr, hp]; simp
 ·rw [hr, hp]; simp
theorem scan_end {s : Str} {f : Nat} {out : List Str} (h : ScanAt s (s.length + 1) f out) : parts s = out := by
 have h1 := h.rest
 have h2 := h.fin rfl
 rw [if_neg (by omega)] at h1
 simpa using h1
end Go.Proofs.YtklfkocebhhgcaaGreat
namespace Go.Proofs.YtklfkocebhhgcaaGreat
open Go.RowKit Go.Proofs Go.Shelf
set_option maxRecDepth 20000
def nmOk (A : Str) : Bool := dirOk 1 A
def pathOk (s : Str) : Bool := decide (s.length ≤ 1000) && (namesOf s).all nmOk
def igetI (M : List KV) (n : Nat) : Ino × Nat :=
 if 1 ≤ n ∧ n ≤ 16777215 then (match get (ikey n) M with | none => (Ino.zero, 5) | some v => (parI v, 0)) else (Ino.zero, 5)
structure Spot where
 num : Nat
 ino : Ino
 err : Nat
def Spot.bad (e : Nat) : Spot := ⟨0, Ino.zero, e⟩
def atI (M : List KV) (n : Nat) : Spot := if (igetI M n).2 = 0 then ⟨n, (igetI M n).1, 0⟩ else Spot.bad (igetI M n).2
def stepF (M : List KV) (s : Spot) (A : Str) : Spot :=
 if s.err ≠ 0 then s else if s.ino.kind ≠ 2 then Spot.bad 150 else if (findI M s.num A).2 ≠ 0 then Spot.bad (findI M s.num A).2 else atI M (findI M s.num A).1
def findF (M : List KV) (l : List Str) : Spot := l.foldl (stepF M) (atI M 1)
def statF (M : List KV) (path : Str) : Spot := if pathOk path then findF M (namesOf path) else Spot.bad 1
structure Place where
 dir : Nat
 name : Str
 err : Nat
def Place.bad (e : Nat) : Place := ⟨0, [], e⟩
def lastOf (l : List Str) : Str := l.getLastD []
def placeAt (M : List KV) (s : Spot) (A : Str) : Place :=
 if s.err ≠ 0 then Place.bad s.err else if s.ino.kind ≠ 2 then Place.bad 150 else
 if (findI M s.num A).2 = 5 then ⟨s.num, A, 0⟩ else if (findI M s.num A).2 = 0 then Place.bad 151 else Place.bad (findI M s.num A).2
def placeF (M : List KV) (path : Str) : Place :=
 if pathOk path = true ∧ path ≠ [] then placeAt M (findF M (namesOf path).dropLast) (lastOf (namesOf path)) else Place.bad 1
def cntM (M : List KV) : Nat := match get [110] M with | none => 1 | some s => foldN s
def newM (M : List KV) (i : Ino) : List KV := ins (ikey (cntM M)) (ibytes i) (ins [110] (be3i ((cntM M : Nat) + 1 : Int)) M)
theorem namesOf_nil {s : Str} : namesOf s = [] ↔ s = [] := by
 unfold namesOf
 split
 ·rename_i h; simp [h]
 ·rename_i h; simp [h, parts_ne]
def inoDir : Ino := ⟨2, false, 1, 0, []⟩
def inoFile (ex : Bool) (size : Nat) : Ino := ⟨1, ex, 1, size, []⟩
def aboveF (M : List KV) (path : Str) : Place :=
 if pathOk path = true ∧ path ≠ [] then ⟨(findF M (namesOf path).dropLast).num, lastOf (namesOf path), (findF M (namesOf path).dropLast).err⟩ else Place.bad 1
end Go.Proofs.YtklfkocebhhgcaaGreat
namespace Go.Proofs.YtklfkocebhhgcaaGreat
open Go.RowKit Go.Proofs Go.Shelf
set_option maxRecDepth 20000
attribute [local go_sem] Oper.semAt_some
section
variable {w w' : World} {F G : Nat → Prop} {X : XC} {t m np own c : Nat} {M : List KV} {n : Nat}
theorem numIn_of {n : Nat} (h : 1 ≤ n ∧ n ≤ 16777215) : numIn (n : Int) 1 16777215 = true := by unfold numIn; simp; omega
theorem iwith_ok (hn : 1 ≤ n ∧ n ≤ 16777215) (none_ : Int) (kf : Nat) (caps : Array Value) (hcf : ∀ (args : Array Value) (w1 : World), (callFunc kf args).run Tryz.prog w1 = .ok (.enter kf args) w1) (Q : Ending → World → Prop)
  (hc : ∀ w1, Only NoB w w1 → Calls Tryz.prog kf (#[.string ⟨(ikey n).toArray⟩] ++ caps) w1 fun e w' => (∃ v : Int, e = .returned (.int .i64 v)) ∧ Q e w') :
  Calls Tryz.prog 147 #[.int .i64 n, .int .i64 none_, .func (.func kf) #[] caps] w Q := by
 have HK := bytes_ino n w
 unfold IkOut at HK
 rw [numIn_of hn] at HK
 simp only [if_true] at HK
 have HK := Lib.hid HK
 have HC := Lib.hid hc
 clear hc hn
 unfold keyV at HK
 go_enter Tryz.func147, Tryz.ntmps147
 go_wp2_with fail
 refine HK.out.mono ?_
 rintro e w1 ⟨rfl, ho⟩
 have HC1 := Lib.hid (HC.out w1 ho)
 clear ho
 go_wp2_with fail
 refine HC1.out.mono ?_
 rintro e w2 ⟨⟨v, rfl⟩, hq⟩
 have HQ := Lib.hid hq
 clear hq HC1
 go_wp2_with fail
 exact HQ.out
theorem iwith_bad (hn : ¬ (1 ≤ n ∧ n ≤ 16777215)) (none_ : Int) (f : Value) :
  Calls Tryz.prog 147 #[.int .i64 n, .int .i64 none_, f] w fun e w' => e = .returned (.int .i64 none_) ∧ Only NoB w w' := by
 have HK := bytes_ino n w
 unfold IkOut at HK
 rw [show numIn (n : Int) 1 16777215 = false by unfold numIn; simp; omega] at HK
 simp only [Bool.false_eq_true, if_false] at HK
 have HK := Lib.hid HK
 unfold keyV at HK
 clear hn
 go_enter Tryz.func147, Tryz.ntmps147
 go_wp2_with fail
 refine HK.out.mono ?_
 rintro e w1 ⟨rfl, ho⟩
 have HO := Lib.hid ho
 clear ho
 go_wp2_with fail
 go_ret
 exact ⟨rfl, HO.out⟩
theorem KvAt.cel (h : KvAt w F X t m np own M c) {b : Nat} (ho : Only (fun k => k = b) w w') (hb : ¬ F b) : KvAt w' F X t m np own M c := h.only ho fun k hk (e : k = b) => hb (e ▸ hk)
theorem Grows.not {F' : Nat → Prop} {b : Nat} (hg : Grows F F' w) (hb : ¬ F b) (hl : b < w.heap.size) : ¬ F' b := fun h => (hg b h).elim hb fun h2 => by omega
def IgOut (w : World) (F : Nat → Prop) (X : XC) (t m np own : Nat) (M : List KV) (c b : Nat) (v : Int) (i : Ino) (e : Ending) (w' : World) : Prop :=
 e = .returned (.int .i64 v) ∧ ∃ F', KvAt w' F' X t m np own M c ∧ Blk w' b 74 i.cells ∧ Only (fun k => F k ∨ k = b) w w' ∧ Grows F F' w
set_option maxHeartbeats 1000000 in
theorem iget1_some {i : Ino} {key : Str} {b2 b6 : Nat} (h : KvAt w F X t m np own M c) (hi : i.Ok) (hg : get key M = some (ibytes i)) (c2 : Blk w b2 24 #[.pointer (some ⟨t, 0, none⟩)]) (c6 : Blk w b6 74 Ino.zero.cells) (n6 : ¬ F b6) :
  Calls Tryz.prog 148 #[.string ⟨key.toArray⟩, .pointer (some ⟨b2, 0, none⟩), .pointer (some ⟨b6, 0, none⟩)] w (IgOut w F X t m np own M c b6 0 i) := by
 have HG0 := kv_get (key := key) h
 rw [hg] at HG0
 simp only [Option.getD_some, Option.isSome_some] at HG0
 have HG := Lib.hid HG0
 have x2 := c2.cell 0
 have C6 := Lib.hid c6
 have N6 := Lib.hid n6
 have HIP := Lib.hid fun z => iparse_ok hi z
 obtain ⟨s, hs⟩ : ∃ s, s = ibytes i := ⟨_, rfl⟩
 rw [← hs] at HG HIP
 clear h hg c2 c6 n6 HG0 hs hi
 go_enter Tryz.func148, Tryz.ntmps148
 go_wp2_with fail
 refine HG.out.mono ?_
 rintro e w1 ⟨rfl, F1, hk, ho, hgr⟩
 have d6 := C6.out.only ho N6.out
 have HP := Lib.hid (HIP.out w1)
 have HK := Lib.hid hk
 have HO := Lib.hid ho
 have HGR := Lib.hid hgr
 have D6 := Lib.hid d6
 have NF1 := Lib.hid (hgr.not N6.out C6.out.lt)
 clear hk ho hgr d6
 go_wp2_with fail
 refine HP.out.mono ?_
 rintro e w2 ⟨rfl, ho2⟩
 have e6 := D6.out.only ho2 id
 unfold Ino.zero Ino.cells at e6
 obtain ⟨z0, z1, z2, z3, z4⟩ := e6.five
 obtain ⟨y0, y1, y2, y3, y4⟩ := e6.free5
 have E6 := Lib.hid e6
 have HO2 := Lib.hid ho2
 clear e6 ho2
 unfold Ino.cells
 go_wp2_with fail
 obtain ⟨hbf, hst⟩ := row5_set E6.out (.int .i64 i.kind) (.bool i.ex) (.int .i64 i.links) (.int .i64 i.size) (.string ⟨i.data.toArray⟩)
 go_ret
 exact ⟨rfl, F1, (HK.out.quit HO2.out).cel hst NF1.out, hbf, ((HO.out.mono fun _ _ h => .inl h).trans (HO2.out.mono fun _ _ h => h.elim)).trans (hst.mono fun _ _ h => .inr h), HGR.out⟩
theorem iget1_none {key : Str} {b2 b6 : Nat} (h : KvAt w F X t m np own M c) (hg : get key M = none) (c2 : Blk w b2 24 #[.pointer (some ⟨t, 0, none⟩)]) (c6 : Blk w b6 74 Ino.zero.cells) (n6 : ¬ F b6) :
  Calls Tryz.prog 148 #[.string ⟨key.toArray⟩, .pointer (some ⟨b2, 0, none⟩), .pointer (some ⟨b6, 0, none⟩)] w (IgOut w F X t m np own M c b6 5 Ino.zero) := by
 have HG0 := kv_get (key := key) h
 rw [hg] at HG0
 simp only [Option.getD_none, Option.isSome_none] at HG0
 have HG := Lib.hid HG0
 have x2 := c2.cell 0
 have C6 := Lib.hid c6
 have N6 := Lib.hid n6
 clear h hg c2 c6 n6 HG0
 go_enter Tryz.func148, Tryz.ntmps148
 go_wp2_with fail
 refine HG.out.mono ?_
 rintro e w1 ⟨rfl, F1, hk, ho, hgr⟩
 have HE : Hid (IgOut w F X t m np own M c b6 5 Ino.zero (.returned (.int .i64 5)) w1) := Lib.hid ⟨rfl, F1, hk, C6.out.only ho N6.out, ho.mono fun _ _ h => .inl h, hgr⟩
 clear hk ho hgr
 go_wp2_with fail
 go_ret
 exact HE.out
def inoA (r : Ino × Nat) : Value := .tuple #[.agg r.1.cells, .int .i64 (r.2 : Nat)]
def InoM (M : List KV) : Prop := ∀ (n : Nat) (v : Str), 1 ≤ n ∧ n ≤ 16777215 → get (ikey n) M = some v → ∃ i : Ino, i.Ok ∧ v = ibytes i
set_option maxHeartbeats 1000000 in
theorem iget_ok (h : KvAt w F X t m np own M c) (hM : InoM M) (n : Nat) :
  Calls Tryz.prog 84 #[.pointer (some ⟨t, 0, none⟩), .int .i64 n] w (KvOut w F X t m np own (inoA (igetI M n)) M c) := by
 obtain ⟨W0, hW0⟩ : ∃ W0, W0 = allocs w [(#[.pointer (some ⟨t, 0, none⟩)], 24), (#[.int .i64 0, .bool false, .int .i64 0, .int .i64 0, .string ⟨#[]⟩], 74), (#[.int .i64 0, .bool false, .int .i64 0, .int .i64 0, .string ⟨#[]⟩], 74)] := ⟨_, rfl⟩
 have c0 : Blk W0 w.heap.size _ _ := blk_of hW0 0 rfl
 have c1 : Blk W0 (w.heap.size + 1) _ _ := blk_of hW0 1 rfl
 have c2 : Blk W0 (w.heap.size + 1 + 1) _ _ := blk_of hW0 2 rfl
 have ho0 : Only NoB w W0 := by rw [hW0]; exact allocs_only _ _
 have hlt := h.lt
 have hnF : ∀ b, w.heap.size ≤ b → ¬ F b := fun b hb hf => by have := hlt b hf; omega
 have hcf := enters_of Tryz.func148 (by kernel_rfl) rfl
 have hW : ∃ (v : Nat) (i : Ino), igetI M n = (i, v) ∧ Calls Tryz.prog 147 #[.int .i64 n, .int .i64 5, .func (.func 148) #[] #[.pointer (some ⟨w.heap.size, 0, none⟩), .pointer (some ⟨w.heap.size + 1 + 1, 0, none⟩)]] W0 (IgOut W0 F X t m np own M c (w.heap.size + 1 + 1) v i) := by
  by_cases hn : 1 ≤ n ∧ n ≤ 16777215
  ·cases hg : get (ikey n) M with
   | none =>
    refine ⟨5, Ino.zero, by rw [igetI, if_pos hn, hg], iwith_ok hn 5 _ _ hcf _ fun w1 ho => ?_⟩
    refine (iget1_none ((h.quit ho0).quit ho) hg (c0.only ho id) (c2.only ho id) (hnF _ (by omega))).mono ?_
    rintro e w' ⟨rfl, F', h1, h2, h3, h4⟩
    exact ⟨⟨5, rfl⟩, rfl, F', h1, h2, (ho.mono fun _ _ h => h.elim).trans h3, fun k hk => (h4 k hk).imp id fun h => Nat.le_trans ho.size h⟩
   | some v =>
    obtain ⟨i, hi, rfl⟩ := hM n v hn hg
    refine ⟨0, i, by rw [igetI, if_pos hn, hg]; show (parI (ibytes i), 0) = _; rw [parI_ibytes hi], iwith_ok hn 5 _ _ hcf _ fun w1 ho => ?_⟩
    refine (iget1_some ((h.quit ho0).quit ho) hi hg (c0.only ho id) (c2.only ho id) (hnF _ (by omega))).mono ?_
    rintro e w' ⟨rfl, F', h1, h2, h3, h4⟩
    exact ⟨⟨0, rfl⟩, rfl, F', h1, h2, (ho.mono fun _ _ h => h.elim).trans h3, fun k hk => (h4 k hk).imp id fun h => Nat.le_trans ho.size h⟩
  ·refine ⟨5, Ino.zero, by rw [igetI, if_neg hn], (iwith_bad hn 5 _).mono ?_⟩
   rintro e w' ⟨rfl, ho⟩
   exact ⟨rfl, F, (h.quit ho0).quit ho, c2.only ho id, ho.mono fun _ _ h => h.elim, Grows.refl F W0⟩
 obtain ⟨v, i, hvi, hw⟩ := hW
 rw [hvi]
 unfold inoA
 have HW := Lib.hid hw
 have C1 := Lib.hid c1
 have HO0 := Lib.hid ho0
 have HNF := Lib.hid hnF
 have HW0 := Lib.hid hW0
 unfold allocs at HW0
 simp only [List.foldl_cons, List.foldl_nil] at HW0
 clear h hM hcf hvi hw c0 c1 c2 ho0 hlt hnF hW0
 show Calls _ _ _ _ (KvOut w F X t m np own (.tuple #[.agg i.cells, .int .i64 (v : Nat)]) M c)
 go_enter Tryz.func84, Tryz.ntmps84
 go_wp2_with fail
 rw [← HW0.out]
 refine HW.out.mono ?_
 rintro e w2 ⟨rfl, F2, hk, d2, ho, hg⟩
 have d1 := C1.out.only ho (fun h => h.elim (HNF.out _ (by omega)) fun h => by omega)
 unfold Ino.cells at d2
 obtain ⟨x0, x1, x2, x3, x4⟩ := d2.five
 obtain ⟨z0, z1, z2, z3, z4⟩ := d1.five
 obtain ⟨y0, y1, y2, y3, y4⟩ := d1.free5
 have HK := Lib.hid hk
 have HO := Lib.hid ho
 have HG := Lib.hid hg
 have D1 := Lib.hid d1
 have NF2 := Lib.hid (hg.not (HNF.out (w.heap.size + 1) (by omega)) C1.out.lt)
 clear hk ho hg d1 d2
 go_wp2_with fail
 obtain ⟨hbf, hst⟩ := row5_set D1.out (.int .i64 i.kind) (.bool i.ex) (.int .i64 i.links) (.int .i64 i.size) (.string ⟨i.data.toArray⟩)
 refine bodyPost_ret (results_row_tmp rfl _ _ (w.heap.size + 1) 74 _ rfl hbf (by kernel_rfl) (by kernel_rfl)) rfl ?_
 refine ⟨rfl, F2, HK.out.cel hst NF2.out, ?_, fun k hk => (HG.out k hk).imp id fun h => Nat.le_trans HO0.out.size h⟩
 exact ((HO0.out.mono fun _ _ h => h.elim).trans' HO.out fun k hk h => h.elim id fun h => by omega).trans' hst fun k hk (e : k = w.heap.size + 1) => by omega
end
end Go.Proofs.YtklfkocebhhgcaaGreat
namespace Go.Proofs.YtklfkocebhhgcaaGreat
open Go.RowKit Go.Proofs Go.Shelf
set_option maxRecDepth 20000
attribute [local go_sem] Oper.semAt_some
section
variable {w w' : World} {F G : Nat → Prop} {X : XC} {t m np own c : Nat} {M : List KV} {n : Nat}
theorem iput1_ok {key s : Str} {b0 b2 : Nat} (h : KvAt w F X t m np own M c) (hc : c + 1 ≤ np - (own + 1)) (hp : PairOk m (key, s)) (hk : key.length ≤ 1000) (c0 : Blk w b0 24 #[.pointer (some ⟨t, 0, none⟩)]) (c2 : Blk w b2 9 #[.string ⟨s.toArray⟩]) :
  Calls Tryz.prog 151 #[.string ⟨key.toArray⟩, .pointer (some ⟨b0, 0, none⟩), .pointer (some ⟨b2, 0, none⟩)] w (KvOut w F X t m np own (.int .i64 0) (ins key s M) (c + 1)) := by
 have HP := Lib.hid (kv_put h hc hp hk)
 have x0 := c0.cell 0
 have x2 := c2.cell 0
 clear h hc hp hk c0 c2
 go_enter Tryz.func151, Tryz.ntmps151
 go_wp2_with fail
 refine HP.out.mono ?_
 rintro e w1 ⟨rfl, hk⟩
 have HK := Lib.hid hk
 clear hk
 go_wp2_with fail
 go_ret
 exact ⟨rfl, HK.out⟩
theorem ikey_len (n : Int) : (ikey n).length = 4 := rfl
theorem pair_ino {i : Ino} (h : i.Ok) (hm : 400 ≤ m) : PairOk m (ikey (n : Int), ibytes i) := by
 have h1 := ibytes_len i
 have h2 := h.data_le
 have hmo : 80 ≤ NodeD.most m := by unfold NodeD.most; omega
 exact ⟨by show 1 ≤ (ikey _).length; rw [ikey_len]; omega, by show (ikey _).length ≤ 255; rw [ikey_len]; omega, by show (ibytes i).length ≤ 255; omega, by show (ikey _).length + (ibytes i).length ≤ _; rw [ikey_len]; omega⟩
set_option maxHeartbeats 1000000 in
theorem iput_ok {i : Ino} (h : KvAt w F X t m np own M c) (hi : i.Ok) (hn : 1 ≤ n ∧ n ≤ 16777215) (hm : 400 ≤ m) (hc : c + 1 ≤ np - (own + 1)) :
  Calls Tryz.prog 90 #[.pointer (some ⟨t, 0, none⟩), .int .i64 n, .agg i.cells] w (KvOut w F X t m np own (.int .i64 0) (ins (ikey n) (ibytes i) M) (c + 1)) := by
 obtain ⟨W0, hW0⟩ : ∃ W0, W0 = allocs w [(#[.pointer (some ⟨t, 0, none⟩)], 24), (i.cells, 74)] := ⟨_, rfl⟩
 have c0 : Blk W0 w.heap.size _ _ := blk_of hW0 0 rfl
 have c1 : Blk W0 (w.heap.size + 1) _ _ := blk_of hW0 1 rfl
 have ho0 : Only NoB w W0 := by rw [hW0]; exact allocs_only _ _
 have hcf := enters_of Tryz.func151 (by kernel_rfl) rfl
 have HB0 := Lib.hid (ibytes_ok hi W0)
 have HWI : Hid (∀ (w2 : World) (b2 : Nat), Only NoB W0 w2 → Blk w2 b2 9 #[.string ⟨(ibytes i).toArray⟩] →
   Calls Tryz.prog 147 #[.int .i64 n, .int .i64 1, .func (.func 151) #[] #[.pointer (some ⟨w.heap.size, 0, none⟩), .pointer (some ⟨b2, 0, none⟩)]] w2 (KvOut w2 F X t m np own (.int .i64 0) (ins (ikey n) (ibytes i) M) (c + 1))) := Lib.hid fun w2 b2 ho hb =>
  iwith_ok hn 1 _ _ hcf _ fun w3 ho3 => (iput1_ok (((h.quit ho0).quit ho).quit ho3) hc (pair_ino hi hm) (by rw [ikey_len]; omega) ((c0.only ho id).only ho3 id) (hb.only ho3 id)).mono fun e w' hk => ⟨⟨0, hk.1⟩, hk.trans (ho3.mono fun _ _ h => h.elim) (Grows.refl F w2)⟩
 have HGR : Hid (Grows F F w) := Lib.hid (Grows.refl F w)
 have HO0 := Lib.hid ho0
 have HW0 := Lib.hid hW0
 obtain ⟨s, hs⟩ : ∃ s, s = ibytes i := ⟨_, rfl⟩
 unfold IbyOut at HB0
 rw [← hs] at HB0 HWI ⊢
 unfold allocs at HW0
 simp only [List.foldl_cons, List.foldl_nil] at HW0
 unfold Ino.cells at HB0 HW0 c1 ⊢
 obtain ⟨x0, x1, x2, x3, x4⟩ := c1.five
 clear h hi hn hm hc c0 c1 ho0 hcf hs hW0
 go_enter Tryz.func90, Tryz.ntmps90
 go_wp2_with fail
 rw [← HW0.out]
 refine HB0.out.mono ?_
 rintro e w1 ⟨rfl, ho1⟩
 have HW := Lib.hid (HWI.out (w1.alloc (.cells #[.string ⟨s.toArray⟩] 9)) w1.heap.size (ho1.alloc _) (Blk.new _ _ _))
 have HO1 := Lib.hid (HO0.out.trans (ho1.alloc (.cells #[.string ⟨s.toArray⟩] 9)))
 clear ho1
 go_wp2_with fail
 refine HW.out.mono ?_
 rintro e w2 ⟨rfl, hk⟩
 have HK : Hid (KvOut w F X t m np own (.int .i64 0) (ins (ikey n) s M) (c + 1) (.returned (.int .i64 0)) w2) := Lib.hid (KvOut.trans (HO1.out.mono fun _ _ h => h.elim) HGR.out ⟨rfl, hk⟩)
 clear hk
 go_wp2_with fail
 go_ret
 exact HK.out
theorem idrop1_ok {key : Str} {b0 : Nat} (h : KvAt w F X t m np own M c) (c0 : Blk w b0 24 #[.pointer (some ⟨t, 0, none⟩)]) :
  Calls Tryz.prog 154 #[.string ⟨key.toArray⟩, .pointer (some ⟨b0, 0, none⟩)] w (KvOut w F X t m np own (.int .i64 (if (get key M).isSome then 0 else 5)) (del key M) c) := by
 have HD0 := kv_del (key := key) h
 have x0 := c0.cell 0
 obtain ⟨b, hb⟩ : ∃ b, b = (get key M).isSome := ⟨_, rfl⟩
 rw [← hb] at HD0 ⊢
 have HD := Lib.hid HD0
 clear h c0 hb HD0
 cases b with
 | false =>
  go_enter Tryz.func154, Tryz.ntmps154
  go_wp2_with fail
  refine HD.out.mono ?_
  rintro e w1 ⟨rfl, hk⟩
  have HK := Lib.hid hk
  clear hk
  go_wp2_with fail
  go_ret
  exact ⟨rfl, HK.out⟩
 | true =>
  go_enter Tryz.func154, Tryz.ntmps154
  go_wp2_with fail
  refine HD.out.mono ?_
  rintro e w1 ⟨rfl, hk⟩
  have HK := Lib.hid hk
  clear hk
  go_wp2_with fail
  go_ret
  exact ⟨rfl, HK.out⟩
theorem idrop_ok (h : KvAt w F X t m np own M c) (hn : 1 ≤ n ∧ n ≤ 16777215) :
  Calls Tryz.prog 92 #[.pointer (some ⟨t, 0, none⟩), .int .i64 n] w (KvOut w F X t m np own (.int .i64 (if (get (ikey n) M).isSome then 0 else 5)) (del (ikey n) M) c) := by
 obtain ⟨W0, hW0⟩ : ∃ W0, W0 = w.alloc (.cells #[.pointer (some ⟨t, 0, none⟩)] 24) := ⟨_, rfl⟩
 have c0 : Blk W0 w.heap.size 24 #[.pointer (some ⟨t, 0, none⟩)] := by rw [hW0]; exact Blk.new w _ _
 have ho0 : Only NoB w W0 := by rw [hW0]; exact (Only.refl NoB w).alloc _
 have hcf := enters_of Tryz.func154 (by kernel_rfl) rfl
 have HW : Hid (Calls Tryz.prog 147 #[.int .i64 n, .int .i64 5, .func (.func 154) #[] #[.pointer (some ⟨w.heap.size, 0, none⟩)]] W0 (KvOut w F X t m np own (.int .i64 (if (get (ikey n) M).isSome then 0 else 5)) (del (ikey n) M) c)) := Lib.hid
  (iwith_ok hn 5 _ _ hcf _ fun w3 ho3 => (idrop1_ok ((h.quit ho0).quit ho3) (c0.only ho3 id)).mono fun e w' hk => ⟨⟨_, hk.1⟩, hk.trans ((ho0.trans ho3).mono fun _ _ h => h.elim) (Grows.refl F w)⟩)
 have HW0 := Lib.hid hW0
 obtain ⟨v, hv⟩ : ∃ v : Int, v = (if (get (ikey n) M).isSome then 0 else 5) := ⟨_, rfl⟩
 rw [← hv] at HW ⊢
 clear h hn c0 ho0 hcf hW0 hv
 go_enter Tryz.func92, Tryz.ntmps92
 go_wp2_with fail
 rw [← HW0.out]
 refine HW.out.mono ?_
 rintro e w2 ⟨rfl, hk⟩
 have HK := Lib.hid hk
 clear hk
 go_wp2_with fail
 go_ret
 exact ⟨rfl, HK.out⟩
set_option maxHeartbeats 2000000 in
theorem inew_ok {i : Ino} (h : KvAt w F X t m np own M c) (hi : i.Ok) (hl : ∀ s, get [110] M = some s → s.length ≤ 5) (hn : 1 ≤ cntM M ∧ cntM M ≤ 16777215) (hm : 400 ≤ m) (hc : c + 2 ≤ np - (own + 1)) :
  Calls Tryz.prog 85 #[.pointer (some ⟨t, 0, none⟩), .agg i.cells] w (KvOut w F X t m np own (.tuple #[.int .i64 (cntM M : Nat), .int .i64 0]) (newM M i) (c + 2)) := by
 obtain ⟨W0, hW0⟩ : ∃ W0, W0 = w.alloc (.cells i.cells 74) := ⟨_, rfl⟩
 have c0 : Blk W0 w.heap.size 74 i.cells := by rw [hW0]; exact Blk.new w _ _
 have ho0 : Only NoB w W0 := by rw [hW0]; exact (Only.refl NoB w).alloc _
 have HC := Lib.hid (icheck_ok hi W0)
 have HBK := Lib.hid fun z => bytes_cnt z
 have hmo : 80 ≤ NodeD.most m := by unfold NodeD.most; omega
 obtain ⟨N, hN⟩ : ∃ N, N = cntM M := ⟨_, rfl⟩
 rw [← hN] at hn
 have HG0 : ∀ w1, Only NoB W0 w1 → Calls Tryz.prog 46 #[.pointer (some ⟨t, 0, none⟩), .string ⟨#[110]⟩] w1 (KvOut w1 F X t m np own (.tuple #[.string ⟨((get [110] M).getD []).toArray⟩, .bool (get [110] M).isSome, .int .i64 0]) M c) := fun w1 ho => kv_get ((h.quit ho0).quit ho)
 have HP : Hid (∀ (w1 : World) (F1 : Nat → Prop), KvAt w1 F1 X t m np own M c → Calls Tryz.prog 45 #[.pointer (some ⟨t, 0, none⟩), .string ⟨#[110]⟩, .string ⟨(be3i ((N : Nat) + 1 : Int)).toArray⟩] w1 (KvOut w1 F1 X t m np own (.tuple #[.bool (get [110] M).isSome, .int .i64 0]) (ins [110] (be3i ((N : Nat) + 1 : Int)) M) (c + 1))) :=
  Lib.hid fun w1 F1 hk => kv_put hk (by omega) ⟨by show 1 ≤ 1; omega, by show 1 ≤ 255; omega, by show 3 ≤ 255; omega, by show 1 + 3 ≤ _; omega⟩ (by show 1 ≤ 1000; omega)
 have HIP : Hid (∀ (w1 : World) (F1 : Nat → Prop), KvAt w1 F1 X t m np own (ins [110] (be3i ((N : Nat) + 1 : Int)) M) (c + 1) → Calls Tryz.prog 90 #[.pointer (some ⟨t, 0, none⟩), .int .i64 (N : Nat), .agg i.cells] w1 (KvOut w1 F1 X t m np own (.int .i64 0) (newM M i) (c + 2))) := Lib.hid fun w1 F1 hk => by
  have := iput_ok (n := N) hk hi hn hm (by omega)
  rw [newM, ← hN]
  exact this
 have HGR : Hid (Grows F F w) := Lib.hid (Grows.refl F w)
 have C0 := Lib.hid c0
 have HO0 := Lib.hid ho0
 have HW0 := Lib.hid hW0
 have hn1 : ¬ ((N : Int) < 1) := by omega
 have hn2 : ¬ ((16777215 : Int) < (N : Int)) := by omega
 have HLT := Lib.hid h.lt
 obtain ⟨M2, hM2⟩ : ∃ M2, M2 = newM M i := ⟨_, rfl⟩
 rw [← hM2] at HIP ⊢
 obtain ⟨M1, hM1⟩ : ∃ M1, M1 = ins [110] (be3i ((N : Nat) + 1 : Int)) M := ⟨_, rfl⟩
 rw [← hM1] at HIP HP
 have hcv0 := fun w1 => conv_new (w := w1) (n := 3) (be3i_cells ((N : Nat) + 1 : Int)) rfl
 rw [← hN]
 have HN := Lib.hid hN
 have HL := Lib.hid hl
 have hw1 : IntKind.i64.wrap ((N : Int) + 1) = (N : Int) + 1 := by rw [IntKind.wrap_i64]; omega
 clear h hi hm hc c0 ho0 hW0 hM2 hM1 hmo hN hl hn
 unfold Ino.cells at HC HW0 C0 HIP ⊢
 unfold cntM at HN
 cases hg : get [110] M with
 | none =>
  rw [hg] at HN
  simp only [hg, Option.getD_none, Option.isSome_none] at HG0 HP
  have HG0 := Lib.hid HG0
  have hN1 : N = 1 := HN.out
  subst hN1
  have hbe : be3i (((1 : Nat) : Int) + 1) = [0, 0, 2] := by decide +kernel
  rw [hbe] at HP
  have hcv0 := fun w1 => conv_new (w := w1) (n := 3) (l := [0, 0, 2]) (cs := [.int .u8 0, .int .u8 0, .int .u8 2]) rfl rfl
  clear HN HL hg hn1 hn2 hw1 hbe
  go_enter Tryz.func85, Tryz.ntmps85
  go_wp2_with fail
  rw [← HW0.out]
  refine HC.out.mono ?_
  rintro e w1 ⟨rfl, ho1⟩
  have HK := Lib.hid (HBK.out w1)
  have HO1 := Lib.hid ho1
  unfold CkOut keyV at HK
  clear ho1
  go_wp2_with fail
  refine HK.out.mono ?_
  rintro e w2 ⟨rfl, ho2⟩
  have HG := Lib.hid (HG0.out w2 (HO1.out.trans ho2))
  have HO2 := Lib.hid (HO1.out.trans ho2)
  clear ho2
  go_wp2_with fail
  refine HG.out.mono ?_
  rintro e w3 ⟨rfl, F3, hk, ho3, hg3⟩
  have HK3 := Lib.hid hk
  have HPP := Lib.hid (HP.out (w3.alloc (.cells #[.int .u8 0, .int .u8 0, .int .u8 2] 5)) F3 (hk.quit ((Only.refl NoB w3).alloc _)))
  have HO3 : Hid (Only F w (w3.alloc (.cells #[.int .u8 0, .int .u8 0, .int .u8 2] 5))) := Lib.hid ((((HO0.out.trans HO2.out).mono fun _ _ h => h.elim).trans ho3).alloc _)
  have HG3 : Hid (Grows F F3 w) := Lib.hid fun k hk => (hg3 k hk).imp id fun h => Nat.le_trans ((HO0.out.trans HO2.out).size) h
  have HC3 := Lib.hid ((C0.out.only HO2.out id).only ho3 fun hf => by have := HLT.out _ hf; omega)
  have HNF3 : Hid (¬ F3 w.heap.size) := Lib.hid fun hf => (hg3 _ hf).elim (fun h => by have := HLT.out _ h; omega) fun h => by have := C0.out.lt; have := HO2.out.size; omega
  clear hk ho3 hg3
  have hcv := hcv0 w3
  go_wp2_with fail
  refine HPP.out.mono ?_
  rintro e w4 ⟨rfl, F4, hk, ho4, hg4⟩
  have c4 := (HC3.out.alloc (.cells #[.int .u8 0, .int .u8 0, .int .u8 2] 5)).only ho4 HNF3.out
  obtain ⟨x0, x1, x2, x3, x4⟩ := c4.five
  have HI := Lib.hid (HIP.out w4 F4 hk)
  have HO4 : Hid (Only F w w4) := Lib.hid (HO3.out.trans' ho4 fun k hk hf => (HG3.out k hf).elim id fun h => by omega)
  have HG4 : Hid (Grows F F4 w) := Lib.hid fun k hk => (hg4 k hk).elim (HG3.out k) fun h => .inr (Nat.le_trans HO3.out.size h)
  clear hk ho4 hg4 c4 hcv
  go_wp2_with fail
  refine HI.out.mono ?_
  rintro e w5 ⟨rfl, hk5⟩
  have HE := Lib.hid (KvOut.trans HO4.out HG4.out ⟨rfl, hk5⟩ : KvOut w F X t m np own (.int .i64 0) M2 (c + 2) (.returned (.int .i64 0)) w5)
  clear hk5
  go_wp2_with fail
  go_ret2
  exact ⟨rfl, HE.out.2⟩
 | some s =>
  rw [hg] at HN
  simp only [hg, Option.getD_some, Option.isSome_some] at HG0 HP
  have HG0 := Lib.hid HG0
  have HNE : Hid (N = foldN s) := Lib.hid HN.out
  have HL := Lib.hid (HL.out s hg)
  clear HN hg
  go_enter Tryz.func85, Tryz.ntmps85
  go_wp2_with fail
  rw [← HW0.out]
  refine HC.out.mono ?_
  rintro e w1 ⟨rfl, ho1⟩
  have HK := Lib.hid (HBK.out w1)
  have HO1 := Lib.hid ho1
  unfold CkOut keyV at HK
  clear ho1
  go_wp2_with fail
  refine HK.out.mono ?_
  rintro e w2 ⟨rfl, ho2⟩
  have HG := Lib.hid (HG0.out w2 (HO1.out.trans ho2))
  have HO2 := Lib.hid (HO1.out.trans ho2)
  clear ho2
  go_wp2_with fail
  refine HG.out.mono ?_
  rintro e w3 ⟨rfl, F3, hk, ho3, hg3⟩
  have HNU := Lib.hid (inumber_ok s HL.out w3)
  have HK3 := Lib.hid hk
  have HO3a := Lib.hid ho3
  have HG3a := Lib.hid hg3
  clear hk ho3 hg3
  rw [← HNE.out] at HNU
  go_wp2_with fail
  refine HNU.out.mono ?_
  rintro e w3b ⟨rfl, ho3b⟩
  have hk := HK3.out.quit ho3b
  have ho3 := HO3a.out.trans (ho3b.mono fun _ _ h => h.elim)
  have hg3 := HG3a.out
  have HPP := Lib.hid (HP.out (w3b.alloc (.cells #[.int .u8 (((N : Int) + 1) / 65536 % 256), .int .u8 (((N : Int) + 1) / 256 % 256), .int .u8 (((N : Int) + 1) % 256)] 5)) F3 (hk.quit ((Only.refl NoB w3b).alloc _)))
  have HO3 : Hid (Only F w (w3b.alloc (.cells #[.int .u8 (((N : Int) + 1) / 65536 % 256), .int .u8 (((N : Int) + 1) / 256 % 256), .int .u8 (((N : Int) + 1) % 256)] 5))) := Lib.hid ((((HO0.out.trans HO2.out).mono fun _ _ h => h.elim).trans ho3).alloc _)
  have HG3 : Hid (Grows F F3 w) := Lib.hid fun k hk => (hg3 k hk).imp id fun h => Nat.le_trans ((HO0.out.trans HO2.out).size) h
  have HC3 := Lib.hid ((C0.out.only HO2.out id).only ho3 fun hf => by have := HLT.out _ hf; omega)
  have HNF3 : Hid (¬ F3 w.heap.size) := Lib.hid fun hf => (hg3 _ hf).elim (fun h => by have := HLT.out _ h; omega) fun h => by have := C0.out.lt; have := HO2.out.size; omega
  clear hk ho3 hg3
  have hcv := hcv0 w3b
  go_wp2_with fail
  refine HPP.out.mono ?_
  rintro e w4 ⟨rfl, F4, hk, ho4, hg4⟩
  have c4 := (HC3.out.alloc (.cells #[.int .u8 (((N : Int) + 1) / 65536 % 256), .int .u8 (((N : Int) + 1) / 256 % 256), .int .u8 (((N : Int) + 1) % 256)] 5)).only ho4 HNF3.out
  obtain ⟨x0, x1, x2, x3, x4⟩ := c4.five
  have HI := Lib.hid (HIP.out w4 F4 hk)
  have HO4 : Hid (Only F w w4) := Lib.hid (HO3.out.trans' ho4 fun k hk hf => (HG3.out k hf).elim id fun h => by omega)
  have HG4 : Hid (Grows F F4 w) := Lib.hid fun k hk => (hg4 k hk).elim (HG3.out k) fun h => .inr (Nat.le_trans HO3.out.size h)
  clear hk ho4 hg4 c4 hcv
  go_wp2_with fail
  refine HI.out.mono ?_
  rintro e w5 ⟨rfl, hk5⟩
  have HE := Lib.hid (KvOut.trans HO4.out HG4.out ⟨rfl, hk5⟩ : KvOut w F X t m np own (.int .i64 0) M2 (c + 2) (.returned (.int .i64 0)) w5)
  clear hk5
  go_wp2_with fail
  go_ret2
  exact ⟨rfl, HE.out.2⟩
end
end Go.Proofs.YtklfkocebhhgcaaGreat
namespace Go.Proofs.YtklfkocebhhgcaaGreat
open Go.RowKit Go.Proofs Go.Shelf
set_option maxRecDepth 20000
attribute [local go_sem] Oper.semAt_some
section
variable {w w' : World}
theorem idx_cut : ∀ s : Str, Lib.indexByte s 47 = if (cutS s).2.2 = true then ((cutS s).1.length : Int) else -1
 | [] => rfl
 | b :: s => by
  unfold Lib.indexByte cutS
  by_cases h : b = 47
  ·simp [h]
  ·rw [if_neg h, idx_cut s]
   have hb : (b == 47) = false := by simpa using h
   rw [hb]
   cases (cutS s).2.2 with
   | false => simp
   | true =>
    have : ((((cutS s).1.length : Int)) == -1) = false := by rw [beq_eq_false_iff_ne]; omega
    simp [this]
theorem cut_form : ∀ s : Str, ((cutS s).2.2 = true → s = (cutS s).1 ++ 47 :: (cutS s).2.1) ∧ ((cutS s).2.2 = false → (cutS s).1 = s ∧ (cutS s).2.1 = [])
 | [] => ⟨fun h => (by cases h), fun _ => ⟨rfl, rfl⟩⟩
 | b :: s => by
  unfold cutS
  by_cases h : b = 47
  ·rw [if_pos h]; exact ⟨fun _ => by simp [h], fun h2 => by cases h2⟩
  ·rw [if_neg h]
   exact ⟨fun h2 => by simpa using (cut_form s).1 h2, fun h2 => by simpa using (cut_form s).2 h2⟩
theorem first_cut (s : Str) : firstIdx ⟨s.toArray⟩ 47 = if (cutS s).2.2 = true then ((cutS s).1.length : Int) else -1 := by
 rw [Lib.firstIdx_eq]; exact idx_cut s
def IdxS (s : Str) (w : World) (e : Ending) (w' : World) : Prop := e = .returned (.int .i64 (if (cutS s).2.2 = true then ((cutS s).1.length : Int) else -1)) ∧ w = w'
theorem index_slash (s : Str) (w : World) : Calls Tryz.prog 225 #[.string ⟨s.toArray⟩, .string ⟨#[47]⟩] w (IdxS s w) := by
 by_cases h0 : s = [47]
 ·subst h0
  have hq : ([(47 : UInt8)] == [47]) = true := by decide
  go_enter Tryz.func225, Tryz.ntmps225
  go_wp2_with fail
  go_ret
  exact ⟨rfl, rfl⟩
 ·have HI0 := sib_ok ⟨s.toArray⟩ 47 w
  rw [show (47 : Int).toNat.toUInt8 = 47 from rfl, first_cut] at HI0
  obtain ⟨v, hv⟩ : ∃ v, v = (if (cutS s).2.2 = true then ((cutS s).1.length : Int) else -1) := ⟨_, rfl⟩
  unfold IdxS
  rw [← hv] at HI0 ⊢
  have HI := Lib.hid HI0
  have hq : ([(47 : UInt8)] == s) = false := by simpa using fun e : [47] = s => h0 e.symm
  have hx : ∀ h, ((⟨#[47]⟩ : ByteArray)[0]'h).toNat = 47 := fun _ => rfl
  clear HI0 hv
  go_enter Tryz.func225, Tryz.ntmps225
  go_wp2_with fail
  refine HI.out.mono ?_
  rintro e w1 ⟨rfl, rfl⟩
  go_wp2_with fail
  go_ret
  exact ⟨rfl, rfl⟩
def CutS (s : Str) (w : World) (e : Ending) (w' : World) : Prop := e = .returned (.tuple #[.string ⟨(cutS s).1.toArray⟩, .string ⟨(cutS s).2.1.toArray⟩, .bool (cutS s).2.2]) ∧ Only NoB w w'
set_option maxHeartbeats 1000000 in
theorem cut_slash (s : Str) (hs : s.length ≤ 1000000) (w : World) : Calls Tryz.prog 120 #[.string ⟨s.toArray⟩, .string ⟨#[47]⟩] w (CutS s w) := by
 have hx := index_slash s w
 unfold IdxS at hx
 have hf := cut_form s
 have HC : Hid (Calls Tryz.prog 190 #[.string ⟨s.toArray⟩, .string ⟨#[47]⟩] w (CutS s w)) := Lib.hid (by
  cases ht : (cutS s).2.2 with
  | false =>
   rw [ht] at hx
   have hE : ∀ w', Only NoB w w' → CutS s w (.returned (.tuple #[.string ⟨s.toArray⟩, .string ⟨#[]⟩, .bool false])) w' := fun w' ho => ⟨by rw [ht, (hf.2 ht).1, (hf.2 ht).2], ho⟩
   have HX := Lib.hid hx
   have HE := Lib.hid hE
   clear hx hf ht hE
   go_enter Tryz.func190, Tryz.ntmps190
   go_wp2_with fail
   refine HX.out.mono ?_
   rintro e w1 ⟨rfl, rfl⟩
   go_wp2_with fail
   go_ret3
   exact HE.out _ (Only.refl _ _)
  | true =>
   rw [ht] at hx
   simp only [if_true] at hx
   have hs2 := hf.1 ht
   obtain ⟨a, ha⟩ : ∃ a, a = (cutS s).1 := ⟨_, rfl⟩
   obtain ⟨r, hr⟩ : ∃ r, r = (cutS s).2.1 := ⟨_, rfl⟩
   rw [← ha, ← hr] at hs2
   rw [← ha] at hx
   have hE : ∀ w', Only NoB w w' → CutS s w (.returned (.tuple #[.string ⟨a.toArray⟩, .string ⟨r.toArray⟩, .bool true])) w' := fun w' ho => ⟨by rw [ht, ← ha, ← hr], ho⟩
   have hl : s.length = a.length + (r.length + 1) := by rw [hs2]; simp
   have g1 : s.take a.length = a := by rw [hs2]; simp
   have g2 : s.drop (a.length + 1) = r := by rw [hs2, ← List.drop_drop]; simp
   have e1 : (ByteArray.mk s.toArray).extract 0 a.length = ⟨a.toArray⟩ := by rw [ext_str]; simp [g1]
   have e2 : (ByteArray.mk s.toArray).extract (a.length + 1) s.length = ⟨r.toArray⟩ := by
    rw [ext_str, g2, List.take_of_length_le]
    rw [hl]; omega
   have HX := Lib.hid hx
   have HE := Lib.hid hE
   have hk0 : ((0 : Int) ≤ (a.length : Int)) := by omega
   have hi2 : (a.length : Int) < s.length := by omega
   have hi3 : (a.length : Int) ≤ s.length := by omega
   have hi4 : IntKind.i64.wrap ((a.length : Int) + 1) = (a.length : Int) + 1 := by rw [IntKind.wrap_i64]; omega
   have hi5 : (a.length : Int) + 1 ≤ s.length := by omega
   obtain ⟨ls, hls⟩ : ∃ ls, ls = s.length := ⟨_, rfl⟩
   have hls' : s.length = ls := hls.symm
   obtain ⟨la, hla⟩ : ∃ la, la = a.length := ⟨_, rfl⟩
   rw [← hla] at hi2 hi3 hi4 hi5 e1 e2 HX hk0
   rw [hls'] at hi2 hi3 hi5 e2
   clear hx hf ht hE ha hr hs2 hl g1 g2 hls hla hs
   go_enter Tryz.func190, Tryz.ntmps190
   go_wp2_with fail
   refine HX.out.mono ?_
   rintro e w1 ⟨rfl, rfl⟩
   go_wp2_with fail
   go_region
   all_goals go_wp2_with fail
   all_goals go_ret3
   all_goals exact HE.out _ (Only.refl NoB w).drew)
 have HE : Hid (∀ w', Only NoB w w' → CutS s w (.returned (.tuple #[.string ⟨(cutS s).1.toArray⟩, .string ⟨(cutS s).2.1.toArray⟩, .bool (cutS s).2.2])) w') := Lib.hid fun w' h => ⟨rfl, h⟩
 unfold CutS at HC
 clear hx hf
 go_enter Tryz.func120, Tryz.ntmps120
 go_wp2_with fail
 refine HC.out.mono ?_
 rintro e w1 ⟨rfl, ho⟩
 have HO := Lib.hid ho
 clear ho
 go_wp2_with fail
 go_ret3
 exact HE.out _ HO.out
end
end Go.Proofs.YtklfkocebhhgcaaGreat
namespace Go.Proofs.YtklfkocebhhgcaaGreat
open Go.RowKit Go.Proofs Go.Shelf
set_option maxRecDepth 20000
attribute [local go_sem] Oper.semAt_some
section
variable {w w' : World} {b : Nat} {s : Str}
theorem names_ok (s : Str) (w : World) : Calls Tryz.prog 63 #[.string ⟨s.toArray⟩] w fun e w' => e = .returned (.func (.func 128) #[] #[.pointer (some ⟨w.heap.size, 0, none⟩)]) ∧ w' = w.alloc (.cells #[.string ⟨s.toArray⟩] 9) := by
 go_enter Tryz.func63, Tryz.ntmps63
 go_wp2_with fail
 go_ret
 exact ⟨rfl, rfl⟩
def NamesT (b : Nat) (W : World) (G : Nat → Prop) : Prop := (∃ r : Str, Blk W b 9 #[.string ⟨r.toArray⟩]) ∧ G b ∧ ∀ k, G k → k < W.heap.size
def Names0 (b : Nat) (s : Str) (W : World) (_ : Nat → Prop) : Prop := Blk W b 9 #[.string ⟨s.toArray⟩]
theorem namesT_abid {B : Nat} : Abid B (NamesT b) := fun W W' G S h hS ho => by
 obtain ⟨⟨r, hr⟩, hb, hl⟩ := h
 exact ⟨⟨r, blk_abid hr (fun q hq => (hS q hq).2.2) ho⟩, hb, fun k hk => Nat.lt_of_lt_of_le (hl k hk) ho.size⟩
theorem names0_abid {B : Nat} : Abid B (Names0 b s) := fun _ _ _ _ h hS ho => blk_abid h (fun q hq => (hS q hq).2.2) ho
def nameAt (s : Str) (k : Nat) : Str := (namesOf s).getD k []
set_option maxHeartbeats 2000000 in
theorem names_iter (hs : s.length ≤ 1000000) (n : Nat) (hn : 1 ≤ n) :
  IterS n Tryz.prog 128 #[.pointer (some ⟨b, 0, none⟩)] (fun k => #[.string ⟨(nameAt s k).toArray⟩]) (NamesT b) (Names0 b s) (namesOf s).length := by
 intro l J Jx W G hJ hY h0 hst0
 refine callsIn_of_wp Tryz.func128 rfl trivial ?_ rfl
 simp only [Tryz.ntmps128, List.size_toArray, List.length_cons, List.length_nil, Nat.reduceAdd, Nat.reduceSub, Array.replicate_succ, Array.replicate_zero, List.push_toArray, List.append_toArray, List.nil_append, List.cons_append]
 have hst0 : Blk W b 9 #[.string ⟨s.toArray⟩] := hst0
 have c1 := hst0.cell 0
 obtain ⟨N, hN⟩ : ∃ N, N = (namesOf s).length := ⟨_, rfl⟩
 have hmore : (!s.isEmpty) = decide (0 < N) := by
  have h0 := namesOf_nil (s := s)
  cases s with
  | nil => rw [hN]; rfl
  | cons x s =>
   have : 0 < N := by rw [hN]; exact List.length_pos_iff.2 fun h => by cases h0.1 h
   simp [this]
 have HRA : Hid (RestAt s 0 s) := Lib.hid (restAt_start s)
 have HSL : Hid (s.length ≤ 1000000) := Lib.hid hs
 have HNE := Lib.hid hN
 have HJ0 : Hid (∃ G, J 0 W G ∧ Blk W b 9 #[.string ⟨s.toArray⟩]) := Lib.hid ⟨G, h0, hst0⟩
 have HJ := Lib.hid hJ
 have HY := Lib.hid hY
 rw [← hN]
 clear h0 hst0 hJ hY hN hs
 have HMO := Lib.hid hmore
 clear hmore
 gi_wp2_with fail
 rw [HMO.out]
 gi_loopg [3] N (fun g s3 wr => ∃ (k : Nat) (r : Str), s3 = .bool (decide (k < N)) ∧ g = N - k ∧ k ≤ N ∧ Hid (RestAt s k r ∧ r.length ≤ 1000000 ∧ ∃ G, J k wr G ∧ Blk wr b 9 #[.string ⟨r.toArray⟩]))
 case atStart => exact ⟨0, s, rfl, rfl, Nat.zero_le _, Lib.hid ⟨HRA.out, HSL.out, HJ0.out⟩⟩
 case round =>
  clear HJ0 HRA HMO
  obtain ⟨k, r, rfl, hg, hkN, hst⟩ := hrel
  obtain ⟨hra, hrl, Gr, hJk, hbk⟩ := hst.out
  have c1 := hbk.cell 0
  by_cases hlt : k < N
  ·obtain ⟨hT, hstep⟩ := HJ.out k wr Gr hJk
   obtain ⟨hk1, hk2, hk3⟩ := restAt_step hra (by rw [← HNE.out]; exact hlt)
   rw [← HNE.out] at hk2
   have HCU := cut_slash r hrl wr
   unfold CutS at HCU
   obtain ⟨nm, hnm⟩ : ∃ nm, nm = (cutS r).1 := ⟨_, rfl⟩
   obtain ⟨r2, hr2⟩ : ∃ r2, r2 = (cutS r).2.1 := ⟨_, rfl⟩
   have hl2 := (cutS_len r).2
   rw [← hnm] at hk1
   rw [← hr2] at hk3 hl2
   rw [← hnm, ← hr2, hk2] at HCU
   have hna : nameAt s k = nm := by unfold nameAt; rw [List.getD_eq_getElem?_getD, hk1]; rfl
   have HCU := Lib.hid HCU
   have HB := Lib.hid hbk
   have HK3 := Lib.hid hk3
   have HNA := Lib.hid hna
   have HL2 := Lib.hid (show r2.length ≤ 1000000 by omega)
   have HT := Lib.hid hT
   have HSTEP := Lib.hid hstep
   have HG := Lib.hid hg
   have HLT := Lib.hid hlt
   have hdt : decide (k < N) = true := by simpa using hlt
   rw [hdt]
   clear hst hra hrl hJk hbk hT hstep hk1 hk2 hk3 hnm hr2 hl2 hna hg hkN hdt
   gi_wp2_with fail
   refine ⟨trivial, (callsIn_wide.2 HCU.out).mono ?_⟩
   rintro e w1 ⟨rfl, ho1⟩
   have hb1 := HB.out.only ho1 id
   have y0 := hb1.cell 0
   have y1 := hb1.frozen 0
   obtain ⟨W2, hW2⟩ : ∃ W2, W2 = w1.setCell ⟨b, 0, none⟩ (.string ⟨r2.toArray⟩) := ⟨_, rfl⟩
   have hb2 : Blk W2 b 9 #[.string ⟨r2.toArray⟩] := by rw [hW2]; exact hb1.set_ 0 _
   have hon : Only Gr wr W2 := by rw [hW2]; exact (ho1.mono fun _ _ h => h.elim).setCell (p := ⟨b, 0, none⟩) (.inl HT.out.2.1) _
   have hT2 : NamesT b W2 Gr := ⟨⟨r2, hb2⟩, HT.out.2.1, fun k hk => Nat.lt_of_lt_of_le (HT.out.2.2 k hk) hon.size⟩
   have hJ2 := HSTEP.out W2 Gr hT2 hon (Grows.refl Gr wr)
   obtain ⟨fn, tmps, assign, body, hy, hR⟩ := HY.out k W2 Gr (by rw [← HNE.out]; exact HLT.out) hJ2
   rw [HNA.out] at hy
   have HB2 := Lib.hid hb2
   have HGB := Lib.hid HT.out.2.1
   have HW2 := Lib.hid hW2
   rw [hW2] at hy
   clear hb1 ho1 HCU c1 hb2 hon hT2 hJ2 hW2
   gi_wp2_with fail
   rw [← HW2.out]
   refine hR.mono ?_
   rintro e W5 (⟨rfl, hJ5, hk5⟩ | ⟨rfl, hJx5⟩)
   ·have HNEW : Hid (RestAt s (k + 1) r2 ∧ r2.length ≤ 1000000 ∧ ∃ G, J (k + 1) W5 G ∧ Blk W5 b 9 #[.string ⟨r2.toArray⟩]) := Lib.hid ⟨HK3.out, HL2.out, _, hJ5, (hk5 _ HGB.out).trans HB2.out⟩
    have hgl : N - (k + 1) < gk := by have := HG.out; have := HLT.out; omega
    have HKN1 : Hid (k + 1 ≤ N) := Lib.hid HLT.out
    clear hJ5 hk5 hR hy y0 y1
    gi_wp2_with fail
    gi_roundg (N - (k + 1))
    case measure => exact hgl
    case rel => exact ⟨k + 1, r2, rfl, rfl, HKN1.out, HNEW⟩
   ·have HJX := Lib.hid hJx5
    have HKN1 : Hid (k + 1 ≤ N) := Lib.hid HLT.out
    clear hJx5 hR hy y0 y1
    gi_wp2_with fail
    refine bodyPost_ret (results_none rfl _ _ _) rfl ?_
    exact ⟨⟨_, rfl⟩, .inr ⟨k + 1, HKN1.out, HJX.out⟩⟩
  ·have hkk : k = N := by omega
   subst hkk
   have HJN : Hid (∃ G, J k wr G) := Lib.hid ⟨_, hJk⟩
   have hdt : decide (k < k) = false := by simp
   rw [hdt]
   clear hst hra hrl hJk hbk hg hdt hlt hkN
   gi_wp2_with fail
   refine bodyPost_end (results_none rfl _ _ _) rfl ?_
   exact ⟨⟨_, rfl⟩, .inl HJN.out⟩
theorem named_ok (A : Str) (w : World) : Calls Tryz.prog 64 #[.string ⟨A.toArray⟩] w fun e w' => e = .returned (.bool (nmOk A)) ∧ Only NoB w w' := by
 have HC := check_ent 1 A w
 unfold EntAns keyV at HC
 have hnm : nmOk A = (entOk 1 A && (!decide (A = [46]) && !decide (A = [46, 46]))) := rfl
 rw [hnm]
 cases hb : entOk 1 A with
 | false =>
  rw [hb] at HC
  simp only [Bool.false_eq_true, if_false] at HC
  have HC := Lib.hid HC
  rw [Bool.false_and]
  clear hb hnm
  go_enter Tryz.func64, Tryz.ntmps64
  go_wp2_with fail
  refine HC.out.mono ?_
  rintro e w1 ⟨rfl, ho⟩
  have HO := Lib.hid ho
  clear ho
  go_wp2_with fail
  go_ret
  exact ⟨rfl, HO.out⟩
 | true =>
  rw [hb] at HC
  simp only [if_true] at HC
  have HC := Lib.hid HC
  rw [Bool.true_and]
  clear hb hnm
  by_cases h1 : A = [46]
  ·subst h1
   go_enter Tryz.func64, Tryz.ntmps64
   go_wp2_with fail
   refine HC.out.mono ?_
   rintro e w1 ⟨rfl, ho⟩
   have HO := Lib.hid ho
   clear ho
   go_wp2_with fail
   go_ret
   exact ⟨rfl, HO.out⟩
  ·have n1 := str_ne h1
   have e1 : (A == [46]) = false := by simpa using h1
   by_cases h2 : A = [46, 46]
   ·subst h2
    go_enter Tryz.func64, Tryz.ntmps64
    go_wp2_with fail
    refine HC.out.mono ?_
    rintro e w1 ⟨rfl, ho⟩
    have HO := Lib.hid ho
    clear ho
    go_wp2_with fail
    go_ret
    exact ⟨rfl, HO.out⟩
   ·have n2 := str_ne h2
    have e2 : (A == [46, 46]) = false := by simpa using h2
    rw [decide_eq_false h1, decide_eq_false h2]
    clear h1 h2
    go_enter Tryz.func64, Tryz.ntmps64
    go_wp2_with fail
    refine HC.out.mono ?_
    rintro e w1 ⟨rfl, ho⟩
    have HO := Lib.hid ho
    clear ho
    go_wp2_with fail
    go_ret
    exact ⟨rfl, HO.out⟩
end
end Go.Proofs.YtklfkocebhhgcaaGreat
