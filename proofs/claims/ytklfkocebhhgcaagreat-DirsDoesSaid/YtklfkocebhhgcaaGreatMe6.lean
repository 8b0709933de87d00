import Derived.Test.YtklfkocebhhgcaaGreatMe5
import Derived.Lib.ConvBytes
import Derived.Laws.BitsAllLaws
import Derived.Deep.Fields
import Derived.ChangeSame
set_option linter.unusedVariables false
set_option linter.unusedSimpArgs false
namespace Go.Proofs.YtklfkocebhhgcaaGreat
open Go.RowKit Go.Proofs
set_option maxRecDepth 20000
def posOf (w : World) (r : Nat) : Nat := match w.heap[r]? with | some (.stringIter _ p) => p | _ => 0
section
variable {w : World} {s : Str}
theorem posOf_at {r p : Nat} (h : IterAt w r s p) : posOf w r = p := by unfold posOf; unfold IterAt at h; rw [h]
set_option maxHeartbeats 4000000 in
theorem any_short (h8 : s.length ≤ 8) (w : World) : Calls Tryz.prog 223 #[.string ⟨s.toArray⟩, .string zs] w (AnyOut w s) := by
  have HU := Lib.hid fun n => use_set n w
  have HA := Lib.hid indexRune_ascii
  have HH := Lib.hid indexRune_high
  obtain ⟨ls, hls⟩ : ∃ ls, ls = s.length := ⟨_, rfl⟩
  have hls' : s.length = ls := hls.symm
  have h8d : decide ((8 : Int) < (ls : Int)) = false := decide_eq_false (by omega)
  have HL := Lib.hid hls'
  obtain ⟨R, hR⟩ : ∃ R, R = w.heap.size := ⟨_, rfl⟩
  have hi0 : IterAt (w.iter ⟨s.toArray⟩ 0) R s 0 := by rw [hR]; exact World.iter_heap w ⟨s.toArray⟩ 0
  have ho0 : Only NoB w (w.iter ⟨s.toArray⟩ 0) := (Only.refl NoB w).alloc _
  have HI := Lib.hid hi0
  have HO := Lib.hid ho0
  have HRL : Hid (w.heap.size ≤ R) := Lib.hid (by rw [hR]; exact Nat.le_refl _)
  have HRR := Lib.hid hR
  clear hls hi0 ho0 h8
  unfold zs at HA HH ⊢
  go_enter Tryz.func223, Tryz.ntmps223
  go_wp2_with fail
  refine (HU.out _).mono ?_
  rintro e w1 ⟨rfl, rfl⟩
  rw [h8d]
  go_wp2_with fail
  rw [← hR]
  clear hR
  go_loopw [9, 10] (fun _ _ wr => ∃ pos : Nat, Hid (IterAt wr R s pos ∧ pos ≤ ls ∧ Only NoB w wr ∧ hasZS (s.take pos) = false)) (fun _ _ wr => ls - posOf wr R)
  case atStart => exact ⟨0, Lib.hid ⟨HI.out, Nat.zero_le _, HO.out, rfl⟩⟩
  case round =>
    obtain ⟨pos, HJ⟩ := hrel
    have hmr : posOf wr R = pos := posOf_at HJ.out.1
    have HMR := Lib.hid hmr
    clear hmr HI HO
    by_cases hlt : pos < ls
    · have hlt2 : pos < s.length := by have := HL.out; omega
      obtain ⟨h1, h2, h3, h4⟩ := rune_at hlt2
      obtain ⟨w5, hn5, hi5, ho5⟩ := next_any HJ.out.1 hlt2
      obtain ⟨rn, hrn⟩ : ∃ rn, rn = (Utf8.decode ⟨s.toArray⟩ pos).1 := ⟨_, rfl⟩
      obtain ⟨wd, hwd⟩ : ∃ wd, wd = (Utf8.decode ⟨s.toArray⟩ pos).2 := ⟨_, rfl⟩
      rw [← hwd] at h1 h2 h4 hi5
      rw [← hrn] at h4 hn5
      have ho6 : Only NoB w w5 := HJ.out.2.2.1.trans' ho5 fun k hk hq => by have := HRL.out; omega
      obtain ⟨b, hse⟩ : ∃ b, s[pos]? = some b := ⟨_, List.getElem?_eq_getElem hlt2⟩
      have hbe : s[pos] = b := (List.getElem?_eq_some_iff.1 hse).2
      rw [hbe] at h3 h4
      by_cases hb : b.toNat < 128
      · have h5 := h3 hb
        rw [h5] at hrn hwd
        obtain rfl : rn = b.toNat := hrn
        obtain rfl : wd = 1 := hwd
        have HX := Lib.hid (HA.out b.toNat hb w5)
        have HT := Lib.hid (hasZS_take hse)
        have HI5 := Lib.hid hi5
        have HO6 := Lib.hid ho6
        have HSE := Lib.hid hse
        cases hin : (b == 0 || b == 47) with
        | false =>
          have hzn := zsAt_neg hin
          rw [hzn] at HX
          rw [hin] at HT
          clear h1 h2 h3 h4 h5 hi5 ho5 ho6 hse hbe hin hzn
          go_wp2_with fail
          refine HX.out.mono ?_
          rintro e w6 ⟨rfl, ho7⟩
          have hi6 : IterAt w6 R s (pos + 1) := (ho7.block R (Array.getElem?_eq_some_iff.1 HI5.out).1 id).trans HI5.out
          have HN : Hid (IterAt w6 R s (pos + 1) ∧ pos + 1 ≤ ls ∧ Only NoB w w6 ∧ hasZS (s.take (pos + 1)) = false) := Lib.hid ⟨hi6, by omega, HO6.out.trans ho7, by rw [HT.out, HJ.out.2.2.2]; rfl⟩
          have hm6 := posOf_at hi6
          have HM6 := Lib.hid hm6
          clear ho7 hi6 hm6
          go_wp2_with fail
          exact ⟨⟨pos + 1, HN⟩, by rw [HM6.out, HMR.out]; omega⟩
        | true =>
          have HP := Lib.hid (zsAt_pos hin)
          obtain ⟨v, hv⟩ : ∃ v, v = zsAt b.toNat := ⟨_, rfl⟩
          rw [← hv] at HX HP
          have hv0 := HP.out
          have HIN := Lib.hid hin
          clear h1 h2 h3 h4 h5 hi5 ho5 ho6 hse hbe hin hv
          go_wp2_with fail
          refine HX.out.mono ?_
          rintro e w6 ⟨rfl, ho7⟩
          have HE := Lib.hid (anyOut_hit HSE.out HIN.out (HO6.out.trans ho7))
          clear ho7
          go_wp2_with fail
          go_ret
          exact HE.out
      · obtain ⟨h5, h6⟩ := h4 (by omega)
        have HX := Lib.hid (HH.out (rn : Int) (by omega) w5)
        have HT := Lib.hid (hasZS_high (i := pos) (j := pos + wd) (by omega) h2 h6)
        have HI5 := Lib.hid hi5
        have HO6 := Lib.hid ho6
        have hwl : pos + wd ≤ ls := by have := HL.out; omega
        clear h2 h3 h4 h5 h6 hi5 ho5 ho6 hse hbe hrn hwd hb
        go_wp2_with fail
        refine HX.out.mono ?_
        rintro e w6 ⟨rfl, ho7⟩
        have hi6 : IterAt w6 R s (pos + wd) := (ho7.block R (Array.getElem?_eq_some_iff.1 HI5.out).1 id).trans HI5.out
        have HN : Hid (IterAt w6 R s (pos + wd) ∧ pos + wd ≤ ls ∧ Only NoB w w6 ∧ hasZS (s.take (pos + wd)) = false) := Lib.hid ⟨hi6, hwl, HO6.out.trans ho7, by rw [HT.out, HJ.out.2.2.2]⟩
        have hm6 := posOf_at hi6
        have HM6 := Lib.hid hm6
        clear ho7 hi6 hm6
        go_wp2_with fail
        exact ⟨⟨pos + wd, HN⟩, by rw [HM6.out, HMR.out]; omega⟩
    · obtain rfl : pos = ls := by have := HJ.out.2.1; omega
      have hnx := fun ty => next_end ty HJ.out.1 (by have := HL.out; omega)
      have hno := HJ.out.2.2.2
      rw [← hls', List.take_length] at hno
      have HE := Lib.hid (anyOut_none hno HJ.out.2.2.1)
      clear hno
      go_wp2_with fail
      go_ret
      exact HE.out
theorem any_ok (hl : s.length ≤ 1000000000) (w : World) : Calls Tryz.prog 223 #[.string ⟨s.toArray⟩, .string zs] w (AnyOut w s) := by
  by_cases h8 : s.length ≤ 8
  · exact any_short h8 w
  · exact any_long (by omega) w hl
theorem containsAny_ok (hl : s.length ≤ 1000000000) (w : World) : Calls Tryz.prog 187 #[.string ⟨s.toArray⟩, .string zs] w fun e w' => e = .returned (.bool (hasZS s)) ∧ Only NoB w w' := by
  have HX := Lib.hid (any_ok hl w)
  unfold zs at HX ⊢
  go_enter Tryz.func187, Tryz.ntmps187
  go_wp2_with fail
  refine HX.out.mono ?_
  rintro e w1 ⟨v, rfl, hv, ho⟩
  have hd : decide (v ≥ 0) = hasZS s := by
    rw [Bool.eq_iff_iff, decide_eq_true_iff]
    exact hv
  have HO := Lib.hid ho
  have HD := Lib.hid hd
  clear hv ho hd
  go_wp2_with fail
  go_ret
  exact ⟨by rw [← HD.out]; rfl, HO.out⟩
def nameOk (s : Str) : Bool := decide (1 ≤ s.length) && (decide (s.length ≤ 64) && !hasZS s)
theorem name_ok (s : Str) (w : World) : Calls Tryz.prog 116 #[.string ⟨s.toArray⟩] w fun e w' => e = .returned (.bool (nameOk s)) ∧ Only NoB w w' := by
  unfold nameOk
  by_cases h1 : 1 ≤ s.length
  · rw [decide_eq_true h1]
    have hemp : s.isEmpty = false := by
      cases s with
      | nil => cases h1
      | cons => rfl
    obtain ⟨ls, hls⟩ : ∃ ls, ls = s.length := ⟨_, rfl⟩
    have hls' : s.length = ls := hls.symm
    rw [← hls]
    by_cases h2 : ls ≤ 64
    · rw [decide_eq_true h2]
      have HX := Lib.hid (containsAny_ok (s := s) (by omega) w)
      have h2i : (ls : Int) ≤ 64 := by omega
      unfold zs at HX
      clear hls h1
      go_enter Tryz.func116, Tryz.ntmps116
      go_wp2_with fail
      refine HX.out.mono ?_
      rintro e w1 ⟨rfl, ho⟩
      have HO := Lib.hid ho
      clear ho
      go_wp2_with fail
      go_ret
      exact ⟨rfl, HO.out⟩
    · rw [decide_eq_false h2]
      have h2i : ¬ (ls : Int) ≤ 64 := by omega
      clear hls h1
      go_enter Tryz.func116, Tryz.ntmps116
      go_wp2_with fail
      go_ret
      exact ⟨rfl, Only.refl _ _⟩
  · obtain rfl : s = [] := List.eq_nil_of_length_eq_zero (by omega)
    clear h1
    go_enter Tryz.func116, Tryz.ntmps116
    go_wp2_with fail
    go_ret
    exact ⟨rfl, Only.refl _ _⟩
end
end Go.Proofs.YtklfkocebhhgcaaGreat
namespace Go.Proofs.YtklfkocebhhgcaaGreat
open Go.RowKit Go.Proofs Go.Shelf
set_option maxRecDepth 20000
attribute [local go_sem] Oper.semAt_some
section
variable {w w' : World} {b1 b3 b4 : Nat} {A : Str} {cs : Array Value} {v : Bool}
def ChkOut (w : World) (b3 b4 : Nat) (v' : Bool) (cs' : Array Value) (e : Ending) (w' : World) : Prop :=
  (∃ u, e = .returned u) ∧ Blk w' b4 4 #[.bool v'] ∧ Blk w' b3 112 cs' ∧ Only (fun k => k = b4 ∨ k = b3) w w'
theorem chkOut_of {w1 : World} {cs3 : Array Value} (h4 : Blk w1 b4 4 #[.bool v]) (h3 : Blk w1 b3 112 cs3) (hne : b4 ≠ b3) (ho : Only NoB w w1) (v' : Bool) (i : Nat) (u x : Value) : ChkOut w b3 b4 v' (cs3.setIfInBounds i u) (.returned x) ((w1.setCell ⟨b4, 0, none⟩ (.bool v')).setCell ⟨b3, i, none⟩ u) := by
  refine ⟨⟨_, rfl⟩, ?_, ?_, ((ho.mono fun _ _ h => h.elim).setCell (p := ⟨b4, 0, none⟩) (.inl (.inl rfl)) _).setCell (p := ⟨b3, i, none⟩) (.inl (.inr rfl)) _⟩
  · exact (h4.set_ 0 (.bool v')).far (p := ⟨b3, i, none⟩) hne _
  · exact (h3.far (p := ⟨b4, 0, none⟩) hne.symm _).set_ i u
theorem check1_any {k : Int} {B : Str} {n m : Int} (h4 : Blk w b4 4 #[.bool v]) (h1 : Blk w b1 112 cs) (hcs : cs[1]? = some (.string ⟨A.toArray⟩)) (h3 : Blk w b3 112 #[.int .i64 k, .string ⟨A.toArray⟩, .string ⟨B.toArray⟩, .int .i64 n, .int .i64 m]) :
    Calls Tryz.prog 196 #[.pointer (some ⟨b4, 0, none⟩), .pointer (some ⟨b1, 0, none⟩), .pointer (some ⟨b3, 0, none⟩)] w (ChkOut w b3 b4 (v && nameOk A) #[.int .i64 k, .string ⟨#[]⟩, .string ⟨B.toArray⟩, .int .i64 n, .int .i64 m]) := by
  have x0 := h4.cell 0
  have x1 := h4.frozen 0
  have z1 := h3.frozen 1
  have z0 : w.cell? ⟨b3, 1, none⟩ = some (.string ⟨A.toArray⟩) := h3.cell 1
  have y0 : w.cell? ⟨b1, 1, none⟩ = some (.string ⟨A.toArray⟩) := by rw [h1.cell]; exact hcs
  have hne : b4 ≠ b3 := h4.ne_ h3 (by decide)
  have HN := Lib.hid (name_ok A w)
  have H4 := Lib.hid h4
  have H3 := Lib.hid h3
  have HNE := Lib.hid hne
  cases v with
  | false =>
    have HE := Lib.hid fun x => chkOut_of H4.out H3.out HNE.out (Only.refl NoB w) (false && nameOk A) 1 (.string ⟨#[]⟩) x
    clear h4 h1 h3
    go_enter Tryz.func196, Tryz.ntmps196
    go_wp2_with fail
    refine bodyPost_end (results_none rfl _ _ _) rfl ?_
    exact HE.out _
  | true =>
    clear h4 h1 h3
    go_enter Tryz.func196, Tryz.ntmps196
    go_wp2_with fail
    refine HN.out.mono ?_
    rintro e w1 ⟨rfl, ho⟩
    have h4' := H4.out.only ho id
    have h3' := H3.out.only ho id
    have x0' := h4'.cell 0
    have x1' := h4'.frozen 0
    have z1' := h3'.frozen 1
    have z0' : w1.cell? ⟨b3, 1, none⟩ = some (.string ⟨A.toArray⟩) := h3'.cell 1
    have HE := Lib.hid fun x => chkOut_of h4' h3' HNE.out ho (true && nameOk A) 1 (.string ⟨#[]⟩) x
    clear h4' h3' ho x0 x1 z0 z1 y0
    go_wp2_with fail
    refine bodyPost_end (results_none rfl _ _ _) rfl ?_
    exact HE.out _
def numIn (n l h : Int) : Bool := decide (l ≤ n ∧ n ≤ h)
theorem kwithin_any (n l h : Int) (w : World) : Calls Tryz.prog 114 #[.int .i64 n, .int .i64 l, .int .i64 h] w fun e w' => e = .returned (.bool (numIn n l h)) ∧ w = w' := by
  refine (within_ok n l h).mono ?_
  rintro e w1 ⟨rfl, rfl⟩
  refine ⟨?_, rfl⟩
  congr 2
theorem check2_any {k : Int} {A B : Str} {n m l : Int} (h4 : Blk w b4 4 #[.bool v]) (h1 : Blk w b1 112 cs) (hcs : cs[3]? = some (.int .i64 n)) (h3 : Blk w b3 112 #[.int .i64 k, .string ⟨A.toArray⟩, .string ⟨B.toArray⟩, .int .i64 n, .int .i64 m]) :
    Calls Tryz.prog 197 #[.int .i64 l, .pointer (some ⟨b4, 0, none⟩), .pointer (some ⟨b1, 0, none⟩), .pointer (some ⟨b3, 0, none⟩)] w (ChkOut w b3 b4 (v && numIn n l 16777215) #[.int .i64 k, .string ⟨A.toArray⟩, .string ⟨B.toArray⟩, .int .i64 0, .int .i64 m]) := by
  have x0 := h4.cell 0
  have x1 := h4.frozen 0
  have z1 := h3.frozen 3
  have z0 : w.cell? ⟨b3, 3, none⟩ = some (.int .i64 n) := h3.cell 3
  have y0 : w.cell? ⟨b1, 3, none⟩ = some (.int .i64 n) := by rw [h1.cell]; exact hcs
  have hne : b4 ≠ b3 := h4.ne_ h3 (by decide)
  have HN := Lib.hid (kwithin_any n l 16777215 w)
  have HE := Lib.hid fun x => chkOut_of h4 h3 hne (Only.refl NoB w) (v && numIn n l 16777215) 3 (.int .i64 0) x
  cases v with
  | false =>
    clear h4 h1 h3
    go_enter Tryz.func197, Tryz.ntmps197
    go_wp2_with fail
    refine bodyPost_end (results_none rfl _ _ _) rfl ?_
    exact HE.out _
  | true =>
    clear h4 h1 h3
    go_enter Tryz.func197, Tryz.ntmps197
    go_wp2_with fail
    refine HN.out.mono ?_
    rintro e w1 ⟨rfl, rfl⟩
    go_wp2_with fail
    refine bodyPost_end (results_none rfl _ _ _) rfl ?_
    exact HE.out _
theorem check_blks (w : World) (cs : Array Value) : ∃ W3, W3 = ((w.alloc (.cells cs 112)).alloc (.cells cs 112)).alloc (.cells #[.bool true] 4) ∧ Blk W3 w.heap.size 112 cs ∧ Blk W3 (w.heap.size + 1) 112 cs ∧ Blk W3 (w.heap.size + 1 + 1) 4 #[.bool true] ∧ Only NoB w W3 := by
  have hWa : ((w.alloc (.cells cs 112)).alloc (.cells cs 112)).alloc (.cells #[.bool true] 4) = allocs w [(cs, 112), (cs, 112), (#[.bool true], 4)] := rfl
  exact ⟨_, rfl, blk_of hWa 0 rfl, blk_of hWa 1 rfl, blk_of hWa 2 rfl, by rw [hWa]; exact allocs_only _ _⟩
def keyV (k : Int) (A B : Str) (n m : Int) : Array Value := #[.int .i64 k, .string ⟨A.toArray⟩, .string ⟨B.toArray⟩, .int .i64 n, .int .i64 m]
def entOk (n : Int) (A : Str) : Bool := numIn n 1 16777215 && nameOk A
def EntAns (n : Int) (A : Str) (w : World) (e : Ending) (w' : World) : Prop := e = .returned (.int .i64 (if entOk n A then 0 else 1)) ∧ Only NoB w w'
set_option maxHeartbeats 2000000 in
theorem check_ent (n : Int) (A : Str) (w : World) : Calls Tryz.prog 129 #[.agg (keyV 4 A [] n 0)] w (EntAns n A w) := by
  obtain ⟨W3, hW3, c0, c1, c2, ho3⟩ := check_blks w (keyV 4 A [] n 0)
  have HO3 := Lib.hid ho3
  have HW3 := Lib.hid hW3
  have HC2 := Lib.hid (check2_any (l := 1) c2 c0 rfl c1)
  have C0 := Lib.hid c0
  clear c0 c1 c2 ho3 hW3
  unfold keyV at HW3 ⊢
  go_enter Tryz.func129, Tryz.ntmps129
  go_wp2_with fail
  rw [← HW3.out]
  refine HC2.out.mono ?_
  rintro e w4 ⟨⟨u, rfl⟩, d2, d1, ho4⟩
  have d0 := C0.out.only ho4 (by rintro (e | e) <;> omega)
  have HC1 := Lib.hid (check1_any d2 d0 rfl d1)
  have D0 := Lib.hid d0
  have HO4 := Lib.hid (HO3.out.trans' ho4 fun k hk (e : k = w.heap.size + 1 + 1 ∨ k = w.heap.size + 1) => by omega)
  clear d0 d1 d2 ho4
  go_wp2_with fail
  refine HC1.out.mono ?_
  rintro e w5 ⟨⟨u, rfl⟩, d2, d1, ho5⟩
  have d0 := D0.out.only ho5 (by rintro (e | e) <;> omega)
  have x0 : w5.cell? ⟨w.heap.size + 1 + 1, 0, none⟩ = some (.bool (true && numIn n 1 16777215 && nameOk A)) := d2.cell 0
  have y0 : w5.cell? ⟨w.heap.size, 0, none⟩ = some (.int .i64 4) := d0.cell 0
  have z0 : w5.cell? ⟨w.heap.size + 1, 0, none⟩ = some (.int .i64 4) := d1.cell 0
  have z1 : w5.cell? ⟨w.heap.size + 1, 1, none⟩ = some (.string ⟨#[]⟩) := d1.cell 1
  have z2 : w5.cell? ⟨w.heap.size + 1, 2, none⟩ = some (.string ⟨#[]⟩) := d1.cell 2
  have z3 : w5.cell? ⟨w.heap.size + 1, 3, none⟩ = some (.int .i64 0) := d1.cell 3
  have z4 : w5.cell? ⟨w.heap.size + 1, 4, none⟩ = some (.int .i64 0) := d1.cell 4
  have HO5 := Lib.hid (HO4.out.trans' ho5 fun k hk (e : k = w.heap.size + 1 + 1 ∨ k = w.heap.size + 1) => by omega)
  rw [Bool.true_and, show (numIn n 1 16777215 && nameOk A) = entOk n A from rfl] at x0
  clear d0 d1 d2 ho5
  cases hb : entOk n A with
  | true =>
    rw [hb] at x0
    have HE : Hid (EntAns n A w (.returned (.int .i64 0)) w5) := Lib.hid ⟨by rw [hb]; rfl, HO5.out⟩
    clear hb
    go_wp2_with fail
    go_ret
    exact HE.out
  | false =>
    rw [hb] at x0
    have HE : Hid (EntAns n A w (.returned (.int .i64 1)) w5) := Lib.hid ⟨by rw [hb]; rfl, HO5.out⟩
    clear hb
    go_wp2_with fail
    go_ret
    exact HE.out
end
end Go.Proofs.YtklfkocebhhgcaaGreat
namespace Go.Proofs.YtklfkocebhhgcaaGreat
open Go.RowKit Go.Proofs Go.Shelf
set_option maxRecDepth 20000
attribute [local go_sem] Oper.semAt_some
section
variable {w w' : World}
def dpre (n : Int) : Str := (100 : UInt8) :: be3i n
def ekey (n : Int) (A : Str) : Str := (100 : UInt8) :: (be3i n ++ A)
theorem entOk_len {n : Int} {A : Str} (h : entOk n A = true) : 1 ≤ A.length ∧ A.length ≤ 64 := by
  unfold entOk nameOk at h
  simp only [Bool.and_eq_true, decide_eq_true_iff] at h
  exact ⟨h.2.1, h.2.2.1⟩
def BytOut (n : Int) (A : Str) (w : World) (e : Ending) (w' : World) : Prop := e = .returned (if entOk n A then .tuple #[.string ⟨(ekey n A).toArray⟩, .int .i64 0] else .tuple #[.string ⟨#[]⟩, .int .i64 1]) ∧ Only NoB w w'
set_option maxHeartbeats 2000000 in
theorem bytes_ent (n : Int) (A : Str) (w : World) : Calls Tryz.prog 113 #[.agg (keyV 4 A [] n 0)] w (BytOut n A w) := by
  obtain ⟨W0, hW0⟩ : ∃ W0, W0 = w.alloc (.cells (keyV 4 A [] n 0) 112) := ⟨_, rfl⟩
  have ho0 : Only NoB w W0 := by rw [hW0]; exact (Only.refl NoB w).alloc _
  have c0 : Blk W0 w.heap.size 112 (keyV 4 A [] n 0) := by rw [hW0]; exact Blk.new w _ _
  have HC := Lib.hid (check_ent n A W0)
  have HO0 := Lib.hid ho0
  have HC0 := Lib.hid c0
  have HW0 := Lib.hid hW0
  clear ho0 c0 hW0
  unfold keyV at HC HW0 ⊢
  cases hb : entOk n A with
  | false =>
    have HB := Lib.hid hb
    clear hb
    go_enter Tryz.func113, Tryz.ntmps113
    go_wp2_with fail
    rw [← HW0.out]
    refine HC.out.mono ?_
    rintro e w1 ⟨rfl, ho1⟩
    have HE : Hid (BytOut n A w (.returned (.tuple #[.string ⟨#[]⟩, .int .i64 1])) w1) := Lib.hid ⟨by rw [HB.out]; rfl, HO0.out.trans ho1⟩
    have hbe := HB.out
    rw [hbe]
    clear ho1 hbe
    go_wp2_with fail
    go_ret2
    exact HE.out
  | true =>
    have HB := Lib.hid hb
    clear hb
    go_enter Tryz.func113, Tryz.ntmps113
    go_wp2_with fail
    rw [← HW0.out]
    refine HC.out.mono ?_
    rintro e w1 ⟨rfl, ho1⟩
    have c1 := HC0.out.only ho1 id
    have hbe := HB.out
    rw [hbe]
    have x0 : w1.cell? ⟨w.heap.size, 0, none⟩ = some (.int .i64 4) := c1.cell 0
    have HC1 := Lib.hid c1
    have HO1 := Lib.hid (HO0.out.trans ho1)
    have HL := Lib.hid (letter_ok (w := w1) 4 (by omega) (by omega))
    clear ho1 c1 HC hbe
    go_wp2_with fail
    refine HL.out.mono ?_
    rintro e w2 ⟨rfl, rfl⟩
    go_upto_region 12 with fail
    refine hB _ 9 (fun w' => w'.cell? ⟨w.heap.size, 3, none⟩ = some (.int .i64 n) ∧ w'.cell? ⟨w.heap.size, 1, none⟩ = some (.string ⟨A.toArray⟩)) (⟨HC1.out.drew.cell 3, HC1.out.drew.cell 1⟩) (fun hHeld => ?_)
    obtain ⟨z0, hz0⟩ : ∃ z, z = w1.drew := ⟨_, rfl⟩
    rw [← hz0] at hHeld ⊢
    have ha : Only NoB w1 z0 := by rw [hz0]; exact (Only.refl NoB w1).drew
    clear hz0
    have hb1 := bytes_text (be3i n) A
    have hb2 := bytes_text (letterOf 4) (be3i n ++ A)
    have hlA := entOk_len HB.out
    have hg1 : ¬ 9223372036854775807 < 3 + A.length := by omega
    have hg2 : ¬ 9223372036854775807 < 1 + (3 + A.length) := by omega
    have hl1 : (be3i n).length = 3 := rfl
    have hl3 : (letterOf 4).length = 1 := rfl
    refine hT 0 46 ?_
    refine hT 1 47 ?_
    refine hT 2 48 ?_
    refine hT 4 50 ?_
    refine hT 5 51 ?_
    refine hE 3 (fun o ho K hK => ?_)
    cases ho
    go_simp
    refine (number_any n).mono ?_
    rintro e zc ⟨rfl, hq⟩
    replace ha := ha.trans hq
    refine hK.out _ _ (⟨(HC1.out.only ha id).cell 3, (HC1.out.only ha id).cell 1⟩) (fun hHeld => ?_)
    clear hK K
    try simp only [Act.put, List.setIfInBounds_toArray, List.set_cons_zero, List.set_cons_succ]
    refine hT 6 52 ?_
    refine hT 7 53 ?_
    refine hT 8 5 ?_
    refine wpAnyH_done (by kernel_rfl) ?_ _
    refine NoPanic.normal ?_
    go_wp2_with fail
    refine bodyPost_ret (results_tmp2 rfl _ _ _) rfl ?_
    exact ⟨by rw [HB.out]; rfl, HO1.out.trans ha⟩
def preAnsD (n : Int) : Value := if 1 ≤ n ∧ n ≤ 16777215 then .tuple #[.string ⟨((100 : UInt8) :: be3i n).toArray⟩, .int .i64 0] else .tuple #[.string ⟨#[]⟩, .int .i64 1]
set_option maxHeartbeats 2000000 in
theorem prefix_ent (n : Int) :
    Calls Tryz.prog 56 #[.agg #[.int .i64 4, .string ⟨#[]⟩, .string ⟨#[]⟩, .int .i64 n, .int .i64 0]] w fun e w' => e = .returned (preAnsD n) ∧ Only NoB w w' := by
  obtain ⟨W0, hW0⟩ : ∃ W0, W0 = w.alloc (.cells #[.int .i64 4, .string ⟨#[]⟩, .string ⟨#[]⟩, .int .i64 n, .int .i64 0] 112) := ⟨_, rfl⟩
  have ho0 : Only NoB w W0 := by rw [hW0]; exact (Only.refl NoB w).alloc _
  have c0 : Blk W0 w.heap.size 112 #[.int .i64 4, .string ⟨#[]⟩, .string ⟨#[]⟩, .int .i64 n, .int .i64 0] := by rw [hW0]; exact Blk.new w _ _
  have x0 := c0.cell 0
  have x3 := c0.cell 3
  have HO0 := Lib.hid ho0
  have HW0 := Lib.hid hW0
  have HK := Lib.hid (key_within (w := W0) (n := 4) (l := 1) (h := 10) ⟨by omega, by omega⟩)
  clear ho0 c0 hW0
  go_enter Tryz.func56, Tryz.ntmps56
  go_wp2_with fail
  rw [← HW0.out]
  refine HK.out.mono ?_
  rintro e w1 ⟨rfl, rfl⟩
  go_upto_region 6 with fail
  refine hB _ 8 (fun w' => w'.cell? ⟨w.heap.size, 0, none⟩ = some (.int .i64 4) ∧ w'.cell? ⟨w.heap.size, 3, none⟩ = some (.int .i64 n)) (⟨x0, x3⟩) (fun hHeld => ?_)
  obtain ⟨z0, hz0⟩ : ∃ z, z = W0.drew := ⟨_, rfl⟩
  rw [← hz0] at hHeld ⊢
  have ha : Only NoB W0 z0 := by rw [hz0]; exact (Only.refl NoB W0).drew
  clear hz0
  refine hT 0 14 ?_
  refine hT 1 15 ?_
  refine hT 3 17 ?_
  refine hT 4 18 ?_
  refine hE 2 (fun o ho K hK => ?_)
  cases ho
  go_simp
  refine (within_ok n 1 16777215).mono ?_
  rintro e zw ⟨rfl, rfl⟩
  refine hK.out _ _ (⟨(ha).cell x0 id, (ha).cell x3 id⟩) (fun hHeld => ?_)
  clear hK K
  try simp only [Act.put, List.setIfInBounds_toArray, List.set_cons_zero, List.set_cons_succ]
  refine hE 5 (fun o ho K hK => ?_)
  cases ho
  go_simp
  refine (number_any n).mono ?_
  rintro e zc ⟨rfl, hq⟩
  replace ha := ha.trans hq
  refine hK.out _ _ (⟨(ha).cell x0 id, (ha).cell x3 id⟩) (fun hHeld => ?_)
  clear hK K
  try simp only [Act.put, List.setIfInBounds_toArray, List.set_cons_zero, List.set_cons_succ]
  refine hT 6 4 ?_
  refine hT 7 5 ?_
  refine wpAnyH_done (by kernel_rfl) ?_ _
  refine NoPanic.normal ?_
  by_cases hv : 1 ≤ n ∧ n ≤ 16777215
  · have HV := Lib.hid hv
    obtain ⟨hv1, hv2⟩ := hv
    have hb := bytes_text (letterOf 4) (be3i n)
    have hl1 : (be3i n).length = 3 := rfl
    have hl3 : (letterOf 4).length = 1 := rfl
    have HA := Lib.hid ha
    clear ha
    go_wp2_with fail
    refine (letter_ok 4 (by omega) (by omega)).mono ?_
    rintro e z5 ⟨rfl, rfl⟩
    go_wp2_with fail
    refine bodyPost_ret (results_tmp2 rfl _ _ _) rfl ?_
    exact ⟨by rw [preAnsD, if_pos HV.out]; rfl, HO0.out.trans HA.out⟩
  · have HV := Lib.hid hv
    have HA := Lib.hid ha
    clear ha
    have hv2 : ¬ (1 ≤ n) ∨ ¬ (n ≤ 16777215) := by omega
    clear hv
    rcases hv2 with hv | hv
    · go_wp2_with fail
      refine bodyPost_ret (results_tmp2 rfl _ _ _) rfl ?_
      exact ⟨by rw [preAnsD, if_neg HV.out]; rfl, HO0.out.trans HA.out⟩
    · go_wp2_with fail
      refine bodyPost_ret (results_tmp2 rfl _ _ _) rfl ?_
      exact ⟨by rw [preAnsD, if_neg HV.out]; rfl, HO0.out.trans HA.out⟩
end
end Go.Proofs.YtklfkocebhhgcaaGreat
namespace Go.Proofs.YtklfkocebhhgcaaGreat
open Go.RowKit Go.Proofs Go.Shelf
set_option maxRecDepth 20000
attribute [local go_sem] Oper.semAt_some
section
variable {w w' : World} {l : Str}
def foldN (l : Str) : Nat := l.foldl (fun n b => n * 256 + b.toNat) 0
theorem foldN_snoc (l : Str) (b : UInt8) : foldN (l ++ [b]) = foldN l * 256 + b.toNat := by simp [foldN, List.foldl_append]
theorem foldN_take {k : Nat} {b : UInt8} (h : l[k]? = some b) : foldN (l.take (k + 1)) = foldN (l.take k) * 256 + b.toNat := by
  rw [List.take_add_one, h]
  exact foldN_snoc _ b
theorem foldN_lt (l : Str) : ∀ k, foldN (l.take k) < 256 ^ k
  | 0 => by simp [foldN]
  | k + 1 => by
    have h1 := foldN_lt l k
    cases hb : l[k]? with
    | none => 
      have : l.take (k + 1) = l.take k := by rw [List.take_add_one, hb]; simp
      rw [this, Nat.pow_succ]; omega
    | some b =>
      rw [foldN_take hb, Nat.pow_succ]
      have := b.toNat_lt
      omega
theorem or_step (n x : Nat) (hn : n < 1099511627776) (hx : x < 256) : bits BinOp.or IntKind.i64 (wrap64 ((n : Int) * 256)) (x : Int) = ((n * 256 + x : Nat) : Int) := by
  have e1 : wrap64 ((n : Int) * 256) = ((n * 256 : Nat) : Int) := by unfold wrap64; omega
  rw [e1, i64_or_nat _ _ (by omega) (by omega), nat_join 8 (n * 256) x (by omega) (by omega)]
theorem str_bytes (w : World) (d : Str) : ∃ cp W3, (convert 9 103 (.string ⟨d.toArray⟩)).run Tryz.prog w = .ok (.slice (some ⟨w.heap.size, 0, none⟩) d.length cp) W3 ∧ Bytes W3 (fun k => k = w.heap.size) (.slice (some ⟨w.heap.size, 0, none⟩) d.length cp) d ∧ Only NoB w W3 := by
  have hr : (ByteArray.mk d.toArray).size = d.length := by show d.toArray.size = d.length; simp
  have hcv := Lib.run_convert_string_bytes (P := Tryz.prog) w 9 103 5 ⟨d.toArray⟩ (u := .string) (by kernel_rfl) (by kernel_rfl) (by kernel_rfl)
  rw [hr] at hcv
  refine ⟨_, _, hcv, ⟨_, _, rfl, le_grownCap _ _ _ _, by simp, fun _ => ⟨_, rfl, rfl, fun j u hu => ?_⟩⟩, bytesWorld_only _ _ _⟩
  have hj : j < d.length := by have := (List.getElem?_eq_some_iff.1 hu).1; simpa using this
  rw [Addr.add_lit, Nat.zero_add, Lib.bytesWorld_cell _ _ _ _ (by show j < d.toArray.size; simpa using hj)]
  rw [List.getElem?_map, List.getElem?_eq_getElem hj] at hu
  have hu : byteV d[j] = u := by simpa using hu
  rw [← hu]
  simp [byteV, List.getElem?_eq_getElem hj]
set_option maxHeartbeats 1000000 in
theorem value_ok (l : Str) (hl : l.length ≤ 5) (w : World) : Calls Tryz.prog 121 #[.string ⟨l.toArray⟩] w fun e w' => e = .returned (.int .i64 (foldN l)) ∧ Only NoB w w' := by
  obtain ⟨cp, W3, hcv, hby, ho⟩ := str_bytes w l
  have HBY := Lib.hid hby
  have HO := Lib.hid ho
  clear hby ho
  go_enter Tryz.func121, Tryz.ntmps121
  go_wp2_with fail
  go_loop [9, 3] (fun i n => ∃ k : Nat, k ≤ l.length ∧ i = .int .i64 k ∧ n = .int .i64 (foldN (l.take k))) (fun i _ => l.length - (intOf i).toNat)
  case atStart => exact ⟨0, Nat.zero_le _, rfl, rfl⟩
  case round =>
    obtain ⟨k, hk, rfl, rfl⟩ := hrel
    by_cases hlt : k < l.length
    · obtain ⟨g, off, c', hve, _, _, hcell⟩ := Rd.open_ HBY.out (by omega)
      injection hve with q1 q2 q3
      injection q1 with q1
      injection q1 with q1 q4
      subst q1; subst q4
      obtain ⟨b, hb⟩ : ∃ b, l[k]? = some b := ⟨_, List.getElem?_eq_getElem hlt⟩
      have c1 := hcell k (.int .u8 b.toNat) (by rw [List.getElem?_map, hb]; rfl)
      rw [Nat.zero_add] at c1
      have hft := foldN_take hb
      have hfl := foldN_lt l k
      have h5 : 256 ^ k ≤ 256 ^ 4 := Nat.pow_le_pow_right (by omega) (by omega)
      have hbl := b.toNat_lt
      have hst := or_step (foldN (l.take k)) b.toNat (by omega) hbl
      obtain ⟨n, hn⟩ : ∃ n, n = foldN (l.take k) := ⟨_, rfl⟩
      rw [← hn] at hft hst ⊢
      have HFT := Lib.hid hft
      clear hcell hb hft hfl h5 hn q2 q3
      go_wp2_with fail
      exact ⟨⟨k + 1, by omega, by go_num, by rw [HFT.out]; push_cast; rfl⟩, by simp [intOf]; omega⟩
    · obtain rfl : k = l.length := by omega
      rw [List.take_length]
      go_wp2_with fail
      go_ret
      exact ⟨rfl, HO.out⟩
def CutOut (w : World) (e : Ending) (w' : World) : Prop := ∃ a b t, e = .returned (.tuple #[.string a, .string b, .bool t]) ∧ Only NoB w w'
theorem firstIdx_range (s : ByteArray) (c : UInt8) : firstIdx s c = -1 ∨ ∃ i : Nat, firstIdx s c = i ∧ i < s.size := by
  unfold firstIdx
  split
  · rename_i i hi
    have := List.mem_of_find?_eq_some hi
    exact .inr ⟨i, rfl, by simpa using this⟩
  · exact .inl rfl
def IdxOut (s : Str) (w : World) (e : Ending) (w' : World) : Prop := ∃ v : Int, e = .returned (.int .i64 v) ∧ (v = -1 ∨ ∃ i : Nat, v = i ∧ i < s.length) ∧ w = w'
theorem index_zero (s : Str) (w : World) : Calls Tryz.prog 225 #[.string ⟨s.toArray⟩, .string ⟨#[0]⟩] w (IdxOut s w) := by
  by_cases h0 : s = [0]
  · subst h0
    have hq : ([(0 : UInt8)] == [0]) = true := by decide
    go_enter Tryz.func225, Tryz.ntmps225
    go_wp2_with fail
    go_ret
    exact ⟨0, rfl, .inr ⟨0, rfl, by decide⟩, rfl⟩
  · have HI := Lib.hid (sib_ok ⟨s.toArray⟩ 0 w)
    have HR := Lib.hid (firstIdx_range ⟨s.toArray⟩ 0)
    have hq : ([(0 : UInt8)] == s) = false := by simpa using fun e : [0] = s => h0 e.symm
    have hx : ∀ h, ((⟨#[0]⟩ : ByteArray)[0]'h).toNat = 0 := fun _ => rfl
    go_enter Tryz.func225, Tryz.ntmps225
    go_wp2_with fail
    refine HI.out.mono ?_
    rintro e w1 ⟨rfl, rfl⟩
    go_wp2_with fail
    go_ret
    exact ⟨_, rfl, HR.out, rfl⟩
set_option maxHeartbeats 1000000 in
theorem cut_any (s : Str) (hs : s.length ≤ 1000000) (w : World) : Calls Tryz.prog 120 #[.string ⟨s.toArray⟩, .string ⟨#[0]⟩] w (CutOut w) := by
  have HX := Lib.hid (index_zero s w)
  have HC : Hid (Calls Tryz.prog 190 #[.string ⟨s.toArray⟩, .string ⟨#[0]⟩] w (CutOut w)) := Lib.hid (by
    obtain ⟨ls, hls⟩ : ∃ ls, ls = s.length := ⟨_, rfl⟩
    have hls' : s.length = ls := hls.symm
    go_enter Tryz.func190, Tryz.ntmps190
    go_wp2_with fail
    refine HX.out.mono ?_
    rintro e w1 ⟨v, rfl, hv | ⟨i, rfl, hi⟩, rfl⟩
    · subst hv
      go_wp2_with fail
      go_ret3
      exact ⟨_, _, _, rfl, Only.refl _ _⟩
    · have hi2 : (i : Int) < ls := by omega
      have hi3 : (i : Int) ≤ ls := by omega
      have hi4 : IntKind.i64.wrap ((i : Int) + 1) = (i : Int) + 1 := by rw [IntKind.wrap_i64]; omega
      have hi5 : (i : Int) + 1 ≤ ls := by omega
      clear hls
      go_wp2_with fail
      go_region
      all_goals go_wp2_with fail
      all_goals go_ret3
      all_goals exact ⟨_, _, _, rfl, (Only.refl NoB w).drew⟩)
  go_enter Tryz.func120, Tryz.ntmps120
  go_wp2_with fail
  refine HC.out.mono ?_
  rintro e w1 ⟨a, b, t, rfl, ho⟩
  have HO := Lib.hid ho
  clear ho
  go_wp2_with fail
  go_ret3
  exact ⟨_, _, _, rfl, HO.out⟩
end
end Go.Proofs.YtklfkocebhhgcaaGreat
namespace Go.Proofs.YtklfkocebhhgcaaGreat
open Go.RowKit Go.Proofs Go.Shelf
set_option maxRecDepth 20000
attribute [local go_sem] Oper.semAt_some
section
variable {w w' : World}
theorem ext_str (d : Str) (a b : Nat) : (ByteArray.mk d.toArray).extract a b = ⟨((d.drop a).take (b - a)).toArray⟩ := by
  apply ByteArray.ext
  rw [ByteArray.data_extract]
  simp
theorem foldN_be3 {n : Int} (h0 : 0 ≤ n) (h1 : n ≤ 16777215) : (foldN (be3i n) : Int) = n := by
  obtain ⟨k, rfl⟩ := Int.eq_ofNat_of_zero_le h0
  rw [be3i_nat (by omega)]
  simp only [foldN, be3, List.foldl_cons, List.foldl_nil, UInt8.toNat_ofNat']
  omega
theorem entOk_num {n : Int} {A : Str} (h : entOk n A = true) : 1 ≤ n ∧ n ≤ 16777215 := by
  unfold entOk numIn at h
  simp only [Bool.and_eq_true, decide_eq_true_iff] at h
  exact h.1
theorem key5_set {w : World} {o : Nat} (hB : ∃ z0 z1 z2 z3 z4, Blk w o 112 #[z0, z1, z2, z3, z4]) (a b c d e : Value) :
    Blk (((((w.setCell ⟨o, 0, none⟩ a).setCell ⟨o, 1, none⟩ b).setCell ⟨o, 2, none⟩ c).setCell ⟨o, 3, none⟩ d).setCell ⟨o, 4, none⟩ e) o 112 #[a, b, c, d, e] ∧
    Only (fun k => k = o) w (((((w.setCell ⟨o, 0, none⟩ a).setCell ⟨o, 1, none⟩ b).setCell ⟨o, 2, none⟩ c).setCell ⟨o, 3, none⟩ d).setCell ⟨o, 4, none⟩ e) := by
  obtain ⟨z0, z1, z2, z3, z4, hB⟩ := hB
  exact ⟨((((hB.set_ 0 a).set_ 1 b).set_ 2 c).set_ 3 d).set_ 4 e, (((((Only.refl (fun k => k = o) w).setCell (p := ⟨o, 0, none⟩) (.inl rfl) a).setCell (p := ⟨o, 1, none⟩) (.inl rfl) b).setCell (p := ⟨o, 2, none⟩) (.inl rfl) c).setCell (p := ⟨o, 3, none⟩) (.inl rfl) d).setCell (p := ⟨o, 4, none⟩) (.inl rfl) e⟩
def ParOut (n : Int) (A : Str) (w : World) (e : Ending) (w' : World) : Prop := e = .returned (.tuple #[.agg (keyV 4 A [] n 0), .int .i64 0]) ∧ Only NoB w w'
set_option maxHeartbeats 4000000 in
theorem parse_ent {n : Int} {A : Str} (h : entOk n A = true) (w : World) : Calls Tryz.prog 58 #[.string ⟨(ekey n A).toArray⟩] w (ParOut n A w) := by
  obtain ⟨hn1, hn2⟩ := entOk_num h
  obtain ⟨ha1, ha2⟩ := entOk_len h
  obtain ⟨s, hs⟩ : ∃ s, s = ekey n A := ⟨_, rfl⟩
  obtain ⟨ah, hah⟩ : ∃ ah, ah = be3i n := ⟨_, rfl⟩
  have hal : ah.length = 3 := by rw [hah]; rfl
  obtain ⟨rest, hre⟩ : ∃ rest, rest = ah ++ A := ⟨_, rfl⟩
  have hs2 : s = 100 :: rest := by rw [hs, hre, hah]; rfl
  obtain ⟨lr, hlr⟩ : ∃ lr, lr = rest.length := ⟨_, rfl⟩
  have hlr2 : lr = A.length + 3 := by rw [hlr, hre]; simp [hal]; omega
  obtain ⟨ls, hls⟩ : ∃ ls, ls = s.length := ⟨_, rfl⟩
  have hls2 : ls = lr + 1 := by rw [hls, hs2, hlr]; rfl
  have e1 : (⟨s.toArray⟩ : ByteArray).extract 1 ls = ⟨rest.toArray⟩ := by rw [ext_str, hs2, hls2, hlr]; simp
  have e2 : (⟨rest.toArray⟩ : ByteArray).extract 0 3 = ⟨ah.toArray⟩ := by rw [ext_str, hre]; simp [hal]
  have e3 : (⟨rest.toArray⟩ : ByteArray).extract 3 lr = ⟨A.toArray⟩ := by rw [ext_str, hlr2, hre]; simp [hal]
  have hx0 : ∀ h, ((⟨s.toArray⟩ : ByteArray)[0]'h) = 100 := byte_at (s := s) (i := 0) (b := 100) (by rw [hs2]; rfl)
  have HIB := Lib.hid (show ∀ w, Calls Tryz.prog 119 #[.string ⟨#[110, 105, 99, 100, 112, 114, 117, 102, 103, 116]⟩, .int .u8 100] w fun e w' => e = .returned (.int .i64 3) ∧ w = w' from fun w => ib_ok _ 100 w)
  have HCU := Lib.hid fun w => cut_any rest (by omega) w
  have HVA := value_ok ah (by omega)
  have hfo : (foldN ah : Int) = n := by rw [hah]; exact foldN_be3 (by omega) hn2
  rw [hfo] at HVA
  have HVA := Lib.hid HVA
  have HBY := fun w => bytes_ent n A w
  unfold BytOut at HBY
  rw [h] at HBY
  rw [← hs] at HBY ⊢
  simp only [if_true] at HBY
  have HBY := Lib.hid HBY
  have hls' : s.length = ls := hls.symm
  have hlr' : rest.length = lr := hlr.symm
  have hne : s.isEmpty = false := by rw [hs2]; rfl
  have hlr3 : (3 : Int) ≤ lr := by omega
  have hls3 : (1 : Int) ≤ ls := by omega
  clear hs hah hre hs2 hlr hlr2 hls hls2 h ha1 ha2 hfo
  unfold keyV at HBY
  go_enter Tryz.func58, Tryz.ntmps58
  go_wp2_with fail
  refine (HIB.out _).mono ?_
  rintro e w1 ⟨rfl, rfl⟩
  go_wp2_with fail
  refine (HCU.out _).mono ?_
  rintro e w2 ⟨ca, cb, ct, rfl, ho2⟩
  have hWa : (w.alloc (.cells #[.int .i64 0, .string ⟨#[]⟩, .string ⟨#[]⟩, .int .i64 0, .int .i64 0] 112)).alloc (.cells #[.int .i64 4, .string ⟨#[]⟩, .string ⟨#[]⟩, .int .i64 0, .int .i64 0] 112) = allocs w [(#[.int .i64 0, .string ⟨#[]⟩, .string ⟨#[]⟩, .int .i64 0, .int .i64 0], 112), (#[.int .i64 4, .string ⟨#[]⟩, .string ⟨#[]⟩, .int .i64 0, .int .i64 0], 112)] := rfl
  have c0 := (blk_of hWa 0 rfl).only ho2 id
  have c1 := (blk_of hWa 1 rfl).only ho2 id
  have ho : Only NoB w w2 := by rw [hWa] at ho2; exact (allocs_only _ _).trans ho2
  have x0 : w2.cell? ⟨w.heap.size + 1, 0, none⟩ = some (.int .i64 4) := c1.cell 0
  have C0 := Lib.hid c0
  have C1 := Lib.hid c1
  have HO := Lib.hid ho
  have HVA2 := Lib.hid HVA
  clear hWa c0 c1 ho ho2
  go_wp2_with fail
  refine (HVA.out _).mono ?_
  rintro e w3 ⟨rfl, ho3⟩
  have c0 := C0.out.only ho3 id
  have c1 := C1.out.only ho3 id
  have f1 := c1.frozen 1
  have f3 := c1.frozen 3
  have g3 : w3.cell? ⟨w.heap.size + 1, 3, none⟩ = some (.int .i64 0) := c1.cell 3
  have c1' := (c1.set_ 3 (.int .i64 n)).set_ 1 (.string ⟨A.toArray⟩)
  have k1 : (w3.setCell ⟨w.heap.size + 1, 3, none⟩ (.int .i64 n)).cell? ⟨w.heap.size + 1, 1, none⟩ = some (.string ⟨#[]⟩) := (c1.set_ 3 (.int .i64 n)).cell 1
  have k1f := (c1.set_ 3 (.int .i64 n)).frozen 1
  obtain ⟨W4, hW4⟩ : ∃ W4, W4 = (w3.setCell ⟨w.heap.size + 1, 3, none⟩ (.int .i64 n)).setCell ⟨w.heap.size + 1, 1, none⟩ (.string ⟨A.toArray⟩) := ⟨_, rfl⟩
  have C1' : Hid (Blk W4 (w.heap.size + 1) 112 #[.int .i64 4, .string ⟨A.toArray⟩, .string ⟨#[]⟩, .int .i64 n, .int .i64 0]) := Lib.hid (by rw [hW4]; exact c1')
  have C0' : Hid (Blk W4 w.heap.size 112 #[.int .i64 0, .string ⟨#[]⟩, .string ⟨#[]⟩, .int .i64 0, .int .i64 0]) := Lib.hid (by rw [hW4]; exact (c0.far (p := ⟨w.heap.size + 1, 3, none⟩) (by show w.heap.size ≠ w.heap.size + 1; omega) _).far (p := ⟨w.heap.size + 1, 1, none⟩) (by show w.heap.size ≠ w.heap.size + 1; omega) _)
  have HO4 : Hid (Only NoB w W4) := Lib.hid (by rw [hW4]; exact ((HO.out.trans ho3).setCell (.inr (by show w.heap.size ≤ w.heap.size + 1; omega)) _).setCell (.inr (by show w.heap.size ≤ w.heap.size + 1; omega)) _)
  have HW4 := Lib.hid hW4
  have y0 : W4.cell? ⟨w.heap.size + 1, 0, none⟩ = some (.int .i64 4) := C1'.out.cell 0
  have y1 : W4.cell? ⟨w.heap.size + 1, 1, none⟩ = some (.string ⟨A.toArray⟩) := C1'.out.cell 1
  have y2 : W4.cell? ⟨w.heap.size + 1, 2, none⟩ = some (.string ⟨#[]⟩) := C1'.out.cell 2
  have y3 : W4.cell? ⟨w.heap.size + 1, 3, none⟩ = some (.int .i64 n) := C1'.out.cell 3
  have y4 : W4.cell? ⟨w.heap.size + 1, 4, none⟩ = some (.int .i64 0) := C1'.out.cell 4
  have hby := HBY.out W4
  rw [hW4] at y0 y1 y2 y3 y4 hby
  have HB4 := Lib.hid hby
  clear c0 c1 c1' ho3 hW4 x0 hby
  go_wp2_with fail
  refine HB4.out.mono ?_
  rintro e w5 ⟨rfl, ho5⟩
  rw [← HW4.out] at ho5
  have d0 := C0'.out.only ho5 id
  have d1 := C1'.out.only ho5 id
  have z0 : w5.cell? ⟨w.heap.size + 1, 0, none⟩ = some (.int .i64 4) := d1.cell 0
  have z1 : w5.cell? ⟨w.heap.size + 1, 1, none⟩ = some (.string ⟨A.toArray⟩) := d1.cell 1
  have z2 : w5.cell? ⟨w.heap.size + 1, 2, none⟩ = some (.string ⟨#[]⟩) := d1.cell 2
  have z3 : w5.cell? ⟨w.heap.size + 1, 3, none⟩ = some (.int .i64 n) := d1.cell 3
  have z4 : w5.cell? ⟨w.heap.size + 1, 4, none⟩ = some (.int .i64 0) := d1.cell 4
  have o0 := d0.cell 0
  have o1 := d0.cell 1
  have o2 := d0.cell 2
  have o3 := d0.cell 3
  have o4 := d0.cell 4
  have p0 := d0.frozen 0
  have p1 := d0.frozen 1
  have p2 := d0.frozen 2
  have p3 := d0.frozen 3
  have p4 := d0.frozen 4
  have D0 := Lib.hid d0
  have HO5 := Lib.hid (HO4.out.trans ho5)
  clear d0 d1 ho5 y0 y1 y2 y3 y4 k1 k1f f1 f3 g3
  go_wp2_with fail
  (try simp only [Exit.inBlock, Exit.then])
  obtain ⟨hbf, hst⟩ := key5_set ⟨_, _, _, _, _, D0.out⟩ (.int .i64 4) (.string ⟨A.toArray⟩) (.string ⟨#[]⟩) (.int .i64 n) (.int .i64 0)
  refine bodyPost_ret (results_row_tmp rfl _ _ w.heap.size 112 _ rfl hbf (by kernel_rfl) (by kernel_rfl)) rfl ?_
  exact ⟨rfl, HO5.out.trans' hst fun k hk (e : k = w.heap.size) => by omega⟩
end
end Go.Proofs.YtklfkocebhhgcaaGreat
namespace Go.Proofs.YtklfkocebhhgcaaGreat
open Go.RowKit Go.Proofs Go.Shelf
set_option maxRecDepth 20000
attribute [local go_sem] Oper.semAt_some
section
variable {w w' : World}
def dirOk (n : Int) (A : Str) : Bool := entOk n A && (!decide (A = [46]) && !decide (A = [46, 46]))
def KeyOut (n : Int) (A : Str) (w : World) (e : Ending) (w' : World) : Prop := e = .returned (if dirOk n A then .tuple #[.string ⟨(ekey n A).toArray⟩, .int .i64 0] else .tuple #[.string ⟨#[]⟩, .int .i64 1]) ∧ Only NoB w w'
set_option maxHeartbeats 1000000 in
theorem dkey_ok (n : Int) (A : Str) (w : World) : Calls Tryz.prog 52 #[.int .i64 n, .string ⟨A.toArray⟩] w (KeyOut n A w) := by
  by_cases h1 : A = [46]
  · subst h1
    have hd : dirOk n [46] = false := by simp [dirOk]
    unfold KeyOut
    rw [hd]
    clear hd
    go_enter Tryz.func52, Tryz.ntmps52
    go_wp2_with fail
    go_ret2
    exact ⟨rfl, .refl _ _⟩
  · by_cases h2 : A = [46, 46]
    · subst h2
      have hd : dirOk n [46, 46] = false := by simp [dirOk]
      unfold KeyOut
      rw [hd]
      clear hd h1
      go_enter Tryz.func52, Tryz.ntmps52
      go_wp2_with fail
      go_ret2
      exact ⟨rfl, .refl _ _⟩
    · have hd : dirOk n A = entOk n A := by simp [dirOk, h1, h2]
      have hq1 : (A == [46]) = false := by simpa using h1
      have hq2 : (A == [46, 46]) = false := by simpa using h2
      unfold KeyOut
      rw [hd]
      obtain ⟨a, b, hab⟩ : ∃ a b, (if entOk n A then Value.tuple #[.string ⟨(ekey n A).toArray⟩, .int .i64 0] else .tuple #[.string ⟨#[]⟩, .int .i64 1]) = .tuple #[a, b] := by split <;> exact ⟨_, _, rfl⟩
      have HBY := bytes_ent n A w
      unfold BytOut keyV at HBY
      rw [hab] at HBY ⊢
      have HBY := Lib.hid HBY
      clear hab hd
      go_enter Tryz.func52, Tryz.ntmps52
      go_wp2_with fail
      refine HBY.out.mono ?_
      rintro e w1 ⟨rfl, ho⟩
      have HO := Lib.hid ho
      clear ho
      go_wp2_with fail
      go_ret2
      exact ⟨rfl, HO.out⟩
def numV (l : Str) : Nat := if l.length = 3 then foldN l else 0
theorem dnum_any {F : Nat → Prop} {v : Value} (l : Str) (hB : Bytes w F v l) : Calls Tryz.prog 55 #[v] w fun e w' => e = .returned (.int .i64 (numV l)) ∧ w' = w := by
  obtain ⟨p, c, rfl, hc, _, _⟩ := id hB
  have HBY := Lib.hid hB
  clear hB
  by_cases h3 : l.length = 3
  · have hv : numV l = foldN l := by rw [numV, if_pos h3]
    rw [hv]
    have hl3 : (l.length : Int) = 3 := by omega
    clear hv
    go_enter Tryz.func55, Tryz.ntmps55
    go_wp2_with fail
    go_loop [11, 3] (fun i n => ∃ k : Nat, k ≤ l.length ∧ i = .int .i64 k ∧ n = .int .i64 (foldN (l.take k))) (fun i _ => l.length - (intOf i).toNat)
    case atStart => exact ⟨0, Nat.zero_le _, rfl, rfl⟩
    case round =>
      obtain ⟨k, hk, rfl, rfl⟩ := hrel
      by_cases hlt : k < l.length
      · obtain ⟨g, off, c', hve, _, _, hcell⟩ := Rd.open_ HBY.out (by omega)
        injection hve with q1 q2 q3
        subst q1
        obtain ⟨b, hb⟩ : ∃ b, l[k]? = some b := ⟨_, List.getElem?_eq_getElem hlt⟩
        have c1 := hcell k (.int .u8 b.toNat) (by rw [List.getElem?_map, hb]; rfl)
        have hft := foldN_take hb
        have hfl := foldN_lt l k
        have h5 : 256 ^ k ≤ 256 ^ 4 := Nat.pow_le_pow_right (by omega) (by omega)
        have hbl := b.toNat_lt
        have hst := or_step (foldN (l.take k)) b.toNat (by omega) hbl
        obtain ⟨n, hn⟩ : ∃ n, n = foldN (l.take k) := ⟨_, rfl⟩
        rw [← hn] at hft hst ⊢
        have HFT := Lib.hid hft
        have hk3 : (k : Int) < 3 := by omega
        clear hcell hb hft hfl h5 hn q2 q3
        go_wp2_with fail
        exact ⟨⟨k + 1, by omega, by go_num, by rw [HFT.out]; push_cast; rfl⟩, by simp [intOf]; omega⟩
      · obtain rfl : k = l.length := by omega
        rw [List.take_length]
        go_wp2_with fail
        go_ret
        exact ⟨rfl, rfl⟩
  · have hv : numV l = 0 := by rw [numV, if_neg h3]
    rw [hv]
    have hl3 : ¬ (l.length : Int) = 3 := by omega
    clear hv
    go_enter Tryz.func55, Tryz.ntmps55
    go_wp2_with fail
    go_ret
    exact ⟨rfl, rfl⟩
end
end Go.Proofs.YtklfkocebhhgcaaGreat
namespace Go.Proofs.YtklfkocebhhgcaaGreat
open Go.RowKit Go.Proofs Go.Shelf
set_option maxRecDepth 20000
attribute [local go_sem] Oper.semAt_some
section
variable {w w' : World} {F G : Nat → Prop} {X : XC} {t m np own c : Nat} {M : List KV} {key : Str}
theorem kv_get (h : KvAt w F X t m np own M c) :
    Calls Tryz.prog 46 #[.pointer (some ⟨t, 0, none⟩), .string ⟨key.toArray⟩] w (KvOut w F X t m np own (.tuple #[.string ⟨((get key M).getD []).toArray⟩, .bool (get key M).isSome, .int .i64 0]) M c) := by
  obtain ⟨D, ht, hb, rfl, rfl, rfl, hkl⟩ := h
  refine (get_ok ht hb.1.m1 hb.1.m2 hb).mono ?_
  rintro e w1 ⟨rfl, F', h1, h6, h7⟩
  exact ⟨rfl, F', ⟨D, h1.at_, hb, rfl, rfl, rfl, hkl⟩, h6, h7⟩
def findI (M : List KV) (n : Int) (A : Str) : Nat × Nat :=
  if dirOk n A then (match get (ekey n A) M with | none => (0, 5) | some v => if numV v = 0 then (0, 4) else (numV v, 0)) else (0, 1)
def findA (r : Nat × Nat) : Value := .tuple #[.int .i64 (r.1 : Nat), .int .i64 (r.2 : Nat)]
set_option maxHeartbeats 2000000 in
theorem find_ok (n : Int) (A : Str) (h : KvAt w F X t m np own M c) :
    Calls Tryz.prog 14 #[.pointer (some ⟨t, 0, none⟩), .int .i64 n, .string ⟨A.toArray⟩] w (KvOut w F X t m np own (findA (findI M n A)) M c) := by
  have HK := dkey_ok n A w
  unfold KeyOut at HK
  by_cases hd : dirOk n A = true
  · rw [hd] at HK
    simp only [if_true] at HK
    have HK := Lib.hid HK
    obtain ⟨ek, hek⟩ : ∃ ek, ek = ekey n A := ⟨_, rfl⟩
    have HG0 : ∀ w1, Only NoB w w1 → Calls Tryz.prog 46 #[.pointer (some ⟨t, 0, none⟩), .string ⟨ek.toArray⟩] w1 (KvOut w1 F X t m np own (.tuple #[.string ⟨((get ek M).getD []).toArray⟩, .bool (get ek M).isSome, .int .i64 0]) M c) := fun w1 ho => kv_get (h.quit ho)
    have HGR : Hid (Grows F F w) := Lib.hid (Grows.refl F w)
    unfold findI
    rw [hd, ← hek]
    rw [← hek] at HK
    simp only [if_true]
    clear h hd hek
    cases hg : get ek M with
    | none =>
      simp only [hg, Option.getD_none, Option.isSome_none] at HG0
      have HG0 := Lib.hid HG0
      clear hg
      show Calls _ _ _ _ (KvOut w F X t m np own (.tuple #[.int .i64 (0 : Nat), .int .i64 (5 : Nat)]) M c)
      go_enter Tryz.func14, Tryz.ntmps14
      go_wp2_with fail
      refine HK.out.mono ?_
      rintro e w1 ⟨rfl, ho⟩
      have HG := Lib.hid (HG0.out w1 ho)
      have HO := Lib.hid ho
      clear ho
      go_wp2_with fail
      refine HG.out.mono ?_
      rintro e w2 ⟨rfl, hk⟩
      have HR : Hid (KvOut w F X t m np own (.tuple #[.int .i64 (0 : Nat), .int .i64 (5 : Nat)]) M c (.returned (.tuple #[.int .i64 (0 : Nat), .int .i64 (5 : Nat)])) w2) := Lib.hid (KvOut.trans (HO.out.mono fun _ _ h => h.elim) HGR.out ⟨rfl, hk⟩)
      clear hk
      go_wp2_with fail
      go_ret2
      exact HR.out
    | some v =>
      simp only [hg, Option.getD_some, Option.isSome_some] at HG0
      have HG0 := Lib.hid HG0
      clear hg
      obtain ⟨r, hr⟩ : ∃ r : Nat × Nat, r = (if numV v = 0 then ((0 : Nat), (4 : Nat)) else (numV v, 0)) := ⟨_, rfl⟩
      show Calls _ _ _ _ (KvOut w F X t m np own (findA (if numV v = 0 then ((0 : Nat), (4 : Nat)) else (numV v, 0))) M c)
      rw [← hr]
      have HR0 := Lib.hid hr
      clear hr
      go_enter Tryz.func14, Tryz.ntmps14
      go_wp2_with fail
      refine HK.out.mono ?_
      rintro e w1 ⟨rfl, ho⟩
      have HG := Lib.hid (HG0.out w1 ho)
      have HO := Lib.hid ho
      clear ho
      go_wp2_with fail
      refine HG.out.mono ?_
      rintro e w2 ⟨rfl, F2, hk, ho2, hg2⟩
      obtain ⟨cp, W3, hcv, hby, ho3⟩ := str_bytes w2 v
      have HN := Lib.hid (dnum_any v hby)
      have HR : Hid (KvOut w F X t m np own (findA r) M c (.returned (findA r)) W3) := Lib.hid (KvOut.trans (HO.out.mono fun _ _ h => h.elim) HGR.out ⟨rfl, F2, hk.quit ho3, ho2.trans (ho3.mono fun _ _ h => h.elim), hg2⟩)
      clear hk ho2 hg2 hby ho3
      unfold findA at HR
      by_cases hz : numV v = 0
      · have hre := HR0.out
        rw [if_pos hz] at hre
        rw [hz] at HN
        subst hre
        clear hz HR0
        go_wp2_with fail
        refine HN.out.mono ?_
        rintro e w4 ⟨rfl, rfl⟩
        go_wp2_with fail
        go_ret2
        exact HR.out
      · have hre := HR0.out
        rw [if_neg hz] at hre
        obtain ⟨q, hq⟩ : ∃ q, q = numV v := ⟨_, rfl⟩
        rw [← hq] at hz hre HN
        subst hre
        clear hq HR0
        have hz : ¬ (q : Int) = 0 := by omega
        go_wp2_with fail
        refine HN.out.mono ?_
        rintro e w4 ⟨rfl, rfl⟩
        go_wp2_with fail
        go_ret2
        exact HR.out
  · have hd : dirOk n A = false := by simpa using hd
    rw [hd] at HK
    have hf : findI M n A = (0, 1) := by rw [findI, hd]; rfl
    rw [hf]
    have HK := Lib.hid HK
    have HH := Lib.hid h
    clear h hd hf
    show Calls _ _ _ _ (KvOut w F X t m np own (.tuple #[.int .i64 (0 : Nat), .int .i64 (1 : Nat)]) M c)
    go_enter Tryz.func14, Tryz.ntmps14
    go_wp2_with fail
    refine HK.out.mono ?_
    rintro e w1 ⟨rfl, ho⟩
    have HO := Lib.hid ho
    clear ho
    go_wp2_with fail
    go_ret2
    exact ⟨rfl, F, HH.out.quit HO.out, HO.out.mono fun _ _ h => h.elim, Grows.refl F w⟩
theorem preAnsD_ok {n : Int} (h : 1 ≤ n ∧ n ≤ 16777215) : preAnsD n = .tuple #[.string ⟨(dpre n).toArray⟩, .int .i64 0] := by rw [preAnsD, if_pos h]; rfl
theorem preAnsD_bad {n : Int} (h : ¬ (1 ≤ n ∧ n ≤ 16777215)) : preAnsD n = .tuple #[.string ⟨#[]⟩, .int .i64 1] := by rw [preAnsD, if_neg h]
theorem dpre_len (n : Int) : (dpre n).length = 4 := rfl
theorem dcount_ok {n : Int} (hn : 1 ≤ n ∧ n ≤ 16777215) (h : KvAt w F X t m np own M c) (hlen : (under (dpre n) M).length ≤ 1000000) :
    Calls Tryz.prog 19 #[.pointer (some ⟨t, 0, none⟩), .int .i64 n] w (KvOut w F X t m np own (.tuple #[.int .i64 ((under (dpre n) M).length : Nat), .int .i64 0]) M c) := by
  have HP := prefix_ent (w := w) n
  rw [preAnsD_ok hn] at HP
  have HP := Lib.hid HP
  have HC0 : Hid (∀ w1, Only NoB w w1 → Calls Tryz.prog 59 _ w1 _) := Lib.hid fun w1 ho => kv_count (h.quit ho) (pre := dpre n) (by rw [dpre_len]; omega) hlen
  obtain ⟨L, hL⟩ : ∃ L, L = (under (dpre n) M).length := ⟨_, rfl⟩
  rw [← hL] at HC0 ⊢
  clear h hlen hL
  go_enter Tryz.func19, Tryz.ntmps19
  go_wp2_with fail
  refine HP.out.mono ?_
  rintro e w1 ⟨rfl, ho⟩
  have HO := Lib.hid ho
  have HD := Lib.hid (HC0.out w1 ho)
  clear ho
  go_wp2_with fail
  refine HD.out.mono ?_
  rintro e w2 ⟨rfl, hk⟩
  have HK : Hid (KvOut w F X t m np own (.tuple #[.int .i64 (L : Nat), .int .i64 0]) M c (.returned (.tuple #[.int .i64 (L : Nat), .int .i64 0])) w2) := Lib.hid (KvOut.trans (HO.out.mono fun _ _ h => h.elim) (Grows.refl F w) ⟨rfl, hk⟩)
  clear hk
  go_wp2_with fail
  go_ret2
  exact HK.out
theorem dcount_bad {n : Int} (hn : ¬ (1 ≤ n ∧ n ≤ 16777215)) :
    Calls Tryz.prog 19 #[.pointer (some ⟨t, 0, none⟩), .int .i64 n] w fun e w' => e = .returned (.tuple #[.int .i64 0, .int .i64 1]) ∧ Only NoB w w' := by
  have HP := prefix_ent (w := w) n
  rw [preAnsD_bad hn] at HP
  have HP := Lib.hid HP
  clear hn
  go_enter Tryz.func19, Tryz.ntmps19
  go_wp2_with fail
  refine HP.out.mono ?_
  rintro e w1 ⟨rfl, ho⟩
  have HO := Lib.hid ho
  clear ho
  go_wp2_with fail
  go_ret2
  exact ⟨rfl, HO.out⟩
end
end Go.Proofs.YtklfkocebhhgcaaGreat
namespace Go.Proofs.YtklfkocebhhgcaaGreat
open Go.RowKit Go.Proofs Go.Shelf
set_option maxRecDepth 20000
attribute [local go_sem] Oper.semAt_some
section
variable {w w' : World} {F G : Nat → Prop} {X : XC} {t m np own c : Nat} {M : List KV} {key : Str}
def remM (M : List KV) (n : Int) (A : Str) : List KV := if (findI M n A).2 = 0 then del (ekey n A) M else M
theorem findI_ok {n : Int} {A : Str} (h : (findI M n A).2 = 0) : dirOk n A = true ∧ (get (ekey n A) M).isSome = true := by
  unfold findI at h
  split at h
  · rename_i hd
    refine ⟨hd, ?_⟩
    split at h
    · simp at h
    · rename_i hv; rw [hv]; rfl
  · simp at h
theorem findI_bad {n : Int} {A : Str} (h : (findI M n A).2 ≠ 0) : (findI M n A).1 = 0 := by
  unfold findI at h ⊢
  split
  · rename_i hd
    rw [if_pos hd] at h
    split
    · rfl
    · rename_i hv
      rw [hv] at h
      simp only at h
      split
      · rfl
      · rename_i hz; rw [if_neg hz] at h; simp at h
  · rfl
set_option maxHeartbeats 2000000 in
theorem remove_ok (n : Int) (A : Str) (h : KvAt w F X t m np own M c) :
    Calls Tryz.prog 16 #[.pointer (some ⟨t, 0, none⟩), .int .i64 n, .string ⟨A.toArray⟩] w (KvOut w F X t m np own (findA (findI M n A)) (remM M n A) c) := by
  have HF := Lib.hid (find_ok n A h)
  have HGR : Hid (Grows F F w) := Lib.hid (Grows.refl F w)
  by_cases hz : (findI M n A).2 = 0
  · obtain ⟨hd, hg⟩ := findI_ok hz
    have hm : remM M n A = del (ekey n A) M := by rw [remM, if_pos hz]
    rw [hm]
    unfold findA at HF ⊢
    rw [hz] at HF ⊢
    obtain ⟨q, hq⟩ : ∃ q, q = (findI M n A).1 := ⟨_, rfl⟩
    rw [← hq] at HF ⊢
    have HK0 : Hid (∀ w1, Calls Tryz.prog 52 #[.int .i64 n, .string ⟨A.toArray⟩] w1 (KeyOut n A w1)) := Lib.hid fun w1 => dkey_ok n A w1
    unfold KeyOut at HK0
    rw [hd] at HK0
    simp only [if_true] at HK0
    obtain ⟨ek, hek⟩ : ∃ ek, ek = ekey n A := ⟨_, rfl⟩
    rw [← hek] at HK0 ⊢
    clear hd hg hm hz hq hek h
    go_enter Tryz.func16, Tryz.ntmps16
    go_wp2_with fail
    refine HF.out.mono ?_
    rintro e w1 ⟨rfl, F1, hk, ho, hgr⟩
    have H1 := Lib.hid hk
    have HO := Lib.hid ho
    have HG := Lib.hid hgr
    have HK := Lib.hid (HK0.out w1)
    clear hk ho hgr
    go_wp2_with fail
    refine HK.out.mono ?_
    rintro e w2 ⟨rfl, ho2⟩
    have HD := Lib.hid (kv_del (H1.out.quit ho2) (key := ek))
    have HO2 := Lib.hid (HO.out.trans (ho2.mono fun _ _ h => h.elim))
    have HG2 : Hid (Grows F F1 w) := HG
    clear ho2
    go_wp2_with fail
    refine HD.out.mono ?_
    rintro e w3 ⟨rfl, F3, hk, ho3, hg3⟩
    have HR : Hid (KvOut w F X t m np own (.tuple #[.int .i64 (q : Nat), .int .i64 (0 : Nat)]) (del ek M) c (.returned (.tuple #[.int .i64 (q : Nat), .int .i64 (0 : Nat)])) w3) := Lib.hid (KvOut.trans HO2.out HG2.out ⟨rfl, F3, hk, ho3, hg3⟩)
    clear hk ho3 hg3
    go_wp2_with fail
    go_ret2
    exact HR.out
  · have hm : remM M n A = M := by rw [remM, if_neg hz]
    rw [hm]
    have h0 := findI_bad hz
    unfold findA at HF ⊢
    rw [h0] at HF ⊢
    obtain ⟨q, hq⟩ : ∃ q, q = (findI M n A).2 := ⟨_, rfl⟩
    rw [← hq] at HF hz ⊢
    have hz : ¬ (q : Int) = 0 := by omega
    clear hm h0 hq h
    go_enter Tryz.func16, Tryz.ntmps16
    go_wp2_with fail
    refine HF.out.mono ?_
    rintro e w1 ⟨rfl, hk⟩
    have HR : Hid (KvOut w F X t m np own (.tuple #[.int .i64 (0 : Nat), .int .i64 (q : Nat)]) M c (.returned (.tuple #[.int .i64 (0 : Nat), .int .i64 (q : Nat)])) w1) := Lib.hid ⟨rfl, hk⟩
    clear hk
    go_wp2_with fail
    go_ret2
    exact HR.out
def addE (M : List KV) (n : Int) (A : Str) (x : Int) : Nat :=
  if dirOk n A = true ∧ (1 ≤ x ∧ x ≤ 16777215) then (if (get (ekey n A) M).isSome then 151 else 0) else 1
def addM (M : List KV) (n : Int) (A : Str) (x : Int) : List KV := if addE M n A x = 0 then ins (ekey n A) (be3i x) M else M
theorem ekey_len (n : Int) (A : Str) : (ekey n A).length = 4 + A.length := by simp [ekey, be3i]; omega
theorem dirOk_ent {n : Int} {A : Str} (h : dirOk n A = true) : entOk n A = true := by
  unfold dirOk at h
  simp only [Bool.and_eq_true] at h
  exact h.1
set_option maxHeartbeats 2000000 in
theorem add_ok (n : Int) (A : Str) (x : Int) (h : KvAt w F X t m np own M c) (hm : 400 ≤ m) (hc : c + 1 ≤ np - (own + 1)) :
    Calls Tryz.prog 12 #[.pointer (some ⟨t, 0, none⟩), .int .i64 n, .string ⟨A.toArray⟩, .int .i64 x] w (KvOut w F X t m np own (.int .i64 (addE M n A x : Nat)) (addM M n A x) (c + 1)) := by
  have HGR : Hid (Grows F F w) := Lib.hid (Grows.refl F w)
  have HK := dkey_ok n A w
  unfold KeyOut at HK
  by_cases hd : dirOk n A = true
  · by_cases hx : 1 ≤ x ∧ x ≤ 16777215
    · have hae : addE M n A x = (if (get (ekey n A) M).isSome then 151 else 0) := by rw [addE, if_pos ⟨hd, hx⟩]
      have hlen := entOk_len (dirOk_ent hd)
      have hek1 := ekey_len n A
      rw [hd] at HK
      simp only [if_true] at HK
      have HK := Lib.hid HK
      obtain ⟨ek, hek⟩ : ∃ ek, ek = ekey n A := ⟨_, rfl⟩
      rw [← hek] at HK hae hek1
      have hmo : 80 ≤ NodeD.most m := by unfold NodeD.most; omega
      have HP : Hid (PairOk m (ek, be3i x)) := Lib.hid ⟨by show 1 ≤ ek.length; omega, by show ek.length ≤ 255; omega, by show 3 ≤ 255; omega, by show ek.length + 3 ≤ _; omega⟩
      have HEL : Hid (ek.length ≤ 1000) := Lib.hid (by omega)
      have HC := Lib.hid hc
      have HG0 : Hid (∀ w1, Only NoB w w1 → Calls Tryz.prog 46 #[.pointer (some ⟨t, 0, none⟩), .string ⟨ek.toArray⟩] w1 (KvOut w1 F X t m np own (.tuple #[.string ⟨((get ek M).getD []).toArray⟩, .bool (get ek M).isSome, .int .i64 0]) M c)) := Lib.hid fun w1 ho => kv_get (h.quit ho)
      obtain ⟨hx1, hx2⟩ := hx
      cases hg : (get ek M).isSome with
      | true =>
        rw [hg] at hae HG0
        simp only [if_true] at hae
        have hm2 : addM M n A x = M := by rw [addM, hae]; rfl
        rw [hae, hm2]
        clear h hd hlen hek hek1 hae hm2 hmo hg hm hc
        go_enter Tryz.func12, Tryz.ntmps12
        go_wp2_with fail
        refine HK.out.mono ?_
        rintro e w1 ⟨rfl, ho⟩
        have HG := Lib.hid (HG0.out w1 ho)
        have HO := Lib.hid ho
        clear ho
        go_wp2_with fail
        refine HG.out.mono ?_
        rintro e w2 ⟨rfl, F2, hk, ho2, hg2⟩
        have HR : Hid (KvOut w F X t m np own (.int .i64 (151 : Nat)) M (c + 1) (.returned (.int .i64 (151 : Nat))) w2) := Lib.hid (KvOut.trans (HO.out.mono fun _ _ h => h.elim) HGR.out ⟨rfl, F2, hk.mono (by omega), ho2, hg2⟩)
        clear hk ho2 hg2
        go_wp2_with fail
        go_ret
        exact HR.out
      | false =>
        rw [hg] at hae HG0
        simp only [Bool.false_eq_true, if_false] at hae
        have hm2 : addM M n A x = ins ek (be3i x) M := by rw [addM, hae, hek]; rfl
        rw [hae, hm2]
        have HGF := Lib.hid hg
        clear h hd hlen hek hek1 hae hm2 hmo hg hm hc
        go_enter Tryz.func12, Tryz.ntmps12
        go_wp2_with fail
        refine HK.out.mono ?_
        rintro e w1 ⟨rfl, ho⟩
        have HG := Lib.hid (HG0.out w1 ho)
        have HO := Lib.hid ho
        clear ho
        go_wp2_with fail
        refine HG.out.mono ?_
        rintro e w2 ⟨rfl, F2, hk, ho2, hg2⟩
        have HK2 := Lib.hid hk
        have HO2 := Lib.hid ho2
        have HG2 := Lib.hid hg2
        clear hk ho2 hg2
        have hbc := be3i_cells x
        rw [show x / 65536 % 256 = x / 65536 by omega] at hbc
        have hcv := conv_new (w := w2) (n := 3) hbc rfl
        obtain ⟨W3, hW3⟩ : ∃ W3, W3 = w2.alloc (.cells [Value.int .u8 (x / 65536), .int .u8 (x / 256 % 256), .int .u8 (x % 256)].toArray 5) := ⟨_, rfl⟩
        have ho3 : Only NoB w2 W3 := by rw [hW3]; exact (Only.refl NoB w2).alloc _
        have HB := Lib.hid (kv_put (HK2.out.quit ho3) HC.out HP.out HEL.out)
        have HO3 := Lib.hid (HO2.out.trans (ho3.mono fun _ _ h => h.elim))
        have HW3 := Lib.hid hW3
        clear hbc ho3 hW3
        go_wp2_with fail
        rw [show w2.alloc (.cells #[Value.int .u8 (x / 65536), .int .u8 (x / 256 % 256), .int .u8 (x % 256)] 5) = W3 from HW3.out.symm]
        refine HB.out.mono ?_
        rintro e w4 ⟨rfl, F4, hk, ho4, hg4⟩
        have HR : Hid (KvOut w F X t m np own (.int .i64 (0 : Nat)) (ins ek (be3i x) M) (c + 1) (.returned (.int .i64 (0 : Nat))) w4) := Lib.hid (KvOut.trans (HO.out.mono fun _ _ h => h.elim) HGR.out (KvOut.trans HO3.out HG2.out ⟨rfl, F4, hk, ho4, hg4⟩))
        clear hk ho4 hg4
        go_wp2_with fail
        go_ret
        exact HR.out
    · have hae : addE M n A x = 1 := by rw [addE, if_neg fun h => hx h.2]
      have hm2 : addM M n A x = M := by rw [addM, hae]; rfl
      rw [hae, hm2]
      rw [hd] at HK
      simp only [if_true] at HK
      have HK := Lib.hid HK
      have HH := Lib.hid h
      have HX : ¬ (1 ≤ x) ∨ ¬ (x ≤ 16777215) := by omega
      obtain ⟨ek, hek⟩ : ∃ ek, ek = ekey n A := ⟨_, rfl⟩
      rw [← hek] at HK
      clear h hd hae hm2 hm hc hx hek
      rcases HX with hx | hx
      all_goals
        go_enter Tryz.func12, Tryz.ntmps12
        go_wp2_with fail
        refine HK.out.mono ?_
        rintro e w1 ⟨rfl, ho⟩
        have HO := Lib.hid ho
        clear ho
        go_wp2_with fail
        go_ret
        exact ⟨rfl, F, (HH.out.mono (by omega)).quit HO.out, HO.out.mono fun _ _ h => h.elim, HGR.out⟩
  · have hae : addE M n A x = 1 := by rw [addE, if_neg fun h => hd h.1]
    have hm2 : addM M n A x = M := by rw [addM, hae]; rfl
    have hd : dirOk n A = false := by simpa using hd
    rw [hae, hm2]
    rw [hd] at HK
    have HK := Lib.hid HK
    have HH := Lib.hid h
    clear h hd hae hm2 hm hc
    go_enter Tryz.func12, Tryz.ntmps12
    go_wp2_with fail
    refine HK.out.mono ?_
    rintro e w1 ⟨rfl, ho⟩
    have HO := Lib.hid ho
    clear ho
    go_wp2_with fail
    go_ret
    exact ⟨rfl, F, (HH.out.mono (by omega)).quit HO.out, HO.out.mono fun _ _ h => h.elim, HGR.out⟩
end
end Go.Proofs.YtklfkocebhhgcaaGreat
namespace Go.Proofs.YtklfkocebhhgcaaGreat
open Go.RowKit Go.Proofs Go.Shelf
set_option maxRecDepth 20000
attribute [local go_sem] Oper.semAt_some
section
variable {w w' : World} {F G : Nat → Prop} {X : XC} {t m np own c : Nat} {M : List KV} {key : Str}
theorem Ty.name : Elt Tryz.prog 119 (.agg #[.string ⟨#[]⟩, .int .i64 0]) 2 24 := ⟨by kernel_rfl, rfl, by omega, by omega⟩
def nameL : List KV → List Value
  | [] => []
  | p :: ps => strV (p.1.drop 4) :: .int .i64 (numV p.2 : Nat) :: nameL ps
theorem nameL_append : ∀ a b : List KV, nameL (a ++ b) = nameL a ++ nameL b
  | [], _ => rfl
  | p :: ps, b => by simp [nameL, nameL_append ps b]
theorem nameL_take (ps : List KV) {k : Nat} (h : k < ps.length) : nameL (ps.take (k + 1)) = nameL (ps.take k) ++ [strV (ps[k].1.drop 4), .int .i64 (numV ps[k].2 : Nat)] := by
  rw [List.take_succ_eq_append_getElem h, nameL_append]; rfl
theorem nameL_get : ∀ {ps : List KV} {i : Nat} {p : KV}, ps[i]? = some p → (nameL ps)[i * 2]? = some (strV (p.1.drop 4)) ∧ (nameL ps)[i * 2 + 1]? = some (.int .i64 (numV p.2 : Nat))
  | [], i, p, h => by simp at h
  | q :: ps, 0, p, h => by
    obtain rfl : q = p := by simpa using h
    exact ⟨rfl, rfl⟩
  | q :: ps, i + 1, p, h => by
    have := nameL_get (ps := ps) (i := i) (by simpa using h)
    rw [show (i + 1) * 2 = i * 2 + 1 + 1 by omega]
    simpa [nameL] using this
def LstAns (B : Nat) (F' : Nat → Prop) (L : List KV) (e : Ending) (w' : World) : Prop :=
  ((∀ x ∈ L, numV x.2 ≠ 0) ∧ ∃ v, e = .returned (.tuple #[v, .int .i64 0]) ∧ Own w' (fun g => B ≤ g ∧ ¬ F' g) 119 2 v L.length (nameL L)) ∨ ((∃ x ∈ L, numV x.2 = 0) ∧ e = .returned (.tuple #[.slice none 0 0, .int .i64 4]))
def ListSt (W : World) (L : List KV) (k : Nat) (out : Value) (wr : World) : Prop :=
  Own wr (From W.heap.size) 119 2 out k (nameL (L.take k)) ∧ Only NoB W wr ∧ ∀ x ∈ L.take k, numV x.2 ≠ 0
set_option maxHeartbeats 4000000 in
theorem list_ok {n : Int} (hn : 1 ≤ n ∧ n ≤ 16777215) (h : KvAt w F X t m np own M c) (hM : ∀ x ∈ under (dpre n) M, ∃ A, entOk n A = true ∧ x.1 = ekey n A) (hlen : (under (dpre n) M).length ≤ 1000000) :
    Calls Tryz.prog 18 #[.pointer (some ⟨t, 0, none⟩), .int .i64 n] w (fun e w' => ∃ F', LstAns w.heap.size F' (under (dpre n) M) e w' ∧ KvAt w' F' X t m np own M c ∧ Only F w w' ∧ Grows F F' w) := by
  have HP := prefix_ent (w := w) n
  rw [preAnsD_ok hn] at HP
  have HP := Lib.hid HP
  have HA0 : Hid (∀ w1, Only NoB w w1 → Calls Tryz.prog 57 #[.pointer (some ⟨t, 0, none⟩), .string ⟨(dpre n).toArray⟩, .int .i64 16777215] w1 (fun e w' => ∃ F', AllAns w1.heap.size F' 16777215 (under (dpre n) M) e w' ∧ KvAt w' F' X t m np own M c ∧ Only F w1 w' ∧ Grows F F' w1)) := Lib.hid fun w1 ho => kv_all (h.quit ho) (pre := dpre n) (by rw [dpre_len]; omega) hlen
  obtain ⟨L, hL⟩ : ∃ L, L = under (dpre n) M := ⟨_, rfl⟩
  rw [← hL] at HA0 hM hlen ⊢
  have HGR : Hid (Grows F F w) := Lib.hid (Grows.refl F w)
  have HM := Lib.hid hM
  have HLE := Lib.hid hlen
  clear h hL hM hlen hn
  go_enter Tryz.func18, Tryz.ntmps18
  go_wp2_with fail
  refine HP.out.mono ?_
  rintro e w1 ⟨rfl, ho⟩
  have HA := Lib.hid (HA0.out w1 ho)
  have HO := Lib.hid ho
  clear ho
  go_wp2_with fail
  refine HA.out.mono ?_
  rintro e w2 ⟨F2, ha, hk, ho2, hg2⟩
  rcases ha with ⟨-, v, rfl, hov⟩ | ⟨hbad, -⟩
  case inr => exfalso; have := HLE.out; omega
  obtain ⟨pA, pc, rfl, _⟩ := hov.shape
  have HR := Lib.hid hov.rd
  have HK2 := Lib.hid hk
  have HOF : Hid (Only F w w2) := Lib.hid ((HO.out.mono fun _ _ h => h.elim).trans ho2)
  have HG2 : Hid (Grows F F2 w) := Lib.hid fun k hk => (hg2 k hk).elim .inl fun h => .inr (Nat.le_trans HO.out.size h)
  clear hov hk ho2 hg2
  go_wp2_with fail
  go_loopw [9, 35] (fun out i wr => ∃ k : Nat, k ≤ L.length ∧ i = .int .i64 k ∧ Hid (ListSt w2 L k out wr)) (fun _ i _ => L.length - (intOf i).toNat)
  case atStart => exact ⟨0, Nat.zero_le _, rfl, Lib.hid ⟨Own.nil _ _ _ _, Only.refl _ _, fun x hx => by simp at hx⟩⟩
  case round =>
    obtain ⟨k, hk, rfl, hst⟩ := hrel
    obtain ⟨hown, ho1, hnz⟩ := hst.out
    obtain ⟨oA, oc, rfl, _⟩ := hown.shape
    have HW := Lib.hid hown
    have HO1 := Lib.hid ho1
    have HNZ := Lib.hid hnz
    clear hst hown ho1 hnz
    by_cases hlt : k < L.length
    · obtain ⟨g, off, c', hve, _, _, hcell⟩ := HR.out.open_ (by omega)
      injection hve with q1 q2 q3
      subst q1; subst q3
      obtain ⟨p1, p2⟩ := pairL_get (List.getElem?_eq_getElem hlt)
      have c1 := HO1.out.cell (hcell _ _ p1) id
      have c2 := HO1.out.cell (hcell _ _ p2) id
      have HNT := Lib.hid (nameL_take L hlt)
      obtain ⟨A, hA1, hA2⟩ := HM.out L[k] (List.getElem_mem hlt)
      obtain ⟨⟨a, b⟩, hab⟩ : ∃ q, q = L[k] := ⟨_, rfl⟩
      have HAB := Lib.hid hab
      rw [← hab] at c1 c2 HNT hA2
      simp only at HNT hA2
      have hdr : a.drop 4 = A := by rw [hA2]; rfl
      rw [hdr] at HNT
      have HPA : Hid (∀ wz, Calls Tryz.prog 58 #[.string ⟨a.toArray⟩] wz (ParOut n A wz)) := Lib.hid fun wz => by rw [hA2]; exact parse_ent hA1 wz
      unfold strV at c1 c2
      rw [← Nat.add_assoc] at c2
      clear hcell p1 p2 q2 hab hA1 hA2 hdr
      obtain ⟨W1, hW1⟩ : ∃ W1, W1 = wr.alloc (.cells #[.string ⟨a.toArray⟩, .string ⟨b.toArray⟩] 81) := ⟨_, rfl⟩
      have hb1 : Blk W1 wr.heap.size 81 #[.string ⟨a.toArray⟩, .string ⟨b.toArray⟩] := by rw [hW1]; exact Blk.new wr _ _
      have ho1 : Only NoB wr W1 := by rw [hW1]; exact (Only.refl NoB wr).alloc _
      have x0 := hb1.cell 0
      have HB1 := Lib.hid hb1
      have HOW1 := Lib.hid ho1
      have HW1 := Lib.hid hW1
      clear hb1 ho1 hW1
      go_wp2_with fail
      rw [← HW1.out]
      refine (HPA.out _).mono ?_
      rintro e zc ⟨rfl, hq⟩
      unfold keyV
      have hb1 := HB1.out.only hq id
      have ho1 := HOW1.out.trans hq
      obtain ⟨W4, hW4⟩ : ∃ W4, W4 = zc.alloc (.cells #[.int .i64 4, .string ⟨A.toArray⟩, .string ⟨#[]⟩, .int .i64 n, .int .i64 0] 112) := ⟨_, rfl⟩
      have hb4 : Blk W4 zc.heap.size 112 #[.int .i64 4, .string ⟨A.toArray⟩, .string ⟨#[]⟩, .int .i64 n, .int .i64 0] := by rw [hW4]; exact Blk.new zc _ _
      have ho4 : Only NoB zc W4 := by rw [hW4]; exact (Only.refl NoB zc).alloc _
      have y1 : W4.cell? ⟨wr.heap.size, 1, none⟩ = some (.string ⟨b.toArray⟩) := (hb1.only ho4 id).cell 1
      have HB4 := Lib.hid hb4
      have HO4 := Lib.hid (ho1.trans ho4)
      have HW4 := Lib.hid hW4
      clear hq hb1 ho1 hb4 ho4 hW4 x0 c1 c2
      go_upto_region 12 with fail
      rw [← HW4.out]
      obtain ⟨cp, W5, hcv, hby, ho5⟩ := str_bytes W4 b
      have HN := Lib.hid (dnum_any b hby)
      have hb5 := HB4.out.only ho5 id
      have k1 : W5.cell? ⟨zc.heap.size, 1, none⟩ = some (.string ⟨A.toArray⟩) := hb5.cell 1
      have HO5 := Lib.hid ((HO1.out.trans HO4.out).trans ho5)
      have HQ5 := Lib.hid (HO4.out.trans ho5)
      clear hby ho5 hb5
      by_cases hz : numV b = 0
      · rw [hz] at HN
        have hz : ∃ x ∈ L, numV x.2 = 0 := ⟨L[k], List.getElem_mem hlt, by rw [← HAB.out]; exact hz⟩
        have HBAD := Lib.hid hz
        clear hz
        go_wp2_with fail
        refine HN.out.mono ?_
        rintro e w6 ⟨rfl, rfl⟩
        go_wp2_with fail
        go_ret2
        exact ⟨F2, .inr ⟨HBAD.out, rfl⟩, HK2.out.quit HO5.out, HOF.out.trans (HO5.out.mono fun _ _ h => h.elim), HG2.out⟩
      · have HNB := Lib.hid (show numV L[k].2 ≠ 0 by rw [← HAB.out]; exact hz)
        obtain ⟨q, hq⟩ : ∃ q, q = numV b := ⟨_, rfl⟩
        rw [← hq] at HN hz HNT
        have hz : ¬ (q : Int) = 0 := by omega
        clear hq
        have HP1 : Hid (Own (W5.alloc (.cells #[.string ⟨A.toArray⟩, .int .i64 q] 119)) (From w2.heap.size) 119 2 (.slice oA k oc) k (nameL (L.take k))) := Lib.hid ((HW.out.keep fun i hi => HQ5.out.block i (HW.out.lt hi) id).alloc _)
        have HP2 : Hid (Rd (W5.alloc (.cells #[.string ⟨A.toArray⟩, .int .i64 q] 119)) (fun i => i = W5.heap.size) 2 (.slice (some ⟨W5.heap.size, 0, none⟩) 1 1) 1 [.string ⟨A.toArray⟩, .int .i64 q]) := Lib.hid (rd_new W5 119 2 1 [.string ⟨A.toArray⟩, .int .i64 q] rfl)
        have HSZ := Lib.hid HO5.out.size
        have hlm := HLE.out
        go_wp2_with fail
        refine HN.out.mono ?_
        rintro e w6 ⟨rfl, rfl⟩
        go_wp2_with (at_builtin; refine wpList_app rfl _ _ _ rfl (by kernel_rfl) Ty.name rfl rfl HP1.out HP2.out (by simp [Value.oneCell']) (by omega) ?_; intro v7 w7 ha7; obtain ⟨A7, c7, rfl, _⟩ := id ha7.shape; have HA7 := Lib.hid ha7; clear ha7)
        refine ⟨⟨k + 1, by omega, rfl, Lib.hid ⟨?_, ?_, ?_⟩⟩, by simp [intOf]; omega⟩
        · rw [HNT.out]
          exact HA7.out.own.mono fun i hi _ => by rcases hi with hi | hi; (· exact hi); (· have := HSZ.out; unfold From; rw [hi, World.size_alloc]; omega)
        · exact only_new (HO5.out.alloc _) HA7.out.only fun i hi => HW.out.2 i hi
        · intro x hx
          rw [List.take_succ_eq_append_getElem hlt] at hx
          rcases List.mem_append.1 hx with hx | hx
          · exact HNZ.out x hx
          · obtain rfl : x = L[k] := by simpa using hx
            exact HNB.out
    · obtain rfl : k = L.length := by omega
      have hown := HW.out
      have hnz := HNZ.out
      rw [List.take_length] at hown hnz
      have HLS : Hid (LstAns w.heap.size F2 L (.returned (.tuple #[.slice oA L.length oc, .int .i64 0])) wr) := Lib.hid (.inl ⟨hnz, _, rfl, hown.mono fun i hi _ => ⟨Nat.le_trans HOF.out.size hi, fun hf => Nat.lt_irrefl _ (Nat.lt_of_lt_of_le (HK2.out.lt i hf) hi)⟩⟩)
      clear hown hnz
      go_wp2_with fail
      go_ret2
      exact ⟨F2, HLS.out, HK2.out.quit HO1.out, HOF.out.trans (HO1.out.mono fun _ _ h => h.elim), HG2.out⟩
theorem dlist_bad {n : Int} (hn : ¬ (1 ≤ n ∧ n ≤ 16777215)) :
    Calls Tryz.prog 18 #[.pointer (some ⟨t, 0, none⟩), .int .i64 n] w fun e w' => e = .returned (.tuple #[.slice none 0 0, .int .i64 1]) ∧ Only NoB w w' := by
  have HP := prefix_ent (w := w) n
  rw [preAnsD_bad hn] at HP
  have HP := Lib.hid HP
  clear hn
  go_enter Tryz.func18, Tryz.ntmps18
  go_wp2_with fail
  refine HP.out.mono ?_
  rintro e w1 ⟨rfl, ho⟩
  have HO := Lib.hid ho
  clear ho
  go_wp2_with fail
  go_ret2
  exact ⟨rfl, HO.out⟩
end
end Go.Proofs.YtklfkocebhhgcaaGreat
namespace Go.Proofs.YtklfkocebhhgcaaGreat
open Go.RowKit Go.Proofs Go.Shelf
set_option maxRecDepth 20000
attribute [local go_sem] Oper.semAt_some
section
variable {w w' : World}
def OpenD (w : World) (e : Ending) (w' : World) : Prop :=
  ∃ t F X, e = .returned (.pointer (some ⟨t, 0, none⟩)) ∧ KvAt w' F X t 400 300 (ownOf 300 400) [] 0 ∧ Only NoB w w' ∧ ∀ k, F k → w.heap.size ≤ k
set_option maxHeartbeats 1000000 in
theorem open14_ok : Calls Tryz.prog 11 #[] w (OpenD w) := by
  have HN := Lib.hid (new_ok 302 400 (by omega) (by omega) (by omega) (by omega) w)
  go_enter Tryz.func11, Tryz.ntmps11
  go_wp2_with fail
  refine HN.out.mono ?_
  rintro e w1 ⟨b, G, rfl, hd, ho1, hG⟩
  have hz : (DD.new 302 400).at_ 0 = 0 :: List.replicate 399 0 := by
    show DD.zero 400 = _
    unfold DD.zero
    exact List.replicate_succ (n := 399)
  have HW := Lib.hid (wopen_new hd 1 (by omega) (by show 3 + 3 * 1 ≤ 400; omega) (by show 1 + 1 < 302; omega) rfl 0 _ hz (by decide))
  have HO1 := Lib.hid ho1
  have HG := Lib.hid hG
  clear hd ho1 hG hz
  go_wp2_with fail
  refine HW.out.mono ?_
  rintro e w2 ⟨a, rfl, hw, ho2, ha⟩
  have hroom : ownOf 300 400 + 2 ≤ 300 := by decide
  have HP := Lib.hid (popen_ok (X := freshX a b 300 400) (D := freshD 300 400) hw (fresh_base (by omega) (by omega) (by omega) hroom) (fresh_begin a b 300 400).symm)
  have HO2 := Lib.hid (HO1.out.trans ho2)
  have HA := Lib.hid ha
  clear hw ho2 ha hroom
  go_wp2_with fail
  refine HP.out.mono ?_
  rintro e w3 ⟨pg, rfl, hp, ho3, hpg⟩
  have HB := Lib.hid (begin_ok hp)
  have HO3 := Lib.hid (HO2.out.trans ho3)
  have HPG := Lib.hid hpg
  have HS := Lib.hid ho3.size
  clear hp ho3 hpg
  go_wp2_with fail
  refine HB.out.mono ?_
  rintro e w4 ⟨t, F, rfl, ht, ho4, hF⟩
  have hOk : Only NoB w w4 ∧ ∀ k, F k → w.heap.size ≤ k := by
    have s1 := HO1.out.size
    have s2 := HO2.out.size
    have s3 := HO3.out.size
    have hlow : ∀ k, (G k ∨ k = (freshX a b 300 400).a ∨ k = pg) → w.heap.size ≤ k := fun k hk => by
      rcases hk with hk | hk | hk
      · exact HG.out k hk
      · have := HA.out; have hk : k = a := hk; omega
      · have := HPG.out; omega
    exact ⟨HO3.out.trans' ho4 fun k hk hf => by have := hlow k hf; omega, fun k hk => (hF k hk).elim (hlow k) fun h => by omega⟩
  have HR : Hid (OpenD w (.returned (.pointer (some ⟨t, 0, none⟩))) w4) := Lib.hid ⟨t, F, freshX a b 300 400, rfl, ⟨freshD 300 400, .inl ht, fresh_bt (by omega) (by omega) (by omega), rfl, rfl, rfl, fun x hx => by cases hx⟩, hOk⟩
  clear ht ho4 hF hOk
  go_wp2_with fail
  go_ret
  exact HR.out
end
end Go.Proofs.YtklfkocebhhgcaaGreat
namespace Go.Proofs.YtklfkocebhhgcaaGreat
open Go.RowKit Go.Proofs Go.Shelf
set_option maxRecDepth 20000
section
variable {w w' : World} {F G : Nat → Prop} {X : XC} {t m c n s : Nat} {M : List KV} {d : Str} {D : Nat → Str}
theorem ofNat_mod {a b : Nat} (h : UInt8.ofNat a = UInt8.ofNat b) : a % 256 = b % 256 := by
  have := congrArg UInt8.toNat h
  simpa using this
def FlAt (w : World) (F : Nat → Prop) (X : XC) (t m : Nat) (D : Nat → Str) (c : Nat) : Prop :=
  ∃ M, KvAt w F X t m 600 (ownOf 600 m) M c ∧ (∀ n : Nat, 1 ≤ n ∧ n ≤ 16777215 → under (fpre n) M = chunks (chunkOf m) (fpre n) (D n) ∧ (D n).length ≤ 65536) ∧ ∀ x ∈ M, ∃ n : Nat, (1 ≤ n ∧ n ≤ 16777215) ∧ hasP (fpre n) x.1 = true
theorem FlAt.quit (h : FlAt w F X t m D c) (ho : Only NoB w w') : FlAt w' F X t m D c := by obtain ⟨M, hk, r⟩ := h; exact ⟨M, hk.quit ho, r⟩
end
end Go.Proofs.YtklfkocebhhgcaaGreat
namespace Go.Proofs.YtklfkocebhhgcaaGreat
open Go.RowKit Go.Proofs Go.Shelf
set_option maxRecDepth 20000
def dirN (n : Int) : Prop := 1 ≤ n ∧ n ≤ 16777215
instance (n : Int) : Decidable (dirN n) := by unfold dirN; exact inferInstance
theorem dirOk_n {n : Int} {A : Str} (h : dirOk n A = true) : dirN n := entOk_num (dirOk_ent h)
theorem be3i_inj {a b : Int} (ha : dirN a) (hb : dirN b) (h : be3i a = be3i b) : a = b := by
  have h1 := foldN_be3 (n := a) (by have := ha.1; omega) ha.2
  have h2 := foldN_be3 (n := b) (by have := hb.1; omega) hb.2
  rw [← h1, ← h2, h]
theorem numV_be3 {i : Int} (h : dirN i) : (numV (be3i i) : Int) = i := by
  have : (be3i i).length = 3 := rfl
  rw [numV, if_pos this]
  exact foldN_be3 (by have := h.1; omega) h.2
theorem numV_ne {i : Int} (h : dirN i) : numV (be3i i) ≠ 0 := by have := numV_be3 h; have := h.1; omega
theorem ekey_pre (n : Int) (A : Str) : ekey n A = dpre n ++ A := rfl
theorem hasP_ekey (m n : Int) (A : Str) : hasP (dpre m) (ekey n A) = decide (dpre n = dpre m) := by
  unfold hasP
  rw [ekey_pre, dpre_len]
  congr 1
theorem dpre_inj {a b : Int} (ha : dirN a) (hb : dirN b) (h : dpre a = dpre b) : a = b := be3i_inj ha hb (by unfold dpre at h; exact (List.cons.inj h).2)
theorem hasP_other {m n : Int} {A : Str} (hm : dirN m) (hn : dirN n) (h : m ≠ n) : hasP (dpre m) (ekey n A) = false := by
  rw [hasP_ekey]
  simpa using fun e => h (dpre_inj hn hm e).symm
theorem hasP_same (n : Int) (A : Str) : hasP (dpre n) (ekey n A) = true := by rw [hasP_ekey]; simp
theorem ekey_inj {n : Int} {A B : Str} (h : ekey n A = ekey n B) : A = B := by
  rw [ekey_pre, ekey_pre] at h
  exact List.append_cancel_left h
def DirM (M : List KV) : Prop := ∀ x ∈ M, ∃ (n i : Int) (A : Str), dirOk n A = true ∧ x.1 = ekey n A ∧ dirN i ∧ x.2 = be3i i
section
variable {M : List KV} {n m x : Int} {A : Str}
theorem addE_ok (h : addE M n A x = 0) : dirOk n A = true ∧ dirN x ∧ get (ekey n A) M = none := by
  unfold addE at h
  split at h
  · rename_i hd
    refine ⟨hd.1, hd.2, ?_⟩
    cases hg : get (ekey n A) M with
    | none => rfl
    | some v => rw [hg] at h; simp at h
  · simp at h
theorem DirM.add (h : DirM M) : DirM (addM M n A x) := by
  intro y hy
  unfold addM at hy
  split at hy
  · rename_i h0
    obtain ⟨h1, h2, _⟩ := addE_ok h0
    rcases mem_ins hy with rfl | ⟨hy, _⟩
    · exact ⟨n, x, A, h1, rfl, h2, rfl⟩
    · exact h y hy
  · exact h y hy
theorem DirM.rem (h : DirM M) : DirM (remM M n A) := by
  intro y hy
  unfold remM at hy
  split at hy
  · exact h y (mem_del.1 hy).1
  · exact h y hy
theorem addM_len (hs : Srt M) : (addM M n A x).length ≤ M.length + 1 := by
  unfold addM
  split
  · rw [ins_get_length hs]; split <;> omega
  · omega
theorem remM_len : (remM M n A).length ≤ M.length := by
  unfold remM
  split
  · exact List.length_filter_le _ _
  · exact Nat.le_refl _
theorem find_some {i : Int} (hd : dirOk n A = true) (hi : dirN i) (hg : get (ekey n A) M = some (be3i i)) : findI M n A = (i.toNat, 0) := by
  unfold findI
  rw [hd, hg]
  have h1 := numV_be3 hi
  have h2 := numV_ne hi
  simp only [if_true]
  rw [if_neg h2]
  congr 1
  omega
theorem find_none (hd : dirOk n A = true) (hg : get (ekey n A) M = none) : findI M n A = (0, 5) := by
  unfold findI
  rw [hd, hg]
  rfl
theorem find_rem (h : (findI M n A).2 = 0) : findI (remM M n A) n A = (0, 5) := by
  obtain ⟨h1, _⟩ := findI_ok h
  refine find_none h1 ?_
  rw [remM, if_pos h, get_del, if_pos rfl]
theorem rem_bad (h : (findI M n A).2 ≠ 0) : remM M n A = M := by rw [remM, if_neg h]
theorem DirM.under (h : DirM M) (hs : Srt M) (hn : dirN n) {y : KV} (hy : y ∈ under (dpre n) M) : ∃ (i : Int) (B : Str), dirOk n B = true ∧ y.1 = ekey n B ∧ dirN i ∧ y.2 = be3i i ∧ y.1.drop 4 = B ∧ findI M n B = (i.toNat, 0) ∧ (numV y.2 : Int) = i := by
  obtain ⟨h1, h2⟩ := List.mem_filter.1 hy
  obtain ⟨m, i, B, hd, hk, hi, hv⟩ := h y h1
  have hmn : n = m := by
    apply Decidable.byContradiction
    intro hne
    rw [hk, hasP_other hn (dirOk_n hd) hne] at h2
    cases h2
  subst hmn
  have hy2 : y = (ekey n B, be3i i) := by rw [← hk, ← hv]
  exact ⟨i, B, hd, hk, hi, hv, by rw [hk]; rfl, find_some hd hi (get_of_mem hs (hy2 ▸ h1)), by rw [hv]; exact numV_be3 hi⟩
end
structure DrAt (w : World) (F : Nat → Prop) (X : XC) (t : Nat) (M : List KV) (c : Nat) : Prop where
  kv : KvAt w F X t 400 300 (ownOf 300 400) M c
  dir : DirM M
  len : M.length ≤ c
  few : c ≤ 280
def DrOut (w : World) (F : Nat → Prop) (X : XC) (t : Nat) (v : Value) (M : List KV) (c : Nat) (e : Ending) (w' : World) : Prop :=
  e = .returned v ∧ ∃ F', DrAt w' F' X t M c ∧ Only F w w' ∧ Grows F F' w
def Aside (w : World) (F : Nat → Prop) (size : Nat) (v : Value) (n : Nat) (xs : List Value) : Prop := ∃ K : Nat → Prop, Rd w K size v n xs ∧ ∀ g, K g → g < w.heap.size ∧ ¬ F g
def lsL (M : List KV) (n : Int) : List KV := if dirN n then under (dpre n) M else []
def lsE (n : Int) : Int := if dirN n then 0 else 1
def LsOut (w : World) (F : Nat → Prop) (X : XC) (t : Nat) (n : Int) (M : List KV) (c : Nat) (e : Ending) (w' : World) : Prop :=
  ∃ v F', e = .returned (.tuple #[v, .int .i64 (lsE n)]) ∧ Aside w' F' 2 v (lsL M n).length (nameL (lsL M n)) ∧ DrAt w' F' X t M c ∧ Only F w w' ∧ Grows F F' w
section
variable {w w' : World} {F F' G : Nat → Prop} {X : XC} {t c size : Nat} {M : List KV} {n x : Int} {A : Str} {v : Value} {xs : List Value}
theorem Aside.step {k : Nat} (h : Aside w F size v k xs) (ho : Only F w w') (hg : Grows F F' w) : Aside w' F' size v k xs := by
  obtain ⟨K, hr, hK⟩ := h
  refine ⟨K, Rd.only hr ho fun g hg => (hK g hg).2, fun g hk => ⟨Nat.lt_of_lt_of_le (hK g hk).1 ho.size, fun hf => (hg g hf).elim (hK g hk).2 fun h => ?_⟩⟩
  have := (hK g hk).1
  omega
theorem Aside.quit {k : Nat} (h : Aside w F size v k xs) (ho : Only NoB w w') : Aside w' F size v k xs := h.step (ho.mono fun _ _ h => h.elim) (Grows.refl F w)
theorem Aside.shape {k : Nat} (h : Aside w F size v k xs) : ∃ A c, v = .slice A k c ∧ k ≤ c := by
  obtain ⟨K, ⟨A, c, hv, hc, _⟩, _⟩ := h
  exact ⟨A, c, hv, hc⟩
theorem DrAt.quit (h : DrAt w F X t M c) (ho : Only NoB w w') : DrAt w' F X t M c := ⟨h.kv.quit ho, h.dir, h.len, h.few⟩
theorem dr_new (h : KvAt w F X t 400 300 (ownOf 300 400) [] 0) : DrAt w F X t [] 0 := ⟨h, (fun x hx => nomatch hx), Nat.le_refl _, by omega⟩
theorem own300 : ownOf 300 400 + 1 ≤ 10 := by decide
theorem dr_add (h : DrAt w F X t M c) (hc : c + 1 ≤ 280) (n : Int) (A : Str) (x : Int) :
    Calls Tryz.prog 12 #[.pointer (some ⟨t, 0, none⟩), .int .i64 n, .string ⟨A.toArray⟩, .int .i64 x] w (DrOut w F X t (.int .i64 (addE M n A x : Nat)) (addM M n A x) (c + 1)) := by
  refine (add_ok n A x h.kv (by omega) (by have := own300; omega)).mono ?_
  rintro e w1 ⟨rfl, F', h1, h4, h5⟩
  exact ⟨rfl, F', ⟨h1, h.dir.add, by have := addM_len (n := n) (A := A) (x := x) h.kv.srt; have := h.len; omega, by omega⟩, h4, h5⟩
theorem dr_find (h : DrAt w F X t M c) (n : Int) (A : Str) :
    Calls Tryz.prog 14 #[.pointer (some ⟨t, 0, none⟩), .int .i64 n, .string ⟨A.toArray⟩] w (DrOut w F X t (findA (findI M n A)) M c) := by
  refine (find_ok n A h.kv).mono ?_
  rintro e w1 ⟨rfl, F', h1, h4, h5⟩
  exact ⟨rfl, F', ⟨h1, h.dir, h.len, h.few⟩, h4, h5⟩
theorem dr_remove (h : DrAt w F X t M c) (n : Int) (A : Str) :
    Calls Tryz.prog 16 #[.pointer (some ⟨t, 0, none⟩), .int .i64 n, .string ⟨A.toArray⟩] w (DrOut w F X t (findA (findI M n A)) (remM M n A) c) := by
  refine (remove_ok n A h.kv).mono ?_
  rintro e w1 ⟨rfl, F', h1, h4, h5⟩
  exact ⟨rfl, F', ⟨h1, h.dir.rem, Nat.le_trans remM_len h.len, h.few⟩, h4, h5⟩
theorem DrAt.under_len (h : DrAt w F X t M c) (p : Str) : (under p M).length ≤ 280 := Nat.le_trans (Nat.le_trans (List.length_filter_le _ _) h.len) h.few
theorem dr_list (h : DrAt w F X t M c) (n : Int) :
    Calls Tryz.prog 18 #[.pointer (some ⟨t, 0, none⟩), .int .i64 n] w (LsOut w F X t n M c) := by
  by_cases hn : dirN n
  · have h1 : lsL M n = under (dpre n) M := by rw [lsL, if_pos hn]
    have h2 : lsE n = 0 := by rw [lsE, if_pos hn]
    refine (list_ok hn h.kv (fun x hx => ?_) (by have := h.under_len (dpre n); omega)).mono ?_
    · obtain ⟨_, B, hd, hk, _⟩ := h.dir.under h.kv.srt hn hx
      exact ⟨B, dirOk_ent hd, hk⟩
    · rintro e w1 ⟨F', ha, hk, ho, hg⟩
      rcases ha with ⟨_, v, rfl, hown⟩ | ⟨⟨x, hx, hz⟩, _⟩
      · refine ⟨v, F', by rw [h2], ?_, ⟨hk, h.dir, h.len, h.few⟩, ho, hg⟩
        rw [h1]
        exact ⟨fun g => g < w1.heap.size ∧ ¬ F' g, (hown.mono (G := fun g => g < w1.heap.size ∧ ¬ F' g) fun g hg hl => ⟨hl, hg.2⟩).rd, fun g hg => hg⟩
      · exfalso
        obtain ⟨i, B, _, _, hi, hv, _, _, _⟩ := h.dir.under h.kv.srt hn hx
        rw [hv] at hz
        exact numV_ne hi hz
  · have h1 : lsL M n = [] := by rw [lsL, if_neg hn]
    have h2 : lsE n = 1 := by rw [lsE, if_neg hn]
    refine (dlist_bad hn).mono ?_
    rintro e w1 ⟨rfl, ho⟩
    refine ⟨.slice none 0 0, F, by rw [h2], ?_, h.quit ho, ho.mono fun _ _ h => h.elim, Grows.refl F w⟩
    rw [h1]
    exact ⟨fun _ => False, (Own.nil w1 (fun _ => False) 119 2).rd, fun g hg => hg.elim⟩
theorem DrAt.ls_len (h : DrAt w F X t M c) (n : Int) : (lsL M n).length ≤ 280 := by
  unfold lsL
  split
  · exact h.under_len _
  · simp
theorem dr_count (h : DrAt w F X t M c) (n : Int) :
    Calls Tryz.prog 19 #[.pointer (some ⟨t, 0, none⟩), .int .i64 n] w (DrOut w F X t (.tuple #[.int .i64 ((lsL M n).length : Nat), .int .i64 (lsE n)]) M c) := by
  by_cases hn : dirN n
  · have h1 : lsL M n = under (dpre n) M := by rw [lsL, if_pos hn]
    have h2 : lsE n = 0 := by rw [lsE, if_pos hn]
    rw [h1, h2]
    refine (dcount_ok hn h.kv (by have := h.under_len (dpre n); omega)).mono ?_
    rintro e w1 ⟨rfl, F', h1, h4, h5⟩
    exact ⟨rfl, F', ⟨h1, h.dir, h.len, h.few⟩, h4, h5⟩
  · have h1 : lsL M n = [] := by rw [lsL, if_neg hn]
    have h2 : lsE n = 1 := by rw [lsE, if_neg hn]
    rw [h1, h2]
    refine (dcount_bad hn).mono ?_
    rintro e w1 ⟨rfl, ho⟩
    exact ⟨rfl, F, h.quit ho, ho.mono fun _ _ h => h.elim, Grows.refl F w⟩
end
end Go.Proofs.YtklfkocebhhgcaaGreat
namespace Go.Proofs.YtklfkocebhhgcaaGreat
open Go.RowKit Go.Proofs Go.Shelf
set_option maxRecDepth 20000
attribute [local go_sem] Oper.semAt_some
section
variable {w w' : World} {F G : Nat → Prop} {X : XC} {t m c n s : Nat}
theorem low_trans {w0 w1 w2 : World} {F F' : Nat → Prop} (h1 : Only NoB w0 w1) (hF : ∀ k, F k → w0.heap.size ≤ k) (h2 : Only F w1 w2) (hg : Grows F F' w1) : Only NoB w0 w2 ∧ ∀ k, F' k → w0.heap.size ≤ k :=
  ⟨h1.trans' h2 fun k hk hf => by have := hF k hf; omega, fun k hk => (hg k hk).elim (hF k) fun h => Nat.le_trans h1.size h⟩
end
end Go.Proofs.YtklfkocebhhgcaaGreat
namespace Go.Proofs.YtklfkocebhhgcaaGreat
open Go.RowKit Go.Proofs
set_option maxRecDepth 20000
structure OpS where
  a : Int
  b : Int
  c : Int
  s : Str
structure OpSIn (w : World) (g off : Nat) (o : OpS) : Prop where
  a : w.cell? ⟨g, off, none⟩ = some (.int .i64 o.a)
  b : w.cell? ⟨g, off + 1, none⟩ = some (.int .i64 o.b)
  c : w.cell? ⟨g, off + 2, none⟩ = some (.int .i64 o.c)
  s : w.cell? ⟨g, off + 3, none⟩ = some (.string ⟨o.s.toArray⟩)
def SOps (w : World) (F : Nat → Prop) (v : Value) (l : List OpS) : Prop :=
  ∃ A c, v = .slice A l.length c ∧ l.length ≤ c ∧ ∀ i (h : i < l.length), ∃ g off, A = some ⟨g, off, none⟩ ∧ F g ∧ OpSIn w g (off + i * 4) l[i]
theorem OpSIn.only {w w' : World} {G : Nat → Prop} {g off : Nat} {o : OpS} (h : OpSIn w g off o) (ho : Only G w w') (hd : ¬ G g) : OpSIn w' g off o :=
  ⟨ho.cell h.a hd, ho.cell h.b hd, ho.cell h.c hd, ho.cell h.s hd⟩
theorem SOps.only {w w' : World} {F G : Nat → Prop} {v : Value} {l : List OpS} (h : SOps w F v l) (ho : Only G w w') (hd : ∀ k, F k → ¬ G k) : SOps w' F v l := by
  obtain ⟨A, c, hv, hc, h⟩ := h
  refine ⟨A, c, hv, hc, fun i hi => ?_⟩
  obtain ⟨g, off, hA, hg, ho1⟩ := h i hi
  exact ⟨g, off, hA, hg, ho1.only ho (hd g hg)⟩
theorem SOps.open_ {w : World} {F : Nat → Prop} {v : Value} {l : List OpS} (h : SOps w F v l) {i : Nat} (hi : i < l.length) : ∃ g off c, v = .slice (some ⟨g, off, none⟩) l.length c ∧ l.length ≤ c ∧ F g ∧ OpSIn w g (off + i * 4) l[i] := by
  obtain ⟨A, c, hv, hc, h⟩ := h
  obtain ⟨g, off, hA, hg, ho⟩ := h i hi
  exact ⟨g, off, c, by rw [hv, hA], hc, hg, ho⟩
theorem SOps.shape {w : World} {F : Nat → Prop} {v : Value} {l : List OpS} (h : SOps w F v l) : ∃ A c, v = .slice A l.length c ∧ l.length ≤ c := by
  obtain ⟨A, c, hv, hc, _⟩ := h
  exact ⟨A, c, hv, hc⟩
open Go.ChangeShapes Go.WideShapes Go.Deep in
theorem arg_scr {H : Type} {enc : TypeId × Value → H} {P : Program} {w : World} {base : Nat} {spare : Nat → Bool} {held : Bool} {t e ti ts : TypeId} {fs : Array Field} (ht : P.underlying t = some (.slice e)) (he : P.underlying e = some (.struct fs)) (hone : oneCellFields P fs = true) (hC : P.cellsOf e = 4)
    (hf : fs.toList.map (·.type) = [ti, ti, ti, ts]) (hi : P.underlying ti = some (.int .i64)) (hs : P.underlying ts = some .string)
    {v : Value} {d : DataW H} {ps : List MemPlace} (h : DataW.Trod enc P w base spare held t v d ps) (hv : v.cells = #[v]) :
    ∃ l : List OpS, SOps w (Old w) v l ∧ ∀ o ∈ l, (Lit.int .i64 o.b).wf = true ∧ (Lit.int .i64 o.c).wf = true ∧ o.s.length ≤ maxLen := by
  obtain ⟨fuel, h⟩ := h
  rw [hv] at h
  rcases open_slice ht h with ⟨hcs, _⟩ | ⟨a, len, cap, m, n, D, Pl, hcs, hbb, hl, hm, hmm, _, hall⟩
  · injection hcs with hcs
    subst hcs
    exact ⟨[], ⟨none, 0, rfl, Nat.le_refl _, fun i h => absurd h (Nat.not_lt_zero _)⟩, by simp⟩
  · injection hcs with hcs
    subst hcs
    have hspot : 0 < len → ∃ g off, a = ⟨g, off, none⟩ := fun h0 => by
      obtain ⟨cs', h1, _⟩ := hall 0 (by rw [hmm]; split <;> omega)
      rw [hC] at h1
      obtain ⟨_, hcl, hat⟩ := World.cells?_some h1
      have h2 := hat 0 (by omega)
      rw [List.getElem?_eq_getElem (by omega)] at h2
      obtain ⟨g, off, spot⟩ := a
      cases spot with
      | none => exact ⟨g, off, rfl⟩
      | some s =>
        exfalso
        simp only [Nat.zero_mul, Addr.add_zero'] at h2
        unfold World.cell? at h2
        split at h2
        · simp at h2
        · cases h2
    obtain ⟨l, hll, hp⟩ := list_of (fun i (o : OpS) => (∃ g off, a = ⟨g, off, none⟩ ∧ Old w g ∧ OpSIn w g (off + i * 4) o) ∧ (Lit.int .i64 o.b).wf = true ∧ (Lit.int .i64 o.c).wf = true ∧ o.s.length ≤ maxLen) len fun i hil => by
      have him : i < m := by rw [hmm]; split <;> omega
      obtain ⟨cs', h1, h2⟩ := hall i him
      rw [hC] at h1
      obtain ⟨ys, n', _, _, _, hyl, hfd⟩ := DataW.trod_struct he h2
      obtain ⟨_, hcl, hat⟩ := World.cells?_some h1
      have each : ∀ j (tj : TypeId), (fs.toList.map (·.type))[j]? = some tj → j < 4 → ∃ u y, w.cell? (a.add (i * 4 + j)) = some u ∧ DataW.trod enc P w base spare held n' tj [u] = some y := by
        intro j tj hj hj5
        obtain ⟨f, hfj, rfl⟩ := Option.map_eq_some_iff.1 (List.getElem?_map ▸ hj)
        rw [Array.getElem?_toList] at hfj
        obtain ⟨ho, hkk⟩ := hone_of hone j f hfj
        have hjl : j < fs.size := (Array.getElem?_eq_some_iff.1 hfj).1
        have h3 := hfd j f hfj
        rw [ho, hkk, List.drop_eq_getElem_cons (by omega), List.take_succ_cons, List.take_zero] at h3
        rw [List.getElem?_eq_getElem (by omega)] at h3
        refine ⟨_, _, ?_, h3⟩
        have := hat j hj5
        rw [add_add] at this
        rw [this, List.getElem?_eq_getElem (by omega)]
      rw [hf] at each
      obtain ⟨u0, y0, c0, t0⟩ := each 0 ti rfl (by omega)
      obtain ⟨u1, y1, c1, t1⟩ := each 1 ti rfl (by omega)
      obtain ⟨u2, y2, c2, t2⟩ := each 2 ti rfl (by omega)
      obtain ⟨u3, y3, c3, t3⟩ := each 3 ts rfl (by omega)
      obtain ⟨k0, e0, _, w0⟩ := DataW.trod_int hi t0
      obtain ⟨k1, e1, _, w1⟩ := DataW.trod_int hi t1
      obtain ⟨k2, e2, _, w2⟩ := DataW.trod_int hi t2
      obtain ⟨⟨⟨s⟩⟩, e3, _, w3⟩ := DataW.trod_string hs t3
      injection e0 with e0; injection e1 with e1; injection e2 with e2; injection e3 with e3
      subst e0; subst e1; subst e2; subst e3
      obtain ⟨g, off, rfl⟩ := hspot (by omega)
      simp only [Addr.add_lit] at c0 c1 c2 c3
      have hg : Old w g := World.block_lt_of_cell? w _ c0
      exact ⟨⟨k0, k1, k2, s⟩, ⟨g, off, rfl, hg, c0, by rw [Nat.add_assoc]; exact c1, by rw [Nat.add_assoc]; exact c2, by rw [Nat.add_assoc]; exact c3⟩, w1, w2, w3⟩
    refine ⟨l, ⟨some a, cap, by rw [hll], by omega, fun i hi => ?_⟩, fun o ho => ?_⟩
    · obtain ⟨⟨g, off, ha, hg, ho⟩, _⟩ := hp i hi
      exact ⟨g, off, by rw [ha], hg, ho⟩
    · obtain ⟨i, hi, rfl⟩ := List.mem_iff_getElem.1 ho
      exact (hp i hi).2
end Go.Proofs.YtklfkocebhhgcaaGreat
namespace Go.Proofs.YtklfkocebhhgcaaGreat
open Go.RowKit Go.Proofs Go.Shelf
set_option maxRecDepth 20000
attribute [local go_sem] Oper.semAt_some
section
variable {w w' : World}
def fewD (l : List OpS) : Prop := l.length ≤ 80 ∧ ∀ o ∈ l, o.s.length ≤ 200
def FewDOut (l : List OpS) (w : World) (e : Ending) (w' : World) : Prop := ∃ b : Bool, e = .returned (.bool b) ∧ w = w' ∧ (b = true → fewD l)
set_option maxHeartbeats 2000000 in
theorem few14_any (w : World) (F : Nat → Prop) (v : Value) (l : List OpS) (h : SOps w F v l) : Calls Tryz.prog 10 #[v] w (FewDOut l w) := by
  obtain ⟨A, c, rfl, _⟩ := h.shape
  have H := Lib.hid h
  clear h
  by_cases h1 : ((l.length : Int) > 80)
  · go_enter Tryz.func10, Tryz.ntmps10
    go_wp2_with fail
    go_ret
    exact ⟨false, rfl, rfl, fun h => (by cases h)⟩
  have e1 : decide ((l.length : Int) > 80) = false := by simpa using h1
  have hl : l.length ≤ 80 := by omega
  clear h1
  go_enter Tryz.func10, Tryz.ntmps10
  go_wp2_with fail
  go_loop [3] (fun i => ∃ k : Nat, k ≤ l.length ∧ i = .int .i64 k ∧ ∀ j (hj : j < l.length), j < k → l[j].s.length ≤ 200) (fun i => l.length - (intOf i).toNat)
  case atStart => exact ⟨0, Nat.zero_le _, rfl, fun _ _ h => absurd h (Nat.not_lt_zero _)⟩
  case round =>
    obtain ⟨k, hk, rfl, hI⟩ := hrel
    have HI := Lib.hid hI
    clear hI
    by_cases hlt : k < l.length
    · obtain ⟨g, off, cc, hve, _, hg, ho⟩ := H.out.open_ hlt
      injection hve with h1 h2 h3
      subst h1; subst h3
      obtain ⟨o, hoe⟩ : ∃ o, o = l[k] := ⟨_, rfl⟩
      rw [← hoe] at ho
      have HOE := Lib.hid hoe
      have hs := ho.s
      obtain ⟨ls, hls⟩ : ∃ ls, ls = o.s.length := ⟨_, rfl⟩
      have hls' : o.s.length = ls := hls.symm
      clear ho hoe hls
      by_cases hb2 : ((ls : Int) > 200)
      · go_wp2_with fail
        go_ret
        exact ⟨false, rfl, rfl, fun h => (by cases h)⟩
      · have e2 : decide ((ls : Int) > 200) = false := by simpa using hb2
        have HB : Hid (o.s.length ≤ 200) := Lib.hid (by omega)
        clear hb2
        go_wp2_with fail
        refine ⟨⟨k + 1, by omega, by go_num, fun j hj hjk => ?_⟩, by simp [intOf]; omega⟩
        by_cases e : j = k
        · subst e; rw [← HOE.out]; exact HB.out
        · exact HI.out j hj (by omega)
    · obtain rfl : k = l.length := by omega
      go_wp2_with fail
      go_ret
      refine ⟨true, rfl, rfl, fun _ => ⟨by omega, fun o ho => ?_⟩⟩
      obtain ⟨j, hj, rfl⟩ := List.getElem_of_mem ho
      exact HI.out j hj hj
set_option maxHeartbeats 4000000 in
theorem awake14_ok : Calls Tryz.prog 24 #[] w fun e w' => e = .returned (.bool true) ∧ Only NoB w w' := by
  have HT := Lib.hid (open14_ok (w := w))
  obtain ⟨M1, hM1⟩ : ∃ M1, M1 = addM [] 1 [98] 7 := ⟨_, rfl⟩
  obtain ⟨M2, hM2⟩ : ∃ M2, M2 = addM M1 1 [97] 8 := ⟨_, rfl⟩
  have a1 : addE [] 1 [98] 7 = 0 := by decide +kernel
  have a2 : addE M1 1 [97] 8 = 0 := by rw [hM1]; decide +kernel
  have a3 : addE M2 1 [98] 9 = 151 := by rw [hM2, hM1]; decide +kernel
  have m3 : addM M2 1 [98] 9 = M2 := by rw [addM, a3]; rfl
  have l2 : lsL M2 1 = [(ekey 1 [97], be3i 8), (ekey 1 [98], be3i 7)] := by rw [hM2, hM1]; decide +kernel
  have n2 : nameL (lsL M2 1) = [.string ⟨#[97]⟩, .int .i64 8, .string ⟨#[98]⟩, .int .i64 7] := by
    rw [l2]
    have e8 : numV (be3i 8) = 8 := by decide +kernel
    have e7 : numV (be3i 7) = 7 := by decide +kernel
    show [_, Value.int .i64 (numV (be3i 8) : Nat), _, Value.int .i64 (numV (be3i 7) : Nat)] = _
    rw [e8, e7]; rfl
  have k2 : (lsL M2 1).length = 2 := by rw [l2]; rfl
  have f2 : findI M2 1 [98] = (7, 0) := by rw [hM2, hM1]; decide +kernel
  have f3 : findI (remM M2 1 [98]) 1 [98] = (0, 5) := find_rem (by rw [f2])
  have a4 : ∀ M, addE M 1 [46, 46] 2 = 1 := fun M => by
    have : dirOk 1 [46, 46] = false := by decide +kernel
    simp [addE, this]
  obtain ⟨M3, hM3⟩ : ∃ M3, M3 = remM M2 1 [98] := ⟨_, rfl⟩
  rw [← hM3] at f3
  have E1 := Lib.hid a1
  have E2 := Lib.hid a2
  have E3 := Lib.hid a3
  have E4 := Lib.hid a4
  have EM1 := Lib.hid hM1
  have EM2 := Lib.hid hM2
  have EM3 := Lib.hid hM3
  have EM := Lib.hid m3
  have EN := Lib.hid n2
  have EK := Lib.hid k2
  have EF2 := Lib.hid f2
  have EF3 := Lib.hid f3
  clear a1 a2 a3 a4 m3 l2 n2 k2 f2 f3 hM1 hM2 hM3
  go_enter Tryz.func24, Tryz.ntmps24
  go_wp2_with fail
  refine HT.out.mono ?_
  rintro e w1 ⟨t, F, X, rfl, hk, ho, hF⟩
  have HF := Lib.hid hF
  have HO := Lib.hid ho
  have HW := dr_add (dr_new hk) (by omega) 1 [98] 7
  rw [E1.out, ← EM1.out] at HW
  have HW := Lib.hid HW
  clear hk ho hF
  go_wp2_with fail
  refine HW.out.mono ?_
  rintro e w2 ⟨rfl, F2, hk, ho, hg⟩
  have h2 := low_trans HO.out HF.out ho hg
  have HF := Lib.hid h2.2
  have HO := Lib.hid h2.1
  have HW := dr_add hk (by omega) 1 [97] 8
  rw [E2.out, ← EM2.out] at HW
  have HW := Lib.hid HW
  clear hk ho hg h2
  go_wp2_with fail
  refine HW.out.mono ?_
  rintro e w3 ⟨rfl, F3, hk, ho, hg⟩
  have h2 := low_trans HO.out HF.out ho hg
  have HF := Lib.hid h2.2
  have HO := Lib.hid h2.1
  have HW := dr_add hk (by omega) 1 [98] 9
  rw [E3.out, EM.out] at HW
  have HW := Lib.hid HW
  clear hk ho hg h2
  go_wp2_with fail
  refine HW.out.mono ?_
  rintro e w4 ⟨rfl, F4, hk, ho, hg⟩
  have h2 := low_trans HO.out HF.out ho hg
  have HF := Lib.hid h2.2
  have HO := Lib.hid h2.1
  have HW := Lib.hid (dr_list hk 1)
  clear hk ho hg h2
  go_wp2_with fail
  refine HW.out.mono ?_
  rintro e w5 ⟨v, F5, rfl, has, hk, ho, hg⟩
  have hE : lsE 1 = 0 := rfl
  rw [hE]
  rw [EK.out, EN.out] at has
  obtain ⟨A5, c5, rfl, _⟩ := has.shape
  have HAS := Lib.hid has
  have h2 := low_trans HO.out HF.out ho hg
  have HF := Lib.hid h2.2
  have HO := Lib.hid h2.1
  have HW := dr_remove hk 1 [98]
  rw [EF2.out, ← EM3.out] at HW
  have HW := Lib.hid HW
  clear hk ho hg h2 has hE
  unfold findA at HW
  go_wp2_with fail
  refine HW.out.mono ?_
  rintro e w6 ⟨rfl, F6, hk, ho, hg⟩
  have HAS := Lib.hid (HAS.out.step ho hg)
  have h2 := low_trans HO.out HF.out ho hg
  have HF := Lib.hid h2.2
  have HO := Lib.hid h2.1
  have HW := dr_find hk 1 [98]
  rw [EF3.out] at HW
  have HW := Lib.hid HW
  clear hk ho hg h2
  unfold findA at HW
  go_wp2_with fail
  refine HW.out.mono ?_
  rintro e w7 ⟨rfl, F7, hk, ho, hg⟩
  obtain ⟨K, hr, _⟩ := HAS.out.step ho hg
  obtain ⟨g, off, c', hve, _, _, hcell⟩ := hr.open_ (by omega)
  injection hve with q1 q2 q3
  subst q1
  have c0 : w7.cell? ⟨g, off, none⟩ = some (.string ⟨#[97]⟩) := hcell 0 (.string ⟨#[97]⟩) rfl
  have c3 : w7.cell? ⟨g, off + 2 + 1, none⟩ = some (.int .i64 7) := hcell 3 (.int .i64 7) rfl
  have c3' : w7.cell? ⟨g, off + 3, none⟩ = some (.int .i64 7) := c3
  have h2 := low_trans HO.out HF.out ho hg
  have HF := Lib.hid h2.2
  have HO := Lib.hid h2.1
  have HW := dr_add hk (by omega) 1 [46, 46] 2
  rw [E4.out] at HW
  have HW := Lib.hid HW
  clear hk ho hg h2 hcell hr q2 q3
  go_wp2_with fail
  refine HW.out.mono ?_
  rintro e w8 ⟨rfl, F8, hk, ho, hg⟩
  have h2 := low_trans HO.out HF.out ho hg
  have HO := Lib.hid h2.1
  clear hk ho hg h2
  go_wp2_with fail
  go_ret
  exact ⟨rfl, HO.out⟩
end
end Go.Proofs.YtklfkocebhhgcaaGreat
namespace Go.Proofs.YtklfkocebhhgcaaGreat
open Go.RowKit Go.Proofs
set_option maxRecDepth 20000
def numOk (n : Int) : Prop := 1 ≤ n ∧ n ≤ 16777215
instance (n : Int) : Decidable (numOk n) := inferInstanceAs (Decidable (_ ∧ _))
section
variable {w w' : World}
theorem number12_ok (n : Int) : Calls Tryz.prog 20 #[.int .i64 n] w fun e w' => e = .returned (.bool (decide (numOk n))) ∧ w = w' := by
  by_cases h1 : 1 ≤ n
  · by_cases h2 : n ≤ 16777215
    · rw [decide_eq_true (show numOk n from ⟨h1, h2⟩)]
      go_enter Tryz.func20, Tryz.ntmps20
      go_wp2_with fail
      go_ret
      exact ⟨rfl, rfl⟩
    · rw [decide_eq_false (show ¬ numOk n from fun h => h2 h.2)]
      have e2 : decide (n ≤ 16777215) = false := by simpa using h2
      clear h2
      go_enter Tryz.func20, Tryz.ntmps20
      go_wp2_with fail
      go_ret
      exact ⟨rfl, rfl⟩
  · rw [decide_eq_false (show ¬ numOk n from fun h => h1 h.1)]
    have e1 : decide (n ≥ 1) = false := by simpa using h1
    clear h1
    go_enter Tryz.func20, Tryz.ntmps20
    go_wp2_with fail
    go_ret
    exact ⟨rfl, rfl⟩
end
end Go.Proofs.YtklfkocebhhgcaaGreat
namespace Go.Proofs.YtklfkocebhhgcaaGreat
open Go.RowKit Go.Proofs
set_option maxRecDepth 20000
section
variable {w w' : World} {F K : Nat → Prop} {l x mo : Nat} {pv kv cv : Value} {ps : List KV} {low high last : Str} {any b1 : Bool} {dep d cnt : Nat} {hi : Option Str}
def lookC (x mo : Nat) (last : Str) (any : Bool) (dep cnt : Int) : Array Value := #[.pointer (some ⟨x, 0, none⟩), .map (some mo), .string ⟨last.toArray⟩, .bool any, .int .i64 dep, .int .i64 cnt]
def HiS (hi : Option Str) (s : Str) : Prop := (hi = none ∧ s = []) ∨ (hi = some s ∧ s ≠ [])
theorem look_up {w : World} {l : Nat} {T : TypeId} {cs : Array Value} (h : Blk w l T cs) (a b c : Value) (i j k : Nat) : Blk (((w.setCell ⟨l, i, none⟩ a).setCell ⟨l, j, none⟩ b).setCell ⟨l, k, none⟩ c) l T (((cs.setIfInBounds i a).setIfInBounds j b).setIfInBounds k c) ∧
    Only (fun q => q = l) w (((w.setCell ⟨l, i, none⟩ a).setCell ⟨l, j, none⟩ b).setCell ⟨l, k, none⟩ c) :=
  ⟨((h.set_ i a).set_ j b).set_ k c, (((Only.refl (fun q => q = l) w).setCell (p := ⟨l, i, none⟩) (.inl rfl) a).setCell (p := ⟨l, j, none⟩) (.inl rfl) b).setCell (p := ⟨l, k, none⟩) (.inl rfl) c⟩
def LkLeaf (w : World) (l x mo : Nat) (ps : List KV) (d cnt : Nat) (e : Ending) (w' : World) : Prop :=
  e = .returned (.bool true) ∧ ∃ z, ps.getLast? = some z ∧ Blk w' l 128 (lookC x mo z.1 true d (cnt + ps.length : Nat)) ∧ Only (fun q => q = l) w w'
set_option maxHeartbeats 4000000 in
theorem chk_leaf (hp : Rd w K 2 pv ps.length (pairL ps)) (hK : ∀ q, K q → q ≠ l) (dp : Int) (hb : Blk w l 128 (lookC x mo last any dp cnt)) (hge : decide (dp ≥ 0) = b1) (hdq : b1 = true → (dp != (d : Int)) = false) (hne : ps ≠ [])
    (hsrt : Srt ps) (hlow : ∀ y ∈ ps, les low y.1) (hhi : ∀ y ∈ ps, bel y.1 hi) (hh : HiS hi high) (hlast : any = true → ∀ y ∈ ps, lts last y.1) (hl1 : ps.length ≤ 1000000) (hl2 : cnt ≤ 1000000000) :
    Calls Tryz.prog 127 #[.pointer (some ⟨l, 0, none⟩), nodeV true pv kv cv, .int .i64 d, .string ⟨low.toArray⟩, .string ⟨high.toArray⟩] w (LkLeaf w l x mo ps d cnt) := by
  obtain ⟨A, c, rfl, _⟩ := id hp
  obtain ⟨W1, hW1⟩ : ∃ W1, W1 = w.alloc (.cells #[.bool true, .slice A ps.length c, kv, cv] 162) := ⟨_, rfl⟩
  have ho1 : Only NoB w W1 := by rw [hW1]; exact (Only.refl NoB w).alloc _
  have hb1 := hb.only ho1 id
  have hbn : Blk W1 w.heap.size 162 #[.bool true, .slice A ps.length c, kv, cv] := by rw [hW1]; exact Blk.new _ _ _
  have hp1 := Rd.only hp ho1 fun _ _ => id
  have x4 : W1.cell? ⟨l, 4, none⟩ = some (.int .i64 dp) := hb1.cell 4
  have f4 := hb1.frozen 4
  have n1 : W1.cell? ⟨w.heap.size, 1, none⟩ = some (.slice A ps.length c) := hbn.cell 1
  have hlw : l ≠ w.heap.size := fun e => by have := hb.lt; omega
  have hd0 : ((W1.setCell ⟨l, 4, none⟩ (.int .i64 d))).cell? ⟨w.heap.size, 1, none⟩ = some (.slice A ps.length c) := (hbn.far (p := ⟨l, 4, none⟩) (fun e => hlw e.symm) _).cell 1
  have hb2 : Blk (W1.setCell ⟨l, 4, none⟩ (.int .i64 d)) l 128 (lookC x mo last any d cnt) := hb1.set_ 4 _
  have ho2 : Only (fun q => q = l) W1 (W1.setCell ⟨l, 4, none⟩ (.int .i64 d)) := (Only.refl (fun q => q = l) W1).setCell (p := ⟨l, 4, none⟩) (.inl rfl) _
  have HB2 := Lib.hid hb2
  have HO2 := Lib.hid ((ho1.mono fun _ _ h => h.elim).trans ho2)
  have HP2 := Lib.hid (Rd.only hp1 ho2 hK)
  have HK := Lib.hid hK
  have HNE := Lib.hid hne
  have HSRT := Lib.hid hsrt
  have HLOW := Lib.hid hlow
  have HHI := Lib.hid hhi
  have HLAST := Lib.hid hlast
  have HW1 := Lib.hid hW1
  rw [hW1] at x4 n1 hd0
  have fz : (w.alloc (.cells #[.bool true, .slice A ps.length c, kv, cv] 162)).frozen? ⟨l, 4, none⟩ = false := by rw [← hW1]; exact f4
  clear hp hb hsrt hlow hhi hlast hW1 ho1 hb1 hbn hp1 hb2 ho2 hlw f4 hne hK
  unfold nodeV
  cases b1
  case' true => have hdq2 := hdq rfl
  all_goals
    clear hdq
    go_enter Tryz.func127, Tryz.ntmps127
    go_wp2_with fail
    rw [← HW1.out]
    go_loopw [33] (fun i wr => ∃ k : Nat, k ≤ ps.length ∧ i = .int .i64 k ∧ ∃ la an, Hid (Blk wr l 128 (lookC x mo la an d (cnt + k : Nat)) ∧ Only (fun q => q = l) w wr ∧ Rd wr K 2 (.slice A ps.length c) ps.length (pairL ps) ∧ (an = true → ∀ y ∈ ps.drop k, lts la y.1) ∧ (∀ z, ps[k - 1]? = some z → 0 < k → an = true ∧ la = z.1))) (fun i _ => ps.length - (intOf i).toNat)
    case atStart => exact ⟨0, Nat.zero_le _, rfl, last, any, Lib.hid ⟨HB2.out, HO2.out, HP2.out, HLAST.out, fun _ _ h => absurd h (Nat.lt_irrefl _)⟩⟩
    case round =>
      clear HB2 HO2 HP2 x4 n1 hd0 fz HW1
      obtain ⟨k, hk, rfl, la, an, HI⟩ := hrel
      by_cases hlt : k < ps.length
      · obtain ⟨q, hq⟩ : ∃ q, q = wr.heap.size := ⟨_, rfl⟩
        obtain ⟨g, off, cc, hve, _, hg, hcell⟩ := HI.out.2.2.1.open_ (by omega)
        injection hve with e1 e2 e3
        subst e1; subst e3
        obtain ⟨y1, y2⟩ := pairL_get (ps := ps) (i := k) (p := ps[k]) (List.getElem?_eq_getElem hlt)
        have c1 := hcell _ _ y1
        have c2 := hcell _ _ y2
        have hmem : ps[k] ∈ ps := List.getElem_mem hlt
        have hlo2 : ¬ lts ps[k].1 low := HLOW.out _ hmem
        have hhi2 := HHI.out _ hmem
        have hla2 : an = true → lts la ps[k].1 := fun h => HI.out.2.2.2.1 h _ (by rw [List.drop_eq_getElem_cons hlt]; exact List.mem_cons_self)
        have HNX : Hid (∀ y ∈ ps.drop (k + 1), lts ps[k].1 y.1) := Lib.hid fun y hy => by
          have h1 : Srt (ps.drop k) := List.Pairwise.sublist (List.drop_sublist k ps) HSRT.out
          rw [List.drop_eq_getElem_cons hlt] at h1
          exact (List.pairwise_cons.1 h1).1 y hy
        obtain ⟨p, hpe⟩ : ∃ p, p = ps[k] := ⟨_, rfl⟩
        rw [← hpe] at c1 c2 hlo2 hhi2 hla2 HNX
        have HPE : Hid (ps[k]? = some p) := Lib.hid (by rw [hpe]; exact List.getElem?_eq_getElem hlt)
        obtain ⟨a, va⟩ := p
        have hlo2 : Go.Op.bytesLess a low = false := by simpa [lts] using hlo2
        unfold strV at c1 c2
        rw [← Nat.add_assoc] at c2
        obtain ⟨W2, hW2⟩ : ∃ W2, W2 = wr.alloc (.cells #[.string ⟨a.toArray⟩, .string ⟨va.toArray⟩] 81) := ⟨_, rfl⟩
        have hq2 : Blk W2 q 81 #[.string ⟨a.toArray⟩, .string ⟨va.toArray⟩] := by rw [hW2, hq]; exact Blk.new _ _ _
        have ho2 : Only NoB wr W2 := by rw [hW2]; exact (Only.refl NoB wr).alloc _
        have hb2 := HI.out.1.only ho2 id
        have hne : l ≠ q := fun e => by have := HI.out.1.lt; omega
        have HQ := Lib.hid hq
        have HW2 := Lib.hid hW2
        clear hcell y1 y2 hmem hpe hq hW2
        rcases hh with ⟨rfl, rfl⟩ | ⟨rfl, hhne⟩
        · cases an with
          | false =>
            clear hla2
            go_wp2_with fail
            rw [← HW2.out, ← HQ.out]
            have hb3 := hb2.drew
            have hq3 := hq2.drew
            refine hB _ 29 (fun w' => w'.cell? ⟨l, 3, none⟩ = some (.bool false) ∧ w'.cell? ⟨l, 2, none⟩ = some (.string ⟨la.toArray⟩) ∧ w'.cell? ⟨q, 0, none⟩ = some (.string ⟨a.toArray⟩)) (⟨hb3.cell 3, hb3.cell 2, hq3.cell 0⟩) (fun hHeld => ?_)
            refine hT 0 37 ?_
            refine hT 1 38 ?_
            refine hT 2 39 ?_
            refine hT 3 40 ?_
            refine hT 4 41 ?_
            refine hK 5 42 ?_
            refine hK 6 43 ?_
            refine hK 7 44 ?_
            refine hK 8 45 ?_
            refine hK 9 46 ?_
            refine hK 10 47 ?_
            refine hK 11 48 ?_
            refine hT 12 49 ?_
            refine hT 13 50 ?_
            refine hT 14 51 ?_
            refine hT 15 52 ?_
            refine hT 16 53 ?_
            refine hT 17 54 ?_
            refine hT 18 55 ?_
            refine hT 19 56 ?_
            refine hT 20 57 ?_
            refine hT 21 58 ?_
            refine hT 22 59 ?_
            refine hK 23 60 ?_
            refine hK 24 61 ?_
            refine hK 25 62 ?_
            refine hK 26 63 ?_
            refine hT 27 64 ?_
            refine hT 28 65 ?_
            refine wpAnyH_done (by kernel_rfl) ?_ _
            refine NoPanic.normal ?_
            have s2 := hb3.cell 2
            have s3 := hb3.cell 3
            have s5 := hb3.cell 5
            have g2 := hb3.frozen 2
            have g3 := hb3.frozen 3
            have g5 := hb3.frozen 5
            have t0 := hq3.cell 0
            obtain ⟨W3, hW3⟩ : ∃ W3, W3 = W2.drew := ⟨_, rfl⟩
            rw [← hW3] at hb3 hq3 s2 s3 s5 g2 g3 g5 t0 ⊢
            have hb4 := (hb3.set_ 2 (.string ⟨a.toArray⟩)).set_ 3 (.bool true)
            have v5 : ((W3.setCell ⟨l, 2, none⟩ (.string ⟨a.toArray⟩)).setCell ⟨l, 3, none⟩ (.bool true)).cell? ⟨l, 5, none⟩ = some (.int .i64 ((cnt + k : Nat))) := hb4.cell 5
            have k5 := hb4.frozen 5
            obtain ⟨u1, u2⟩ := look_up hb3 (.string ⟨a.toArray⟩) (.bool true) (.int .i64 ((cnt + k : Nat) + 1)) 2 3 5
            have HU := Lib.hid (And.intro u1 u2)
            have HO3 : Hid (Only NoB wr W3) := Lib.hid (by rw [hW3]; exact ho2.drew)
            clear u1 u2 hHeld hW3 hb3 hq3 hb2 hq2 ho2 hb4
            go_wp2_with fail
            refine ⟨⟨k + 1, by omega, by go_num, a, true, Lib.hid ⟨HU.out.1, (HI.out.2.1.trans (HO3.out.mono fun _ _ h => h.elim)).trans HU.out.2, Rd.only (Rd.only HI.out.2.2.1 HO3.out fun _ _ => id) HU.out.2 HK.out, fun _ => HNX.out, fun z hz _ => ⟨rfl, ?_⟩⟩⟩, by simp [intOf]; omega⟩
            rw [Nat.add_sub_cancel, HPE.out] at hz
            cases hz
            rfl
          | true =>
            have hla9 : lts la a := hla2 rfl
            have hla3 : Go.Op.bytesLess a la = false := by simpa [lts] using lts_asymm hla9
            have hla4 : (a == la) = false := by simpa using fun e : a = la => lts_ne hla9 e.symm
            clear hla2 hla9
            go_wp2_with fail
            rw [← HW2.out, ← HQ.out]
            have hb3 := hb2.drew
            have hq3 := hq2.drew
            refine hB _ 29 (fun w' => w'.cell? ⟨l, 3, none⟩ = some (.bool true) ∧ w'.cell? ⟨l, 2, none⟩ = some (.string ⟨la.toArray⟩) ∧ w'.cell? ⟨q, 0, none⟩ = some (.string ⟨a.toArray⟩)) (⟨hb3.cell 3, hb3.cell 2, hq3.cell 0⟩) (fun hHeld => ?_)
            refine hT 0 37 ?_
            refine hT 1 38 ?_
            refine hT 2 39 ?_
            refine hT 3 40 ?_
            refine hT 4 41 ?_
            refine hT 5 42 ?_
            refine hT 6 43 ?_
            refine hT 7 44 ?_
            refine hT 8 45 ?_
            refine hT 9 46 ?_
            refine hT 10 47 ?_
            refine hT 11 48 ?_
            refine hT 12 49 ?_
            refine hT 13 50 ?_
            refine hT 14 51 ?_
            refine hT 15 52 ?_
            refine hT 16 53 ?_
            refine hT 17 54 ?_
            refine hT 18 55 ?_
            refine hT 19 56 ?_
            refine hT 20 57 ?_
            refine hT 21 58 ?_
            refine hT 22 59 ?_
            refine hK 23 60 ?_
            refine hK 24 61 ?_
            refine hK 25 62 ?_
            refine hK 26 63 ?_
            refine hT 27 64 ?_
            refine hT 28 65 ?_
            refine wpAnyH_done (by kernel_rfl) ?_ _
            refine NoPanic.normal ?_
            have s2 := hb3.cell 2
            have s3 := hb3.cell 3
            have s5 := hb3.cell 5
            have g2 := hb3.frozen 2
            have g3 := hb3.frozen 3
            have g5 := hb3.frozen 5
            have t0 := hq3.cell 0
            obtain ⟨W3, hW3⟩ : ∃ W3, W3 = W2.drew := ⟨_, rfl⟩
            rw [← hW3] at hb3 hq3 s2 s3 s5 g2 g3 g5 t0 ⊢
            have hb4 := (hb3.set_ 2 (.string ⟨a.toArray⟩)).set_ 3 (.bool true)
            have v5 : ((W3.setCell ⟨l, 2, none⟩ (.string ⟨a.toArray⟩)).setCell ⟨l, 3, none⟩ (.bool true)).cell? ⟨l, 5, none⟩ = some (.int .i64 ((cnt + k : Nat))) := hb4.cell 5
            have k5 := hb4.frozen 5
            obtain ⟨u1, u2⟩ := look_up hb3 (.string ⟨a.toArray⟩) (.bool true) (.int .i64 ((cnt + k : Nat) + 1)) 2 3 5
            have HU := Lib.hid (And.intro u1 u2)
            have HO3 : Hid (Only NoB wr W3) := Lib.hid (by rw [hW3]; exact ho2.drew)
            clear u1 u2 hHeld hW3 hb3 hq3 hb2 hq2 ho2 hb4
            go_wp2_with fail
            refine ⟨⟨k + 1, by omega, by go_num, a, true, Lib.hid ⟨HU.out.1, (HI.out.2.1.trans (HO3.out.mono fun _ _ h => h.elim)).trans HU.out.2, Rd.only (Rd.only HI.out.2.2.1 HO3.out fun _ _ => id) HU.out.2 HK.out, fun _ => HNX.out, fun z hz _ => ⟨rfl, ?_⟩⟩⟩, by simp [intOf]; omega⟩
            rw [Nat.add_sub_cancel, HPE.out] at hz
            cases hz
            rfl
        · have hhi2 : Go.Op.bytesLess a high = true := hhi2
          cases an with
          | false =>
            clear hla2
            go_wp2_with fail
            rw [← HW2.out, ← HQ.out]
            have hb3 := hb2.drew
            have hq3 := hq2.drew
            refine hB _ 29 (fun w' => w'.cell? ⟨l, 3, none⟩ = some (.bool false) ∧ w'.cell? ⟨l, 2, none⟩ = some (.string ⟨la.toArray⟩) ∧ w'.cell? ⟨q, 0, none⟩ = some (.string ⟨a.toArray⟩)) (⟨hb3.cell 3, hb3.cell 2, hq3.cell 0⟩) (fun hHeld => ?_)
            refine hT 0 37 ?_
            refine hT 1 38 ?_
            refine hT 2 39 ?_
            refine hT 3 40 ?_
            refine hT 4 41 ?_
            refine hK 5 42 ?_
            refine hK 6 43 ?_
            refine hK 7 44 ?_
            refine hK 8 45 ?_
            refine hK 9 46 ?_
            refine hK 10 47 ?_
            refine hK 11 48 ?_
            refine hT 12 49 ?_
            refine hT 13 50 ?_
            refine hT 14 51 ?_
            refine hT 15 52 ?_
            refine hT 16 53 ?_
            refine hT 17 54 ?_
            refine hT 18 55 ?_
            refine hT 19 56 ?_
            refine hT 20 57 ?_
            refine hV 21 58 (.bool true) ?_
            refine hT 22 59 ?_
            refine hT 23 60 ?_
            refine hT 24 61 ?_
            refine hT 25 62 ?_
            refine hT 26 63 ?_
            refine hT 27 64 ?_
            refine hT 28 65 ?_
            refine wpAnyH_done (by kernel_rfl) ?_ _
            refine NoPanic.normal ?_
            have s2 := hb3.cell 2
            have s3 := hb3.cell 3
            have s5 := hb3.cell 5
            have g2 := hb3.frozen 2
            have g3 := hb3.frozen 3
            have g5 := hb3.frozen 5
            have t0 := hq3.cell 0
            obtain ⟨W3, hW3⟩ : ∃ W3, W3 = W2.drew := ⟨_, rfl⟩
            rw [← hW3] at hb3 hq3 s2 s3 s5 g2 g3 g5 t0 ⊢
            have hb4 := (hb3.set_ 2 (.string ⟨a.toArray⟩)).set_ 3 (.bool true)
            have v5 : ((W3.setCell ⟨l, 2, none⟩ (.string ⟨a.toArray⟩)).setCell ⟨l, 3, none⟩ (.bool true)).cell? ⟨l, 5, none⟩ = some (.int .i64 ((cnt + k : Nat))) := hb4.cell 5
            have k5 := hb4.frozen 5
            obtain ⟨u1, u2⟩ := look_up hb3 (.string ⟨a.toArray⟩) (.bool true) (.int .i64 ((cnt + k : Nat) + 1)) 2 3 5
            have HU := Lib.hid (And.intro u1 u2)
            have HO3 : Hid (Only NoB wr W3) := Lib.hid (by rw [hW3]; exact ho2.drew)
            clear u1 u2 hHeld hW3 hb3 hq3 hb2 hq2 ho2 hb4
            go_wp2_with fail
            refine ⟨⟨k + 1, by omega, by go_num, a, true, Lib.hid ⟨HU.out.1, (HI.out.2.1.trans (HO3.out.mono fun _ _ h => h.elim)).trans HU.out.2, Rd.only (Rd.only HI.out.2.2.1 HO3.out fun _ _ => id) HU.out.2 HK.out, fun _ => HNX.out, fun z hz _ => ⟨rfl, ?_⟩⟩⟩, by simp [intOf]; omega⟩
            rw [Nat.add_sub_cancel, HPE.out] at hz
            cases hz
            rfl
          | true =>
            have hla9 : lts la a := hla2 rfl
            have hla3 : Go.Op.bytesLess a la = false := by simpa [lts] using lts_asymm hla9
            have hla4 : (a == la) = false := by simpa using fun e : a = la => lts_ne hla9 e.symm
            clear hla2 hla9
            go_wp2_with fail
            rw [← HW2.out, ← HQ.out]
            have hb3 := hb2.drew
            have hq3 := hq2.drew
            refine hB _ 29 (fun w' => w'.cell? ⟨l, 3, none⟩ = some (.bool true) ∧ w'.cell? ⟨l, 2, none⟩ = some (.string ⟨la.toArray⟩) ∧ w'.cell? ⟨q, 0, none⟩ = some (.string ⟨a.toArray⟩)) (⟨hb3.cell 3, hb3.cell 2, hq3.cell 0⟩) (fun hHeld => ?_)
            refine hT 0 37 ?_
            refine hT 1 38 ?_
            refine hT 2 39 ?_
            refine hT 3 40 ?_
            refine hT 4 41 ?_
            refine hT 5 42 ?_
            refine hT 6 43 ?_
            refine hT 7 44 ?_
            refine hT 8 45 ?_
            refine hT 9 46 ?_
            refine hT 10 47 ?_
            refine hT 11 48 ?_
            refine hT 12 49 ?_
            refine hT 13 50 ?_
            refine hT 14 51 ?_
            refine hT 15 52 ?_
            refine hT 16 53 ?_
            refine hT 17 54 ?_
            refine hT 18 55 ?_
            refine hT 19 56 ?_
            refine hT 20 57 ?_
            refine hV 21 58 (.bool true) ?_
            refine hT 22 59 ?_
            refine hT 23 60 ?_
            refine hT 24 61 ?_
            refine hT 25 62 ?_
            refine hT 26 63 ?_
            refine hT 27 64 ?_
            refine hT 28 65 ?_
            refine wpAnyH_done (by kernel_rfl) ?_ _
            refine NoPanic.normal ?_
            have s2 := hb3.cell 2
            have s3 := hb3.cell 3
            have s5 := hb3.cell 5
            have g2 := hb3.frozen 2
            have g3 := hb3.frozen 3
            have g5 := hb3.frozen 5
            have t0 := hq3.cell 0
            obtain ⟨W3, hW3⟩ : ∃ W3, W3 = W2.drew := ⟨_, rfl⟩
            rw [← hW3] at hb3 hq3 s2 s3 s5 g2 g3 g5 t0 ⊢
            have hb4 := (hb3.set_ 2 (.string ⟨a.toArray⟩)).set_ 3 (.bool true)
            have v5 : ((W3.setCell ⟨l, 2, none⟩ (.string ⟨a.toArray⟩)).setCell ⟨l, 3, none⟩ (.bool true)).cell? ⟨l, 5, none⟩ = some (.int .i64 ((cnt + k : Nat))) := hb4.cell 5
            have k5 := hb4.frozen 5
            obtain ⟨u1, u2⟩ := look_up hb3 (.string ⟨a.toArray⟩) (.bool true) (.int .i64 ((cnt + k : Nat) + 1)) 2 3 5
            have HU := Lib.hid (And.intro u1 u2)
            have HO3 : Hid (Only NoB wr W3) := Lib.hid (by rw [hW3]; exact ho2.drew)
            clear u1 u2 hHeld hW3 hb3 hq3 hb2 hq2 ho2 hb4
            go_wp2_with fail
            refine ⟨⟨k + 1, by omega, by go_num, a, true, Lib.hid ⟨HU.out.1, (HI.out.2.1.trans (HO3.out.mono fun _ _ h => h.elim)).trans HU.out.2, Rd.only (Rd.only HI.out.2.2.1 HO3.out fun _ _ => id) HU.out.2 HK.out, fun _ => HNX.out, fun z hz _ => ⟨rfl, ?_⟩⟩⟩, by simp [intOf]; omega⟩
            rw [Nat.add_sub_cancel, HPE.out] at hz
            cases hz
            rfl
      · obtain rfl : k = ps.length := by omega
        have hpos : 0 < ps.length := List.length_pos_iff.2 HNE.out
        obtain ⟨z, hz⟩ : ∃ z, ps[ps.length - 1]? = some z := ⟨_, List.getElem?_eq_getElem (by omega)⟩
        have hz2 := HI.out.2.2.2.2 z hz hpos
        have HE : Hid (LkLeaf w l x mo ps d cnt (.returned (.bool true)) wr) := Lib.hid ⟨rfl, z, by rw [List.getLast?_eq_getElem?]; exact hz, by rw [← hz2.2, ← hz2.1]; exact HI.out.1, HI.out.2.1⟩
        clear hz hz2 hpos
        go_wp2_with fail
        go_ret
        exact HE.out
end
end Go.Proofs.YtklfkocebhhgcaaGreat
namespace Go.Proofs.YtklfkocebhhgcaaGreat
open Go.RowKit Go.Proofs
set_option maxRecDepth 20000
structure LkIn (w : World) (F : Nat → Prop) (X : XC) (x t : Nat) (D : PD) (l mo : Nat) (f : Int → Option Value) (h : Nat) (e : Ent) (hi : Option Str) (last : Str) (any : Bool) (dep : Int) (cnt d : Nat) (low high : Str) : Prop where
  tree : TreeAt w F X x t D
  blk : Blk w l 128 (lookC x mo last any dep cnt)
  map : UMap w mo f
  offl : ¬ F l
  offm : ¬ F mo
  fresh : ∀ p ∈ e.P, f (p : Int) = none
  dep : dep = -1 ∨ dep = ((d + h : Nat) : Int)
  low : ∀ y ∈ e.M, les low y.1
  high : HiS hi high
  last : any = true → ∀ y ∈ e.M, lts last y.1
  cnt : cnt + e.M.length ≤ 1000000
  dh : d + h ≤ 1000000
def LkOut (w : World) (F : Nat → Prop) (X : XC) (x t : Nat) (D : PD) (l mo : Nat) (f : Int → Option Value) (e : Ent) (dh cnt : Nat) (en : Ending) (w' : World) : Prop :=
  en = .returned (.int .i64 0) ∧ ∃ f' z, e.M.getLast? = some z ∧ TreeAt w' F X x t D ∧ Blk w' l 128 (lookC x mo z.1 true dh (cnt + e.M.length : Nat)) ∧ UMap w' mo f' ∧ (∀ q : Int, (∀ p ∈ e.P, (p : Int) ≠ q) → f' q = f q) ∧ Only (fun q => F q ∨ q = l ∨ q = mo) w w'
def LkSays (X : XC) (x t : Nat) (D : PD) (l mo h : Nat) : Prop :=
  ∀ (w : World) (F : Nat → Prop) (f : Int → Option Value) (e : Ent) (hi : Option Str) (last : Str) (any : Bool) (dep : Int) (cnt d : Nat) (low high : Str), Sub D h e hi → Mays D e.P → e.P.Nodup → LkIn w F X x t D l mo f h e hi last any dep cnt d low high →
    Calls Tryz.prog 62 #[.pointer (some ⟨l, 0, none⟩), .int .i64 e.c, .int .i64 d, .string ⟨low.toArray⟩, .string ⟨high.toArray⟩] w (LkOut w F X x t D l mo f e (d + h) cnt)
section
variable {w w' : World} {F K : Nat → Prop} {X : XC} {x t l mo h : Nat} {D : PD} {f : Int → Option Value} {e : Ent} {hi : Option Str} {last low high : Str} {any : Bool} {dep : Int} {cnt d : Nat}
theorem TreeAt.off {S : Nat → Prop} (h : TreeAt w F X x t D) (ho : Only S w w') (hF : ∀ k, F k → ¬ S k) (hx : ¬ S x) : TreeAt w' F X x t D := ⟨TxQ.only h.tx ho hF, h.blk.only ho hx, h.out, h.m⟩
theorem Mays.one {P : List Nat} (h : Mays D (e.c :: P)) : D.is e.c = true ∧ D.used e.c = true := h e.c (by simp)
structure LkSt (w W4 wr : World) (F : Nat → Prop) (X : XC) (x t : Nat) (D : PD) (l mo : Nat) (f f' : Int → Option Value) (e : Ent) (h cnt d : Nat) (A B : List Ent) (la : Str) (an : Bool) (dp : Int) : Prop where
  tree : TreeAt wr F X x t D
  blk : Blk wr l 128 (lookC x mo la an dp (cnt + (flatM A).length : Nat))
  map : UMap wr mo f'
  same : ∀ q : Int, (∀ p ∈ e.c :: flatP A, (p : Int) ≠ q) → f' q = f q
  dep : dp = -1 ∨ dp = ((d + 1 + h : Nat) : Int)
  last : an = true → ∀ y ∈ flatM B, lts la y.1
  took : A ≠ [] → dp = ((d + 1 + h : Nat) : Int) ∧ an = true ∧ ∃ z, (flatM A).getLast? = some z ∧ la = z.1
  only : Only (fun q => F q ∨ q = l ∨ q = mo) W4 wr
theorem kid_sub {A B : List Ent} (hc : ChainW (Sub D h) hi (A ++ e :: B)) : Sub D h e (nxt hi B) := (chain_append.1 hc).2.1
theorem kid_srt {A B : List Ent} (hc : ChainW (Sub D h) hi (A ++ e :: B)) {z : KV} (hz : e.M.getLast? = some z) : ∀ y ∈ flatM B, lts z.1 y.1 := by
  have h1 := hc.facts.srt
  rw [flatM_append, flatM_cons] at h1
  have h2 := (List.pairwise_append.1 (List.pairwise_append.1 h1).2.1).2.2
  exact fun y hy => h2 z (List.mem_of_getLast? hz) y hy
theorem LkSt.kid {W4 wr : World} {f' : Int → Option Value} {A B : List Ent} {e' : Ent} {la fr up : Str} {an : Bool} {dp : Int} (hst : LkSt w W4 wr F X x t D l mo f f' e h cnt d A (e' :: B) la an dp) (hin : LkIn w F X x t D l mo f (h + 1) e hi last any dep cnt d low high)
    (hP : e.P = e.c :: flatP (A ++ e' :: B)) (hM : e.M = flatM (A ++ e' :: B)) (hnd : e.P.Nodup) (hfr : ∀ y ∈ e'.M, les fr y.1) (hto : HiS (nxt hi B) up) : LkIn wr F X x t D l mo f' h e' (nxt hi B) la an dp (cnt + (flatM A).length) (d + 1) fr up := by
  refine ⟨hst.tree, hst.blk, hst.map, hin.offl, hin.offm, fun p hp => ?_, hst.dep, hfr, hto, fun h1 y hy => hst.last h1 y (by rw [flatM_cons]; exact List.mem_append_left _ hy), ?_, by have := hin.dh; omega⟩
  · have hp2 : p ∈ e.P := by rw [hP]; simp [flatP_append, flatP_cons, hp]
    rw [hst.same p fun q hq hqp => ?_]
    · exact hin.fresh p hp2
    · have hqp : q = p := by omega
      subst hqp
      rw [hP, flatP_append, flatP_cons] at hnd
      rcases List.mem_cons.1 hq with rfl | hq
      · exact (List.nodup_cons.1 hnd).1 (by simp [hp])
      · exact (List.nodup_append.1 (List.nodup_cons.1 hnd).2).2.2 q hq q (by simp [hp]) rfl
  · have h1 := hin.cnt
    rw [hM, flatM_append, flatM_cons] at h1
    simp only [List.length_append] at h1
    omega
theorem LkSt.next {W4 wr : World} {f' : Int → Option Value} {A B : List Ent} {e' : Ent} {la : Str} {an : Bool} {dp : Int} {en : Ending} (hst : LkSt w W4 wr F X x t D l mo f f' e h cnt d A (e' :: B) la an dp) (hc : ChainW (Sub D h) hi (A ++ e' :: B))
    (hd : LkOut wr F X x t D l mo f' e' (d + 1 + h) (cnt + (flatM A).length) en w') : en = .returned (.int .i64 0) ∧ ∃ f2 z, LkSt w W4 w' F X x t D l mo f f2 e h cnt d (A ++ [e']) B z true ((d + 1 + h : Nat) : Int) := by
  obtain ⟨he, f2, z, hz, h1, h2, h3, h4, h5⟩ := hd
  refine ⟨he, f2, z.1, h1, ?_, h3, fun q hq => ?_, .inr rfl, fun _ => kid_srt hc hz, fun _ => ⟨rfl, rfl, z, ?_, rfl⟩, hst.only.trans h5⟩
  · rw [flatM_append, flatM_cons, flatM_nil, List.append_nil, List.length_append, ← Nat.add_assoc]
    exact h2
  · rw [flatP_append, flatP_cons, flatP_nil, List.append_nil] at hq
    rw [h4 q fun p hp => hq p (by simp [hp])]
    exact hst.same q fun p hp => hq p (by rcases List.mem_cons.1 hp with rfl | hp <;> simp [*])
  · rw [flatM_append, flatM_cons, flatM_nil, List.append_nil, List.getLast?_append, hz]
    rfl
set_option maxHeartbeats 4000000 in
theorem chk_step (ih : ∀ h', h = h' + 1 → LkSays X x t D l mo h') : LkSays X x t D l mo h := by
  intro w F f e hi last any dep cnt d low high hs hm hnd hin
  obtain ⟨n, hnode⟩ := sub_node hs
  obtain ⟨P, hP⟩ := sub_c hs
  have HMAY := Lib.hid hm
  have HNDUP := Lib.hid hnd
  rw [hP] at hm
  obtain ⟨his, hus⟩ := hm.one
  obtain ⟨hlf, hne⟩ := isNode_leaf hs hnode
  have hlm : l ≠ mo := fun e => hin.map.ne_blk hin.blk e.symm
  have hxm : x ≠ mo := fun e => hin.map.ne_blk hin.tree.blk e.symm
  have hlk := hin.map.im.lookup (P := Tryz.prog) (t := 126) (kt := 3) (e := 3) (z := .int .i64 0) (by kernel_rfl) (by kernel_rfl) (by kernel_rfl) false (e.c : Int)
  rw [hin.fresh e.c (by rw [hP]; simp)] at hlk
  obtain ⟨w1, hup, hm1, ho1⟩ := hin.map.update (P := Tryz.prog) (t := 126) (kt := 3) (e := 3) (by kernel_rfl) (by kernel_rfl) (e.c : Int) (.int .i64 1)
  have c1 : w.cell? ⟨l, 1, none⟩ = some (.map (some mo)) := hin.blk.cell 1
  have ht1 := hin.tree.off ho1 (fun k hk e => hin.offm (e ▸ hk)) hxm
  have hb1 := hin.blk.only ho1 hlm
  have c0 : w1.cell? ⟨l, 0, none⟩ = some (.pointer (some ⟨x, 0, none⟩)) := hb1.cell 0
  have HL := Lib.hid (load_ok ht1 his hus hnode.1 hnode.2.1 hne)
  have HIN := Lib.hid hin
  have HND := Lib.hid hnode
  have HSUB := Lib.hid hs
  have HB1 := Lib.hid hb1
  have HM1 := Lib.hid hm1
  have HO1 := Lib.hid ho1
  have HLM := Lib.hid hlm
  have HLF := Lib.hid hlf
  have HNE := Lib.hid hne
  clear hs hm hnd hin hnode his hus hlf hne hb1 hm1 ho1 ht1 hP hlm hxm
  go_enter Tryz.func62, Tryz.ntmps62
  go_wp2_with fail
  refine HL.out.mono ?_
  rintro en w2 ⟨pv, kv, cv, rfl, hn2, ht2, ho2⟩
  obtain ⟨W4, hW4⟩ : ∃ W4, W4 = w2.alloc (.cells #[.bool n.leaf, pv, kv, cv] 162) := ⟨_, rfl⟩
  have ho4 : Only NoB w2 W4 := by rw [hW4]; exact (Only.refl NoB w2).alloc _
  have hm4 : UMap W4 mo (upd f e.c (.int .i64 1)) := (HM1.out.keep (ho2.block mo HM1.out.lt HIN.out.offm)).keep (ho4.block mo (Nat.lt_of_lt_of_le HM1.out.lt ho2.size) id)
  have hb4 := (HB1.out.only ho2 HIN.out.offl).only ho4 id
  have hlk2 := hm4.im.lookup (P := Tryz.prog) (t := 126) (kt := 3) (e := 3) (z := .int .i64 0) (by kernel_rfl) (by kernel_rfl) (by kernel_rfl) false (e.c : Int)
  rw [show upd f (e.c : Int) (Value.int .i64 1) (e.c : Int) = some (.int .i64 1) by simp [upd]] at hlk2
  have d1 : W4.cell? ⟨l, 1, none⟩ = some (.map (some mo)) := hb4.cell 1
  have hbn : Blk W4 w2.heap.size 162 #[.bool n.leaf, pv, kv, cv] := by rw [hW4]; exact Blk.new w2 _ _
  have ho14 : Only (fun q => F q ∨ q = l ∨ q = mo) w W4 := ((HO1.out.mono fun k _ hk => .inr (.inr hk)).trans (ho2.mono fun k _ hk => .inl hk)).trans (ho4.mono fun _ _ h => h.elim)
  have hF2 : ∀ k, w1.heap.size ≤ k → ¬ F k := fun k hk hf => by have := ht2.tx.1 k hf; have := HIN.out.tree.tx.1 k hf; have := HO1.out.size; omega
  have hn4 : NodeR W4 (fun q => w1.heap.size ≤ q ∧ q < W4.heap.size) pv kv cv n := ((hn2.quit ho4).r).mono fun q hq hlt => ⟨hq, hlt⟩
  have ht4 := ht2.quit ho4
  have HB4 := Lib.hid hb4
  have HBN := Lib.hid hbn
  have HM4 := Lib.hid hm4
  have HN4 := Lib.hid hn4
  have HT4 := Lib.hid ht4
  have HF2 := Lib.hid hF2
  have HO4 := Lib.hid ho14
  have HW4 := Lib.hid hW4
  have HS1 := Lib.hid HO1.out.size
  have HS2 := Lib.hid ho2.size
  obtain ⟨pA, pc, kA, kc, cA, cc, rfl, rfl, rfl⟩ := hn4.shape
  clear hn2 ht2 ho2 ho4 hm4 hb4 hbn ho14 hF2 hn4 ht4 c0 c1 hlk hup HL
  rcases h with _ | h
  · have hl : n.leaf = true := by rw [HLF.out]; rfl
    have hn : n = leafN e.M := by
      rcases HND.out.2.2 with ⟨_, hn⟩ | ⟨h', _, _, h0, _⟩
      · exact hn
      · cases h0
    have hp4 := HN4.out.pairs
    rw [hn] at hp4
    have hpl : e.M.length ≤ 1000000 := by have := HIN.out.cnt; omega
    have hl2 := hlk2
    have hbn := HBN.out
    rw [hl] at hbn
    have n0 := hbn.cell 0
    have hbl := HB4.out
    obtain ⟨b1, hge, hdq⟩ : ∃ b1, decide (dep ≥ 0) = b1 ∧ (b1 = true → (dep != (d : Int)) = false) := by
      rcases HIN.out.dep with hd | hd
      · exact ⟨false, by rw [hd]; rfl, fun h => by cases h⟩
      · exact ⟨true, by rw [hd]; simp, fun _ => by rw [hd]; simp⟩
    have HLF2 := chk_leaf (kv := .slice kA n.keys.length kc) (cv := .slice cA n.children.length cc) hp4 (fun q hq e => by have := HB1.out.lt; have := hq.1; omega) dep hbl hge hdq HSUB.out.2.1 (sub_facts HSUB.out).srt HIN.out.low (fun y hy => (HSUB.out.2.2.1 y hy).2) HIN.out.high HIN.out.last hpl (by have := HIN.out.cnt; omega)
    have HLF2 := Lib.hid HLF2
    rw [hl] at HW4 ⊢
    have hnl : n.pairs.length = e.M.length := by rw [hn]; rfl
    rw [hnl] at HW4 n0 hbn ⊢
    rw [HW4.out] at d1 n0 hlk2 HLF2 hbn
    have n1 := hbn.cell 1
    have n2 := hbn.cell 2
    have n3 := hbn.cell 3
    clear hp4 hbl hn hl hl2 hnl hge hdq hbn
    unfold nodeV at HLF2 ⊢
    go_wp2_with fail
    refine HLF2.out.mono ?_
    rintro en w3 ⟨rfl, z, hz, hbz, hoz⟩
    have hoz' : Only (fun q => q = l) W4 w3 := by rw [HW4.out]; exact hoz
    have HE : Hid (LkOut w F X x t D l mo f e (d + 0) cnt (.returned (.int .i64 0)) w3) := Lib.hid ⟨rfl, _, z, hz, HT4.out.off hoz' (fun k hk hq => HIN.out.offl (hq ▸ hk)) (fun hq => HIN.out.tree.blk.ne_ HIN.out.blk (by decide) hq), hbz, HM4.out.keep (hoz'.block mo HM4.out.lt fun hq => HLM.out hq.symm), fun q hq => by
      have := hq e.c (by rw [HSUB.out.2.2.2.2.1]; simp)
      unfold upd
      rw [if_neg fun h => this h.symm], HO4.out.trans (hoz'.mono fun _ _ hq => .inr (.inl hq))⟩
    clear hz hbz hoz hoz'
    go_wp2_with fail
    go_ret
    exact HE.out
  · have hl : n.leaf = false := by rw [HLF.out]; rfl
    obtain ⟨x0, es, hI, hn⟩ : ∃ x0 es, In D h e hi x0 es ∧ n = innerN (x0 :: es) := by
      rcases HND.out.2.2 with ⟨h0, _⟩ | ⟨h', x0, es, h0, hI, hn⟩
      · cases h0
      · injection h0 with h0; subst h0; exact ⟨x0, es, hI, hn⟩
    have HIH := Lib.hid (ih h rfl)
    have HI := Lib.hid hI
    have hkl : n.keys.length = es.length := by rw [hn]; simp [innerN]
    have hcl : n.children.length = es.length + 1 := by rw [hn]; simp [innerN]
    have hkk : n.keys = es.map Ent.lo := by rw [hn]; rfl
    have hcc : n.children = (x0 :: es).map Ent.c := by rw [hn]; rfl
    have hN4 := HN4.out
    have HKB := Lib.hid (show ∀ k ∈ n.keys, 1 ≤ k.length from fun k hk => (HND.out.2.1.key k hk).1)
    have hks : es.length ≤ 4096 := by have := (ok_keys HND.out.2.1 HT4.out.mle).1; omega
    have hkn := hN4.keys
    have hcn := hN4.kids
    rw [hkk] at HKB hkn
    rw [hcc] at hcn
    have hbn := HBN.out
    rw [hl] at hbn HW4 ⊢
    rw [hkl, hcl] at hbn HW4 ⊢
    simp only [List.length_map, List.length_cons] at hkn hcn
    rw [HW4.out] at d1 hlk2
    have hbn1 := hbn
    rw [HW4.out] at hbn1
    have n0 := hbn1.cell 0
    have n3 := hbn1.cell 3
    have ST0 : Hid (LkSt w W4 W4 F X x t D l mo f (upd f e.c (.int .i64 1)) e h cnt d [] (x0 :: es) last any dep) := Lib.hid ⟨HT4.out, HB4.out, HM4.out, fun q hq => by
      have := hq e.c (by simp)
      unfold upd
      rw [if_neg fun h => this h.symm], by rcases HIN.out.dep with h1 | h1; (· exact .inl h1); (· right; rw [h1]; omega), fun h1 y hy => HIN.out.last h1 y (by rw [HI.out.M]; exact hy), fun h1 => (h1 rfl).elim, Only.refl _ _⟩
    have HKN := Lib.hid hkn
    have HCN := Lib.hid hcn
    have HBN2 := Lib.hid hbn
    have hdb : d ≤ 1000000 := by have := HIN.out.dh; omega
    clear hN4 hkk hcc hn hl hkl hcl hkn hcn hbn hbn1 hI ih HBN HN4
    unfold nodeV
    go_wp2_with fail
    rw [← HW4.out]
    go_loopw [74] (fun i wr => ∃ j : Nat, j ≤ (x0 :: es).length ∧ i = .int .i64 j ∧ ∃ f' la an dp, Hid (LkSt w W4 wr F X x t D l mo f f' e h cnt d ((x0 :: es).take j) ((x0 :: es).drop j) la an dp)) (fun i _ => es.length + 1 - (intOf i).toNat)
    case atStart => exact ⟨0, by simp, rfl, _, _, _, _, ST0⟩
    case round =>
      obtain ⟨j, hj, rfl, f', la, an, dp, HST⟩ := hrel
      clear ST0 d1 n0 n3
      by_cases hlt : j < (x0 :: es).length
      · have hlt2 : j < es.length + 1 := hlt
        have hdr := List.drop_eq_getElem_cons hlt
        have hsplit : x0 :: es = (x0 :: es).take j ++ (x0 :: es)[j] :: (x0 :: es).drop (j + 1) := by rw [← hdr, List.take_append_drop]
        have htk : (x0 :: es).take (j + 1) = (x0 :: es).take j ++ [(x0 :: es)[j]] := List.take_succ_eq_append_getElem hlt
        have HTK := Lib.hid htk
        have hst := HST.out
        rw [hdr] at hst
        have hch := HI.out.chain
        have hPe := HI.out.P
        have hMe := HI.out.M
        rw [hsplit] at hch hPe hMe
        obtain ⟨e', he'⟩ : ∃ e', e' = (x0 :: es)[j] := ⟨_, rfl⟩
        obtain ⟨A, hA⟩ : ∃ A, A = (x0 :: es).take j := ⟨_, rfl⟩
        obtain ⟨B, hB⟩ : ∃ B, B = (x0 :: es).drop (j + 1) := ⟨_, rfl⟩
        have hnx : ∀ up, (j < es.length → up = ((x0 :: es)[j + 1]?.map Ent.lo).getD []) → (¬ j < es.length → up = high) → HiS (nxt hi B) up := fun up h1 h2 => by
          by_cases hq : j < es.length
          · have h3 : (x0 :: es)[j + 1]? = some es[j] := by rw [List.getElem?_cons_succ]; exact List.getElem?_eq_getElem hq
            have h4 : B = es[j] :: es.drop (j + 1) := by rw [hB, List.drop_succ_cons]; exact List.drop_eq_getElem_cons hq
            have h5 := h1 hq
            rw [h3] at h5
            rw [h4, h5]
            refine .inr ⟨rfl, fun h6 => ?_⟩
            have h7 := HKB.out es[j].lo (List.mem_map_of_mem (List.getElem_mem hq))
            have h8 : es[j].lo = [] := h6
            rw [h8] at h7
            simp at h7
          · have h4 : B = [] := by rw [hB]; exact List.drop_eq_nil_of_le (by simp; omega)
            rw [h4, h2 hq]
            exact HIN.out.high
        have hfr : ∀ fr, (j = 0 → fr = low) → (j ≠ 0 → fr = e'.lo) → ∀ y ∈ e'.M, les fr y.1 := fun fr h1 h2 y hy => by
          by_cases hq : j = 0
          · rw [h1 hq]
            refine HIN.out.low y ?_
            rw [hMe, flatM_append, flatM_cons, ← he']
            exact List.mem_append_right _ (List.mem_append_left _ hy)
          · rw [h2 hq]
            rw [← he'] at hch
            exact ((sub_facts (kid_sub hch)).rng y hy).1
        rw [← he', ← hA, ← hB] at hst hch hPe hMe
        rw [← hA, ← he'] at HTK
        have HCH := Lib.hid hch
        have hC : ∀ fr up, (∀ y ∈ e'.M, les fr y.1) → HiS (nxt hi B) up → Calls Tryz.prog 62 #[.pointer (some ⟨l, 0, none⟩), .int .i64 e'.c, .int .i64 ((d + 1 : Nat) : Int), .string ⟨fr.toArray⟩, .string ⟨up.toArray⟩] wr (LkOut wr F X x t D l mo f' e' (d + 1 + h) (cnt + (flatM A).length)) :=
          fun fr up h1 h2 => HIH.out wr F f' e' (nxt hi B) la an dp _ (d + 1) fr up (kid_sub hch) (fun q hq => HMAY.out q (by rw [hPe]; simp [flatP_append, flatP_cons, hq])) (by have := HNDUP.out; rw [hPe, flatP_append, flatP_cons] at this; exact (List.nodup_append.1 (List.nodup_append.1 (List.nodup_cons.1 this).2).2.1).1) (hst.kid HIN.out hPe hMe HNDUP.out h1 h2)
        have HST2 := Lib.hid hst
        have hdis : ∀ q, (w1.heap.size ≤ q ∧ q < W4.heap.size) → ¬ (F q ∨ q = l ∨ q = mo) := fun q hq h1 => by
          rcases h1 with h1 | h1 | h1
          · exact HF2.out q hq.1 h1
          · have := HB1.out.lt; omega
          · have := HM1.out.lt; omega
        have hb9 := HBN2.out.only hst.only (hdis _ ⟨HS2.out, by have := HBN2.out.lt; omega⟩)
        have n2 := hb9.cell 2
        have hcn := HCN.out.only hst.only hdis
        have hkn := HKN.out.only hst.only hdis
        obtain ⟨gc, oc, c9, hve, _, _, hcell⟩ := hcn.open_ (by omega)
        injection hve with e1 e2 e3
        subst e1; subst e3
        have k1 := hcell j (natV e'.c) (by rw [List.getElem?_map, List.getElem?_map, List.getElem?_eq_getElem hlt, he']; rfl)
        unfold natV at k1
        have hwd : IntKind.i64.wrap ((d : Int) + 1) = ((d + 1 : Nat) : Int) := by rw [IntKind.wrap_i64]; omega
        have HL2 := Lib.hid he'
        have HBD := Lib.hid hB
        have HX2 := Lib.hid hnx
        have HF3 := Lib.hid hfr
        have HC2 := Lib.hid hC
        have HKX := Lib.hid hkn
        clear hdr hsplit htk hst hch hPe hMe hA hB hnx hfr hC hdis hb9 hcn hkn hcell he'
        rcases j with _ | j
        · by_cases hjl : 0 < es.length
          · obtain ⟨gk, ok, c8, hve, _, _, hkell⟩ := HKX.out.open_ (by omega)
            injection hve with e1 e2 e3
            subst e1; subst e3
            have k2 := hkell 0 (strV es[0].lo) (by rw [List.getElem?_map, List.getElem?_map, List.getElem?_eq_getElem hjl]; rfl)
            unfold strV at k2
            rw [Nat.add_zero] at k1 k2
            have HC := Lib.hid (HC2.out low es[0].lo (HF3.out low (fun _ => rfl) fun h => (h rfl).elim) (HX2.out _ (fun _ => by rw [List.getElem?_cons_succ, List.getElem?_eq_getElem hjl]; rfl) fun h => (h hjl).elim))
            obtain ⟨ku, hku⟩ : ∃ ku, ku = es[0].lo := ⟨_, rfl⟩
            rw [← hku] at HC k2
            clear hkell hku
            go_wp2_with fail
            refine HC.out.mono ?_
            rintro en w5 hd
            obtain ⟨rfl, f2, z, hn⟩ := HST2.out.next HCH.out hd
            have HN := Lib.hid hn
            clear hd hn HC
            go_wp2_with fail
            exact ⟨⟨0 + 1, by rw [List.length_cons]; omega, by go_num, f2, z, true, _, by rw [HTK.out, ← HBD.out]; exact HN⟩, by first | (simp [intOf]; done) | (simp [intOf]; omega)⟩
          · have HC := Lib.hid (HC2.out low high (HF3.out low (fun _ => rfl) fun h => (h rfl).elim) (HX2.out _ (fun h => (hjl h).elim) fun _ => rfl))
            rw [Nat.add_zero] at k1
            have hjd : decide ((0 : Int) < (es.length : Int)) = false := decide_eq_false (by omega)
            have hje : ¬ ((0 : Int) < (es.length : Int)) := by omega
            have hjn : es = [] := List.length_eq_zero_iff.1 (by omega)
            have HJN := Lib.hid hjn
            clear hjl hjn
            go_wp2_with fail
            refine HC.out.mono ?_
            rintro en w5 hd
            obtain ⟨rfl, f2, z, hn⟩ := HST2.out.next HCH.out hd
            have HN := Lib.hid hn
            clear hd hn HC
            go_wp2_with fail
            exact ⟨⟨0 + 1, by rw [List.length_cons]; omega, by go_num, f2, z, true, _, by rw [HTK.out, ← HBD.out]; exact HN⟩, by first | (simp [intOf]; done) | (simp [intOf]; omega)⟩
        · obtain ⟨gk, ok, c8, hve, _, _, hkell⟩ := HKX.out.open_ (by omega)
          injection hve with e1 e2 e3
          subst e1; subst e3
          have k3 := hkell j (strV e'.lo) (by rw [List.getElem?_map, List.getElem?_map, HL2.out, List.getElem?_eq_getElem (by omega)]; rfl)
          unfold strV at k3
          obtain ⟨kf, hkf⟩ : ∃ kf, kf = e'.lo := ⟨_, rfl⟩
          rw [← hkf] at k3
          by_cases hjl : j + 1 < es.length
          · have k2 := hkell (j + 1) (strV es[j + 1].lo) (by rw [List.getElem?_map, List.getElem?_map, List.getElem?_eq_getElem hjl]; rfl)
            unfold strV at k2
            have HC := Lib.hid (HC2.out kf es[j + 1].lo (HF3.out kf (fun h => by omega) fun _ => hkf) (HX2.out _ (fun _ => by rw [List.getElem?_cons_succ, List.getElem?_eq_getElem hjl]; rfl) fun h => (h hjl).elim))
            obtain ⟨ku, hku⟩ : ∃ ku, ku = es[j + 1].lo := ⟨_, rfl⟩
            rw [← hku] at HC k2
            clear hkell hku hkf
            go_wp2_with fail
            refine HC.out.mono ?_
            rintro en w5 hd
            obtain ⟨rfl, f2, z, hn⟩ := HST2.out.next HCH.out hd
            have HN := Lib.hid hn
            clear hd hn HC
            go_wp2_with fail
            exact ⟨⟨j + 1 + 1, by rw [List.length_cons]; omega, by go_num, f2, z, true, _, by rw [HTK.out, ← HBD.out]; exact HN⟩, by first | (simp [intOf]; done) | (simp [intOf]; omega)⟩
          · have HC := Lib.hid (HC2.out kf high (HF3.out kf (fun h => by omega) fun _ => hkf) (HX2.out _ (fun h => (hjl h).elim) fun _ => rfl))
            clear hkell hkf
            go_wp2_with fail
            refine HC.out.mono ?_
            rintro en w5 hd
            obtain ⟨rfl, f2, z, hn⟩ := HST2.out.next HCH.out hd
            have HN := Lib.hid hn
            clear hd hn HC
            go_wp2_with fail
            exact ⟨⟨j + 1 + 1, by rw [List.length_cons]; omega, by go_num, f2, z, true, _, by rw [HTK.out, ← HBD.out]; exact HN⟩, by first | (simp [intOf]; done) | (simp [intOf]; omega)⟩
      · obtain rfl : j = (x0 :: es).length := by omega
        have hst := HST.out
        rw [List.take_length, List.drop_length] at hst
        obtain ⟨hdp, hant, z, hz, hlz⟩ := hst.took (by simp)
        have HE : Hid (LkOut w F X x t D l mo f e (d + (h + 1)) cnt (.returned (.int .i64 0)) wr) := Lib.hid ⟨rfl, f', z, by rw [HI.out.M]; exact hz, hst.tree, by
          have h1 := hst.blk
          rw [hdp, hant, hlz, ← HI.out.M, show d + 1 + h = d + (h + 1) by omega] at h1
          exact h1, hst.map, fun q hq => hst.same q fun p hp => hq p (by rw [HI.out.P]; exact hp), HO4.out.trans hst.only⟩
        clear hst hdp hant hz hlz
        simp only [List.length_cons] at hlt ⊢
        go_wp2_with fail
        go_ret
        exact HE.out
end
end Go.Proofs.YtklfkocebhhgcaaGreat
namespace Go.Proofs.YtklfkocebhhgcaaGreat
open Go.RowKit Go.Proofs
set_option maxRecDepth 20000
section
variable {w w' : World} {F : Nat → Prop} {X : XC} {x t l mo h m n own c : Nat} {D : PD} {M : List KV} {e : Ent} {hi : Option Str}
theorem chk_page : ∀ h, LkSays X x t D l mo h
  | 0 => chk_step fun h' e => by omega
  | h + 1 => chk_step fun h' e => by
    obtain rfl : h = h' := by omega
    exact chk_page h
theorem sub_pages : ∀ {h : Nat} {e : Ent} {hi : Option Str}, Sub D h e hi → h < e.P.length
  | 0, e, hi, hs => by rw [hs.2.2.2.2.1]; simp
  | h + 1, e, hi, hs => by
    obtain ⟨x0, es, hI⟩ := sub_in hs
    have := sub_pages hI.chain.1
    rw [hI.P, flatP_cons]
    simp
    omega
theorem look_new (w : World) (x : Nat) : Blk ((w.alloc (.map #[] 0)).alloc (.cells (lookC x w.heap.size [] false (-1) 0) 128)) (w.heap.size + 1) 128 (lookC x w.heap.size [] false (-1) 0) ∧ UMap ((w.alloc (.map #[] 0)).alloc (.cells (lookC x w.heap.size [] false (-1) 0) 128)) w.heap.size (fun _ => none) ∧
    Only NoB w ((w.alloc (.map #[] 0)).alloc (.cells (lookC x w.heap.size [] false (-1) 0) 128)) := by
  refine ⟨?_, (UMap.made w).keep (Below.heap_alloc _ _ _ (by simp)), ((Only.refl NoB w).alloc _).alloc _⟩
  have := Blk.new (w.alloc (.map #[] 0)) 128 (lookC x w.heap.size [] false (-1) 0)
  rwa [World.size_alloc] at this
set_option maxHeartbeats 1000000 in
theorem bcheck_ok (ht : TxAt w F X t D) (hb : Bt D M c) (hl : M.length ≤ 1000000) :
    Calls Tryz.prog 23 #[.pointer (some ⟨t, 0, none⟩)] w (DeedT w F X t (.tuple #[.int .i64 (M.length : Nat), .int .i64 0]) D) := by
  have HOF := Lib.hid (of_ok ht hb.1.m1 hb.1.m2)
  have HLT := Lib.hid ht.lt
  have HB := Lib.hid hb
  have HG := Lib.hid hb.1
  have HL := Lib.hid hl
  clear ht hb hl
  go_enter Tryz.func23, Tryz.ntmps23
  go_wp2_with fail
  refine HOF.out.mono ?_
  rintro e w1 ⟨x, rfl, ht1, hx1, ho1, hxl⟩
  have HRT := Lib.hid (root_any ht1)
  have HX1 := Lib.hid hx1
  have HO1 := Lib.hid ho1
  have HXL := Lib.hid hxl
  clear ht1 hx1 ho1 hxl
  go_wp2_with fail
  refine HRT.out.mono ?_
  rintro e6 w6 ⟨rfl, F6, ht6, ho6, hg6⟩
  have hs1 := HO1.out.size
  have hFn : ∀ k, w.heap.size ≤ k → ¬ F k := fun k hk hf => by have := HLT.out k hf; omega
  have hxl := HXL.out
  have hx1l := HX1.out.lt
  have htr : TreeAt w6 F6 X x t D := ⟨ht6, HX1.out.only ho6 (hFn x hxl), fun hk => by rcases hg6 x hk with h1 | h1; (· exact hFn x hxl h1); (· omega), HG.out.m1⟩
  have hon6 : Only F w w6 := (HO1.out.mono fun _ _ h => h.elim).trans ho6
  have hgr6 : Grows F F6 w := fun k hk => (hg6 k hk).imp id fun h => by omega
  have HTR := Lib.hid htr
  have HON := Lib.hid hon6
  have HGR := Lib.hid hgr6
  clear hs1 hFn hxl hx1l htr hon6 hgr6 ht6 ho6 hg6
  rcases HB.out.2 with ⟨hr0, hM, hu⟩ | ⟨h, e, hroot⟩
  · have HE : Hid (DeedT w F X t (.tuple #[.int .i64 (M.length : Nat), .int .i64 0]) D (.returned (.tuple #[.int .i64 0, .int .i64 0])) w6) := Lib.hid ⟨by rw [hM]; rfl, F6, HTR.out.tx, HON.out, HGR.out⟩
    rw [hr0]
    clear hr0 hM hu
    go_wp2_with fail
    go_ret2
    exact HE.out
  · obtain rfl := hroot.M
    have hbq : ((D.root : Int) == 0) = false := by simp; exact hroot.ne0
    have hbr : ¬ ((D.root : Int) = 0) := by have := hroot.ne0; omega
    obtain ⟨b1, b2, b3⟩ := look_new w6 x
    have hoff : ∀ k, w6.heap.size ≤ k → ¬ F6 k := fun k hk hf => by have := HTR.out.tx.1 k hf; omega
    have hh : h ≤ 1000000 := by
      have h1 := sub_pages hroot.sub
      have h2 := nodup_le e.P (List.range D.n) hroot.held.nodup fun q hq => by
        have := hroot.held.is q hq
        unfold PD.is at this
        simp at this ⊢
        omega
      have := HTR.out.tx.base.nle
      simp at h2
      omega
    have hin : LkIn _ F6 X x t D (w6.heap.size + 1) w6.heap.size (fun _ => none) h e none [] false (-1) 0 0 [] [] := ⟨HTR.out.quit b3, b1, b2, hoff _ (by omega), hoff _ (Nat.le_refl _), fun _ _ => rfl, .inl rfl, fun y _ => nil_les _, .inl ⟨rfl, rfl⟩, fun h => (by cases h), by have := HL.out; omega, by omega⟩
    have hpg := chk_page h _ F6 _ e none [] false (-1) 0 0 [] [] hroot.sub (fun q hq => ⟨hroot.held.is q hq, hroot.held.used q hq⟩) hroot.held.nodup hin
    rw [hroot.at_] at hpg
    have HPG := Lib.hid hpg
    have HO3 := Lib.hid b3
    have HOFF := Lib.hid hoff
    clear hpg hin b1 b2 b3 hroot hoff hh
    unfold lookC at HPG HO3
    have hmm := fun w => @run_makeMap Tryz.prog w
    go_wp2_with fail
    refine HPG.out.mono ?_
    rintro e7 w7 ⟨rfl, f', z, hz, ht7, hb7, hm7, _, ho7⟩
    have x5 : w7.cell? ⟨w6.heap.size + 1, 5, none⟩ = some (.int .i64 ((0 + e.M.length : Nat) : Int)) := hb7.cell 5
    have hon : Only F w w7 := (HON.out.trans (HO3.out.mono fun _ _ h => h.elim)).trans' ho7 fun k hk hq => by
      have := HON.out.size
      rcases hq with hq | hq | hq
      · exact (HGR.out k hq).elim id fun h => by omega
      · omega
      · omega
    have HE : Hid (DeedT w F X t (.tuple #[.int .i64 (e.M.length : Nat), .int .i64 0]) D (.returned (.tuple #[.int .i64 (e.M.length : Nat), .int .i64 0])) w7) := Lib.hid ⟨rfl, F6, ht7.tx, hon, HGR.out⟩
    clear hz ht7 hb7 hm7 ho7 hon
    go_wp2_with fail
    go_ret2
    exact HE.out
theorem kv_check (h : KvAt w F X t m n own M c) (hl : M.length ≤ 1000000) :
    Calls Tryz.prog 23 #[.pointer (some ⟨t, 0, none⟩)] w (KvOut w F X t m n own (.tuple #[.int .i64 (M.length : Nat), .int .i64 0]) M c) := by
  obtain ⟨D, ht, hb, rfl, rfl, rfl, hkl⟩ := h
  refine (bcheck_ok ht hb hl).mono ?_
  rintro e w1 ⟨rfl, F', h1, h6, h7⟩
  exact ⟨rfl, F', ⟨D, h1.at_, hb, rfl, rfl, rfl, hkl⟩, h6, h7⟩
end
end Go.Proofs.YtklfkocebhhgcaaGreat
