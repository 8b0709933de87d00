import Derived.Test.YtklfkocebhhgcaaGreatMf7
set_option linter.unusedVariables false
set_option linter.unusedSimpArgs false
namespace Go.Proofs.YtklfkocebhhgcaaGreat
open Go.RowKit Go.Proofs Go.Shelf
set_option maxRecDepth 20000
attribute [local go_sem] Oper.semAt_some
section
variable {w w' : World}
end
end Go.Proofs.YtklfkocebhhgcaaGreat
namespace Go.Proofs.YtklfkocebhhgcaaGreat
open Go.RowKit Go.Proofs Go.Shelf
set_option maxRecDepth 20000
attribute [local go_sem] Oper.semAt_some
section
variable {w w' : World} {F G : Nat → Prop}
set_option maxHeartbeats 1000000 in
theorem texts_same {va vb : Value} {L : List Str} (ha : Rd w F 1 va L.length (L.map strV)) (hb : Rd w G 1 vb L.length (L.map strV)) (hl : L.length ≤ 100000) :
  Calls Tryz.prog 28 #[va, vb] w fun e w' => e = .returned (.bool true) ∧ Only NoB w w' := by
 obtain ⟨A, c, rfl, _⟩ := id ha
 obtain ⟨B, c2, rfl, _⟩ := id hb
 have HA := Lib.hid ha
 have HB := Lib.hid hb
 clear ha hb
 go_enter Tryz.func28, Tryz.ntmps28
 go_wp2_with fail
 go_loopw [5] (fun i wr => ∃ j : Nat, j ≤ L.length ∧ i = .int .i64 j ∧ Only NoB w wr) (fun i _ => L.length - (intOf i).toNat)
 case atStart => exact ⟨0, Nat.zero_le _, rfl, Only.refl _ _⟩
 case round =>
  obtain ⟨j, hj, rfl, hoj⟩ := hrel
  by_cases hjl : j < L.length
  ·obtain ⟨gw, offw, c3, hve1, _, _, hcell1⟩ := HA.out.open_ (by omega)
   injection hve1 with q1 q2 q3
   subst q1; subst q3
   obtain ⟨gn, offn, c4, hve2, _, _, hcell2⟩ := HB.out.open_ (by omega)
   injection hve2 with q4 q5 q6
   subst q4; subst q6
   have p1 : (L.map strV)[j]? = some (strV L[j]) := by rw [List.getElem?_map, List.getElem?_eq_getElem hjl]; rfl
   have u1 : wr.drew.cell? _ = _ := hoj.drew.cell (hcell1 _ _ p1) id
   have v1 : wr.drew.cell? _ = _ := hoj.drew.cell (hcell2 _ _ p1) id
   obtain ⟨nm, hnm⟩ : ∃ nm, nm = L[j] := ⟨_, rfl⟩
   rw [← hnm] at u1 v1
   unfold strV at u1 v1
   have HOJ := Lib.hid hoj
   have hj1 : (j : Int) < (L.length : Int) := by omega
   have hj0 : (0 : Int) ≤ (j : Int) := by omega
   clear hcell1 hcell2 p1 hnm hoj q2 q5
   go_upto_region 6 with fail
   refine hB _ 9 (fun w' => w'.cell? ⟨gw, offw + j, none⟩ = some (.string ⟨nm.toArray⟩) ∧ w'.cell? ⟨gn, offn + j, none⟩ = some (.string ⟨nm.toArray⟩)) (⟨u1, v1⟩) (fun hHeld => ?_)
   refine hT 0 17 ?_
   refine hT 1 18 ?_
   refine hT 2 19 ?_
   refine hT 3 20 ?_
   refine hT 4 21 ?_
   refine hT 5 22 ?_
   refine hT 6 23 ?_
   refine hT 7 24 ?_
   refine hV 8 25 (.bool false) ?_
   refine wpAnyH_done (by kernel_rfl) ?_ _
   refine NoPanic.normal ?_
   go_wp2_with fail
   exact ⟨⟨j + 1, by omega, by go_num, HOJ.out.drew⟩, by simp [intOf]; omega⟩
  ·obtain rfl : j = L.length := by omega
   have HOJ := Lib.hid hoj
   clear hjl hoj
   go_wp2_with fail
   go_ret
   exact ⟨rfl, HOJ.out⟩
theorem nmOk_eq (A : Str) : nmOk A = (nameOk A && (!decide (A = [46]) && !decide (A = [46, 46]))) := by
 unfold nmOk
 rw [dirOk_parts, show numIn 1 1 16777215 = true by decide, Bool.true_and]
def RpOut (s : Str) (w : World) (e : Ending) (w' : World) : Prop :=
 ∃ (v : Value) (ok : Bool), e = .returned (.tuple #[v, .bool ok]) ∧ Only NoB w w' ∧ pathOk s = ok ∧ (ok = true → Own w' (From w.heap.size) 9 1 v (namesOf s).length ((namesOf s).map strV))
def RpSt (s : Str) (w : World) (v : Value) (f i : Nat) (wr : World) : Prop :=
 ∃ out : List Str, ScanAt s i f out ∧ (∀ a ∈ out, nmOk a = true) ∧ Own wr (From w.heap.size) 9 1 v out.length (out.map strV) ∧ Only NoB w wr
set_option maxHeartbeats 4000000 in
theorem rpath_ok (s : Str) (hs : s.length ≤ 2000) (w : World) : Calls Tryz.prog 26 #[.string ⟨s.toArray⟩] w (RpOut s w) := by
 by_cases hz : s = []
 ·subst hz
  go_enter Tryz.func26, Tryz.ntmps26
  go_wp2_with fail
  go_ret2
  exact ⟨_, true, rfl, Only.refl _ _, by decide, fun _ => by simpa [namesOf] using Own.nil w (From w.heap.size) 9 1⟩
 ·have hno : namesOf s = parts s := by rw [namesOf, if_neg hz]
  have hz2 : (s == []) = false := by simpa using hz
  have hz3 := str_ne hz
  obtain ⟨ls, hls⟩ : ∃ ls, ls = s.length := ⟨_, rfl⟩
  have hls' : s.length = ls := hls.symm
  have HNO := Lib.hid hno
  have HLS := Lib.hid hls'
  have hls2 : (ls : Int) ≤ 2000 := by omega
  have HS := Lib.hid hs
  have hie : s.isEmpty = false := by cases s; (· exact absurd rfl hz); rfl
  clear hno hls hs
  go_enter Tryz.func26, Tryz.ntmps26
  go_wp2_with fail
  go_loopw [4, 5, 6] (fun v f i wr => ∃ (j g : Nat), i = .int .i64 j ∧ f = .int .i64 g ∧ j ≤ ls + 1 ∧ Hid (RpSt s w v g j wr)) (fun _ _ i _ => ls + 1 - (intOf i).toNat)
  case atStart => exact ⟨0, 0, rfl, rfl, Nat.zero_le _, Lib.hid ⟨[], scan_start s, (fun a h => by cases h), Own.nil _ _ _ _, Only.refl _ _⟩⟩
  case round =>
   obtain ⟨j, f, rfl, rfl, hj, HST⟩ := hrel
   obtain ⟨out, hsc, hok, hown, ho⟩ := HST.out
   obtain ⟨A, cp, rfl, _⟩ := hown.shape
   have hole : out.length ≤ 2001 := by
    have h1 := congrArg List.length hsc.rest
    have h2 := parts_len (s := s)
    have := HS.out
    rw [List.length_append] at h1
    omega
   have HSC := Lib.hid hsc
   have HOK := Lib.hid hok
   have HOW := Lib.hid hown
   have HO := Lib.hid ho
   have hfj : f ≤ j := hsc.le
   clear HST hsc hok hown ho
   by_cases hjl : j ≤ ls
   ·-- what is cut out at j
    have HCUT : Hid (∀ hb : (∀ hl : j < s.length, s[j] = 47), ScanAt s (j + 1) (j + 1) (out ++ [(s.drop f).take (j - f)]) ∧ (s.drop f).take (j - f) ∈ parts s) := Lib.hid fun hb => scan_cut HSC.out (by rw [HLS.out]; omega) hb
    have e1 : (⟨s.toArray⟩ : ByteArray).extract f j = ⟨((s.drop f).take (j - f)).toArray⟩ := ext_str s f j
    obtain ⟨a, ha⟩ : ∃ a, a = (s.drop f).take (j - f) := ⟨_, rfl⟩
    rw [← ha] at HCUT e1
    have hal : a.length ≤ 140737488351232 := by rw [ha]; have := HS.out; simp; omega
    have HNM0 := fun z => rname14_ok a hal z
    unfold Rn14Out at HNM0
    rw [← nmOk_eq] at HNM0
    have hfi : (f : Int) ≤ (j : Int) := by omega
    have hf0 : (0 : Int) ≤ (f : Int) := by omega
    have hj0 : (0 : Int) ≤ (j : Int) := by omega
    have hjl2 : (j : Int) ≤ (ls : Int) := by omega
    clear ha hal
    by_cases hlt : j < ls
    ·obtain ⟨b, hb⟩ : ∃ b, s[j]? = some b := ⟨_, List.getElem?_eq_getElem (by rw [HLS.out]; exact hlt)⟩
     have hx := byte_at hb
     have hlt2 : (j : Int) < (ls : Int) := by omega
     have hbj : ∀ hl : j < s.length, s[j] = b := fun hl => by rw [List.getElem?_eq_getElem hl] at hb; exact Option.some.inj hb
     by_cases h47 : b = 47
     ·subst h47
      have HC := Lib.hid (HCUT.out hbj)
      clear hbj hb HCUT
      cases hb : nmOk a with
      | false =>
       have HNM := HNM0 wr
       rw [hb] at HNM
       have HNM := Lib.hid HNM
       have HE : Hid (RpOut s w (.returned (.tuple #[.slice none 0 0, .bool false])) wr) := Lib.hid ⟨_, false, rfl, HO.out, pathOk_bad (by rw [HNO.out]; exact HC.out.2) (.inl hb), fun h => by cases h⟩
       clear hb HNM0
       go_wp2_with fail
       refine HNM.out.mono ?_
       rintro e w1 ⟨rfl, rfl⟩
       go_wp2_with fail
       go_ret2
       exact HE.out
      | true =>
       have HNM := HNM0 wr
       rw [hb] at HNM
       have HNM := Lib.hid HNM
       have HB := Lib.hid hb
       have HR8 := Lib.hid (rd_new wr 9 1 1 [.string ⟨a.toArray⟩] rfl)
       have HW8 := Lib.hid (HOW.out.alloc (.cells #[.string ⟨a.toArray⟩] 9))
       clear hb HNM0
       go_wp2_with fail
       refine HNM.out.mono ?_
       rintro e w1 ⟨rfl, rfl⟩
       go_wp2_with (at_builtin; refine wpList_app rfl _ _ _ rfl (by kernel_rfl) Ty.str rfl rfl HW8.out HR8.out (by simp [Value.oneCell']) (by omega) ?_; intro v9 w9 ha9; obtain ⟨A9, c9, rfl, _⟩ := id ha9.shape; have HA9 := Lib.hid ha9; clear ha9)
       have hn : RpSt s w (.slice A9 (out.length + 1) c9) (j + 1) (j + 1) w9 := by
        refine ⟨out ++ [a], HC.out.1, fun x hx => ?_, ?_, only_new (HO.out.alloc _) HA9.out.only fun i hi => HOW.out.2 i hi⟩
        ·rcases List.mem_append.1 hx with h | h
         ·exact HOK.out x h
         ·rw [List.mem_singleton] at h; rw [h]; exact HB.out
        ·rw [List.length_append, List.map_append]
         exact HA9.out.own.mono fun i hi _ => by
          rcases hi with hi | hi
          ·exact hi
          ·rw [World.size_alloc] at hi
           have := HO.out.size
           show w.heap.size ≤ i
           omega
       have HN := Lib.hid hn
       clear hn
       exact ⟨⟨j + 1, j + 1, by go_num, by go_num, by omega, HN⟩, by simp [intOf]; omega⟩
     ·have hb2 : ¬ ((b.toNat : Int) = 47) := fun e => h47 (UInt8.toNat.inj (by show b.toNat = 47; omega))
      have hb3 : (b == 47) = false := by simpa using h47
      have HN : Hid (RpSt s w (.slice A out.length cp) f (j + 1) wr) := Lib.hid ⟨out, scan_skip HSC.out (by rw [HLS.out]; exact hlt) (by rw [hbj]; exact h47), HOK.out, HOW.out, HO.out⟩
      clear hbj hb HCUT h47 HNM0
      go_wp2_with fail
      exact ⟨⟨j + 1, f, by go_num, rfl, by omega, HN⟩, by simp [intOf]; omega⟩
    ·have hge : ¬ ((j : Int) < (ls : Int)) := by omega
     have HC := Lib.hid (HCUT.out fun hl => by rw [HLS.out] at hl; omega)
     clear HCUT
     cases hb : nmOk a with
     | false =>
      have HNM := HNM0 wr
      rw [hb] at HNM
      have HNM := Lib.hid HNM
      have HE : Hid (RpOut s w (.returned (.tuple #[.slice none 0 0, .bool false])) wr) := Lib.hid ⟨_, false, rfl, HO.out, pathOk_bad (by rw [HNO.out]; exact HC.out.2) (.inl hb), fun h => by cases h⟩
      clear hb HNM0
      go_wp2_with fail
      refine HNM.out.mono ?_
      rintro e w1 ⟨rfl, rfl⟩
      go_wp2_with fail
      go_ret2
      exact HE.out
     | true =>
      have HNM := HNM0 wr
      rw [hb] at HNM
      have HNM := Lib.hid HNM
      have HB := Lib.hid hb
      have HR8 := Lib.hid (rd_new wr 9 1 1 [.string ⟨a.toArray⟩] rfl)
      have HW8 := Lib.hid (HOW.out.alloc (.cells #[.string ⟨a.toArray⟩] 9))
      clear hb HNM0
      go_wp2_with fail
      refine HNM.out.mono ?_
      rintro e w1 ⟨rfl, rfl⟩
      go_wp2_with (at_builtin; refine wpList_app rfl _ _ _ rfl (by kernel_rfl) Ty.str rfl rfl HW8.out HR8.out (by simp [Value.oneCell']) (by omega) ?_; intro v9 w9 ha9; obtain ⟨A9, c9, rfl, _⟩ := id ha9.shape; have HA9 := Lib.hid ha9; clear ha9)
      have hn : RpSt s w (.slice A9 (out.length + 1) c9) (j + 1) (j + 1) w9 := by
       refine ⟨out ++ [a], HC.out.1, fun x hx => ?_, ?_, only_new (HO.out.alloc _) HA9.out.only fun i hi => HOW.out.2 i hi⟩
       ·rcases List.mem_append.1 hx with h | h
        ·exact HOK.out x h
        ·rw [List.mem_singleton] at h; rw [h]; exact HB.out
       ·rw [List.length_append, List.map_append]
        exact HA9.out.own.mono fun i hi _ => by
         rcases hi with hi | hi
         ·exact hi
         ·rw [World.size_alloc] at hi
          have := HO.out.size
          show w.heap.size ≤ i
          omega
      have HN := Lib.hid hn
      clear hn
      exact ⟨⟨j + 1, j + 1, by go_num, by go_num, by omega, HN⟩, by simp [intOf]; omega⟩
   ·obtain rfl : j = ls + 1 := by omega
    have hend : parts s = out := scan_end (by have := HSC.out; rw [← HLS.out] at this; exact this)
    have hno : namesOf s = out := HNO.out.trans hend
    have HE : Hid (∀ ok, ok = decide (s.length ≤ 1000) → RpOut s w (.returned (.tuple #[.slice A out.length cp, .bool ok])) wr) := Lib.hid fun ok hk => ⟨_, ok, rfl, HO.out, by
     rw [hk, pathOk, hno]
     have : out.all nmOk = true := by simpa using HOK.out
     rw [this, Bool.and_true], fun _ => by rw [hno]; exact HOW.out⟩
    clear hend hno hjl hfj
    by_cases h1 : ls ≤ 1000
    ·have h2 : (ls : Int) ≤ 1000 := by omega
     have HE2 := Lib.hid (HE.out true (by rw [HLS.out]; simpa using h1))
     clear HE
     go_wp2_with fail
     go_ret2
     exact HE2.out
    ·have h2 : ¬ ((ls : Int) ≤ 1000) := by omega
     have HE2 := Lib.hid (HE.out false (by rw [HLS.out]; simpa using h1))
     clear HE
     go_wp2_with fail
     go_ret2
     exact HE2.out
end
end Go.Proofs.YtklfkocebhhgcaaGreat
namespace Go.Proofs.YtklfkocebhhgcaaGreat
open Go.RowKit Go.Proofs Go.Shelf
set_option maxRecDepth 20000
attribute [local go_sem] Oper.semAt_some
section
variable {w w' : World}
set_option maxHeartbeats 4000000 in
theorem fsysPaths_main (s : Str) : Calls Tryz.prog 4 #[.string ⟨s.toArray⟩] w (Quit w (.bool true)) := by
 obtain ⟨ls, hls⟩ : ∃ ls, ls = s.length := ⟨_, rfl⟩
 have hls' : s.length = ls := hls.symm
 by_cases hbig : ((ls : Int) > 2000)
 ·have h1 : decide ((ls : Int) > 2000) = true := by simpa using hbig
  clear hls hbig
  go_enter Tryz.func4, Tryz.ntmps4
  go_wp2_with fail
  go_ret
  exact ⟨rfl, Only.refl _ _⟩
 ·have h1 : decide ((ls : Int) > 2000) = false := by simpa using hbig
  have HP0 := path_ok s (by omega) w
  have HR0 := fun w1 => rpath_ok s (by omega) w1
  have HLB := Sh.mk (show s.length ≤ 2000 by omega)
  have HA := Sh.mk fun w1 => awake15_ok (w := w1)
  unfold PathAns at HP0
  clear hls hbig
  cases hpo : pathOk s with
  | false =>
   rw [hpo] at HP0
   have HP := Sh.mk HP0
   have HR := Sh.mk HR0
   have HPO := Sh.mk hpo
   clear HP0 HR0 hpo
   go_enter Tryz.func4, Tryz.ntmps4
   go_wp2_with fail
   refine HP.out.mono ?_
   rintro e w1 ⟨⟨hno, _⟩ | ⟨_, rfl⟩, ho1⟩
   case inl => cases hno
   have HO1 := Sh.mk ho1
   clear ho1
   go_wp2_with fail
   refine (HR.out w1).mono ?_
   rintro e w2 ⟨v, ok, rfl, ho2, hok, _⟩
   have hok2 : ok = false := hok.symm.trans HPO.out
   subst hok2
   have HO2 := Sh.mk (HO1.out.trans ho2)
   have HAW := Sh.mk (HA.out w2)
   clear ho2 hok
   go_wp2_with fail
   refine HAW.out.mono ?_
   rintro e w3 ⟨rfl, ho3⟩
   have HO3 := Sh.mk (HO2.out.trans ho3)
   clear ho3
   go_wp2_with fail
   go_ret
   exact ⟨rfl, HO3.out⟩
  | true =>
   rw [hpo] at HP0
   have HP := Sh.mk HP0
   have HR := Sh.mk HR0
   have HPO := Sh.mk hpo
   have HNL := Sh.mk (names_len hpo)
   clear HP0 HR0 hpo
   go_enter Tryz.func4, Tryz.ntmps4
   go_wp2_with fail
   refine HP.out.mono ?_
   rintro e w1 ⟨⟨_, va, rfl, hown⟩ | ⟨hno, _⟩, ho1⟩
   case inr => cases hno
   have HO1 := Sh.mk ho1
   have HOW := Sh.mk hown
   clear ho1 hown
   go_wp2_with fail
   refine (HR.out w1).mono ?_
   rintro e w2 ⟨vb, ok, rfl, ho2, hok, hownb⟩
   have hok2 : ok = true := hok.symm.trans HPO.out
   subst hok2
   have HOB := Sh.mk (hownb rfl)
   have HO2 := Sh.mk ho2
   have HAW := Sh.mk (HA.out w2)
   clear ho2 hok hownb
   go_wp2_with fail
   refine HAW.out.mono ?_
   rintro e w3 ⟨rfl, ho3⟩
   have ra : Rd w3 (From w.heap.size) 1 va (namesOf s).length ((namesOf s).map strV) := Rd.only HOW.out.rd (HO2.out.trans ho3) fun _ _ => id
   have rb : Rd w3 (From w1.heap.size) 1 vb (namesOf s).length ((namesOf s).map strV) := Rd.only HOB.out.rd ho3 fun _ _ => id
   have HTX := Sh.mk (texts_same ra rb HNL.out)
   have HO3 := Sh.mk ((HO1.out.trans HO2.out).trans ho3)
   clear ho3 ra rb
   go_wp2_with fail
   refine HTX.out.mono ?_
   rintro e w4 ⟨rfl, ho4⟩
   have HO4 := Sh.mk (HO3.out.trans ho4)
   clear ho4
   go_wp2_with fail
   go_ret
   exact ⟨rfl, HO4.out⟩
end
theorem fsysPaths_walk (w : World) (s1 : ByteArray) (_ : s1.size ≤ maxLen) : Calls Tryz.prog 4 #[.string s1] w (Quit w (.bool true)) := by
 obtain ⟨⟨a⟩, rfl⟩ : ∃ x : Array UInt8, s1 = ⟨x⟩ := ⟨s1.data, rfl⟩
 exact fsysPaths_main a
end Go.Proofs.YtklfkocebhhgcaaGreat
