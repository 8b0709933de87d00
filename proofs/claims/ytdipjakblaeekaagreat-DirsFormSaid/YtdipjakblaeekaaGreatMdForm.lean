import Derived.Test.YtdipjakblaeekaaGreatMd7
set_option linter.unusedVariables false
set_option linter.unusedSimpArgs false
namespace Go.Proofs.YtdipjakblaeekaaGreat
open Go.RowKit Go.Proofs Go.Shelf
set_option maxRecDepth 20000
attribute [local go_sem] Oper.semAt_some
section
variable {w w' : World}
def Rn11Out (s : Str) (w : World) (e : Ending) (w' : World) : Prop := e = .returned (.bool (nameOk s)) ∧ w' = w
theorem hasZS_no {s : Str} (h : ∀ j (hj : j < s.length), s[j] ≠ 0 ∧ s[j] ≠ 47) : hasZS s = false := by
  cases hz : hasZS s with
  | false => rfl
  | true =>
    exfalso
    unfold hasZS at hz
    obtain ⟨b, hb, hb2⟩ := List.any_eq_true.1 hz
    obtain ⟨j, hj, rfl⟩ := List.getElem_of_mem hb
    have := h j hj
    simp only [Bool.or_eq_true, beq_iff_eq] at hb2
    exact hb2.elim this.1 this.2
theorem hasZS_at {s : Str} {j : Nat} (hj : j < s.length) (h : s[j] = 0 ∨ s[j] = 47) : hasZS s = true := by
  unfold hasZS
  refine List.any_eq_true.2 ⟨s[j], List.getElem_mem hj, ?_⟩
  simp only [Bool.or_eq_true, beq_iff_eq]
  exact h
set_option maxHeartbeats 2000000 in
theorem rname11_ok (s : Str) (hl : s.length ≤ 140737488351232) (w : World) : Calls Tryz.prog 65 #[.string ⟨s.toArray⟩] w (Rn11Out s w) := by
  obtain ⟨n, hn⟩ : ∃ n, n = s.length := ⟨_, rfl⟩
  have hn' : s.length = n := hn.symm
  have HN := Lib.hid hn'
  clear hn
  go_enter Tryz.func65, Tryz.ntmps65
  go_wp2_with fail
  go_loop [3] (fun i => ∃ k : Nat, k ≤ n ∧ i = .int .i64 k ∧ Hid (∀ j (hj : j < s.length), j < k → s[j] ≠ 0 ∧ s[j] ≠ 47)) (fun i => n - (intOf i).toNat)
  case atStart => exact ⟨0, Nat.zero_le _, rfl, Lib.hid fun _ _ h => absurd h (Nat.not_lt_zero _)⟩
  case round =>
    obtain ⟨k, hk, rfl, HI⟩ := hrel
    by_cases hlt : k < n
    · have hks : k < s.length := by omega
      obtain ⟨b, hb⟩ : ∃ b, b = s[k] := ⟨_, rfl⟩
      have hx : ∀ h, ((⟨s.toArray⟩ : ByteArray)[k]'h) = b := byte_at (s := s) (i := k) (b := b) (by rw [List.getElem?_eq_getElem hks, hb])
      have HB := Lib.hid hb
      clear hb
      by_cases h0 : b = 0
      · have hz : hasZS s = true := hasZS_at hks (.inl (by rw [← HB.out]; exact h0))
        have HR : Hid (Rn11Out s w (.returned (.bool false)) w) := Lib.hid ⟨by simp [nameOk, hz], rfl⟩
        subst h0
        clear hz
        go_wp2_with fail
        go_ret
        exact HR.out
      · by_cases h47 : b = 47
        · have hz : hasZS s = true := hasZS_at hks (.inr (by rw [← HB.out]; exact h47))
          have HR : Hid (Rn11Out s w (.returned (.bool false)) w) := Lib.hid ⟨by simp [nameOk, hz], rfl⟩
          subst h47
          clear hz
          go_wp2_with fail
          go_ret
          exact HR.out
        · have e0 : ¬ (b.toNat : Int) = 0 := fun e => h0 (UInt8.toNat.inj (show b.toNat = 0 by omega))
          have e47 : ¬ (b.toNat : Int) = 47 := fun e => h47 (UInt8.toNat.inj (show b.toNat = 47 by omega))
          have q0 : ((b.toNat : Int) == 0) = false := beq_eq_false_iff_ne.2 e0
          have q47 : ((b.toNat : Int) == 47) = false := beq_eq_false_iff_ne.2 e47
          have HNX : Hid (∀ j (hj : j < s.length), j < k + 1 → s[j] ≠ 0 ∧ s[j] ≠ 47) := Lib.hid fun j hj hjk => by
            by_cases e : j = k
            · subst e; rw [← HB.out]; exact ⟨h0, h47⟩
            · exact HI.out j hj (by omega)
          go_wp2_with fail
          exact ⟨⟨k + 1, by omega, by go_num, HNX⟩, by simp [intOf]; omega⟩
    · obtain rfl : k = n := by omega
      have hz : hasZS s = false := hasZS_no fun j hj => HI.out j hj (by have := HN.out; omega)
      have HR : Hid (nameOk s = (decide (1 ≤ (k : Int)) && decide ((k : Int) ≤ 64))) := Lib.hid (by
        rw [nameOk, hz, HN.out]
        rw [Bool.not_false, Bool.and_true]
        congr 1 <;> exact decide_eq_decide.2 (by omega))
      clear hz HI
      by_cases h1 : 1 ≤ (k : Int)
      · by_cases h2 : (k : Int) ≤ 64
        · go_wp2_with fail
          go_ret
          exact ⟨by rw [HR.out]; simp [h1, h2], rfl⟩
        · go_wp2_with fail
          go_ret
          exact ⟨by rw [HR.out]; simp [h1, h2], rfl⟩
      · go_wp2_with fail
        go_ret
        exact ⟨by rw [HR.out, decide_eq_false (show ¬ 1 ≤ (k : Int) by omega)]; rfl, rfl⟩
def Rn14Out (s : Str) (w : World) (e : Ending) (w' : World) : Prop := e = .returned (.bool (nameOk s && (!decide (s = [46]) && !decide (s = [46, 46])))) ∧ w' = w
theorem rname14_ok (s : Str) (hl : s.length ≤ 140737488351232) (w : World) : Calls Tryz.prog 35 #[.string ⟨s.toArray⟩] w (Rn14Out s w) := by
  have HN := rname11_ok s hl w
  unfold Rn11Out at HN
  unfold Rn14Out
  cases hb : nameOk s with
  | false =>
    rw [hb] at HN
    have HN := Lib.hid HN
    clear hb hl
    simp only [Bool.false_and]
    go_enter Tryz.func35, Tryz.ntmps35
    go_wp2_with fail
    refine HN.out.mono ?_
    rintro e w1 ⟨rfl, rfl⟩
    go_wp2_with fail
    go_ret
    exact ⟨rfl, rfl⟩
  | true =>
    rw [hb] at HN
    have HN := Lib.hid HN
    clear hl
    by_cases h1 : s = [46]
    · subst h1
      clear hb
      go_enter Tryz.func35, Tryz.ntmps35
      go_wp2_with fail
      refine HN.out.mono ?_
      rintro e w1 ⟨rfl, rfl⟩
      go_wp2_with fail
      go_ret
      exact ⟨rfl, rfl⟩
    · by_cases h2 : s = [46, 46]
      · subst h2
        clear hb h1
        go_enter Tryz.func35, Tryz.ntmps35
        go_wp2_with fail
        refine HN.out.mono ?_
        rintro e w1 ⟨rfl, rfl⟩
        go_wp2_with fail
        go_ret
        exact ⟨rfl, rfl⟩
      · have hv : (true && (!decide (s = [46]) && !decide (s = [46, 46]))) = true := by simp [h1, h2]
        rw [hv]
        have hq1 : (s == [46]) = false := by simpa using h1
        have hq2 : (s == [46, 46]) = false := by simpa using h2
        clear hb hv
        go_enter Tryz.func35, Tryz.ntmps35
        go_wp2_with fail
        refine HN.out.mono ?_
        rintro e w1 ⟨rfl, rfl⟩
        go_wp2_with fail
        go_ret
        exact ⟨rfl, rfl⟩
end
end Go.Proofs.YtdipjakblaeekaaGreat
namespace Go.Proofs.YtdipjakblaeekaaGreat
open Go.RowKit Go.Proofs Go.Shelf
set_option maxRecDepth 20000
attribute [local go_sem] Oper.semAt_some
section
variable {w w' : World} {F G : Nat → Prop} {X : XC} {t : Nat}
theorem numV_zero {v : Str} : numV v = 0 ↔ ¬ (v.length = 3 ∧ v ≠ [0, 0, 0]) := by
  unfold numV
  by_cases h3 : v.length = 3
  · rw [if_pos h3]
    obtain ⟨a, b, c, rfl⟩ : ∃ a b c, v = [a, b, c] := by
      match v, h3 with
      | [a, b, c], _ => exact ⟨a, b, c, rfl⟩
    simp only [foldN, List.foldl_cons, List.foldl_nil]
    constructor
    · rintro h ⟨_, hne⟩
      apply hne
      have ha : a.toNat = 0 := by omega
      have hb : b.toNat = 0 := by omega
      have hc : c.toNat = 0 := by omega
      rw [show a = 0 from UInt8.toNat.inj ha, show b = 0 from UInt8.toNat.inj hb, show c = 0 from UInt8.toNat.inj hc]
    · intro h
      have : [a, b, c] = [0, 0, 0] := Decidable.byContradiction fun hne => h ⟨rfl, hne⟩
      injection this with e1 e2
      injection e2 with e2 e3
      injection e3 with e3 _
      subst e1; subst e2; subst e3
      rfl
  · rw [if_neg h3]
    exact ⟨fun _ h => h3 h.1, fun _ => rfl⟩
theorem dirOk_eq (dir : Int) (name : Str) : dirOk dir name = (numIn dir 1 16777215 && (nameOk name && (!decide (name = [46]) && !decide (name = [46, 46])))) := by
  unfold dirOk entOk
  rw [Bool.and_assoc]
set_option maxHeartbeats 4000000 in
theorem dirsForm_main (d : Int) (name value : Str) (hd : dirOk d name = true) (hl : name.length + value.length ≤ 80) :
    Calls Tryz.prog 9 #[.int .i64 d, .string ⟨name.toArray⟩, .string ⟨value.toArray⟩] w (Quit w (.bool true)) := by
  have hdn := dirOk_n hd
  have hno : (nameOk name && (!decide (name = [46]) && !decide (name = [46, 46]))) = true := by
    have := hd
    rw [dirOk_eq] at this
    simp only [Bool.and_eq_true] at this ⊢
    exact this.2
  have hlen := entOk_len (dirOk_ent hd)
  have hN := number12_ok (w := w) d
  rw [decide_eq_true (show numOk d from hdn)] at hN
  have hR := rname14_ok name (by omega) w
  unfold Rn14Out at hR
  rw [hno] at hR
  have HN := Lib.hid hN
  have HR := Lib.hid hR
  have HT := Lib.hid (open14_ok (w := w))
  have HA := Lib.hid fun w1 => awake14_ok (w := w1)
  obtain ⟨ek, hek⟩ : ∃ ek, ek = ekey d name := ⟨_, rfl⟩
  obtain ⟨M1, hM1⟩ : ∃ M1, M1 = ins ek value ([] : List KV) := ⟨_, rfl⟩
  have hm1 : M1 = [(ek, value)] := by rw [hM1]; rfl
  have hg1 : get ek M1 = some value := by rw [hm1]; simp [get]
  have hu1 : under (dpre d) M1 = [(ek, value)] := by
    rw [hm1, hek]
    unfold under
    rw [List.filter_cons_of_pos (by exact hasP_same _ _)]; rfl
  have HP : Hid (PairOk 400 (ek, value)) := Lib.hid ⟨by show 1 ≤ ek.length; rw [hek, ekey_len]; omega, by show ek.length ≤ 255; rw [hek, ekey_len]; omega, by show value.length ≤ 255; omega, by show ek.length + value.length ≤ NodeD.most 400; rw [hek, ekey_len]; unfold NodeD.most; omega⟩
  have HLN := Lib.hid hlen.2
  have HKL : Hid (ek.length ≤ 1000) := Lib.hid (by rw [hek, ekey_len]; omega)
  have hz := numV_zero (v := value)
  have HLS : Hid (∀ x ∈ under (dpre d) M1, ∃ A, entOk d A = true ∧ x.1 = ekey d A) := Lib.hid fun x hx => by
    rw [hu1] at hx
    obtain rfl : x = (ek, value) := by simpa using hx
    exact ⟨name, dirOk_ent hd, hek⟩
  obtain ⟨r, hr⟩ : ∃ r, r = findI M1 d name := ⟨_, rfl⟩
  have hr2 : r = if numV value = 0 then (0, 4) else (numV value, 0) := by
    rw [hr]
    unfold findI
    rw [hd, ← hek, hg1]; rfl
  obtain ⟨M2, hM2⟩ : ∃ M2, M2 = remM M1 d name := ⟨_, rfl⟩
  have hm2 : M2 = if numV value = 0 then M1 else [] := by
    rw [hM2, remM, ← hr, hr2]
    by_cases h0 : numV value = 0
    · rw [if_pos h0, if_pos h0]; rfl
    · rw [if_neg h0, if_neg h0, if_pos rfl, ← hek, hm1]
      simp [del]
  have HR2 := Lib.hid hr2
  have HM2 := Lib.hid hm2
  have HU1 := Lib.hid hu1
  have HM1 := Lib.hid hm1
  have HRE := Lib.hid hr
  have HM2E := Lib.hid hM2
  have HM1E := Lib.hid hM1
  have HEK := Lib.hid hek
  have HZ := Lib.hid hz
  have HDN := Lib.hid hdn
  obtain ⟨hd1, hd2⟩ := hdn
  have hbc := be3i_cells d
  rw [show d / 65536 % 256 = d / 65536 by omega] at hbc
  have HBC := Lib.hid hbc
  have hnl : ¬ ((80 : Int) < (name.length : Int) + (value.length : Int)) := by omega
  have hnw : IntKind.i64.wrap ((name.length : Int) + (value.length : Int)) = (name.length : Int) + (value.length : Int) := by rw [IntKind.wrap_i64]; omega
  clear hd hno hlen hN hR hek hM1 hm1 hg1 hu1 hz hr hr2 hM2 hm2 hbc hl
  go_enter Tryz.func9, Tryz.ntmps9
  go_wp2_with fail
  refine HN.out.mono ?_
  rintro e w1 ⟨rfl, rfl⟩
  go_wp2_with fail
  refine HR.out.mono ?_
  rintro e w1 ⟨rfl, rfl⟩
  go_wp2_with fail
  refine HT.out.mono ?_
  rintro e w1 ⟨t, F, X, rfl, hk, ho, hF⟩
  have HK := Lib.hid hk
  have HO := Lib.hid ho
  have HF := Lib.hid hF
  have hcv := conv_new (w := w1) (n := 3) HBC.out rfl
  have t1 : Int.tdiv d 65536 = d / 65536 := Int.tdiv_eq_ediv_of_nonneg (by omega)
  have t2 : Int.tdiv d 256 = d / 256 := Int.tdiv_eq_ediv_of_nonneg (by omega)
  have t3 : Int.tmod (d / 256) 256 = d / 256 % 256 := Int.tmod_eq_emod_of_nonneg (by omega)
  have t4 : Int.tmod d 256 = d % 256 := Int.tmod_eq_emod_of_nonneg (by omega)
  have hb1 := bytes_text [100] (be3i d)
  have hb2 := bytes_text (100 :: be3i d) name
  clear hk ho hF
  have hl1 : (be3i d).length = 3 := rfl
  have hg4 : ¬ 9223372036854775807 < 4 + name.length := by have := HLN.out; omega
  obtain ⟨W2, hW2⟩ : ∃ W2, W2 = w1.alloc (.cells #[.int .u8 (d / 65536), .int .u8 (d / 256 % 256), .int .u8 (d % 256)] 5) := ⟨_, rfl⟩
  have ho2 : Only NoB w1 W2 := by rw [hW2]; exact (Only.refl NoB w1).alloc _
  have HB := Lib.hid (kv_put (HK.out.quit ho2) (by decide) HP.out HKL.out)
  have HO2 := Lib.hid (HO.out.trans ho2)
  have HF2 := HF
  have HW2 := Lib.hid hW2
  have HK1 : Hid True := Lib.hid trivial
  clear ho2 hW2
  by_cases h0 : numV value = 0
  · have HRV : Hid (r = (0, 4)) := Lib.hid (by rw [HR2.out, if_pos h0])
    have HMV : Hid (M2 = M1) := Lib.hid (by rw [HM2.out, if_pos h0])
    have HV0 := Lib.hid h0
    clear h0
    go_wp2_with fail
    rw [← HW2.out, show (100 :: (be3i d ++ name)) = ek from HEK.out.symm]
    refine HB.out.mono ?_
    rintro e w3 ⟨rfl, F3, hk, ho, hg⟩
    have h2 := low_trans HO2.out HF2.out ho hg
    have HF3 := Lib.hid h2.2
    have HO3 := Lib.hid h2.1
    have HK3 := Lib.hid hk
    rw [← HM1E.out] at HK3
    have HFI := find_ok d name HK3.out
    rw [← HRE.out, HRV.out] at HFI
    have HFI := Lib.hid HFI
    unfold findA at HFI
    obtain ⟨gp, hgp⟩ : ∃ gp, gp = (get ek ([] : List KV)).isSome := ⟨_, rfl⟩
    rw [← hgp]
    clear hk ho hg h2 hgp hcv hb1 hb2
    go_wp2_with fail
    refine HFI.out.mono ?_
    rintro e w4 ⟨rfl, F4, hk, ho, hg⟩
    have h2 := low_trans HO3.out HF3.out ho hg
    have HF4 := Lib.hid h2.2
    have HO4 := Lib.hid h2.1
    have HK4 := Lib.hid hk
    have HLI := Lib.hid (list_ok HDN.out hk HLS.out (by rw [HU1.out]; simp))
    clear hk ho hg h2
    go_wp2_with fail
    refine HLI.out.mono ?_
    rintro e w5 ⟨F5, ha, hk, ho, hg⟩
    have h2 := low_trans HO4.out HF4.out ho hg
    have HF5 := Lib.hid h2.2
    have HO5 := Lib.hid h2.1
    have HK5 := Lib.hid hk
    rw [HU1.out] at ha
    have ha : e = .returned (.tuple #[.slice none 0 0, .int .i64 4]) := by
      rcases ha with ⟨hall, _⟩ | ⟨_, he⟩
      · exact absurd HV0.out (hall (ek, value) (by simp))
      · exact he
    subst ha
    have HRM := remove_ok d name hk
    rw [← HRE.out, HRV.out, ← HM2E.out, HMV.out] at HRM
    have HRM := Lib.hid HRM
    unfold findA at HRM
    clear hk ho hg h2
    go_wp2_with fail
    refine HRM.out.mono ?_
    rintro e w6 ⟨rfl, F6, hk, ho, hg⟩
    have h2 := low_trans HO5.out HF5.out ho hg
    have HF6 := Lib.hid h2.2
    have HO6 := Lib.hid h2.1
    have HCH := kv_check hk (by rw [HM1.out]; simp)
    rw [show M1.length = 1 by rw [HM1.out]; rfl] at HCH
    have HCH := Lib.hid HCH
    clear hk ho hg h2
    go_wp2_with fail
    refine HCH.out.mono ?_
    rintro e w7 ⟨rfl, F7, hk, ho, hg⟩
    have h2 := low_trans HO6.out HF6.out ho hg
    have HO7 := Lib.hid h2.1
    have HAW := Lib.hid (HA.out w7)
    clear hk ho hg h2
    rcases Decidable.em (value.length = 3 ∧ value ≠ [0, 0, 0]) with hy | hy
    · exact absurd hy (HZ.out.1 HV0.out)
    · by_cases h3 : value.length = 3
      · have hv : value = [0, 0, 0] := Decidable.byContradiction fun hne => hy ⟨h3, hne⟩
        clear hy h3 HP HRE HM2E HM1E HM1 HU1 HLS HV0 HZ HRV HMV hnl hnw HB HFI HLI HRM HCH
        subst hv
        go_wp2_with fail
        refine HAW.out.mono ?_
        rintro e w8 ⟨rfl, ho⟩
        have HE := Lib.hid (HO7.out.trans ho)
        clear ho
        go_wp2_with fail
        go_ret
        exact ⟨rfl, HE.out⟩
      · have h3 : ¬ (value.length : Int) = 3 := by omega
        have h3b : ((value.length : Int) == 3) = false := by simpa using h3
        clear hy
        go_wp2_with fail
        refine HAW.out.mono ?_
        rintro e w8 ⟨rfl, ho⟩
        have HE := Lib.hid (HO7.out.trans ho)
        clear ho
        go_wp2_with fail
        go_ret
        exact ⟨rfl, HE.out⟩
  · obtain ⟨q, hq⟩ : ∃ q, q = numV value := ⟨_, rfl⟩
    have HRV : Hid (r = (q, 0)) := Lib.hid (by rw [HR2.out, if_neg h0, hq])
    have HMV : Hid (M2 = []) := Lib.hid (by rw [HM2.out, if_neg h0])
    have HV0 : Hid (numV value ≠ 0) := Lib.hid h0
    have HQ : Hid (q ≠ 0) := Lib.hid (by rw [hq]; exact h0)
    clear h0 hq
    go_wp2_with fail
    rw [← HW2.out, show (100 :: (be3i d ++ name)) = ek from HEK.out.symm]
    refine HB.out.mono ?_
    rintro e w3 ⟨rfl, F3, hk, ho, hg⟩
    have h2 := low_trans HO2.out HF2.out ho hg
    have HF3 := Lib.hid h2.2
    have HO3 := Lib.hid h2.1
    have HK3 := Lib.hid hk
    rw [← HM1E.out] at HK3
    have HFI := find_ok d name HK3.out
    rw [← HRE.out, HRV.out] at HFI
    have HFI := Lib.hid HFI
    unfold findA at HFI
    obtain ⟨gp, hgp⟩ : ∃ gp, gp = (get ek ([] : List KV)).isSome := ⟨_, rfl⟩
    rw [← hgp]
    clear hk ho hg h2 hgp hcv hb1 hb2
    go_wp2_with fail
    refine HFI.out.mono ?_
    rintro e w4 ⟨rfl, F4, hk, ho, hg⟩
    have h2 := low_trans HO3.out HF3.out ho hg
    have HF4 := Lib.hid h2.2
    have HO4 := Lib.hid h2.1
    have HK4 := Lib.hid hk
    have HLI := Lib.hid (list_ok HDN.out hk HLS.out (by rw [HU1.out]; simp))
    clear hk ho hg h2
    go_wp2_with fail
    refine HLI.out.mono ?_
    rintro e w5 ⟨F5, ha, hk, ho, hg⟩
    have h2 := low_trans HO4.out HF4.out ho hg
    have HF5 := Lib.hid h2.2
    have HO5 := Lib.hid h2.1
    have HK5 := Lib.hid hk
    rw [HU1.out] at ha
    obtain ⟨v, rfl, hov⟩ : ∃ v, e = .returned (.tuple #[v, .int .i64 0]) ∧ Own w5 (fun g => w4.heap.size ≤ g ∧ ¬ F5 g) 67 2 v 1 (nameL [(ek, value)]) := by
      rcases ha with ⟨_, v, he, ho⟩ | ⟨⟨x, hx, hz⟩, _⟩
      · exact ⟨v, he, ho⟩
      · exfalso
        obtain rfl : x = (ek, value) := by simpa using hx
        exact HV0.out hz
    obtain ⟨vA, vc, rfl, _⟩ := hov.shape
    have HRM := remove_ok d name hk
    rw [← HRE.out, HRV.out, ← HM2E.out, HMV.out] at HRM
    have HRM := Lib.hid HRM
    unfold findA at HRM
    clear hk ho hg h2 ha hov
    go_wp2_with fail
    refine HRM.out.mono ?_
    rintro e w6 ⟨rfl, F6, hk, ho, hg⟩
    have h2 := low_trans HO5.out HF5.out ho hg
    have HF6 := Lib.hid h2.2
    have HO6 := Lib.hid h2.1
    have HCH := kv_check hk (by simp)
    rw [show ([] : List KV).length = 0 from rfl] at HCH
    have HCH := Lib.hid HCH
    clear hk ho hg h2
    go_wp2_with fail
    refine HCH.out.mono ?_
    rintro e w7 ⟨rfl, F7, hk, ho, hg⟩
    have h2 := low_trans HO6.out HF6.out ho hg
    have HO7 := Lib.hid h2.1
    have HAW := Lib.hid (HA.out w7)
    clear hk ho hg h2
    have hy : value.length = 3 ∧ value ≠ [0, 0, 0] := Decidable.byContradiction fun h => HV0.out (HZ.out.2 h)
    obtain ⟨h3, hne⟩ := hy
    have hq : (value == [0, 0, 0]) = false := by simpa using hne
    have hq0 : (0 : Int) < (q : Int) := by have := HQ.out; omega
    go_wp2_with fail
    refine HAW.out.mono ?_
    rintro e w8 ⟨rfl, ho⟩
    have HE := Lib.hid (HO7.out.trans ho)
    clear ho
    go_wp2_with fail
    go_ret
    exact ⟨rfl, HE.out⟩
theorem dirsForm_walk (w : World) (d : Int) (_ : (Lit.int .i64 d).wf = true) (s1 : ByteArray) (h1 : s1.size ≤ 140737488351232) (s2 : ByteArray) (h2 : s2.size ≤ 140737488351232) :
    Calls Tryz.prog 9 #[.int .i64 d, .string s1, .string s2] w (Quit w (.bool true)) := by
  obtain ⟨⟨a⟩, rfl⟩ : ∃ x : Array UInt8, s1 = ⟨x⟩ := ⟨s1.data, rfl⟩
  obtain ⟨⟨b⟩, rfl⟩ : ∃ x : Array UInt8, s2 = ⟨x⟩ := ⟨s2.data, rfl⟩
  have ha : a.length ≤ 140737488351232 := h1
  have hb : b.length ≤ 140737488351232 := h2
  clear h1 h2
  by_cases hd : dirOk d a = true ∧ a.length + b.length ≤ 80
  · exact dirsForm_main d a b hd.1 hd.2
  · by_cases hn : numOk d
    · have hN := number12_ok (w := w) d
      rw [decide_eq_true hn] at hN
      have HN := Lib.hid hN
      have hR := rname14_ok a ha w
      unfold Rn14Out at hR
      obtain ⟨b2, hb2⟩ : ∃ b2, b2 = (nameOk a && (!decide (a = [46]) && !decide (a = [46, 46]))) := ⟨_, rfl⟩
      rw [← hb2] at hR
      have HR := Lib.hid hR
      have HB2 := Lib.hid hb2
      have HD := Lib.hid hd
      have HNU := Lib.hid hn
      have hw : IntKind.i64.wrap ((a.length : Int) + (b.length : Int)) = (a.length : Int) + (b.length : Int) := by rw [IntKind.wrap_i64]; omega
      clear hN hR hd hn hb2
      go_enter Tryz.func9, Tryz.ntmps9
      go_wp2_with fail
      refine HN.out.mono ?_
      rintro e w1 ⟨rfl, rfl⟩
      go_wp2_with fail
      refine HR.out.mono ?_
      rintro e w1 ⟨rfl, rfl⟩
      cases b2 with
      | false =>
        go_wp2_with fail
        go_ret
        exact ⟨rfl, Only.refl _ _⟩
      | true =>
        have h80 : (80 : Int) < (a.length : Int) + (b.length : Int) := by
          have : dirOk d a = true := by
            rw [dirOk_eq, ← HB2.out, Bool.and_true]
            exact decide_eq_true HNU.out
          have h9 : ¬ (a.length + b.length ≤ 80) := fun h => HD.out ⟨this, h⟩
          omega
        go_wp2_with fail
        go_ret
        exact ⟨rfl, Only.refl _ _⟩
    · have hN := number12_ok (w := w) d
      rw [decide_eq_false hn] at hN
      have HN := Lib.hid hN
      clear hN hd hn
      go_enter Tryz.func9, Tryz.ntmps9
      go_wp2_with fail
      refine HN.out.mono ?_
      rintro e w1 ⟨rfl, rfl⟩
      go_wp2_with fail
      go_ret
      exact ⟨rfl, Only.refl _ _⟩
end
end Go.Proofs.YtdipjakblaeekaaGreat
