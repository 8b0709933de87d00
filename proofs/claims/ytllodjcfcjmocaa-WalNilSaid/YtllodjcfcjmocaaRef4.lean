import Derived.Test.YtllodjcfcjmocaaRef3
/- THE DOCUMENT's DISK: Flush, At, Read. -/
namespace Go.Proofs.Ytllodjcfcjmocaa
open Go.RowKit Go.Proofs
section
variable {R F : Nat → Prop} {b : Nat} {D : DD} {lv cv kv : Value} {xs : List Value} {w w' : World}

theorem rflush_down (h : RefIn w R b D lv cv kv xs) (hd : D.down = true) : Calls Try.prog 24 #[.pointer (some ⟨b, 0, none⟩)] w fun e w' => e = .returned (.int .i64 50) ∧ w = w' := by
  have h3 : w.cell? ⟨b, 3, none⟩ = some (.bool false) := h.cell 3 _ (by simp [refCells, hd])
  clear h hd
  go_enter Try.func24, Try.ntmps24
  go_wp2_with fail
  go_ret
  exact ⟨rfl, rfl⟩
set_option maxHeartbeats 2000000 in
theorem rflush_up (h : RefIn w R b D lv cv kv xs) (hd : D.down = false) (hkl : D.keep.length < 1000000000) (hdd : D.deeds + 1 < 1000000000) :
    Calls Try.prog 24 #[.pointer (some ⟨b, 0, none⟩)] w (RefDIn w R b lv cv kv (.int .i64 (DD.flush D).2) (DD.flush D).1) := by
  have h3 : w.cell? ⟨b, 3, none⟩ = some (.bool true) := h.cell 3 _ (by simp [refCells, hd])
  have hc : DD.flush D = (DD.settle (fun _ => true) (DD.deed D).1, (DD.deed D).2) := by unfold DD.flush; rw [hd]; rfl
  have HC := Lib.hid hc
  have HDE := Lib.hid (rdeed_in h hkl hdd)
  clear hc h hd
  go_enter Try.func24, Try.ntmps24
  go_wp2_with fail
  refine HDE.out.mono ?_
  clear h3
  rintro e w1 ⟨rfl, cv1, xs1, h, hown1, ho1⟩
  obtain ⟨E, hE⟩ : ∃ E, E = (DD.deed D).1 := ⟨_, rfl⟩
  rw [← hE] at h
  have HE := Lib.hid hE
  obtain ⟨cA, cc, rfl, _⟩ := Own.shape (F := fun _ => True) ⟨h.own, fun _ _ => trivial⟩
  have H := Lib.hid h
  have HN1 := Lib.hid hown1
  have HO1 := Lib.hid ho1
  have hcap := h.cap
  clear h hown1 ho1 hE HDE
  go_wp2_with fail
  go_loopw [4] (fun i wr => ∃ k : Nat, k ≤ E.cache.length ∧ i = .int .i64 k ∧ RefInv w1 (fun _ => true) R b E lv (.slice cA E.cache.length cc) kv xs1 k wr) (fun i _ => E.cache.length - (intOf i).toNat)
  case atStart => exact ⟨0, Nat.zero_le _, rfl, H.out, Only.refl _ _⟩
  case round =>
    obtain ⟨k, hk, rfl, hI⟩ := hrel
    have hb2 : wr.cell? ⟨b, 2, none⟩ = some (.slice cA E.cache.length cc) := hI.1.cell 2 _ rfl
    have IK := Lib.hid hI
    clear hI H
    by_cases hlt : k < E.cache.length
    · obtain ⟨x1, v, x2, x3⟩ := IK.out.1.cache.at_ (i := k) (c := E.cache[k]) (List.getElem?_eq_getElem hlt)
      have hsn : E.cache[k].1 < E.n := IK.out.1.cn E.cache[k] (List.getElem_mem hlt)
      obtain ⟨g, lc, rfl⟩ := own_form IK.out.1.sec (by show 0 < E.n; omega)
      obtain ⟨cg, cc', hce⟩ := own_form IK.out.1.own (by show 0 < E.cache.length; omega)
      injection hce with e1 e2 e3
      subst e1; subst e3
      have c1 := (IK.out.1.own.cellAt (k * 2) (by show k * 2 < E.cache.length * 2; omega)).trans x1
      have c2 := (IK.out.1.own.cellAt (k * 2 + 1) (by show k * 2 + 1 < E.cache.length * 2; omega)).trans x2
      have hcv : (convert 28 9 v).run Try.prog wr.drew = .ok (strOf E.cache[k].2) wr.drew := conv_bytes (w := wr.drew) (K := R) (Rd.keep x3 fun _ _ _ => rfl)
      have hb1 : wr.cell? ⟨b, 1, none⟩ = some (.slice (some ⟨g, 0, none⟩) E.n lc) := IK.out.1.cell 1 _ rfl
      have hlc := IK.out.1.sec.cellAt E.cache[k].1 (by show E.cache[k].1 < E.n * 1; omega)
      rw [rowL_get _ hsn] at hlc
      have hlf := IK.out.1.sec.frozenAt E.cache[k].1
      have hsi : ((E.cache[k].1 : Nat) : Int) < (E.n : Int) := by omega
      have hn : E.n ≤ 65536 := IK.out.1.n
      clear x1 x2 x3
      have ST := Lib.hid (IK.out.store hlt rfl)
      unfold strOf at hlc hcv
      obtain ⟨S, hS⟩ : ∃ S, Value.string S = strOf E.cache[k].2 := ⟨_, rfl⟩
      unfold strOf at hS
      rw [← hS] at hcv
      rw [show strOf E.cache[k].2 = Value.string S from hS.symm] at ST
      clear hS IK
      go_wp2_with fail
      go_region
      all_goals go_wp2_with fail
      all_goals exact ⟨⟨k + 1, by omega, by go_num, ST.out⟩, by simp [intOf]; omega⟩
    · obtain rfl : k = E.cache.length := by omega
      have hD := IK.out.done
      have f2 := hD.frozen 2
      go_wp2_with fail
      go_ret
      refine ⟨by rw [HC.out]; rfl, .slice none 0 0, [], ?_, fun g hg => (by cases hg), ?_⟩
      · rw [HC.out, ← HE.out]
        exact hD.forgot
      · exact HO1.out.trans ((IK.out.2.mono fun k _ hk => .inr (.inl hk)).setCell (.inl (.inl rfl)) _)
theorem rflush_in (h : RefIn w R b D lv cv kv xs) (hkl : D.keep.length < 1000000000) (hdd : D.deeds + 1 < 1000000000) :
    Calls Try.prog 24 #[.pointer (some ⟨b, 0, none⟩)] w (RefDIn w R b lv cv kv (.int .i64 (DD.flush D).2) (DD.flush D).1) := by
  cases hd : D.down with
  | false => exact rflush_up h hd hkl hdd
  | true =>
    have hc : DD.flush D = (D, 50) := by unfold DD.flush; rw [hd]; rfl
    rw [hc]
    exact (rflush_down h hd).mono fun e w' ⟨he, hw⟩ => ⟨he, cv, xs, hw ▸ h, fun _ => id, hw ▸ Only.refl _ _⟩
theorem rflush_any (h : RefAt w F b D) (hkl : D.keep.length < 1000000000) (hdd : D.deeds + 1 < 1000000000) :
    Calls Try.prog 24 #[.pointer (some ⟨b, 0, none⟩)] w (RefD w F b (.int .i64 (DD.flush D).2) (DD.flush D).1) := by
  obtain ⟨hs, R, lv, cv, kv, xs, h, hF⟩ := h
  exact (rflush_in h hkl hdd).mono fun e w' hd => hd.out hF hs

/-! ## At, Read -/
set_option maxHeartbeats 1000000 in
theorem rat_any (h : RefIn w R b D lv cv kv xs) (s : Nat) (hs : s < D.n) : Calls Try.prog 45 #[.pointer (some ⟨b, 0, none⟩), .int .i64 s] w fun e w' => e = .returned (strOf (D.at_ s)) ∧ w = w' := by
  obtain ⟨cA, cc, rfl, _⟩ := Own.shape (F := fun _ => True) ⟨h.own, fun _ _ => trivial⟩
  obtain ⟨g, lc, rfl⟩ := own_form h.sec (by omega)
  have hb1 : w.cell? ⟨b, 1, none⟩ = some (.slice (some ⟨g, 0, none⟩) D.n lc) := h.cell 1 _ rfl
  have hb2 : w.cell? ⟨b, 2, none⟩ = some (.slice cA D.cache.length cc) := h.cell 2 _ rfl
  have hn : D.n ≤ 65536 := h.n
  have hcap := h.cap
  have HI := Lib.hid h
  clear h
  go_enter Try.func45, Try.ntmps45
  go_wp2_with fail
  go_loop [5] (fun i => ∃ k : Nat, k ≤ D.cache.length ∧ i = .int .i64 ((k : Int) - 1) ∧ ∀ j c, k ≤ j → D.cache[j]? = some c → c.1 ≠ s) (fun i => ((intOf i) + 1).toNat)
  case atStart =>
    exact ⟨D.cache.length, Nat.le_refl _, rfl, fun j c hj hc => by have := (List.getElem?_eq_some_iff.1 hc).1; omega⟩
  case round =>
    obtain ⟨k, hk, rfl, hno⟩ := hrel
    have NO := Lib.hid hno
    clear hno
    cases k with
    | zero =>
      have hlc := HI.out.sec.cellAt s (by omega)
      rw [rowL_get _ hs] at hlc
      have hat : D.at_ s = D.done s := by
        unfold DD.at_
        rw [DD.last_none fun c hc => by obtain ⟨j, hj, rfl⟩ := List.mem_iff_getElem.1 hc; exact NO.out j _ (Nat.zero_le _) (List.getElem?_eq_getElem hj)]
        rfl
      have HAT := Lib.hid hat
      clear hat
      unfold strOf at hlc
      go_wp2_with fail
      go_ret
      exact ⟨by rw [HAT.out]; rfl, rfl⟩
    | succ k =>
      have hlt : k < D.cache.length := by omega
      obtain ⟨x1, v, x2, x3⟩ := HI.out.cache.at_ (i := k) (c := D.cache[k]) (List.getElem?_eq_getElem hlt)
      obtain ⟨cg, cc', hce⟩ := own_form HI.out.own (by omega)
      injection hce with e1 e2 e3
      subst e1; subst e3
      have c1 := (HI.out.own.cellAt (k * 2) (by omega)).trans x1
      have c2 := (HI.out.own.cellAt (k * 2 + 1) (by omega)).trans x2
      have hcv : (convert 28 9 v).run Try.prog w = .ok (strOf D.cache[k].2) w := conv_bytes x3
      have ek : (((k + 1 : Nat) : Int) - 1) = (k : Int) := by omega
      rw [ek]
      clear x1 x2 x3
      by_cases hcs : D.cache[k].1 = s
      · have hat : D.at_ s = D.cache[k].2 := by
          unfold DD.at_
          rw [DD.last_some (List.getElem?_eq_getElem hlt) hcs (fun i hi x hx => NO.out i x (by omega) hx)]
          rfl
        have HAT := Lib.hid hat
        clear hat
        unfold strOf at hcv
        rw [hcs] at c1
        go_wp2_with fail
        go_ret
        exact ⟨by rw [HAT.out]; rfl, rfl⟩
      · have hne : ((D.cache[k].1 : Int) == (s : Int)) = false := by rw [beq_eq_false_iff_ne]; omega
        have HN := Lib.hid hcs
        clear hcs hcv
        go_wp2_with fail
        refine ⟨⟨k, by omega, rfl, fun j c hj hc => ?_⟩, by simp [intOf]⟩
        by_cases hjk : j = k
        · subst hjk
          rw [List.getElem?_eq_getElem hlt] at hc
          injection hc with hc
          rw [← hc]
          exact HN.out
        · exact NO.out j c (by omega) hc
theorem rread_any (h : RefAt w F b D) (s : Int) : Calls Try.prog 28 #[.pointer (some ⟨b, 0, none⟩), .int .i64 s] w fun e w' => e = .returned (.tuple #[strOf (DD.read s D).1, .int .i64 (DD.read s D).2]) ∧ w = w' := by
  obtain ⟨_, R, lv, cv, kv, xs, h, _⟩ := h
  have h3 : w.cell? ⟨b, 3, none⟩ = some (.bool (!D.down)) := h.cell 3 _ rfl
  obtain ⟨lA, lc, rfl, _⟩ := Own.shape (F := fun _ => True) ⟨h.sec, fun _ _ => trivial⟩
  have hb1 : w.cell? ⟨b, 1, none⟩ = some (.slice lA D.n lc) := h.cell 1 _ rfl
  have hn : D.n ≤ 65536 := h.n
  have HI := Lib.hid h
  clear h
  unfold DD.read
  cases hd : D.down with
  | true =>
    rw [hd] at h3
    have h3' : w.cell? ⟨b, 3, none⟩ = some (.bool false) := h3
    clear h3 hd
    go_enter Try.func28, Try.ntmps28
    go_wp2_with fail
    go_ret2
    exact ⟨rfl, rfl⟩
  | false =>
    rw [hd] at h3
    have h3' : w.cell? ⟨b, 3, none⟩ = some (.bool true) := h3
    clear h3 hd
    cases hs : D.sector s with
    | false =>
      simp only [DD.sector, decide_eq_false_iff_not] at hs
      by_cases h0 : s < 0
      · clear hs
        go_enter Try.func28, Try.ntmps28
        go_wp2_with fail
        go_ret2
        exact ⟨rfl, rfl⟩
      · have e0 : decide (s < 0) = false := by simpa using h0
        have h1 : (D.n : Int) ≤ s := by omega
        clear hs
        go_enter Try.func28, Try.ntmps28
        go_wp2_with fail
        go_ret2
        exact ⟨rfl, rfl⟩
    | true =>
      simp only [DD.sector, decide_eq_true_eq] at hs
      obtain ⟨s, rfl⟩ := Int.eq_ofNat_of_zero_le hs.1
      have hsn : s < D.n := by omega
      have HAT := Lib.hid (rat_any HI.out s hsn)
      have h1 : (s : Int) < (D.n : Int) := by omega
      clear hs
      go_enter Try.func28, Try.ntmps28
      go_wp2_with fail
      refine HAT.out.mono ?_
      rintro e w1 ⟨rfl, rfl⟩
      unfold strOf
      go_wp2_with fail
      go_ret2
      exact ⟨rfl, rfl⟩
end
end Go.Proofs.Ytllodjcfcjmocaa
