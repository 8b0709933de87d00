import Derived.Test.YtllodjcfcjmocaaRef2
/- THE DOCUMENT's DISK: On, May, deed, Flush, At, Read. -/
namespace Go.Proofs.Ytllodjcfcjmocaa
open Go.RowKit Go.Proofs
section
variable {R F : Nat → Prop} {b : Nat} {D : DD} {lv cv kv : Value} {xs : List Value} {w w' : World}

theorem ron_in (h : RefIn w R b D lv cv kv xs) : Calls Try.prog 27 #[.pointer (some ⟨b, 0, none⟩)] w (RefDIn w R b lv cv kv (.tuple #[]) (DD.on D)) := by
  have h3 : w.cell? ⟨b, 3, none⟩ = some (.bool (!D.down)) := h.cell 3 _ rfl
  have h4 : w.cell? ⟨b, 4, none⟩ = some (.int .i64 D.left) := h.cell 4 _ rfl
  have f3 := h.frozen 3
  have f4 := h.frozen 4
  have H := Lib.hid h
  clear h
  go_enter Try.func27, Try.ntmps27
  go_wp2_with fail
  go_end0
  have h1 := H.out.turn 3 (.bool true) { D with down := false } rfl rfl rfl rfl rfl rfl H.out.left H.out.deeds
  have h2 := h1.turn 4 (.int .i64 0) (DD.on D) rfl rfl rfl rfl rfl rfl (by simp [DD.on]) H.out.deeds
  exact ⟨rfl, cv, xs, h2, fun _ => id, ((Only.refl _ _).setCell (.inl (.inl rfl)) _).setCell (.inl (.inl rfl)) _⟩
theorem ron_any (h : RefAt w F b D) : Calls Try.prog 27 #[.pointer (some ⟨b, 0, none⟩)] w (RefD w F b (.tuple #[]) (DD.on D)) := by
  obtain ⟨hs, R, lv, cv, kv, xs, h, hF⟩ := h
  exact (ron_in h).mono fun e w' hd => hd.out hF hs

def mayD (n m : Int) : Bool := decide (1 ≤ n ∧ n ≤ 65536 ∧ 16 ≤ m ∧ m ≤ 4096)
theorem may_any (n m : Int) (w : World) : Calls Try.prog 21 #[.int .i64 n, .int .i64 m] w fun e w' => e = .returned (.bool (mayD n m)) ∧ w = w' := by
  unfold mayD
  by_cases h1 : n ≥ 1
  · by_cases h2 : n ≤ 65536
    · by_cases h3 : m ≥ 16
      · by_cases h4 : m ≤ 4096
        · rw [show decide (1 ≤ n ∧ n ≤ 65536 ∧ 16 ≤ m ∧ m ≤ 4096) = true by simp; omega]
          go_enter Try.func21, Try.ntmps21
          go_wp2_with fail
          go_ret
          exact ⟨rfl, rfl⟩
        · rw [show decide (1 ≤ n ∧ n ≤ 65536 ∧ 16 ≤ m ∧ m ≤ 4096) = false by simp; omega]
          go_enter Try.func21, Try.ntmps21
          go_wp2_with fail
          go_ret
          exact ⟨rfl, rfl⟩
      · rw [show decide (1 ≤ n ∧ n ≤ 65536 ∧ 16 ≤ m ∧ m ≤ 4096) = false by simp; omega]
        go_enter Try.func21, Try.ntmps21
        go_wp2_with fail
        go_ret
        exact ⟨rfl, rfl⟩
    · rw [show decide (1 ≤ n ∧ n ≤ 65536 ∧ 16 ≤ m ∧ m ≤ 4096) = false by simp; omega]
      go_enter Try.func21, Try.ntmps21
      go_wp2_with fail
      go_ret
      exact ⟨rfl, rfl⟩
  · rw [show decide (1 ≤ n ∧ n ≤ 65536 ∧ 16 ≤ m ∧ m ≤ 4096) = false by simp; omega]
    go_enter Try.func21, Try.ntmps21
    go_wp2_with fail
    go_ret
    exact ⟨rfl, rfl⟩

/-! ## deed -/
set_option maxHeartbeats 400000 in
theorem rdeed_free (h : RefIn w R b D lv cv kv xs) (hl : D.left = 0) (hdd : D.deeds + 1 < 1000000000) :
    Calls Try.prog 44 #[.pointer (some ⟨b, 0, none⟩)] w (RefDIn w R b lv cv kv (.int .i64 (DD.deed D).2) (DD.deed D).1) := by
  have h6 : w.cell? ⟨b, 6, none⟩ = some (.int .i64 D.deeds) := h.cell 6 _ rfl
  have h4 : w.cell? ⟨b, 4, none⟩ = some (.int .i64 0) := h.cell 4 _ (by rw [show (0 : Int) = (D.left : Int) by omega]; rfl)
  have f6 := h.frozen 6
  have hc : DD.deed D = ({ D with deeds := D.deeds + 1 }, 0) := by unfold DD.deed; rw [if_pos hl]
  have HC := Lib.hid hc
  have HL := Lib.hid hl
  have H := Lib.hid h
  clear h hc hl
  go_enter Try.func44, Try.ntmps44
  go_wp2_with fail
  go_ret
  rw [HC.out]
  exact ⟨rfl, cv, xs, H.out.turn 6 _ _ (by simp [refCells]) rfl rfl rfl rfl rfl H.out.left hdd, fun _ => id, (Only.refl _ _).setCell (.inl (.inl rfl)) _⟩
set_option maxHeartbeats 400000 in
theorem rdeed_later (h : RefIn w R b D lv cv kv xs) (hl : 1 < D.left) (hdd : D.deeds + 1 < 1000000000) :
    Calls Try.prog 44 #[.pointer (some ⟨b, 0, none⟩)] w (RefDIn w R b lv cv kv (.int .i64 (DD.deed D).2) (DD.deed D).1) := by
  have hlb := h.left
  obtain ⟨q, hq⟩ : ∃ q, D.left = q + 2 := ⟨D.left - 2, by omega⟩
  have h6 : w.cell? ⟨b, 6, none⟩ = some (.int .i64 D.deeds) := h.cell 6 _ rfl
  have h4 : w.cell? ⟨b, 4, none⟩ = some (.int .i64 ((q + 2 : Nat) : Int)) := h.cell 4 _ (by rw [← hq]; rfl)
  have f6 := h.frozen 6
  have f4 := h.frozen 4
  have hc : DD.deed D = ({ D with deeds := D.deeds + 1, left := q + 1 }, 0) := by
    unfold DD.deed; rw [if_neg (by omega), if_neg (by omega)]; rw [show D.left - 1 = q + 1 by omega]
  have HC := Lib.hid hc
  have H := Lib.hid h
  have hz : (((q : Int) + 2) == 1) = false := by rw [beq_eq_false_iff_ne]; omega
  have hql : q + 2 < 9223372036854775808 := by omega
  clear h hc hq hl hlb
  go_enter Try.func44, Try.ntmps44
  go_wp2_with fail
  go_ret
  rw [HC.out]
  have h1 := H.out.turn 6 (.int .i64 ((D.deeds : Int) + 1)) { D with deeds := D.deeds + 1 } (by simp [refCells]) rfl rfl rfl rfl rfl H.out.left hdd
  exact ⟨rfl, cv, xs, h1.turn 4 _ _ (by simp [refCells]; omega) rfl rfl rfl rfl rfl (by simp; omega) hdd, fun _ => id, ((Only.refl _ _).setCell (.inl (.inl rfl)) _).setCell (.inl (.inl rfl)) _⟩
set_option maxHeartbeats 400000 in
theorem rdeed_cut (h : RefIn w R b D lv cv kv xs) (hl : D.left = 1) (hkl : D.keep.length < 1000000000) (hdd : D.deeds + 1 < 1000000000) :
    Calls Try.prog 44 #[.pointer (some ⟨b, 0, none⟩)] w (RefDIn w R b lv cv kv (.int .i64 (DD.deed D).2) (DD.deed D).1) := by
  have h6 : w.cell? ⟨b, 6, none⟩ = some (.int .i64 D.deeds) := h.cell 6 _ rfl
  have h4 : w.cell? ⟨b, 4, none⟩ = some (.int .i64 1) := h.cell 4 _ (by rw [show (1 : Int) = (D.left : Int) by omega]; rfl)
  have h5 : w.cell? ⟨b, 5, none⟩ = some kv := h.cell 5 _ rfl
  have f6 := h.frozen 6
  have f4 := h.frozen 4
  have hc : DD.deed D = (DD.crash D.keep { D with deeds := D.deeds + 1, left := 0 }, 50) := by
    unfold DD.deed; rw [if_neg (by omega), if_pos hl]
  have h1 := h.turn 6 (.int .i64 ((D.deeds : Int) + 1)) { D with deeds := D.deeds + 1 } (by simp [refCells]) rfl rfl rfl rfl rfl h.left hdd
  have h2 := h1.turn 4 (.int .i64 0) { D with deeds := D.deeds + 1, left := 0 } rfl rfl rfl rfl rfl rfl (by simp) hdd
  have HCR := Lib.hid (rcrash_in h2 R kv D.keep h2.kept (fun k hk hg => h2.rl k hg hk) hkl)
  have HC := Lib.hid hc
  have HO : Hid (Only (refW b lv cv) w ((w.setCell ⟨b, 6, none⟩ (.int .i64 ((D.deeds : Int) + 1))).setCell ⟨b, 4, none⟩ (.int .i64 0))) := Lib.hid (((Only.refl _ _).setCell (.inl (.inl rfl)) _).setCell (.inl (.inl rfl)) _)
  clear h hc hl h1 h2
  go_enter Try.func44, Try.ntmps44
  go_wp2_with fail
  refine HCR.out.mono ?_
  rintro e w1 ⟨rfl, cv1, xs1, h3, hown, ho⟩
  have H3 := Lib.hid h3
  have HN := Lib.hid hown
  have HO1 := Lib.hid ho
  clear h3 hown ho
  go_wp2_with fail
  go_ret
  rw [HC.out]
  exact ⟨rfl, cv1, xs1, H3.out, HN.out, HO.out.trans HO1.out⟩
theorem rdeed_in (h : RefIn w R b D lv cv kv xs) (hkl : D.keep.length < 1000000000) (hdd : D.deeds + 1 < 1000000000) :
    Calls Try.prog 44 #[.pointer (some ⟨b, 0, none⟩)] w (RefDIn w R b lv cv kv (.int .i64 (DD.deed D).2) (DD.deed D).1) := by
  rcases (show D.left = 0 ∨ D.left = 1 ∨ 1 < D.left by omega) with h0 | h0 | h0
  · exact rdeed_free h h0 hdd
  · exact rdeed_cut h h0 hkl hdd
  · exact rdeed_later h h0 hdd
end
end Go.Proofs.Ytllodjcfcjmocaa
