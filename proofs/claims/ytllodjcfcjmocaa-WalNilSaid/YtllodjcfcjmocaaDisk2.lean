import Derived.Test.YtllodjcfcjmocaaDisk1
import Derived.Deep.DeepFit
/- THE DISK'S Crash, deed, Flush. -/
namespace Go.Proofs.Ytllodjcfcjmocaa
open Go.RowKit Go.Proofs
section
variable {R F : Nat → Prop} {b bm : Nat} {D : DD} {cv kv : Value} {xs : List Value} {f : Int → Option Value} {w : World}

set_option maxHeartbeats 400000 in
theorem crash_down (h : DiskIn w R b D bm cv kv xs f) (hd : D.down = true) (A : Option Addr) (n c : Nat) : Calls Try.prog 13 #[.pointer (some ⟨b, 0, none⟩), .slice A n c] w (DeedIn w R b bm cv.ownBlock kv (.tuple #[]) D) := by
  have H := h.keep (w' := w.alloc (.cells #[.slice A n c] 23)) (by simp) (fun q hq => Below.heap_alloc _ _ _ (h.ltF q hq))
  have HH := Lib.hid H
  clear h
  go_enter Try.func13, Try.ntmps13
  go_wp2_with fail
  refine (ready_down H hd).mono ?_
  rintro e w1 ⟨rfl, rfl⟩
  clear H
  go_wp2_with fail
  go_end0
  exact ⟨rfl, cv, xs, f, HH.out, rfl, (Only.refl _ _).alloc _⟩

set_option maxHeartbeats 400000 in
theorem crash_up (h : DiskIn w R b D bm cv kv xs f) (hd : D.down = false) (K : Nat → Prop) (kvv : Value) (l : List Bool) (hl : Bools w K kvv l) (hK : ∀ k, K k → ¬ diskW b bm cv.ownBlock k) (hll : l.length < 1000000000) :
    Calls Try.prog 13 #[.pointer (some ⟨b, 0, none⟩), kvv] w (DeedIn w R b bm cv.ownBlock kv (.tuple #[]) (DD.crash l D)) := by
  obtain ⟨A, c, rfl, _⟩ := id hl
  have H := h.keep (w' := w.alloc (.cells #[.slice A l.length c] 23)) (by simp) (fun q hq => Below.heap_alloc _ _ _ (h.ltF q hq))
  have hl' : Bools (w.alloc (.cells #[.slice A l.length c] 23)) K (.slice A l.length c) l := Rd.keep hl (fun k _ hlt => Below.heap_alloc _ _ _ hlt)
  have hbx : (w.alloc (.cells #[.slice A l.length c] 23)).cell? ⟨w.heap.size, 0, none⟩ = some (.slice A l.length c) := by simp
  have hnb : ¬ diskW b bm cv.ownBlock w.heap.size := fun hk => by have := h.ltF _ (diskW_F hk); omega
  have hset := settle_any (w := w.alloc (.cells #[.slice A l.length c] 23)) b bm R D cv kv 41 #[.pointer (some ⟨w.heap.size, 0, none⟩)] (DD.kept l) xs f H (fun args w1 => rfl)
    (fun i w1 hi ho => crash1_any w1 i w.heap.size A c K l (ho.cell hbx hnb) (hl'.only ho hK) (by have := h.cap; omega) hll)
  have HS := Lib.hid hset
  have hcr : DD.crash l D = { DD.settle (DD.kept l) D with down := true } := by unfold DD.crash; rw [hd]; rfl
  have HC := Lib.hid hcr
  have HF := Lib.hid (fun q (hq : diskW b bm cv.ownBlock q) => (diskW_F (R := R) hq))
  clear h hl hl' hbx hnb hset hcr
  go_enter Try.func13, Try.ntmps13
  go_wp2_with fail
  refine (ready_up H hd).mono ?_
  rintro e w1 ⟨rfl, rfl⟩
  have HH := Lib.hid H
  clear H hd
  go_wp2_with fail
  refine HS.out.mono ?_
  rintro e w1 ⟨rfl, cv', f', h1, hown, ho⟩
  have h4 : w1.cell? ⟨b, 4, none⟩ = some (.bool D.down) := h1.cell 4 _ rfl
  have f4 := h1.frozen 4
  have H1 := Lib.hid h1
  have HO := Lib.hid ho
  have HN := Lib.hid hown
  clear h1 ho hown
  go_wp2_with fail
  go_end0
  refine ⟨rfl, cv', [], f', ?_, HN.out, (((Only.refl _ _).alloc _).trans HO.out).setCell (.inl (.inl rfl)) _⟩
  rw [HC.out]
  exact H1.out.turn 4 (.bool true) _ rfl rfl rfl rfl rfl rfl H1.out.left H1.out.deeds

theorem crash_in (h : DiskIn w R b D bm cv kv xs f) (K : Nat → Prop) (kvv : Value) (l : List Bool) (hl : Bools w K kvv l) (hK : ∀ k, K k → ¬ diskW b bm cv.ownBlock k) (hll : l.length < 1000000000) :
    Calls Try.prog 13 #[.pointer (some ⟨b, 0, none⟩), kvv] w (DeedIn w R b bm cv.ownBlock kv (.tuple #[]) (DD.crash l D)) := by
  cases hd : D.down with
  | false => exact crash_up h hd K kvv l hl hK hll
  | true =>
    obtain ⟨A, c, rfl, _⟩ := id hl
    have := crash_down h hd A l.length c
    have hc : DD.crash l D = D := by unfold DD.crash; rw [hd]; rfl
    rw [hc]
    exact this
theorem crash_any (h : DiskAt w F b D) (K : Nat → Prop) (kvv : Value) (l : List Bool) (hl : Bools w K kvv l) (hK : ∀ k, K k → ¬ F k) (hll : l.length < 1000000000) :
    Calls Try.prog 13 #[.pointer (some ⟨b, 0, none⟩), kvv] w (Deed w F b (.tuple #[]) (DD.crash l D)) := by
  obtain ⟨hs, R, bm, cv, kv, xs, f, h, hF⟩ := h
  exact (crash_in h K kvv l hl (fun k hk hw => hK k hk (hF k (diskW_F hw))) hll).mono fun e w' hd => hd.out hF hs
theorem crash_nil (w : World) (A : Option Addr) (n c : Nat) : Calls Try.prog 13 #[.pointer none, .slice A n c] w (Quit w (.tuple #[])) := by
  go_enter Try.func13, Try.ntmps13
  go_wp2_with fail
  refine (ready_nil _).mono ?_
  rintro e w1 ⟨rfl, rfl⟩
  go_wp2_with fail
  go_end0
  exact ⟨rfl, (Only.refl _ _).alloc _⟩

/-! ## deed -/
set_option maxHeartbeats 400000 in
theorem deed_free (h : DiskIn w R b D bm cv kv xs f) (hl : D.left = 0) (hdd : D.deeds + 1 < 1000000000) :
    Calls Try.prog 38 #[.pointer (some ⟨b, 0, none⟩)] w (DeedIn w R b bm cv.ownBlock kv (.int .i64 (DD.deed D).2) (DD.deed D).1) := by
  have h7 : w.cell? ⟨b, 7, none⟩ = some (.int .i64 D.deeds) := h.cell 7 _ rfl
  have h5 : w.cell? ⟨b, 5, none⟩ = some (.int .i64 0) := h.cell 5 _ (by rw [show (0 : Int) = (D.left : Int) by omega]; rfl)
  have f7 := h.frozen 7
  have hc : DD.deed D = ({ D with deeds := D.deeds + 1 }, 0) := by unfold DD.deed; rw [if_pos hl]
  have HC := Lib.hid hc
  have HL := Lib.hid hl
  have H := Lib.hid h
  clear h hc hl
  go_enter Try.func38, Try.ntmps38
  go_wp2_with fail
  go_ret
  rw [HC.out]
  exact ⟨rfl, cv, xs, f, H.out.turn 7 _ _ (by simp [diskCells]) rfl rfl rfl rfl rfl H.out.left hdd, rfl, (Only.refl _ _).setCell (.inl (.inl rfl)) _⟩

set_option maxHeartbeats 400000 in
theorem deed_later (h : DiskIn w R b D bm cv kv xs f) (hl : 1 < D.left) (hdd : D.deeds + 1 < 1000000000) :
    Calls Try.prog 38 #[.pointer (some ⟨b, 0, none⟩)] w (DeedIn w R b bm cv.ownBlock kv (.int .i64 (DD.deed D).2) (DD.deed D).1) := by
  have hlb := h.left
  obtain ⟨q, hq⟩ : ∃ q, D.left = q + 2 := ⟨D.left - 2, by omega⟩
  have h7 : w.cell? ⟨b, 7, none⟩ = some (.int .i64 D.deeds) := h.cell 7 _ rfl
  have h5 : w.cell? ⟨b, 5, none⟩ = some (.int .i64 ((q + 2 : Nat) : Int)) := h.cell 5 _ (by rw [← hq]; rfl)
  have f7 := h.frozen 7
  have f5 := h.frozen 5
  have hc : DD.deed D = ({ D with deeds := D.deeds + 1, left := q + 1 }, 0) := by
    unfold DD.deed; rw [if_neg (by omega), if_neg (by omega)]; rw [show D.left - 1 = q + 1 by omega]
  have HC := Lib.hid hc
  have HQ := Lib.hid hq
  have H := Lib.hid h
  have hz : (((q : Int) + 2 - 1) == 0) = false := by rw [beq_eq_false_iff_ne]; omega
  have hz' : (((q : Int) + 1) == 0) = false := by rw [beq_eq_false_iff_ne]; omega
  have hql : q + 2 < 9223372036854775808 := by omega
  clear h hc hq hl hlb
  go_enter Try.func38, Try.ntmps38
  go_wp2_with fail
  go_ret
  rw [HC.out]
  have h1 := H.out.turn 7 (.int .i64 ((D.deeds : Int) + 1)) { D with deeds := D.deeds + 1 } (by simp [diskCells]) rfl rfl rfl rfl rfl H.out.left hdd
  have h2 := h1.turn 5 (.int .i64 ((q : Int) + 2 - 1)) { D with deeds := D.deeds + 1, left := q + 1 } (by simp [diskCells]; omega) rfl rfl rfl rfl rfl (by simp; omega) hdd
  exact ⟨rfl, cv, xs, f, h2, rfl, ((Only.refl _ _).setCell (.inl (.inl rfl)) _).setCell (.inl (.inl rfl)) _⟩

set_option maxHeartbeats 400000 in
theorem deed_cut (h : DiskIn w R b D bm cv kv xs f) (hl : D.left = 1) (hkl : D.keep.length < 1000000000) (hdd : D.deeds + 1 < 1000000000) :
    Calls Try.prog 38 #[.pointer (some ⟨b, 0, none⟩)] w (DeedIn w R b bm cv.ownBlock kv (.int .i64 (DD.deed D).2) (DD.deed D).1) := by
  have h7 : w.cell? ⟨b, 7, none⟩ = some (.int .i64 D.deeds) := h.cell 7 _ rfl
  have h5 : w.cell? ⟨b, 5, none⟩ = some (.int .i64 1) := h.cell 5 _ (by rw [show (1 : Int) = (D.left : Int) by omega]; rfl)
  have h6 : w.cell? ⟨b, 6, none⟩ = some kv := h.cell 6 _ rfl
  have f7 := h.frozen 7
  have f5 := h.frozen 5
  have hc : DD.deed D = (DD.crash D.keep { D with deeds := D.deeds + 1, left := 0 }, 50) := by
    unfold DD.deed; rw [if_neg (by omega), if_pos hl]
  have h1 := h.turn 7 (.int .i64 ((D.deeds : Int) + 1)) { D with deeds := D.deeds + 1 } (by simp [diskCells]) rfl rfl rfl rfl rfl h.left hdd
  have h2 := h1.turn 5 (.int .i64 0) { D with deeds := D.deeds + 1, left := 0 } (by simp [diskCells]) rfl rfl rfl rfl rfl (by simp) hdd
  have hcr := crash_in h2 R kv D.keep h2.kept (fun k hk hw => by
    rcases hw with rfl | rfl | hw
    · exact h.rb hk
    · exact h.rm hk
    · exact h.rc k hw hk) hkl
  obtain ⟨A, c, rfl, _⟩ := id h.kept
  have HC := Lib.hid hc
  have HCR := Lib.hid hcr
  clear h h1 h2 hc hl hcr
  go_enter Try.func38, Try.ntmps38
  go_wp2_with fail
  refine HCR.out.mono ?_
  rintro e w1 ⟨rfl, cv', xs', f', h3, hown, ho⟩
  have H3 := Lib.hid h3
  have HO := Lib.hid ho
  have HN := Lib.hid hown
  clear h3 ho hown
  go_wp2_with fail
  go_ret
  rw [HC.out]
  exact ⟨rfl, cv', xs', f', H3.out, HN.out, (((Only.refl _ _).setCell (.inl (.inl rfl)) _).setCell (.inl (.inl rfl)) _).trans HO.out⟩

theorem deed_in (h : DiskIn w R b D bm cv kv xs f) (hkl : D.keep.length < 1000000000) (hdd : D.deeds + 1 < 1000000000) :
    Calls Try.prog 38 #[.pointer (some ⟨b, 0, none⟩)] w (DeedIn w R b bm cv.ownBlock kv (.int .i64 (DD.deed D).2) (DD.deed D).1) := by
  by_cases h0 : D.left = 0
  · exact deed_free h h0 hdd
  · by_cases h1 : D.left = 1
    · exact deed_cut h h1 hkl hdd
    · exact deed_later h (by omega) hdd

/-! ## Flush -/
set_option maxHeartbeats 400000 in
theorem flush_up (h : DiskIn w R b D bm cv kv xs f) (hup : D.down = false) (hkl : D.keep.length < 1000000000) (hdd : D.deeds + 1 < 1000000000) :
    Calls Try.prog 12 #[.pointer (some ⟨b, 0, none⟩)] w (DeedIn w R b bm cv.ownBlock kv (.int .i64 (DD.flush D).2) (DD.flush D).1) := by
  have hc : DD.flush D = (DD.settle (fun _ => true) (DD.deed D).1, (DD.deed D).2) := by unfold DD.flush; rw [hup]; rfl
  have HC := Lib.hid hc
  have HR := Lib.hid (ready_up h hup)
  have HD := Lib.hid (deed_in h hkl hdd)
  clear hc h hup
  go_enter Try.func12, Try.ntmps12
  go_wp2_with fail
  refine HR.out.mono ?_
  rintro e w1 ⟨rfl, rfl⟩
  go_wp2_with fail
  refine HD.out.mono ?_
  rintro e w1 ⟨rfl, cv1, xs1, f1, h1, hown1, ho1⟩
  have HS := Lib.hid (settle_any (w := w1) b bm R (DD.deed D).1 cv1 kv 40 #[] (fun _ => true) xs1 f1 h1 (fun args w1 => rfl) (fun i w1 _ _ => flush1_any w1 i))
  have HN1 := Lib.hid hown1
  have HO1 := Lib.hid ho1
  clear h1 hown1 ho1
  go_wp2_with fail
  refine HS.out.mono ?_
  rintro e w2 ⟨rfl, cv2, f2, h2, hown2, ho2⟩
  have H2 := Lib.hid h2
  have HN2 := Lib.hid hown2
  have HO2 := Lib.hid ho2
  clear h2 hown2 ho2
  go_wp2_with fail
  go_ret
  rw [HC.out]
  refine ⟨rfl, cv2, [], f2, H2.out, HN2.out.trans HN1.out, HO1.out.trans ?_⟩
  rw [← HN1.out]
  exact HO2.out
theorem flush_in (h : DiskIn w R b D bm cv kv xs f) (hkl : D.keep.length < 1000000000) (hdd : D.deeds + 1 < 1000000000) :
    Calls Try.prog 12 #[.pointer (some ⟨b, 0, none⟩)] w (DeedIn w R b bm cv.ownBlock kv (.int .i64 (DD.flush D).2) (DD.flush D).1) := by
  cases hd : D.down with
  | false => exact flush_up h hd hkl hdd
  | true =>
    have hc : DD.flush D = (D, 50) := by unfold DD.flush; rw [hd]; rfl
    have HC := Lib.hid hc
    have H := Lib.hid h
    have HR := Lib.hid (ready_down h hd)
    clear hc h hd
    go_enter Try.func12, Try.ntmps12
    go_wp2_with fail
    refine HR.out.mono ?_
    rintro e w1 ⟨rfl, rfl⟩
    go_wp2_with fail
    go_ret
    rw [HC.out]
    exact ⟨rfl, cv, xs, f, H.out, rfl, Only.refl _ _⟩
theorem flush_any (h : DiskAt w F b D) (hkl : D.keep.length < 1000000000) (hdd : D.deeds + 1 < 1000000000) :
    Calls Try.prog 12 #[.pointer (some ⟨b, 0, none⟩)] w (Deed w F b (.int .i64 (DD.flush D).2) (DD.flush D).1) := by
  obtain ⟨hs, R, bm, cv, kv, xs, f, h, hF⟩ := h
  exact (flush_in h hkl hdd).mono fun e w' hd => hd.out hF hs
theorem flush_nil (w : World) : Calls Try.prog 12 #[.pointer none] w fun e w' => e = .returned (.int .i64 3) ∧ w = w' := by
  go_enter Try.func12, Try.ntmps12
  go_wp2_with fail
  refine (ready_nil _).mono ?_
  rintro e w1 ⟨rfl, rfl⟩
  go_wp2_with fail
  go_ret
  exact ⟨rfl, rfl⟩
end
end Go.Proofs.Ytllodjcfcjmocaa
