import Derived.Test.YtllodjcfcjmocaaLive
import Derived.Lib.BufferRead
/- THE DOCUMENT'S EXAMPLE OF A DISK is met. -/
namespace Go.Proofs.Ytllodjcfcjmocaa
open Go.RowKit Go.Proofs

/-- Bytes as a string. -/
def strOf (l : List UInt8) : Value := .string ⟨l.toArray⟩
theorem conv_bytes {w : World} {K : Nat → Prop} {v : Value} {l : List UInt8} (h : Bytes w K v l) : (convert 28 9 v).run Try.prog w = .ok (strOf l) w := by
  obtain ⟨A, c, rfl, hc, hl, hx⟩ := h
  cases A with
  | none =>
    have h0 : l = [] := by
      cases l with
      | nil => rfl
      | cons a l => obtain ⟨ad, h, _⟩ := hx (by simp); cases h
    subst h0
    exact Lib.run_convert_nil_bytes w 28 9 5 c (by kernel_rfl) (by kernel_rfl) (by kernel_rfl)
  | some ad =>
    refine run_convert_bytes_back w 28 9 5 ad c l (by kernel_rfl) (by kernel_rfl) (by kernel_rfl) fun j hj => ?_
    obtain ⟨ad', he, _, hx⟩ := hx (by omega)
    injection he with he
    subst he
    exact hx j _ (by rw [List.getElem?_map, List.getElem?_eq_getElem hj]; rfl)

theorem rd_new_bools (w : World) (t : TypeId) (l : List Bool) : Bools (w.alloc (.cells (l.map boolV).toArray t)) (From w.heap.size) (.slice (some ⟨w.heap.size, 0, none⟩) l.length l.length) l :=
  (rd_new w t 1 l.length (l.map boolV) (by simp)).mono fun k hk _ => by subst hk; exact Nat.le_refl _
def K0 : DD := DD.new 2 16
def K1 : DD := (DD.write 0 (bytesL 1) K0).1
def K2 : DD := (DD.flush K1).1
def K3 : DD := (DD.write 0 (bytesL 2) K2).1
def K4 : DD := (DD.write 1 (bytesL 3) K3).1
def K5 : DD := DD.crash [false, true] K4
def K6 : DD := DD.on K5
theorem k1 : (DD.write 0 (bytesL 1) K0).2 = 0 := rfl
theorem k2 : (DD.flush K1).2 = 0 := rfl
theorem k5 : DD.read 0 K5 = ([], 50) := rfl
theorem k6 : DD.read 0 K6 = (bytesL 1, 0) := rfl
theorem k7 : DD.read 1 K6 = (bytesL 3, 0) := rfl
theorem k8 : K6.deeds = 4 := rfl
theorem few_small {D : DD} (h1 : D.cache.length ≤ 100) (h2 : D.keep.length ≤ 100) (h3 : D.deeds ≤ 100) : Few D := ⟨by omega, by omega, by omega⟩
theorem bytes_1 (w : World) : Calls Try.prog 11 #[.int .u8 1] w (BytesOut w (bytesL 1)) := bytes_any 1 w
theorem bytes_2 (w : World) : Calls Try.prog 11 #[.int .u8 2] w (BytesOut w (bytesL 2)) := bytes_any 2 w
theorem bytes_3 (w : World) : Calls Try.prog 11 #[.int .u8 3] w (BytesOut w (bytesL 3)) := bytes_any 3 w

set_option maxHeartbeats 1000000 in
theorem awake_any (w : World) : Calls Try.prog 16 #[] w (Quit w (.bool true)) := by
  have fw : ∀ D : DD, D = K0 ∨ D = K1 ∨ D = K2 ∨ D = K3 ∨ D = K4 ∨ D = K5 ∨ D = K6 → Few D := by
    rintro D (rfl | rfl | rfl | rfl | rfl | rfl | rfl) <;> exact few_small (by decide) (by decide) (by decide)
  have FW := Lib.hid fw
  clear fw
  go_enter Try.func16, Try.ntmps16
  go_wp2_with fail
  refine (new_ok 2 16 (by omega) (by omega) (by omega) (by omega) _).mono ?_
  rintro e w1 hm
  obtain ⟨b, rfl, hl⟩ := Live.made hm
  clear hm
  have L1 := Lib.hid hl
  clear hl
  go_wp2_with fail
  refine (bytes_1 _).mono ?_
  rintro e w2 ⟨v2, rfl, hb, ho⟩
  have L2 := Lib.hid (L1.out.quit ho)
  have HW := Lib.hid (L2.out.write 0 _ v2 _ hb (FW.out _ (.inl rfl)))
  clear hb ho L1
  go_wp2_with fail
  refine HW.out.mono ?_
  rintro e w3 ⟨rfl, hl⟩
  have L3 : Hid (Live w w3 b K1) := Lib.hid hl
  clear hl HW L2
  rw [show DD.new 2 16 = K0 from rfl, k1]
  have HW := Lib.hid (L3.out.flush (FW.out _ (.inr (.inl rfl))))
  go_wp2_with fail
  refine HW.out.mono ?_
  rintro e w4 ⟨rfl, hl⟩
  have L4 : Hid (Live w w4 b K2) := Lib.hid hl
  clear hl HW L3
  rw [k2]
  go_wp2_with fail
  refine (bytes_2 _).mono ?_
  rintro e w5 ⟨v5, rfl, hb, ho⟩
  have L5 := Lib.hid (L4.out.quit ho)
  have HW := Lib.hid (L5.out.write 0 _ v5 _ hb (FW.out _ (.inr (.inr (.inl rfl)))))
  clear hb ho L4
  go_wp2_with fail
  refine HW.out.mono ?_
  rintro e w6 ⟨rfl, hl⟩
  have L6 : Hid (Live w w6 b K3) := Lib.hid hl
  clear hl HW L5
  go_wp2_with fail
  refine (bytes_3 _).mono ?_
  rintro e w7 ⟨v7, rfl, hb, ho⟩
  have L7 := Lib.hid (L6.out.quit ho)
  have HW := Lib.hid (L7.out.write 1 _ v7 _ hb (FW.out _ (.inr (.inr (.inr (.inl rfl))))))
  clear hb ho L6
  go_wp2_with fail
  refine HW.out.mono ?_
  rintro e w8 ⟨rfl, hl⟩
  have L8 : Hid (Live w w8 b K4) := Lib.hid hl
  clear hl HW L7
  go_wp2_with fail
  refine (L8.out.crash_new ((Only.refl NoB w8).alloc _) _ [false, true] (rd_new_bools w8 4 [false, true]) (by simp)).mono ?_
  rintro e w9 ⟨rfl, hl⟩
  have L9 : Hid (Live w w9 b K5) := Lib.hid hl
  clear hl L8
  have HR := Lib.hid (L9.out.read 0)
  go_wp2_with fail
  refine HR.out.mono ?_
  rintro e w10 ⟨v10, rfl, hb, ho⟩
  have L10 := Lib.hid (L9.out.quit ho)
  clear hb ho HR L9
  rw [k5]
  have HR := Lib.hid (L10.out.on)
  go_wp2_with fail
  refine HR.out.mono ?_
  rintro e w11 ⟨rfl, hl⟩
  have L11 : Hid (Live w w11 b K6) := Lib.hid hl
  clear hl HR L10
  have HR := Lib.hid (L11.out.read 0)
  go_wp2_with fail
  refine HR.out.mono ?_
  rintro e w12 ⟨v12, rfl, hb, ho⟩
  rw [k6] at hb
  have B12 := Lib.hid hb
  have L12 := Lib.hid (L11.out.quit ho)
  clear hb ho HR L11
  rw [k6]
  have HR := Lib.hid (L12.out.read 1)
  go_wp2_with fail
  refine HR.out.mono ?_
  rintro e w13 ⟨v13, rfl, hb, ho⟩
  rw [k7] at hb
  have B13 := Lib.hid hb
  have B12' : Hid (Bytes w13 _ v12 (bytesL 1)) := Lib.hid (Rd.only B12.out ho fun _ _ => id)
  have L13 := Lib.hid (L12.out.quit ho)
  clear hb ho HR L12 B12
  rw [k7]
  go_wp2_with fail
  have mkS : ∀ w', Only NoB w13 w' → Only NoB w13 w' ∧ (convert 28 9 v12).run Try.prog w' = .ok (strOf (bytesL 1)) w' ∧ (convert 28 9 v13).run Try.prog w' = .ok (strOf (bytesL 3)) w' := fun w' ho =>
    ⟨ho, conv_bytes (Rd.only B12'.out ho fun _ _ => id), conv_bytes (Rd.only B13.out ho fun _ _ => id)⟩
  have MKS := Lib.hid mkS
  clear mkS
  obtain ⟨s0, s1, s2⟩ := MKS.out w13 (Only.refl _ _)
  unfold strOf at s1 s2 MKS
  clear s0 s1 s2
  go_region_held (fun w' => Only NoB w13 w' ∧ (convert 28 9 v12).run Try.prog w' = .ok (.string ⟨(bytesL 1).toArray⟩) w' ∧ (convert 28 9 v13).run Try.prog w' = .ok (.string ⟨(bytesL 3).toArray⟩) w')
    (first | assumption | (exact MKS.out _ (Only.drew (Only.refl _ _))) | (exact MKS.out _ h15) | (exact MKS.out _ h14))
    (first
      | (go_at_call_of 11 (Value.int .u8 1); refine (bytes_1 _).mono ?_; rintro e w14 ⟨v', rfl, hb, ho⟩; have h14 := (Only.drew (Only.refl NoB w13)).trans ho; have hcv := conv_bytes hb; unfold strOf at hcv)
      | (go_at_call_of 11 (Value.int .u8 3); refine (bytes_3 _).mono ?_; rintro e w15 ⟨v', rfl, hb, ho⟩; have h15 := h14.trans ho; have hcv := conv_bytes hb; unfold strOf at hcv)
      | (go_at_call 19; refine ((L13.out.quit h15).deeds).mono ?_; rintro e w' ⟨rfl, rfl⟩; rw [k8]))
  have ho13 := L13.out.only
  have HE := Lib.hid (ho13.trans h15)
  clear hcv hb ho h14 h15 ho13
  go_wp2_with fail
  go_ret
  exact ⟨rfl, HE.out⟩
end Go.Proofs.Ytllodjcfcjmocaa
