import Derived.Test.YtdipjakblaeekaaGreatMb7
set_option linter.unusedVariables false
set_option linter.unusedSimpArgs false
namespace Go.Proofs.YtdipjakblaeekaaGreat
open Go.RowKit Go.Proofs Go.Shelf
set_option maxRecDepth 20000
attribute [local go_sem] Oper.semAt_some
section
variable {w w' : World}
set_option maxHeartbeats 2000000 in
theorem filesAgain_badsize (size : Int) (a b : Str) (h : ¬ (64 ≤ size ∧ size ≤ 4096)) : Calls Tryz.prog 5 #[.int .i64 size, .string ⟨a.toArray⟩, .string ⟨b.toArray⟩] w (Quit w (.bool true)) := by
  have HC := Lib.hid (chunk_bad (w := w) size h)
  have HA := Lib.hid (awake13_ok (w := w))
  clear h
  go_enter Tryz.func5, Tryz.ntmps5
  go_wp2_with fail
  refine HC.out.mono ?_
  rintro e w1 ⟨rfl, rfl⟩
  go_wp2_with fail
  refine HA.out.mono ?_
  rintro e w1 ⟨rfl, ho⟩
  have HO := Lib.hid ho
  clear ho
  go_wp2_with fail
  go_ret
  exact ⟨rfl, HO.out⟩
def againOk (ch : Nat) (size : Int) (la lb : Nat) : Prop := size ≤ 300 ∧ la ≤ 500 ∧ lb ≤ 500 ∧ ((la : Int) + lb) / ch ≤ 300
set_option maxHeartbeats 4000000 in
theorem filesAgain_skip (size : Nat) (a b : Str) (h1 : 64 ≤ size) (h2 : size ≤ 4096) (hno : ¬ againOk (chunkOf size) size a.length b.length) : Calls Tryz.prog 5 #[.int .i64 size, .string ⟨a.toArray⟩, .string ⟨b.toArray⟩] w (Quit w (.bool true)) := by
  have hch := chunkOf_le h1
  have HC := Lib.hid (chunk_ok (w := w) (m := size) h1 h2)
  have HA := Lib.hid (awake13_ok (w := w))
  obtain ⟨ch, hc⟩ : ∃ ch, ch = chunkOf size := ⟨_, rfl⟩
  rw [← hc] at HC hch hno
  obtain ⟨la, hla⟩ : ∃ la, la = a.length := ⟨_, rfl⟩
  obtain ⟨lb, hlb⟩ : ∃ lb, lb = b.length := ⟨_, rfl⟩
  rw [← hla, ← hlb] at hno
  have hla' : a.length = la := hla.symm
  have hlb' : b.length = lb := hlb.symm
  have hc1 : (1 : Int) ≤ ch := by omega
  have hc0 : (ch : Int) ≠ 0 := by omega
  have HNO := Lib.hid hno
  clear hc hla hlb hno
  go_enter Tryz.func5, Tryz.ntmps5
  go_wp2_with fail
  refine HC.out.mono ?_
  rintro e w1 ⟨rfl, rfl⟩
  go_wp2_with fail
  all_goals first
    | (refine HA.out.mono ?_; rintro e w1 ⟨rfl, ho⟩; have HO := Lib.hid ho; clear ho; go_wp2_with fail; go_ret; exact ⟨rfl, HO.out⟩)
    | (exfalso; exact HNO.out ⟨by omega, by omega, by omega, by omega⟩)
set_option maxHeartbeats 4000000 in
theorem filesAgain_main (size : Nat) (a b : Str) (h1 : 64 ≤ size) (h2 : size ≤ 4096) (hok : againOk (chunkOf size) size a.length b.length) : Calls Tryz.prog 5 #[.int .i64 size, .string ⟨a.toArray⟩, .string ⟨b.toArray⟩] w (Quit w (.bool true)) := by
  have hch := chunkOf_le h1
  have hch2 : 2 ≤ chunkOf size := by unfold chunkOf NodeD.most; omega
  have HC := Lib.hid (chunk_ok (w := w) (m := size) h1 h2)
  have HA := Lib.hid fun w1 => awake13_ok (w := w1)
  have HT := Lib.hid (open13_ok (m := size) (w := w) h1 h2)
  have hown := own600 h1
  obtain ⟨o1, o2, o3, o6⟩ := hok
  have hroom : chunkN (chunkOf size) a.length + (chunkN (chunkOf size) b.length + chunkN (chunkOf size) b.length) ≤ 560 := by
    have q1 := chunkN_up (L := a.length) hch.1
    have q2 := chunkN_up (L := b.length) hch.1
    have q3 := div_two (a := a.length) (b := b.length) hch.1
    have q4 : (a.length + b.length) / chunkOf size ≤ 300 := by
      have := o6
      rw [← Int.natCast_add, ← Int.natCast_ediv] at this
      omega
    have q5 : b.length / chunkOf size ≤ 250 := Nat.div_le_of_le_mul (by have : 2 * 250 ≤ chunkOf size * 250 := Nat.mul_le_mul_right _ hch2; omega)
    omega
  obtain ⟨la, hla⟩ : ∃ la, la = a.length := ⟨_, rfl⟩
  obtain ⟨lb, hlb⟩ : ∃ lb, lb = b.length := ⟨_, rfl⟩
  obtain ⟨D3, hD3⟩ : ∃ D3, D3 = setF (setF (setF (fun _ => []) 7 a) 7 b) 7 b := ⟨_, rfl⟩
  have e7 : D3 7 = b := by rw [hD3]; simp [setF]
  have e0 : ∀ k, k ≠ 7 → D3 k = [] := fun k hk => by rw [hD3]; simp [setF, hk]
  have r1 := rdAns_eq hlb
  have hqe := chunkN_eq lb (chunkOf size) hch.1
  obtain ⟨q, hq⟩ : ∃ q, q = chunkN (chunkOf size) lb := ⟨_, rfl⟩
  rw [← hq] at hqe
  have hc7 : chunkN (chunkOf size) (D3 7).length = q := by rw [e7, hq, hlb]
  have HW1 := fun w' F X t (hk : FlAt w' F X t size (fun _ => []) 0) => fl_write (n := 7) (d := a) hk (by omega) (by omega) (by omega)
  have HW2 := fun w' F X t (hk : FlAt w' F X t size (setF (fun _ => []) 7 a) (0 + chunkN (chunkOf size) a.length)) => fl_write (n := 7) (d := b) hk (by omega) (by omega) (by omega)
  have HW3 := fun w' F X t (hk : FlAt w' F X t size (setF (setF (fun _ => []) 7 a) 7 b) (0 + chunkN (chunkOf size) a.length + chunkN (chunkOf size) b.length)) => fl_write (n := 7) (d := b) hk (by omega) (by omega) (by omega)
  rw [← hD3] at HW3
  have HCT := fun w' F X t (c : Nat) (hk : FlAt w' F X t size D3 c) => fl_count (n := 7) hk (by omega) e0
  have HRD := fun w' F X t (c : Nat) (hk : FlAt w' F X t size D3 c) => fl_read (n := 7) (s := lb) hk (by omega) (by omega)
  have HDR := fun w' F X t (c : Nat) (hk : FlAt w' F X t size D3 c) => fl_drop (n := 7) hk (by omega)
  rw [hc7] at HCT HDR
  rw [e7, r1] at HRD
  have A1 := Lib.hid HW1
  have A2 := Lib.hid HW2
  have A3 := Lib.hid HW3
  have A4 := Lib.hid HCT
  have A5 := Lib.hid HRD
  have A6 := Lib.hid HDR
  rw [← hla] at o2 o6
  rw [← hlb] at o3 o6
  have hla' : a.length = la := hla.symm
  have hlb' : b.length = lb := hlb.symm
  obtain ⟨ch, hc⟩ : ∃ ch, ch = chunkOf size := ⟨_, rfl⟩
  rw [← hc] at HC hch o6 hqe
  have hc1 : (1 : Int) ≤ ch := by omega
  have hc0 : (ch : Int) ≠ 0 := by omega
  have ho2 : (la : Int) ≤ 500 := by omega
  have ho3 : (lb : Int) ≤ 500 := by omega
  clear HW1 HW2 HW3 HCT HRD HDR hD3 e7 e0 r1 hq hc7 hroom hown hch2 hla hlb hc o2 o3
  go_enter Tryz.func5, Tryz.ntmps5
  go_wp2_with fail
  refine HC.out.mono ?_
  rintro e w1 ⟨rfl, rfl⟩
  go_wp2_with fail
  refine HT.out.mono ?_
  rintro e w1 ⟨t, F, X, rfl, hk, ho, hF⟩
  have HF := Lib.hid hF
  have HO := Lib.hid ho
  have HX := Lib.hid (A1.out _ _ _ _ (fl_new hk))
  clear hk ho hF
  go_wp2_with fail
  refine HX.out.mono ?_
  rintro e w2 ⟨rfl, Fw2, hk, ho, hg⟩
  have h2 := low_trans HO.out HF.out ho hg
  have HF := Lib.hid h2.2
  have HO := Lib.hid h2.1
  have HX := Lib.hid (A2.out _ _ _ _ hk)
  clear hk ho hg h2
  go_wp2_with fail
  refine HX.out.mono ?_
  rintro e w3 ⟨rfl, Fw3, hk, ho, hg⟩
  have h2 := low_trans HO.out HF.out ho hg
  have HF := Lib.hid h2.2
  have HO := Lib.hid h2.1
  have HX := Lib.hid (A3.out _ _ _ _ hk)
  clear hk ho hg h2
  go_wp2_with fail
  refine HX.out.mono ?_
  rintro e w4 ⟨rfl, Fw4, hk, ho, hg⟩
  have h2 := low_trans HO.out HF.out ho hg
  have HF := Lib.hid h2.2
  have HO := Lib.hid h2.1
  have HX := Lib.hid (A4.out _ _ _ _ _ hk)
  clear hk ho hg h2
  go_wp2_with fail
  refine HX.out.mono ?_
  rintro e w5 ⟨rfl, Fw5, hk, ho, hg⟩
  have h2 := low_trans HO.out HF.out ho hg
  have HF := Lib.hid h2.2
  have HO := Lib.hid h2.1
  have HX := Lib.hid (A5.out _ _ _ _ _ hk)
  clear hk ho hg h2
  go_wp2_with fail
  refine HX.out.mono ?_
  rintro e w6 ⟨rfl, Fw6, hk, ho, hg⟩
  have h2 := low_trans HO.out HF.out ho hg
  have HF := Lib.hid h2.2
  have HO := Lib.hid h2.1
  have HX := Lib.hid (A6.out _ _ _ _ _ hk)
  clear hk ho hg h2
  go_wp2_with fail
  refine HX.out.mono ?_
  rintro e w7 ⟨rfl, Fw7, hk, ho, hg⟩
  have h2 := low_trans HO.out HF.out ho hg
  have HF := Lib.hid h2.2
  have HO := Lib.hid h2.1
  have HX := Lib.hid (HA.out w7)
  clear hk ho hg h2
  go_wp2_with fail
  refine HX.out.mono ?_
  rintro e w11 ⟨rfl, ho⟩
  have HOE := Lib.hid (HO.out.trans ho)
  clear ho
  go_wp2_with fail
  go_ret
  exact ⟨rfl, HOE.out⟩
end
theorem filesAgain_walk (w : World) (size : Int) (_ : (Lit.int .i64 size).wf = true) (s1 : ByteArray) (_ : s1.size ≤ maxLen) (s2 : ByteArray) (_ : s2.size ≤ maxLen) :
    Calls Tryz.prog 5 #[.int .i64 size, .string s1, .string s2] w (Quit w (.bool true)) := by
  obtain ⟨⟨a⟩, rfl⟩ : ∃ x : Array UInt8, s1 = ⟨x⟩ := ⟨s1.data, rfl⟩
  obtain ⟨⟨b⟩, rfl⟩ : ∃ x : Array UInt8, s2 = ⟨x⟩ := ⟨s2.data, rfl⟩
  by_cases hs : 64 ≤ size ∧ size ≤ 4096
  · obtain ⟨sz, rfl⟩ := Int.eq_ofNat_of_zero_le (show 0 ≤ size by omega)
    by_cases hok : againOk (chunkOf sz) sz a.length b.length
    · exact filesAgain_main sz a b (by omega) (by omega) hok
    · exact filesAgain_skip sz a b (by omega) (by omega) hok
  · exact filesAgain_badsize size a b hs
end Go.Proofs.YtdipjakblaeekaaGreat
