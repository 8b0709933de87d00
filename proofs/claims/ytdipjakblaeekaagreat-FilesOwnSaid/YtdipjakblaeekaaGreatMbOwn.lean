import Derived.Test.YtdipjakblaeekaaGreatMb7
set_option linter.unusedVariables false
set_option linter.unusedSimpArgs false
namespace Go.Proofs.YtdipjakblaeekaaGreat
open Go.RowKit Go.Proofs Go.Shelf
set_option maxRecDepth 20000
attribute [local go_sem] Oper.semAt_some
section
variable {w w' : World}
set_option maxHeartbeats 4000000 in
theorem filesOwn_main (size n m : Nat) (a b : Str) (h1 : 64 ≤ size) (h2 : size ≤ 4096) (hok : ownOk (chunkOf size) size n m a.length b.length) : Calls Tryz.prog 4 #[.int .i64 size, .string ⟨a.toArray⟩, .string ⟨b.toArray⟩, .int .i64 n, .int .i64 m] w (Quit w (.bool true)) := by
  have hch := chunkOf_le h1
  have HC := Lib.hid (chunk_ok (w := w) (m := size) h1 h2)
  have HA := Lib.hid fun w1 => awake13_ok (w := w1)
  have HT := Lib.hid (open13_ok (m := size) (w := w) h1 h2)
  have hown := own600 h1
  obtain ⟨o1, o2, o3, o4, o5, o6⟩ := hok
  have hn : 1 ≤ n ∧ n ≤ 16777215 := by omega
  have hm : 1 ≤ m ∧ m ≤ 16777215 := by omega
  have hnm : n ≠ m := by omega
  have hroom : chunkN (chunkOf size) a.length + chunkN (chunkOf size) b.length ≤ 302 := by
    have q1 := chunkN_up (L := a.length) hch.1
    have q2 := chunkN_up (L := b.length) hch.1
    have q3 := div_two (a := a.length) (b := b.length) hch.1
    have q4 : (a.length + b.length) / chunkOf size ≤ 300 := by
      have := o6
      rw [← Int.natCast_add, ← Int.natCast_ediv] at this
      omega
    omega
  obtain ⟨D2, hD2⟩ : ∃ D2, D2 = setF (setF (fun _ => []) n a) m b := ⟨_, rfl⟩
  have e2n : D2 n = a := by rw [hD2]; simp [setF, hnm]
  have e2m : D2 m = b := by rw [hD2]; simp [setF]
  have e2o : ∀ k, k ≠ n → k ≠ m → D2 k = [] := fun k k1 k2 => by rw [hD2]; simp [setF, k1, k2]
  have e3n : setF D2 m [] n = a := by simp [setF, hnm, e2n]
  have e4 : ∀ k, setF (setF D2 m []) n [] k = [] := fun k => by
    unfold setF
    split
    · rfl
    · split
      · rfl
      · exact e2o k ‹_› ‹_›
  obtain ⟨la, hla⟩ : ∃ la, la = a.length := ⟨_, rfl⟩
  obtain ⟨lb, hlb⟩ : ∃ lb, lb = b.length := ⟨_, rfl⟩
  have r1 := rdAns_eq hla
  have r2 := rdAns_eq hlb
  have r3 : rdAns a (la + 1) = _ := rdAns_ne (by omega)
  have hcz : chunkN (chunkOf size) (setF (setF D2 m []) n [] n).length = 0 := by
    rw [e4]
    exact Nat.div_eq_of_lt (by simp; omega)
  rw [← hla, ← hlb] at o2 o6
  have hla' : a.length = la := hla.symm
  have hlb' : b.length = lb := hlb.symm
  have HW1 := fun w' F X t (hk : FlAt w' F X t size (fun _ => []) 0) => fl_write (n := n) (d := a) hk hn (by omega) (by omega)
  have HW2 := fun w' F X t (hk : FlAt w' F X t size (setF (fun _ => []) n a) (0 + chunkN (chunkOf size) a.length)) => fl_write (n := m) (d := b) hk hm (by omega) (by omega)
  rw [← hD2] at HW2
  have HR := fun w' F X t s (hk : FlAt w' F X t size D2 (0 + chunkN (chunkOf size) a.length + chunkN (chunkOf size) b.length)) (hs : s ≤ 65536) => fl_read (n := n) (s := s) hk hn hs
  have HRm := fun w' F X t s (hk : FlAt w' F X t size D2 (0 + chunkN (chunkOf size) a.length + chunkN (chunkOf size) b.length)) (hs : s ≤ 65536) => fl_read (n := m) (s := s) hk hm hs
  rw [e2n] at HR
  rw [e2m] at HRm
  have HDn := fun w' F X t (D : Nat → Str) (c : Nat) (hk : FlAt w' F X t size D c) => fl_drop (n := n) hk hn
  have HDm := fun w' F X t (D : Nat → Str) (c : Nat) (hk : FlAt w' F X t size D c) => fl_drop (n := m) hk hm
  have HR3 := fun w' F X t s (c : Nat) (hk : FlAt w' F X t size (setF D2 m []) c) (hs : s ≤ 65536) => fl_read (n := n) (s := s) hk hn hs
  rw [e3n] at HR3
  have HCT := fun w' F X t (c : Nat) (hk : FlAt w' F X t size (setF (setF D2 m []) n []) c) => fl_count (n := n) hk hn (fun k _ => e4 k)
  rw [hcz] at HCT
  have HR1 := fun w' F X t (hk : FlAt w' F X t size D2 (0 + chunkN (chunkOf size) a.length + chunkN (chunkOf size) b.length)) => HR _ _ _ _ (la) hk (by omega)
  have HR2 := fun w' F X t (hk : FlAt w' F X t size D2 (0 + chunkN (chunkOf size) a.length + chunkN (chunkOf size) b.length)) => HRm _ _ _ _ (lb) hk (by omega)
  have HR1b := fun w' F X t (hk : FlAt w' F X t size D2 (0 + chunkN (chunkOf size) a.length + chunkN (chunkOf size) b.length)) => HR _ _ _ _ (la + 1) hk (by omega)
  have HR4 := fun w' F X t (c : Nat) (hk : FlAt w' F X t size (setF D2 m []) c) => HR3 _ _ _ _ (la) c hk (by omega)
  rw [r1] at HR1 HR4
  rw [r2] at HR2
  rw [r3] at HR1b
  obtain ⟨dm, hdm⟩ : ∃ dm, dm = chunkN (chunkOf size) (D2 m).length := ⟨_, rfl⟩
  obtain ⟨dn, hdn⟩ : ∃ dn, dn = chunkN (chunkOf size) (setF D2 m [] n).length := ⟨_, rfl⟩
  have HDM := fun w' F X t (c : Nat) (hk : FlAt w' F X t size D2 c) => HDm _ _ _ _ _ _ hk
  have HDN := fun w' F X t (c : Nat) (hk : FlAt w' F X t size (setF D2 m []) c) => HDn _ _ _ _ _ _ hk
  rw [← hdm] at HDM
  rw [← hdn] at HDN
  clear HR HRm HR3 HDm HDn hdm hdn hD2 e2n e2m e2o e3n e4 hcz r1 r2 r3 hla hlb hroom hown hn hm hnm
  have A1 := Lib.hid HW1
  have A2 := Lib.hid HW2
  have A3 := Lib.hid HR1
  have A4 := Lib.hid HR2
  have A5 := Lib.hid HR1b
  have A6 := Lib.hid HDM
  have A7 := Lib.hid HR4
  have A8 := Lib.hid HDN
  have A9 := Lib.hid HCT
  clear HW1 HW2 HR1 HR2 HR1b HDM HR4 HDN HCT
  obtain ⟨ch, hc⟩ : ∃ ch, ch = chunkOf size := ⟨_, rfl⟩
  have HCH := Lib.hid hc
  rw [← hc] at HC hch o6
  clear hc
  obtain ⟨o3a, o3b⟩ := o3
  obtain ⟨o4a, o4b⟩ := o4
  have hc1 : (1 : Int) ≤ ch := by omega
  have hc0 : (ch : Int) ≠ 0 := by omega
  have hbeq : ((n : Int) == (m : Int)) = false := by simp; omega
  have hlw : IntKind.i64.wrap ((la : Int) + 1) = (la : Int) + 1 := by rw [IntKind.wrap_i64]; omega
  go_enter Tryz.func4, Tryz.ntmps4
  go_wp2_with fail
  refine HC.out.mono ?_
  rintro e w1 ⟨rfl, rfl⟩
  go_wp2_with fail
  refine HT.out.mono ?_
  rintro e w1 ⟨t, F, X, rfl, hk, ho, hF⟩
  have HF := Lib.hid hF
  have HO := Lib.hid ho
  have HX := Lib.hid (A1.out _ _ _ _ (fl_new hk))
  clear hk ho hF
  go_wp2_with fail
  refine HX.out.mono ?_
  rintro e w2 ⟨rfl, Fw2, hk, ho, hg⟩
  have h2 := low_trans HO.out HF.out ho hg
  have HF := Lib.hid h2.2
  have HO := Lib.hid h2.1
  have HX := Lib.hid (A2.out _ _ _ _ hk)
  clear hk ho hg h2
  go_wp2_with fail
  refine HX.out.mono ?_
  rintro e w3 ⟨rfl, Fw3, hk, ho, hg⟩
  have h2 := low_trans HO.out HF.out ho hg
  have HF := Lib.hid h2.2
  have HO := Lib.hid h2.1
  have HX := Lib.hid (A3.out _ _ _ _ hk)
  clear hk ho hg h2
  go_wp2_with fail
  refine HX.out.mono ?_
  rintro e w4 ⟨rfl, Fw4, hk, ho, hg⟩
  have h2 := low_trans HO.out HF.out ho hg
  have HF := Lib.hid h2.2
  have HO := Lib.hid h2.1
  have HX := Lib.hid (A4.out _ _ _ _ hk)
  clear hk ho hg h2
  go_wp2_with fail
  refine HX.out.mono ?_
  rintro e w5 ⟨rfl, Fw5, hk, ho, hg⟩
  have h2 := low_trans HO.out HF.out ho hg
  have HF := Lib.hid h2.2
  have HO := Lib.hid h2.1
  have HX := Lib.hid (A5.out _ _ _ _ hk)
  clear hk ho hg h2
  go_wp2_with fail
  refine HX.out.mono ?_
  rintro e w6 ⟨rfl, Fw6, hk, ho, hg⟩
  have h2 := low_trans HO.out HF.out ho hg
  have HF := Lib.hid h2.2
  have HO := Lib.hid h2.1
  have HX := Lib.hid (A6.out _ _ _ _ _ hk)
  clear hk ho hg h2
  go_wp2_with fail
  refine HX.out.mono ?_
  rintro e w7 ⟨rfl, Fw7, hk, ho, hg⟩
  have h2 := low_trans HO.out HF.out ho hg
  have HF := Lib.hid h2.2
  have HO := Lib.hid h2.1
  have HX := Lib.hid (A7.out _ _ _ _ _ hk)
  clear hk ho hg h2
  go_wp2_with fail
  refine HX.out.mono ?_
  rintro e w8 ⟨rfl, Fw8, hk, ho, hg⟩
  have h2 := low_trans HO.out HF.out ho hg
  have HF := Lib.hid h2.2
  have HO := Lib.hid h2.1
  have HX := Lib.hid (A8.out _ _ _ _ _ hk)
  clear hk ho hg h2
  go_wp2_with fail
  refine HX.out.mono ?_
  rintro e w9 ⟨rfl, Fw9, hk, ho, hg⟩
  have h2 := low_trans HO.out HF.out ho hg
  have HF := Lib.hid h2.2
  have HO := Lib.hid h2.1
  have HX := Lib.hid (A9.out _ _ _ _ _ hk)
  clear hk ho hg h2
  go_wp2_with fail
  refine HX.out.mono ?_
  rintro e w10 ⟨rfl, Fw10, hk, ho, hg⟩
  have h2 := low_trans HO.out HF.out ho hg
  have HF := Lib.hid h2.2
  have HO := Lib.hid h2.1
  have HX := Lib.hid (HA.out w10)
  clear hk ho hg h2
  go_wp2_with fail
  refine HX.out.mono ?_
  rintro e w11 ⟨rfl, ho⟩
  have HOE := Lib.hid (HO.out.trans ho)
  clear ho
  go_wp2_with fail
  go_ret
  exact ⟨rfl, HOE.out⟩
end
end Go.Proofs.YtdipjakblaeekaaGreat
namespace Go.Proofs.YtdipjakblaeekaaGreat
open Go.RowKit Go.Proofs Go.Shelf
set_option maxRecDepth 20000
theorem filesOwn_walk (w : World) (size : Int) (_ : (Lit.int .i64 size).wf = true) (s1 : ByteArray) (h1 : s1.size ≤ 140737488351232) (s2 : ByteArray) (h2 : s2.size ≤ 140737488351232) (n : Int) (_ : (Lit.int .i64 n).wf = true) (m : Int) (_ : (Lit.int .i64 m).wf = true) :
    Calls Tryz.prog 4 #[.int .i64 size, .string s1, .string s2, .int .i64 n, .int .i64 m] w (Quit w (.bool true)) := by
  obtain ⟨⟨a⟩, rfl⟩ : ∃ x : Array UInt8, s1 = ⟨x⟩ := ⟨s1.data, rfl⟩
  obtain ⟨⟨b⟩, rfl⟩ : ∃ x : Array UInt8, s2 = ⟨x⟩ := ⟨s2.data, rfl⟩
  have ha : a.length ≤ 4000000000000000000 := Nat.le_trans (show a.length ≤ 140737488351232 from h1) (by omega)
  have hb : b.length ≤ 4000000000000000000 := Nat.le_trans (show b.length ≤ 140737488351232 from h2) (by omega)
  by_cases hs : 64 ≤ size ∧ size ≤ 4096
  · obtain ⟨sz, rfl⟩ := Int.eq_ofNat_of_zero_le (show 0 ≤ size by omega)
    by_cases hok : ownOk (chunkOf sz) sz n m a.length b.length
    · obtain ⟨n', rfl⟩ := Int.eq_ofNat_of_zero_le (show 0 ≤ n by have := hok.2.2.1; omega)
      obtain ⟨m', rfl⟩ := Int.eq_ofNat_of_zero_le (show 0 ≤ m by have := hok.2.2.2.1; omega)
      exact filesOwn_main sz n' m' a b (by omega) (by omega) hok
    · exact filesOwn_skip sz n m a b ha hb (by omega) (by omega) hok
  · exact filesOwn_badsize size n m a b (by omega) (by omega) hs
end Go.Proofs.YtdipjakblaeekaaGreat
