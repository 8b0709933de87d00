import Derived.Test.YtllodjcfcjmocaaAwake
import Derived.Test.YtllodjcfcjmocaaArgs
/- JUST THE DEED THAT WAS SAID IS CUT. -/
namespace Go.Proofs.Ytllodjcfcjmocaa
open Go.RowKit Go.Proofs

/-- Behind k deeds of a disk that is cut at the n-th. -/
structure CountInv (n k : Nat) (D : DD) : Prop where
  n3 : D.n = 3
  m16 : D.m = 16
  keep : D.keep = []
  cache : D.cache.length ≤ k
  state : (k < n ∧ D.down = false ∧ D.left = n - k ∧ D.deeds = k) ∨ (n ≤ k ∧ D.down = true ∧ D.deeds = n)

theorem CountInv.few {n k : Nat} {D : DD} (h : CountInv n k D) (hk : k ≤ 100) : Few D :=
  ⟨by have := h.cache; omega, by rw [h.keep]; simp, by rcases h.state with h | h <;> omega⟩
theorem CountInv.deed {n k : Nat} {D : DD} (hn : k < n) (h1 : D.n = 3) (h2 : D.m = 16) (h3 : D.keep = []) (h4 : D.cache.length ≤ k + 1) (hd : D.down = false) (hl : D.left = n - k) (hdd : D.deeds = k) :
    (DD.deed D).2 = (if k + 1 < n then 0 else 50) ∧ CountInv n (k + 1) (DD.deed D).1 ∧ ((DD.deed D).1.cache.length ≤ k + 1) := by
  unfold DD.deed
  rw [if_neg (by omega)]
  by_cases hq : k + 1 < n
  · rw [if_neg (by omega), if_pos hq]
    exact ⟨rfl, ⟨h1, h2, h3, h4, .inl ⟨hq, hd, by simp; omega, by simp; omega⟩⟩, h4⟩
  · rw [if_pos (by omega), if_neg hq]
    have hc : DD.crash D.keep { D with deeds := D.deeds + 1, left := 0 } = { DD.settle (DD.kept D.keep) { D with deeds := D.deeds + 1, left := 0 } with down := true } := by
      unfold DD.crash; rw [if_neg (by simp [hd])]
    simp only [hc]
    exact ⟨trivial, ⟨h1, h2, h3, by simp [DD.settle], .inr ⟨by omega, rfl, by simp [DD.settle]; omega⟩⟩, by simp [DD.settle]⟩
theorem CountInv.write {n k : Nat} {D : DD} (h : CountInv n k D) (s : Int) (l : List UInt8) (hm : D.mayWrite s l = true) :
    (DD.write s l D).2 = (if k + 1 < n then 0 else 50) ∧ CountInv n (k + 1) (DD.write s l D).1 := by
  unfold DD.write
  rcases h.state with ⟨hk, hd, hl, hdd⟩ | ⟨hk, hd, hdd⟩
  · rw [if_neg (by simp [hd]), if_pos hm]
    have := CountInv.deed (D := DD.put s.toNat l D) hk h.n3 h.m16 h.keep (by have := h.cache; simp [DD.put]; omega) hd hl hdd
    exact ⟨this.1, this.2.1⟩
  · rw [if_pos hd, if_neg (by omega)]
    exact ⟨rfl, ⟨h.n3, h.m16, h.keep, Nat.le_succ_of_le h.cache, .inr ⟨by omega, hd, hdd⟩⟩⟩
theorem CountInv.flush {n k : Nat} {D : DD} (h : CountInv n k D) : (DD.flush D).2 = (if k + 1 < n then 0 else 50) ∧ CountInv n (k + 1) (DD.flush D).1 := by
  unfold DD.flush
  rcases h.state with ⟨hk, hd, hl, hdd⟩ | ⟨hk, hd, hdd⟩
  · rw [if_neg (by simp [hd])]
    obtain ⟨h1, h2, _⟩ := CountInv.deed hk h.n3 h.m16 h.keep (by have := h.cache; omega) hd hl hdd
    exact ⟨h1, ⟨h2.n3, h2.m16, h2.keep, by simp [DD.settle], h2.state⟩⟩
  · rw [if_pos hd, if_neg (by omega)]
    exact ⟨rfl, ⟨h.n3, h.m16, h.keep, Nat.le_succ_of_le h.cache, .inr ⟨by omega, hd, hdd⟩⟩⟩

set_option maxHeartbeats 1000000 in
theorem diskCounts_walk (w : World) (n : Int) (hn : (Lit.int .i64 n).wf = true) (v : Value) (l : List Bool) (hv : Bools w (Old w) v l) : Calls Try.prog 5 #[.int .i64 n, v] w (Quit w (.bool true)) := by
  obtain ⟨A, cap, rfl, hc, hl, hx⟩ := id hv
  simp [Lit.wf, IntKind.min, IntKind.max, IntKind.signed, IntKind.bits] at hn
  by_cases h1 : n < 1
  · clear hx hv hl
    go_enter Try.func5, Try.ntmps5
    go_wp2_with fail
    go_ret
    exact ⟨rfl, Only.refl _ _⟩
  have e1 : decide (n < 1) = false := by simpa using h1
  by_cases h2 : 100 < l.length
  · have e2 : ((l.length : Int) > 100) := by omega
    clear hx hv hl h1
    go_enter Try.func5, Try.ntmps5
    go_wp2_with fail
    go_ret
    exact ⟨rfl, Only.refl _ _⟩
  have e2 : decide ((l.length : Int) > 100) = false := by simp; omega
  obtain ⟨n, rfl⟩ := Int.eq_ofNat_of_zero_le (show 0 ≤ n by omega)
  have hlen : l.length ≤ 100 := by omega
  have hn1 : 1 ≤ n := by omega
  have HV := Lib.hid hv
  clear hx hv h1 h2 hl
  go_enter Try.func5, Try.ntmps5
  go_wp2_with fail
  refine (new_ok 3 16 (by omega) (by omega) (by omega) (by omega) _).mono ?_
  rintro e w1 hm
  obtain ⟨b, rfl, hl⟩ := Live.made hm
  have L1 := Lib.hid hl
  clear hl hm
  have HR := Lib.hid (L1.out.arm n (by omega) NoB (.slice none 0 0) [] (Rd.nil _ _ _) (by simp))
  go_wp2_with fail
  refine HR.out.mono ?_
  rintro e w2 ⟨rfl, hl⟩
  have L2 := Lib.hid hl
  clear hl HR L1
  go_wp2_with fail
  go_loopw [7] (fun i wr => ∃ k : Nat, k ≤ l.length ∧ i = .int .i64 k ∧ ∃ D, Live w wr b D ∧ CountInv n k D) (fun i _ => l.length - (intOf i).toNat)
  case atStart =>
    refine ⟨0, Nat.zero_le _, rfl, _, L2.out, rfl, rfl, rfl, Nat.le_refl _, .inl ⟨by omega, rfl, ?_, rfl⟩⟩
    simp [DD.arm]
  case round =>
    obtain ⟨k, hk, rfl, D, hL, hI⟩ := hrel
    have LK := Lib.hid hL
    have IK := Lib.hid hI
    clear hL hI L2
    by_cases hlt : k < l.length
    · obtain ⟨g, off, c, hve, _, hg, hcell⟩ := (Rd.only HV.out LK.out.only (fun _ _ => id)).open_ (by omega)
      injection hve with h1 h2 h3
      subst h1; subst h3
      have hck := hcell k (.bool l[k]) (by rw [List.getElem?_map, List.getElem?_eq_getElem hlt]; rfl)
      clear hcell
      have HW := Lib.hid (IK.out.write ((k : Int) % 3) (bytesL 1) (by
        unfold DD.mayWrite DD.sector
        rw [IK.out.n3, IK.out.m16]
        simp [bytesL]
        omega))
      have HF := Lib.hid IK.out.flush
      have hfew := IK.out.few (by omega)
      have FW := Lib.hid hfew
      clear hfew
      cases hb : l[k] with
      | true =>
        rw [hb] at hck
        have HFl := Lib.hid (LK.out.flush FW.out)
        clear hb
        by_cases hq : k + 1 < n
        · have HF2 := Lib.hid (HF.out.1.trans (if_pos hq))
          go_wp2_with fail
          refine HFl.out.mono ?_
          rintro e w3 ⟨rfl, hl⟩
          rw [HF2.out]
          have L3 := Lib.hid hl
          clear hl
          go_wp2_with fail
          exact ⟨⟨k + 1, by omega, by go_num, _, L3.out, HF.out.2⟩, by simp [intOf]; omega⟩
        · have HF2 := Lib.hid (HF.out.1.trans (if_neg hq))
          have hq' : decide ((k : Int) + 1 < (n : Int)) = false := by simp; omega
          have hq2 : decide ((k : Int) + 1 ≥ (n : Int)) = true := by simp; omega
          clear hq
          go_wp2_with fail
          refine HFl.out.mono ?_
          rintro e w3 ⟨rfl, hl⟩
          rw [HF2.out]
          have L3 := Lib.hid hl
          clear hl
          go_wp2_with fail
          exact ⟨⟨k + 1, by omega, by go_num, _, L3.out, HF.out.2⟩, by simp [intOf]; omega⟩
      | false =>
        rw [hb] at hck
        clear hb
        by_cases hq : k + 1 < n
        · have HF2 := Lib.hid (HW.out.1.trans (if_pos hq))
          go_wp2_with fail
          refine (bytes_1 _).mono ?_
          rintro e w3 ⟨v3, rfl, hb, ho⟩
          have HWr := Lib.hid ((LK.out.quit ho).write ((k : Int) % 3) _ v3 _ hb FW.out)
          clear hb ho
          go_wp2_with fail
          refine HWr.out.mono ?_
          rintro e w4 ⟨rfl, hl⟩
          rw [HF2.out]
          have L3 := Lib.hid hl
          clear hl
          go_wp2_with fail
          exact ⟨⟨k + 1, by omega, by go_num, _, L3.out, HW.out.2⟩, by simp [intOf]; omega⟩
        · have HF2 := Lib.hid (HW.out.1.trans (if_neg hq))
          have hq' : decide ((k : Int) + 1 < (n : Int)) = false := by simp; omega
          have hq2 : decide ((k : Int) + 1 ≥ (n : Int)) = true := by simp; omega
          clear hq
          go_wp2_with fail
          refine (bytes_1 _).mono ?_
          rintro e w3 ⟨v3, rfl, hb, ho⟩
          have HWr := Lib.hid ((LK.out.quit ho).write ((k : Int) % 3) _ v3 _ hb FW.out)
          clear hb ho
          go_wp2_with fail
          refine HWr.out.mono ?_
          rintro e w4 ⟨rfl, hl⟩
          rw [HF2.out]
          have L3 := Lib.hid hl
          clear hl
          go_wp2_with fail
          exact ⟨⟨k + 1, by omega, by go_num, _, L3.out, HW.out.2⟩, by simp [intOf]; omega⟩
    · obtain rfl : k = l.length := by omega
      have hup : (!D.down) = decide (l.length < n) := by
        rcases IK.out.state with ⟨h1, h2, _⟩ | ⟨h1, h2, _⟩
        · rw [h2]; simp [h1]
        · rw [h2]; simp; omega
      have HU := Lib.hid hup
      have HUp := Lib.hid LK.out.up
      have HDs := Lib.hid LK.out.deeds
      have HOn := Lib.hid LK.out.on
      have hn3 : (DD.on D).keep.length ≤ 100 := by show D.keep.length ≤ 100; rw [IK.out.keep]; simp
      have hc3 : (DD.on D).cache.length ≤ 100 := by have := IK.out.cache; show D.cache.length ≤ 100; omega
      have hd3 : (DD.on D).deeds ≤ 100 := by
        show D.deeds ≤ 100
        rcases IK.out.state with ⟨_, _, _, h⟩ | ⟨_, _, h⟩ <;> omega
      have FW := Lib.hid (few_small hc3 hn3 hd3)
      have HFl : Hid ((DD.flush (DD.on D)).2 = 0) := Lib.hid rfl
      clear hup hn3 hc3 hd3
      by_cases hm : n ≤ l.length
      · have HDd : Hid (D.deeds = n) := Lib.hid (by rcases IK.out.state with ⟨_, _, _, h⟩ | ⟨_, _, h⟩ <;> omega)
        have hlt2 : decide (l.length < n) = false := by simp; omega
        have hmin : (n : Int) ≤ (l.length : Int) := by omega
        go_wp2_with fail
        refine HUp.out.mono ?_
        rintro e w3 ⟨rfl, rfl⟩
        rw [HU.out]
        go_wp2_with fail
        refine HDs.out.mono ?_
        rintro e w3 ⟨rfl, rfl⟩
        rw [HDd.out]
        go_wp2_with fail
        refine HOn.out.mono ?_
        rintro e w3 ⟨rfl, hl⟩
        have L3 := Lib.hid hl
        clear hl
        go_wp2_with fail
        refine (awake_any _).mono ?_
        rintro e w4 ⟨rfl, ho⟩
        have L4 := Lib.hid (L3.out.quit ho)
        clear ho
        have HUp4 : Hid (Calls Try.prog 18 #[.pointer (some ⟨b, 0, none⟩)] w4 fun e w' => e = .returned (.bool true) ∧ w4 = w') := Lib.hid L4.out.up
        have HFl4 := Lib.hid (L4.out.flush FW.out)
        go_wp2_with fail
        refine HUp4.out.mono ?_
        rintro e w5 ⟨rfl, rfl⟩
        go_wp2_with fail
        refine HFl4.out.mono ?_
        rintro e w5 ⟨rfl, hl⟩
        rw [HFl.out]
        have L5 := Lib.hid hl
        clear hl
        go_wp2_with fail
        go_ret
        exact ⟨rfl, L5.out.only⟩
      · have HDd : Hid (D.deeds = l.length) := Lib.hid (by rcases IK.out.state with ⟨_, _, _, h⟩ | ⟨h', _, h⟩ <;> omega)
        have hlt2 : decide (l.length < n) = true := by simp; omega
        have hmin : (l.length : Int) < (n : Int) := by omega
        go_wp2_with fail
        refine HUp.out.mono ?_
        rintro e w3 ⟨rfl, rfl⟩
        rw [HU.out]
        go_wp2_with fail
        refine HDs.out.mono ?_
        rintro e w3 ⟨rfl, rfl⟩
        rw [HDd.out]
        go_wp2_with fail
        refine HOn.out.mono ?_
        rintro e w3 ⟨rfl, hl⟩
        have L3 := Lib.hid hl
        clear hl
        go_wp2_with fail
        refine (awake_any _).mono ?_
        rintro e w4 ⟨rfl, ho⟩
        have L4 := Lib.hid (L3.out.quit ho)
        clear ho
        have HUp4 : Hid (Calls Try.prog 18 #[.pointer (some ⟨b, 0, none⟩)] w4 fun e w' => e = .returned (.bool true) ∧ w4 = w') := Lib.hid L4.out.up
        have HFl4 := Lib.hid (L4.out.flush FW.out)
        go_wp2_with fail
        refine HUp4.out.mono ?_
        rintro e w5 ⟨rfl, rfl⟩
        go_wp2_with fail
        refine HFl4.out.mono ?_
        rintro e w5 ⟨rfl, hl⟩
        rw [HFl.out]
        have L5 := Lib.hid hl
        clear hl
        go_wp2_with fail
        go_ret
        exact ⟨rfl, L5.out.only⟩
end Go.Proofs.Ytllodjcfcjmocaa
