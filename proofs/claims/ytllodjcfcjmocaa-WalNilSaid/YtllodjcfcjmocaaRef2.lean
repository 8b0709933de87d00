import Derived.Test.YtllodjcfcjmocaaRef1
/- THE DOCUMENT's DISK: Crash. -/
namespace Go.Proofs.Ytllodjcfcjmocaa
open Go.RowKit Go.Proofs
section
variable {R F : Nat → Prop} {b : Nat} {D : DD} {lv cv kv : Value} {xs : List Value} {w w' : World}

theorem own_form {e : TypeId} {size n : Nat} {v : Value} {ys : List Value} (h : w.ownsRow 0 e size v n ys) (hn : 0 < n) : ∃ g c, v = .slice (some ⟨g, 0, none⟩) n c := by
  rcases h.2 with ⟨_, h0⟩ | ⟨g, cap, cur, rfl, _⟩
  · omega
  · exact ⟨g, cap, rfl⟩
/-- What the two loops hold ahead of the round k. -/
def RefInv (W : World) (is : Nat → Bool) (R : Nat → Prop) (b : Nat) (D : DD) (lv cv kv : Value) (xs : List Value) (k : Nat) (w : World) : Prop :=
  RefIn w R b { D with done := DD.applyC is 0 (D.cache.take k) D.done } lv cv kv xs ∧ Only (fun k => lv.ownBlock = some k) W w
/-- What the round k's store leaves. -/
theorem RefInv.store {W : World} {is : Nat → Bool} {g c k : Nat} (h : RefInv W is R b D (.slice (some ⟨g, 0, none⟩) D.n c) cv kv xs k w) (hk : k < D.cache.length) (hi : is k = true) :
    RefInv W is R b D (.slice (some ⟨g, 0, none⟩) D.n c) cv kv xs (k + 1) (w.drew.setCell ⟨g, D.cache[k].1, none⟩ (strOf D.cache[k].2)) := by
  have hd : RefIn w.drew R b { D with done := DD.applyC is 0 (D.cache.take k) D.done } (.slice (some ⟨g, 0, none⟩) D.n c) cv kv xs := h.1.keep (Nat.le_refl _) fun _ _ => rfl
  have h1 := RefIn.stored (D := { D with done := DD.applyC is 0 (D.cache.take k) D.done }) hd D.cache[k].1 D.cache[k].2
  refine ⟨?_, (h.2.drew).setCell (p := ⟨g, D.cache[k].1, none⟩) (.inl rfl) _⟩
  rw [apply_take is D hk, if_pos hi]
  exact h1
theorem RefInv.skip {W : World} {is : Nat → Bool} {k : Nat} (h : RefInv W is R b D lv cv kv xs k w) (hk : k < D.cache.length) (hi : is k = false) : RefInv W is R b D lv cv kv xs (k + 1) w := by
  refine ⟨?_, h.2⟩
  rw [apply_take is D hk, hi]
  exact h.1
theorem RefInv.done {W : World} {is : Nat → Bool} (h : RefInv W is R b D lv cv kv xs D.cache.length w) : RefIn w R b { D with done := DD.applyC is 0 D.cache D.done } lv cv kv xs := by
  have := h.1
  rwa [List.take_length] at this

theorem rcrash_down (h : RefIn w R b D lv cv kv xs) (hd : D.down = true) (kvv : Value) : Calls Try.prog 26 #[.pointer (some ⟨b, 0, none⟩), kvv] w fun e w' => e = .returned (.tuple #[]) ∧ w = w' := by
  have h3 : w.cell? ⟨b, 3, none⟩ = some (.bool false) := h.cell 3 _ (by simp [refCells, hd])
  clear h hd
  go_enter Try.func26, Try.ntmps26
  go_wp2
  all_goals (refine bodyPost_ret (v := .tuple #[]) (by simp [results, Try.f26, go_sem]) rfl ⟨rfl, rfl⟩)

set_option maxHeartbeats 2000000 in
theorem rcrash_up (h : RefIn w R b D lv cv kv xs) (hd : D.down = false) (K : Nat → Prop) (kvv : Value) (l : List Bool) (hl : Bools w K kvv l) (hK : ∀ k, K k → lv.ownBlock ≠ some k) (hll : l.length < 1000000000) :
    Calls Try.prog 26 #[.pointer (some ⟨b, 0, none⟩), kvv] w (RefDIn w R b lv cv kv (.tuple #[]) (DD.crash l D)) := by
  obtain ⟨A, c, rfl, _⟩ := id hl
  obtain ⟨cA, cc, rfl, _⟩ := Own.shape (F := fun _ => True) ⟨h.own, fun _ _ => trivial⟩
  have h3 : w.cell? ⟨b, 3, none⟩ = some (.bool true) := h.cell 3 _ (by simp [refCells, hd])
  have hcr : DD.crash l D = { DD.settle (DD.kept l) D with down := true } := by unfold DD.crash; rw [hd]; rfl
  have HC := Lib.hid hcr
  have H := Lib.hid h
  have HL := Lib.hid hl
  have HK := Lib.hid hK
  have hcap := h.cap
  clear h hl hK hcr hd
  go_enter Try.func26, Try.ntmps26
  go_wp2_with fail
  go_loopw [4] (fun i wr => ∃ k : Nat, k ≤ D.cache.length ∧ i = .int .i64 k ∧ RefInv w (DD.kept l) R b D lv (.slice cA D.cache.length cc) kv xs k wr) (fun i _ => D.cache.length - (intOf i).toNat)
  case atStart => exact ⟨0, Nat.zero_le _, rfl, H.out, Only.refl _ _⟩
  case round =>
    obtain ⟨k, hk, rfl, hI⟩ := hrel
    have hb2 : wr.cell? ⟨b, 2, none⟩ = some (.slice cA D.cache.length cc) := hI.1.cell 2 _ rfl
    have IK := Lib.hid hI
    clear hI h3 H
    by_cases hlt : k < D.cache.length
    · obtain ⟨x1, v, x2, x3⟩ := IK.out.1.cache.at_ (i := k) (c := D.cache[k]) (List.getElem?_eq_getElem hlt)
      have hsn : D.cache[k].1 < D.n := IK.out.1.cn D.cache[k] (List.getElem_mem hlt)
      obtain ⟨g, lc, rfl⟩ := own_form IK.out.1.sec (by show 0 < D.n; omega)
      obtain ⟨cg, cc', hce⟩ := own_form IK.out.1.own (by show 0 < D.cache.length; omega)
      injection hce with e1 e2 e3
      subst e1; subst e3
      have c1 := (IK.out.1.own.cellAt (k * 2) (by show k * 2 < D.cache.length * 2; omega)).trans x1
      have c2 := (IK.out.1.own.cellAt (k * 2 + 1) (by show k * 2 + 1 < D.cache.length * 2; omega)).trans x2
      have hcv : (convert 28 9 v).run Try.prog wr.drew = .ok (strOf D.cache[k].2) wr.drew := conv_bytes (w := wr.drew) (K := R) (Rd.keep x3 fun _ _ _ => rfl)
      have hb1 : wr.cell? ⟨b, 1, none⟩ = some (.slice (some ⟨g, 0, none⟩) D.n lc) := IK.out.1.cell 1 _ rfl
      have hlc := IK.out.1.sec.cellAt D.cache[k].1 (by show D.cache[k].1 < D.n * 1; omega)
      rw [rowL_get _ hsn] at hlc
      have hlf := IK.out.1.sec.frozenAt D.cache[k].1
      have hsi : ((D.cache[k].1 : Nat) : Int) < (D.n : Int) := by omega
      have hn := IK.out.1.n
      clear x1 x2 x3
      have ST := Lib.hid (fun hi => IK.out.store hlt hi)
      unfold strOf at hlc hcv
      obtain ⟨S, hS⟩ : ∃ S, Value.string S = strOf D.cache[k].2 := ⟨_, rfl⟩
      unfold strOf at hS
      rw [← hS] at hcv
      rw [show strOf D.cache[k].2 = Value.string S from hS.symm] at ST
      clear hS
      have SK := Lib.hid (fun hi => IK.out.skip hlt hi)
      have HKL : Hid (DD.kept l k = l.getD k false) := Lib.hid rfl
      by_cases hkl : k < l.length
      · obtain ⟨g', off', c'', hve, _, hg', hcell⟩ := HL.out.open_ (by omega)
        injection hve with h1 h2 h3
        subst h1; subst h3
        have hkc := IK.out.2.cell (hcell k (.bool l[k]) (by rw [List.getElem?_map, List.getElem?_eq_getElem hkl]; rfl)) (HK.out _ hg')
        have hkv : DD.kept l k = l[k] := by rw [HKL.out, List.getD_eq_getElem?_getD, List.getElem?_eq_getElem hkl]; rfl
        obtain ⟨z, hz⟩ : ∃ z, z = l[k] := ⟨_, rfl⟩
        rw [← hz] at hkc hkv
        clear hz hcell
        have KV := Lib.hid hkv
        clear hkv IK
        cases z with
        | false =>
          go_wp2_with fail
          exact ⟨⟨k + 1, by omega, by go_num, SK.out KV.out⟩, by simp [intOf]; omega⟩
        | true =>
          go_wp2_with fail
          go_region
          all_goals go_wp2_with fail
          all_goals exact ⟨⟨k + 1, by omega, by go_num, ST.out KV.out⟩, by simp [intOf]; omega⟩
      · have hd : decide ((k : Int) < l.length) = false := by simp; omega
        have KV : Hid (DD.kept l k = false) := Lib.hid (by rw [HKL.out, List.getD_eq_getElem?_getD, List.getElem?_eq_none (by omega)]; rfl)
        have hd2 : decide (k < l.length) = false := by simpa using hkl
        clear IK
        go_wp2_with fail
        exact ⟨⟨k + 1, by omega, by go_num, SK.out KV.out⟩, by simp [intOf]; omega⟩
    · obtain rfl : k = D.cache.length := by omega
      have hD := IK.out.done
      have f2 := hD.frozen 2
      have f3 := hD.frozen 3
      have h3 : wr.cell? ⟨b, 3, none⟩ = some (.bool (!D.down)) := hD.cell 3 _ rfl
      go_wp2_with fail
      go_end0
      refine ⟨rfl, .slice none 0 0, [], ?_, fun g hg => (by cases hg), (((IK.out.2.mono fun k _ hk => .inr (.inl hk)).setCell (.inl (.inl rfl)) _)).setCell (.inl (.inl rfl)) _⟩
      rw [HC.out]
      exact hD.forgot.turn 3 (.bool false) _ (by simp [refCells, DD.settle]) rfl rfl rfl rfl rfl hD.left hD.deeds
theorem rcrash_in (h : RefIn w R b D lv cv kv xs) (K : Nat → Prop) (kvv : Value) (l : List Bool) (hl : Bools w K kvv l) (hK : ∀ k, K k → lv.ownBlock ≠ some k) (hll : l.length < 1000000000) :
    Calls Try.prog 26 #[.pointer (some ⟨b, 0, none⟩), kvv] w (RefDIn w R b lv cv kv (.tuple #[]) (DD.crash l D)) := by
  cases hd : D.down with
  | false => exact rcrash_up h hd K kvv l hl hK hll
  | true =>
    have hc : DD.crash l D = D := by unfold DD.crash; rw [hd]; rfl
    rw [hc]
    exact (rcrash_down h hd kvv).mono fun e w' ⟨he, hw⟩ => ⟨he, cv, xs, hw ▸ h, fun _ => id, hw ▸ Only.refl _ _⟩
theorem rcrash_any (h : RefAt w F b D) (K : Nat → Prop) (kvv : Value) (l : List Bool) (hl : Bools w K kvv l) (hK : ∀ k, K k → ¬ F k) (hll : l.length < 1000000000) :
    Calls Try.prog 26 #[.pointer (some ⟨b, 0, none⟩), kvv] w (RefD w F b (.tuple #[]) (DD.crash l D)) := by
  obtain ⟨hs, R, lv, cv, kv, xs, h, hF⟩ := h
  exact (rcrash_in h K kvv l hl (fun k hk hw => hK k hk (hF k (.inr (.inr (.inl hw))))) hll).mono fun e w' hd => hd.out hF hs
end
end Go.Proofs.Ytllodjcfcjmocaa
