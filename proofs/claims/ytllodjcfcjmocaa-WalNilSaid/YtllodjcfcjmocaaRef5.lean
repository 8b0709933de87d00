import Derived.Test.YtllodjcfcjmocaaRef4
/- THE DOCUMENT's DISK: Arm, Write. -/
namespace Go.Proofs.Ytllodjcfcjmocaa
open Go.RowKit Go.Proofs
section
variable {R F : Nat → Prop} {b : Nat} {D : DD} {lv cv kv : Value} {xs : List Value} {w w' : World}

theorem RefD.of {R' : Nat → Prop} {lv' cv' kv' v : Value} {xs' : List Value} {D' : DD} (hs : ∀ k, F k → k < w.heap.size) (hF : ∀ k, refF R b lv cv k → F k) (h : RefIn w' R' b D' lv' cv' kv' xs')
    (ho : Only (refW b lv cv) w w') (hR : ∀ k, R' k → R k ∨ News w w' k) (hl : ∀ g, lv'.ownBlock = some g → lv.ownBlock = some g ∨ News w w' g) (hc : ∀ g, cv'.ownBlock = some g → cv.ownBlock = some g ∨ News w w' g) : RefD w F b v D' (.returned v) w' := by
  refine ⟨rfl, fun k => F k ∨ News w w' k, ⟨fun k hk => hk.elim (fun hk => Nat.lt_of_lt_of_le (hs k hk) ho.size) (·.2), R', lv', cv', kv', xs', h, fun k hk => ?_⟩, ho.mono fun k _ hk => hF k (refW_F hk), fun k hk => hk.imp id (·.1)⟩
  rcases hk with hk | hk | hk | hk
  · exact (hR k hk).imp (fun hk => hF k (.inl hk)) id
  · exact .inl (hF k (.inr (.inl hk)))
  · exact (hl k hk).imp (fun hk => hF k (.inr (.inr (.inl hk)))) id
  · exact (hc k hk).imp (fun hk => hF k (.inr (.inr (.inr hk)))) id

/-- Behind the append of the truths. -/
theorem arm_mid {w2 : World} {l : List Bool} {A : Option Addr} {c : Nat} (h : RefIn w R b { D with keep := [] } lv cv (.slice none 0 0) xs) (ha : App w (fun _ => False) 4 1 (.slice none 0 0) 0 l.length [] (l.map boolV) (.slice A (0 + l.length) c) w2) :
    (RefIn (w2.setCell ⟨b, 5, none⟩ (.slice A l.length c)) (fun k => R k ∨ News w w2 k) b { D with keep := l } lv cv (.slice A l.length c) xs) ∧ Only (refW b lv cv) w (w2.setCell ⟨b, 5, none⟩ (.slice A l.length c)) ∧ True := by
  have ho : Only NoB w w2 := ha.only.mono fun k _ hk => by cases hk
  have h1 := (h.only ho fun _ _ => id).more (News w w2) fun k hk => ⟨hk.2, h.far hk.1⟩
  have hr := ha.own.rd
  rw [Nat.zero_add, List.nil_append] at hr
  have hb : Bools w2 (fun k => R k ∨ News w w2 k) (.slice A l.length c) l := hr.mono fun k hk hlt => hk.elim False.elim fun e => .inr ⟨by omega, hlt⟩
  exact ⟨h1.armed hb, (ho.mono fun _ _ hk => hk.elim).setCell (.inl (.inl rfl)) _, trivial⟩
set_option maxHeartbeats 1000000 in
theorem rarm_any (h : RefAt w F b D) (n : Int) (hn : n < 9223372036854775808) (K : Nat → Prop) (kvv : Value) (l : List Bool) (hl : Bools w K kvv l) (hK : ∀ k, K k → ¬ F k) (hll : l.length ≤ 1000000000) :
    Calls Try.prog 25 #[.pointer (some ⟨b, 0, none⟩), .int .i64 n, kvv] w (RefD w F b (.tuple #[]) (DD.arm n l D)) := by
  obtain ⟨hs, R, lv, cv, kv, xs, h, hF⟩ := h
  obtain ⟨A, c, rfl, _⟩ := id hl
  have h4 : w.cell? ⟨b, 4, none⟩ = some (.int .i64 D.left) := h.cell 4 _ rfl
  have h5 : w.cell? ⟨b, 5, none⟩ = some kv := h.cell 5 _ rfl
  have f4 := h.frozen 4
  have f5 := h.frozen 5
  have hi : ∀ m : Int, m = (n.toNat : Int) → RefIn ((w.setCell ⟨b, 4, none⟩ (.int .i64 m)).setCell ⟨b, 5, none⟩ (.slice none 0 0)) R b { D with left := n.toNat, keep := [] } lv cv (.slice none 0 0) xs := fun m hm =>
    (h.turn 4 (.int .i64 m) { D with left := n.toNat } (by subst hm; rfl) rfl rfl rfl rfl rfl (by simp; omega) h.deeds).armed (l := []) (Rd.nil _ _ _)
  have ho : ∀ m : Int, Only (fun k => k = b) w ((w.setCell ⟨b, 4, none⟩ (.int .i64 m)).setCell ⟨b, 5, none⟩ (.slice none 0 0)) := fun m => ((Only.refl (fun k => k = b) w).setCell (p := ⟨b, 4, none⟩) (.inl rfl) (.int .i64 m)).setCell (p := ⟨b, 5, none⟩) (.inl rfl) _
  have hb : ∀ m : Int, Bools ((w.setCell ⟨b, 4, none⟩ (.int .i64 m)).setCell ⟨b, 5, none⟩ (.slice none 0 0)) K (.slice A l.length c) l := fun m => Rd.only hl (ho m) fun k hk e => hK k hk (hF k (.inr (.inl e)))
  have HI := Lib.hid hi
  have HO := Lib.hid ho
  have HB := Lib.hid hb
  have HS := Lib.hid hs
  have HF := Lib.hid hF
  have H := Lib.hid h
  have H1 := Lib.hid (oneCell_bools l)
  have hm : (if n < 0 then (0 : Int) else n) = (n.toNat : Int) := by split <;> omega
  have HI2 := Lib.hid (hi _ hm)
  have HO2 := Lib.hid (ho (if n < 0 then (0 : Int) else n))
  have HB2 := Lib.hid (hb (if n < 0 then (0 : Int) else n))
  clear h hl hs hF hi ho hb hK HI HO HB hm
  go_enter Try.func25, Try.ntmps25
  go_wp2_with (at_builtin; refine wpList_app (v := .slice none 0 0) rfl _ _ _ rfl (by kernel_rfl) Ty.bool rfl rfl (Own.nil _ (fun _ => False) _ _) HB2.out H1.out (by omega) ?_; intro v' w' ha; obtain ⟨A2, c2, rfl, _⟩ := id ha.shape; have hx := Blk.only HI2.out.blk ha.only (fun e => by cases e); have x5 : w'.cell? ⟨b, 5, none⟩ = some (.slice none 0 0) := (hx.cell 5).trans rfl; have g5 := hx.frozen 5)
  all_goals
    go_end0
    obtain ⟨h3, ho3, _⟩ := arm_mid (D := { D with left := n.toNat }) HI2.out ha
    exact RefD.of HS.out HF.out h3 ((HO2.out.mono fun k _ hk => .inl hk).trans ho3) (fun k hk => hk.imp id fun hk => ⟨Nat.le_trans HO2.out.size hk.1, by rw [World.size_setCell]; exact hk.2⟩) (fun _ hg => .inl hg) (fun _ hg => .inl hg)

/-! ## Write -/
theorem rwrite_down (h : RefIn w R b D lv cv kv xs) (hd : D.down = true) (s : Int) (v : Value) : Calls Try.prog 23 #[.pointer (some ⟨b, 0, none⟩), .int .i64 s, v] w fun e w' => e = .returned (.int .i64 50) ∧ w = w' := by
  have h3 : w.cell? ⟨b, 3, none⟩ = some (.bool false) := h.cell 3 _ (by simp [refCells, hd])
  clear h hd
  go_enter Try.func23, Try.ntmps23
  go_wp2_with fail
  go_ret
  exact ⟨rfl, rfl⟩
set_option maxHeartbeats 400000 in
theorem rwrite_bad (h : RefIn w R b D lv cv kv xs) (hd : D.down = false) (s : Int) (A : Option Addr) (n c : Nat) (hm : (D.sector s && decide (n = D.m)) = false) :
    Calls Try.prog 23 #[.pointer (some ⟨b, 0, none⟩), .int .i64 s, .slice A n c] w fun e w' => e = .returned (.int .i64 1) ∧ w = w' := by
  have h3 : w.cell? ⟨b, 3, none⟩ = some (.bool true) := h.cell 3 _ (by simp [refCells, hd])
  obtain ⟨lA, lc, rfl, _⟩ := Own.shape (F := fun _ => True) ⟨h.sec, fun _ _ => trivial⟩
  have h1 : w.cell? ⟨b, 1, none⟩ = some (.slice lA D.n lc) := h.cell 1 _ rfl
  have h0 : w.cell? ⟨b, 0, none⟩ = some (.int .i64 D.m) := h.cell 0 _ rfl
  have hn2 := h.n
  have hm2 := h.m
  simp only [DD.sector, Bool.and_eq_false_iff, decide_eq_false_iff_not] at hm
  clear h hd
  by_cases hs0 : s < 0
  · clear hm
    go_enter Try.func23, Try.ntmps23
    go_wp2_with fail
    go_ret
    exact ⟨rfl, rfl⟩
  · have e1 : decide (s < 0) = false := by simpa using hs0
    by_cases hs1 : (D.n : Int) ≤ s
    · clear hm
      go_enter Try.func23, Try.ntmps23
      go_wp2_with fail
      all_goals (go_ret; exact ⟨rfl, rfl⟩)
    · have e2 : decide ((D.n : Int) ≤ s) = false := by simpa using hs1
      have hne : n ≠ D.m := by rcases hm with hm | hm <;> omega
      have e3 : ((n : Int) != (D.m : Int)) = true := by rw [bne_iff_ne]; omega
      clear hm hne
      go_enter Try.func23, Try.ntmps23
      go_wp2_with fail
      all_goals (go_ret; exact ⟨rfl, rfl⟩)

/-- What stands behind the cache's append. -/
structure RMid (w : World) (R : Nat → Prop) (b : Nat) (D : DD) (lv cv kv : Value) (cv' : Value) (w3 : World) : Prop where
  disk : ∃ R' xs, RefIn w3 R' b D lv cv' kv xs ∧ ∀ k, R' k → R k ∨ News w w3 k
  only : Only (refW b lv cv) w w3
  own : ∀ g, cv'.ownBlock = some g → cv.ownBlock = some g ∨ News w w3 g
theorem rwrite_mid {w1 w2 : World} (h : RefIn w R b D lv cv kv xs) {s : Nat} {l : List UInt8} {A : Option Addr} {c : Nat} {cv' : Value} (hs : s < D.n) (hcap : D.cache.length + 1 < 1000000000)
    (ho : App w (fun _ => False) 5 1 (.slice none 0 0) 0 l.length [] (l.map byteV) (.slice A (0 + l.length) c) w1)
    (ha : App (w1.alloc (Obj.cells #[.int .i64 (s : Int), .slice A l.length c] 69)) (fun k => cv.ownBlock = some k) 69 2 cv D.cache.length 1 xs [.int .i64 (s : Int), .slice A l.length c] cv' w2) :
    RMid w R b (DD.put s l D) lv cv kv cv' (w2.setCell ⟨b, 2, none⟩ cv') := by
  have ho' : Only NoB w w1 := ho.only.mono fun k _ hk => by cases hk
  have hr := ho.own.rd
  rw [Nat.zero_add, List.nil_append] at hr
  have hr1 : Rd w1 (From w.heap.size) 1 (.slice A l.length c) l.length (l.map byteV) := hr.mono fun k hk _ => hk.elim False.elim fun e => by rw [e]; exact Nat.le_refl _
  have ho2 := ho'.alloc (Obj.cells #[.int .i64 (s : Int), .slice A l.length c] 69)
  have h2 := (h.only ho2 fun _ _ => id).more (News w w1) (fun k hk => ⟨by have := hk.2; simp; omega, h.far hk.1⟩)
  have h3 := h2.put hs (l := l) (v := .slice A l.length c) (Rd.keep (Rd.news hr1 fun k hk => .inr hk) fun k hk hlt => Below.heap_alloc _ _ _ hlt) hcap ha (by
    rintro (hk | hk)
    · have := h.lt _ hk; have := ho2.size; omega
    · have := hk.2; simp at this; omega)
  have hsz : (w1.alloc (Obj.cells #[.int .i64 (s : Int), .slice A l.length c] 69)).heap.size ≤ w2.heap.size := ha.only.size
  have hown : ∀ g, cv'.ownBlock = some g → cv.ownBlock = some g ∨ News w (w2.setCell ⟨b, 2, none⟩ cv') g := by
    intro g hg
    rcases ha.lies with h4 | h4
    · exact .inl (h4 ▸ hg)
    · rw [h4] at hg
      injection hg with hg
      subst hg
      refine .inr ⟨by have := ho2.size; omega, ?_⟩
      have := ha.own.lt h4
      simpa using this
  refine ⟨⟨_, _, h3, fun k hk => hk.imp id fun hk => ⟨hk.1, ?_⟩⟩, ?_, hown⟩
  · have := hk.2; simp at hsz ⊢; omega
  · exact ((ho2.mono fun _ _ hk => hk.elim).trans (ha.only.mono fun k _ hk => .inr (.inr hk))).setCell (.inl (.inl rfl)) _
theorem RMid.deed {w3 w4 : World} {D' : DD} {cv' v : Value} {e : Ending} (hs : ∀ k, F k → k < w.heap.size) (hF : ∀ k, refF R b lv cv k → F k) (hm : RMid w R b D lv cv kv cv' w3)
    {R' : Nat → Prop} (hR' : ∀ k, R' k → R k ∨ News w w3 k) (hd : RefDIn w3 R' b lv cv' kv v D' e w4) : RefD w F b v D' e w4 := by
  obtain ⟨rfl, cv4, xs4, h4, hown, ho⟩ := hd
  have hn : ∀ k, News w w3 k → News w w4 k := fun k hk => ⟨hk.1, Nat.lt_of_lt_of_le hk.2 ho.size⟩
  refine RefD.of hs hF h4 (hm.only.trans' ho fun i hi hk => ?_) (fun k hk => (hR' k hk).imp id (hn k)) (fun g hg => .inl hg) (fun g hg => (hm.own g (hown g hg)).imp id (hn g))
  rcases hk with hk | hk | hk
  · exact .inl hk
  · exact .inr (.inl hk)
  · rcases hm.own i hk with hk | hk
    · exact .inr (.inr hk)
    · have := hk.1; omega
set_option maxHeartbeats 1000000 in
theorem rwrite_put (h : RefIn w R b D lv cv kv xs) (hs : ∀ k, F k → k < w.heap.size) (hF : ∀ k, refF R b lv cv k → F k) (hd : D.down = false) (s : Nat) (K : Nat → Prop) (v : Value) (l : List UInt8) (hv : Bytes w K v l) (hsn : s < D.n) (hl : l.length = D.m)
    (hcap : D.cache.length + 1 < 1000000000) (hkl : D.keep.length < 1000000000) (hdd : D.deeds + 1 < 1000000000) :
    Calls Try.prog 23 #[.pointer (some ⟨b, 0, none⟩), .int .i64 s, v] w (RefD w F b (.int .i64 (DD.deed (DD.put s l D)).2) (DD.deed (DD.put s l D)).1) := by
  have h3 : w.cell? ⟨b, 3, none⟩ = some (.bool true) := h.cell 3 _ (by simp [refCells, hd])
  obtain ⟨lA, lc, rfl, _⟩ := Own.shape (F := fun _ => True) ⟨h.sec, fun _ _ => trivial⟩
  have h1 : w.cell? ⟨b, 1, none⟩ = some (.slice lA D.n lc) := h.cell 1 _ rfl
  have h0 : w.cell? ⟨b, 0, none⟩ = some (.int .i64 D.m) := h.cell 0 _ rfl
  have h2 : w.cell? ⟨b, 2, none⟩ = some cv := h.cell 2 _ rfl
  have hn2 := h.n
  have hm2 := h.m
  obtain ⟨A, c, rfl, _⟩ := id hv
  obtain ⟨cA, cc, rfl, _⟩ := Own.shape (F := fun _ => True) ⟨h.own, fun _ _ => trivial⟩
  have hsi : (s : Int) < (D.n : Int) := by omega
  have HL := Lib.hid hl
  have e3 : ((l.length : Int) != (D.m : Int)) = false := by rw [bne_eq_false_iff_eq]; omega
  have H := Lib.hid h
  have HS := Lib.hid hs
  have HF := Lib.hid hF
  have HV := Lib.hid hv
  have H1 := Lib.hid (oneCell_bytes l)
  have HM2 : Hid (l.length ≤ 4096) := Lib.hid (by omega)
  clear h hd hs hF hv hl
  go_enter Try.func23, Try.ntmps23
  go_wp2_with (at_builtin; first
    | (refine wpList_app (v := .slice none 0 0) rfl _ _ _ rfl (by kernel_rfl) Ty.byte rfl rfl (Own.nil _ (fun _ => False) _ _) HV.out H1.out (by have := HM2.out; omega) ?_; intro v1 w1 ha1; obtain ⟨A1, c1, rfl, _⟩ := id ha1.shape; have ho1 : Only NoB w w1 := ha1.only.mono (fun k _ hk => by cases hk); have x2 := ho1.cell h2 id)
    | (refine wpList_app (v := .slice cA D.cache.length cc) rfl _ _ _ rfl (by kernel_rfl) Ty.change rfl rfl (own_of H.out.own (ho1.alloc (.cells #[.int .i64 (s : Int), .slice A1 l.length c1] 69)) fun _ _ => id) (rd_new w1 69 2 1 [.int .i64 (s : Int), .slice A1 l.length c1] rfl) (by simp [Value.oneCell']) (by omega) ?_; intro cv' w2 ha; obtain ⟨A2, c2, rfl, _⟩ := id ha.shape; have hb2 := (H.out.blk.only (ho1.alloc (Obj.cells #[.int .i64 (s : Int), .slice A1 l.length c1] 69)) id).only ha.only H.out.cv_ne; have y2 : w2.cell? ⟨b, 2, none⟩ = some (.slice cA D.cache.length cc) := (hb2.cell 2).trans rfl; have g2 := hb2.frozen 2))
  all_goals
    have hm := rwrite_mid H.out hsn hcap ha1 ha
    obtain ⟨R', xs', h3', hR'⟩ := id hm.disk
    have HDd := Lib.hid (rdeed_in h3' hkl hdd)
    have HM := Lib.hid hm
    have HR' := Lib.hid hR'
    clear hm h3' hR' ha hb2 y2 g2 ha1 ho1 x2
    refine HDd.out.mono ?_
    rintro e w4 hd
    have hd' := HM.out.deed HS.out HF.out HR'.out hd
    obtain ⟨rfl, hd''⟩ := id hd'
    have HE := Lib.hid hd'
    clear hd hd' hd''
    go_wp2_with fail
    go_ret
    exact HE.out
theorem rwrite_any (h : RefAt w F b D) (s : Int) (K : Nat → Prop) (v : Value) (l : List UInt8) (hv : Bytes w K v l) (hcap : D.cache.length + 1 < 1000000000) (hkl : D.keep.length < 1000000000) (hdd : D.deeds + 1 < 1000000000) :
    Calls Try.prog 23 #[.pointer (some ⟨b, 0, none⟩), .int .i64 s, v] w (RefD w F b (.int .i64 (DD.write s l D).2) (DD.write s l D).1) := by
  obtain ⟨hs, R, lv, cv, kv, xs, h, hF⟩ := h
  have same : ∀ x e w', e = Ending.returned (.int .i64 x) ∧ w = w' → RefD w F b (.int .i64 x) D e w' := by
    rintro x e w' ⟨rfl, rfl⟩
    exact ⟨rfl, F, ⟨hs, R, lv, cv, kv, xs, h, hF⟩, Only.refl _ _, Grows.refl _ _⟩
  unfold DD.write
  cases hd : D.down with
  | true => exact (rwrite_down h hd s v).mono (same 50)
  | false =>
    cases hm : D.mayWrite s l with
    | false =>
      obtain ⟨A, c, rfl, _⟩ := id hv
      exact (rwrite_bad h hd s A l.length c hm).mono (same 1)
    | true =>
      have hm' := hm
      simp only [DD.mayWrite, DD.sector, Bool.and_eq_true, decide_eq_true_eq] at hm'
      obtain ⟨n, rfl⟩ := Int.eq_ofNat_of_zero_le hm'.1.1
      exact rwrite_put h hs hF hd n K v l hv (by omega) hm'.2 hcap hkl hdd
end
end Go.Proofs.Ytllodjcfcjmocaa
