import Derived.Test.YtllodjcfcjmocaaWal3
/- THE WAL: ready, told, Size, Log, Read, Open. -/
namespace Go.Proofs.Ytllodjcfcjmocaa
open Go.RowKit Go.Proofs
section
variable {w w' : World} {G K : Nat → Prop} {a b n m q : Nat} {W : WD}

theorem wready_nil (w : World) : Calls Try.prog 46 #[.pointer none] w fun e w' => e = .returned (.int .i64 3) ∧ w = w' := by
  go_enter Try.func46, Try.ntmps46
  go_wp2
  all_goals (go_ret; exact ⟨rfl, rfl⟩)
theorem wready_dead (h : WalIn w G a b W) (hd : W.dead = true) : Calls Try.prog 46 #[.pointer (some ⟨a, 0, none⟩)] w fun e w' => e = .returned (.int .i64 50) ∧ w = w' := by
  have h4 : w.cell? ⟨a, 4, none⟩ = some (.bool true) := h.cell 4 _ (by rw [← hd]; rfl)
  clear h hd
  go_enter Try.func46, Try.ntmps46
  go_wp2
  all_goals (go_ret; exact ⟨rfl, rfl⟩)
theorem wready_up (h : WalIn w G a b W) (hd : W.dead = false) : Calls Try.prog 46 #[.pointer (some ⟨a, 0, none⟩)] w fun e w' => e = .returned (.int .i64 0) ∧ w = w' := by
  have h4 : w.cell? ⟨a, 4, none⟩ = some (.bool false) := h.cell 4 _ (by rw [← hd]; rfl)
  clear h hd
  go_enter Try.func46, Try.ntmps46
  go_wp2
  all_goals (go_ret; exact ⟨rfl, rfl⟩)

/-- Is it dead behind an error? -/
def toldD (W : WD) (e : Int) : WD := { W with dead := W.dead || decide (e = 50) }
/-- A call that turns the wal's own block alone. -/
def ToldW (w : World) (G : Nat → Prop) (a b : Nat) (v : Value) (W' : WD) (e : Ending) (w' : World) : Prop := e = .returned v ∧ WalIn w' G a b W' ∧ Only (fun k => k = a) w w'
theorem WalIn.dead_ (h : WalIn w G a b W) (d : Bool) : WalIn (w.setCell ⟨a, 4, none⟩ (.bool d)) G a b { W with dead := d } := by
  have ho : Only (fun k => k = a) w (w.setCell ⟨a, 4, none⟩ (.bool d)) := (Only.refl (fun k => k = a) w).setCell (p := ⟨a, 4, none⟩) (.inl rfl) _
  exact ⟨h.disk.only ho fun k hk e => h.off (e ▸ hk), h.blk.set_ 4 (.bool d), h.off, h.log1, h.log2, h.log3⟩
theorem told_any (h : WalIn w G a b W) (e : Int) : Calls Try.prog 47 #[.pointer (some ⟨a, 0, none⟩), .int .i64 e] w (ToldW w G a b (.int .i64 e) (toldD W e)) := by
  have h4 : w.cell? ⟨a, 4, none⟩ = some (.bool W.dead) := h.cell 4 _ rfl
  have f4 := h.blk.frozen 4
  have ho : ∀ d : Bool, Only (fun k => k = a) w (w.setCell ⟨a, 4, none⟩ (.bool d)) := fun d => (Only.refl (fun k => k = a) w).setCell (p := ⟨a, 4, none⟩) (.inl rfl) _
  have HO := Lib.hid ho
  have HD := Lib.hid (fun d => h.dead_ d)
  cases hd : W.dead with
  | true =>
    have HT : Hid (toldD W e = { W with dead := true }) := Lib.hid (by unfold toldD; rw [hd]; rfl)
    rw [hd] at h4
    clear h hd ho
    go_enter Try.func47, Try.ntmps47
    go_wp2_with fail
    go_ret
    rw [HT.out]
    exact ⟨rfl, HD.out true, HO.out true⟩
  | false =>
    rw [hd] at h4
    by_cases he : e = 50
    · have HT : Hid (toldD W e = { W with dead := true }) := Lib.hid (by unfold toldD; rw [hd]; simp [he])
      subst he
      clear h hd ho
      go_enter Try.func47, Try.ntmps47
      go_wp2_with fail
      go_ret
      rw [HT.out]
      exact ⟨rfl, HD.out true, HO.out true⟩
    · have HT : Hid (toldD W e = { W with dead := false }) := Lib.hid (by unfold toldD; rw [hd]; simp [he])
      have e0 : (e == 50) = false := by simpa using he
      clear h hd ho he
      go_enter Try.func47, Try.ntmps47
      go_wp2_with fail
      go_ret
      rw [HT.out]
      exact ⟨rfl, HD.out false, HO.out false⟩

theorem wsize_nil (w : World) : Calls Try.prog 31 #[.pointer none] w fun e w' => e = .returned (.tuple #[.int .i64 0, .int .i64 0]) ∧ w = w' := by
  go_enter Try.func31, Try.ntmps31
  go_wp2
  all_goals (go_ret2; exact ⟨rfl, rfl⟩)
theorem wsize_any (h : WalIn w G a b W) : Calls Try.prog 31 #[.pointer (some ⟨a, 0, none⟩)] w fun e w' => e = .returned (.tuple #[.int .i64 ((W.D.n - 1 - W.log : Nat) : Int), .int .i64 W.D.m]) ∧ w' = w.drew := by
  have h2 : w.cell? ⟨a, 2, none⟩ = some (.int .i64 ((W.D.n - 1 - W.log : Nat) : Int)) := h.cell 2 _ rfl
  have h3 : w.cell? ⟨a, 3, none⟩ = some (.int .i64 W.D.m) := h.cell 3 _ rfl
  obtain ⟨x, hx⟩ : ∃ x, x = W.D.n - 1 - W.log := ⟨_, rfl⟩
  rw [← hx] at h2 ⊢
  clear h hx
  go_enter Try.func31, Try.ntmps31
  go_wp2
  go_region
  all_goals go_wp2
  all_goals (go_ret2; exact ⟨rfl, rfl⟩)
theorem wlog_nil (w : World) : Calls Try.prog 34 #[.pointer none] w fun e w' => e = .returned (.int .i64 0) ∧ w = w' := by
  go_enter Try.func34, Try.ntmps34
  go_wp2
  all_goals (go_ret; exact ⟨rfl, rfl⟩)
theorem wlog_any (h : WalIn w G a b W) : Calls Try.prog 34 #[.pointer (some ⟨a, 0, none⟩)] w fun e w' => e = .returned (.int .i64 W.log) ∧ w = w' := by
  have h1 : w.cell? ⟨a, 1, none⟩ = some (.int .i64 W.log) := h.cell 1 _ rfl
  clear h
  go_enter Try.func34, Try.ntmps34
  go_wp2
  all_goals (go_ret; exact ⟨rfl, rfl⟩)
theorem wcommit_nil (w : World) (A : Option Addr) (k c : Nat) : Calls Try.prog 35 #[.pointer none, .slice A k c] w fun e w' => e = .returned (.int .i64 3) ∧ w = w' := by
  go_enter Try.func35, Try.ntmps35
  go_wp2_with fail
  refine (wready_nil _).mono ?_
  rintro e w1 ⟨rfl, rfl⟩
  go_wp2_with fail
  go_ret
  exact ⟨rfl, rfl⟩

/-! ## Read -/
/-- What Read answers: bytes in new memory; the wal is W' then. -/
def WRead (w : World) (G : Nat → Prop) (a b : Nat) (l : List UInt8) (er : Int) (W' : WD) (e : Ending) (w' : World) : Prop :=
  ∃ v, e = .returned (.tuple #[v, .int .i64 er]) ∧ Bytes w' (Fresh w w') v l ∧ WalIn w' G a b W' ∧ Only (fun k => k = a) w w'
theorem wread_nil (w : World) (s : Int) : Calls Try.prog 30 #[.pointer none, .int .i64 s] w fun e w' => e = .returned (.tuple #[.slice none 0 0, .int .i64 3]) ∧ w = w' := by
  go_enter Try.func30, Try.ntmps30
  go_wp2_with fail
  refine (wready_nil _).mono ?_
  rintro e w1 ⟨rfl, rfl⟩
  go_wp2_with fail
  go_ret2
  exact ⟨rfl, rfl⟩
set_option maxHeartbeats 1000000 in
theorem wread_ok (h : WalIn w G a b W) (hd : W.dead = false) (s : Nat) (hs : s < W.D.n - 1 - W.log) (hn : W.D.n ≤ 65536) :
    Calls Try.prog 30 #[.pointer (some ⟨a, 0, none⟩), .int .i64 s] w (WRead w G a b (DD.read ((1 + W.log + s : Nat) : Int) W.D).1 (DD.read ((1 + W.log + s : Nat) : Int) W.D).2 (toldD W (DD.read ((1 + W.log + s : Nat) : Int) W.D).2)) := by
  have HR := Lib.hid (wready_up h hd)
  have c0 : w.cell? ⟨a, 0, none⟩ = some (.pointer (some ⟨b, 0, none⟩)) := h.cell 0 _ rfl
  have c1 : w.cell? ⟨a, 1, none⟩ = some (.int .i64 W.log) := h.cell 1 _ rfl
  have c2 : w.cell? ⟨a, 2, none⟩ = some (.int .i64 ((W.D.n - 1 - W.log : Nat) : Int)) := h.cell 2 _ rfl
  obtain ⟨x, hx⟩ : ∃ x, x = W.D.n - 1 - W.log := ⟨_, rfl⟩
  rw [← hx] at c2 hs
  have e1 : decide ((s : Int) < 0) = false := by simp
  have e2 : decide ((s : Int) ≥ (x : Int)) = false := by simp; omega
  have hlog : W.log ≤ 65536 := by have := h.log3; omega
  have hxl : x ≤ 65536 := by omega
  obtain ⟨L6, hL6⟩ : ∃ L6, L6 = (DD.read ((1 + W.log + s : Nat) : Int) W.D).1 := ⟨_, rfl⟩
  obtain ⟨z6, hz6⟩ : ∃ z6, z6 = (DD.read ((1 + W.log + s : Nat) : Int) W.D).2 := ⟨_, rfl⟩
  have KP : Hid (∀ w', Only NoB w w' → w'.cell? ⟨a, 0, none⟩ = some (.pointer (some ⟨b, 0, none⟩)) ∧ w'.cell? ⟨a, 1, none⟩ = some (.int .i64 W.log)) := Lib.hid fun w' ho => ⟨ho.cell c0 id, ho.cell c1 id⟩
  have RD : Hid (∀ w', Only NoB w w' → Calls Try.prog 15 #[.pointer (some ⟨b, 0, none⟩), .int .i64 ((1 : Int) + (W.log : Int) + (s : Int))] w' (ReadOut2 w' L6 z6)) := Lib.hid fun w' ho => by
    have := (h.quit ho).read ((1 + W.log + s : Nat) : Int)
    rw [← hL6, ← hz6] at this
    rw [show (1 : Int) + (W.log : Int) + (s : Int) = ((1 + W.log + s : Nat) : Int) by omega]
    exact this
  have hwrap : IntKind.i64.wrap (IntKind.i64.wrap ((1 : Int) + (W.log : Int)) + (s : Int)) = (1 : Int) + (W.log : Int) + (s : Int) := by
    simp only [IntKind.wrap, IntKind.signed, IntKind.bits]
    simp
    omega
  have WRP := Lib.hid hwrap
  rw [← hL6, ← hz6]
  have H := Lib.hid h
  clear h hd hx hL6 hz6 hwrap
  go_enter Try.func30, Try.ntmps30
  go_wp2_with fail
  refine HR.out.mono ?_
  rintro e w1 ⟨rfl, rfl⟩
  go_wp2_with fail
  clear c0 c1 c2
  have k1 := KP.out _ (Only.refl _ _)
  go_region_held (fun w' => w'.cell? ⟨a, 0, none⟩ = some (.pointer (some ⟨b, 0, none⟩)) ∧ w'.cell? ⟨a, 1, none⟩ = some (.int .i64 W.log))
    (first | exact KP.out _ (Only.drew (Only.refl _ _)) | exact KP.out _ h14)
    (first | (go_at_call 15; rw [WRP.out]; refine (RD.out _ (Only.drew (Only.refl _ _))).mono ?_; rintro e w5 ⟨v5, rfl, hb5, ho5⟩; have h14 := (Only.drew (Only.refl NoB w)).trans ho5) | fail)
  all_goals
    obtain ⟨A5, c5, rfl, _⟩ := id hb5
    have HB := Lib.hid hb5
    have HO := Lib.hid h14
    have HT := Lib.hid (told_any (H.out.quit h14) z6)
    clear hb5 ho5 h14 k1
    go_wp2_with fail
    refine HT.out.mono ?_
    rintro e w6 ⟨rfl, h6, ho6⟩
    have H6 := Lib.hid h6
    have HO6 := Lib.hid ho6
    clear h6 ho6
    go_wp2_with fail
    go_ret2
    have hne : ∀ k, Fresh w w5 k → k ≠ a := fun k hk e => by have := H.out.blk.lt; have := hk.1; omega
    refine ⟨_, rfl, ?_, H6.out, (HO.out.mono fun _ _ h => h.elim).trans HO6.out⟩
    exact (Rd.mono (Rd.only HB.out HO6.out fun k hk e => by have := H.out.blk.lt; have h2 := hk.1; simp at h2; omega) fun k hk hlt => ⟨hk.1, hk.2.keep (HO6.out.block k (Array.getElem?_eq_some_iff.1 hk.2.choose_spec.choose_spec).1 fun e => by have := H.out.blk.lt; have h2 := hk.1; simp at h2; omega)⟩)
end
end Go.Proofs.Ytllodjcfcjmocaa
