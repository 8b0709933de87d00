import Derived.Test.YtllodjcfcjmocaaSettle
/- THE DISK'S CALLS that only look, and Crash, deed, Flush. -/
namespace Go.Proofs.Ytllodjcfcjmocaa
open Go.RowKit Go.Proofs

/-- A call of the disk at b: it answers v, and the disk is D' then. -/
def Deed (w : World) (F : Nat → Prop) (b : Nat) (v : Value) (D' : DD) (e : Ending) (w' : World) : Prop :=
  e = .returned v ∧ ∃ F', DiskAt w' F' b D' ∧ Only F w w' ∧ Grows F F' w

/-- The same of the disk's parts. -/
def DeedIn (w : World) (R : Nat → Prop) (b bm : Nat) (own : Option Nat) (kv : Value) (v : Value) (D' : DD) (e : Ending) (w' : World) : Prop :=
  e = .returned v ∧ ∃ cv xs f, DiskIn w' R b D' bm cv kv xs f ∧ cv.ownBlock = own ∧ Only (diskW b bm own) w w'

/-- A call that answers v and makes new blocks at the most. -/
def Quit (w : World) (v : Value) (e : Ending) (w' : World) : Prop := e = .returned v ∧ Only NoB w w'

theorem diskW_F {R : Nat → Prop} {b bm : Nat} {cv : Value} {k : Nat} (h : diskW b bm cv.ownBlock k) : diskF R b bm cv k := by
  rcases h with h | h | h
  · exact .inr (.inl h)
  · exact .inr (.inr (.inl h))
  · exact .inr (.inr (.inr h))

theorem DeedIn.out {w w' : World} {F R : Nat → Prop} {b bm : Nat} {D' : DD} {cv kv v : Value} {e : Ending} (h : DeedIn w R b bm cv.ownBlock kv v D' e w') (hF : ∀ k, diskF R b bm cv k → F k) (hs : ∀ k, F k → k < w.heap.size) : Deed w F b v D' e w' := by
  obtain ⟨he, cv', xs, f, hd, hown, ho⟩ := h
  refine ⟨he, F, ⟨fun k hk => Nat.lt_of_lt_of_le (hs k hk) ho.size, R, bm, cv', kv, xs, f, hd, ?_⟩, ho.mono fun k _ hk => hF k (diskW_F hk), Grows.refl _ _⟩
  intro k hk
  apply hF
  rcases hk with h | h | h | h
  · exact .inl h
  · exact .inr (.inl h)
  · exact .inr (.inr (.inl h))
  · exact .inr (.inr (.inr (hown ▸ h)))

section
variable {R F : Nat → Prop} {b bm : Nat} {D : DD} {cv kv : Value} {xs : List Value} {f : Int → Option Value} {w : World}

theorem ready_nil (w : World) : Calls Try.prog 36 #[.pointer none] w fun e w' => e = .returned (.int .i64 3) ∧ w = w' := by
  go_enter Try.func36, Try.ntmps36
  go_wp2
  all_goals (go_ret; exact ⟨rfl, rfl⟩)

theorem ready_down (h : DiskIn w R b D bm cv kv xs f) (hd : D.down = true) : Calls Try.prog 36 #[.pointer (some ⟨b, 0, none⟩)] w fun e w' => e = .returned (.int .i64 50) ∧ w = w' := by
  have h4 : w.cell? ⟨b, 4, none⟩ = some (.bool true) := h.cell 4 _ (by rw [← hd]; rfl)
  clear h hd
  go_enter Try.func36, Try.ntmps36
  go_wp2
  all_goals (go_ret; exact ⟨rfl, rfl⟩)

theorem ready_up (h : DiskIn w R b D bm cv kv xs f) (hd : D.down = false) : Calls Try.prog 36 #[.pointer (some ⟨b, 0, none⟩)] w fun e w' => e = .returned (.int .i64 0) ∧ w = w' := by
  have h4 : w.cell? ⟨b, 4, none⟩ = some (.bool false) := h.cell 4 _ (by rw [← hd]; rfl)
  clear h hd
  go_enter Try.func36, Try.ntmps36
  go_wp2
  all_goals (go_ret; exact ⟨rfl, rfl⟩)

theorem up_any (h : DiskAt w F b D) : Calls Try.prog 18 #[.pointer (some ⟨b, 0, none⟩)] w fun e w' => e = .returned (.bool (!D.down)) ∧ w = w' := by
  obtain ⟨_, R, bm, cv, kv, xs, f, h, _⟩ := h
  have h4 : w.cell? ⟨b, 4, none⟩ = some (.bool D.down) := h.cell 4 _ rfl
  clear h
  go_enter Try.func18, Try.ntmps18
  go_wp2
  all_goals (go_ret; exact ⟨rfl, rfl⟩)
theorem up_nil (w : World) : Calls Try.prog 18 #[.pointer none] w fun e w' => e = .returned (.bool false) ∧ w = w' := by
  go_enter Try.func18, Try.ntmps18
  go_wp2
  all_goals (go_ret; exact ⟨rfl, rfl⟩)

theorem deeds_any (h : DiskAt w F b D) : Calls Try.prog 19 #[.pointer (some ⟨b, 0, none⟩)] w fun e w' => e = .returned (.int .i64 D.deeds) ∧ w = w' := by
  obtain ⟨_, R, bm, cv, kv, xs, f, h, _⟩ := h
  have h7 : w.cell? ⟨b, 7, none⟩ = some (.int .i64 D.deeds) := h.cell 7 _ rfl
  clear h
  go_enter Try.func19, Try.ntmps19
  go_wp2
  all_goals (go_ret; exact ⟨rfl, rfl⟩)
theorem deeds_nil (w : World) : Calls Try.prog 19 #[.pointer none] w fun e w' => e = .returned (.int .i64 0) ∧ w = w' := by
  go_enter Try.func19, Try.ntmps19
  go_wp2
  all_goals (go_ret; exact ⟨rfl, rfl⟩)

theorem size_any (h : DiskAt w F b D) : Calls Try.prog 29 #[.pointer (some ⟨b, 0, none⟩)] w fun e w' => e = .returned (.tuple #[.int .i64 D.n, .int .i64 D.m]) ∧ w' = w.drew := by
  obtain ⟨_, R, bm, cv, kv, xs, f, h, _⟩ := h
  have h0 : w.cell? ⟨b, 0, none⟩ = some (.int .i64 D.n) := h.cell 0 _ rfl
  have h1 : w.cell? ⟨b, 1, none⟩ = some (.int .i64 D.m) := h.cell 1 _ rfl
  clear h
  go_enter Try.func29, Try.ntmps29
  go_wp2
  go_region
  all_goals go_wp2
  all_goals (go_ret2; exact ⟨rfl, rfl⟩)
theorem size_nil (w : World) : Calls Try.prog 29 #[.pointer none] w fun e w' => e = .returned (.tuple #[.int .i64 0, .int .i64 0]) ∧ w = w' := by
  go_enter Try.func29, Try.ntmps29
  go_wp2
  all_goals (go_ret2; exact ⟨rfl, rfl⟩)

theorem on_nil (w : World) : Calls Try.prog 14 #[.pointer none] w fun e w' => e = .returned (.tuple #[]) ∧ w = w' := by
  go_enter Try.func14, Try.ntmps14
  go_wp2
  all_goals (go_end0; exact ⟨rfl, rfl⟩)
theorem on_in (h : DiskIn w R b D bm cv kv xs f) : Calls Try.prog 14 #[.pointer (some ⟨b, 0, none⟩)] w (DeedIn w R b bm cv.ownBlock kv (.tuple #[]) (DD.on D)) := by
  have h4 : w.cell? ⟨b, 4, none⟩ = some (.bool D.down) := h.cell 4 _ rfl
  have h5 : w.cell? ⟨b, 5, none⟩ = some (.int .i64 D.left) := h.cell 5 _ rfl
  have f4 := h.frozen 4
  have f5 := h.frozen 5
  have H := Lib.hid h
  clear h
  go_enter Try.func14, Try.ntmps14
  go_wp2
  go_end0
  have h := H.out
  have h1 := h.turn 4 (.bool false) { D with down := false } rfl rfl rfl rfl rfl rfl h.left h.deeds
  have h2 := h1.turn 5 (.int .i64 0) (DD.on D) rfl rfl rfl rfl rfl rfl (by simp [DD.on]) h.deeds
  exact ⟨rfl, cv, xs, f, h2, rfl, ((Only.refl _ _).setCell (.inl (.inl rfl)) _).setCell (.inl (.inl rfl)) _⟩
theorem on_any (h : DiskAt w F b D) : Calls Try.prog 14 #[.pointer (some ⟨b, 0, none⟩)] w (Deed w F b (.tuple #[]) (DD.on D)) := by
  obtain ⟨hs, R, bm, cv, kv, xs, f, h, hF⟩ := h
  exact (on_in h).mono fun e w' hd => hd.out hF hs

/-! ## Crash -/
theorem flush1_any (w : World) (i : Int) : Calls Try.prog 40 #[.int .i64 i] w fun e w' => e = .returned (.bool true) ∧ w = w' := by
  go_enter Try.func40, Try.ntmps40
  go_wp2
  go_ret
  exact ⟨rfl, rfl⟩

theorem crash1_any (w : World) (i : Nat) (bx : Nat) (A : Option Addr) (c : Nat) (K : Nat → Prop) (l : List Bool) (hb : w.cell? ⟨bx, 0, none⟩ = some (.slice A l.length c)) (hl : Bools w K (.slice A l.length c) l) (hi : i < 1000000000) (hll : l.length < 1000000000) :
    Calls Try.prog 41 #[.int .i64 i, .pointer (some ⟨bx, 0, none⟩)] w fun e w' => e = .returned (.bool (DD.kept l i)) ∧ w = w' := by
  by_cases hlt : i < l.length
  · obtain ⟨A', c', he, hc, hn, hcell⟩ := hl
    injection he with h1 h2 h3
    subst h1; subst h3
    obtain ⟨ad, rfl, _, hx⟩ := hcell (by omega)
    have hci := hx i (.bool l[i]) (by rw [List.getElem?_map, List.getElem?_eq_getElem hlt]; rfl)
    have hk : DD.kept l i = l[i] := by simp [DD.kept, List.getD_eq_getElem?_getD, List.getElem?_eq_getElem hlt]
    rw [hk]
    clear hk hx hcell
    go_enter Try.func41, Try.ntmps41
    go_wp2
    all_goals (go_ret; exact ⟨rfl, rfl⟩)
  · have hk : DD.kept l i = false := by simp [DD.kept, List.getD_eq_getElem?_getD, List.getElem?_eq_none (show l.length ≤ i by omega)]
    rw [hk]
    clear hk hl
    have hd : decide (i < l.length) = false := by simpa using hlt
    go_enter Try.func41, Try.ntmps41
    go_wp2
    all_goals (go_ret; exact ⟨rfl, rfl⟩)
end
end Go.Proofs.Ytllodjcfcjmocaa
