import Derived.Test.YtllodjcfcjmocaaDisk2
/- slices.Clone; THE DISK'S Arm, Write. -/
namespace Go.Proofs.Ytllodjcfcjmocaa
open Go.RowKit Go.Proofs

/-- Is a slice nil? -/
def isNilS : Value → Bool
  | .slice none _ _ => true
  | _ => false

/-- A clone: new memory that reads as the old does; nil of nil. -/
def Cloned (w : World) (size n : Nat) (xs : List Value) (v : Value) (e : Ending) (w' : World) : Prop :=
  ∃ v', e = .returned v' ∧ Rd w' (From w.heap.size) size v' n xs ∧ Only NoB w w' ∧ isNilS v' = isNilS v ∧ (∀ g, v'.ownBlock = some g → w.heap.size ≤ g)

/-- A block of cells of which none is frozen. -/
def Soft (w : World) (k : Nat) : Prop := ∃ cs t, w.heap[k]? = some (.cells cs t (0, 0))
/-- New blocks, none of them frozen. -/
def Fresh (w w' : World) : Nat → Prop := fun k => w.heap.size ≤ k ∧ Soft w' k
theorem Own.soft {w : World} {F : Nat → Prop} {e size : Nat} {v : Value} {n : Nat} {xs : List Value} (h : Own w F e size v n xs) : Rd w (fun k => F k ∧ Soft w k) size v n xs :=
  Rd.own h.1 fun g hg => ⟨h.2 g hg, by
    rcases h.1.2 with ⟨rfl, _⟩ | ⟨g', cap, cur, rfl, _, hh, _⟩
    · cases hg
    · injection hg with hg
      subst hg
      exact ⟨cur, _, hh⟩⟩
/-- The same, and the new memory isn't frozen. -/
def Cloned2 (w : World) (size n : Nat) (xs : List Value) (v : Value) (e : Ending) (w' : World) : Prop :=
  ∃ v', e = .returned v' ∧ Rd w' (Fresh w w') size v' n xs ∧ Only NoB w w' ∧ isNilS v' = isNilS v ∧ (∀ g, v'.ownBlock = some g → w.heap.size ≤ g)
theorem Cloned2.cloned {w : World} {size n : Nat} {xs : List Value} {v : Value} {e : Ending} {w' : World} (h : Cloned2 w size n xs v e w') : Cloned w size n xs v e w' := by
  obtain ⟨v', he, hr, h⟩ := h
  exact ⟨v', he, hr.mono fun k hk _ => hk.1, h⟩

/-- A new empty slice is its own. -/
theorem own_empty (w : World) (e size : Nat) : Own (w.alloc (.cells #[] e)) (From w.heap.size) e size (.slice (some ⟨w.heap.size, 0, none⟩) 0 0) 0 [] :=
  ⟨World.ownsRow_made w #[] 0 (Nat.zero_le _) (by simp [maxLen]) (by simp), fun g hg => by injection hg with hg; subst hg; exact Nat.le_refl _⟩

section
variable {R F : Nat → Prop} {b bm : Nat} {D : DD} {cv kv : Value} {xs : List Value} {f : Int → Option Value} {w : World}

theorem App.cloned {e size n : Nat} {A : Addr} {c : Nat} {news : List Value} {v' : Value} {w' : World}
    (h : App (w.alloc (.cells #[] e)) (From w.heap.size) e size (.slice (some ⟨w.heap.size, 0, none⟩) 0 0) 0 n [] news v' w') : Cloned2 w size n news (.slice (some A) n c) (.returned v') w' := by
  have hon : ∀ g, v'.ownBlock = some g → w.heap.size ≤ g := by
    intro g hg
    rcases h.lies with h1 | h1
    · rw [h1] at hg; injection hg with hg; subst hg; exact Nat.le_refl _
    · rw [h1] at hg; injection hg with hg; subst hg; simp
  refine ⟨v', rfl, ?_, ?_, ?_, hon⟩
  · have := h.own.soft
    simp only [Nat.zero_add, List.nil_append] at this
    refine this.mono fun k hk _ => ⟨?_, hk.2⟩
    rcases hk.1 with hk | rfl
    · exact hk
    · simp
  · refine ((Only.refl NoB w).alloc (.cells #[] e)).trans' h.only fun i hi he => ?_
    injection he with he
    simp at he
    omega
  · obtain ⟨A', c', rfl, _⟩ := h.shape
    cases A' with
    | none =>
      exfalso
      rcases h.lies with h1 | h1 <;> simp [Value.ownBlock] at h1
    | some _ => rfl

set_option maxHeartbeats 400000 in
theorem clone_byte2 (K : Nat → Prop) (v : Value) (n : Nat) (xs : List Value) (hv : Rd w K 1 v n xs) (h1 : ∀ u ∈ xs, u.oneCell' = true) (hl : n ≤ 1000000000) :
    Calls Try.prog 37 #[v] w (Cloned2 w 1 n xs v) := by
  obtain ⟨A, c, rfl, hc, hn, hcell⟩ := id hv
  have hnil := fun (w : World) => Lib.run_eql_slice_nil (P := Try.prog) w 28 5 A n c 0 0 (by kernel_rfl)
  have H1 := Lib.hid h1
  have HV := Lib.hid (Rd.keep (w' := w.alloc (.cells #[] 5)) hv fun k _ hlt => Below.heap_alloc _ _ _ hlt)
  cases A with
  | none =>
    have h0 : n = 0 := by
      rcases Nat.eq_zero_or_pos n with h | h
      · exact h
      · obtain ⟨ad, h, _⟩ := hcell (by omega); cases h
    subst h0
    obtain rfl : xs = [] := List.eq_nil_of_length_eq_zero (by simpa using hn)
    clear hcell hv HV H1 h1
    simp only [Option.isNone_none] at hnil
    go_enter Try.func37, Try.ntmps37
    go_wp2_with fail
    go_ret
    exact ⟨_, rfl, Rd.nil _ _ _, Only.refl _ _, rfl, fun g hg => by cases hg⟩
  | some ad =>
    clear hcell hv h1
    simp only [Option.isNone_some] at hnil
    go_enter Try.func37, Try.ntmps37
    go_wp2_with (at_builtin; refine wpList_app rfl _ _ _ rfl (by kernel_rfl) Ty.byte rfl rfl (own_empty _ _ _) HV.out H1.out (by omega) ?_; intro v' w' ha; have HA := Lib.hid ha; clear ha)
    go_ret
    exact HA.out.cloned

set_option maxHeartbeats 400000 in
theorem clone_bool2 (K : Nat → Prop) (v : Value) (n : Nat) (xs : List Value) (hv : Rd w K 1 v n xs) (h1 : ∀ u ∈ xs, u.oneCell' = true) (hl : n ≤ 1000000000) :
    Calls Try.prog 43 #[v] w (Cloned2 w 1 n xs v) := by
  obtain ⟨A, c, rfl, hc, hn, hcell⟩ := id hv
  have hnil := fun (w : World) => Lib.run_eql_slice_nil (P := Try.prog) w 23 4 A n c 0 0 (by kernel_rfl)
  have H1 := Lib.hid h1
  have HV := Lib.hid (Rd.keep (w' := w.alloc (.cells #[] 4)) hv fun k _ hlt => Below.heap_alloc _ _ _ hlt)
  cases A with
  | none =>
    have h0 : n = 0 := by
      rcases Nat.eq_zero_or_pos n with h | h
      · exact h
      · obtain ⟨ad, h, _⟩ := hcell (by omega); cases h
    subst h0
    obtain rfl : xs = [] := List.eq_nil_of_length_eq_zero (by simpa using hn)
    clear hcell hv HV H1 h1
    simp only [Option.isNone_none] at hnil
    go_enter Try.func43, Try.ntmps43
    go_wp2_with fail
    go_ret
    exact ⟨_, rfl, Rd.nil _ _ _, Only.refl _ _, rfl, fun g hg => by cases hg⟩
  | some ad =>
    clear hcell hv h1
    simp only [Option.isNone_some] at hnil
    go_enter Try.func43, Try.ntmps43
    go_wp2_with (at_builtin; refine wpList_app rfl _ _ _ rfl (by kernel_rfl) Ty.bool rfl rfl (own_empty _ _ _) HV.out H1.out (by omega) ?_; intro v' w' ha; have HA := Lib.hid ha; clear ha)
    go_ret
    exact HA.out.cloned
theorem clone_byte (K : Nat → Prop) (v : Value) (n : Nat) (xs : List Value) (hv : Rd w K 1 v n xs) (h1 : ∀ u ∈ xs, u.oneCell' = true) (hl : n ≤ 1000000000) :
    Calls Try.prog 37 #[v] w (Cloned w 1 n xs v) := (clone_byte2 K v n xs hv h1 hl).mono fun _ _ h => h.cloned
theorem clone_bool (K : Nat → Prop) (v : Value) (n : Nat) (xs : List Value) (hv : Rd w K 1 v n xs) (h1 : ∀ u ∈ xs, u.oneCell' = true) (hl : n ≤ 1000000000) :
    Calls Try.prog 43 #[v] w (Cloned w 1 n xs v) := (clone_bool2 K v n xs hv h1 hl).mono fun _ _ h => h.cloned
end
end Go.Proofs.Ytllodjcfcjmocaa
