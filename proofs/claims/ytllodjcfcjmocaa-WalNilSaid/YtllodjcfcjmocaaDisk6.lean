import Derived.Test.YtllodjcfcjmocaaRead
/- THE DISK: New; Read and Write of any argument. -/
namespace Go.Proofs.Ytllodjcfcjmocaa
open Go.RowKit Go.Proofs
section
variable {R F : Nat → Prop} {b bm : Nat} {D : DD} {cv kv : Value} {xs : List Value} {f : Int → Option Value} {w w' : World}

theorem read_any2 (h : DiskAt w F b D) (s : Int) : Calls Try.prog 15 #[.pointer (some ⟨b, 0, none⟩), .int .i64 s] w (ReadOut2 w (DD.read s D).1 (DD.read s D).2) := by
  obtain ⟨_, R, bm, cv, kv, xs, f, h, _⟩ := h
  unfold DD.read
  cases hd : D.down with
  | true => exact read_down h hd s
  | false =>
    cases hs : D.sector s with
    | false => exact read_bad h hd s hs
    | true =>
      have hs' := hs
      simp only [DD.sector, decide_eq_true_eq] at hs'
      obtain ⟨n, rfl⟩ := Int.eq_ofNat_of_zero_le hs'.1
      exact read_ok h hd n (by omega)

theorem read_any (h : DiskAt w F b D) (s : Int) : Calls Try.prog 15 #[.pointer (some ⟨b, 0, none⟩), .int .i64 s] w (ReadOut w (DD.read s D).1 (DD.read s D).2) := (read_any2 h s).mono fun _ _ h => h.out
set_option maxHeartbeats 400000 in
theorem read_nil (w : World) (s : Int) : Calls Try.prog 15 #[.pointer none, .int .i64 s] w (ReadOut w [] 3) := by
  go_enter Try.func15, Try.ntmps15
  go_wp2_with fail
  refine (ready_nil _).mono ?_
  rintro e w1 ⟨rfl, rfl⟩
  go_wp2_with fail
  refine bodyPost_ret (v := .tuple #[.slice none 0 0, .int .i64 3]) (by simp [results, Try.f15, go_sem]) rfl ⟨_, rfl, Rd.nil _ _ _, ?_⟩
  exact ((((Only.refl NoB w).alloc _).alloc _).alloc _)

theorem write_any (h : DiskAt w F b D) (s : Int) (K : Nat → Prop) (v : Value) (l : List UInt8) (hv : Bytes w K v l) (hcap : D.cache.length + 1 < 1000000000) (hkl : D.keep.length < 1000000000) (hdd : D.deeds + 1 < 1000000000) :
    Calls Try.prog 10 #[.pointer (some ⟨b, 0, none⟩), .int .i64 s, v] w (Deed w F b (.int .i64 (DD.write s l D).2) (DD.write s l D).1) := by
  obtain ⟨hs, R, bm, cv, kv, xs, f, h, hF⟩ := h
  have same : ∀ e w', e = Ending.returned (.int .i64 50) ∧ w = w' → Deed w F b (.int .i64 50) D e w' := by
    rintro e w' ⟨rfl, rfl⟩
    exact ⟨rfl, F, ⟨hs, R, bm, cv, kv, xs, f, h, hF⟩, Only.refl _ _, Grows.refl _ _⟩
  have same1 : ∀ e w', e = Ending.returned (.int .i64 1) ∧ w = w' → Deed w F b (.int .i64 1) D e w' := by
    rintro e w' ⟨rfl, rfl⟩
    exact ⟨rfl, F, ⟨hs, R, bm, cv, kv, xs, f, h, hF⟩, Only.refl _ _, Grows.refl _ _⟩
  unfold DD.write
  cases hd : D.down with
  | true => exact (write_down h hd s v).mono same
  | false =>
    cases hm : D.mayWrite s l with
    | false =>
      obtain ⟨A, c, rfl, _⟩ := id hv
      exact (write_bad h hd s A l.length c hm).mono same1
    | true =>
      have hm' := hm
      simp only [DD.mayWrite, DD.sector, Bool.and_eq_true, decide_eq_true_eq] at hm'
      obtain ⟨n, rfl⟩ := Int.eq_ofNat_of_zero_le hm'.1.1
      exact write_put h hs hF hd n K v l hv (by omega) hm'.2 hcap hkl hdd

/-- What New answers: a new disk. -/
def Made (w : World) (n m : Nat) (e : Ending) (w' : World) : Prop :=
  ∃ b F, e = .returned (.tuple #[.pointer (some ⟨b, 0, none⟩), .int .i64 0]) ∧ DiskAt w' F b (DD.new n m) ∧ Only NoB w w' ∧ ∀ k, F k → w.heap.size ≤ k

set_option maxHeartbeats 400000 in
theorem new_ok (n m : Nat) (h1 : 1 ≤ n) (h2 : n ≤ 65536) (h3 : 16 ≤ m) (h4 : m ≤ 4096) (w : World) : Calls Try.prog 9 #[.int .i64 n, .int .i64 m] w (Made w n m) := by
  have e1 : decide ((n : Int) < 1) = false := by simp; omega
  have e2 : decide ((n : Int) > 65536) = false := by simp; omega
  have e3 : decide ((m : Int) < 16) = false := by simp; omega
  have e4 : decide ((m : Int) > 4096) = false := by simp; omega
  have hmm := fun w => @run_makeMap Try.prog w
  go_enter Try.func9, Try.ntmps9
  go_wp2_with fail
  go_ret2
  have hb : Blk ((w.alloc (.map #[] 0)).alloc (.cells (diskCells (DD.new n m) w.heap.size (.slice none 0 0) (.slice none 0 0)) 66)) (w.heap.size + 1) 66 (diskCells (DD.new n m) w.heap.size (.slice none 0 0) (.slice none 0 0)) := by
    have := Blk.new (w.alloc (.map #[] 0)) 66 (diskCells (DD.new n m) w.heap.size (.slice none 0 0) (.slice none 0 0))
    rw [World.size_alloc] at this
    exact this
  refine ⟨w.heap.size + 1, fun k => k = w.heap.size ∨ k = w.heap.size + 1, rfl, ⟨?_, fun _ => False, w.heap.size, .slice none 0 0, .slice none 0 0, [], fun _ => none, ⟨DD.Wf.new h1 h2 h3 h4, id, id, fun _ _ => id, fun _ hk => hk.elim, hb, World.ownsRow_nil _ _ _ _, trivial, ?_, fun i _ => rfl, Rd.nil _ _ _, by simp [DD.new], by simp [DD.new], by simp [DD.new]⟩, ?_⟩, ((Only.refl NoB w).alloc _).alloc _, ?_⟩
  · rintro k (rfl | rfl) <;> simp; omega
  · exact (IMap.made w).keep (Below.heap_alloc _ _ _ (by simp))
  · rintro k (hk | rfl | rfl | hk)
    · exact hk.elim
    · exact .inr rfl
    · exact .inl rfl
    · cases hk
  · rintro k (rfl | rfl) <;> omega

set_option maxHeartbeats 400000 in
theorem new_bad (n m : Int) (h : ¬ (1 ≤ n ∧ n ≤ 65536 ∧ 16 ≤ m ∧ m ≤ 4096)) (w : World) : Calls Try.prog 9 #[.int .i64 n, .int .i64 m] w fun e w' => e = .returned (.tuple #[.pointer none, .int .i64 1]) ∧ w = w' := by
  by_cases e1 : n < 1
  · clear h
    go_enter Try.func9, Try.ntmps9
    go_wp2_with fail
    go_ret2
    exact ⟨rfl, rfl⟩
  · by_cases e2 : n > 65536
    · have e1' : decide (n < 1) = false := by simpa using e1
      clear h e1
      go_enter Try.func9, Try.ntmps9
      go_wp2_with fail
      go_ret2
      exact ⟨rfl, rfl⟩
    · by_cases e3 : m < 16
      · have e1' : decide (n < 1) = false := by simpa using e1
        have e2' : decide (n > 65536) = false := by simpa using e2
        clear h e1 e2
        go_enter Try.func9, Try.ntmps9
        go_wp2_with fail
        go_ret2
        exact ⟨rfl, rfl⟩
      · have e1' : decide (n < 1) = false := by simpa using e1
        have e2' : decide (n > 65536) = false := by simpa using e2
        have e3' : decide (m < 16) = false := by simpa using e3
        have e4 : m > 4096 := by omega
        clear h e1 e2 e3
        go_enter Try.func9, Try.ntmps9
        go_wp2_with fail
        go_ret2
        exact ⟨rfl, rfl⟩
end
end Go.Proofs.Ytllodjcfcjmocaa
