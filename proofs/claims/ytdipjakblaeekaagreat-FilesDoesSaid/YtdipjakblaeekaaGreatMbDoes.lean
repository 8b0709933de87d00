import Derived.Test.YtdipjakblaeekaaGreatMb7
set_option linter.unusedVariables false
set_option linter.unusedSimpArgs false
namespace Go.Proofs.YtdipjakblaeekaaGreat
open Go.RowKit Go.Proofs Go.Shelf
set_option maxRecDepth 20000
attribute [local go_sem] Oper.semAt_some
section
variable {w w' : World} {F G : Nat → Prop} {X : XC} {t m c n s : Nat} {D : Nat → Str}
def wrD (n : Int) (d : Str) (D : Nat → Str) : Nat → Str := if numOk n then setF D n.toNat d else D
def drD (n : Int) (D : Nat → Str) : Nat → Str := if numOk n then setF D n.toNat [] else D
theorem FlAt.mono (h : FlAt w F X t m D c) {c' : Nat} (hc : c ≤ c') : FlAt w F X t m D c' := by obtain ⟨M, hk, r⟩ := h; exact ⟨M, hk.mono hc, r⟩
theorem FlAt.lt (h : FlAt w F X t m D c) : ∀ k, F k → k < w.heap.size := by obtain ⟨M, hk, r⟩ := h; exact hk.lt
theorem FlAt.only {S : Nat → Prop} (h : FlAt w F X t m D c) (ho : Only S w w') (hd : ∀ k, F k → ¬ S k) : FlAt w' F X t m D c := by obtain ⟨M, hk, r⟩ := h; exact ⟨M, hk.only ho hd, r⟩
theorem FlAt.out {v : Value} (h : FlAt w F X t m D c) (ho : Only NoB w w') : FlOut w F X t m v D c (.returned v) w' := ⟨rfl, F, h.quit ho, ho.mono fun _ _ h => h.elim, Grows.refl F w⟩
theorem fwrite_bad {n : Int} (d : Str) (hn : ¬ numOk n) :
    Calls Tryz.prog 16 #[.pointer (some ⟨t, 0, none⟩), .int .i64 n, .string ⟨d.toArray⟩] w fun e w' => e = .returned (.int .i64 1) ∧ Only NoB w w' := by
  have HR := Lib.hid (ready_bad (w := w) (t := t) hn)
  clear hn
  go_enter Tryz.func16, Tryz.ntmps16
  go_wp2_with fail
  refine HR.out.mono ?_
  rintro e w1 ⟨rfl, ho⟩
  have HO := Lib.hid ho
  clear ho
  go_wp2_with fail
  go_ret
  exact ⟨rfl, HO.out⟩
theorem fread_bad {n : Int} (s : Int) (hn : ¬ numOk n) :
    Calls Tryz.prog 18 #[.pointer (some ⟨t, 0, none⟩), .int .i64 n, .int .i64 s] w fun e w' => e = .returned (.tuple #[.string ⟨#[]⟩, .int .i64 1]) ∧ Only NoB w w' := by
  have HR := Lib.hid (ready_bad (w := w) (t := t) hn)
  clear hn
  go_enter Tryz.func18, Tryz.ntmps18
  go_wp2_with fail
  refine HR.out.mono ?_
  rintro e w1 ⟨rfl, ho⟩
  have HO := Lib.hid ho
  clear ho
  go_wp2_with fail
  go_ret2
  exact ⟨rfl, HO.out⟩
theorem fread_size {n : Int} (h : FlAt w F X t m D c) (hn : numOk n) (s : Int) (hs : ¬ (0 ≤ s ∧ s ≤ 65536)) :
    Calls Tryz.prog 18 #[.pointer (some ⟨t, 0, none⟩), .int .i64 n, .int .i64 s] w fun e w' => e = .returned (.tuple #[.string ⟨#[]⟩, .int .i64 1]) ∧ Only NoB w w' := by
  obtain ⟨M, hk, _⟩ := h
  have HR := Lib.hid (ready_ok (n := n) hk hn)
  clear hk hn
  by_cases hs0 : s < 0
  · clear hs
    go_enter Tryz.func18, Tryz.ntmps18
    go_wp2_with fail
    refine HR.out.mono ?_
    rintro e w1 ⟨rfl, ho⟩
    have HO := Lib.hid ho
    clear ho
    go_wp2_with fail
    go_ret2
    exact ⟨rfl, HO.out⟩
  · have hs1 : s > 65536 := by omega
    have e0 : decide (s < 0) = false := by simpa using hs0
    clear hs hs0
    go_enter Tryz.func18, Tryz.ntmps18
    go_wp2_with fail
    refine HR.out.mono ?_
    rintro e w1 ⟨rfl, ho⟩
    have HO := Lib.hid ho
    clear ho
    go_wp2_with fail
    go_ret2
    exact ⟨rfl, HO.out⟩
theorem pf_write (h : FlAt w F X t m D c) (n : Int) (d : Str) (hd : d.length ≤ 65536) (hroom : c + chunkN (chunkOf m) d.length ≤ 600 - (ownOf 600 m + 1)) :
    Calls Tryz.prog 16 #[.pointer (some ⟨t, 0, none⟩), .int .i64 n, .string ⟨d.toArray⟩] w (FlOut w F X t m (.int .i64 (wrA n)) (wrD n d D) (c + chunkN (chunkOf m) d.length)) := by
  by_cases hk : numOk n
  · rw [wrA, if_pos hk, wrD, if_pos hk]
    obtain ⟨h1, h2⟩ := hk
    obtain ⟨k, rfl⟩ := Int.eq_ofNat_of_zero_le (show 0 ≤ n by omega)
    exact fl_write h ⟨by omega, by omega⟩ hd hroom
  · rw [wrA, if_neg hk, wrD, if_neg hk]
    refine (fwrite_bad d hk).mono ?_
    rintro e w1 ⟨rfl, ho⟩
    exact (h.mono (by omega)).out ho
theorem pf_read (h : FlAt w F X t m D c) (n s : Int) :
    Calls Tryz.prog 18 #[.pointer (some ⟨t, 0, none⟩), .int .i64 n, .int .i64 s] w (FlOut w F X t m (rdA n s (D n.toNat)) D c) := by
  by_cases hk : numOk n
  · by_cases hs : 0 ≤ s ∧ s ≤ 65536
    · rw [rdA, if_pos ⟨hk, hs⟩]
      obtain ⟨h1, h2⟩ := hk
      obtain ⟨k, rfl⟩ := Int.eq_ofNat_of_zero_le (show 0 ≤ n by omega)
      obtain ⟨q, rfl⟩ := Int.eq_ofNat_of_zero_le hs.1
      exact fl_read h ⟨by omega, by omega⟩ (by omega)
    · rw [rdA, if_neg fun e => hs e.2]
      refine (fread_size h hk s hs).mono ?_
      rintro e w1 ⟨rfl, ho⟩
      exact h.out ho
  · rw [rdA, if_neg fun e => hk e.1]
    refine (fread_bad s hk).mono ?_
    rintro e w1 ⟨rfl, ho⟩
    exact h.out ho
theorem pf_drop (h : FlAt w F X t m D c) (n : Int) :
    Calls Tryz.prog 20 #[.pointer (some ⟨t, 0, none⟩), .int .i64 n] w (FlOut w F X t m (drA n (chunkOf m) (D n.toNat)) (drD n D) c) := by
  by_cases hk : numOk n
  · rw [drA, if_pos hk, drD, if_pos hk]
    obtain ⟨h1, h2⟩ := hk
    obtain ⟨k, rfl⟩ := Int.eq_ofNat_of_zero_le (show 0 ≤ n by omega)
    exact fl_drop h ⟨by omega, by omega⟩
  · rw [drA, if_neg hk, drD, if_neg hk]
    refine (fdrop_bad hk).mono ?_
    rintro e w1 ⟨rfl, ho⟩
    exact h.out ho
theorem set_getD (L : List Str) (n k : Nat) (d : Str) : (L.set n d).getD k [] = if k = n ∧ n < L.length then d else L.getD k [] := by
  rw [List.getD_eq_getElem?_getD, List.getD_eq_getElem?_getD, List.getElem?_set]
  by_cases h : n = k
  · subst h
    by_cases hl : n < L.length
    · simp [hl]
    · rw [if_pos rfl, if_neg hl, if_neg (by omega), List.getElem?_eq_none (by omega)]
  · rw [if_neg h, if_neg (by omega)]
theorem wrD_L (n : Int) (d : Str) (L : List Str) : wrD n d (fun k => L.getD k []) = fun k => (wrL n d L).getD k [] := by
  unfold wrD wrL
  split
  · funext k
    rw [set_getD, padL_len, padL_get]
    unfold setF
    by_cases h : k = n.toNat
    · rw [if_pos h, if_pos ⟨h, by omega⟩]
    · rw [if_neg h, if_neg fun e => h e.1]
  · rfl
theorem drD_L (n : Int) (L : List Str) : drD n (fun k => L.getD k []) = fun k => (drL n L).getD k [] := by
  unfold drD drL
  by_cases hk : numOk n
  · rw [if_pos hk]
    by_cases hl : n.toNat < L.length
    · rw [if_pos ⟨hk, hl⟩]
      funext k
      rw [set_getD]
      unfold setF
      by_cases h : k = n.toNat
      · rw [if_pos h, if_pos ⟨h, hl⟩]
      · rw [if_neg h, if_neg fun e => h e.1]
    · rw [if_neg fun e => hl e.2]
      funext k
      unfold setF
      split
      · rename_i h; rw [h, List.getD_eq_getElem?_getD, List.getElem?_eq_none (by omega)]; rfl
      · rfl
  · rw [if_neg hk, if_neg fun e => hk e.1]
theorem wrL_len {n : Int} {d : Str} {L : List Str} (hL : L.length ≤ 101) (hn : n ≤ 100 ∨ 16777215 < n) : (wrL n d L).length ≤ 101 := by
  unfold wrL
  split
  · rename_i h
    rw [List.length_set, padL_len]
    have := h.2
    omega
  · exact hL
theorem wrL_small {n : Int} {d : Str} {L : List Str} (hL : ∀ k, (L.getD k []).length ≤ 1000) (hd : d.length ≤ 1000) (k : Nat) : ((wrL n d L).getD k []).length ≤ 1000 := by
  unfold wrL
  split
  · rw [set_getD, padL_get]
    split
    · exact hd
    · exact hL k
  · exact hL k
theorem drL_len {n : Int} {L : List Str} (hL : L.length ≤ 101) : (drL n L).length ≤ 101 := by
  unfold drL
  split
  · rw [List.length_set]; exact hL
  · exact hL
theorem drL_small {n : Int} {L : List Str} (hL : ∀ k, (L.getD k []).length ≤ 1000) (k : Nat) : ((drL n L).getD k []).length ≤ 1000 := by
  unfold drL
  split
  · rw [set_getD]
    split
    · simp
    · exact hL k
  · exact hL k
theorem rchunk_ok (h1 : 64 ≤ m) (h2 : m ≤ 4096) : Calls Tryz.prog 12 #[.int .i64 m] w fun e w' => e = .returned (.int .i64 (chunkOf m : Nat)) ∧ w = w' := by
  have h1' : (64 : Int) ≤ m := by omega
  have h2' : (m : Int) ≤ 4096 := by omega
  have HR : Hid (∀ w, Calls Tryz.prog 43 #[.int .i64 (m : Int)] w fun e w' => e = .returned (.bool true) ∧ w = w') := Lib.hid fun w => by
    go_enter Tryz.func43, Tryz.ntmps43
    go_wp2_with fail
    go_ret
    exact ⟨rfl, rfl⟩
  obtain ⟨q, hq⟩ : ∃ q, q = NodeD.most m := ⟨_, rfl⟩
  have hq1 : 7 ≤ q ∧ q ≤ 4096 ∧ (q : Int) = ((m : Int) - 16) / 4 - 4 := by rw [hq]; unfold NodeD.most; omega
  have HM : Hid (∀ w, Calls Tryz.prog 44 #[.int .i64 (m : Int)] w fun e w' => e = .returned (.int .i64 (q : Int)) ∧ w = w') := Lib.hid fun w => by
    have hd : ((m : Int) - 16).tdiv 4 = (q : Int) + 4 := by rw [Int.tdiv_eq_ediv_of_nonneg (by omega)]; omega
    go_enter Tryz.func44, Tryz.ntmps44
    go_wp2_with fail
    go_ret
    refine ⟨?_, rfl⟩
    first | rfl | (show Ending.returned (Value.int IntKind.i64 _) = _; congr 2; omega)
  have hc : chunkOf m = min (q - 6) 200 := by rw [hq]; rfl
  rw [hc]
  obtain ⟨r, hr⟩ : ∃ r, r = min (q - 6) 200 := ⟨_, rfl⟩
  rw [← hr]
  have HRR := Lib.hid hr
  have q1 := hq1.1
  have q2 := hq1.2.1
  have hw1 : IntKind.i64.wrap ((q : Int) - 6) = (q : Int) - 6 := by rw [IntKind.wrap_i64]; omega
  clear hq hc hr hq1
  by_cases hlt : (q : Int) - 6 < 200
  · have hr : (r : Int) = (q : Int) - 6 := by have := HRR.out; omega
    rw [hr]
    clear hr
    go_enter Tryz.func12, Tryz.ntmps12
    go_wp2_with fail
    refine (HR.out w).mono ?_
    rintro e w1 ⟨rfl, rfl⟩
    go_wp2_with fail
    refine (HM.out w).mono ?_
    rintro e w1 ⟨rfl, rfl⟩
    go_wp2_with fail
    refine (HM.out w).mono ?_
    rintro e w1 ⟨rfl, rfl⟩
    go_wp2_with fail
    all_goals first | (go_ret; exact ⟨rfl, rfl⟩) | (exfalso; omega)
  · have hr : (r : Int) = 200 := by have := HRR.out; omega
    rw [hr]
    clear hr
    go_enter Tryz.func12, Tryz.ntmps12
    go_wp2_with fail
    refine (HR.out w).mono ?_
    rintro e w1 ⟨rfl, rfl⟩
    go_wp2_with fail
    refine (HM.out w).mono ?_
    rintro e w1 ⟨rfl, rfl⟩
    go_wp2_with fail
    refine (HM.out w).mono ?_
    rintro e w1 ⟨rfl, rfl⟩
    go_wp2_with fail
    all_goals first | (go_ret; exact ⟨rfl, rfl⟩) | (exfalso; omega) | (go_ret; refine ⟨?_, rfl⟩; show Ending.returned (Value.int IntKind.i64 ((q : Int) - 6)) = _; rw [show (q : Int) - 6 = 200 by omega])
theorem range08_bad (m : Int) (h : ¬ (64 ≤ m ∧ m ≤ 4096)) (w : World) : Calls Tryz.prog 43 #[.int .i64 m] w fun e w' => e = .returned (.bool false) ∧ w = w' := by
  by_cases h1 : 64 ≤ m
  · have e2 : decide (m ≤ 4096) = false := by simp; omega
    clear h
    go_enter Tryz.func43, Tryz.ntmps43
    go_wp2_with fail
    go_ret
    exact ⟨rfl, rfl⟩
  · have e1 : decide (m ≥ 64) = false := by simp; omega
    clear h h1
    go_enter Tryz.func43, Tryz.ntmps43
    go_wp2_with fail
    go_ret
    exact ⟨rfl, rfl⟩
theorem rchunk_bad (m : Int) (h : ¬ (64 ≤ m ∧ m ≤ 4096)) : Calls Tryz.prog 12 #[.int .i64 m] w fun e w' => e = .returned (.int .i64 0) ∧ w = w' := by
  have HR := Lib.hid (range08_bad m h w)
  clear h
  go_enter Tryz.func12, Tryz.ntmps12
  go_wp2_with fail
  refine HR.out.mono ?_
  rintro e w1 ⟨rfl, rfl⟩
  go_wp2_with fail
  go_ret
  exact ⟨rfl, rfl⟩
def costF (ch : Nat) (l : List OpS) : Nat := (l.map fun o => o.s.length / ch + 1).sum
theorem costF_take {ch : Nat} {l : List OpS} {k : Nat} (h : k < l.length) : costF ch (l.take (k + 1)) = costF ch (l.take k) + (l[k].s.length / ch + 1) := by
  unfold costF
  rw [List.take_succ_eq_append_getElem h, List.map_append, List.sum_append]
  simp
theorem costF_le {ch : Nat} {l : List OpS} (k : Nat) : costF ch (l.take k) ≤ costF ch l := by
  conv => rhs; rw [← List.take_append_drop k l]
  unfold costF
  rw [List.map_append, List.sum_append]
  omega
def fewF (ch : Nat) (l : List OpS) : Prop := l.length ≤ 40 ∧ (∀ o ∈ l, o.s.length ≤ 1000 ∧ (o.b ≤ 100 ∨ 16777215 < o.b)) ∧ costF ch l ≤ 400
def FewFOut (ch : Nat) (l : List OpS) (w : World) (e : Ending) (w' : World) : Prop := ∃ b : Bool, e = .returned (.bool b) ∧ w = w' ∧ (b = true → fewF ch l)
set_option maxHeartbeats 2000000 in
theorem few13_any (w : World) (F : Nat → Prop) (v : Value) (l : List OpS) (ch : Nat) (hch : 1 ≤ ch ∧ ch ≤ 200) (h : SOps w F v l) : Calls Tryz.prog 14 #[v, .int .i64 ch] w (FewFOut ch l w) := by
  obtain ⟨A, c, rfl, _⟩ := h.shape
  have H := Lib.hid h
  have hc0 : (ch : Int) ≠ 0 := by omega
  clear h
  by_cases h1 : ((l.length : Int) > 40)
  · go_enter Tryz.func14, Tryz.ntmps14
    go_wp2_with fail
    go_ret
    exact ⟨false, rfl, rfl, fun h => (by cases h)⟩
  have e1 : decide ((l.length : Int) > 40) = false := by simpa using h1
  have hl : l.length ≤ 40 := by omega
  clear h1
  go_enter Tryz.func14, Tryz.ntmps14
  go_wp2_with fail
  go_loop [5, 6] (fun a i => ∃ k : Nat, k ≤ l.length ∧ i = .int .i64 k ∧ ∃ q : Nat, q = costF ch (l.take k) ∧ q ≤ k * 1001 ∧ a = .int .i64 q ∧ ∀ j (hj : j < l.length), j < k → l[j].s.length ≤ 1000 ∧ (l[j].b ≤ 100 ∨ 16777215 < l[j].b)) (fun _ i => l.length - (intOf i).toNat)
  case atStart => exact ⟨0, Nat.zero_le _, rfl, 0, by simp [costF], Nat.zero_le _, rfl, fun _ _ h => absurd h (Nat.not_lt_zero _)⟩
  case round =>
    obtain ⟨k, hk, rfl, q, hq, hqk, rfl, hI⟩ := hrel
    have HI := Lib.hid hI
    have HQ := Lib.hid hq
    clear hI hq
    by_cases hlt : k < l.length
    · obtain ⟨g, off, cc, hve, _, hg, ho⟩ := H.out.open_ hlt
      injection hve with h1 h2 h3
      subst h1; subst h3
      have HCT := Lib.hid (costF_take (ch := ch) hlt)
      obtain ⟨o, hoe⟩ : ∃ o, o = l[k] := ⟨_, rfl⟩
      rw [← hoe] at ho HCT
      have HOE := Lib.hid hoe
      have hb := ho.b
      have hs := ho.s
      obtain ⟨ls, hls⟩ : ∃ ls, ls = o.s.length := ⟨_, rfl⟩
      rw [← hls] at HCT
      have hls' : o.s.length = ls := hls.symm
      obtain ⟨ob, hob⟩ : ∃ ob, ob = o.b := ⟨_, rfl⟩
      rw [← hob] at hb
      have HOB := Lib.hid hob
      clear ho hoe hls hob
      by_cases hb2 : ((ls : Int) > 1000)
      · go_wp2_with fail
        go_ret
        exact ⟨false, rfl, rfl, fun h => (by cases h)⟩
      · have e2 : decide ((ls : Int) > 1000) = false := by simpa using hb2
        by_cases hn1 : ob > 100
        · by_cases hn2 : ob ≤ 16777215
          · go_wp2_with fail
            go_ret
            exact ⟨false, rfl, rfl, fun h => (by cases h)⟩
          · have e4 : decide (ob ≤ 16777215) = false := by simpa using hn2
            have HB : Hid (o.s.length ≤ 1000 ∧ (o.b ≤ 100 ∨ 16777215 < o.b)) := Lib.hid ⟨by omega, .inr (by have := HOB.out; omega)⟩
            obtain ⟨z, hz⟩ : ∃ z, z = ls / ch := ⟨_, rfl⟩
            have hdv : (ls : Int).tdiv ch = (z : Int) := by rw [Int.tdiv_eq_ediv_of_nonneg (by omega), hz, Int.natCast_ediv]
            have hzl : z ≤ 1000 := by rw [hz]; have := Nat.div_le_self ls ch; omega
            rw [← hz] at HCT
            clear hz
            go_wp2_with fail
            refine ⟨⟨k + 1, by omega, by go_num, q + z + 1, by rw [HCT.out, ← HQ.out]; omega, by omega, by go_num, fun j hj hjk => ?_⟩, by simp [intOf]; omega⟩
            by_cases hjk2 : j = k
            · subst hjk2
              rw [← HOE.out]
              exact HB.out
            · exact HI.out j hj (by omega)
        · have e3 : decide (ob > 100) = false := by simpa using hn1
          have HB : Hid (o.s.length ≤ 1000 ∧ (o.b ≤ 100 ∨ 16777215 < o.b)) := Lib.hid ⟨by omega, .inl (by have := HOB.out; omega)⟩
          obtain ⟨z, hz⟩ : ∃ z, z = ls / ch := ⟨_, rfl⟩
          have hdv : (ls : Int).tdiv ch = (z : Int) := by rw [Int.tdiv_eq_ediv_of_nonneg (by omega), hz, Int.natCast_ediv]
          have hzl : z ≤ 1000 := by rw [hz]; have := Nat.div_le_self ls ch; omega
          rw [← hz] at HCT
          clear hz
          go_wp2_with fail
          refine ⟨⟨k + 1, by omega, by go_num, q + z + 1, by rw [HCT.out, ← HQ.out]; omega, by omega, by go_num, fun j hj hjk => ?_⟩, by simp [intOf]; omega⟩
          by_cases hjk2 : j = k
          · subst hjk2
            rw [← HOE.out]
            exact HB.out
          · exact HI.out j hj (by omega)
    · obtain rfl : k = l.length := by omega
      have hqe : q = costF ch l := by have := HQ.out; rwa [List.take_length] at this
      have HQE := Lib.hid hqe
      clear hqe
      by_cases hq4 : (q : Int) ≤ 400
      · go_wp2_with fail
        go_ret
        refine ⟨true, rfl, rfl, fun _ => ⟨hl, fun o ho => ?_, by rw [← HQE.out]; omega⟩⟩
        obtain ⟨j, hj, rfl⟩ := List.mem_iff_getElem.1 ho
        exact HI.out j hj hj
      · have e5 : decide ((q : Int) ≤ 400) = false := by simpa using hq4
        go_wp2_with fail
        go_ret
        exact ⟨false, rfl, rfl, fun h => (by cases h)⟩
end
end Go.Proofs.YtdipjakblaeekaaGreat
namespace Go.Proofs.YtdipjakblaeekaaGreat
open Go.RowKit Go.Proofs Go.Shelf
set_option maxRecDepth 20000
attribute [local go_sem] Oper.semAt_some
structure FDI (w0 w : World) (X : XC) (t x size : Nat) (q : Nat) (F G : Nat → Prop) (L : List Str) (c : Nat) : Prop where
  ap : Ap w0 w F G
  fl : FlAt w F X t size (fun j => L.getD j []) c
  rf : RefF w G x (chunkOf size) L
  len : L.length ≤ 101
  small : ∀ j, (L.getD j []).length ≤ 1000
  cost : c ≤ q
structure FDH (w0 w : World) (X : XC) (t x size : Nat) (F G : Nat → Prop) (L : List Str) (D' : Nat → Str) (c : Nat) : Prop where
  ap : Ap w0 w F G
  fl : FlAt w F X t size D' c
  rf : RefF w G x (chunkOf size) L
section
variable {w0 w w' : World} {F G : Nat → Prop} {X : XC} {t x size c q : Nat} {L : List Str} {D : Nat → Str}
theorem FDI.quit (h : FDI w0 w X t x size q F G L c) (ho : Only NoB w w') : FDI w0 w' X t x size q F G L c := ⟨h.ap.quit ho, h.fl.quit ho, h.rf.quit ho, h.len, h.small, h.cost⟩
theorem FDI.mono (h : FDI w0 w X t x size q F G L c) {q' : Nat} (hq : q ≤ q') : FDI w0 w X t x size q' F G L c := ⟨h.ap, h.fl, h.rf, h.len, h.small, Nat.le_trans h.cost hq⟩
theorem FDI.half (h : FDI w0 w X t x size q F G L c) {v : Value} {D' : Nat → Str} {c' : Nat} {e : Ending} (hd : FlOut w F X t size v D' c' e w') : e = .returned v ∧ ∃ F', FDH w0 w' X t x size F' G L D' c' ∧ Only F w w' := by
  obtain ⟨he, F', h1, h2, h3⟩ := hd
  exact ⟨he, F', ⟨h.ap.left h2 h3 h1.lt, h1, h.rf.only h2 fun k hg hf => h.ap.apart k hf hg⟩, h2⟩
theorem FDH.whole (h : FDH w0 w X t x size F G L D c) {v : Value} {L' : List Str} {e : Ending} (hD : D = fun j => L'.getD j []) (hd : RefFO w G x (chunkOf size) v L' e w') (hl : L'.length ≤ 101) (hs : ∀ j, (L'.getD j []).length ≤ 1000) (hc : c ≤ q) : e = .returned v ∧ ∃ G', FDI w0 w' X t x size q F G' L' c := by
  obtain ⟨he, G', h1, h2, h3⟩ := hd
  refine ⟨he, G', h.ap.right h2 h3 h1.1, ?_, h1, hl, hs, hc⟩
  rw [← hD]
  exact h.fl.only h2 h.ap.apart
set_option maxHeartbeats 4000000 in
theorem filesDoes_badsize (size : Int) (v : Value) (h : ¬ (64 ≤ size ∧ size ≤ 4096)) : Calls Tryz.prog 3 #[.int .i64 size, v] w (Quit w (.bool true)) := by
  have HC := Lib.hid (chunk_bad (w := w) size h)
  have HR := Lib.hid (rchunk_bad (w := w) size h)
  have HA := Lib.hid (awake13_ok (w := w))
  clear h
  go_enter Tryz.func3, Tryz.ntmps3
  go_wp2_with fail
  refine HC.out.mono ?_
  rintro e w1 ⟨rfl, rfl⟩
  go_wp2_with fail
  refine HR.out.mono ?_
  rintro e w1 ⟨rfl, rfl⟩
  go_wp2_with fail
  refine HA.out.mono ?_
  rintro e w1 ⟨rfl, ho⟩
  have HO := Lib.hid ho
  clear ho
  go_wp2_with fail
  go_ret
  exact ⟨rfl, HO.out⟩
set_option maxHeartbeats 4000000 in
theorem filesDoes_big (size : Nat) (v : Value) (h1 : 64 ≤ size) (h2 : size ≤ 4096) (h3 : 300 < size) : Calls Tryz.prog 3 #[.int .i64 size, v] w (Quit w (.bool true)) := by
  have hch := chunkOf_le h1
  have HC := Lib.hid (chunk_ok (w := w) (m := size) h1 h2)
  have HR := Lib.hid (rchunk_ok (w := w) (m := size) h1 h2)
  have HA := Lib.hid (awake13_ok (w := w))
  obtain ⟨ch, hc⟩ : ∃ ch, ch = chunkOf size := ⟨_, rfl⟩
  rw [← hc] at HC HR hch
  have hb0 : ((ch : Int) == 0) = false := by simp; omega
  have hc0 : ¬ ((ch : Int) = 0) := by omega
  clear hc h1 h2
  go_enter Tryz.func3, Tryz.ntmps3
  go_wp2_with fail
  refine HC.out.mono ?_
  rintro e w1 ⟨rfl, rfl⟩
  go_wp2_with fail
  refine HR.out.mono ?_
  rintro e w1 ⟨rfl, rfl⟩
  go_wp2_with fail
  refine HA.out.mono ?_
  rintro e w1 ⟨rfl, ho⟩
  have HO := Lib.hid ho
  clear ho
  go_wp2_with fail
  go_ret
  exact ⟨rfl, HO.out⟩
theorem rdA_form (n s : Int) (d : Str) : ∃ a b, rdA n s d = .tuple #[.string a, .int .i64 b] := by
  unfold rdA rdAns
  split
  · split <;> exact ⟨_, _, rfl⟩
  · exact ⟨_, _, rfl⟩
theorem drA_form (n : Int) (ch : Nat) (d : Str) : ∃ a b, drA n ch d = .tuple #[.int .i64 a, .int .i64 b] := by
  unfold drA
  split <;> exact ⟨_, _, rfl⟩
end
end Go.Proofs.YtdipjakblaeekaaGreat
namespace Go.Proofs.YtdipjakblaeekaaGreat
open Go.RowKit Go.Proofs Go.Shelf
set_option maxRecDepth 20000
attribute [local go_sem] Oper.semAt_some
section
variable {w w' : World}
set_option maxHeartbeats 8000000 in
theorem filesDoes_main (size : Nat) (v : Value) (l : List OpS) (h1 : 64 ≤ size) (h2 : size ≤ 4096) (h3 : size ≤ 300) (hl : SOps w (Old w) v l) : Calls Tryz.prog 3 #[.int .i64 size, v] w (Quit w (.bool true)) := by
  obtain ⟨A, cap, rfl, _⟩ := hl.shape
  have hch := chunkOf_le h1
  have HC := Lib.hid (chunk_ok (w := w) (m := size) h1 h2)
  have HR := Lib.hid (rchunk_ok (w := w) (m := size) h1 h2)
  have HA := Lib.hid fun w1 => awake13_ok (w := w1)
  have HF := Lib.hid (few13_any w _ _ l (chunkOf size) hch hl)
  have HT := Lib.hid (open13_ok (m := size) (w := w) h1 h2)
  have hown := own600 h1
  have OWN := Lib.hid hown
  have HCH := Lib.hid hch
  have HL := Lib.hid hl
  obtain ⟨ch, hc⟩ : ∃ ch, ch = chunkOf size := ⟨_, rfl⟩
  have HCE := Lib.hid hc
  rw [← hc] at HC HR HF
  have hb0 : ((ch : Int) == 0) = false := by rw [hc]; simp; omega
  have hc0 : ¬ ((ch : Int) = 0) := by rw [hc]; omega
  clear hc h1 h2 hl hch hown
  go_enter Tryz.func3, Tryz.ntmps3
  go_wp2_with fail
  refine HC.out.mono ?_
  rintro e w1 ⟨rfl, rfl⟩
  go_wp2_with fail
  refine HR.out.mono ?_
  rintro e w1 ⟨rfl, rfl⟩
  go_wp2_with fail
  refine HF.out.mono ?_
  rintro e w1 ⟨b, rfl, rfl, hb⟩
  cases b with
  | false =>
    clear hb
    go_wp2_with fail
    refine (HA.out w).mono ?_
    rintro e w1 ⟨rfl, ho⟩
    have HO := Lib.hid ho
    clear ho
    go_wp2_with fail
    go_ret
    exact ⟨rfl, HO.out⟩
  | true =>
    have hb1 := hb rfl
    rw [HCE.out] at hb1
    have FEW := Lib.hid hb1
    have hl40 := hb1.1
    clear hb hb1
    go_wp2_with fail
    refine HT.out.mono ?_
    rintro e w1 ⟨t, F, X, rfl, hk, ho, hF⟩
    have hfl := fl_new hk
    have hap : Ap w (w1.alloc (.cells #[.int .i64 ch, .slice none 0 0] 34)) F (fun k => k = w1.heap.size) := Ap.start ho (fun k hkk => ⟨hF k hkk, hfl.lt k hkk⟩) ((Only.refl NoB w1).alloc _) (fun k hkk => by rw [hkk]; simp)
    have H0 : Hid (FDI w (w1.alloc (.cells #[.int .i64 ch, .slice none 0 0] 34)) X t w1.heap.size size (costF (chunkOf size) (l.take 0)) F (fun k => k = w1.heap.size) [] 0) := Lib.hid
      ⟨hap, hfl.quit ((Only.refl NoB w1).alloc _), ⟨fun k hkk => by rw [hkk]; simp, rfl, by simp, .slice none 0 0, by rw [← HCE.out]; exact Blk.new _ _ _, Own.nil _ _ _ _⟩, by simp, by simp, Nat.zero_le _⟩
    clear hk ho hF hfl hap HF HT HC HR
    go_wp2_with fail
    obtain ⟨x, hx⟩ : ∃ x, x = w1.heap.size := ⟨_, rfl⟩
    rw [← hx] at H0 ⊢
    obtain ⟨W0, hW0⟩ : ∃ W0, W0 = w1.alloc (.cells #[.int .i64 ch, .slice none 0 0] 34) := ⟨_, rfl⟩
    rw [← hW0] at H0 ⊢
    clear hW0 hx
    go_loopw [10] (fun i wr => ∃ k : Nat, k ≤ l.length ∧ i = .int .i64 k ∧ ∃ F G L c, Hid (FDI w wr X t x size (costF (chunkOf size) (l.take k)) F G L c)) (fun i _ => l.length - (intOf i).toNat)
    case atStart => exact ⟨0, Nat.zero_le _, rfl, _, _, _, _, H0⟩
    case round =>
      obtain ⟨k, hk, rfl, F1, G1, L, c, HI⟩ := hrel
      clear H0
      by_cases hlt : k < l.length
      · obtain ⟨wq, rfl⟩ : ∃ wq, wq = wr := ⟨_, rfl⟩
        obtain ⟨g, off, cc, hve, _, hg, ho⟩ := HL.out.open_ hlt
        injection hve with e1 e2 e3
        subst e1; subst e3
        have hct := costF_take (ch := chunkOf size) hlt
        have hcl := costF_le (ch := chunkOf size) (l := l) (k + 1)
        obtain ⟨o, hoe⟩ : ∃ o, o = l[k] := ⟨_, rfl⟩
        rw [← hoe] at ho hct
        have hfo := FEW.out.2.1 o (by rw [hoe]; exact List.getElem_mem hlt)
        have FO := Lib.hid hfo
        have hcu := chunkN_up (L := o.s.length) HCH.out.1
        have hcq := HI.out.cost
        have hroom : c + chunkN (chunkOf size) o.s.length ≤ 600 - (ownOf 600 size + 1) := by have := OWN.out; have := FEW.out.2.2; omega
        have HROOM := Lib.hid hroom
        have HCT : Hid (c + chunkN (chunkOf size) o.s.length ≤ costF (chunkOf size) (l.take (k + 1))) := Lib.hid (by omega)
        have HCT2 : Hid (costF (chunkOf size) (l.take k) ≤ costF (chunkOf size) (l.take (k + 1))) := Lib.hid (by omega)
        have HO := ho.only HI.out.ap.only id
        have x0 := HO.a
        have x1 := HO.b
        have x2 := HO.c
        have x3 := HO.s
        obtain ⟨cl, hcl2⟩ : ∃ cl, cl = o.a := ⟨_, rfl⟩
        rw [← hcl2] at x0
        obtain ⟨W1, hW1⟩ : ∃ W1, W1 = wq.alloc (.cells #[.int .i64 cl, .int .i64 o.b, .int .i64 o.c, .string ⟨o.s.toArray⟩] 36) := ⟨_, rfl⟩
        have hB1 : Blk W1 wq.heap.size 36 #[.int .i64 cl, .int .i64 o.b, .int .i64 o.c, .string ⟨o.s.toArray⟩] := by rw [hW1]; exact Blk.new _ _ _
        have hI1 : FDI w W1 X t x size (costF (chunkOf size) (l.take k)) F1 G1 L c := HI.out.quit (by rw [hW1]; exact (Only.refl NoB wq).alloc _)
        have HI1 := Lib.hid hI1
        have HB1 := Lib.hid hB1
        have HF1 : Hid (¬ F1 wq.heap.size) := Lib.hid fun h => by have := HI.out.fl.lt _ h; omega
        have HW1 := Lib.hid hW1
        clear hct hcl ho hoe hfo hcu hcq hroom HO hcl2 hI1 hB1 hW1
        by_cases c0 : cl = 0
        · subst c0
          have HD : Hid (∀ z, Only NoB W1 z → Calls Tryz.prog 16 #[.pointer (some ⟨t, 0, none⟩), .int .i64 o.b, .string ⟨o.s.toArray⟩] z (FlOut z F1 X t size (.int .i64 (wrA o.b)) (wrD o.b o.s fun j => L.getD j []) (c + chunkN (chunkOf size) o.s.length))) :=
            Lib.hid fun z ho => pf_write (HI1.out.quit ho).fl o.b o.s (by have := FO.out.1; omega) HROOM.out
          go_wp2_with fail
          rw [← HW1.out]
          refine hB _ 13 (fun w' => w'.cell? ⟨wq.heap.size, 1, none⟩ = some (.int .i64 o.b) ∧ w'.cell? ⟨wq.heap.size, 3, none⟩ = some (.string ⟨o.s.toArray⟩)) (⟨HB1.out.cell 1, HB1.out.cell 3⟩) (fun hHeld => ?_)
          refine hT 0 111 ?_
          obtain ⟨z0, hz0⟩ : ∃ z, z = W1.drew := ⟨_, rfl⟩
          rw [← hz0] at hHeld ⊢
          have ha : Only NoB W1 z0 := by rw [hz0]; exact (Only.refl NoB W1).drew
          clear hz0
          refine hT 1 112 ?_
          refine hT 2 113 ?_
          refine hT 3 114 ?_
          refine hT 4 115 ?_
          refine hT 6 117 ?_
          refine hT 7 118 ?_
          refine hT 8 119 ?_
          refine hT 9 120 ?_
          refine hT 10 121 ?_
          refine hE 5 (fun o ho K hK => ?_)
          cases ho
          go_simp
          refine (HD.out _ ha).mono ?_
          rintro e z2 hd
          obtain ⟨rfl, F2, hh, hon⟩ := (HI1.out.quit ha).half hd
          have HH := Lib.hid hh
          have hb2 := (HB1.out.only ha id).only hon HF1.out
          clear hd hh
          refine hK.out _ _ (⟨hb2.cell 1, hb2.cell 3⟩) (fun hHeld => ?_)
          clear hK K
          try simp only [Act.put, List.setIfInBounds_toArray, List.set_cons_zero, List.set_cons_succ]
          refine hE 11 (fun o ho K hK => ?_)
          cases ho
          go_simp
          refine (rfwrite_any HH.out.rf o.b o.s (by have := FO.out.2; omega) (by have := FO.out.1; omega)).mono ?_
          rintro e z3 hd
          have hb3 := hb2.only hd.2.choose_spec.2.1 (fun h => by have := (HI.out.ap.newG _ h).2; omega)
          obtain ⟨rfl, G2, hw⟩ := HH.out.whole (wrD_L o.b o.s L) hd (wrL_len HI1.out.len FO.out.2) (wrL_small HI1.out.small FO.out.1) HCT.out
          have HW := Lib.hid hw
          clear hd hw
          refine hK.out _ _ (⟨hb3.cell 1, hb3.cell 3⟩) (fun hHeld => ?_)
          clear hK K
          try simp only [Act.put, List.setIfInBounds_toArray, List.set_cons_zero, List.set_cons_succ]
          refine hT 12 123 ?_
          refine wpAnyH_done (by kernel_rfl) ?_ _
          refine NoPanic.normal ?_
          go_wp2_with fail
          exact ⟨⟨k + 1, by omega, by go_num, _, _, _, _, HW⟩, by simp [intOf]; omega⟩
        · have e0 : (cl == 0) = false := by simpa using c0
          by_cases c1 : cl = 1
          · subst c1
            obtain ⟨ra, rb, hab⟩ := rdA_form o.b o.c (L.getD o.b.toNat [])
            have HD := pf_read HI1.out.fl o.b o.c
            have HDR := fun z G2 (h : RefF z G2 x (chunkOf size) L) => rfread_any h o.b o.c fun j => Nat.le_trans (HI1.out.small j) (by omega)
            rw [hab] at HD HDR
            rw [HW1.out] at HD
            have HD := Lib.hid HD
            have HDR := Lib.hid HDR
            clear hab HI
            go_wp2_with fail
            refine HD.out.mono ?_
            rintro e w2 hd
            rw [← HW1.out] at hd
            obtain ⟨rfl, F2, hh, hon⟩ := HI1.out.half hd
            have HH := Lib.hid hh
            have hb2 := HB1.out.only hon HF1.out
            have y1 := hb2.cell 1
            have y2 := hb2.cell 2
            have HDD := Lib.hid (HDR.out _ _ hh.rf)
            clear hd hh hon hb2 HD HDR
            go_wp2_with fail
            refine HDD.out.mono ?_
            rintro e w3 hd
            obtain ⟨rfl, G2, hw⟩ := HH.out.whole rfl hd HI1.out.len HI1.out.small (Nat.le_trans HI1.out.cost HCT2.out)
            have HW := Lib.hid hw
            clear hd hw HDD
            go_wp2_with fail
            exact ⟨⟨k + 1, by omega, by go_num, _, _, _, _, HW⟩, by simp [intOf]; omega⟩
          · have e1 : (cl == 1) = false := by simpa using c1
            obtain ⟨ra, rb, hab⟩ := drA_form o.b (chunkOf size) (L.getD o.b.toNat [])
            have HD := pf_drop HI1.out.fl o.b
            have HDR := fun z G2 (h : RefF z G2 x (chunkOf size) L) => rfdrop_any h HCH.out o.b fun j => Nat.le_trans (HI1.out.small j) (by omega)
            rw [hab] at HD HDR
            rw [HW1.out] at HD
            have HD := Lib.hid HD
            have HDR := Lib.hid HDR
            clear hab HI c0 c1
            go_wp2_with fail
            refine HD.out.mono ?_
            rintro e w2 hd
            rw [← HW1.out] at hd
            obtain ⟨rfl, F2, hh, hon⟩ := HI1.out.half hd
            have HH := Lib.hid hh
            have hb2 := HB1.out.only hon HF1.out
            have y1 := hb2.cell 1
            have HDD := Lib.hid (HDR.out _ _ hh.rf)
            clear hd hh hon hb2 HD HDR
            go_wp2_with fail
            refine HDD.out.mono ?_
            rintro e w3 hd
            obtain ⟨rfl, G2, hw⟩ := HH.out.whole (drD_L o.b L) hd (drL_len HI1.out.len) (drL_small HI1.out.small) (Nat.le_trans HI1.out.cost HCT2.out)
            have HW := Lib.hid hw
            clear hd hw HDD
            go_wp2_with fail
            exact ⟨⟨k + 1, by omega, by go_num, _, _, _, _, HW⟩, by simp [intOf]; omega⟩
      · obtain rfl : k = l.length := by omega
        rw [List.take_length] at HI
        go_wp2_with fail
        go_loopw [20] (fun i wr => ∃ n : Nat, 1 ≤ n ∧ (n ≤ L.length ∨ n = 1) ∧ i = .int .i64 n ∧ ∃ F2, Hid (FDI w wr X t x size (costF (chunkOf size) l) F2 G1 L c)) (fun i _ => L.length - (intOf i).toNat)
        case atStart => exact ⟨1, Nat.le_refl _, .inr rfl, rfl, _, HI⟩
        case round =>
          obtain ⟨n, hn1, hn2, rfl, F2, HJ⟩ := hrel
          clear HI
          obtain ⟨_, _, _, lv, hb, hown⟩ := HJ.out.rf
          obtain ⟨A2, c2, rfl, _⟩ := hown.shape
          have z1 := hb.cell 1
          have hll := HJ.out.len
          by_cases hnl : n < L.length
          · obtain ⟨g, c3, cs, hve, _, hgg, _, _, _, hcell, _⟩ := hown.open_ (by omega)
            injection hve with e1 e2 e3
            subst e1; subst e3
            have z2 := hcell n (strV L[n]) (by rw [List.getElem?_map, List.getElem?_eq_getElem hnl]; rfl)
            have hD : L.getD n [] = L[n] := by rw [List.getD_eq_getElem?_getD, List.getElem?_eq_getElem hnl]; rfl
            have hsm := HJ.out.small n
            rw [hD] at hsm
            have HD := fl_read (n := n) (s := L[n].length) HJ.out.fl ⟨hn1, by omega⟩ (by omega)
            rw [hD, rdAns, if_pos rfl] at HD
            obtain ⟨d, hd⟩ : ∃ d, d = L[n] := ⟨_, rfl⟩
            rw [← hd] at HD z2 hsm
            unfold strV at z2
            have HBX := Lib.hid hb
            have HOX := Lib.hid hown
            obtain ⟨ld, hld⟩ : ∃ ld, ld = d.length := ⟨_, rfl⟩
            rw [← hld] at HD
            have hld' : d.length = ld := hld.symm
            have HDX := Lib.hid hd
            have HD := Lib.hid HD
            clear hb hown hcell hD hd hld hsm
            go_wp2_with fail
            refine HD.out.mono ?_
            rintro e w2 hd
            obtain ⟨rfl, F3, hh, hon⟩ := HJ.out.half hd
            have HN : Hid (FDI w w2 X t x size (costF (chunkOf size) l) F3 G1 L c) := Lib.hid ⟨hh.ap, hh.fl, hh.rf, HJ.out.len, HJ.out.small, HJ.out.cost⟩
            have hdis : ∀ k, G1 k → ¬ F2 k := fun k hg hf => HJ.out.ap.apart k hf hg
            have hgx := HJ.out.rf.2.1
            have y1 := (HBX.out.only hon (hdis x hgx)).cell 1
            have hown2 := HOX.out.only hon fun k hk => hdis k hk.1
            obtain ⟨_, _, _, hve, _, _, _, _, _, hcell, _⟩ := hown2.open_ (by omega)
            injection hve with e1 e2 e3
            injection e1 with e1
            injection e1 with e1
            subst e1; subst e3
            have y2 := hcell n (strV L[n]) (by rw [List.getElem?_map, List.getElem?_eq_getElem hnl]; rfl)
            rw [← HDX.out] at y2
            unfold strV at y2
            clear hd hh hon hdis hown2 hcell HD z1 z2
            go_wp2_with fail
            exact ⟨⟨n + 1, by omega, by omega, by go_num, _, HN⟩, by simp [intOf]; omega⟩
          · have HAW := Lib.hid (HA.out wr)
            have HON := Lib.hid HJ.out.ap.only
            clear hb hown
            go_wp2_with fail
            refine HAW.out.mono ?_
            rintro e w2 ⟨rfl, ho⟩
            have HOE := Lib.hid (HON.out.trans ho)
            clear ho
            go_wp2_with fail
            go_ret
            exact ⟨rfl, HOE.out⟩
end
theorem filesDoes_walk (w : World) (size : Int) (_ : (Lit.int .i64 size).wf = true) (v : Value) (l : List OpS) (hl : SOps w (Old w) v l) (_ : ∀ o ∈ l, (Lit.int .i64 o.b).wf = true ∧ (Lit.int .i64 o.c).wf = true ∧ o.s.length ≤ maxLen) :
    Calls Tryz.prog 3 #[.int .i64 size, v] w (Quit w (.bool true)) := by
  by_cases hs : 64 ≤ size ∧ size ≤ 4096
  · obtain ⟨sz, rfl⟩ := Int.eq_ofNat_of_zero_le (show 0 ≤ size by omega)
    by_cases h3 : sz ≤ 300
    · exact filesDoes_main sz v l (by omega) (by omega) h3 hl
    · exact filesDoes_big sz v (by omega) (by omega) (by omega)
  · exact filesDoes_badsize size v hs
end Go.Proofs.YtdipjakblaeekaaGreat
