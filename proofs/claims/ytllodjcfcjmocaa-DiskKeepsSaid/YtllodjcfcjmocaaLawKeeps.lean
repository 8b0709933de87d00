import Derived.Test.YtllodjcfcjmocaaKeeps
import Derived.Test.YtllodjcfcjmocaaHeld
/- ALL OF THE CACHE, OR NONE: the walk. -/
namespace Go.Proofs.Ytllodjcfcjmocaa
open Go.RowKit Go.Proofs

/-- The i-th disk's state. -/
def keepD (n : Nat) (la lb : List Int) (i : Nat) : DD := if i < 2 then keepX n la lb else keepE n la
/-- The array of the first k disks' pointers. -/
def ptrV (b : Nat → Nat) (k i : Nat) : Value := if i < k then .pointer (some ⟨b i, 0, none⟩) else .pointer none
def ptrs (b : Nat → Nat) (k : Nat) : Array Value := #[ptrV b k 0, ptrV b k 1, ptrV b k 2]
theorem ptrs_cell (b : Nat → Nat) {k : Nat} (hk : k < 3) : (ptrs b k)[k]? = some (.pointer none) := by
  rcases (show k = 0 ∨ k = 1 ∨ k = 2 by omega) with rfl | rfl | rfl <;> simp [ptrs, ptrV]
theorem ptrs_set (b : Nat → Nat) (k b' : Nat) (hk : k < 3) : (ptrs b k).setIfInBounds k (.pointer (some ⟨b', 0, none⟩)) = ptrs (put1 b k b') (k + 1) := by
  rcases (show k = 0 ∨ k = 1 ∨ k = 2 by omega) with rfl | rfl | rfl <;> simp [ptrs, ptrV, put1]
theorem put1_keepX {n k : Nat} {la lb : List Int} (hk : k < 2) : put1 (keepD n la lb) k (keepX n la lb) = keepD n la lb := funext fun j => by
  unfold put1 keepD
  by_cases h : j = k
  · rw [if_pos h, if_pos (by omega)]
  · rw [if_neg h]
theorem put1_keepE {n k : Nat} {la lb : List Int} (hk : ¬ k < 2) : put1 (keepD n la lb) k (keepE n la) = keepD n la lb := funext fun j => by
  unfold put1 keepD
  by_cases h : j = k
  · rw [if_pos h, if_neg (by omega)]
  · rw [if_neg h]
theorem up_of {l : List Int} {k : Nat} {x : Nat} (h : l[k]? = some (x : Int)) : l.getD k 0 = x := by rw [List.getD_eq_getElem?_getD, h]; rfl

/-- n truths, of which the first j are true. -/
def trues (n j : Nat) : List Bool := List.replicate j true ++ List.replicate (n - j) false
theorem trues_len {n j : Nat} (h : j ≤ n) : (trues n j).length = n := by simp [trues]; omega
theorem trues_full (n : Nat) : trues n n = List.replicate n true := by simp [trues]
theorem trues_none (n : Nat) : trues n 0 = List.replicate n false := by simp [trues]
theorem trues_set {n j : Nat} (h : j < n) : (trues n j).set j true = trues n (j + 1) := by
  unfold trues
  rw [List.set_append_right _ _ (by simp), List.length_replicate, Nat.sub_self, show n - j = (n - (j + 1)) + 1 by omega, List.replicate_succ, List.set_cons_zero, List.replicate_succ', List.append_assoc]
  rfl
theorem Ty.boolsU : Try.prog.underlying 23 = some (.slice 4) := by kernel_rfl
theorem make_bools (n : Nat) (h : n ≤ 1000000) (w : World) : ∃ w', (Instr.makeSlice 23 (.int .i64 n) (.int .i64 n)).run Try.prog w = .ok (.slice (some ⟨w.heap.size, 0, none⟩) n n) w' ∧ Blk w' w.heap.size 4 ((trues n 0).map boolV).toArray ∧ Only NoB w w' := by
  obtain ⟨w', h1, h2, h3⟩ := run_mk (P := Try.prog) (w := w) Ty.boolsU Ty.bool .i64 .i64 n (by omega)
  refine ⟨w', h1, ?_, h3⟩
  rw [trues_none, List.map_replicate]
  have := madeCells_one (.bool false) n
  rw [show (Value.bool false).cells = #[.bool false] from rfl, this] at h2
  exact h2
theorem trues_cell {w : World} {c n j i : Nat} (h : Blk w c 4 ((trues n j).map boolV).toArray) (hj : j ≤ n) (hi : i < n) : ∃ o : Bool, w.cell? ⟨c, i, none⟩ = some (.bool o) := by
  rw [h.cell]
  exact ⟨(trues n j)[i]'(by rw [trues_len hj]; exact hi), by simp [List.getElem?_eq_getElem (show i < (trues n j).length by rw [trues_len hj]; exact hi)]; rfl⟩
theorem trues_store {w : World} {c n j : Nat} (h : Blk w c 4 ((trues n j).map boolV).toArray) (hj : j < n) : Blk (w.setCell ⟨c, j, none⟩ (.bool true)) c 4 ((trues n (j + 1)).map boolV).toArray := by
  have := h.set_ j (.bool true)
  rw [← trues_set hj]
  have e : ((trues n j).map boolV).toArray.setIfInBounds j (.bool true) = (((trues n j).set j true).map boolV).toArray := by
    rw [List.setIfInBounds_toArray, List.map_set]; rfl
  rw [e] at this
  exact this
theorem trues_bools {w w0 : World} {c n : Nat} (h : Blk w c 4 ((trues n n).map boolV).toArray) (hc : w0.heap.size ≤ c) : Bools w (From w0.heap.size) (.slice (some ⟨c, 0, none⟩) n n) (List.replicate n true) := by
  rw [trues_full] at h
  unfold Bools
  rw [List.length_replicate]
  exact ⟨_, _, rfl, Nat.le_refl _, by simp, fun _ => ⟨_, rfl, hc, fun j u hu => by rw [Addr.add_lit, Nat.zero_add, h.cell]; rw [← hu]; simp [Array.getElem?_replicate, List.getElem?_replicate]⟩⟩

/-- Behind the crashes: the third disk's state is X. -/
def finD (n : Nat) (la lb : List Int) (X : DD) (i : Nat) : DD := if i = 0 then DD.on (DD.crash (List.replicate lb.length true) (keepX n la lb)) else if i = 1 then DD.on (DD.crash [] (keepX n la lb)) else if i = 2 then X else keepE n la
theorem finD_first (n : Nat) (la lb : List Int) : put1 (put1 (keepD n la lb) 0 (DD.on (DD.crash (List.replicate lb.length true) (keepX n la lb)))) 1 (DD.on (DD.crash [] (keepX n la lb))) = finD n la lb (keepE n la) := funext fun j => by
  unfold put1 finD keepD
  by_cases h0 : j = 0
  · subst h0; rfl
  · by_cases h1 : j = 1
    · subst h1; rfl
    · rw [if_neg h1, if_neg h0, if_neg h0, if_neg h1, if_neg (by omega), ite_self]
theorem finD_put (n : Nat) (la lb : List Int) (X Y : DD) : put1 (finD n la lb X) 2 Y = finD n la lb Y := funext fun j => by
  unfold put1 finD
  by_cases h0 : j = 0
  · subst h0; rfl
  · by_cases h1 : j = 1
    · subst h1; rfl
    · by_cases h2 : j = 2
      · subst h2; rfl
      · rw [if_neg h2, if_neg h0, if_neg h1, if_neg h2, if_neg h0, if_neg h1, if_neg h2]
theorem disks_ptr {w0 w : World} {n c i : Nat} {b : Nat → Nat} {D : Nat → DD} (h : Disks w0 w n b D c 37 (ptrs b 3)) (hi : i < 3) : w.cell? ⟨c, i, none⟩ = some (.pointer (some ⟨b i, 0, none⟩)) := by
  rw [h.blk.cell]
  rcases (show i = 0 ∨ i = 1 ∨ i = 2 by omega) with rfl | rfl | rfl <;> simp [ptrs, ptrV]
/-- A calm disk's sector, read. -/
def ReadC (w : World) (l : List UInt8) (e : Ending) (w' : World) : Prop :=
  ∃ A c, e = .returned (.tuple #[.slice A 16 c, .int .i64 0]) ∧ Only NoB w w' ∧ ∀ w'', Only NoB w' w'' → (convert 28 9 (.slice A 16 c)).run Try.prog w'' = .ok (.string ⟨l.toArray⟩) w''
theorem disks_readc {w0 w : World} {n m k c i s : Nat} {b : Nat → Nat} {D : Nat → DD} {t : TypeId} {cs : Array Value} (h : Disks w0 w n b D c t cs) (hi : i < n) (hc : DD.Calm m 16 k (D i)) (hs : s < m) :
    Calls Try.prog 15 #[.pointer (some ⟨b i, 0, none⟩), .int .i64 s] w (ReadC w ((D i).at_ s)) := by
  have hl : ((D i).at_ s).length = 16 := by rw [(h.live hi).wf.at_]; exact hc.m
  have hr := h.read hi s
  rw [hc.read_calm hs] at hr
  refine hr.mono ?_
  rintro e w' ⟨v, rfl, hb, ho⟩
  obtain ⟨A, c, rfl, _⟩ := id hb
  rw [hl] at hb ⊢
  refine ⟨A, c, rfl, ho, fun w'' ho' => ?_⟩
  have := conv_bytes (Rd.only hb ho' fun _ _ => id)
  unfold strOf at this
  exact this

set_option maxRecDepth 4096 in
set_option maxHeartbeats 16000000 in
theorem diskKeeps_walk (w : World) (n : Int) (hn : (Lit.int .i64 n).wf = true) (va : Value) (la : List Int) (ha : Ints w (Old w) va la) (ga : ∀ n ∈ la, (Lit.int .i64 n).wf = true)
    (vb : Value) (lb : List Int) (hb : Ints w (Old w) vb lb) (gb : ∀ n ∈ lb, (Lit.int .i64 n).wf = true) :
    Calls Try.prog 4 #[.int .i64 n, va, vb] w (Quit w (.bool true)) := by
  obtain ⟨Aa, ca, rfl, _⟩ := id ha
  obtain ⟨Ab, cb, rfl, _⟩ := id hb
  have HA := Lib.hid ha
  have GA := Lib.hid ga
  have HB := Lib.hid hb
  have GB := Lib.hid gb
  clear ha ga hb gb
  simp [Lit.wf, IntKind.min, IntKind.max, IntKind.signed, IntKind.bits] at hn
  by_cases h1 : n < 1
  · go_enter Try.func4, Try.ntmps4
    go_wp2_with fail
    go_ret
    exact ⟨rfl, Only.refl _ _⟩
  have e1 : decide (n < 1) = false := by simpa using h1
  by_cases h2 : n > 30
  · clear h1
    go_enter Try.func4, Try.ntmps4
    go_wp2_with fail
    go_ret
    exact ⟨rfl, Only.refl _ _⟩
  have e2 : decide (n > 30) = false := by simpa using h2
  by_cases h3 : ((la.length : Int) > 60)
  · clear h1 h2
    go_enter Try.func4, Try.ntmps4
    go_wp2_with fail
    go_ret
    exact ⟨rfl, Only.refl _ _⟩
  have e3 : decide ((la.length : Int) > 60) = false := by simpa using h3
  by_cases h4 : ((lb.length : Int) > 60)
  · clear h1 h2 h3
    go_enter Try.func4, Try.ntmps4
    go_wp2_with fail
    go_ret
    exact ⟨rfl, Only.refl _ _⟩
  have e4 : decide ((lb.length : Int) > 60) = false := by simpa using h4
  obtain ⟨n, rfl⟩ := Int.eq_ofNat_of_zero_le (show 0 ≤ n by omega)
  have hn1 : 1 ≤ n := by omega
  have hn2 : n ≤ 30 := by omega
  have hla : la.length ≤ 60 := by omega
  have hlb : lb.length ≤ 60 := by omega
  clear h1 h2 h3 h4 hn
  go_enter Try.func4, Try.ntmps4
  go_wp2_with fail
  have D0 := Lib.hid (Disks.none (b := fun _ => 0) (D := keepD n la lb) ((Only.refl NoB w).alloc (.cells (ptrs (fun _ => 0) 0) 37)) (Blk.new w 37 (ptrs (fun _ => 0) 0)) (Nat.le_refl _))
  have hw : ∃ w1, w1 = w.alloc (.cells (ptrs (fun _ => 0) 0) 37) := ⟨_, rfl⟩
  obtain ⟨w1, hw⟩ := hw
  rw [show w.alloc (.cells #[.pointer none, .pointer none, .pointer none] 37) = w1 from hw.symm]
  rw [← hw] at D0
  have hc : ∃ c, c = w.heap.size := ⟨_, rfl⟩
  obtain ⟨c, hc⟩ := hc
  rw [← hc] at D0 ⊢
  clear hw hc
  go_loopw [8] (fun i wr => ∃ k : Nat, k ≤ 3 ∧ i = .int .i64 k ∧ ∃ b, Disks w wr k b (keepD n la lb) c 37 (ptrs b k) ∧ (1 ≤ k → Up0 la la.length ∧ Up0 lb lb.length)) (fun i _ => 3 - (intOf i).toNat)
  case atStart =>
    exact ⟨0, by omega, rfl, _, D0.out, fun h => absurd h (by omega)⟩
  case round =>
    obtain ⟨k, hk, rfl, b, hD, hU⟩ := hrel
    have DK := Lib.hid hD
    have UK := Lib.hid hU
    clear hD hU D0
    by_cases hlt : k < 3
    · go_wp2_with fail
      refine (new_ok n 16 (by omega) (by omega) (by omega) (by omega) _).mono ?_
      rintro e w2 hm
      obtain ⟨b', rfl, hd⟩ := DK.out.more hm
      have D1 := Lib.hid hd
      clear hd hm
      have hcl : w2.cell? ⟨c, k, none⟩ = some (.pointer none) := by rw [D1.out.blk.cell, ptrs_cell b hlt]
      have hfr := D1.out.blk.frozen k
      have D2 := D1.out.store k (.pointer (some ⟨b', 0, none⟩))
      rw [ptrs_set b k b' hlt] at D2
      have D2 := Lib.hid D2
      clear D1 DK
      go_wp2_with fail
      clear hcl hfr
      obtain ⟨w3, hw3⟩ : ∃ w3, w3 = w2.setCell ⟨c, k, none⟩ (.pointer (some ⟨b', 0, none⟩)) := ⟨_, rfl⟩
      rw [← hw3] at D2 ⊢
      clear hw3
      go_wp2_with fail
      obtain ⟨b2, hb2⟩ : ∃ b2, b2 = put1 b k b' := ⟨_, rfl⟩
      have HB2 : Hid (b2 k = b') := Lib.hid (by rw [hb2, put1_self])
      rw [← hb2] at D2
      clear hb2
      go_loopw [11] (fun i wr => ∃ j : Nat, j ≤ la.length ∧ i = .int .i64 j ∧ Up0 la j ∧ Disks w wr (k + 1) b2 (put1 (keepD n la lb) k (wD n 1 la (DD.new n 16) j)) c 37 (ptrs b2 (k + 1))) (fun i _ => la.length - (intOf i).toNat)
      case atStart =>
        exact ⟨0, Nat.zero_le _, rfl, fun i hi => absurd hi (Nat.not_lt_zero _), D2.out⟩
      case round =>
        obtain ⟨j, hj, rfl, hUp, hD⟩ := hrel
        have DJ := Lib.hid hD
        have UJ := Lib.hid hUp
        clear hD hUp D2
        by_cases hjl : j < la.length
        · obtain ⟨g, off, cc, hve, _, hg, hcell⟩ := HA.out.open_ (by omega)
          injection hve with h1 h2 h3
          subst h1; subst h3
          have hcw := hcell j (.int .i64 la[j]) (by rw [List.getElem?_map, List.getElem?_eq_getElem hjl]; rfl)
          have hck := DJ.out.only.cell hcw id
          clear hcell
          have hwf := GA.out _ (List.getElem_mem hjl)
          simp [Lit.wf, IntKind.min, IntKind.max, IntKind.signed, IntKind.bits] at hwf
          obtain ⟨x, hx⟩ : ∃ x, x = la[j] := ⟨_, rfl⟩
          have HX : Hid (la[j]? = some x) := Lib.hid (by rw [hx]; exact List.getElem?_eq_getElem hjl)
          rw [← hx] at hck hwf hcw
          clear hx
          by_cases hneg : x < 0
          · go_wp2_with fail
            go_ret
            exact ⟨rfl, DJ.out.only⟩
          · obtain ⟨x, rfl⟩ := Int.eq_ofNat_of_zero_le (show 0 ≤ x by omega)
            have en : decide ((x : Int) < 0) = false := by simp
            clear hneg
            have hmod : x % n < n := Nat.mod_lt _ (by omega)
            have hx' := up_of HX.out
            have hU1 := UJ.out.snoc hx'
            have hca : DD.Calm n 16 j (wD n 1 la (DD.new n 16) j) := by have := wD_calm (off := 1) (by omega) (DD.Calm.new n 16) j UJ.out; rwa [Nat.zero_add] at this
            have hw0 := (wD_step (off := 1) (by omega) hca hx').2
            have hwr : ∀ w4 K v4, Only NoB wr w4 → Bytes w4 K v4 (bytesL (UInt8.ofNat (j + 1))) → Calls Try.prog 10 #[.pointer (some ⟨b', 0, none⟩), .int .i64 ((x : Int) % (n : Int)), v4] w4 (DisksR w (k + 1) b2 (put1 (keepD n la lb) k (wD n 1 la (DD.new n 16) (j + 1))) c 37 (ptrs b2 (k + 1)) (.int .i64 0)) := by
              intro w4 K v4 ho hb
              have hfew : Few (put1 (keepD n la lb) k (wD n 1 la (DD.new n 16) j) k) := by rw [put1_self]; exact hca.few (by omega)
              have := (DJ.out.quit ho).write (i := k) (by omega) (la.getD j 0 % (n : Int)) K v4 _ hb hfew
              rw [put1_self, put1_put1, HB2.out, hw0] at this
              rw [show (x : Int) % (n : Int) = la.getD j 0 % (n : Int) by rw [hx']]
              exact this
            have HWR := Lib.hid hwr
            have HU1 := Lib.hid hU1
            have hby : ∀ w, Calls Try.prog 11 #[.int .u8 ((j : Int) + 1)] w (BytesOut w (bytesL (UInt8.ofNat (j + 1)))) := bytes_int ((j : Int) + 1) (by omega) (by omega)
            have BY := Lib.hid hby
            have CW := Lib.hid hcw
            have kp : ∀ w', Only NoB w w' → w'.cell? ⟨g, off + j, none⟩ = some (.int .i64 x) := fun w' ho => ho.cell CW.out id
            have KP := Lib.hid kp
            have hwrap : IntKind.u8.wrap (IntKind.i64.wrap ((j : Int) + 1)) = (j : Int) + 1 := by
              simp only [IntKind.wrap, IntKind.signed, IntKind.bits]
              simp
              omega
            have WRP := Lib.hid hwrap
            have O3 := Lib.hid DJ.out.only
            clear hwr hU1 hby hcw kp hwrap hca hw0 hx' DJ
            go_wp2_with fail
            go_region_held (fun w' => w'.cell? ⟨g, off + j, none⟩ = some (.int .i64 x))
              (first | assumption | (exact KP.out _ O3.out.drew) | (exact KP.out _ h14) | (exact KP.out _ h15))
              (first
                | (go_at_call 11; (try rw [WRP.out]); refine (BY.out _).mono ?_; rintro e w4 ⟨v4, rfl, hb, ho⟩; have h13 := (Only.drew (Only.refl NoB wr)).trans ho; have h14 := O3.out.trans h13)
                | (go_at_call 10; refine (HWR.out _ _ _ h13 hb).mono ?_; rintro e w5 ⟨rfl, hl⟩; have h15 := hl.only))
            all_goals
              go_wp2_with fail
              exact ⟨⟨j + 1, by omega, by go_num, HU1.out, hl⟩, by simp [intOf]; omega⟩
        · obtain rfl : j = la.length := by omega
          have hca : DD.Calm n 16 la.length (wD n 1 la (DD.new n 16) la.length) := by have := wD_calm (off := 1) (by omega) (DD.Calm.new n 16) la.length UJ.out; rwa [Nat.zero_add] at this
          have hfl : Calls Try.prog 12 #[.pointer (some ⟨b', 0, none⟩)] wr (DisksR w (k + 1) b2 (put1 (keepD n la lb) k (keepE n la)) c 37 (ptrs b2 (k + 1)) (.int .i64 0)) := by
            have := DJ.out.flush (i := k) (by omega) (by rw [put1_self]; exact hca.few (by omega))
            rw [put1_self, put1_put1, HB2.out, hca.flush_eq] at this
            unfold keepE
            rw [hca.flush_eq]
            exact this
          have HFL := Lib.hid hfl
          clear hfl hca DJ
          go_wp2_with fail
          refine HFL.out.mono ?_
          rintro e w4 ⟨rfl, hd⟩
          have D4 := Lib.hid hd
          clear hd HFL hjl
          have UA := Lib.hid UJ.out
          clear UJ
          by_cases hk2 : k < 2
          · have e8 : decide ((k : Int) < 2) = true := by simp; omega
            go_wp2_with fail
            go_loopw [12] (fun i wr => ∃ j : Nat, j ≤ lb.length ∧ i = .int .i64 j ∧ Up0 lb j ∧ Disks w wr (k + 1) b2 (put1 (keepD n la lb) k (wD n 101 lb (keepE n la) j)) c 37 (ptrs b2 (k + 1))) (fun i _ => lb.length - (intOf i).toNat)
            case atStart =>
              exact ⟨0, Nat.zero_le _, rfl, fun i hi => absurd hi (Nat.not_lt_zero _), D4.out⟩
            case round =>
              obtain ⟨j, hj, rfl, hUp, hD⟩ := hrel
              have DL := Lib.hid hD
              have UL := Lib.hid hUp
              clear hD hUp D4
              by_cases hjl : j < lb.length
              · obtain ⟨g, off, cc, hve, _, hg, hcell⟩ := HB.out.open_ (by omega)
                injection hve with h1 h2 h3
                subst h1; subst h3
                have hcw := hcell j (.int .i64 lb[j]) (by rw [List.getElem?_map, List.getElem?_eq_getElem hjl]; rfl)
                have hck := DL.out.only.cell hcw id
                clear hcell
                have hwf := GB.out _ (List.getElem_mem hjl)
                simp [Lit.wf, IntKind.min, IntKind.max, IntKind.signed, IntKind.bits] at hwf
                obtain ⟨x, hx⟩ : ∃ x, x = lb[j] := ⟨_, rfl⟩
                have HX : Hid (lb[j]? = some x) := Lib.hid (by rw [hx]; exact List.getElem?_eq_getElem hjl)
                rw [← hx] at hck hwf hcw
                clear hx
                by_cases hneg : x < 0
                · go_wp2_with fail
                  go_ret
                  exact ⟨rfl, DL.out.only⟩
                · obtain ⟨x, rfl⟩ := Int.eq_ofNat_of_zero_le (show 0 ≤ x by omega)
                  have en : decide ((x : Int) < 0) = false := by simp
                  clear hneg
                  have hmod : x % n < n := Nat.mod_lt _ (by omega)
                  have hx' := up_of HX.out
                  have hU1 := UL.out.snoc hx'
                  have hca : DD.Calm n 16 (la.length + 1 + j) (wD n 101 lb (keepE n la) j) := wD_calm (off := 101) (by omega) (keepE_calm (by omega) UA.out) j UL.out
                  have hw0 := (wD_step (off := 101) (by omega) hca hx').2
                  have hwr : ∀ w4 K v4, Only NoB wr w4 → Bytes w4 K v4 (bytesL (UInt8.ofNat (j + 101))) → Calls Try.prog 10 #[.pointer (some ⟨b', 0, none⟩), .int .i64 ((x : Int) % (n : Int)), v4] w4 (DisksR w (k + 1) b2 (put1 (keepD n la lb) k (wD n 101 lb (keepE n la) (j + 1))) c 37 (ptrs b2 (k + 1)) (.int .i64 0)) := by
                    intro w4 K v4 ho hb
                    have hfew : Few (put1 (keepD n la lb) k (wD n 101 lb (keepE n la) j) k) := by rw [put1_self]; exact hca.few (by omega)
                    have := (DL.out.quit ho).write (i := k) (by omega) (lb.getD j 0 % (n : Int)) K v4 _ hb hfew
                    rw [put1_self, put1_put1, HB2.out, hw0] at this
                    rw [show (x : Int) % (n : Int) = lb.getD j 0 % (n : Int) by rw [hx']]
                    exact this
                  have HWR := Lib.hid hwr
                  have HU1 := Lib.hid hU1
                  have hby : ∀ w, Calls Try.prog 11 #[.int .u8 ((j : Int) + 101)] w (BytesOut w (bytesL (UInt8.ofNat (j + 101)))) := bytes_int ((j : Int) + 101) (by omega) (by omega)
                  have BY := Lib.hid hby
                  have CW := Lib.hid hcw
                  have kp : ∀ w', Only NoB w w' → w'.cell? ⟨g, off + j, none⟩ = some (.int .i64 x) := fun w' ho => ho.cell CW.out id
                  have KP := Lib.hid kp
                  have hwrap : IntKind.u8.wrap (IntKind.i64.wrap ((j : Int) + 101)) = (j : Int) + 101 := by
                    simp only [IntKind.wrap, IntKind.signed, IntKind.bits]
                    simp
                    omega
                  have WRP := Lib.hid hwrap
                  have O3 := Lib.hid DL.out.only
                  clear hwr hU1 hby hcw kp hwrap hca hw0 hx' DL
                  go_wp2_with fail
                  go_region_held (fun w' => w'.cell? ⟨g, off + j, none⟩ = some (.int .i64 x))
                    (first | assumption | (exact KP.out _ O3.out.drew) | (exact KP.out _ h14) | (exact KP.out _ h15))
                    (first
                      | (go_at_call 11; (try rw [WRP.out]); refine (BY.out _).mono ?_; rintro e w4 ⟨v4, rfl, hb, ho⟩; have h13 := (Only.drew (Only.refl NoB wr)).trans ho; have h14 := O3.out.trans h13)
                      | (go_at_call 10; refine (HWR.out _ _ _ h13 hb).mono ?_; rintro e w5 ⟨rfl, hl⟩; have h15 := hl.only))
                  all_goals
                    go_wp2_with fail
                    exact ⟨⟨j + 1, by omega, by go_num, HU1.out, hl⟩, by simp [intOf]; omega⟩
              · obtain rfl : j = lb.length := by omega
                have D5 := DL.out
                rw [show wD n 101 lb (keepE n la) lb.length = keepX n la lb from rfl, put1_keepX hk2] at D5
                have D5 := Lib.hid D5
                clear DL
                go_wp2_with fail
                exact ⟨⟨k + 1, by omega, by go_num, b2, D5.out, fun _ => ⟨UA.out, UL.out⟩⟩, by simp [intOf]; omega⟩
          · have e8 : decide ((k : Int) < 2) = false := by simp; omega
            have D5 := D4.out
            rw [put1_keepE hk2] at D5
            have D5 := Lib.hid D5
            clear D4
            go_wp2_with fail
            go_loopw [12] (fun i wr => i = .int .i64 0 ∧ Disks w wr (k + 1) b2 (keepD n la lb) c 37 (ptrs b2 (k + 1))) (fun i _ => 0)
            case atStart =>
              exact ⟨rfl, D5.out⟩
            case round =>
              obtain ⟨rfl, hD⟩ := hrel
              have DL := Lib.hid hD
              clear hD D5
              by_cases hl0 : (0 : Int) < lb.length
              · go_wp2_with fail
                exact ⟨⟨k + 1, by omega, by go_num, b2, DL.out, fun _ => ⟨UA.out, (UK.out (by omega)).2⟩⟩, by simp [intOf]; omega⟩
              · go_wp2_with fail
                exact ⟨⟨k + 1, by omega, by go_num, b2, DL.out, fun _ => ⟨UA.out, (UK.out (by omega)).2⟩⟩, by simp [intOf]; omega⟩
    · obtain rfl : k = 3 := by omega
      have UA := Lib.hid (UK.out (by omega)).1
      have UL := Lib.hid (UK.out (by omega)).2
      clear UK hlt hk
      obtain ⟨w4, hmk, hblk, ho⟩ := make_bools lb.length (by omega) wr
      have B0 := Lib.hid hblk
      have O0 := Lib.hid ho
      clear hblk ho
      obtain ⟨c2, hc2⟩ : ∃ c2, c2 = wr.heap.size := ⟨_, rfl⟩
      rw [← hc2] at hmk B0
      have C2 := Lib.hid hc2
      clear hc2
      go_wp2_with fail
      clear hmk
      go_loopw [14] (fun i w' => ∃ j : Nat, j ≤ lb.length ∧ i = .int .i64 j ∧ Only NoB wr w' ∧ Blk w' c2 4 ((trues lb.length j).map boolV).toArray) (fun i _ => lb.length - (intOf i).toNat)
      case atStart =>
        exact ⟨0, Nat.zero_le _, rfl, O0.out, B0.out⟩
      case round =>
        obtain ⟨j, hj, rfl, ho, hB⟩ := hrel
        have OJ := Lib.hid ho
        have BJ := Lib.hid hB
        clear ho hB O0 B0
        by_cases hjl : j < lb.length
        · obtain ⟨o, hcl⟩ := trues_cell BJ.out (by omega) hjl
          have hfr := BJ.out.frozen j
          have B1 := Lib.hid (trues_store BJ.out hjl)
          have O1 := Lib.hid (only_new OJ.out ((Only.refl (fun k => k = c2) _).setCell (p := ⟨c2, j, none⟩) (.inl rfl) (.bool true)) (fun k hk => by subst hk; exact Nat.le_of_eq C2.out.symm))
          go_wp2_with fail
          exact ⟨⟨j + 1, by omega, by go_num, O1.out, B1.out⟩, by simp [intOf]; omega⟩
        · obtain rfl : j = lb.length := by omega
          have HC := Lib.hid (DK.out.crash (i := 0) (by omega) OJ.out _ _ (trues_bools BJ.out (Nat.le_of_eq C2.out.symm)) (by simp; omega))
          have hp := disks_ptr (DK.out.quit OJ.out) (i := 0) (by omega)
          clear hjl
          go_wp2_with fail
          clear hp
          refine HC.out.mono ?_
          rintro e w5 ⟨rfl, hd⟩
          have D5 := Lib.hid hd
          clear hd HC DK OJ BJ
          have HC := Lib.hid (D5.out.on (i := 0) (by omega))
          have hp := disks_ptr D5.out (i := 0) (by omega)
          go_wp2_with fail
          clear hp
          refine HC.out.mono ?_
          rintro e w6 ⟨rfl, hd⟩
          rw [put1_self, put1_put1] at hd
          have D6 := Lib.hid hd
          clear hd HC D5
          have HC := Lib.hid (D6.out.crash (i := 1) (by omega) (Only.refl _ _) (.slice none 0 0) [] (Rd.nil _ _ _) (by simp))
          have hp := disks_ptr D6.out (i := 1) (by omega)
          go_wp2_with fail
          clear hp
          refine HC.out.mono ?_
          rintro e w7 ⟨rfl, hd⟩
          have D7 := Lib.hid hd
          clear hd HC D6
          have HC := Lib.hid (D7.out.on (i := 1) (by omega))
          have hp := disks_ptr D7.out (i := 1) (by omega)
          go_wp2_with fail
          clear hp
          refine HC.out.mono ?_
          rintro e w8 ⟨rfl, hd⟩
          rw [put1_self, put1_put1] at hd
          rw [show put1 (keepD n la lb) 0 (DD.on (DD.crash (List.replicate lb.length true) (keepD n la lb 0))) 1 = keepX n la lb from rfl, show keepD n la lb 0 = keepX n la lb from rfl, finD_first] at hd
          have D8 := Lib.hid hd
          clear hd HC D7
          have CX := Lib.hid (keepX_calm (by omega) UA.out UL.out : DD.Calm n 16 _ (keepX n la lb))
          have CE := Lib.hid (keepE_calm (by omega) UA.out : DD.Calm n 16 _ (keepE n la))
          go_wp2_with fail
          go_loopw [15] (fun i w' => ∃ j : Nat, j ≤ lb.length ∧ i = .int .i64 j ∧ Only NoB w8 w') (fun i _ => lb.length - (intOf i).toNat)
          case atStart =>
            exact ⟨0, Nat.zero_le _, rfl, Only.refl _ _⟩
          case round =>
            obtain ⟨j, hj, rfl, ho⟩ := hrel
            have OJ := Lib.hid ho
            clear ho
            by_cases hjl : j < lb.length
            · obtain ⟨x, hx⟩ := UL.out j hjl
              have hx' : lb[j]? = some (x : Int) := by rw [List.getD_eq_getElem?_getD, List.getElem?_eq_getElem hjl] at hx; rw [List.getElem?_eq_getElem hjl]; exact congrArg some hx
              obtain ⟨g, off, cc, hve, _, hg, hcell⟩ := HB.out.open_ (by omega)
              injection hve with h1 h2 h3
              subst h1; subst h3
              have hcw := hcell j (.int .i64 x) (by rw [List.getElem?_map, hx']; rfl)
              have hmod : x % n < n := Nat.mod_lt _ (by omega)
              have kp : ∀ w', Only NoB w8 w' → w'.cell? ⟨g, off + j, none⟩ = some (.int .i64 x) ∧ w'.cell? ⟨c, 1, none⟩ = some (.pointer (some ⟨b 1, 0, none⟩)) ∧ w'.cell? ⟨c, 2, none⟩ = some (.pointer (some ⟨b 2, 0, none⟩)) := fun w' ho => ⟨(D8.out.only.trans ho).cell hcw id, disks_ptr (D8.out.quit ho) (by omega), disks_ptr (D8.out.quit ho) (by omega)⟩
              have KP := Lib.hid kp
              have r1 : ∀ w', Only NoB w8 w' → Calls Try.prog 15 #[.pointer (some ⟨b 1, 0, none⟩), .int .i64 ((x : Int) % (n : Int))] w' (ReadC w' ((keepE n la).at_ (x % n))) := fun w' ho => by
                rw [← keep_none (by omega) UA.out UL.out]
                exact disks_readc (D8.out.quit ho) (i := 1) (s := x % n) (by omega) (CX.out.crash_calm []).1 hmod
              have R1 := Lib.hid r1
              have r2 : ∀ w', Only NoB w8 w' → Calls Try.prog 15 #[.pointer (some ⟨b 2, 0, none⟩), .int .i64 ((x : Int) % (n : Int))] w' (ReadC w' ((keepE n la).at_ (x % n))) := fun w' ho => disks_readc (D8.out.quit ho) (i := 2) (s := x % n) (by omega) CE.out hmod
              have R2 := Lib.hid r2
              obtain ⟨S, hS⟩ : ∃ S, S = (keepE n la).at_ (x % n) := ⟨_, rfl⟩
              rw [← hS] at R1 R2
              clear hS r1 r2 kp hcw hcell hx hx'
              have k1 := KP.out _ OJ.out
              go_wp2_with fail
              clear k1
              go_region_held (fun w' => w'.cell? ⟨g, off + j, none⟩ = some (.int .i64 x) ∧ w'.cell? ⟨c, 1, none⟩ = some (.pointer (some ⟨b 1, 0, none⟩)) ∧ w'.cell? ⟨c, 2, none⟩ = some (.pointer (some ⟨b 2, 0, none⟩)))
                (first | (exact KP.out _ OJ.out.drew) | (exact KP.out _ h14))
                (first | (go_at_call 15; refine (R1.out _ OJ.out.drew).mono ?_; rintro e w9 ⟨A6, c6, rfl, ho6, hcv6⟩; have h14 := OJ.out.drew.trans ho6) | fail)
              have H14 := Lib.hid h14
              have CV6 := Lib.hid hcv6
              clear h14 hcv6 ho6
              have k1 := KP.out _ H14.out
              go_wp2_with fail
              clear k1
              go_region_held (fun w' => w'.cell? ⟨g, off + j, none⟩ = some (.int .i64 x) ∧ w'.cell? ⟨c, 1, none⟩ = some (.pointer (some ⟨b 1, 0, none⟩)) ∧ w'.cell? ⟨c, 2, none⟩ = some (.pointer (some ⟨b 2, 0, none⟩)))
                (first | (exact KP.out _ H14.out.drew) | (exact KP.out _ h15))
                (first | (go_at_call 15; refine (R2.out _ H14.out.drew).mono ?_; rintro e w10 ⟨A7, c7, rfl, ho7, hcv7⟩; have h15 := H14.out.drew.trans ho7) | fail)
              have cv6 := CV6.out w10 ((Only.refl NoB w9).drew.trans ho7)
              have cv7 := hcv7 w10 (Only.refl _ _)
              have H15 := Lib.hid h15
              clear h15 hcv7 ho7
              have heq : (S == S) = true := by simp
              go_wp2_with fail
              exact ⟨⟨j + 1, by omega, by go_num, H15.out⟩, by simp [intOf]; omega⟩
            · obtain rfl : j = lb.length := by omega
              have D9 := Lib.hid (D8.out.quit OJ.out)
              clear D8 OJ hjl
              go_wp2_with fail
              go_loopw [20] (fun i wr => ∃ j : Nat, j ≤ lb.length ∧ i = .int .i64 j ∧ Disks w wr 3 b (finD n la lb (wD n 101 lb (keepE n la) j)) c 37 (ptrs b 3)) (fun i _ => lb.length - (intOf i).toNat)
              case atStart =>
                exact ⟨0, Nat.zero_le _, rfl, D9.out⟩
              case round =>
                obtain ⟨j, hj, rfl, hD⟩ := hrel
                have DL := Lib.hid hD
                clear hD D9
                by_cases hjl : j < lb.length
                · obtain ⟨x, hx⟩ := UL.out j hjl
                  have hx' : lb[j]? = some (x : Int) := by rw [List.getD_eq_getElem?_getD, List.getElem?_eq_getElem hjl] at hx; rw [List.getElem?_eq_getElem hjl]; exact congrArg some hx
                  obtain ⟨g, off, cc, hve, _, hg, hcell⟩ := HB.out.open_ (by omega)
                  injection hve with h1 h2 h3
                  subst h1; subst h3
                  have hcw := hcell j (.int .i64 x) (by rw [List.getElem?_map, hx']; rfl)
                  have hmod : x % n < n := Nat.mod_lt _ (by omega)
                  have hca : DD.Calm n 16 (la.length + 1 + j) (wD n 101 lb (keepE n la) j) := wD_calm (off := 101) (by omega) CE.out j fun i hi => UL.out i (by omega)
                  have hw0 := (wD_step (off := 101) (by omega) hca hx).2
                  have hwr : ∀ w4 K v4, Only NoB wr w4 → Bytes w4 K v4 (bytesL (UInt8.ofNat (j + 101))) → Calls Try.prog 10 #[.pointer (some ⟨b 2, 0, none⟩), .int .i64 ((x : Int) % (n : Int)), v4] w4 (DisksR w 3 b (finD n la lb (wD n 101 lb (keepE n la) (j + 1))) c 37 (ptrs b 3) (.int .i64 0)) := by
                    intro w4 K v4 ho hb
                    have hfew : Few (finD n la lb (wD n 101 lb (keepE n la) j) 2) := hca.few (by omega)
                    have := (DL.out.quit ho).write (i := 2) (by omega) (lb.getD j 0 % (n : Int)) K v4 _ hb hfew
                    rw [finD_put, show finD n la lb (wD n 101 lb (keepE n la) j) 2 = wD n 101 lb (keepE n la) j from rfl, hw0] at this
                    rw [show (x : Int) % (n : Int) = lb.getD j 0 % (n : Int) by rw [hx]]
                    exact this
                  have HWR := Lib.hid hwr
                  have hby : ∀ w, Calls Try.prog 11 #[.int .u8 ((j : Int) + 101)] w (BytesOut w (bytesL (UInt8.ofNat (j + 101)))) := bytes_int ((j : Int) + 101) (by omega) (by omega)
                  have BY := Lib.hid hby
                  have kp : ∀ w', Only NoB wr w' → w'.cell? ⟨g, off + j, none⟩ = some (.int .i64 x) ∧ w'.cell? ⟨c, 2, none⟩ = some (.pointer (some ⟨b 2, 0, none⟩)) := fun w' ho => ⟨(DL.out.only.trans ho).cell hcw id, disks_ptr (DL.out.quit ho) (by omega)⟩
                  have KP := Lib.hid kp
                  have hwrap : IntKind.u8.wrap (IntKind.i64.wrap ((j : Int) + 101)) = (j : Int) + 101 := by
                    simp only [IntKind.wrap, IntKind.signed, IntKind.bits]
                    simp
                    omega
                  have WRP := Lib.hid hwrap
                  have k1 := kp wr (Only.refl _ _)
                  have P2 : Hid (∀ w', Disks w w' 3 b (finD n la lb (wD n 101 lb (keepE n la) (j + 1))) c 37 (ptrs b 3) → w'.cell? ⟨g, off + j, none⟩ = some (.int .i64 x) ∧ w'.cell? ⟨c, 2, none⟩ = some (.pointer (some ⟨b 2, 0, none⟩))) := Lib.hid fun w' hd => ⟨hd.only.cell hcw id, disks_ptr hd (by omega)⟩
                  clear hwr hby hcw kp hwrap hca hw0 hx' DL hcell hx
                  go_wp2_with fail
                  clear k1
                  go_region_held (fun w' => w'.cell? ⟨g, off + j, none⟩ = some (.int .i64 x) ∧ w'.cell? ⟨c, 2, none⟩ = some (.pointer (some ⟨b 2, 0, none⟩)))
                    (first | (exact KP.out _ (Only.drew (Only.refl NoB wr))) | (exact KP.out _ h13) | (exact P2.out _ hl))
                    (first
                      | (go_at_call 11; (try rw [WRP.out]); refine (BY.out _).mono ?_; rintro e w4 ⟨v4, rfl, hb, ho⟩; have h13 := (Only.drew (Only.refl NoB wr)).trans ho)
                      | (go_at_call 10; refine (HWR.out _ _ _ h13 hb).mono ?_; rintro e w5 ⟨rfl, hl⟩))
                  all_goals
                    go_wp2_with fail
                    exact ⟨⟨j + 1, by omega, by go_num, hl⟩, by simp [intOf]; omega⟩
                · obtain rfl : j = lb.length := by omega
                  have HC := DL.out.flush (i := 2) (by omega) (CX.out.few (by omega))
                  rw [finD_put, show finD n la lb (wD n 101 lb (keepE n la) lb.length) 2 = keepX n la lb from rfl] at HC
                  rw [show (DD.flush (keepX n la lb)).2 = 0 by rw [CX.out.flush_eq]] at HC
                  have HC := Lib.hid HC
                  have hp := disks_ptr DL.out (i := 2) (by omega)
                  clear hjl
                  go_wp2_with fail
                  clear hp
                  refine HC.out.mono ?_
                  rintro e w11 ⟨rfl, hd⟩
                  have D11 := Lib.hid hd
                  clear hd HC DL
                  go_wp2_with fail
                  go_loopw [21] (fun i w' => ∃ s : Nat, s ≤ n ∧ i = .int .i64 s ∧ Only NoB w11 w') (fun i _ => n - (intOf i).toNat)
                  case atStart =>
                    exact ⟨0, Nat.zero_le _, rfl, Only.refl _ _⟩
                  case round =>
                    obtain ⟨s, hs, rfl, ho⟩ := hrel
                    have OS := Lib.hid ho
                    clear ho
                    by_cases hsl : s < n
                    · have r1 : ∀ w', Only NoB w11 w' → Calls Try.prog 15 #[.pointer (some ⟨b 0, 0, none⟩), .int .i64 s] w' (ReadC w' ((DD.flush (keepX n la lb)).1.at_ s)) := fun w' ho => by
                        rw [← keep_all (by omega) UA.out UL.out]
                        exact disks_readc (D11.out.quit ho) (i := 0) (s := s) (by omega) (CX.out.crash_calm _).1 hsl
                      have R1 := Lib.hid r1
                      have r2 : ∀ w', Only NoB w11 w' → Calls Try.prog 15 #[.pointer (some ⟨b 2, 0, none⟩), .int .i64 s] w' (ReadC w' ((DD.flush (keepX n la lb)).1.at_ s)) := fun w' ho => disks_readc (D11.out.quit ho) (i := 2) (s := s) (by omega) CX.out.flush_calm hsl
                      have R2 := Lib.hid r2
                      obtain ⟨S, hS⟩ : ∃ S, S = (DD.flush (keepX n la lb)).1.at_ s := ⟨_, rfl⟩
                      rw [← hS] at R1 R2
                      clear hS r1 r2
                      have hp := disks_ptr (D11.out.quit OS.out) (i := 0) (by omega)
                      go_wp2_with fail
                      clear hp
                      refine (R1.out _ OS.out).mono ?_
                      rintro e w12 ⟨A6, c6, rfl, ho6, hcv6⟩
                      have h14 := OS.out.trans ho6
                      have H14 := Lib.hid h14
                      have CV6 := Lib.hid hcv6
                      clear h14 hcv6 ho6
                      have hp := disks_ptr (D11.out.quit H14.out) (i := 2) (by omega)
                      go_wp2_with fail
                      clear hp
                      refine (R2.out _ H14.out).mono ?_
                      rintro e w13 ⟨A7, c7, rfl, ho7, hcv7⟩
                      have cv6 := CV6.out w13 ho7
                      have cv7 := hcv7 w13 (Only.refl _ _)
                      have H15 := Lib.hid (H14.out.trans ho7)
                      clear hcv7 ho7
                      have heq : (S == S) = true := by simp
                      go_wp2_with fail
                      exact ⟨⟨s + 1, by omega, by go_num, H15.out⟩, by simp [intOf]; omega⟩
                    · have O := Lib.hid (D11.out.only.trans OS.out)
                      obtain rfl : s = n := by omega
                      clear D11 OS
                      go_wp2_with fail
                      refine (awake_any _).mono ?_
                      rintro e w14 ⟨rfl, ho⟩
                      have O7 := Lib.hid (O.out.trans ho)
                      clear ho
                      go_wp2_with fail
                      go_ret
                      exact ⟨rfl, O7.out⟩
end Go.Proofs.Ytllodjcfcjmocaa
