import Derived.Test.YtllodjcfcjmocaaBeside
import Derived.Test.YtllodjcfcjmocaaHeld
/- WHAT A CRASH KEEPS. -/
namespace Go.Proofs.Ytllodjcfcjmocaa
open Go.RowKit Go.Proofs

theorem make_bytes (n : Nat) (h : n ≤ 1000000) (w : World) : ∃ w', (Instr.makeSlice 28 (.int .i64 n) (.int .i64 n)).run Try.prog w = .ok (.slice (some ⟨w.heap.size, 0, none⟩) n n) w' ∧ Blk w' w.heap.size 5 ((List.replicate n (0 : UInt8)).map byteV).toArray ∧ Only NoB w w' := by
  obtain ⟨w', h1, h2, h3⟩ := run_mk (P := Try.prog) (w := w) Ty.bytesU Ty.byte .i64 .i64 n (by omega)
  refine ⟨w', h1, ?_, h3⟩
  rw [List.map_replicate]
  have := madeCells_one (.int .u8 0) n
  rw [show (Value.int .u8 0).cells = #[.int .u8 0] from rfl, this] at h2
  exact h2
/-- Ahead of the crash: each sector holds what the law's array says. -/
structure Says (n k : Nat) (D : DD) (l : List UInt8) : Prop where
  calm : DD.Calm n 16 k D
  len : l.length = n
  at_ : ∀ s (h : s < l.length), D.at_ s = bytesL l[s]
theorem Says.new (n : Nat) : Says n 0 (DD.new n 16) (List.replicate n 0) := ⟨.new n 16, by simp, fun s h => by simp at h; simp; rfl⟩
theorem Says.flush {n k : Nat} {D : DD} {l : List UInt8} (h : Says n k D l) : Says n (k + 1) (DD.flush D).1 l :=
  ⟨h.calm.flush_calm, h.len, fun s hs => (h.calm.flush_at s).trans (h.at_ s hs)⟩
theorem Says.write {n k : Nat} {D : DD} {l : List UInt8} (h : Says n k D l) {s : Nat} (hs : s < n) (x : UInt8) : Says n (k + 1) (DD.write (s : Int) (bytesL x) D).1 (l.set s x) := by
  refine ⟨h.calm.write_calm hs rfl, by simp [h.len], fun t ht => ?_⟩
  rw [h.calm.write_at hs rfl]
  simp at ht
  by_cases hts : t = s
  · subst hts; simp
  · rw [if_neg hts, List.getElem_set_ne (by omega)]
    exact h.at_ t ht

/-- Ahead of the crash, behind k of the writes that it may take away. -/
structure Behind (n q k : Nat) (lb : List Int) (l : List UInt8) (D : DD) : Prop where
  calm : DD.Calm n 16 (q + k) D
  len : l.length = n
  done : ∀ s (h : s < l.length), D.done s = bytesL l[s]
  clen : D.cache.length = k
  each : ∀ i, i < k → ∃ x : Nat, lb[i]? = some (x : Int) ∧ D.cache[i]? = some (x % n, bytesL (UInt8.ofNat (i + 101)))
theorem Says.behind {n q : Nat} {lb : List Int} {D : DD} {l : List UInt8} (h : Says n q D l) (hc : D.cache = []) (hd : ∀ t, D.done t = D.at_ t) : Behind n q 0 lb l D :=
  ⟨h.calm, h.len, fun s hs => (hd s).trans (h.at_ s hs), by rw [hc]; rfl, fun i hi => by omega⟩
theorem Behind.write {n q k : Nat} {lb : List Int} {l : List UInt8} {D : DD} (h : Behind n q k lb l D) {x : Nat} (hx : lb[k]? = some (x : Int)) (hs : x % n < n) :
    Behind n q (k + 1) lb l (DD.write ((x % n : Nat) : Int) (bytesL (UInt8.ofNat (k + 101))) D).1 := by
  refine ⟨h.calm.write_calm hs rfl, h.len, ?_, ?_, fun i hi => ?_⟩
  · rw [h.calm.write_eq hs rfl]; exact h.done
  · rw [h.calm.write_eq hs rfl]; simp [DD.put, h.clen]
  · rw [h.calm.write_eq hs rfl]
    show ∃ y : Nat, lb[i]? = some (y : Int) ∧ (D.cache ++ [(((x % n : Nat) : Int).toNat, bytesL (UInt8.ofNat (k + 101)))])[i]? = some (y % n, bytesL (UInt8.ofNat (i + 101)))
    by_cases hik : i < k
    · obtain ⟨y, h1, h2⟩ := h.each i hik
      exact ⟨y, h1, by rw [List.getElem?_append_left (by rw [h.clen]; exact hik)]; exact h2⟩
    · obtain rfl : i = k := by omega
      exact ⟨x, hx, by rw [List.getElem?_append_right (by rw [h.clen]; exact Nat.le_refl _), h.clen, Nat.sub_self]; exact congrArg some (Prod.ext (Int.toNat_natCast _) rfl)⟩
/-- What the crash left. -/
structure Left (n q : Nat) (lb : List Int) (lk : List Bool) (l : List UInt8) (D : DD) : Prop where
  calm : DD.Calm n 16 q D
  len : l.length = n
  old : ∀ i, i < lb.length → ∃ x : Nat, lb[i]? = some (x : Int)
  left : ∀ s (h : s < l.length), D.at_ s = bytesL l[s] ∨ ∃ i x : Nat, lb[i]? = some (x : Int) ∧ x % n = s ∧ lk[i]? = some true ∧ D.at_ s = bytesL (UInt8.ofNat (i + 101))
/-- No write of the first j says what the sector s holds. -/
structure Miss (n j s : Nat) (lb : List Int) (lk : List Bool) (l : List UInt8) (D : DD) : Prop where
  old : ∀ h : s < l.length, D.at_ s ≠ bytesL l[s]
  each : ∀ i, i < j → ∀ x : Nat, lb[i]? = some (x : Int) → x % n = s → lk[i]? = some true → D.at_ s ≠ bytesL (UInt8.ofNat (i + 101))
theorem Miss.absurd {n q s : Nat} {lb : List Int} {lk : List Bool} {l : List UInt8} {D : DD} (h : Miss n lb.length s lb lk l D) (hl : Left n q lb lk l D) (hs : s < l.length) : False := by
  rcases hl.left s hs with he | ⟨i, x, h1, h2, h3, h4⟩
  · exact h.old hs he
  · exact h.each i (List.getElem?_eq_some_iff.1 h1).1 x h1 h2 h3 h4
theorem Miss.next {n j s x : Nat} {lb : List Int} {lk : List Bool} {l : List UInt8} {D : DD} (h : Miss n j s lb lk l D) (hx : lb[j]? = some (x : Int)) (hn : x % n = s → lk[j]? = some true → D.at_ s ≠ bytesL (UInt8.ofNat (j + 101))) : Miss n (j + 1) s lb lk l D :=
  ⟨h.old, fun i hi y hy h1 h2 => by
    by_cases hij : i < j
    · exact h.each i hij y hy h1 h2
    · obtain rfl : i = j := by omega
      rw [hx] at hy
      have : x = y := by injection hy with hy; exact Int.ofNat.inj hy
      subst this
      exact hn h1 h2⟩
theorem Behind.left {n q : Nat} {lb : List Int} {l : List UInt8} {D : DD} (h : Behind n q lb.length lb l D) (lk : List Bool) : Left n (q + lb.length) lb lk l (DD.on (DD.crash lk D)) := by
  obtain ⟨h1, h2⟩ := h.calm.crash_calm lk
  refine ⟨h1, h.len, fun i hi => let ⟨x, hx, _⟩ := h.each i hi; ⟨x, hx⟩, fun s hs => ?_⟩
  rw [h2]
  rcases DD.applyC_some (DD.kept lk) s D.cache 0 D.done with he | ⟨j, c, hj, hc, hi, he⟩
  · exact .inl (he.trans (h.done s hs))
  · have hjl : j < lb.length := by rw [← h.clen]; exact (List.getElem?_eq_some_iff.1 hj).1
    obtain ⟨x, hx, hx2⟩ := h.each j hjl
    rw [hx2] at hj
    injection hj with hj
    subst hj
    refine .inr ⟨j, x, hx, hc, ?_, he⟩
    unfold DD.kept at hi
    rw [Nat.zero_add, List.getD_eq_getElem?_getD] at hi
    cases hk : lk[j]? with
    | none => rw [hk] at hi; cases hi
    | some v => rw [hk] at hi; exact congrArg some hi

set_option maxRecDepth 4096 in
set_option maxHeartbeats 16000000 in
theorem diskCrashes_walk (w : World) (n : Int) (hn : (Lit.int .i64 n).wf = true) (va : Value) (la : List Int) (ha : Ints w (Old w) va la) (ga : ∀ n ∈ la, (Lit.int .i64 n).wf = true)
    (vb : Value) (lb : List Int) (hb : Ints w (Old w) vb lb) (gb : ∀ n ∈ lb, (Lit.int .i64 n).wf = true) (vk : Value) (lk : List Bool) (hk : Bools w (Old w) vk lk) :
    Calls Try.prog 3 #[.int .i64 n, va, vb, vk] w (Quit w (.bool true)) := by
  obtain ⟨Aa, ca, rfl, _⟩ := id ha
  obtain ⟨Ab, cb, rfl, _⟩ := id hb
  obtain ⟨Ak, ck, rfl, _⟩ := id hk
  have HA := Lib.hid ha
  have GA := Lib.hid ga
  have HB := Lib.hid hb
  have GB := Lib.hid gb
  have HK := Lib.hid hk
  clear ha ga hb gb hk
  simp [Lit.wf, IntKind.min, IntKind.max, IntKind.signed, IntKind.bits] at hn
  by_cases h1 : n < 1
  · go_enter Try.func3, Try.ntmps3
    go_wp2_with fail
    go_ret
    exact ⟨rfl, Only.refl _ _⟩
  have e1 : decide (n < 1) = false := by simpa using h1
  by_cases h2 : n > 30
  · clear h1
    go_enter Try.func3, Try.ntmps3
    go_wp2_with fail
    go_ret
    exact ⟨rfl, Only.refl _ _⟩
  have e2 : decide (n > 30) = false := by simpa using h2
  by_cases h3 : ((la.length : Int) > 100)
  · clear h1 h2
    go_enter Try.func3, Try.ntmps3
    go_wp2_with fail
    go_ret
    exact ⟨rfl, Only.refl _ _⟩
  have e3 : decide ((la.length : Int) > 100) = false := by simpa using h3
  by_cases h4 : ((lb.length : Int) > 100)
  · clear h1 h2 h3
    go_enter Try.func3, Try.ntmps3
    go_wp2_with fail
    go_ret
    exact ⟨rfl, Only.refl _ _⟩
  have e4 : decide ((lb.length : Int) > 100) = false := by simpa using h4
  by_cases h5 : ((lk.length : Int) > 200)
  · clear h1 h2 h3 h4
    go_enter Try.func3, Try.ntmps3
    go_wp2_with fail
    go_ret
    exact ⟨rfl, Only.refl _ _⟩
  have e5 : decide ((lk.length : Int) > 200) = false := by simpa using h5
  obtain ⟨n, rfl⟩ := Int.eq_ofNat_of_zero_le (show 0 ≤ n by omega)
  have hn1 : 1 ≤ n := by omega
  have hn2 : n ≤ 30 := by omega
  have hla : la.length ≤ 100 := by omega
  have hlb : lb.length ≤ 100 := by omega
  have hlk : lk.length ≤ 200 := by omega
  clear h1 h2 h3 h4 h5 hn
  go_enter Try.func3, Try.ntmps3
  go_wp2_with fail
  refine (new_ok n 16 (by omega) (by omega) (by omega) (by omega) _).mono ?_
  rintro e w1 hm
  obtain ⟨b, rfl, hl⟩ := Live.made hm
  have L1 := Lib.hid hl
  clear hl hm
  obtain ⟨w2, hmk, hblk, ho⟩ := make_bytes n (by omega) w1
  have B0 := Lib.hid (L1.out.beside ho hblk)
  clear hblk ho
  go_wp2_with fail
  clear hmk
  have hc : ∃ c, c = w1.heap.size := ⟨_, rfl⟩
  obtain ⟨c, hc⟩ := hc
  rw [← hc] at B0 ⊢
  clear L1 hc
  go_loopw [12] (fun i wr => ∃ k : Nat, k ≤ la.length ∧ i = .int .i64 k ∧ ∃ D l, Beside w wr b D c l ∧ Says n k D l) (fun i _ => la.length - (intOf i).toNat)
  case atStart =>
    exact ⟨0, Nat.zero_le _, rfl, _, _, B0.out, .new n⟩
  case round =>
    obtain ⟨k, hk, rfl, D, l, hL, hI⟩ := hrel
    have LK := Lib.hid hL
    have IK := Lib.hid hI
    clear hL hI B0
    by_cases hlt : k < la.length
    · obtain ⟨g, off, cc, hve, _, hg, hcell⟩ := HA.out.open_ (by omega)
      injection hve with h1 h2 h3
      subst h1; subst h3
      have hcw := hcell k (.int .i64 la[k]) (by rw [List.getElem?_map, List.getElem?_eq_getElem hlt]; rfl)
      have hck := LK.out.only.cell hcw id
      clear hcell
      have hwf := GA.out _ (List.getElem_mem hlt)
      simp [Lit.wf, IntKind.min, IntKind.max, IntKind.signed, IntKind.bits] at hwf
      obtain ⟨x, hx⟩ : ∃ x, x = la[k] := ⟨_, rfl⟩
      rw [← hx] at hck hwf hcw
      clear hx
      by_cases hneg : x < 0
      · go_wp2_with fail
        go_ret
        exact ⟨rfl, LK.out.only⟩
      · obtain ⟨x, rfl⟩ := Int.eq_ofNat_of_zero_le (show 0 ≤ x by omega)
        have en : decide ((x : Int) < 0) = false := by simp
        clear hneg
        have hmod : x % n < n := Nat.mod_lt _ (by omega)
        have hfr := LK.out.frozen (x % n)
        have hcl := LK.out.cell (i := x % n) (by rw [IK.out.len]; exact hmod)
        have hlt2 : (x : Int) % (n : Int) < (n : Int) := Int.emod_lt_of_pos _ (by omega)
        go_wp2_with fail
        have hx3 : (UInt8.ofNat (k + 1)).toNat = k + 1 := by rw [UInt8.toNat_ofNat']; omega
        have B3 := LK.out.set_ (x % n) (UInt8.ofNat (k + 1))
        rw [hx3] at B3
        have hby : ∀ w, Calls Try.prog 11 #[.int .u8 ((k : Int) + 1)] w (BytesOut w (bytesL (UInt8.ofNat (k + 1)))) := bytes_int ((k : Int) + 1) (by omega) (by omega)
        have hw0 : (DD.write ((x : Int) % (n : Int)) (bytesL (UInt8.ofNat (k + 1))) D).2 = 0 := by
          rw [show (x : Int) % (n : Int) = ((x % n : Nat) : Int) from rfl, IK.out.calm.write_eq hmod rfl]
        have hfew := IK.out.calm.few (by omega)
        obtain ⟨w3, hw3⟩ : ∃ w3, w3 = wr.setCell ⟨c, x % n, none⟩ (.int .u8 ((k : Int) + 1)) := ⟨_, rfl⟩
        rw [← hw3]
        rw [show (wr.setCell ⟨c, x % n, none⟩ (.int .u8 ((k + 1 : Nat) : Int))) = w3 from hw3.symm] at B3
        have hck3 := B3.only.cell hcw id
        have W3 := Lib.hid B3
        have BY := Lib.hid hby
        have W0 := Lib.hid hw0
        have FW := Lib.hid hfew
        have CK := Lib.hid hck3
        have CW : Hid (w.cell? ⟨g, off + k, none⟩ = some (.int .i64 x)) := Lib.hid hcw
        have kp : ∀ w', Only NoB w w' → w'.cell? ⟨g, off + k, none⟩ = some (.int .i64 x) := fun w' ho => ho.cell CW.out id
        have KP := Lib.hid kp
        have hwr : ∀ w4 K v4, Only NoB w3 w4 → Bytes w4 K v4 (bytesL (UInt8.ofNat (k + 1))) → Calls Try.prog 10 #[.pointer (some ⟨b, 0, none⟩), .int .i64 ((x : Int) % (n : Int)), v4] w4 (BesideR w b c (l.set (x % n) (UInt8.ofNat (k + 1))) (.int .i64 0) (DD.write ((x % n : Nat) : Int) (bytesL (UInt8.ofNat (k + 1))) D).1) := by
          intro w4 K v4 ho hb
          have := (W3.out.quit ho).write ((x : Int) % (n : Int)) K v4 _ hb FW.out
          rw [W0.out] at this
          exact this
        have HWR := Lib.hid hwr
        have hwrap : IntKind.u8.wrap (IntKind.i64.wrap ((k : Int) + 1)) = (k : Int) + 1 := by
          simp only [IntKind.wrap, IntKind.signed, IntKind.bits]
          simp
          omega
        have WRP := Lib.hid hwrap
        clear hwrap
        clear hwr
        have O3 := Lib.hid W3.out.only
        clear hw3 B3 hby hw0 hfew kp hcl hfr hck LK hcw
        go_region_held (fun w' => w'.cell? ⟨g, off + k, none⟩ = some (.int .i64 x))
          (first | assumption | (exact KP.out _ O3.out.drew) | (exact KP.out _ h14) | (exact KP.out _ h15))
          (first
            | (go_at_call 11; (try rw [WRP.out]); refine (BY.out _).mono ?_; rintro e w4 ⟨v4, rfl, hb, ho⟩; have h13 := (Only.drew (Only.refl NoB w3)).trans ho; have h14 := O3.out.trans h13)
            | (go_at_call 10; refine (HWR.out _ _ _ h13 hb).mono ?_; rintro e w5 ⟨rfl, hl⟩; have h15 := hl.only))
        all_goals
          go_wp2_with fail
          exact ⟨⟨k + 1, by omega, by go_num, _, _, hl, IK.out.write hmod _⟩, by simp [intOf]; omega⟩
    · obtain rfl : k = la.length := by omega
      have hfew := IK.out.calm.few (by omega)
      have hf0 : (DD.flush D).2 = 0 := by rw [IK.out.calm.flush_eq]
      have HF := Lib.hid (LK.out.flush hfew)
      have HF0 := Lib.hid hf0
      have HS : Hid (Says n (la.length + 1) (DD.flush D).1 l) := Lib.hid IK.out.flush
      have HDn := Lib.hid IK.out.calm.flush_done
      clear hfew hf0 hlt
      go_wp2_with fail
      refine HF.out.mono ?_
      rintro e w3 ⟨rfl, hl⟩
      rw [HF0.out]
      have L3 := Lib.hid hl
      clear hl HF HF0 LK
      have HE : Hid ((DD.flush D).1.cache = []) := Lib.hid (by rw [IK.out.calm.flush_eq]; rfl)
      have HDN : Hid (∀ t, (DD.flush D).1.done t = (DD.flush D).1.at_ t) := Lib.hid fun t => (IK.out.calm.flush_done t).trans (IK.out.calm.flush_at t).symm
      obtain ⟨D1, hD1⟩ : ∃ D1, D1 = (DD.flush D).1 := ⟨_, rfl⟩
      rw [← hD1] at L3 HS HE HDN
      clear hD1 IK HDn
      obtain ⟨q, hq⟩ : ∃ q, q = la.length + 1 := ⟨_, rfl⟩
      rw [← hq] at HS
      have hq2 : q ≤ 101 := by omega
      clear hq
      go_wp2_with fail
      go_loopw [13] (fun i wr => ∃ k : Nat, k ≤ lb.length ∧ i = .int .i64 k ∧ ∃ D, Beside w wr b D c l ∧ Behind n q k lb l D) (fun i _ => lb.length - (intOf i).toNat)
      case atStart =>
        exact ⟨0, Nat.zero_le _, rfl, _, L3.out, HS.out.behind HE.out HDN.out⟩
      case round =>
        obtain ⟨k, hk, rfl, D, hL, hI⟩ := hrel
        have LK := Lib.hid hL
        have IK := Lib.hid hI
        clear hL hI L3 HS HE HDN
        by_cases hlt : k < lb.length
        · obtain ⟨g, off, cc, hve, _, hg, hcell⟩ := HB.out.open_ (by omega)
          injection hve with h1 h2 h3
          subst h1; subst h3
          have hcw := hcell k (.int .i64 lb[k]) (by rw [List.getElem?_map, List.getElem?_eq_getElem hlt]; rfl)
          have hck := LK.out.only.cell hcw id
          clear hcell
          have hwf := GB.out _ (List.getElem_mem hlt)
          simp [Lit.wf, IntKind.min, IntKind.max, IntKind.signed, IntKind.bits] at hwf
          obtain ⟨x, hx⟩ : ∃ x, x = lb[k] := ⟨_, rfl⟩
          have HX : Hid (lb[k]? = some x) := Lib.hid (by rw [hx]; exact List.getElem?_eq_getElem hlt)
          rw [← hx] at hck hwf hcw
          clear hx
          by_cases hneg : x < 0
          · go_wp2_with fail
            go_ret
            exact ⟨rfl, LK.out.only⟩
          · obtain ⟨x, rfl⟩ := Int.eq_ofNat_of_zero_le (show 0 ≤ x by omega)
            have en : decide ((x : Int) < 0) = false := by simp
            clear hneg
            have hmod : x % n < n := Nat.mod_lt _ (by omega)
            go_wp2_with fail
            have hby : ∀ w, Calls Try.prog 11 #[.int .u8 ((k : Int) + 101)] w (BytesOut w (bytesL (UInt8.ofNat (k + 101)))) := bytes_int ((k : Int) + 101) (by omega) (by omega)
            have hw0 : (DD.write ((x : Int) % (n : Int)) (bytesL (UInt8.ofNat (k + 101))) D).2 = 0 := by
              rw [show (x : Int) % (n : Int) = ((x % n : Nat) : Int) from rfl, IK.out.calm.write_eq hmod rfl]
            have hfew := IK.out.calm.few (by omega)
            have BY := Lib.hid hby
            have W0 := Lib.hid hw0
            have FW := Lib.hid hfew
            have CW : Hid (w.cell? ⟨g, off + k, none⟩ = some (.int .i64 x)) := Lib.hid hcw
            have kp : ∀ w', Only NoB w w' → w'.cell? ⟨g, off + k, none⟩ = some (.int .i64 x) := fun w' ho => ho.cell CW.out id
            have KP := Lib.hid kp
            have hwr : ∀ w4 K v4, Only NoB wr w4 → Bytes w4 K v4 (bytesL (UInt8.ofNat (k + 101))) → Calls Try.prog 10 #[.pointer (some ⟨b, 0, none⟩), .int .i64 ((x : Int) % (n : Int)), v4] w4 (BesideR w b c l (.int .i64 0) (DD.write ((x % n : Nat) : Int) (bytesL (UInt8.ofNat (k + 101))) D).1) := by
              intro w4 K v4 ho hb
              have := (LK.out.quit ho).write ((x : Int) % (n : Int)) K v4 _ hb FW.out
              rw [W0.out] at this
              exact this
            have HWR := Lib.hid hwr
            have hwrap : IntKind.u8.wrap (IntKind.i64.wrap ((k : Int) + 101)) = (k : Int) + 101 := by
              simp only [IntKind.wrap, IntKind.signed, IntKind.bits]
              simp
              omega
            have WRP := Lib.hid hwrap
            have O3 := Lib.hid LK.out.only
            clear hby hw0 hfew kp hwr hwrap hcw LK
            go_region_held (fun w' => w'.cell? ⟨g, off + k, none⟩ = some (.int .i64 x))
              (first | assumption | (exact KP.out _ O3.out.drew) | (exact KP.out _ h14) | (exact KP.out _ h15))
              (first
                | (go_at_call 11; (try rw [WRP.out]); refine (BY.out _).mono ?_; rintro e w4 ⟨v4, rfl, hb, ho⟩; have h13 := (Only.drew (Only.refl NoB wr)).trans ho; have h14 := O3.out.trans h13)
                | (go_at_call 10; refine (HWR.out _ _ _ h13 hb).mono ?_; rintro e w5 ⟨rfl, hl⟩; have h15 := hl.only))
            all_goals
              go_wp2_with fail
              exact ⟨⟨k + 1, by omega, by go_num, _, hl, IK.out.write HX.out hmod⟩, by simp [intOf]; omega⟩
        · obtain rfl : k = lb.length := by omega
          have HC := Lib.hid (LK.out.crash _ lk (Rd.only HK.out LK.out.only fun _ _ => id) (by omega))
          go_wp2_with fail
          refine HC.out.mono ?_
          rintro e w4 ⟨rfl, hl⟩
          have L4 := Lib.hid hl
          have HC := Lib.hid hl.on
          clear hl
          go_wp2_with fail
          refine HC.out.mono ?_
          rintro e w5 ⟨rfl, hl⟩
          have L5 := Lib.hid hl
          clear hl HC L4 LK
          obtain ⟨D2, hD2⟩ : ∃ D2, D2 = DD.on (DD.crash lk D) := ⟨_, rfl⟩
          have HS : Hid (Left n (q + lb.length) lb lk l D2) := Lib.hid (hD2 ▸ IK.out.left lk)
          rw [← hD2] at L5
          clear hD2 IK
          go_wp2_with fail
          go_loopw [14] (fun i wr => ∃ k : Nat, k ≤ n ∧ i = .int .i64 k ∧ Beside w wr b D2 c l) (fun i _ => n - (intOf i).toNat)
          case atStart =>
            exact ⟨0, Nat.zero_le _, rfl, L5.out⟩
          case round =>
            obtain ⟨k, hk, rfl, hL⟩ := hrel
            have LK := Lib.hid hL
            clear hL L5
            by_cases hlt : k < n
            · have hlk2 : k < l.length := by rw [HS.out.len]; exact hlt
              have hl16 : (D2.at_ k).length = 16 := by rcases HS.out.left k hlk2 with h | ⟨i, x, _, _, _, h⟩ <;> rw [h] <;> rfl
              have HR := LK.out.read k
              rw [HS.out.calm.read_calm hlt] at HR
              have HR := Lib.hid HR
              have HL16 := Lib.hid hl16
              clear hl16
              go_wp2_with fail
              refine HR.out.mono ?_
              rintro e w6 ⟨v6, rfl, hb6, ho6⟩
              obtain ⟨A6, c6, rfl, _⟩ := id hb6
              have HB6 := Lib.hid hb6
              have L6 := Lib.hid (LK.out.quit ho6)
              rw [HL16.out] at HB6 ⊢
              clear hb6 ho6 LK HR
              have hcl := L6.out.cell hlk2
              obtain ⟨S6, hS6⟩ : ∃ S6, S6 = D2.at_ k := ⟨_, rfl⟩
              obtain ⟨T6, hT6⟩ : ∃ T6, T6 = bytesL l[k] := ⟨_, rfl⟩
              have cvS : ∀ w', Only NoB w6 w' → (convert 28 9 (.slice A6 16 c6)).run Try.prog w' = .ok (.string ⟨S6.toArray⟩) w' := fun w' ho => by
                have := conv_bytes (Rd.only HB6.out ho fun _ _ => id)
                unfold strOf at this
                rw [hS6]
                exact this
              have CVS := Lib.hid cvS
              have HT6 := Lib.hid hT6
              have HS6 := Lib.hid hS6
              obtain ⟨y, hy⟩ : ∃ y, y = l[k] := ⟨_, rfl⟩
              have HY := Lib.hid hy
              have kp : ∀ w', Only NoB w6 w' → (convert 28 9 (.slice A6 16 c6)).run Try.prog w' = .ok (.string ⟨S6.toArray⟩) w' ∧ w'.cell? ⟨c, k, none⟩ = some (.int .u8 y.toNat) := fun w' ho => ⟨CVS.out w' ho, HY.out ▸ (L6.out.quit ho).cell hlk2⟩
              have KP := Lib.hid kp
              have by7 : ∀ w1, Only NoB w6 w1 → Calls Try.prog 11 #[.int .u8 y.toNat] w1 fun e w' => ∃ v7, e = .returned v7 ∧ Only NoB w6 w' ∧ (convert 28 9 v7).run Try.prog w' = .ok (.string ⟨T6.toArray⟩) w' := fun w1 h1 => (bytes_any y w1).mono fun e w' ⟨v7, he, hb, ho⟩ => by
                refine ⟨v7, he, h1.trans ho, ?_⟩
                have hcv := conv_bytes hb
                unfold strOf at hcv
                rw [HT6.out, ← HY.out]
                exact hcv
              have BY7 := Lib.hid by7
              obtain ⟨o, ho⟩ : ∃ o, o = (S6 == T6) := ⟨_, rfl⟩
              have HO := Lib.hid ho
              have heq := ho.symm
              have s1 := kp w6 (Only.refl _ _)
              clear hS6 hT6 cvS kp HR ho hcl by7 hy
              go_wp2_with fail
              clear s1
              go_region_held (fun w' => (convert 28 9 (.slice A6 16 c6)).run Try.prog w' = .ok (.string ⟨S6.toArray⟩) w' ∧ w'.cell? ⟨c, k, none⟩ = some (.int .u8 y.toNat))
                (first | (exact KP.out _ (Only.drew (Only.refl _ _))) | (exact KP.out _ h14))
                (first | (go_at_call 11; have hq := BY7.out w6.drew (Only.drew (Only.refl _ _)); refine hq.mono ?_; rintro e w7 ⟨v7, rfl, h14, hcv⟩) | fail)
              have M0 : Hid (o = false → Miss n 0 k lb lk l D2) := Lib.hid fun h => ⟨fun _ he => by
                rw [HO.out, HS6.out, HT6.out, he] at h
                simp at h, fun i hi => by omega⟩
              have C6 := Lib.hid CVS.out
              have L8 := Lib.hid (L6.out.quit h14)
              have O8 := Lib.hid h14
              clear h14 hcv heq HY KP BY7 HB6 HT6 HO CVS
              go_wp2_with fail
              go_loopw [17, 18] (fun ok i wr => ∃ j : Nat, j ≤ lb.length ∧ i = .int .i64 j ∧ ∃ o : Bool, ok = .bool o ∧ (o = false → Miss n j k lb lk l D2) ∧ Only NoB w6 wr) (fun _ i _ => lb.length - (intOf i).toNat)
              case atStart =>
                exact ⟨0, Nat.zero_le _, rfl, o, rfl, M0.out, O8.out⟩
              case round =>
                obtain ⟨j, hj, rfl, o, rfl, hM, ho⟩ := hrel
                have MJ := Lib.hid hM
                have OJ := Lib.hid ho
                clear hM ho L8 O8 M0
                by_cases hjl : j < lb.length
                · cases o with
                  | true =>
                    go_wp2_with fail
                    refine wp_region_noPanic ?_
                    refine held_start (n := 34) (S := (fun w' => Only NoB w6 w')) (listed := #[false, false, false, false, false, false, false, false, false, false, false, false, false, false, false, false, false, false, false, false, false, false, false, false, false, false, false, false, false, false, false, false, false, false]) (by kernel_rfl) (by kernel_rfl) (by kernel_rfl) (OJ.out.drew) (fun hHeld => ?_)
                    refine held_take (i := 0) (d := 153) (v := ?_) (listed' := #[true, false, false, false, false, false, false, false, false, false, false, false, false, false, false, false, false, false, false, false, false, false, false, false, false, false, false, false, false, false, false, false, false, false]) (by kernel_rfl) (by kernel_rfl) (by kernel_rfl) (by kernel_rfl) (by kernel_rfl) (by kernel_rfl) (fun _ _ _ _ _ h => h) (by assumption) ?_ ?_
                    rotate_left
                    · (intro o ho w' hSw; cases ho; (try dsimp only at hSw); go_simp; try with_reducible rfl)
                    simp only [Act.put, List.setIfInBounds_toArray, List.set_cons_zero, List.set_cons_succ]
                    refine held_take (i := 1) (d := 154) (v := ?_) (listed' := #[true, true, false, false, false, false, false, false, false, false, false, false, false, false, false, false, false, false, false, false, false, false, false, false, false, false, false, false, false, false, false, false, false, false]) (by kernel_rfl) (by kernel_rfl) (by kernel_rfl) (by kernel_rfl) (by kernel_rfl) (by kernel_rfl) (fun _ _ _ _ _ h => h) (by assumption) ?_ ?_
                    rotate_left
                    · (intro o ho w' hSw; cases ho; (try dsimp only at hSw); go_simp; try with_reducible rfl)
                    simp only [Act.put, List.setIfInBounds_toArray, List.set_cons_zero, List.set_cons_succ]
                    refine held_skip (i := 2) (d := 155) (listed' := #[true, true, true, false, false, false, false, false, false, false, false, false, false, false, false, false, false, false, false, false, false, false, false, false, false, false, false, false, false, false, false, false, false, false]) (by kernel_rfl) (by kernel_rfl) (by kernel_rfl) (by kernel_rfl) (by kernel_rfl) (by kernel_rfl) (fun _ _ _ _ _ h => h) (by assumption) ?_
                    simp only [Act.put, List.setIfInBounds_toArray, List.set_cons_zero, List.set_cons_succ]
                    refine held_skip (i := 3) (d := 156) (listed' := #[true, true, true, true, false, false, false, false, false, false, false, false, false, false, false, false, false, false, false, false, false, false, false, false, false, false, false, false, false, false, false, false, false, false]) (by kernel_rfl) (by kernel_rfl) (by kernel_rfl) (by kernel_rfl) (by kernel_rfl) (by kernel_rfl) (fun _ _ _ _ _ h => h) (by assumption) ?_
                    simp only [Act.put, List.setIfInBounds_toArray, List.set_cons_zero, List.set_cons_succ]
                    refine held_skip (i := 4) (d := 157) (listed' := #[true, true, true, true, true, false, false, false, false, false, false, false, false, false, false, false, false, false, false, false, false, false, false, false, false, false, false, false, false, false, false, false, false, false]) (by kernel_rfl) (by kernel_rfl) (by kernel_rfl) (by kernel_rfl) (by kernel_rfl) (by kernel_rfl) (fun _ _ _ _ _ h => h) (by assumption) ?_
                    simp only [Act.put, List.setIfInBounds_toArray, List.set_cons_zero, List.set_cons_succ]
                    refine held_skip (i := 5) (d := 158) (listed' := #[true, true, true, true, true, true, false, false, false, false, false, false, false, false, false, false, false, false, false, false, false, false, false, false, false, false, false, false, false, false, false, false, false, false]) (by kernel_rfl) (by kernel_rfl) (by kernel_rfl) (by kernel_rfl) (by kernel_rfl) (by kernel_rfl) (fun _ _ _ _ _ h => h) (by assumption) ?_
                    simp only [Act.put, List.setIfInBounds_toArray, List.set_cons_zero, List.set_cons_succ]
                    refine held_skip (i := 6) (d := 159) (listed' := #[true, true, true, true, true, true, true, false, false, false, false, false, false, false, false, false, false, false, false, false, false, false, false, false, false, false, false, false, false, false, false, false, false, false]) (by kernel_rfl) (by kernel_rfl) (by kernel_rfl) (by kernel_rfl) (by kernel_rfl) (by kernel_rfl) (fun _ _ _ _ _ h => h) (by assumption) ?_
                    simp only [Act.put, List.setIfInBounds_toArray, List.set_cons_zero, List.set_cons_succ]
                    refine held_skip (i := 7) (d := 160) (listed' := #[true, true, true, true, true, true, true, true, false, false, false, false, false, false, false, false, false, false, false, false, false, false, false, false, false, false, false, false, false, false, false, false, false, false]) (by kernel_rfl) (by kernel_rfl) (by kernel_rfl) (by kernel_rfl) (by kernel_rfl) (by kernel_rfl) (fun _ _ _ _ _ h => h) (by assumption) ?_
                    simp only [Act.put, List.setIfInBounds_toArray, List.set_cons_zero, List.set_cons_succ]
                    refine held_skip (i := 8) (d := 161) (listed' := #[true, true, true, true, true, true, true, true, true, false, false, false, false, false, false, false, false, false, false, false, false, false, false, false, false, false, false, false, false, false, false, false, false, false]) (by kernel_rfl) (by kernel_rfl) (by kernel_rfl) (by kernel_rfl) (by kernel_rfl) (by kernel_rfl) (fun _ _ _ _ _ h => h) (by assumption) ?_
                    simp only [Act.put, List.setIfInBounds_toArray, List.set_cons_zero, List.set_cons_succ]
                    refine held_skip (i := 9) (d := 162) (listed' := #[true, true, true, true, true, true, true, true, true, true, false, false, false, false, false, false, false, false, false, false, false, false, false, false, false, false, false, false, false, false, false, false, false, false]) (by kernel_rfl) (by kernel_rfl) (by kernel_rfl) (by kernel_rfl) (by kernel_rfl) (by kernel_rfl) (fun _ _ _ _ _ h => h) (by assumption) ?_
                    simp only [Act.put, List.setIfInBounds_toArray, List.set_cons_zero, List.set_cons_succ]
                    refine held_skip (i := 10) (d := 163) (listed' := #[true, true, true, true, true, true, true, true, true, true, true, false, false, false, false, false, false, false, false, false, false, false, false, false, false, false, false, false, false, false, false, false, false, false]) (by kernel_rfl) (by kernel_rfl) (by kernel_rfl) (by kernel_rfl) (by kernel_rfl) (by kernel_rfl) (fun _ _ _ _ _ h => h) (by assumption) ?_
                    simp only [Act.put, List.setIfInBounds_toArray, List.set_cons_zero, List.set_cons_succ]
                    refine held_skip (i := 11) (d := 164) (listed' := #[true, true, true, true, true, true, true, true, true, true, true, true, false, false, false, false, false, false, false, false, false, false, false, false, false, false, false, false, false, false, false, false, false, false]) (by kernel_rfl) (by kernel_rfl) (by kernel_rfl) (by kernel_rfl) (by kernel_rfl) (by kernel_rfl) (fun _ _ _ _ _ h => h) (by assumption) ?_
                    simp only [Act.put, List.setIfInBounds_toArray, List.set_cons_zero, List.set_cons_succ]
                    refine held_skip (i := 12) (d := 165) (listed' := #[true, true, true, true, true, true, true, true, true, true, true, true, true, false, false, false, false, false, false, false, false, false, false, false, false, false, false, false, false, false, false, false, false, false]) (by kernel_rfl) (by kernel_rfl) (by kernel_rfl) (by kernel_rfl) (by kernel_rfl) (by kernel_rfl) (fun _ _ _ _ _ h => h) (by assumption) ?_
                    simp only [Act.put, List.setIfInBounds_toArray, List.set_cons_zero, List.set_cons_succ]
                    refine held_skip (i := 13) (d := 166) (listed' := #[true, true, true, true, true, true, true, true, true, true, true, true, true, true, false, false, false, false, false, false, false, false, false, false, false, false, false, false, false, false, false, false, false, false]) (by kernel_rfl) (by kernel_rfl) (by kernel_rfl) (by kernel_rfl) (by kernel_rfl) (by kernel_rfl) (fun _ _ _ _ _ h => h) (by assumption) ?_
                    simp only [Act.put, List.setIfInBounds_toArray, List.set_cons_zero, List.set_cons_succ]
                    refine held_skip (i := 14) (d := 167) (listed' := #[true, true, true, true, true, true, true, true, true, true, true, true, true, true, true, false, false, false, false, false, false, false, false, false, false, false, false, false, false, false, false, false, false, false]) (by kernel_rfl) (by kernel_rfl) (by kernel_rfl) (by kernel_rfl) (by kernel_rfl) (by kernel_rfl) (fun _ _ _ _ _ h => h) (by assumption) ?_
                    simp only [Act.put, List.setIfInBounds_toArray, List.set_cons_zero, List.set_cons_succ]
                    refine held_skip (i := 15) (d := 168) (listed' := #[true, true, true, true, true, true, true, true, true, true, true, true, true, true, true, true, false, false, false, false, false, false, false, false, false, false, false, false, false, false, false, false, false, false]) (by kernel_rfl) (by kernel_rfl) (by kernel_rfl) (by kernel_rfl) (by kernel_rfl) (by kernel_rfl) (fun _ _ _ _ _ h => h) (by assumption) ?_
                    simp only [Act.put, List.setIfInBounds_toArray, List.set_cons_zero, List.set_cons_succ]
                    refine held_skip (i := 16) (d := 169) (listed' := #[true, true, true, true, true, true, true, true, true, true, true, true, true, true, true, true, true, false, false, false, false, false, false, false, false, false, false, false, false, false, false, false, false, false]) (by kernel_rfl) (by kernel_rfl) (by kernel_rfl) (by kernel_rfl) (by kernel_rfl) (by kernel_rfl) (fun _ _ _ _ _ h => h) (by assumption) ?_
                    simp only [Act.put, List.setIfInBounds_toArray, List.set_cons_zero, List.set_cons_succ]
                    refine held_skip (i := 17) (d := 170) (listed' := #[true, true, true, true, true, true, true, true, true, true, true, true, true, true, true, true, true, true, false, false, false, false, false, false, false, false, false, false, false, false, false, false, false, false]) (by kernel_rfl) (by kernel_rfl) (by kernel_rfl) (by kernel_rfl) (by kernel_rfl) (by kernel_rfl) (fun _ _ _ _ _ h => h) (by assumption) ?_
                    simp only [Act.put, List.setIfInBounds_toArray, List.set_cons_zero, List.set_cons_succ]
                    refine held_skip (i := 18) (d := 171) (listed' := #[true, true, true, true, true, true, true, true, true, true, true, true, true, true, true, true, true, true, true, false, false, false, false, false, false, false, false, false, false, false, false, false, false, false]) (by kernel_rfl) (by kernel_rfl) (by kernel_rfl) (by kernel_rfl) (by kernel_rfl) (by kernel_rfl) (fun _ _ _ _ _ h => h) (by assumption) ?_
                    simp only [Act.put, List.setIfInBounds_toArray, List.set_cons_zero, List.set_cons_succ]
                    refine held_skip (i := 19) (d := 172) (listed' := #[true, true, true, true, true, true, true, true, true, true, true, true, true, true, true, true, true, true, true, true, false, false, false, false, false, false, false, false, false, false, false, false, false, false]) (by kernel_rfl) (by kernel_rfl) (by kernel_rfl) (by kernel_rfl) (by kernel_rfl) (by kernel_rfl) (fun _ _ _ _ _ h => h) (by assumption) ?_
                    simp only [Act.put, List.setIfInBounds_toArray, List.set_cons_zero, List.set_cons_succ]
                    refine held_skip (i := 20) (d := 173) (listed' := #[true, true, true, true, true, true, true, true, true, true, true, true, true, true, true, true, true, true, true, true, true, false, false, false, false, false, false, false, false, false, false, false, false, false]) (by kernel_rfl) (by kernel_rfl) (by kernel_rfl) (by kernel_rfl) (by kernel_rfl) (by kernel_rfl) (fun _ _ _ _ _ h => h) (by assumption) ?_
                    simp only [Act.put, List.setIfInBounds_toArray, List.set_cons_zero, List.set_cons_succ]
                    refine held_skip (i := 21) (d := 174) (listed' := #[true, true, true, true, true, true, true, true, true, true, true, true, true, true, true, true, true, true, true, true, true, true, false, false, false, false, false, false, false, false, false, false, false, false]) (by kernel_rfl) (by kernel_rfl) (by kernel_rfl) (by kernel_rfl) (by kernel_rfl) (by kernel_rfl) (fun _ _ _ _ _ h => h) (by assumption) ?_
                    simp only [Act.put, List.setIfInBounds_toArray, List.set_cons_zero, List.set_cons_succ]
                    refine held_skip (i := 22) (d := 175) (listed' := #[true, true, true, true, true, true, true, true, true, true, true, true, true, true, true, true, true, true, true, true, true, true, true, false, false, false, false, false, false, false, false, false, false, false]) (by kernel_rfl) (by kernel_rfl) (by kernel_rfl) (by kernel_rfl) (by kernel_rfl) (by kernel_rfl) (fun _ _ _ _ _ h => h) (by assumption) ?_
                    simp only [Act.put, List.setIfInBounds_toArray, List.set_cons_zero, List.set_cons_succ]
                    refine held_skip (i := 23) (d := 176) (listed' := #[true, true, true, true, true, true, true, true, true, true, true, true, true, true, true, true, true, true, true, true, true, true, true, true, false, false, false, false, false, false, false, false, false, false]) (by kernel_rfl) (by kernel_rfl) (by kernel_rfl) (by kernel_rfl) (by kernel_rfl) (by kernel_rfl) (fun _ _ _ _ _ h => h) (by assumption) ?_
                    simp only [Act.put, List.setIfInBounds_toArray, List.set_cons_zero, List.set_cons_succ]
                    refine held_skip (i := 24) (d := 177) (listed' := #[true, true, true, true, true, true, true, true, true, true, true, true, true, true, true, true, true, true, true, true, true, true, true, true, true, false, false, false, false, false, false, false, false, false]) (by kernel_rfl) (by kernel_rfl) (by kernel_rfl) (by kernel_rfl) (by kernel_rfl) (by kernel_rfl) (fun _ _ _ _ _ h => h) (by assumption) ?_
                    simp only [Act.put, List.setIfInBounds_toArray, List.set_cons_zero, List.set_cons_succ]
                    refine held_skip (i := 25) (d := 178) (listed' := #[true, true, true, true, true, true, true, true, true, true, true, true, true, true, true, true, true, true, true, true, true, true, true, true, true, true, false, false, false, false, false, false, false, false]) (by kernel_rfl) (by kernel_rfl) (by kernel_rfl) (by kernel_rfl) (by kernel_rfl) (by kernel_rfl) (fun _ _ _ _ _ h => h) (by assumption) ?_
                    simp only [Act.put, List.setIfInBounds_toArray, List.set_cons_zero, List.set_cons_succ]
                    refine held_skip (i := 26) (d := 179) (listed' := #[true, true, true, true, true, true, true, true, true, true, true, true, true, true, true, true, true, true, true, true, true, true, true, true, true, true, true, false, false, false, false, false, false, false]) (by kernel_rfl) (by kernel_rfl) (by kernel_rfl) (by kernel_rfl) (by kernel_rfl) (by kernel_rfl) (fun _ _ _ _ _ h => h) (by assumption) ?_
                    simp only [Act.put, List.setIfInBounds_toArray, List.set_cons_zero, List.set_cons_succ]
                    refine held_skip (i := 27) (d := 180) (listed' := #[true, true, true, true, true, true, true, true, true, true, true, true, true, true, true, true, true, true, true, true, true, true, true, true, true, true, true, true, false, false, false, false, false, false]) (by kernel_rfl) (by kernel_rfl) (by kernel_rfl) (by kernel_rfl) (by kernel_rfl) (by kernel_rfl) (fun _ _ _ _ _ h => h) (by assumption) ?_
                    simp only [Act.put, List.setIfInBounds_toArray, List.set_cons_zero, List.set_cons_succ]
                    refine held_skip (i := 28) (d := 181) (listed' := #[true, true, true, true, true, true, true, true, true, true, true, true, true, true, true, true, true, true, true, true, true, true, true, true, true, true, true, true, true, false, false, false, false, false]) (by kernel_rfl) (by kernel_rfl) (by kernel_rfl) (by kernel_rfl) (by kernel_rfl) (by kernel_rfl) (fun _ _ _ _ _ h => h) (by assumption) ?_
                    simp only [Act.put, List.setIfInBounds_toArray, List.set_cons_zero, List.set_cons_succ]
                    refine held_skip (i := 29) (d := 182) (listed' := #[true, true, true, true, true, true, true, true, true, true, true, true, true, true, true, true, true, true, true, true, true, true, true, true, true, true, true, true, true, true, false, false, false, false]) (by kernel_rfl) (by kernel_rfl) (by kernel_rfl) (by kernel_rfl) (by kernel_rfl) (by kernel_rfl) (fun _ _ _ _ _ h => h) (by assumption) ?_
                    simp only [Act.put, List.setIfInBounds_toArray, List.set_cons_zero, List.set_cons_succ]
                    refine held_skip (i := 30) (d := 183) (listed' := #[true, true, true, true, true, true, true, true, true, true, true, true, true, true, true, true, true, true, true, true, true, true, true, true, true, true, true, true, true, true, true, false, false, false]) (by kernel_rfl) (by kernel_rfl) (by kernel_rfl) (by kernel_rfl) (by kernel_rfl) (by kernel_rfl) (fun _ _ _ _ _ h => h) (by assumption) ?_
                    simp only [Act.put, List.setIfInBounds_toArray, List.set_cons_zero, List.set_cons_succ]
                    refine held_skip (i := 31) (d := 184) (listed' := #[true, true, true, true, true, true, true, true, true, true, true, true, true, true, true, true, true, true, true, true, true, true, true, true, true, true, true, true, true, true, true, true, false, false]) (by kernel_rfl) (by kernel_rfl) (by kernel_rfl) (by kernel_rfl) (by kernel_rfl) (by kernel_rfl) (fun _ _ _ _ _ h => h) (by assumption) ?_
                    simp only [Act.put, List.setIfInBounds_toArray, List.set_cons_zero, List.set_cons_succ]
                    refine held_take (i := 32) (d := 185) (v := ?_) (listed' := #[true, true, true, true, true, true, true, true, true, true, true, true, true, true, true, true, true, true, true, true, true, true, true, true, true, true, true, true, true, true, true, true, true, false]) (by kernel_rfl) (by kernel_rfl) (by kernel_rfl) (by kernel_rfl) (by kernel_rfl) (by kernel_rfl) (fun _ _ _ _ _ h => h) (by assumption) ?_ ?_
                    rotate_left
                    · (intro o ho w' hSw; cases ho; (try dsimp only at hSw); go_simp; try with_reducible rfl)
                    simp only [Act.put, List.setIfInBounds_toArray, List.set_cons_zero, List.set_cons_succ]
                    refine held_take (i := 33) (d := 17) (v := ?_) (listed' := #[true, true, true, true, true, true, true, true, true, true, true, true, true, true, true, true, true, true, true, true, true, true, true, true, true, true, true, true, true, true, true, true, true, true]) (by kernel_rfl) (by kernel_rfl) (by kernel_rfl) (by kernel_rfl) (by kernel_rfl) (by kernel_rfl) (fun _ _ _ _ _ h => h) (by assumption) ?_ ?_
                    rotate_left
                    · (intro o ho w' hSw; cases ho; (try dsimp only at hSw); go_simp; try with_reducible rfl)
                    simp only [Act.put, List.setIfInBounds_toArray, List.set_cons_zero, List.set_cons_succ]
                    refine wpAnyH_done (by kernel_rfl) ?_ _
                    refine NoPanic.normal ?_
                    all_goals
                      go_wp2_with fail
                      exact ⟨⟨j + 1, by omega, by go_num, true, rfl, fun h => (by cases h), OJ.out.drew⟩, by simp [intOf]; omega⟩
                  | false =>
                    have MF := Lib.hid (MJ.out rfl)
                    clear MJ
                    obtain ⟨x, hx⟩ := HS.out.old j hjl
                    have HX := Lib.hid hx
                    clear hx
                    obtain ⟨g, off, cc, hve, _, hg, hcell⟩ := HB.out.open_ (by omega)
                    injection hve with h1 h2 h3
                    subst h1; subst h3
                    have hcw := hcell j (.int .i64 x) (by rw [List.getElem?_map, HX.out]; rfl)
                    obtain ⟨T7, hT7⟩ : ∃ T7, T7 = bytesL (UInt8.ofNat (j + 101)) := ⟨_, rfl⟩
                    have HT7 := Lib.hid hT7
                    have HCW := Lib.hid hcw
                    have by7 : ∀ w1, Only NoB w6 w1 → Calls Try.prog 11 #[.int .u8 ((j : Int) + 101)] w1 fun e w' => ∃ v7, e = .returned v7 ∧ Only NoB w6 w' ∧ (convert 28 9 v7).run Try.prog w' = .ok (.string ⟨T7.toArray⟩) w' := fun w1 h1 => (bytes_int ((j : Int) + 101) (by omega) (by omega) w1).mono fun e w' ⟨v7, he, hb, ho⟩ => by
                      refine ⟨v7, he, h1.trans ho, ?_⟩
                      have hcv := conv_bytes hb
                      unfold strOf at hcv
                      rw [HT7.out]
                      exact hcv
                    have BY7 := Lib.hid by7
                    have hwrap : IntKind.u8.wrap (IntKind.i64.wrap ((j : Int) + 101)) = (j : Int) + 101 := by
                      simp only [IntKind.wrap, IntKind.signed, IntKind.bits]
                      simp
                      omega
                    have WRP := Lib.hid hwrap
                    have kp : ∀ w', Only NoB w6 w' → Only NoB w6 w' ∧ (convert 28 9 (.slice A6 16 c6)).run Try.prog w' = .ok (.string ⟨S6.toArray⟩) w' ∧ w'.cell? ⟨g, off + j, none⟩ = some (.int .i64 x) := fun w' ho => ⟨ho, C6.out _ ho, (L6.out.only.trans ho).cell HCW.out id⟩
                    have KP := Lib.hid kp
                    clear hT7 by7 hwrap kp hcw hcell
                    by_cases c1 : x % n = k
                    · have e6 : (x : Int) % (n : Int) = (k : Int) := by rw [← c1]; rfl
                      have e5 : n ≠ 0 := by omega
                      have e4' : (x : Int).tmod (n : Int) = (k : Int) := by rw [Int.tmod_eq_emod_of_nonneg (by omega)]; exact e6
                      by_cases c2 : S6 = T7
                      · have e7 : (S6 == T7) = true := by rw [c2]; simp
                        by_cases c3 : j < lk.length
                        · have e8 : decide ((j : Int) < (lk.length : Int)) = true := by simp; exact c3
                          obtain ⟨g', off', cc', hve, _, hg', hcell⟩ := HK.out.open_ (by omega)
                          injection hve with h1 h2 h3
                          subst h1; subst h3
                          have hcw := hcell j (.bool lk[j]) (by rw [List.getElem?_map, List.getElem?_eq_getElem c3]; rfl)
                          clear hcell
                          obtain ⟨z, hz⟩ : ∃ z, z = lk[j] := ⟨_, rfl⟩
                          have HZ : Hid (lk[j]? = some z) := Lib.hid (by rw [hz]; exact List.getElem?_eq_getElem c3)
                          rw [← hz] at hcw
                          clear hz
                          have CW := Lib.hid hcw
                          have kp : ∀ w', Only NoB w6 w' → Only NoB w6 w' ∧ (convert 28 9 (.slice A6 16 c6)).run Try.prog w' = .ok (.string ⟨S6.toArray⟩) w' ∧ w'.cell? ⟨g, off + j, none⟩ = some (.int .i64 x) ∧ w'.cell? ⟨g', off' + j, none⟩ = some (.bool z) := fun w' ho => ⟨ho, C6.out _ ho, (L6.out.only.trans ho).cell HCW.out id, (L6.out.only.trans ho).cell CW.out id⟩
                          have KP := Lib.hid kp
                          clear kp hcw c1 c2
                          cases z with
                          | true =>
                            go_wp2_with fail
                            refine wp_region_noPanic ?_
                            refine held_start (n := 34) (S := (fun w' => Only NoB w6 w' ∧ (convert 28 9 (.slice A6 16 c6)).run Try.prog w' = .ok (.string ⟨S6.toArray⟩) w' ∧ w'.cell? ⟨g, off + j, none⟩ = some (.int .i64 x) ∧ w'.cell? ⟨g', off' + j, none⟩ = some (.bool true))) (listed := #[false, false, false, false, false, false, false, false, false, false, false, false, false, false, false, false, false, false, false, false, false, false, false, false, false, false, false, false, false, false, false, false, false, false]) (by kernel_rfl) (by kernel_rfl) (by kernel_rfl) (KP.out _ OJ.out.drew) (fun hHeld => ?_)
                            refine held_take (i := 0) (d := 153) (v := ?_) (listed' := #[true, false, false, false, false, false, false, false, false, false, false, false, false, false, false, false, false, false, false, false, false, false, false, false, false, false, false, false, false, false, false, false, false, false]) (by kernel_rfl) (by kernel_rfl) (by kernel_rfl) (by kernel_rfl) (by kernel_rfl) (by kernel_rfl) (fun _ _ _ _ _ h => h) (by assumption) ?_ ?_
                            rotate_left
                            · (intro o ho w' hSw; cases ho; (try dsimp only at hSw); go_simp; try with_reducible rfl)
                            simp only [Act.put, List.setIfInBounds_toArray, List.set_cons_zero, List.set_cons_succ]
                            refine held_take (i := 1) (d := 154) (v := ?_) (listed' := #[true, true, false, false, false, false, false, false, false, false, false, false, false, false, false, false, false, false, false, false, false, false, false, false, false, false, false, false, false, false, false, false, false, false]) (by kernel_rfl) (by kernel_rfl) (by kernel_rfl) (by kernel_rfl) (by kernel_rfl) (by kernel_rfl) (fun _ _ _ _ _ h => h) (by assumption) ?_ ?_
                            rotate_left
                            · (intro o ho w' hSw; cases ho; (try dsimp only at hSw); go_simp; try with_reducible rfl)
                            simp only [Act.put, List.setIfInBounds_toArray, List.set_cons_zero, List.set_cons_succ]
                            refine held_take (i := 2) (d := 155) (v := ?_) (listed' := #[true, true, true, false, false, false, false, false, false, false, false, false, false, false, false, false, false, false, false, false, false, false, false, false, false, false, false, false, false, false, false, false, false, false]) (by kernel_rfl) (by kernel_rfl) (by kernel_rfl) (by kernel_rfl) (by kernel_rfl) (by kernel_rfl) (fun _ _ _ _ _ h => h) (by assumption) ?_ ?_
                            rotate_left
                            · (intro o ho w' hSw; cases ho; (try dsimp only at hSw); go_simp; try with_reducible rfl)
                            simp only [Act.put, List.setIfInBounds_toArray, List.set_cons_zero, List.set_cons_succ]
                            refine held_take (i := 3) (d := 156) (v := ?_) (listed' := #[true, true, true, true, false, false, false, false, false, false, false, false, false, false, false, false, false, false, false, false, false, false, false, false, false, false, false, false, false, false, false, false, false, false]) (by kernel_rfl) (by kernel_rfl) (by kernel_rfl) (by kernel_rfl) (by kernel_rfl) (by kernel_rfl) (fun _ _ _ _ _ h => h) (by assumption) ?_ ?_
                            rotate_left
                            · (intro o ho w' hSw; cases ho; (try dsimp only at hSw); go_simp; try with_reducible rfl)
                            simp only [Act.put, List.setIfInBounds_toArray, List.set_cons_zero, List.set_cons_succ]
                            refine held_take (i := 4) (d := 157) (v := ?_) (listed' := #[true, true, true, true, true, false, false, false, false, false, false, false, false, false, false, false, false, false, false, false, false, false, false, false, false, false, false, false, false, false, false, false, false, false]) (by kernel_rfl) (by kernel_rfl) (by kernel_rfl) (by kernel_rfl) (by kernel_rfl) (by kernel_rfl) (fun _ _ _ _ _ h => h) (by assumption) ?_ ?_
                            rotate_left
                            · (intro o ho w' hSw; cases ho; (try dsimp only at hSw); go_simp; try with_reducible rfl)
                            simp only [Act.put, List.setIfInBounds_toArray, List.set_cons_zero, List.set_cons_succ]
                            refine held_take (i := 5) (d := 158) (v := ?_) (listed' := #[true, true, true, true, true, true, false, false, false, false, false, false, false, false, false, false, false, false, false, false, false, false, false, false, false, false, false, false, false, false, false, false, false, false]) (by kernel_rfl) (by kernel_rfl) (by kernel_rfl) (by kernel_rfl) (by kernel_rfl) (by kernel_rfl) (fun _ _ _ _ _ h => h) (by assumption) ?_ ?_
                            rotate_left
                            · (intro o ho w' hSw; cases ho; (try dsimp only at hSw); go_simp; try with_reducible rfl)
                            simp only [Act.put, List.setIfInBounds_toArray, List.set_cons_zero, List.set_cons_succ]
                            refine held_take (i := 6) (d := 159) (v := ?_) (listed' := #[true, true, true, true, true, true, true, false, false, false, false, false, false, false, false, false, false, false, false, false, false, false, false, false, false, false, false, false, false, false, false, false, false, false]) (by kernel_rfl) (by kernel_rfl) (by kernel_rfl) (by kernel_rfl) (by kernel_rfl) (by kernel_rfl) (fun _ _ _ _ _ h => h) (by assumption) ?_ ?_
                            rotate_left
                            · (intro o ho w' hSw; cases ho; (try dsimp only at hSw); go_simp; try with_reducible rfl)
                            simp only [Act.put, List.setIfInBounds_toArray, List.set_cons_zero, List.set_cons_succ]
                            refine held_take (i := 7) (d := 160) (v := ?_) (listed' := #[true, true, true, true, true, true, true, true, false, false, false, false, false, false, false, false, false, false, false, false, false, false, false, false, false, false, false, false, false, false, false, false, false, false]) (by kernel_rfl) (by kernel_rfl) (by kernel_rfl) (by kernel_rfl) (by kernel_rfl) (by kernel_rfl) (fun _ _ _ _ _ h => h) (by assumption) ?_ ?_
                            rotate_left
                            · (intro o ho w' hSw; cases ho; (try dsimp only at hSw); go_simp; try with_reducible rfl)
                            simp only [Act.put, List.setIfInBounds_toArray, List.set_cons_zero, List.set_cons_succ]
                            refine held_take (i := 8) (d := 161) (v := ?_) (listed' := #[true, true, true, true, true, true, true, true, true, false, false, false, false, false, false, false, false, false, false, false, false, false, false, false, false, false, false, false, false, false, false, false, false, false]) (by kernel_rfl) (by kernel_rfl) (by kernel_rfl) (by kernel_rfl) (by kernel_rfl) (by kernel_rfl) (fun _ _ _ _ _ h => h) (by assumption) ?_ ?_
                            rotate_left
                            · (intro o ho w' hSw; cases ho; (try dsimp only at hSw); go_simp; try with_reducible rfl)
                            simp only [Act.put, List.setIfInBounds_toArray, List.set_cons_zero, List.set_cons_succ]
                            refine held_take (i := 9) (d := 162) (v := .bool true) (listed' := #[true, true, true, true, true, true, true, true, true, true, false, false, false, false, false, false, false, false, false, false, false, false, false, false, false, false, false, false, false, false, false, false, false, false]) (by kernel_rfl) (by kernel_rfl) (by kernel_rfl) (by kernel_rfl) (by kernel_rfl) (by kernel_rfl) (fun _ _ _ _ _ h => h) (by assumption) ?_ ?_
                            · (intro o ho w' hSw; cases ho; (try dsimp only at hSw); go_simp; first | done | with_reducible rfl | simp [*])
                            simp only [Act.put, List.setIfInBounds_toArray, List.set_cons_zero, List.set_cons_succ]
                            refine held_take (i := 10) (d := 163) (v := ?_) (listed' := #[true, true, true, true, true, true, true, true, true, true, true, false, false, false, false, false, false, false, false, false, false, false, false, false, false, false, false, false, false, false, false, false, false, false]) (by kernel_rfl) (by kernel_rfl) (by kernel_rfl) (by kernel_rfl) (by kernel_rfl) (by kernel_rfl) (fun _ _ _ _ _ h => h) (by assumption) ?_ ?_
                            rotate_left
                            · (intro o ho w' hSw; cases ho; (try dsimp only at hSw); go_simp; try with_reducible rfl)
                            simp only [Act.put, List.setIfInBounds_toArray, List.set_cons_zero, List.set_cons_succ]
                            refine held_take (i := 11) (d := 164) (v := ?_) (listed' := #[true, true, true, true, true, true, true, true, true, true, true, true, false, false, false, false, false, false, false, false, false, false, false, false, false, false, false, false, false, false, false, false, false, false]) (by kernel_rfl) (by kernel_rfl) (by kernel_rfl) (by kernel_rfl) (by kernel_rfl) (by kernel_rfl) (fun _ _ _ _ _ h => h) (by assumption) ?_ ?_
                            rotate_left
                            · (intro o ho w' hSw; cases ho; (try dsimp only at hSw); go_simp; try with_reducible rfl)
                            simp only [Act.put, List.setIfInBounds_toArray, List.set_cons_zero, List.set_cons_succ]
                            refine held_take (i := 12) (d := 165) (v := ?_) (listed' := #[true, true, true, true, true, true, true, true, true, true, true, true, true, false, false, false, false, false, false, false, false, false, false, false, false, false, false, false, false, false, false, false, false, false]) (by kernel_rfl) (by kernel_rfl) (by kernel_rfl) (by kernel_rfl) (by kernel_rfl) (by kernel_rfl) (fun _ _ _ _ _ h => h) (by assumption) ?_ ?_
                            rotate_left
                            · (intro o ho w' hSw; cases ho; (try dsimp only at hSw); go_simp; try with_reducible rfl)
                            simp only [Act.put, List.setIfInBounds_toArray, List.set_cons_zero, List.set_cons_succ]
                            refine held_take (i := 13) (d := 166) (v := ?_) (listed' := #[true, true, true, true, true, true, true, true, true, true, true, true, true, true, false, false, false, false, false, false, false, false, false, false, false, false, false, false, false, false, false, false, false, false]) (by kernel_rfl) (by kernel_rfl) (by kernel_rfl) (by kernel_rfl) (by kernel_rfl) (by kernel_rfl) (fun _ _ _ _ _ h => h) (by assumption) ?_ ?_
                            rotate_left
                            · (intro o ho w' hSw; cases ho; (try dsimp only at hSw); go_simp; try with_reducible rfl)
                            simp only [Act.put, List.setIfInBounds_toArray, List.set_cons_zero, List.set_cons_succ]
                            refine held_take (i := 14) (d := 167) (v := ?_) (listed' := #[true, true, true, true, true, true, true, true, true, true, true, true, true, true, true, false, false, false, false, false, false, false, false, false, false, false, false, false, false, false, false, false, false, false]) (by kernel_rfl) (by kernel_rfl) (by kernel_rfl) (by kernel_rfl) (by kernel_rfl) (by kernel_rfl) (fun _ _ _ _ _ h => h) (by assumption) ?_ ?_
                            rotate_left
                            · (intro o ho w' hSw; cases ho; (try dsimp only at hSw); go_simp; try with_reducible rfl)
                            simp only [Act.put, List.setIfInBounds_toArray, List.set_cons_zero, List.set_cons_succ]
                            refine held_take (i := 15) (d := 168) (v := ?_) (listed' := #[true, true, true, true, true, true, true, true, true, true, true, true, true, true, true, true, false, false, false, false, false, false, false, false, false, false, false, false, false, false, false, false, false, false]) (by kernel_rfl) (by kernel_rfl) (by kernel_rfl) (by kernel_rfl) (by kernel_rfl) (by kernel_rfl) (fun _ _ _ _ _ h => h) (by assumption) ?_ ?_
                            rotate_left
                            · (intro o ho w' hSw; cases ho; (try dsimp only at hSw); go_simp; try with_reducible rfl)
                            simp only [Act.put, List.setIfInBounds_toArray, List.set_cons_zero, List.set_cons_succ]
                            refine held_step (i := 16) (listed' := #[true, true, true, true, true, true, true, true, true, true, true, true, true, true, true, true, true, false, false, false, false, false, false, false, false, false, false, false, false, false, false, false, false, false]) (by kernel_rfl) (by kernel_rfl) (by kernel_rfl) (fun o ho K hK => ?_)
                            cases ho
                            go_simp
                            go_at_call 11
                            (try rw [WRP.out])
                            refine (BY7.out wr.drew OJ.out.drew).mono ?_
                            rintro e w7 ⟨v7, rfl, h14, hcv⟩
                            (try go_wp2_with fail)
                            refine hK.out _ _ (KP.out _ h14) (fun hHeld => ?_)
                            clear hK K
                            try simp only [Act.put, List.setIfInBounds_toArray, List.set_cons_zero, List.set_cons_succ]
                            refine held_step (i := 17) (listed' := #[true, true, true, true, true, true, true, true, true, true, true, true, true, true, true, true, true, true, false, false, false, false, false, false, false, false, false, false, false, false, false, false, false, false]) (by kernel_rfl) (by kernel_rfl) (by kernel_rfl) (fun o ho K hK => ?_)
                            cases ho
                            go_simp
                            refine hK.out _ _ (KP.out _ h14) (fun hHeld => ?_)
                            clear hK K
                            try dsimp only
                            refine held_take (i := 18) (d := 171) (v := .bool true) (listed' := #[true, true, true, true, true, true, true, true, true, true, true, true, true, true, true, true, true, true, true, false, false, false, false, false, false, false, false, false, false, false, false, false, false, false]) (by kernel_rfl) (by kernel_rfl) (by kernel_rfl) (by kernel_rfl) (by kernel_rfl) (by kernel_rfl) (fun _ _ _ _ _ h => h) (by assumption) ?_ ?_
                            · (intro o ho w' hSw; cases ho; (try dsimp only at hSw); go_simp; first | done | with_reducible rfl | simp [*])
                            simp only [Act.put, List.setIfInBounds_toArray, List.set_cons_zero, List.set_cons_succ]
                            refine held_take (i := 19) (d := 172) (v := .bool true) (listed' := #[true, true, true, true, true, true, true, true, true, true, true, true, true, true, true, true, true, true, true, true, false, false, false, false, false, false, false, false, false, false, false, false, false, false]) (by kernel_rfl) (by kernel_rfl) (by kernel_rfl) (by kernel_rfl) (by kernel_rfl) (by kernel_rfl) (fun _ _ _ _ _ h => h) (by assumption) ?_ ?_
                            · (intro o ho w' hSw; cases ho; (try dsimp only at hSw); go_simp; first | done | with_reducible rfl | simp [*])
                            simp only [Act.put, List.setIfInBounds_toArray, List.set_cons_zero, List.set_cons_succ]
                            refine held_take (i := 20) (d := 173) (v := ?_) (listed' := #[true, true, true, true, true, true, true, true, true, true, true, true, true, true, true, true, true, true, true, true, true, false, false, false, false, false, false, false, false, false, false, false, false, false]) (by kernel_rfl) (by kernel_rfl) (by kernel_rfl) (by kernel_rfl) (by kernel_rfl) (by kernel_rfl) (fun _ _ _ _ _ h => h) (by assumption) ?_ ?_
                            rotate_left
                            · (intro o ho w' hSw; cases ho; (try dsimp only at hSw); go_simp; try with_reducible rfl)
                            simp only [Act.put, List.setIfInBounds_toArray, List.set_cons_zero, List.set_cons_succ]
                            refine held_take (i := 21) (d := 174) (v := ?_) (listed' := #[true, true, true, true, true, true, true, true, true, true, true, true, true, true, true, true, true, true, true, true, true, true, false, false, false, false, false, false, false, false, false, false, false, false]) (by kernel_rfl) (by kernel_rfl) (by kernel_rfl) (by kernel_rfl) (by kernel_rfl) (by kernel_rfl) (fun _ _ _ _ _ h => h) (by assumption) ?_ ?_
                            rotate_left
                            · (intro o ho w' hSw; cases ho; (try dsimp only at hSw); go_simp; try with_reducible rfl)
                            simp only [Act.put, List.setIfInBounds_toArray, List.set_cons_zero, List.set_cons_succ]
                            refine held_take (i := 22) (d := 175) (v := ?_) (listed' := #[true, true, true, true, true, true, true, true, true, true, true, true, true, true, true, true, true, true, true, true, true, true, true, false, false, false, false, false, false, false, false, false, false, false]) (by kernel_rfl) (by kernel_rfl) (by kernel_rfl) (by kernel_rfl) (by kernel_rfl) (by kernel_rfl) (fun _ _ _ _ _ h => h) (by assumption) ?_ ?_
                            rotate_left
                            · (intro o ho w' hSw; cases ho; (try dsimp only at hSw); go_simp; try with_reducible rfl)
                            simp only [Act.put, List.setIfInBounds_toArray, List.set_cons_zero, List.set_cons_succ]
                            refine held_take (i := 23) (d := 176) (v := ?_) (listed' := #[true, true, true, true, true, true, true, true, true, true, true, true, true, true, true, true, true, true, true, true, true, true, true, true, false, false, false, false, false, false, false, false, false, false]) (by kernel_rfl) (by kernel_rfl) (by kernel_rfl) (by kernel_rfl) (by kernel_rfl) (by kernel_rfl) (fun _ _ _ _ _ h => h) (by assumption) ?_ ?_
                            rotate_left
                            · (intro o ho w' hSw; cases ho; (try dsimp only at hSw); go_simp; try with_reducible rfl)
                            simp only [Act.put, List.setIfInBounds_toArray, List.set_cons_zero, List.set_cons_succ]
                            refine held_take (i := 24) (d := 177) (v := .bool true) (listed' := #[true, true, true, true, true, true, true, true, true, true, true, true, true, true, true, true, true, true, true, true, true, true, true, true, true, false, false, false, false, false, false, false, false, false]) (by kernel_rfl) (by kernel_rfl) (by kernel_rfl) (by kernel_rfl) (by kernel_rfl) (by kernel_rfl) (fun _ _ _ _ _ h => h) (by assumption) ?_ ?_
                            · (intro o ho w' hSw; cases ho; (try dsimp only at hSw); go_simp; first | done | with_reducible rfl | simp [*])
                            simp only [Act.put, List.setIfInBounds_toArray, List.set_cons_zero, List.set_cons_succ]
                            refine held_take (i := 25) (d := 178) (v := .bool true) (listed' := #[true, true, true, true, true, true, true, true, true, true, true, true, true, true, true, true, true, true, true, true, true, true, true, true, true, true, false, false, false, false, false, false, false, false]) (by kernel_rfl) (by kernel_rfl) (by kernel_rfl) (by kernel_rfl) (by kernel_rfl) (by kernel_rfl) (fun _ _ _ _ _ h => h) (by assumption) ?_ ?_
                            · (intro o ho w' hSw; cases ho; (try dsimp only at hSw); go_simp; first | done | with_reducible rfl | simp [*])
                            simp only [Act.put, List.setIfInBounds_toArray, List.set_cons_zero, List.set_cons_succ]
                            refine held_take (i := 26) (d := 179) (v := ?_) (listed' := #[true, true, true, true, true, true, true, true, true, true, true, true, true, true, true, true, true, true, true, true, true, true, true, true, true, true, true, false, false, false, false, false, false, false]) (by kernel_rfl) (by kernel_rfl) (by kernel_rfl) (by kernel_rfl) (by kernel_rfl) (by kernel_rfl) (fun _ _ _ _ _ h => h) (by assumption) ?_ ?_
                            rotate_left
                            · (intro o ho w' hSw; cases ho; (try dsimp only at hSw); go_simp; try with_reducible rfl)
                            simp only [Act.put, List.setIfInBounds_toArray, List.set_cons_zero, List.set_cons_succ]
                            refine held_take (i := 27) (d := 180) (v := ?_) (listed' := #[true, true, true, true, true, true, true, true, true, true, true, true, true, true, true, true, true, true, true, true, true, true, true, true, true, true, true, true, false, false, false, false, false, false]) (by kernel_rfl) (by kernel_rfl) (by kernel_rfl) (by kernel_rfl) (by kernel_rfl) (by kernel_rfl) (fun _ _ _ _ _ h => h) (by assumption) ?_ ?_
                            rotate_left
                            · (intro o ho w' hSw; cases ho; (try dsimp only at hSw); go_simp; try with_reducible rfl)
                            simp only [Act.put, List.setIfInBounds_toArray, List.set_cons_zero, List.set_cons_succ]
                            refine held_take (i := 28) (d := 181) (v := ?_) (listed' := #[true, true, true, true, true, true, true, true, true, true, true, true, true, true, true, true, true, true, true, true, true, true, true, true, true, true, true, true, true, false, false, false, false, false]) (by kernel_rfl) (by kernel_rfl) (by kernel_rfl) (by kernel_rfl) (by kernel_rfl) (by kernel_rfl) (fun _ _ _ _ _ h => h) (by assumption) ?_ ?_
                            rotate_left
                            · (intro o ho w' hSw; cases ho; (try dsimp only at hSw); go_simp; try with_reducible rfl)
                            simp only [Act.put, List.setIfInBounds_toArray, List.set_cons_zero, List.set_cons_succ]
                            refine held_take (i := 29) (d := 182) (v := ?_) (listed' := #[true, true, true, true, true, true, true, true, true, true, true, true, true, true, true, true, true, true, true, true, true, true, true, true, true, true, true, true, true, true, false, false, false, false]) (by kernel_rfl) (by kernel_rfl) (by kernel_rfl) (by kernel_rfl) (by kernel_rfl) (by kernel_rfl) (fun _ _ _ _ _ h => h) (by assumption) ?_ ?_
                            rotate_left
                            · (intro o ho w' hSw; cases ho; (try dsimp only at hSw); go_simp; try with_reducible rfl)
                            simp only [Act.put, List.setIfInBounds_toArray, List.set_cons_zero, List.set_cons_succ]
                            refine held_take (i := 30) (d := 183) (v := ?_) (listed' := #[true, true, true, true, true, true, true, true, true, true, true, true, true, true, true, true, true, true, true, true, true, true, true, true, true, true, true, true, true, true, true, false, false, false]) (by kernel_rfl) (by kernel_rfl) (by kernel_rfl) (by kernel_rfl) (by kernel_rfl) (by kernel_rfl) (fun _ _ _ _ _ h => h) (by assumption) ?_ ?_
                            rotate_left
                            · (intro o ho w' hSw; cases ho; (try dsimp only at hSw); go_simp; try with_reducible rfl)
                            simp only [Act.put, List.setIfInBounds_toArray, List.set_cons_zero, List.set_cons_succ]
                            refine held_take (i := 31) (d := 184) (v := ?_) (listed' := #[true, true, true, true, true, true, true, true, true, true, true, true, true, true, true, true, true, true, true, true, true, true, true, true, true, true, true, true, true, true, true, true, false, false]) (by kernel_rfl) (by kernel_rfl) (by kernel_rfl) (by kernel_rfl) (by kernel_rfl) (by kernel_rfl) (fun _ _ _ _ _ h => h) (by assumption) ?_ ?_
                            rotate_left
                            · (intro o ho w' hSw; cases ho; (try dsimp only at hSw); go_simp; try with_reducible rfl)
                            simp only [Act.put, List.setIfInBounds_toArray, List.set_cons_zero, List.set_cons_succ]
                            refine held_take (i := 32) (d := 185) (v := ?_) (listed' := #[true, true, true, true, true, true, true, true, true, true, true, true, true, true, true, true, true, true, true, true, true, true, true, true, true, true, true, true, true, true, true, true, true, false]) (by kernel_rfl) (by kernel_rfl) (by kernel_rfl) (by kernel_rfl) (by kernel_rfl) (by kernel_rfl) (fun _ _ _ _ _ h => h) (by assumption) ?_ ?_
                            rotate_left
                            · (intro o ho w' hSw; cases ho; (try dsimp only at hSw); go_simp; try with_reducible rfl)
                            simp only [Act.put, List.setIfInBounds_toArray, List.set_cons_zero, List.set_cons_succ]
                            refine held_take (i := 33) (d := 17) (v := ?_) (listed' := #[true, true, true, true, true, true, true, true, true, true, true, true, true, true, true, true, true, true, true, true, true, true, true, true, true, true, true, true, true, true, true, true, true, true]) (by kernel_rfl) (by kernel_rfl) (by kernel_rfl) (by kernel_rfl) (by kernel_rfl) (by kernel_rfl) (fun _ _ _ _ _ h => h) (by assumption) ?_ ?_
                            rotate_left
                            · (intro o ho w' hSw; cases ho; (try dsimp only at hSw); go_simp; try with_reducible rfl)
                            simp only [Act.put, List.setIfInBounds_toArray, List.set_cons_zero, List.set_cons_succ]
                            refine wpAnyH_done (by kernel_rfl) ?_ _
                            refine NoPanic.normal ?_
                            all_goals
                              go_wp2_with fail
                              exact ⟨⟨j + 1, by omega, by go_num, true, rfl, fun h => (by cases h), h14⟩, by simp [intOf]; omega⟩
                          | false =>
                            go_wp2_with fail
                            refine wp_region_noPanic ?_
                            refine held_start (n := 34) (S := (fun w' => Only NoB w6 w' ∧ (convert 28 9 (.slice A6 16 c6)).run Try.prog w' = .ok (.string ⟨S6.toArray⟩) w' ∧ w'.cell? ⟨g, off + j, none⟩ = some (.int .i64 x) ∧ w'.cell? ⟨g', off' + j, none⟩ = some (.bool false))) (listed := #[false, false, false, false, false, false, false, false, false, false, false, false, false, false, false, false, false, false, false, false, false, false, false, false, false, false, false, false, false, false, false, false, false, false]) (by kernel_rfl) (by kernel_rfl) (by kernel_rfl) (KP.out _ OJ.out.drew) (fun hHeld => ?_)
                            refine held_take (i := 0) (d := 153) (v := ?_) (listed' := #[true, false, false, false, false, false, false, false, false, false, false, false, false, false, false, false, false, false, false, false, false, false, false, false, false, false, false, false, false, false, false, false, false, false]) (by kernel_rfl) (by kernel_rfl) (by kernel_rfl) (by kernel_rfl) (by kernel_rfl) (by kernel_rfl) (fun _ _ _ _ _ h => h) (by assumption) ?_ ?_
                            rotate_left
                            · (intro o ho w' hSw; cases ho; (try dsimp only at hSw); go_simp; try with_reducible rfl)
                            simp only [Act.put, List.setIfInBounds_toArray, List.set_cons_zero, List.set_cons_succ]
                            refine held_take (i := 1) (d := 154) (v := ?_) (listed' := #[true, true, false, false, false, false, false, false, false, false, false, false, false, false, false, false, false, false, false, false, false, false, false, false, false, false, false, false, false, false, false, false, false, false]) (by kernel_rfl) (by kernel_rfl) (by kernel_rfl) (by kernel_rfl) (by kernel_rfl) (by kernel_rfl) (fun _ _ _ _ _ h => h) (by assumption) ?_ ?_
                            rotate_left
                            · (intro o ho w' hSw; cases ho; (try dsimp only at hSw); go_simp; try with_reducible rfl)
                            simp only [Act.put, List.setIfInBounds_toArray, List.set_cons_zero, List.set_cons_succ]
                            refine held_take (i := 2) (d := 155) (v := ?_) (listed' := #[true, true, true, false, false, false, false, false, false, false, false, false, false, false, false, false, false, false, false, false, false, false, false, false, false, false, false, false, false, false, false, false, false, false]) (by kernel_rfl) (by kernel_rfl) (by kernel_rfl) (by kernel_rfl) (by kernel_rfl) (by kernel_rfl) (fun _ _ _ _ _ h => h) (by assumption) ?_ ?_
                            rotate_left
                            · (intro o ho w' hSw; cases ho; (try dsimp only at hSw); go_simp; try with_reducible rfl)
                            simp only [Act.put, List.setIfInBounds_toArray, List.set_cons_zero, List.set_cons_succ]
                            refine held_take (i := 3) (d := 156) (v := ?_) (listed' := #[true, true, true, true, false, false, false, false, false, false, false, false, false, false, false, false, false, false, false, false, false, false, false, false, false, false, false, false, false, false, false, false, false, false]) (by kernel_rfl) (by kernel_rfl) (by kernel_rfl) (by kernel_rfl) (by kernel_rfl) (by kernel_rfl) (fun _ _ _ _ _ h => h) (by assumption) ?_ ?_
                            rotate_left
                            · (intro o ho w' hSw; cases ho; (try dsimp only at hSw); go_simp; try with_reducible rfl)
                            simp only [Act.put, List.setIfInBounds_toArray, List.set_cons_zero, List.set_cons_succ]
                            refine held_take (i := 4) (d := 157) (v := ?_) (listed' := #[true, true, true, true, true, false, false, false, false, false, false, false, false, false, false, false, false, false, false, false, false, false, false, false, false, false, false, false, false, false, false, false, false, false]) (by kernel_rfl) (by kernel_rfl) (by kernel_rfl) (by kernel_rfl) (by kernel_rfl) (by kernel_rfl) (fun _ _ _ _ _ h => h) (by assumption) ?_ ?_
                            rotate_left
                            · (intro o ho w' hSw; cases ho; (try dsimp only at hSw); go_simp; try with_reducible rfl)
                            simp only [Act.put, List.setIfInBounds_toArray, List.set_cons_zero, List.set_cons_succ]
                            refine held_take (i := 5) (d := 158) (v := ?_) (listed' := #[true, true, true, true, true, true, false, false, false, false, false, false, false, false, false, false, false, false, false, false, false, false, false, false, false, false, false, false, false, false, false, false, false, false]) (by kernel_rfl) (by kernel_rfl) (by kernel_rfl) (by kernel_rfl) (by kernel_rfl) (by kernel_rfl) (fun _ _ _ _ _ h => h) (by assumption) ?_ ?_
                            rotate_left
                            · (intro o ho w' hSw; cases ho; (try dsimp only at hSw); go_simp; try with_reducible rfl)
                            simp only [Act.put, List.setIfInBounds_toArray, List.set_cons_zero, List.set_cons_succ]
                            refine held_take (i := 6) (d := 159) (v := ?_) (listed' := #[true, true, true, true, true, true, true, false, false, false, false, false, false, false, false, false, false, false, false, false, false, false, false, false, false, false, false, false, false, false, false, false, false, false]) (by kernel_rfl) (by kernel_rfl) (by kernel_rfl) (by kernel_rfl) (by kernel_rfl) (by kernel_rfl) (fun _ _ _ _ _ h => h) (by assumption) ?_ ?_
                            rotate_left
                            · (intro o ho w' hSw; cases ho; (try dsimp only at hSw); go_simp; try with_reducible rfl)
                            simp only [Act.put, List.setIfInBounds_toArray, List.set_cons_zero, List.set_cons_succ]
                            refine held_take (i := 7) (d := 160) (v := ?_) (listed' := #[true, true, true, true, true, true, true, true, false, false, false, false, false, false, false, false, false, false, false, false, false, false, false, false, false, false, false, false, false, false, false, false, false, false]) (by kernel_rfl) (by kernel_rfl) (by kernel_rfl) (by kernel_rfl) (by kernel_rfl) (by kernel_rfl) (fun _ _ _ _ _ h => h) (by assumption) ?_ ?_
                            rotate_left
                            · (intro o ho w' hSw; cases ho; (try dsimp only at hSw); go_simp; try with_reducible rfl)
                            simp only [Act.put, List.setIfInBounds_toArray, List.set_cons_zero, List.set_cons_succ]
                            refine held_take (i := 8) (d := 161) (v := ?_) (listed' := #[true, true, true, true, true, true, true, true, true, false, false, false, false, false, false, false, false, false, false, false, false, false, false, false, false, false, false, false, false, false, false, false, false, false]) (by kernel_rfl) (by kernel_rfl) (by kernel_rfl) (by kernel_rfl) (by kernel_rfl) (by kernel_rfl) (fun _ _ _ _ _ h => h) (by assumption) ?_ ?_
                            rotate_left
                            · (intro o ho w' hSw; cases ho; (try dsimp only at hSw); go_simp; try with_reducible rfl)
                            simp only [Act.put, List.setIfInBounds_toArray, List.set_cons_zero, List.set_cons_succ]
                            refine held_take (i := 9) (d := 162) (v := .bool true) (listed' := #[true, true, true, true, true, true, true, true, true, true, false, false, false, false, false, false, false, false, false, false, false, false, false, false, false, false, false, false, false, false, false, false, false, false]) (by kernel_rfl) (by kernel_rfl) (by kernel_rfl) (by kernel_rfl) (by kernel_rfl) (by kernel_rfl) (fun _ _ _ _ _ h => h) (by assumption) ?_ ?_
                            · (intro o ho w' hSw; cases ho; (try dsimp only at hSw); go_simp; first | done | with_reducible rfl | simp [*])
                            simp only [Act.put, List.setIfInBounds_toArray, List.set_cons_zero, List.set_cons_succ]
                            refine held_take (i := 10) (d := 163) (v := ?_) (listed' := #[true, true, true, true, true, true, true, true, true, true, true, false, false, false, false, false, false, false, false, false, false, false, false, false, false, false, false, false, false, false, false, false, false, false]) (by kernel_rfl) (by kernel_rfl) (by kernel_rfl) (by kernel_rfl) (by kernel_rfl) (by kernel_rfl) (fun _ _ _ _ _ h => h) (by assumption) ?_ ?_
                            rotate_left
                            · (intro o ho w' hSw; cases ho; (try dsimp only at hSw); go_simp; try with_reducible rfl)
                            simp only [Act.put, List.setIfInBounds_toArray, List.set_cons_zero, List.set_cons_succ]
                            refine held_take (i := 11) (d := 164) (v := ?_) (listed' := #[true, true, true, true, true, true, true, true, true, true, true, true, false, false, false, false, false, false, false, false, false, false, false, false, false, false, false, false, false, false, false, false, false, false]) (by kernel_rfl) (by kernel_rfl) (by kernel_rfl) (by kernel_rfl) (by kernel_rfl) (by kernel_rfl) (fun _ _ _ _ _ h => h) (by assumption) ?_ ?_
                            rotate_left
                            · (intro o ho w' hSw; cases ho; (try dsimp only at hSw); go_simp; try with_reducible rfl)
                            simp only [Act.put, List.setIfInBounds_toArray, List.set_cons_zero, List.set_cons_succ]
                            refine held_take (i := 12) (d := 165) (v := ?_) (listed' := #[true, true, true, true, true, true, true, true, true, true, true, true, true, false, false, false, false, false, false, false, false, false, false, false, false, false, false, false, false, false, false, false, false, false]) (by kernel_rfl) (by kernel_rfl) (by kernel_rfl) (by kernel_rfl) (by kernel_rfl) (by kernel_rfl) (fun _ _ _ _ _ h => h) (by assumption) ?_ ?_
                            rotate_left
                            · (intro o ho w' hSw; cases ho; (try dsimp only at hSw); go_simp; try with_reducible rfl)
                            simp only [Act.put, List.setIfInBounds_toArray, List.set_cons_zero, List.set_cons_succ]
                            refine held_take (i := 13) (d := 166) (v := ?_) (listed' := #[true, true, true, true, true, true, true, true, true, true, true, true, true, true, false, false, false, false, false, false, false, false, false, false, false, false, false, false, false, false, false, false, false, false]) (by kernel_rfl) (by kernel_rfl) (by kernel_rfl) (by kernel_rfl) (by kernel_rfl) (by kernel_rfl) (fun _ _ _ _ _ h => h) (by assumption) ?_ ?_
                            rotate_left
                            · (intro o ho w' hSw; cases ho; (try dsimp only at hSw); go_simp; try with_reducible rfl)
                            simp only [Act.put, List.setIfInBounds_toArray, List.set_cons_zero, List.set_cons_succ]
                            refine held_take (i := 14) (d := 167) (v := ?_) (listed' := #[true, true, true, true, true, true, true, true, true, true, true, true, true, true, true, false, false, false, false, false, false, false, false, false, false, false, false, false, false, false, false, false, false, false]) (by kernel_rfl) (by kernel_rfl) (by kernel_rfl) (by kernel_rfl) (by kernel_rfl) (by kernel_rfl) (fun _ _ _ _ _ h => h) (by assumption) ?_ ?_
                            rotate_left
                            · (intro o ho w' hSw; cases ho; (try dsimp only at hSw); go_simp; try with_reducible rfl)
                            simp only [Act.put, List.setIfInBounds_toArray, List.set_cons_zero, List.set_cons_succ]
                            refine held_take (i := 15) (d := 168) (v := ?_) (listed' := #[true, true, true, true, true, true, true, true, true, true, true, true, true, true, true, true, false, false, false, false, false, false, false, false, false, false, false, false, false, false, false, false, false, false]) (by kernel_rfl) (by kernel_rfl) (by kernel_rfl) (by kernel_rfl) (by kernel_rfl) (by kernel_rfl) (fun _ _ _ _ _ h => h) (by assumption) ?_ ?_
                            rotate_left
                            · (intro o ho w' hSw; cases ho; (try dsimp only at hSw); go_simp; try with_reducible rfl)
                            simp only [Act.put, List.setIfInBounds_toArray, List.set_cons_zero, List.set_cons_succ]
                            refine held_step (i := 16) (listed' := #[true, true, true, true, true, true, true, true, true, true, true, true, true, true, true, true, true, false, false, false, false, false, false, false, false, false, false, false, false, false, false, false, false, false]) (by kernel_rfl) (by kernel_rfl) (by kernel_rfl) (fun o ho K hK => ?_)
                            cases ho
                            go_simp
                            go_at_call 11
                            (try rw [WRP.out])
                            refine (BY7.out wr.drew OJ.out.drew).mono ?_
                            rintro e w7 ⟨v7, rfl, h14, hcv⟩
                            (try go_wp2_with fail)
                            refine hK.out _ _ (KP.out _ h14) (fun hHeld => ?_)
                            clear hK K
                            try simp only [Act.put, List.setIfInBounds_toArray, List.set_cons_zero, List.set_cons_succ]
                            refine held_step (i := 17) (listed' := #[true, true, true, true, true, true, true, true, true, true, true, true, true, true, true, true, true, true, false, false, false, false, false, false, false, false, false, false, false, false, false, false, false, false]) (by kernel_rfl) (by kernel_rfl) (by kernel_rfl) (fun o ho K hK => ?_)
                            cases ho
                            go_simp
                            refine hK.out _ _ (KP.out _ h14) (fun hHeld => ?_)
                            clear hK K
                            try dsimp only
                            refine held_take (i := 18) (d := 171) (v := .bool true) (listed' := #[true, true, true, true, true, true, true, true, true, true, true, true, true, true, true, true, true, true, true, false, false, false, false, false, false, false, false, false, false, false, false, false, false, false]) (by kernel_rfl) (by kernel_rfl) (by kernel_rfl) (by kernel_rfl) (by kernel_rfl) (by kernel_rfl) (fun _ _ _ _ _ h => h) (by assumption) ?_ ?_
                            · (intro o ho w' hSw; cases ho; (try dsimp only at hSw); go_simp; first | done | with_reducible rfl | simp [*])
                            simp only [Act.put, List.setIfInBounds_toArray, List.set_cons_zero, List.set_cons_succ]
                            refine held_take (i := 19) (d := 172) (v := .bool true) (listed' := #[true, true, true, true, true, true, true, true, true, true, true, true, true, true, true, true, true, true, true, true, false, false, false, false, false, false, false, false, false, false, false, false, false, false]) (by kernel_rfl) (by kernel_rfl) (by kernel_rfl) (by kernel_rfl) (by kernel_rfl) (by kernel_rfl) (fun _ _ _ _ _ h => h) (by assumption) ?_ ?_
                            · (intro o ho w' hSw; cases ho; (try dsimp only at hSw); go_simp; first | done | with_reducible rfl | simp [*])
                            simp only [Act.put, List.setIfInBounds_toArray, List.set_cons_zero, List.set_cons_succ]
                            refine held_take (i := 20) (d := 173) (v := ?_) (listed' := #[true, true, true, true, true, true, true, true, true, true, true, true, true, true, true, true, true, true, true, true, true, false, false, false, false, false, false, false, false, false, false, false, false, false]) (by kernel_rfl) (by kernel_rfl) (by kernel_rfl) (by kernel_rfl) (by kernel_rfl) (by kernel_rfl) (fun _ _ _ _ _ h => h) (by assumption) ?_ ?_
                            rotate_left
                            · (intro o ho w' hSw; cases ho; (try dsimp only at hSw); go_simp; try with_reducible rfl)
                            simp only [Act.put, List.setIfInBounds_toArray, List.set_cons_zero, List.set_cons_succ]
                            refine held_take (i := 21) (d := 174) (v := ?_) (listed' := #[true, true, true, true, true, true, true, true, true, true, true, true, true, true, true, true, true, true, true, true, true, true, false, false, false, false, false, false, false, false, false, false, false, false]) (by kernel_rfl) (by kernel_rfl) (by kernel_rfl) (by kernel_rfl) (by kernel_rfl) (by kernel_rfl) (fun _ _ _ _ _ h => h) (by assumption) ?_ ?_
                            rotate_left
                            · (intro o ho w' hSw; cases ho; (try dsimp only at hSw); go_simp; try with_reducible rfl)
                            simp only [Act.put, List.setIfInBounds_toArray, List.set_cons_zero, List.set_cons_succ]
                            refine held_take (i := 22) (d := 175) (v := ?_) (listed' := #[true, true, true, true, true, true, true, true, true, true, true, true, true, true, true, true, true, true, true, true, true, true, true, false, false, false, false, false, false, false, false, false, false, false]) (by kernel_rfl) (by kernel_rfl) (by kernel_rfl) (by kernel_rfl) (by kernel_rfl) (by kernel_rfl) (fun _ _ _ _ _ h => h) (by assumption) ?_ ?_
                            rotate_left
                            · (intro o ho w' hSw; cases ho; (try dsimp only at hSw); go_simp; try with_reducible rfl)
                            simp only [Act.put, List.setIfInBounds_toArray, List.set_cons_zero, List.set_cons_succ]
                            refine held_take (i := 23) (d := 176) (v := ?_) (listed' := #[true, true, true, true, true, true, true, true, true, true, true, true, true, true, true, true, true, true, true, true, true, true, true, true, false, false, false, false, false, false, false, false, false, false]) (by kernel_rfl) (by kernel_rfl) (by kernel_rfl) (by kernel_rfl) (by kernel_rfl) (by kernel_rfl) (fun _ _ _ _ _ h => h) (by assumption) ?_ ?_
                            rotate_left
                            · (intro o ho w' hSw; cases ho; (try dsimp only at hSw); go_simp; try with_reducible rfl)
                            simp only [Act.put, List.setIfInBounds_toArray, List.set_cons_zero, List.set_cons_succ]
                            refine held_take (i := 24) (d := 177) (v := .bool true) (listed' := #[true, true, true, true, true, true, true, true, true, true, true, true, true, true, true, true, true, true, true, true, true, true, true, true, true, false, false, false, false, false, false, false, false, false]) (by kernel_rfl) (by kernel_rfl) (by kernel_rfl) (by kernel_rfl) (by kernel_rfl) (by kernel_rfl) (fun _ _ _ _ _ h => h) (by assumption) ?_ ?_
                            · (intro o ho w' hSw; cases ho; (try dsimp only at hSw); go_simp; first | done | with_reducible rfl | simp [*])
                            simp only [Act.put, List.setIfInBounds_toArray, List.set_cons_zero, List.set_cons_succ]
                            refine held_take (i := 25) (d := 178) (v := .bool true) (listed' := #[true, true, true, true, true, true, true, true, true, true, true, true, true, true, true, true, true, true, true, true, true, true, true, true, true, true, false, false, false, false, false, false, false, false]) (by kernel_rfl) (by kernel_rfl) (by kernel_rfl) (by kernel_rfl) (by kernel_rfl) (by kernel_rfl) (fun _ _ _ _ _ h => h) (by assumption) ?_ ?_
                            · (intro o ho w' hSw; cases ho; (try dsimp only at hSw); go_simp; first | done | with_reducible rfl | simp [*])
                            simp only [Act.put, List.setIfInBounds_toArray, List.set_cons_zero, List.set_cons_succ]
                            refine held_take (i := 26) (d := 179) (v := ?_) (listed' := #[true, true, true, true, true, true, true, true, true, true, true, true, true, true, true, true, true, true, true, true, true, true, true, true, true, true, true, false, false, false, false, false, false, false]) (by kernel_rfl) (by kernel_rfl) (by kernel_rfl) (by kernel_rfl) (by kernel_rfl) (by kernel_rfl) (fun _ _ _ _ _ h => h) (by assumption) ?_ ?_
                            rotate_left
                            · (intro o ho w' hSw; cases ho; (try dsimp only at hSw); go_simp; try with_reducible rfl)
                            simp only [Act.put, List.setIfInBounds_toArray, List.set_cons_zero, List.set_cons_succ]
                            refine held_take (i := 27) (d := 180) (v := ?_) (listed' := #[true, true, true, true, true, true, true, true, true, true, true, true, true, true, true, true, true, true, true, true, true, true, true, true, true, true, true, true, false, false, false, false, false, false]) (by kernel_rfl) (by kernel_rfl) (by kernel_rfl) (by kernel_rfl) (by kernel_rfl) (by kernel_rfl) (fun _ _ _ _ _ h => h) (by assumption) ?_ ?_
                            rotate_left
                            · (intro o ho w' hSw; cases ho; (try dsimp only at hSw); go_simp; try with_reducible rfl)
                            simp only [Act.put, List.setIfInBounds_toArray, List.set_cons_zero, List.set_cons_succ]
                            refine held_take (i := 28) (d := 181) (v := ?_) (listed' := #[true, true, true, true, true, true, true, true, true, true, true, true, true, true, true, true, true, true, true, true, true, true, true, true, true, true, true, true, true, false, false, false, false, false]) (by kernel_rfl) (by kernel_rfl) (by kernel_rfl) (by kernel_rfl) (by kernel_rfl) (by kernel_rfl) (fun _ _ _ _ _ h => h) (by assumption) ?_ ?_
                            rotate_left
                            · (intro o ho w' hSw; cases ho; (try dsimp only at hSw); go_simp; try with_reducible rfl)
                            simp only [Act.put, List.setIfInBounds_toArray, List.set_cons_zero, List.set_cons_succ]
                            refine held_take (i := 29) (d := 182) (v := ?_) (listed' := #[true, true, true, true, true, true, true, true, true, true, true, true, true, true, true, true, true, true, true, true, true, true, true, true, true, true, true, true, true, true, false, false, false, false]) (by kernel_rfl) (by kernel_rfl) (by kernel_rfl) (by kernel_rfl) (by kernel_rfl) (by kernel_rfl) (fun _ _ _ _ _ h => h) (by assumption) ?_ ?_
                            rotate_left
                            · (intro o ho w' hSw; cases ho; (try dsimp only at hSw); go_simp; try with_reducible rfl)
                            simp only [Act.put, List.setIfInBounds_toArray, List.set_cons_zero, List.set_cons_succ]
                            refine held_take (i := 30) (d := 183) (v := ?_) (listed' := #[true, true, true, true, true, true, true, true, true, true, true, true, true, true, true, true, true, true, true, true, true, true, true, true, true, true, true, true, true, true, true, false, false, false]) (by kernel_rfl) (by kernel_rfl) (by kernel_rfl) (by kernel_rfl) (by kernel_rfl) (by kernel_rfl) (fun _ _ _ _ _ h => h) (by assumption) ?_ ?_
                            rotate_left
                            · (intro o ho w' hSw; cases ho; (try dsimp only at hSw); go_simp; try with_reducible rfl)
                            simp only [Act.put, List.setIfInBounds_toArray, List.set_cons_zero, List.set_cons_succ]
                            refine held_take (i := 31) (d := 184) (v := ?_) (listed' := #[true, true, true, true, true, true, true, true, true, true, true, true, true, true, true, true, true, true, true, true, true, true, true, true, true, true, true, true, true, true, true, true, false, false]) (by kernel_rfl) (by kernel_rfl) (by kernel_rfl) (by kernel_rfl) (by kernel_rfl) (by kernel_rfl) (fun _ _ _ _ _ h => h) (by assumption) ?_ ?_
                            rotate_left
                            · (intro o ho w' hSw; cases ho; (try dsimp only at hSw); go_simp; try with_reducible rfl)
                            simp only [Act.put, List.setIfInBounds_toArray, List.set_cons_zero, List.set_cons_succ]
                            refine held_take (i := 32) (d := 185) (v := ?_) (listed' := #[true, true, true, true, true, true, true, true, true, true, true, true, true, true, true, true, true, true, true, true, true, true, true, true, true, true, true, true, true, true, true, true, true, false]) (by kernel_rfl) (by kernel_rfl) (by kernel_rfl) (by kernel_rfl) (by kernel_rfl) (by kernel_rfl) (fun _ _ _ _ _ h => h) (by assumption) ?_ ?_
                            rotate_left
                            · (intro o ho w' hSw; cases ho; (try dsimp only at hSw); go_simp; try with_reducible rfl)
                            simp only [Act.put, List.setIfInBounds_toArray, List.set_cons_zero, List.set_cons_succ]
                            refine held_take (i := 33) (d := 17) (v := ?_) (listed' := #[true, true, true, true, true, true, true, true, true, true, true, true, true, true, true, true, true, true, true, true, true, true, true, true, true, true, true, true, true, true, true, true, true, true]) (by kernel_rfl) (by kernel_rfl) (by kernel_rfl) (by kernel_rfl) (by kernel_rfl) (by kernel_rfl) (fun _ _ _ _ _ h => h) (by assumption) ?_ ?_
                            rotate_left
                            · (intro o ho w' hSw; cases ho; (try dsimp only at hSw); go_simp; try with_reducible rfl)
                            simp only [Act.put, List.setIfInBounds_toArray, List.set_cons_zero, List.set_cons_succ]
                            refine wpAnyH_done (by kernel_rfl) ?_ _
                            refine NoPanic.normal ?_
                            all_goals
                              go_wp2_with fail
                              exact ⟨⟨j + 1, by omega, by go_num, false, rfl, fun _ => MF.out.next HX.out (fun _ h => by rw [HZ.out] at h; cases h), h14⟩, by simp [intOf]; omega⟩
                        · have e8 : decide ((j : Int) < (lk.length : Int)) = false := by simp; omega
                          have C3 := Lib.hid c3
                          clear c1 c2
                          go_wp2_with fail
                          refine wp_region_noPanic ?_
                          refine held_start (n := 34) (S := (fun w' => Only NoB w6 w' ∧ (convert 28 9 (.slice A6 16 c6)).run Try.prog w' = .ok (.string ⟨S6.toArray⟩) w' ∧ w'.cell? ⟨g, off + j, none⟩ = some (.int .i64 x))) (listed := #[false, false, false, false, false, false, false, false, false, false, false, false, false, false, false, false, false, false, false, false, false, false, false, false, false, false, false, false, false, false, false, false, false, false]) (by kernel_rfl) (by kernel_rfl) (by kernel_rfl) (KP.out _ OJ.out.drew) (fun hHeld => ?_)
                          refine held_take (i := 0) (d := 153) (v := ?_) (listed' := #[true, false, false, false, false, false, false, false, false, false, false, false, false, false, false, false, false, false, false, false, false, false, false, false, false, false, false, false, false, false, false, false, false, false]) (by kernel_rfl) (by kernel_rfl) (by kernel_rfl) (by kernel_rfl) (by kernel_rfl) (by kernel_rfl) (fun _ _ _ _ _ h => h) (by assumption) ?_ ?_
                          rotate_left
                          · (intro o ho w' hSw; cases ho; (try dsimp only at hSw); go_simp; try with_reducible rfl)
                          simp only [Act.put, List.setIfInBounds_toArray, List.set_cons_zero, List.set_cons_succ]
                          refine held_take (i := 1) (d := 154) (v := ?_) (listed' := #[true, true, false, false, false, false, false, false, false, false, false, false, false, false, false, false, false, false, false, false, false, false, false, false, false, false, false, false, false, false, false, false, false, false]) (by kernel_rfl) (by kernel_rfl) (by kernel_rfl) (by kernel_rfl) (by kernel_rfl) (by kernel_rfl) (fun _ _ _ _ _ h => h) (by assumption) ?_ ?_
                          rotate_left
                          · (intro o ho w' hSw; cases ho; (try dsimp only at hSw); go_simp; try with_reducible rfl)
                          simp only [Act.put, List.setIfInBounds_toArray, List.set_cons_zero, List.set_cons_succ]
                          refine held_take (i := 2) (d := 155) (v := ?_) (listed' := #[true, true, true, false, false, false, false, false, false, false, false, false, false, false, false, false, false, false, false, false, false, false, false, false, false, false, false, false, false, false, false, false, false, false]) (by kernel_rfl) (by kernel_rfl) (by kernel_rfl) (by kernel_rfl) (by kernel_rfl) (by kernel_rfl) (fun _ _ _ _ _ h => h) (by assumption) ?_ ?_
                          rotate_left
                          · (intro o ho w' hSw; cases ho; (try dsimp only at hSw); go_simp; try with_reducible rfl)
                          simp only [Act.put, List.setIfInBounds_toArray, List.set_cons_zero, List.set_cons_succ]
                          refine held_take (i := 3) (d := 156) (v := ?_) (listed' := #[true, true, true, true, false, false, false, false, false, false, false, false, false, false, false, false, false, false, false, false, false, false, false, false, false, false, false, false, false, false, false, false, false, false]) (by kernel_rfl) (by kernel_rfl) (by kernel_rfl) (by kernel_rfl) (by kernel_rfl) (by kernel_rfl) (fun _ _ _ _ _ h => h) (by assumption) ?_ ?_
                          rotate_left
                          · (intro o ho w' hSw; cases ho; (try dsimp only at hSw); go_simp; try with_reducible rfl)
                          simp only [Act.put, List.setIfInBounds_toArray, List.set_cons_zero, List.set_cons_succ]
                          refine held_take (i := 4) (d := 157) (v := ?_) (listed' := #[true, true, true, true, true, false, false, false, false, false, false, false, false, false, false, false, false, false, false, false, false, false, false, false, false, false, false, false, false, false, false, false, false, false]) (by kernel_rfl) (by kernel_rfl) (by kernel_rfl) (by kernel_rfl) (by kernel_rfl) (by kernel_rfl) (fun _ _ _ _ _ h => h) (by assumption) ?_ ?_
                          rotate_left
                          · (intro o ho w' hSw; cases ho; (try dsimp only at hSw); go_simp; try with_reducible rfl)
                          simp only [Act.put, List.setIfInBounds_toArray, List.set_cons_zero, List.set_cons_succ]
                          refine held_take (i := 5) (d := 158) (v := ?_) (listed' := #[true, true, true, true, true, true, false, false, false, false, false, false, false, false, false, false, false, false, false, false, false, false, false, false, false, false, false, false, false, false, false, false, false, false]) (by kernel_rfl) (by kernel_rfl) (by kernel_rfl) (by kernel_rfl) (by kernel_rfl) (by kernel_rfl) (fun _ _ _ _ _ h => h) (by assumption) ?_ ?_
                          rotate_left
                          · (intro o ho w' hSw; cases ho; (try dsimp only at hSw); go_simp; try with_reducible rfl)
                          simp only [Act.put, List.setIfInBounds_toArray, List.set_cons_zero, List.set_cons_succ]
                          refine held_take (i := 6) (d := 159) (v := ?_) (listed' := #[true, true, true, true, true, true, true, false, false, false, false, false, false, false, false, false, false, false, false, false, false, false, false, false, false, false, false, false, false, false, false, false, false, false]) (by kernel_rfl) (by kernel_rfl) (by kernel_rfl) (by kernel_rfl) (by kernel_rfl) (by kernel_rfl) (fun _ _ _ _ _ h => h) (by assumption) ?_ ?_
                          rotate_left
                          · (intro o ho w' hSw; cases ho; (try dsimp only at hSw); go_simp; try with_reducible rfl)
                          simp only [Act.put, List.setIfInBounds_toArray, List.set_cons_zero, List.set_cons_succ]
                          refine held_take (i := 7) (d := 160) (v := ?_) (listed' := #[true, true, true, true, true, true, true, true, false, false, false, false, false, false, false, false, false, false, false, false, false, false, false, false, false, false, false, false, false, false, false, false, false, false]) (by kernel_rfl) (by kernel_rfl) (by kernel_rfl) (by kernel_rfl) (by kernel_rfl) (by kernel_rfl) (fun _ _ _ _ _ h => h) (by assumption) ?_ ?_
                          rotate_left
                          · (intro o ho w' hSw; cases ho; (try dsimp only at hSw); go_simp; try with_reducible rfl)
                          simp only [Act.put, List.setIfInBounds_toArray, List.set_cons_zero, List.set_cons_succ]
                          refine held_take (i := 8) (d := 161) (v := ?_) (listed' := #[true, true, true, true, true, true, true, true, true, false, false, false, false, false, false, false, false, false, false, false, false, false, false, false, false, false, false, false, false, false, false, false, false, false]) (by kernel_rfl) (by kernel_rfl) (by kernel_rfl) (by kernel_rfl) (by kernel_rfl) (by kernel_rfl) (fun _ _ _ _ _ h => h) (by assumption) ?_ ?_
                          rotate_left
                          · (intro o ho w' hSw; cases ho; (try dsimp only at hSw); go_simp; try with_reducible rfl)
                          simp only [Act.put, List.setIfInBounds_toArray, List.set_cons_zero, List.set_cons_succ]
                          refine held_take (i := 9) (d := 162) (v := .bool true) (listed' := #[true, true, true, true, true, true, true, true, true, true, false, false, false, false, false, false, false, false, false, false, false, false, false, false, false, false, false, false, false, false, false, false, false, false]) (by kernel_rfl) (by kernel_rfl) (by kernel_rfl) (by kernel_rfl) (by kernel_rfl) (by kernel_rfl) (fun _ _ _ _ _ h => h) (by assumption) ?_ ?_
                          · (intro o ho w' hSw; cases ho; (try dsimp only at hSw); go_simp; first | done | with_reducible rfl | simp [*])
                          simp only [Act.put, List.setIfInBounds_toArray, List.set_cons_zero, List.set_cons_succ]
                          refine held_take (i := 10) (d := 163) (v := ?_) (listed' := #[true, true, true, true, true, true, true, true, true, true, true, false, false, false, false, false, false, false, false, false, false, false, false, false, false, false, false, false, false, false, false, false, false, false]) (by kernel_rfl) (by kernel_rfl) (by kernel_rfl) (by kernel_rfl) (by kernel_rfl) (by kernel_rfl) (fun _ _ _ _ _ h => h) (by assumption) ?_ ?_
                          rotate_left
                          · (intro o ho w' hSw; cases ho; (try dsimp only at hSw); go_simp; try with_reducible rfl)
                          simp only [Act.put, List.setIfInBounds_toArray, List.set_cons_zero, List.set_cons_succ]
                          refine held_take (i := 11) (d := 164) (v := ?_) (listed' := #[true, true, true, true, true, true, true, true, true, true, true, true, false, false, false, false, false, false, false, false, false, false, false, false, false, false, false, false, false, false, false, false, false, false]) (by kernel_rfl) (by kernel_rfl) (by kernel_rfl) (by kernel_rfl) (by kernel_rfl) (by kernel_rfl) (fun _ _ _ _ _ h => h) (by assumption) ?_ ?_
                          rotate_left
                          · (intro o ho w' hSw; cases ho; (try dsimp only at hSw); go_simp; try with_reducible rfl)
                          simp only [Act.put, List.setIfInBounds_toArray, List.set_cons_zero, List.set_cons_succ]
                          refine held_take (i := 12) (d := 165) (v := ?_) (listed' := #[true, true, true, true, true, true, true, true, true, true, true, true, true, false, false, false, false, false, false, false, false, false, false, false, false, false, false, false, false, false, false, false, false, false]) (by kernel_rfl) (by kernel_rfl) (by kernel_rfl) (by kernel_rfl) (by kernel_rfl) (by kernel_rfl) (fun _ _ _ _ _ h => h) (by assumption) ?_ ?_
                          rotate_left
                          · (intro o ho w' hSw; cases ho; (try dsimp only at hSw); go_simp; try with_reducible rfl)
                          simp only [Act.put, List.setIfInBounds_toArray, List.set_cons_zero, List.set_cons_succ]
                          refine held_take (i := 13) (d := 166) (v := ?_) (listed' := #[true, true, true, true, true, true, true, true, true, true, true, true, true, true, false, false, false, false, false, false, false, false, false, false, false, false, false, false, false, false, false, false, false, false]) (by kernel_rfl) (by kernel_rfl) (by kernel_rfl) (by kernel_rfl) (by kernel_rfl) (by kernel_rfl) (fun _ _ _ _ _ h => h) (by assumption) ?_ ?_
                          rotate_left
                          · (intro o ho w' hSw; cases ho; (try dsimp only at hSw); go_simp; try with_reducible rfl)
                          simp only [Act.put, List.setIfInBounds_toArray, List.set_cons_zero, List.set_cons_succ]
                          refine held_take (i := 14) (d := 167) (v := ?_) (listed' := #[true, true, true, true, true, true, true, true, true, true, true, true, true, true, true, false, false, false, false, false, false, false, false, false, false, false, false, false, false, false, false, false, false, false]) (by kernel_rfl) (by kernel_rfl) (by kernel_rfl) (by kernel_rfl) (by kernel_rfl) (by kernel_rfl) (fun _ _ _ _ _ h => h) (by assumption) ?_ ?_
                          rotate_left
                          · (intro o ho w' hSw; cases ho; (try dsimp only at hSw); go_simp; try with_reducible rfl)
                          simp only [Act.put, List.setIfInBounds_toArray, List.set_cons_zero, List.set_cons_succ]
                          refine held_take (i := 15) (d := 168) (v := ?_) (listed' := #[true, true, true, true, true, true, true, true, true, true, true, true, true, true, true, true, false, false, false, false, false, false, false, false, false, false, false, false, false, false, false, false, false, false]) (by kernel_rfl) (by kernel_rfl) (by kernel_rfl) (by kernel_rfl) (by kernel_rfl) (by kernel_rfl) (fun _ _ _ _ _ h => h) (by assumption) ?_ ?_
                          rotate_left
                          · (intro o ho w' hSw; cases ho; (try dsimp only at hSw); go_simp; try with_reducible rfl)
                          simp only [Act.put, List.setIfInBounds_toArray, List.set_cons_zero, List.set_cons_succ]
                          refine held_step (i := 16) (listed' := #[true, true, true, true, true, true, true, true, true, true, true, true, true, true, true, true, true, false, false, false, false, false, false, false, false, false, false, false, false, false, false, false, false, false]) (by kernel_rfl) (by kernel_rfl) (by kernel_rfl) (fun o ho K hK => ?_)
                          cases ho
                          go_simp
                          go_at_call 11
                          (try rw [WRP.out])
                          refine (BY7.out wr.drew OJ.out.drew).mono ?_
                          rintro e w7 ⟨v7, rfl, h14, hcv⟩
                          (try go_wp2_with fail)
                          refine hK.out _ _ (KP.out _ h14) (fun hHeld => ?_)
                          clear hK K
                          try simp only [Act.put, List.setIfInBounds_toArray, List.set_cons_zero, List.set_cons_succ]
                          refine held_step (i := 17) (listed' := #[true, true, true, true, true, true, true, true, true, true, true, true, true, true, true, true, true, true, false, false, false, false, false, false, false, false, false, false, false, false, false, false, false, false]) (by kernel_rfl) (by kernel_rfl) (by kernel_rfl) (fun o ho K hK => ?_)
                          cases ho
                          go_simp
                          refine hK.out _ _ (KP.out _ h14) (fun hHeld => ?_)
                          clear hK K
                          try dsimp only
                          refine held_take (i := 18) (d := 171) (v := .bool true) (listed' := #[true, true, true, true, true, true, true, true, true, true, true, true, true, true, true, true, true, true, true, false, false, false, false, false, false, false, false, false, false, false, false, false, false, false]) (by kernel_rfl) (by kernel_rfl) (by kernel_rfl) (by kernel_rfl) (by kernel_rfl) (by kernel_rfl) (fun _ _ _ _ _ h => h) (by assumption) ?_ ?_
                          · (intro o ho w' hSw; cases ho; (try dsimp only at hSw); go_simp; first | done | with_reducible rfl | simp [*])
                          simp only [Act.put, List.setIfInBounds_toArray, List.set_cons_zero, List.set_cons_succ]
                          refine held_take (i := 19) (d := 172) (v := .bool true) (listed' := #[true, true, true, true, true, true, true, true, true, true, true, true, true, true, true, true, true, true, true, true, false, false, false, false, false, false, false, false, false, false, false, false, false, false]) (by kernel_rfl) (by kernel_rfl) (by kernel_rfl) (by kernel_rfl) (by kernel_rfl) (by kernel_rfl) (fun _ _ _ _ _ h => h) (by assumption) ?_ ?_
                          · (intro o ho w' hSw; cases ho; (try dsimp only at hSw); go_simp; first | done | with_reducible rfl | simp [*])
                          simp only [Act.put, List.setIfInBounds_toArray, List.set_cons_zero, List.set_cons_succ]
                          refine held_take (i := 20) (d := 173) (v := ?_) (listed' := #[true, true, true, true, true, true, true, true, true, true, true, true, true, true, true, true, true, true, true, true, true, false, false, false, false, false, false, false, false, false, false, false, false, false]) (by kernel_rfl) (by kernel_rfl) (by kernel_rfl) (by kernel_rfl) (by kernel_rfl) (by kernel_rfl) (fun _ _ _ _ _ h => h) (by assumption) ?_ ?_
                          rotate_left
                          · (intro o ho w' hSw; cases ho; (try dsimp only at hSw); go_simp; try with_reducible rfl)
                          simp only [Act.put, List.setIfInBounds_toArray, List.set_cons_zero, List.set_cons_succ]
                          refine held_take (i := 21) (d := 174) (v := ?_) (listed' := #[true, true, true, true, true, true, true, true, true, true, true, true, true, true, true, true, true, true, true, true, true, true, false, false, false, false, false, false, false, false, false, false, false, false]) (by kernel_rfl) (by kernel_rfl) (by kernel_rfl) (by kernel_rfl) (by kernel_rfl) (by kernel_rfl) (fun _ _ _ _ _ h => h) (by assumption) ?_ ?_
                          rotate_left
                          · (intro o ho w' hSw; cases ho; (try dsimp only at hSw); go_simp; try with_reducible rfl)
                          simp only [Act.put, List.setIfInBounds_toArray, List.set_cons_zero, List.set_cons_succ]
                          refine held_take (i := 22) (d := 175) (v := ?_) (listed' := #[true, true, true, true, true, true, true, true, true, true, true, true, true, true, true, true, true, true, true, true, true, true, true, false, false, false, false, false, false, false, false, false, false, false]) (by kernel_rfl) (by kernel_rfl) (by kernel_rfl) (by kernel_rfl) (by kernel_rfl) (by kernel_rfl) (fun _ _ _ _ _ h => h) (by assumption) ?_ ?_
                          rotate_left
                          · (intro o ho w' hSw; cases ho; (try dsimp only at hSw); go_simp; try with_reducible rfl)
                          simp only [Act.put, List.setIfInBounds_toArray, List.set_cons_zero, List.set_cons_succ]
                          refine held_take (i := 23) (d := 176) (v := ?_) (listed' := #[true, true, true, true, true, true, true, true, true, true, true, true, true, true, true, true, true, true, true, true, true, true, true, true, false, false, false, false, false, false, false, false, false, false]) (by kernel_rfl) (by kernel_rfl) (by kernel_rfl) (by kernel_rfl) (by kernel_rfl) (by kernel_rfl) (fun _ _ _ _ _ h => h) (by assumption) ?_ ?_
                          rotate_left
                          · (intro o ho w' hSw; cases ho; (try dsimp only at hSw); go_simp; try with_reducible rfl)
                          simp only [Act.put, List.setIfInBounds_toArray, List.set_cons_zero, List.set_cons_succ]
                          refine held_take (i := 24) (d := 177) (v := .bool false) (listed' := #[true, true, true, true, true, true, true, true, true, true, true, true, true, true, true, true, true, true, true, true, true, true, true, true, true, false, false, false, false, false, false, false, false, false]) (by kernel_rfl) (by kernel_rfl) (by kernel_rfl) (by kernel_rfl) (by kernel_rfl) (by kernel_rfl) (fun _ _ _ _ _ h => h) (by assumption) ?_ ?_
                          · (intro o ho w' hSw; cases ho; (try dsimp only at hSw); go_simp; first | done | with_reducible rfl | simp [*])
                          simp only [Act.put, List.setIfInBounds_toArray, List.set_cons_zero, List.set_cons_succ]
                          refine held_take (i := 25) (d := 178) (v := .bool false) (listed' := #[true, true, true, true, true, true, true, true, true, true, true, true, true, true, true, true, true, true, true, true, true, true, true, true, true, true, false, false, false, false, false, false, false, false]) (by kernel_rfl) (by kernel_rfl) (by kernel_rfl) (by kernel_rfl) (by kernel_rfl) (by kernel_rfl) (fun _ _ _ _ _ h => h) (by assumption) ?_ ?_
                          · (intro o ho w' hSw; cases ho; (try dsimp only at hSw); go_simp; first | done | with_reducible rfl | simp [*])
                          simp only [Act.put, List.setIfInBounds_toArray, List.set_cons_zero, List.set_cons_succ]
                          refine held_take (i := 26) (d := 179) (v := ?_) (listed' := #[true, true, true, true, true, true, true, true, true, true, true, true, true, true, true, true, true, true, true, true, true, true, true, true, true, true, true, false, false, false, false, false, false, false]) (by kernel_rfl) (by kernel_rfl) (by kernel_rfl) (by kernel_rfl) (by kernel_rfl) (by kernel_rfl) (fun _ _ _ _ _ h => h) (by assumption) ?_ ?_
                          rotate_left
                          · (intro o ho w' hSw; cases ho; (try dsimp only at hSw); go_simp; try with_reducible rfl)
                          simp only [Act.put, List.setIfInBounds_toArray, List.set_cons_zero, List.set_cons_succ]
                          refine held_skip (i := 27) (d := 180) (listed' := #[true, true, true, true, true, true, true, true, true, true, true, true, true, true, true, true, true, true, true, true, true, true, true, true, true, true, true, true, false, false, false, false, false, false]) (by kernel_rfl) (by kernel_rfl) (by kernel_rfl) (by kernel_rfl) (by kernel_rfl) (by kernel_rfl) (fun _ _ _ _ _ h => h) (by assumption) ?_
                          simp only [Act.put, List.setIfInBounds_toArray, List.set_cons_zero, List.set_cons_succ]
                          refine held_skip (i := 28) (d := 181) (listed' := #[true, true, true, true, true, true, true, true, true, true, true, true, true, true, true, true, true, true, true, true, true, true, true, true, true, true, true, true, true, false, false, false, false, false]) (by kernel_rfl) (by kernel_rfl) (by kernel_rfl) (by kernel_rfl) (by kernel_rfl) (by kernel_rfl) (fun _ _ _ _ _ h => h) (by assumption) ?_
                          simp only [Act.put, List.setIfInBounds_toArray, List.set_cons_zero, List.set_cons_succ]
                          refine held_skip (i := 29) (d := 182) (listed' := #[true, true, true, true, true, true, true, true, true, true, true, true, true, true, true, true, true, true, true, true, true, true, true, true, true, true, true, true, true, true, false, false, false, false]) (by kernel_rfl) (by kernel_rfl) (by kernel_rfl) (by kernel_rfl) (by kernel_rfl) (by kernel_rfl) (fun _ _ _ _ _ h => h) (by assumption) ?_
                          simp only [Act.put, List.setIfInBounds_toArray, List.set_cons_zero, List.set_cons_succ]
                          refine held_skip (i := 30) (d := 183) (listed' := #[true, true, true, true, true, true, true, true, true, true, true, true, true, true, true, true, true, true, true, true, true, true, true, true, true, true, true, true, true, true, true, false, false, false]) (by kernel_rfl) (by kernel_rfl) (by kernel_rfl) (by kernel_rfl) (by kernel_rfl) (by kernel_rfl) (fun _ _ _ _ _ h => h) (by assumption) ?_
                          simp only [Act.put, List.setIfInBounds_toArray, List.set_cons_zero, List.set_cons_succ]
                          refine held_take (i := 31) (d := 184) (v := .bool false) (listed' := #[true, true, true, true, true, true, true, true, true, true, true, true, true, true, true, true, true, true, true, true, true, true, true, true, true, true, true, true, true, true, true, true, false, false]) (by kernel_rfl) (by kernel_rfl) (by kernel_rfl) (by kernel_rfl) (by kernel_rfl) (by kernel_rfl) (fun _ _ _ _ _ h => h) (by assumption) ?_ ?_
                          · (intro o ho w' hSw; cases ho; (try dsimp only at hSw); go_simp; first | done | with_reducible rfl | simp [*])
                          simp only [Act.put, List.setIfInBounds_toArray, List.set_cons_zero, List.set_cons_succ]
                          refine held_take (i := 32) (d := 185) (v := ?_) (listed' := #[true, true, true, true, true, true, true, true, true, true, true, true, true, true, true, true, true, true, true, true, true, true, true, true, true, true, true, true, true, true, true, true, true, false]) (by kernel_rfl) (by kernel_rfl) (by kernel_rfl) (by kernel_rfl) (by kernel_rfl) (by kernel_rfl) (fun _ _ _ _ _ h => h) (by assumption) ?_ ?_
                          rotate_left
                          · (intro o ho w' hSw; cases ho; (try dsimp only at hSw); go_simp; try with_reducible rfl)
                          simp only [Act.put, List.setIfInBounds_toArray, List.set_cons_zero, List.set_cons_succ]
                          refine held_take (i := 33) (d := 17) (v := ?_) (listed' := #[true, true, true, true, true, true, true, true, true, true, true, true, true, true, true, true, true, true, true, true, true, true, true, true, true, true, true, true, true, true, true, true, true, true]) (by kernel_rfl) (by kernel_rfl) (by kernel_rfl) (by kernel_rfl) (by kernel_rfl) (by kernel_rfl) (fun _ _ _ _ _ h => h) (by assumption) ?_ ?_
                          rotate_left
                          · (intro o ho w' hSw; cases ho; (try dsimp only at hSw); go_simp; try with_reducible rfl)
                          simp only [Act.put, List.setIfInBounds_toArray, List.set_cons_zero, List.set_cons_succ]
                          refine wpAnyH_done (by kernel_rfl) ?_ _
                          refine NoPanic.normal ?_
                          all_goals
                            go_wp2_with fail
                            exact ⟨⟨j + 1, by omega, by go_num, false, rfl, fun _ => MF.out.next HX.out (fun _ h => absurd (List.getElem?_eq_some_iff.1 h).1 C3.out), h14⟩, by simp [intOf]; omega⟩
                      · have e7 : (S6 == T7) = false := by simp; exact c2
                        have C2 := Lib.hid c2
                        clear c1 c2
                        go_wp2_with fail
                        refine wp_region_noPanic ?_
                        refine held_start (n := 34) (S := (fun w' => Only NoB w6 w' ∧ (convert 28 9 (.slice A6 16 c6)).run Try.prog w' = .ok (.string ⟨S6.toArray⟩) w' ∧ w'.cell? ⟨g, off + j, none⟩ = some (.int .i64 x))) (listed := #[false, false, false, false, false, false, false, false, false, false, false, false, false, false, false, false, false, false, false, false, false, false, false, false, false, false, false, false, false, false, false, false, false, false]) (by kernel_rfl) (by kernel_rfl) (by kernel_rfl) (KP.out _ OJ.out.drew) (fun hHeld => ?_)
                        refine held_take (i := 0) (d := 153) (v := ?_) (listed' := #[true, false, false, false, false, false, false, false, false, false, false, false, false, false, false, false, false, false, false, false, false, false, false, false, false, false, false, false, false, false, false, false, false, false]) (by kernel_rfl) (by kernel_rfl) (by kernel_rfl) (by kernel_rfl) (by kernel_rfl) (by kernel_rfl) (fun _ _ _ _ _ h => h) (by assumption) ?_ ?_
                        rotate_left
                        · (intro o ho w' hSw; cases ho; (try dsimp only at hSw); go_simp; try with_reducible rfl)
                        simp only [Act.put, List.setIfInBounds_toArray, List.set_cons_zero, List.set_cons_succ]
                        refine held_take (i := 1) (d := 154) (v := ?_) (listed' := #[true, true, false, false, false, false, false, false, false, false, false, false, false, false, false, false, false, false, false, false, false, false, false, false, false, false, false, false, false, false, false, false, false, false]) (by kernel_rfl) (by kernel_rfl) (by kernel_rfl) (by kernel_rfl) (by kernel_rfl) (by kernel_rfl) (fun _ _ _ _ _ h => h) (by assumption) ?_ ?_
                        rotate_left
                        · (intro o ho w' hSw; cases ho; (try dsimp only at hSw); go_simp; try with_reducible rfl)
                        simp only [Act.put, List.setIfInBounds_toArray, List.set_cons_zero, List.set_cons_succ]
                        refine held_take (i := 2) (d := 155) (v := ?_) (listed' := #[true, true, true, false, false, false, false, false, false, false, false, false, false, false, false, false, false, false, false, false, false, false, false, false, false, false, false, false, false, false, false, false, false, false]) (by kernel_rfl) (by kernel_rfl) (by kernel_rfl) (by kernel_rfl) (by kernel_rfl) (by kernel_rfl) (fun _ _ _ _ _ h => h) (by assumption) ?_ ?_
                        rotate_left
                        · (intro o ho w' hSw; cases ho; (try dsimp only at hSw); go_simp; try with_reducible rfl)
                        simp only [Act.put, List.setIfInBounds_toArray, List.set_cons_zero, List.set_cons_succ]
                        refine held_take (i := 3) (d := 156) (v := ?_) (listed' := #[true, true, true, true, false, false, false, false, false, false, false, false, false, false, false, false, false, false, false, false, false, false, false, false, false, false, false, false, false, false, false, false, false, false]) (by kernel_rfl) (by kernel_rfl) (by kernel_rfl) (by kernel_rfl) (by kernel_rfl) (by kernel_rfl) (fun _ _ _ _ _ h => h) (by assumption) ?_ ?_
                        rotate_left
                        · (intro o ho w' hSw; cases ho; (try dsimp only at hSw); go_simp; try with_reducible rfl)
                        simp only [Act.put, List.setIfInBounds_toArray, List.set_cons_zero, List.set_cons_succ]
                        refine held_take (i := 4) (d := 157) (v := ?_) (listed' := #[true, true, true, true, true, false, false, false, false, false, false, false, false, false, false, false, false, false, false, false, false, false, false, false, false, false, false, false, false, false, false, false, false, false]) (by kernel_rfl) (by kernel_rfl) (by kernel_rfl) (by kernel_rfl) (by kernel_rfl) (by kernel_rfl) (fun _ _ _ _ _ h => h) (by assumption) ?_ ?_
                        rotate_left
                        · (intro o ho w' hSw; cases ho; (try dsimp only at hSw); go_simp; try with_reducible rfl)
                        simp only [Act.put, List.setIfInBounds_toArray, List.set_cons_zero, List.set_cons_succ]
                        refine held_take (i := 5) (d := 158) (v := ?_) (listed' := #[true, true, true, true, true, true, false, false, false, false, false, false, false, false, false, false, false, false, false, false, false, false, false, false, false, false, false, false, false, false, false, false, false, false]) (by kernel_rfl) (by kernel_rfl) (by kernel_rfl) (by kernel_rfl) (by kernel_rfl) (by kernel_rfl) (fun _ _ _ _ _ h => h) (by assumption) ?_ ?_
                        rotate_left
                        · (intro o ho w' hSw; cases ho; (try dsimp only at hSw); go_simp; try with_reducible rfl)
                        simp only [Act.put, List.setIfInBounds_toArray, List.set_cons_zero, List.set_cons_succ]
                        refine held_take (i := 6) (d := 159) (v := ?_) (listed' := #[true, true, true, true, true, true, true, false, false, false, false, false, false, false, false, false, false, false, false, false, false, false, false, false, false, false, false, false, false, false, false, false, false, false]) (by kernel_rfl) (by kernel_rfl) (by kernel_rfl) (by kernel_rfl) (by kernel_rfl) (by kernel_rfl) (fun _ _ _ _ _ h => h) (by assumption) ?_ ?_
                        rotate_left
                        · (intro o ho w' hSw; cases ho; (try dsimp only at hSw); go_simp; try with_reducible rfl)
                        simp only [Act.put, List.setIfInBounds_toArray, List.set_cons_zero, List.set_cons_succ]
                        refine held_take (i := 7) (d := 160) (v := ?_) (listed' := #[true, true, true, true, true, true, true, true, false, false, false, false, false, false, false, false, false, false, false, false, false, false, false, false, false, false, false, false, false, false, false, false, false, false]) (by kernel_rfl) (by kernel_rfl) (by kernel_rfl) (by kernel_rfl) (by kernel_rfl) (by kernel_rfl) (fun _ _ _ _ _ h => h) (by assumption) ?_ ?_
                        rotate_left
                        · (intro o ho w' hSw; cases ho; (try dsimp only at hSw); go_simp; try with_reducible rfl)
                        simp only [Act.put, List.setIfInBounds_toArray, List.set_cons_zero, List.set_cons_succ]
                        refine held_take (i := 8) (d := 161) (v := ?_) (listed' := #[true, true, true, true, true, true, true, true, true, false, false, false, false, false, false, false, false, false, false, false, false, false, false, false, false, false, false, false, false, false, false, false, false, false]) (by kernel_rfl) (by kernel_rfl) (by kernel_rfl) (by kernel_rfl) (by kernel_rfl) (by kernel_rfl) (fun _ _ _ _ _ h => h) (by assumption) ?_ ?_
                        rotate_left
                        · (intro o ho w' hSw; cases ho; (try dsimp only at hSw); go_simp; try with_reducible rfl)
                        simp only [Act.put, List.setIfInBounds_toArray, List.set_cons_zero, List.set_cons_succ]
                        refine held_take (i := 9) (d := 162) (v := .bool true) (listed' := #[true, true, true, true, true, true, true, true, true, true, false, false, false, false, false, false, false, false, false, false, false, false, false, false, false, false, false, false, false, false, false, false, false, false]) (by kernel_rfl) (by kernel_rfl) (by kernel_rfl) (by kernel_rfl) (by kernel_rfl) (by kernel_rfl) (fun _ _ _ _ _ h => h) (by assumption) ?_ ?_
                        · (intro o ho w' hSw; cases ho; (try dsimp only at hSw); go_simp; first | done | with_reducible rfl | simp [*])
                        simp only [Act.put, List.setIfInBounds_toArray, List.set_cons_zero, List.set_cons_succ]
                        refine held_take (i := 10) (d := 163) (v := ?_) (listed' := #[true, true, true, true, true, true, true, true, true, true, true, false, false, false, false, false, false, false, false, false, false, false, false, false, false, false, false, false, false, false, false, false, false, false]) (by kernel_rfl) (by kernel_rfl) (by kernel_rfl) (by kernel_rfl) (by kernel_rfl) (by kernel_rfl) (fun _ _ _ _ _ h => h) (by assumption) ?_ ?_
                        rotate_left
                        · (intro o ho w' hSw; cases ho; (try dsimp only at hSw); go_simp; try with_reducible rfl)
                        simp only [Act.put, List.setIfInBounds_toArray, List.set_cons_zero, List.set_cons_succ]
                        refine held_take (i := 11) (d := 164) (v := ?_) (listed' := #[true, true, true, true, true, true, true, true, true, true, true, true, false, false, false, false, false, false, false, false, false, false, false, false, false, false, false, false, false, false, false, false, false, false]) (by kernel_rfl) (by kernel_rfl) (by kernel_rfl) (by kernel_rfl) (by kernel_rfl) (by kernel_rfl) (fun _ _ _ _ _ h => h) (by assumption) ?_ ?_
                        rotate_left
                        · (intro o ho w' hSw; cases ho; (try dsimp only at hSw); go_simp; try with_reducible rfl)
                        simp only [Act.put, List.setIfInBounds_toArray, List.set_cons_zero, List.set_cons_succ]
                        refine held_take (i := 12) (d := 165) (v := ?_) (listed' := #[true, true, true, true, true, true, true, true, true, true, true, true, true, false, false, false, false, false, false, false, false, false, false, false, false, false, false, false, false, false, false, false, false, false]) (by kernel_rfl) (by kernel_rfl) (by kernel_rfl) (by kernel_rfl) (by kernel_rfl) (by kernel_rfl) (fun _ _ _ _ _ h => h) (by assumption) ?_ ?_
                        rotate_left
                        · (intro o ho w' hSw; cases ho; (try dsimp only at hSw); go_simp; try with_reducible rfl)
                        simp only [Act.put, List.setIfInBounds_toArray, List.set_cons_zero, List.set_cons_succ]
                        refine held_take (i := 13) (d := 166) (v := ?_) (listed' := #[true, true, true, true, true, true, true, true, true, true, true, true, true, true, false, false, false, false, false, false, false, false, false, false, false, false, false, false, false, false, false, false, false, false]) (by kernel_rfl) (by kernel_rfl) (by kernel_rfl) (by kernel_rfl) (by kernel_rfl) (by kernel_rfl) (fun _ _ _ _ _ h => h) (by assumption) ?_ ?_
                        rotate_left
                        · (intro o ho w' hSw; cases ho; (try dsimp only at hSw); go_simp; try with_reducible rfl)
                        simp only [Act.put, List.setIfInBounds_toArray, List.set_cons_zero, List.set_cons_succ]
                        refine held_take (i := 14) (d := 167) (v := ?_) (listed' := #[true, true, true, true, true, true, true, true, true, true, true, true, true, true, true, false, false, false, false, false, false, false, false, false, false, false, false, false, false, false, false, false, false, false]) (by kernel_rfl) (by kernel_rfl) (by kernel_rfl) (by kernel_rfl) (by kernel_rfl) (by kernel_rfl) (fun _ _ _ _ _ h => h) (by assumption) ?_ ?_
                        rotate_left
                        · (intro o ho w' hSw; cases ho; (try dsimp only at hSw); go_simp; try with_reducible rfl)
                        simp only [Act.put, List.setIfInBounds_toArray, List.set_cons_zero, List.set_cons_succ]
                        refine held_take (i := 15) (d := 168) (v := ?_) (listed' := #[true, true, true, true, true, true, true, true, true, true, true, true, true, true, true, true, false, false, false, false, false, false, false, false, false, false, false, false, false, false, false, false, false, false]) (by kernel_rfl) (by kernel_rfl) (by kernel_rfl) (by kernel_rfl) (by kernel_rfl) (by kernel_rfl) (fun _ _ _ _ _ h => h) (by assumption) ?_ ?_
                        rotate_left
                        · (intro o ho w' hSw; cases ho; (try dsimp only at hSw); go_simp; try with_reducible rfl)
                        simp only [Act.put, List.setIfInBounds_toArray, List.set_cons_zero, List.set_cons_succ]
                        refine held_step (i := 16) (listed' := #[true, true, true, true, true, true, true, true, true, true, true, true, true, true, true, true, true, false, false, false, false, false, false, false, false, false, false, false, false, false, false, false, false, false]) (by kernel_rfl) (by kernel_rfl) (by kernel_rfl) (fun o ho K hK => ?_)
                        cases ho
                        go_simp
                        go_at_call 11
                        (try rw [WRP.out])
                        refine (BY7.out wr.drew OJ.out.drew).mono ?_
                        rintro e w7 ⟨v7, rfl, h14, hcv⟩
                        (try go_wp2_with fail)
                        refine hK.out _ _ (KP.out _ h14) (fun hHeld => ?_)
                        clear hK K
                        try simp only [Act.put, List.setIfInBounds_toArray, List.set_cons_zero, List.set_cons_succ]
                        refine held_step (i := 17) (listed' := #[true, true, true, true, true, true, true, true, true, true, true, true, true, true, true, true, true, true, false, false, false, false, false, false, false, false, false, false, false, false, false, false, false, false]) (by kernel_rfl) (by kernel_rfl) (by kernel_rfl) (fun o ho K hK => ?_)
                        cases ho
                        go_simp
                        refine hK.out _ _ (KP.out _ h14) (fun hHeld => ?_)
                        clear hK K
                        try dsimp only
                        refine held_take (i := 18) (d := 171) (v := .bool false) (listed' := #[true, true, true, true, true, true, true, true, true, true, true, true, true, true, true, true, true, true, true, false, false, false, false, false, false, false, false, false, false, false, false, false, false, false]) (by kernel_rfl) (by kernel_rfl) (by kernel_rfl) (by kernel_rfl) (by kernel_rfl) (by kernel_rfl) (fun _ _ _ _ _ h => h) (by assumption) ?_ ?_
                        · (intro o ho w' hSw; cases ho; (try dsimp only at hSw); go_simp; first | done | with_reducible rfl | simp [*])
                        simp only [Act.put, List.setIfInBounds_toArray, List.set_cons_zero, List.set_cons_succ]
                        refine held_take (i := 19) (d := 172) (v := .bool false) (listed' := #[true, true, true, true, true, true, true, true, true, true, true, true, true, true, true, true, true, true, true, true, false, false, false, false, false, false, false, false, false, false, false, false, false, false]) (by kernel_rfl) (by kernel_rfl) (by kernel_rfl) (by kernel_rfl) (by kernel_rfl) (by kernel_rfl) (fun _ _ _ _ _ h => h) (by assumption) ?_ ?_
                        · (intro o ho w' hSw; cases ho; (try dsimp only at hSw); go_simp; first | done | with_reducible rfl | simp [*])
                        simp only [Act.put, List.setIfInBounds_toArray, List.set_cons_zero, List.set_cons_succ]
                        refine held_take (i := 20) (d := 173) (v := ?_) (listed' := #[true, true, true, true, true, true, true, true, true, true, true, true, true, true, true, true, true, true, true, true, true, false, false, false, false, false, false, false, false, false, false, false, false, false]) (by kernel_rfl) (by kernel_rfl) (by kernel_rfl) (by kernel_rfl) (by kernel_rfl) (by kernel_rfl) (fun _ _ _ _ _ h => h) (by assumption) ?_ ?_
                        rotate_left
                        · (intro o ho w' hSw; cases ho; (try dsimp only at hSw); go_simp; try with_reducible rfl)
                        simp only [Act.put, List.setIfInBounds_toArray, List.set_cons_zero, List.set_cons_succ]
                        refine held_skip (i := 21) (d := 174) (listed' := #[true, true, true, true, true, true, true, true, true, true, true, true, true, true, true, true, true, true, true, true, true, true, false, false, false, false, false, false, false, false, false, false, false, false]) (by kernel_rfl) (by kernel_rfl) (by kernel_rfl) (by kernel_rfl) (by kernel_rfl) (by kernel_rfl) (fun _ _ _ _ _ h => h) (by assumption) ?_
                        simp only [Act.put, List.setIfInBounds_toArray, List.set_cons_zero, List.set_cons_succ]
                        refine held_skip (i := 22) (d := 175) (listed' := #[true, true, true, true, true, true, true, true, true, true, true, true, true, true, true, true, true, true, true, true, true, true, true, false, false, false, false, false, false, false, false, false, false, false]) (by kernel_rfl) (by kernel_rfl) (by kernel_rfl) (by kernel_rfl) (by kernel_rfl) (by kernel_rfl) (fun _ _ _ _ _ h => h) (by assumption) ?_
                        simp only [Act.put, List.setIfInBounds_toArray, List.set_cons_zero, List.set_cons_succ]
                        refine held_skip (i := 23) (d := 176) (listed' := #[true, true, true, true, true, true, true, true, true, true, true, true, true, true, true, true, true, true, true, true, true, true, true, true, false, false, false, false, false, false, false, false, false, false]) (by kernel_rfl) (by kernel_rfl) (by kernel_rfl) (by kernel_rfl) (by kernel_rfl) (by kernel_rfl) (fun _ _ _ _ _ h => h) (by assumption) ?_
                        simp only [Act.put, List.setIfInBounds_toArray, List.set_cons_zero, List.set_cons_succ]
                        refine held_skip (i := 24) (d := 177) (listed' := #[true, true, true, true, true, true, true, true, true, true, true, true, true, true, true, true, true, true, true, true, true, true, true, true, true, false, false, false, false, false, false, false, false, false]) (by kernel_rfl) (by kernel_rfl) (by kernel_rfl) (by kernel_rfl) (by kernel_rfl) (by kernel_rfl) (fun _ _ _ _ _ h => h) (by assumption) ?_
                        simp only [Act.put, List.setIfInBounds_toArray, List.set_cons_zero, List.set_cons_succ]
                        refine held_take (i := 25) (d := 178) (v := .bool false) (listed' := #[true, true, true, true, true, true, true, true, true, true, true, true, true, true, true, true, true, true, true, true, true, true, true, true, true, true, false, false, false, false, false, false, false, false]) (by kernel_rfl) (by kernel_rfl) (by kernel_rfl) (by kernel_rfl) (by kernel_rfl) (by kernel_rfl) (fun _ _ _ _ _ h => h) (by assumption) ?_ ?_
                        · (intro o ho w' hSw; cases ho; (try dsimp only at hSw); go_simp; first | done | with_reducible rfl | simp [*])
                        simp only [Act.put, List.setIfInBounds_toArray, List.set_cons_zero, List.set_cons_succ]
                        refine held_take (i := 26) (d := 179) (v := ?_) (listed' := #[true, true, true, true, true, true, true, true, true, true, true, true, true, true, true, true, true, true, true, true, true, true, true, true, true, true, true, false, false, false, false, false, false, false]) (by kernel_rfl) (by kernel_rfl) (by kernel_rfl) (by kernel_rfl) (by kernel_rfl) (by kernel_rfl) (fun _ _ _ _ _ h => h) (by assumption) ?_ ?_
                        rotate_left
                        · (intro o ho w' hSw; cases ho; (try dsimp only at hSw); go_simp; try with_reducible rfl)
                        simp only [Act.put, List.setIfInBounds_toArray, List.set_cons_zero, List.set_cons_succ]
                        refine held_skip (i := 27) (d := 180) (listed' := #[true, true, true, true, true, true, true, true, true, true, true, true, true, true, true, true, true, true, true, true, true, true, true, true, true, true, true, true, false, false, false, false, false, false]) (by kernel_rfl) (by kernel_rfl) (by kernel_rfl) (by kernel_rfl) (by kernel_rfl) (by kernel_rfl) (fun _ _ _ _ _ h => h) (by assumption) ?_
                        simp only [Act.put, List.setIfInBounds_toArray, List.set_cons_zero, List.set_cons_succ]
                        refine held_skip (i := 28) (d := 181) (listed' := #[true, true, true, true, true, true, true, true, true, true, true, true, true, true, true, true, true, true, true, true, true, true, true, true, true, true, true, true, true, false, false, false, false, false]) (by kernel_rfl) (by kernel_rfl) (by kernel_rfl) (by kernel_rfl) (by kernel_rfl) (by kernel_rfl) (fun _ _ _ _ _ h => h) (by assumption) ?_
                        simp only [Act.put, List.setIfInBounds_toArray, List.set_cons_zero, List.set_cons_succ]
                        refine held_skip (i := 29) (d := 182) (listed' := #[true, true, true, true, true, true, true, true, true, true, true, true, true, true, true, true, true, true, true, true, true, true, true, true, true, true, true, true, true, true, false, false, false, false]) (by kernel_rfl) (by kernel_rfl) (by kernel_rfl) (by kernel_rfl) (by kernel_rfl) (by kernel_rfl) (fun _ _ _ _ _ h => h) (by assumption) ?_
                        simp only [Act.put, List.setIfInBounds_toArray, List.set_cons_zero, List.set_cons_succ]
                        refine held_skip (i := 30) (d := 183) (listed' := #[true, true, true, true, true, true, true, true, true, true, true, true, true, true, true, true, true, true, true, true, true, true, true, true, true, true, true, true, true, true, true, false, false, false]) (by kernel_rfl) (by kernel_rfl) (by kernel_rfl) (by kernel_rfl) (by kernel_rfl) (by kernel_rfl) (fun _ _ _ _ _ h => h) (by assumption) ?_
                        simp only [Act.put, List.setIfInBounds_toArray, List.set_cons_zero, List.set_cons_succ]
                        refine held_take (i := 31) (d := 184) (v := .bool false) (listed' := #[true, true, true, true, true, true, true, true, true, true, true, true, true, true, true, true, true, true, true, true, true, true, true, true, true, true, true, true, true, true, true, true, false, false]) (by kernel_rfl) (by kernel_rfl) (by kernel_rfl) (by kernel_rfl) (by kernel_rfl) (by kernel_rfl) (fun _ _ _ _ _ h => h) (by assumption) ?_ ?_
                        · (intro o ho w' hSw; cases ho; (try dsimp only at hSw); go_simp; first | done | with_reducible rfl | simp [*])
                        simp only [Act.put, List.setIfInBounds_toArray, List.set_cons_zero, List.set_cons_succ]
                        refine held_take (i := 32) (d := 185) (v := ?_) (listed' := #[true, true, true, true, true, true, true, true, true, true, true, true, true, true, true, true, true, true, true, true, true, true, true, true, true, true, true, true, true, true, true, true, true, false]) (by kernel_rfl) (by kernel_rfl) (by kernel_rfl) (by kernel_rfl) (by kernel_rfl) (by kernel_rfl) (fun _ _ _ _ _ h => h) (by assumption) ?_ ?_
                        rotate_left
                        · (intro o ho w' hSw; cases ho; (try dsimp only at hSw); go_simp; try with_reducible rfl)
                        simp only [Act.put, List.setIfInBounds_toArray, List.set_cons_zero, List.set_cons_succ]
                        refine held_take (i := 33) (d := 17) (v := ?_) (listed' := #[true, true, true, true, true, true, true, true, true, true, true, true, true, true, true, true, true, true, true, true, true, true, true, true, true, true, true, true, true, true, true, true, true, true]) (by kernel_rfl) (by kernel_rfl) (by kernel_rfl) (by kernel_rfl) (by kernel_rfl) (by kernel_rfl) (fun _ _ _ _ _ h => h) (by assumption) ?_ ?_
                        rotate_left
                        · (intro o ho w' hSw; cases ho; (try dsimp only at hSw); go_simp; try with_reducible rfl)
                        simp only [Act.put, List.setIfInBounds_toArray, List.set_cons_zero, List.set_cons_succ]
                        refine wpAnyH_done (by kernel_rfl) ?_ _
                        refine NoPanic.normal ?_
                        all_goals
                          go_wp2_with fail
                          exact ⟨⟨j + 1, by omega, by go_num, false, rfl, fun _ => MF.out.next HX.out (fun _ _ he => C2.out (HS6.out.trans (he.trans HT7.out.symm))), h14⟩, by simp [intOf]; omega⟩
                    · have e6 : ((x : Int) % (n : Int) = (k : Int)) = False := by
                        rw [show (x : Int) % (n : Int) = ((x % n : Nat) : Int) from rfl]; simp; exact_mod_cast c1
                      have e5 : n ≠ 0 := by omega
                      have e4' : ((x : Int).tmod (n : Int) = (k : Int)) = False := by rw [Int.tmod_eq_emod_of_nonneg (by omega)]; exact e6
                      have C1 := Lib.hid c1
                      go_wp2_with fail
                      refine wp_region_noPanic ?_
                      refine held_start (n := 34) (S := (fun w' => Only NoB w6 w' ∧ (convert 28 9 (.slice A6 16 c6)).run Try.prog w' = .ok (.string ⟨S6.toArray⟩) w' ∧ w'.cell? ⟨g, off + j, none⟩ = some (.int .i64 x))) (listed := #[false, false, false, false, false, false, false, false, false, false, false, false, false, false, false, false, false, false, false, false, false, false, false, false, false, false, false, false, false, false, false, false, false, false]) (by kernel_rfl) (by kernel_rfl) (by kernel_rfl) (KP.out _ OJ.out.drew) (fun hHeld => ?_)
                      refine held_take (i := 0) (d := 153) (v := ?_) (listed' := #[true, false, false, false, false, false, false, false, false, false, false, false, false, false, false, false, false, false, false, false, false, false, false, false, false, false, false, false, false, false, false, false, false, false]) (by kernel_rfl) (by kernel_rfl) (by kernel_rfl) (by kernel_rfl) (by kernel_rfl) (by kernel_rfl) (fun _ _ _ _ _ h => h) (by assumption) ?_ ?_
                      rotate_left
                      · (intro o ho w' hSw; cases ho; (try dsimp only at hSw); go_simp; try with_reducible rfl)
                      simp only [Act.put, List.setIfInBounds_toArray, List.set_cons_zero, List.set_cons_succ]
                      refine held_take (i := 1) (d := 154) (v := ?_) (listed' := #[true, true, false, false, false, false, false, false, false, false, false, false, false, false, false, false, false, false, false, false, false, false, false, false, false, false, false, false, false, false, false, false, false, false]) (by kernel_rfl) (by kernel_rfl) (by kernel_rfl) (by kernel_rfl) (by kernel_rfl) (by kernel_rfl) (fun _ _ _ _ _ h => h) (by assumption) ?_ ?_
                      rotate_left
                      · (intro o ho w' hSw; cases ho; (try dsimp only at hSw); go_simp; try with_reducible rfl)
                      simp only [Act.put, List.setIfInBounds_toArray, List.set_cons_zero, List.set_cons_succ]
                      refine held_take (i := 2) (d := 155) (v := ?_) (listed' := #[true, true, true, false, false, false, false, false, false, false, false, false, false, false, false, false, false, false, false, false, false, false, false, false, false, false, false, false, false, false, false, false, false, false]) (by kernel_rfl) (by kernel_rfl) (by kernel_rfl) (by kernel_rfl) (by kernel_rfl) (by kernel_rfl) (fun _ _ _ _ _ h => h) (by assumption) ?_ ?_
                      rotate_left
                      · (intro o ho w' hSw; cases ho; (try dsimp only at hSw); go_simp; try with_reducible rfl)
                      simp only [Act.put, List.setIfInBounds_toArray, List.set_cons_zero, List.set_cons_succ]
                      refine held_take (i := 3) (d := 156) (v := ?_) (listed' := #[true, true, true, true, false, false, false, false, false, false, false, false, false, false, false, false, false, false, false, false, false, false, false, false, false, false, false, false, false, false, false, false, false, false]) (by kernel_rfl) (by kernel_rfl) (by kernel_rfl) (by kernel_rfl) (by kernel_rfl) (by kernel_rfl) (fun _ _ _ _ _ h => h) (by assumption) ?_ ?_
                      rotate_left
                      · (intro o ho w' hSw; cases ho; (try dsimp only at hSw); go_simp; try with_reducible rfl)
                      simp only [Act.put, List.setIfInBounds_toArray, List.set_cons_zero, List.set_cons_succ]
                      refine held_take (i := 4) (d := 157) (v := ?_) (listed' := #[true, true, true, true, true, false, false, false, false, false, false, false, false, false, false, false, false, false, false, false, false, false, false, false, false, false, false, false, false, false, false, false, false, false]) (by kernel_rfl) (by kernel_rfl) (by kernel_rfl) (by kernel_rfl) (by kernel_rfl) (by kernel_rfl) (fun _ _ _ _ _ h => h) (by assumption) ?_ ?_
                      rotate_left
                      · (intro o ho w' hSw; cases ho; (try dsimp only at hSw); go_simp; try with_reducible rfl)
                      simp only [Act.put, List.setIfInBounds_toArray, List.set_cons_zero, List.set_cons_succ]
                      refine held_take (i := 5) (d := 158) (v := ?_) (listed' := #[true, true, true, true, true, true, false, false, false, false, false, false, false, false, false, false, false, false, false, false, false, false, false, false, false, false, false, false, false, false, false, false, false, false]) (by kernel_rfl) (by kernel_rfl) (by kernel_rfl) (by kernel_rfl) (by kernel_rfl) (by kernel_rfl) (fun _ _ _ _ _ h => h) (by assumption) ?_ ?_
                      rotate_left
                      · (intro o ho w' hSw; cases ho; (try dsimp only at hSw); go_simp; try with_reducible rfl)
                      simp only [Act.put, List.setIfInBounds_toArray, List.set_cons_zero, List.set_cons_succ]
                      refine held_take (i := 6) (d := 159) (v := ?_) (listed' := #[true, true, true, true, true, true, true, false, false, false, false, false, false, false, false, false, false, false, false, false, false, false, false, false, false, false, false, false, false, false, false, false, false, false]) (by kernel_rfl) (by kernel_rfl) (by kernel_rfl) (by kernel_rfl) (by kernel_rfl) (by kernel_rfl) (fun _ _ _ _ _ h => h) (by assumption) ?_ ?_
                      rotate_left
                      · (intro o ho w' hSw; cases ho; (try dsimp only at hSw); go_simp; try with_reducible rfl)
                      simp only [Act.put, List.setIfInBounds_toArray, List.set_cons_zero, List.set_cons_succ]
                      refine held_take (i := 7) (d := 160) (v := ?_) (listed' := #[true, true, true, true, true, true, true, true, false, false, false, false, false, false, false, false, false, false, false, false, false, false, false, false, false, false, false, false, false, false, false, false, false, false]) (by kernel_rfl) (by kernel_rfl) (by kernel_rfl) (by kernel_rfl) (by kernel_rfl) (by kernel_rfl) (fun _ _ _ _ _ h => h) (by assumption) ?_ ?_
                      rotate_left
                      · (intro o ho w' hSw; cases ho; (try dsimp only at hSw); go_simp; try with_reducible rfl)
                      simp only [Act.put, List.setIfInBounds_toArray, List.set_cons_zero, List.set_cons_succ]
                      refine held_take (i := 8) (d := 161) (v := ?_) (listed' := #[true, true, true, true, true, true, true, true, true, false, false, false, false, false, false, false, false, false, false, false, false, false, false, false, false, false, false, false, false, false, false, false, false, false]) (by kernel_rfl) (by kernel_rfl) (by kernel_rfl) (by kernel_rfl) (by kernel_rfl) (by kernel_rfl) (fun _ _ _ _ _ h => h) (by assumption) ?_ ?_
                      rotate_left
                      · (intro o ho w' hSw; cases ho; (try dsimp only at hSw); go_simp; try with_reducible rfl)
                      simp only [Act.put, List.setIfInBounds_toArray, List.set_cons_zero, List.set_cons_succ]
                      refine held_take (i := 9) (d := 162) (v := .bool false) (listed' := #[true, true, true, true, true, true, true, true, true, true, false, false, false, false, false, false, false, false, false, false, false, false, false, false, false, false, false, false, false, false, false, false, false, false]) (by kernel_rfl) (by kernel_rfl) (by kernel_rfl) (by kernel_rfl) (by kernel_rfl) (by kernel_rfl) (fun _ _ _ _ _ h => h) (by assumption) ?_ ?_
                      · (intro o ho w' hSw; cases ho; (try dsimp only at hSw); go_simp; first | done | with_reducible rfl | simp [*])
                      simp only [Act.put, List.setIfInBounds_toArray, List.set_cons_zero, List.set_cons_succ]
                      refine held_take (i := 10) (d := 163) (v := ?_) (listed' := #[true, true, true, true, true, true, true, true, true, true, true, false, false, false, false, false, false, false, false, false, false, false, false, false, false, false, false, false, false, false, false, false, false, false]) (by kernel_rfl) (by kernel_rfl) (by kernel_rfl) (by kernel_rfl) (by kernel_rfl) (by kernel_rfl) (fun _ _ _ _ _ h => h) (by assumption) ?_ ?_
                      rotate_left
                      · (intro o ho w' hSw; cases ho; (try dsimp only at hSw); go_simp; try with_reducible rfl)
                      simp only [Act.put, List.setIfInBounds_toArray, List.set_cons_zero, List.set_cons_succ]
                      refine held_skip (i := 11) (d := 164) (listed' := #[true, true, true, true, true, true, true, true, true, true, true, true, false, false, false, false, false, false, false, false, false, false, false, false, false, false, false, false, false, false, false, false, false, false]) (by kernel_rfl) (by kernel_rfl) (by kernel_rfl) (by kernel_rfl) (by kernel_rfl) (by kernel_rfl) (fun _ _ _ _ _ h => h) (by assumption) ?_
                      simp only [Act.put, List.setIfInBounds_toArray, List.set_cons_zero, List.set_cons_succ]
                      refine held_skip (i := 12) (d := 165) (listed' := #[true, true, true, true, true, true, true, true, true, true, true, true, true, false, false, false, false, false, false, false, false, false, false, false, false, false, false, false, false, false, false, false, false, false]) (by kernel_rfl) (by kernel_rfl) (by kernel_rfl) (by kernel_rfl) (by kernel_rfl) (by kernel_rfl) (fun _ _ _ _ _ h => h) (by assumption) ?_
                      simp only [Act.put, List.setIfInBounds_toArray, List.set_cons_zero, List.set_cons_succ]
                      refine held_skip (i := 13) (d := 166) (listed' := #[true, true, true, true, true, true, true, true, true, true, true, true, true, true, false, false, false, false, false, false, false, false, false, false, false, false, false, false, false, false, false, false, false, false]) (by kernel_rfl) (by kernel_rfl) (by kernel_rfl) (by kernel_rfl) (by kernel_rfl) (by kernel_rfl) (fun _ _ _ _ _ h => h) (by assumption) ?_
                      simp only [Act.put, List.setIfInBounds_toArray, List.set_cons_zero, List.set_cons_succ]
                      refine held_skip (i := 14) (d := 167) (listed' := #[true, true, true, true, true, true, true, true, true, true, true, true, true, true, true, false, false, false, false, false, false, false, false, false, false, false, false, false, false, false, false, false, false, false]) (by kernel_rfl) (by kernel_rfl) (by kernel_rfl) (by kernel_rfl) (by kernel_rfl) (by kernel_rfl) (fun _ _ _ _ _ h => h) (by assumption) ?_
                      simp only [Act.put, List.setIfInBounds_toArray, List.set_cons_zero, List.set_cons_succ]
                      refine held_skip (i := 15) (d := 168) (listed' := #[true, true, true, true, true, true, true, true, true, true, true, true, true, true, true, true, false, false, false, false, false, false, false, false, false, false, false, false, false, false, false, false, false, false]) (by kernel_rfl) (by kernel_rfl) (by kernel_rfl) (by kernel_rfl) (by kernel_rfl) (by kernel_rfl) (fun _ _ _ _ _ h => h) (by assumption) ?_
                      simp only [Act.put, List.setIfInBounds_toArray, List.set_cons_zero, List.set_cons_succ]
                      refine held_skip (i := 16) (d := 169) (listed' := #[true, true, true, true, true, true, true, true, true, true, true, true, true, true, true, true, true, false, false, false, false, false, false, false, false, false, false, false, false, false, false, false, false, false]) (by kernel_rfl) (by kernel_rfl) (by kernel_rfl) (by kernel_rfl) (by kernel_rfl) (by kernel_rfl) (fun _ _ _ _ _ h => h) (by assumption) ?_
                      simp only [Act.put, List.setIfInBounds_toArray, List.set_cons_zero, List.set_cons_succ]
                      refine held_skip (i := 17) (d := 170) (listed' := #[true, true, true, true, true, true, true, true, true, true, true, true, true, true, true, true, true, true, false, false, false, false, false, false, false, false, false, false, false, false, false, false, false, false]) (by kernel_rfl) (by kernel_rfl) (by kernel_rfl) (by kernel_rfl) (by kernel_rfl) (by kernel_rfl) (fun _ _ _ _ _ h => h) (by assumption) ?_
                      simp only [Act.put, List.setIfInBounds_toArray, List.set_cons_zero, List.set_cons_succ]
                      refine held_skip (i := 18) (d := 171) (listed' := #[true, true, true, true, true, true, true, true, true, true, true, true, true, true, true, true, true, true, true, false, false, false, false, false, false, false, false, false, false, false, false, false, false, false]) (by kernel_rfl) (by kernel_rfl) (by kernel_rfl) (by kernel_rfl) (by kernel_rfl) (by kernel_rfl) (fun _ _ _ _ _ h => h) (by assumption) ?_
                      simp only [Act.put, List.setIfInBounds_toArray, List.set_cons_zero, List.set_cons_succ]
                      refine held_take (i := 19) (d := 172) (v := .bool false) (listed' := #[true, true, true, true, true, true, true, true, true, true, true, true, true, true, true, true, true, true, true, true, false, false, false, false, false, false, false, false, false, false, false, false, false, false]) (by kernel_rfl) (by kernel_rfl) (by kernel_rfl) (by kernel_rfl) (by kernel_rfl) (by kernel_rfl) (fun _ _ _ _ _ h => h) (by assumption) ?_ ?_
                      · (intro o ho w' hSw; cases ho; (try dsimp only at hSw); go_simp; first | done | with_reducible rfl | simp [*])
                      simp only [Act.put, List.setIfInBounds_toArray, List.set_cons_zero, List.set_cons_succ]
                      refine held_take (i := 20) (d := 173) (v := ?_) (listed' := #[true, true, true, true, true, true, true, true, true, true, true, true, true, true, true, true, true, true, true, true, true, false, false, false, false, false, false, false, false, false, false, false, false, false]) (by kernel_rfl) (by kernel_rfl) (by kernel_rfl) (by kernel_rfl) (by kernel_rfl) (by kernel_rfl) (fun _ _ _ _ _ h => h) (by assumption) ?_ ?_
                      rotate_left
                      · (intro o ho w' hSw; cases ho; (try dsimp only at hSw); go_simp; try with_reducible rfl)
                      simp only [Act.put, List.setIfInBounds_toArray, List.set_cons_zero, List.set_cons_succ]
                      refine held_skip (i := 21) (d := 174) (listed' := #[true, true, true, true, true, true, true, true, true, true, true, true, true, true, true, true, true, true, true, true, true, true, false, false, false, false, false, false, false, false, false, false, false, false]) (by kernel_rfl) (by kernel_rfl) (by kernel_rfl) (by kernel_rfl) (by kernel_rfl) (by kernel_rfl) (fun _ _ _ _ _ h => h) (by assumption) ?_
                      simp only [Act.put, List.setIfInBounds_toArray, List.set_cons_zero, List.set_cons_succ]
                      refine held_skip (i := 22) (d := 175) (listed' := #[true, true, true, true, true, true, true, true, true, true, true, true, true, true, true, true, true, true, true, true, true, true, true, false, false, false, false, false, false, false, false, false, false, false]) (by kernel_rfl) (by kernel_rfl) (by kernel_rfl) (by kernel_rfl) (by kernel_rfl) (by kernel_rfl) (fun _ _ _ _ _ h => h) (by assumption) ?_
                      simp only [Act.put, List.setIfInBounds_toArray, List.set_cons_zero, List.set_cons_succ]
                      refine held_skip (i := 23) (d := 176) (listed' := #[true, true, true, true, true, true, true, true, true, true, true, true, true, true, true, true, true, true, true, true, true, true, true, true, false, false, false, false, false, false, false, false, false, false]) (by kernel_rfl) (by kernel_rfl) (by kernel_rfl) (by kernel_rfl) (by kernel_rfl) (by kernel_rfl) (fun _ _ _ _ _ h => h) (by assumption) ?_
                      simp only [Act.put, List.setIfInBounds_toArray, List.set_cons_zero, List.set_cons_succ]
                      refine held_skip (i := 24) (d := 177) (listed' := #[true, true, true, true, true, true, true, true, true, true, true, true, true, true, true, true, true, true, true, true, true, true, true, true, true, false, false, false, false, false, false, false, false, false]) (by kernel_rfl) (by kernel_rfl) (by kernel_rfl) (by kernel_rfl) (by kernel_rfl) (by kernel_rfl) (fun _ _ _ _ _ h => h) (by assumption) ?_
                      simp only [Act.put, List.setIfInBounds_toArray, List.set_cons_zero, List.set_cons_succ]
                      refine held_take (i := 25) (d := 178) (v := .bool false) (listed' := #[true, true, true, true, true, true, true, true, true, true, true, true, true, true, true, true, true, true, true, true, true, true, true, true, true, true, false, false, false, false, false, false, false, false]) (by kernel_rfl) (by kernel_rfl) (by kernel_rfl) (by kernel_rfl) (by kernel_rfl) (by kernel_rfl) (fun _ _ _ _ _ h => h) (by assumption) ?_ ?_
                      · (intro o ho w' hSw; cases ho; (try dsimp only at hSw); go_simp; first | done | with_reducible rfl | simp [*])
                      simp only [Act.put, List.setIfInBounds_toArray, List.set_cons_zero, List.set_cons_succ]
                      refine held_take (i := 26) (d := 179) (v := ?_) (listed' := #[true, true, true, true, true, true, true, true, true, true, true, true, true, true, true, true, true, true, true, true, true, true, true, true, true, true, true, false, false, false, false, false, false, false]) (by kernel_rfl) (by kernel_rfl) (by kernel_rfl) (by kernel_rfl) (by kernel_rfl) (by kernel_rfl) (fun _ _ _ _ _ h => h) (by assumption) ?_ ?_
                      rotate_left
                      · (intro o ho w' hSw; cases ho; (try dsimp only at hSw); go_simp; try with_reducible rfl)
                      simp only [Act.put, List.setIfInBounds_toArray, List.set_cons_zero, List.set_cons_succ]
                      refine held_skip (i := 27) (d := 180) (listed' := #[true, true, true, true, true, true, true, true, true, true, true, true, true, true, true, true, true, true, true, true, true, true, true, true, true, true, true, true, false, false, false, false, false, false]) (by kernel_rfl) (by kernel_rfl) (by kernel_rfl) (by kernel_rfl) (by kernel_rfl) (by kernel_rfl) (fun _ _ _ _ _ h => h) (by assumption) ?_
                      simp only [Act.put, List.setIfInBounds_toArray, List.set_cons_zero, List.set_cons_succ]
                      refine held_skip (i := 28) (d := 181) (listed' := #[true, true, true, true, true, true, true, true, true, true, true, true, true, true, true, true, true, true, true, true, true, true, true, true, true, true, true, true, true, false, false, false, false, false]) (by kernel_rfl) (by kernel_rfl) (by kernel_rfl) (by kernel_rfl) (by kernel_rfl) (by kernel_rfl) (fun _ _ _ _ _ h => h) (by assumption) ?_
                      simp only [Act.put, List.setIfInBounds_toArray, List.set_cons_zero, List.set_cons_succ]
                      refine held_skip (i := 29) (d := 182) (listed' := #[true, true, true, true, true, true, true, true, true, true, true, true, true, true, true, true, true, true, true, true, true, true, true, true, true, true, true, true, true, true, false, false, false, false]) (by kernel_rfl) (by kernel_rfl) (by kernel_rfl) (by kernel_rfl) (by kernel_rfl) (by kernel_rfl) (fun _ _ _ _ _ h => h) (by assumption) ?_
                      simp only [Act.put, List.setIfInBounds_toArray, List.set_cons_zero, List.set_cons_succ]
                      refine held_skip (i := 30) (d := 183) (listed' := #[true, true, true, true, true, true, true, true, true, true, true, true, true, true, true, true, true, true, true, true, true, true, true, true, true, true, true, true, true, true, true, false, false, false]) (by kernel_rfl) (by kernel_rfl) (by kernel_rfl) (by kernel_rfl) (by kernel_rfl) (by kernel_rfl) (fun _ _ _ _ _ h => h) (by assumption) ?_
                      simp only [Act.put, List.setIfInBounds_toArray, List.set_cons_zero, List.set_cons_succ]
                      refine held_take (i := 31) (d := 184) (v := .bool false) (listed' := #[true, true, true, true, true, true, true, true, true, true, true, true, true, true, true, true, true, true, true, true, true, true, true, true, true, true, true, true, true, true, true, true, false, false]) (by kernel_rfl) (by kernel_rfl) (by kernel_rfl) (by kernel_rfl) (by kernel_rfl) (by kernel_rfl) (fun _ _ _ _ _ h => h) (by assumption) ?_ ?_
                      · (intro o ho w' hSw; cases ho; (try dsimp only at hSw); go_simp; first | done | with_reducible rfl | simp [*])
                      simp only [Act.put, List.setIfInBounds_toArray, List.set_cons_zero, List.set_cons_succ]
                      refine held_take (i := 32) (d := 185) (v := ?_) (listed' := #[true, true, true, true, true, true, true, true, true, true, true, true, true, true, true, true, true, true, true, true, true, true, true, true, true, true, true, true, true, true, true, true, true, false]) (by kernel_rfl) (by kernel_rfl) (by kernel_rfl) (by kernel_rfl) (by kernel_rfl) (by kernel_rfl) (fun _ _ _ _ _ h => h) (by assumption) ?_ ?_
                      rotate_left
                      · (intro o ho w' hSw; cases ho; (try dsimp only at hSw); go_simp; try with_reducible rfl)
                      simp only [Act.put, List.setIfInBounds_toArray, List.set_cons_zero, List.set_cons_succ]
                      refine held_take (i := 33) (d := 17) (v := ?_) (listed' := #[true, true, true, true, true, true, true, true, true, true, true, true, true, true, true, true, true, true, true, true, true, true, true, true, true, true, true, true, true, true, true, true, true, true]) (by kernel_rfl) (by kernel_rfl) (by kernel_rfl) (by kernel_rfl) (by kernel_rfl) (by kernel_rfl) (fun _ _ _ _ _ h => h) (by assumption) ?_ ?_
                      rotate_left
                      · (intro o ho w' hSw; cases ho; (try dsimp only at hSw); go_simp; try with_reducible rfl)
                      simp only [Act.put, List.setIfInBounds_toArray, List.set_cons_zero, List.set_cons_succ]
                      refine wpAnyH_done (by kernel_rfl) ?_ _
                      refine NoPanic.normal ?_
                      all_goals
                        go_wp2_with fail
                        exact ⟨⟨j + 1, by omega, by go_num, false, rfl, fun _ => MF.out.next HX.out (fun h => absurd h C1.out), OJ.out.drew⟩, by simp [intOf]; omega⟩
                · obtain rfl : j = lb.length := by omega
                  cases o with
                  | true =>
                    go_wp2_with fail
                    exact ⟨⟨k + 1, by omega, by go_num, L6.out.quit OJ.out⟩, by simp [intOf]; omega⟩
                  | false =>
                    exfalso
                    exact (MJ.out rfl).absurd HS.out (by omega)
            · obtain rfl : k = n := by omega
              have O := Lib.hid LK.out.only
              clear LK
              go_wp2_with fail
              refine (awake_any _).mono ?_
              rintro e w7 ⟨rfl, ho⟩
              have O7 := Lib.hid (O.out.trans ho)
              clear ho
              go_wp2_with fail
              go_ret
              exact ⟨rfl, O7.out⟩
end Go.Proofs.Ytllodjcfcjmocaa
