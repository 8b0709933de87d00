import Derived.Test.YtllodjcfcjmocaaWr
import Derived.Deep.CutBlock
/- A SCRIPT OF CALLS, ANSWERED JUST SO: the walk. -/
namespace Go.Proofs.Ytllodjcfcjmocaa
open Go.RowKit Go.Proofs

/-- What the loop over the script holds. -/
def DoesInv (w wr : World) (b c n m k : Nat) : Prop := ∃ D, PairN w wr b c D D (fun _ => False) ∧ Bnd n m k D

/-- What stands behind the switch. -/
def SwR (w wc : World) (b c n m k q : Nat) (cs : Array Value) : Prop := ∃ E, PairN w wc b c E E (fun _ => False) ∧ Bnd n m (k + 1) E ∧ Blk wc q 48 cs
/-- A sector that is read isn't long. -/
theorem read_len {D : DD} (h : D.Wf) (s : Int) : (DD.read s D).1.length ≤ 4096 := by
  unfold DD.read
  split
  · simp
  · split
    · have := h.at_ s.toNat
      have := h.m2
      simp only; omega
    · simp

set_option maxRecDepth 4096 in
set_option maxHeartbeats 64000000 in
theorem diskDoes_walk (w : World) (n : Int) (hn : (Lit.int .i64 n).wf = true) (m : Int) (hm : (Lit.int .i64 m).wf = true) (v : Value) (l : List OpD) (hl : Ops w (Old w) v l) (gl : ∀ o ∈ l, (Lit.int .i64 o.sector).wf = true ∧ (Lit.int .i64 o.n).wf = true) :
    Calls Try.prog 6 #[.int .i64 n, .int .i64 m, v] w (Quit w (.bool true)) := by
  obtain ⟨A, cc, rfl, _⟩ := id hl
  have HL := Lib.hid hl
  have GL := Lib.hid gl
  have HFW := Lib.hid (few_any w (Old w) _ l hl)
  clear hl gl
  simp [Lit.wf, IntKind.min, IntKind.max, IntKind.signed, IntKind.bits] at hn hm
  go_enter Try.func6, Try.ntmps6
  go_wp2_with fail
  refine HFW.out.mono ?_
  rintro e w1 ⟨fb, rfl, rfl, hfd⟩
  clear HFW
  cases fb with
  | false =>
    go_wp2_with fail
    go_ret
    exact ⟨rfl, Only.refl _ _⟩
  | true =>
    obtain ⟨hl100, hfd⟩ := hfd rfl
    have FD := Lib.hid hfd
    clear hfd
    cases hmay : mayD n m with
    | false =>
      have M1 := fun w => may_any n m w
      rw [hmay] at M1
      have M1 := Lib.hid M1
      have hmay' : ¬ (1 ≤ n ∧ n ≤ 65536 ∧ 16 ≤ m ∧ m ≤ 4096) := by simpa [mayD] using hmay
      have NB := Lib.hid (new_bad n m hmay')
      clear hmay hmay'
      go_wp2_with fail
      refine (M1.out _).mono ?_
      rintro e w2 ⟨rfl, rfl⟩
      go_wp2_with fail
      refine (NB.out _).mono ?_
      rintro e w2 ⟨rfl, rfl⟩
      go_wp2_with fail
      refine (M1.out _).mono ?_
      rintro e w2 ⟨rfl, rfl⟩
      go_wp2_with fail
      refine (awake_any _).mono ?_
      rintro e w3 ⟨rfl, ho⟩
      have O7 := Lib.hid ho
      clear ho
      go_wp2_with fail
      go_ret
      exact ⟨rfl, O7.out⟩
    | true =>
      have M1 := fun w => may_any n m w
      rw [hmay] at M1
      have M1 := Lib.hid M1
      have hmay' : (1 ≤ n ∧ n ≤ 65536 ∧ 16 ≤ m ∧ m ≤ 4096) := by simpa [mayD] using hmay
      obtain ⟨h1, h2, h3, h4⟩ := hmay'
      clear hmay
      by_cases hn30 : n > 30
      · go_wp2_with fail
        refine (M1.out _).mono ?_
        rintro e w2 ⟨rfl, rfl⟩
        go_wp2_with fail
        go_ret
        exact ⟨rfl, Only.refl _ _⟩
      · have e1 : decide (n > 30) = false := by simpa using hn30
        by_cases hm100 : m > 100
        · go_wp2_with fail
          refine (M1.out _).mono ?_
          rintro e w2 ⟨rfl, rfl⟩
          go_wp2_with fail
          go_ret
          exact ⟨rfl, Only.refl _ _⟩
        · have e2 : decide (m > 100) = false := by simpa using hm100
          obtain ⟨n, rfl⟩ := Int.eq_ofNat_of_zero_le (show 0 ≤ n by omega)
          obtain ⟨m, rfl⟩ := Int.eq_ofNat_of_zero_le (show 0 ≤ m by omega)
          have N1 := Lib.hid (new_ok n m (by omega) (by omega) (by omega) (by omega))
          have R1 := Lib.hid (rnew_ok n m (by omega) (by omega) (by omega) (by omega))
          have hn1 : 1 ≤ n := by omega
          have hn2 : n ≤ 30 := by omega
          have hm1 : 16 ≤ m := by omega
          have hm2 : m ≤ 100 := by omega
          clear hn30 hm100 h1 h2 h3 h4 hn hm
          go_wp2_with fail
          refine (M1.out _).mono ?_
          rintro e w2 ⟨rfl, rfl⟩
          go_wp2_with fail
          refine (N1.out _).mono ?_
          rintro e w2 ⟨b, F, rfl, hd, ho1, hF⟩
          have D2 := Lib.hid hd
          have O2 := Lib.hid ho1
          have F2 := Lib.hid hF
          clear hd ho1 hF
          go_wp2_with fail
          refine (M1.out _).mono ?_
          rintro e w3 ⟨rfl, rfl⟩
          go_wp2_with fail
          refine (R1.out _).mono ?_
          rintro e w3 ⟨c, G, rfl, hr, ho2, hG⟩
          have P0 : Hid (DoesInv w w3 b c n m 0) := Lib.hid ⟨_, PairN.start D2.out hr O2.out F2.out ho2 hG, Bnd.new n m⟩
          clear hr ho2 hG D2 O2 F2 M1 N1 R1
          go_wp2_with fail
          go_loopw [10] (fun i wr => ∃ k : Nat, k ≤ l.length ∧ i = .int .i64 k ∧ DoesInv w wr b c n m k) (fun i _ => l.length - (intOf i).toNat)
          case atStart =>
            exact ⟨0, Nat.zero_le _, rfl, P0.out⟩
          case round =>
            obtain ⟨k, hk, rfl, D, hP, hB⟩ := hrel
            obtain ⟨wq, rfl⟩ : ∃ wq, wq = wr := ⟨_, rfl⟩
            have PK := Lib.hid hP
            have BK := Lib.hid hB
            clear hP hB P0
            by_cases hlt : k < l.length
            · obtain ⟨g, off, cc', bv, kv, hve, hcc, hg, ho⟩ := HL.out.open_ hlt
              injection hve with h1 h2 h3
              subst h1; subst h3
              obtain ⟨o, hoe⟩ : ∃ o, o = l[k] := ⟨_, rfl⟩
              rw [← hoe] at ho
              have GO := Lib.hid (GL.out o (by rw [hoe]; exact List.getElem_mem hlt))
              have FO := Lib.hid (FD.out o (by rw [hoe]; exact List.getElem_mem hlt))
              have HO := Lib.hid (ho.only PK.out.only hg fun _ _ => id)
              have HB := Lib.hid ho.rb
              have HKK := Lib.hid ho.rk
              clear ho hoe
              obtain ⟨bA, bc, rfl, _⟩ := id HO.out.rb
              obtain ⟨kA, kc, rfl, _⟩ := id HO.out.rk
              have x0 := HO.out.call
              have x1 := HO.out.sector
              have x2 := HO.out.n
              have x3 := HO.out.bytes
              have x4 := HO.out.keep
              obtain ⟨cl, hcl⟩ : ∃ cl, cl = o.call := ⟨_, rfl⟩
              rw [← hcl] at x0
              have Q0 : Hid (Blk (wq.alloc (.cells (opCells cl o (.slice bA o.bytes.length bc) (.slice kA o.keep.length kc)) 48)) wq.heap.size 48 (opCells cl o (.slice bA o.bytes.length bc) (.slice kA o.keep.length kc))) := Lib.hid (Blk.new _ _ _)
              have P0 := Lib.hid (PK.out.news ((Only.refl NoB wq).alloc (.cells (opCells cl o (.slice bA o.bytes.length bc) (.slice kA o.keep.length kc)) 48)))
              have RB : Hid (∀ w', Only NoB wq w' → Bytes w' (Old w) (.slice bA o.bytes.length bc) o.bytes) := Lib.hid fun w' ho => Rd.only HO.out.rb ho fun _ _ => id
              have RK : Hid (∀ w', Only NoB wq w' → Bools w' (Old w) (.slice kA o.keep.length kc) o.keep) := Lib.hid fun w' ho => Rd.only HO.out.rk ho fun _ _ => id
              have RW : Hid (∀ w', Only NoB w w' → Bytes w' (Old w) (.slice bA o.bytes.length bc) o.bytes ∧ Bools w' (Old w) (.slice kA o.keep.length kc) o.keep) := Lib.hid fun w' ho => ⟨Rd.only HB.out ho fun _ _ => id, Rd.only HKK.out ho fun _ _ => id⟩
              clear HO HB HKK
              have O0 : Hid (Only NoB wq (wq.alloc (.cells (opCells cl o (.slice bA o.bytes.length bc) (.slice kA o.keep.length kc)) 48))) := Lib.hid ((Only.refl NoB wq).alloc _)
              clear hcl
              go_upto_block 2 with fail
              go_cut [12, 13, 14, 15, 16] from 77 to 239 (fun _ _ _ _ _ wc => SwR w wc b c n m k wq.heap.size (opCells cl o (.slice bA o.bytes.length bc) (.slice kA o.keep.length kc)))
              case first =>
                by_cases c5 : cl = 5
                · subst c5
                  have HC := Lib.hid P0.out.on
                  go_wp2_with fail
                  refine HC.out.mono ?_
                  rintro e w4 ⟨rfl, hp, hk4⟩
                  have Q4 : Hid (Blk w4 wq.heap.size 48 (opCells 5 o (.slice bA o.bytes.length bc) (.slice kA o.keep.length kc))) := Lib.hid ((hk4 _ ⟨Nat.le_refl _, by simp⟩).trans Q0.out)
                  have HC := Lib.hid hp.ron
                  clear hp hk4
                  go_wp2_with fail
                  refine HC.out.mono ?_
                  rintro e w5 ⟨rfl, hp, hk4⟩
                  have QT : Hid (Blk w5 wq.heap.size 48 (opCells 5 o (.slice bA o.bytes.length bc) (.slice kA o.keep.length kc))) := Lib.hid ((hk4 _ ⟨Nat.le_refl _, by simp⟩).trans Q4.out)
                  have HT := Lib.hid (show ∃ E, PairN w w5 b c E E (fun _ => False) ∧ Bnd n m (k + 1) E from ⟨_, hp.less fun _ h => h.elim, BK.out.on.up⟩)
                  clear hp hk4 HC
                  go_wp2_with fail
                  go_meet
                  obtain ⟨E, h1, h2⟩ := HT.out
                  exact ⟨E, h1, h2, QT.out⟩
                by_cases c4 : cl = 4
                · subst c4
                  have HC := Lib.hid (P0.out.crash _ _ (RK.out _ O0.out) (by have := FO.out; omega))
                  go_wp2_with fail
                  refine HC.out.mono ?_
                  rintro e w4 ⟨rfl, hp, hk4⟩
                  have Q4 : Hid (Blk w4 wq.heap.size 48 (opCells 4 o (.slice bA o.bytes.length bc) (.slice kA o.keep.length kc))) := Lib.hid ((hk4 _ ⟨Nat.le_refl _, by simp⟩).trans Q0.out)
                  have O4 := Lib.hid hp.only
                  have HC := Lib.hid (hp.rcrash _ _ (RW.out _ O4.out).2 (by have := FO.out; omega))
                  have y4 : w4.cell? ⟨wq.heap.size, 4, none⟩ = some (.slice kA o.keep.length kc) := Q4.out.cell 4
                  clear hp hk4
                  go_wp2_with fail
                  clear y4
                  refine HC.out.mono ?_
                  rintro e w5 ⟨rfl, hp, hk4⟩
                  have QT : Hid (Blk w5 wq.heap.size 48 (opCells 4 o (.slice bA o.bytes.length bc) (.slice kA o.keep.length kc))) := Lib.hid ((hk4 _ ⟨Nat.le_refl _, by simp⟩).trans Q4.out)
                  have HT := Lib.hid (show ∃ E, PairN w w5 b c E E (fun _ => False) ∧ Bnd n m (k + 1) E from ⟨_, hp.less fun _ h => h.elim, (BK.out.crash _).up⟩)
                  clear hp hk4 HC
                  go_wp2_with fail
                  go_meet
                  obtain ⟨E, h1, h2⟩ := HT.out
                  exact ⟨E, h1, h2, QT.out⟩
                by_cases c3 : cl = 3
                · subst c3
                  have OE := Lib.hid (empty_own wq (.cells (opCells 3 o (.slice bA o.bytes.length bc) (.slice kA o.keep.length kc)) 48) 4)
                  have RS := Lib.hid (RK.out _ (O0.out.alloc (.cells #[] 4)))
                  have H1 := Lib.hid (oneCell_bools o.keep)
                  have hkl : o.keep.length ≤ 100 := FO.out.2
                  go_wp2_with (at_builtin; refine wpList_app (v := .slice (some ⟨wq.heap.size + 1, 0, none⟩) 0 0) rfl _ _ _ rfl (by kernel_rfl) Ty.bool rfl rfl OE.out RS.out H1.out (by omega) ?_; intro v' w1 ha; obtain ⟨A1, c1, rfl, hs1⟩ := id ha.shape; obtain ⟨ho1, hq1, hw1, hr1⟩ := made_own ha; have Q1 : Hid (Blk w1 wq.heap.size 48 (opCells 3 o (.slice bA o.bytes.length bc) (.slice kA o.keep.length kc))) := Lib.hid hq1; have P1 := Lib.hid (PK.out.news ho1); have W1 := Lib.hid hw1; have R1 := Lib.hid hr1; clear ha ho1 hq1 hw1 hr1; have y2 : w1.cell? ⟨wq.heap.size, 2, none⟩ = some (.int .i64 o.n) := Q1.out.cell 2)
                  try clear y2
                  have hn63 : o.n < 9223372036854775808 := by have := GO.out.2; simp [Lit.wf, IntKind.min, IntKind.max, IntKind.signed, IntKind.bits] at this; omega
                  have hqN : News wq w1 wq.heap.size := ⟨Nat.le_refl _, Q1.out.lt⟩
                  refine (P1.out.arm o.n hn63 _ _ o.keep R1.out (by omega)).mono ?_
                  rintro e w4 ⟨rfl, hp, hk4⟩
                  have Q4 : Hid (Blk w4 wq.heap.size 48 (opCells 3 o (.slice bA o.bytes.length bc) (.slice kA o.keep.length kc))) := Lib.hid ((hk4 _ hqN).trans Q1.out)
                  have W4 := Lib.hid (W1.out.keep fun k hk => hk4 k hk.1)
                  have O4 := Lib.hid hp.only
                  have HC := Lib.hid (hp.rarm o.n hn63 _ _ (RW.out _ O4.out).2 (by omega))
                  have y2 : w4.cell? ⟨wq.heap.size, 2, none⟩ = some (.int .i64 o.n) := Q4.out.cell 2
                  have y4 : w4.cell? ⟨wq.heap.size, 4, none⟩ = some (.slice kA o.keep.length kc) := Q4.out.cell 4
                  have HQN := Lib.hid hqN
                  clear hp hk4 hn63 hqN
                  go_wp2_with fail
                  clear y2 y4
                  refine HC.out.mono ?_
                  rintro e w5 ⟨rfl, hp, hk4⟩
                  have Q5 : Hid (Blk w5 wq.heap.size 48 (opCells 3 o (.slice bA o.bytes.length bc) (.slice kA o.keep.length kc))) := Lib.hid ((hk4 _ HQN.out).trans Q4.out)
                  have W5 := Lib.hid (W4.out.keep fun k hk => hk4 k hk.1)
                  have P5 := Lib.hid hp
                  have BE := Lib.hid (BK.out.arm o.n o.keep (by omega))
                  obtain ⟨E5, hE5⟩ : ∃ E5, E5 = DD.arm o.n o.keep D := ⟨_, rfl⟩
                  rw [← hE5] at P5 BE
                  clear hp hk4 HC hE5
                  go_wp2_with fail
                  go_loopw [16] (fun i w' => ∃ j : Nat, j ≤ o.keep.length ∧ i = .int .i64 j ∧ ∃ l' : List Bool, l'.length = o.keep.length ∧ PairN w w' b c E5 E5 (News wq w1) ∧ Blk w' wq.heap.size 48 (opCells 3 o (.slice bA o.bytes.length bc) (.slice kA o.keep.length kc)) ∧ WrL w' (fun k => News wq w1 k ∧ k ≠ wq.heap.size) (.slice A1 o.keep.length c1) (l'.map boolV)) (fun i _ => o.keep.length - (intOf i).toNat)
                  case atStart =>
                    exact ⟨0, Nat.zero_le _, rfl, o.keep, rfl, P5.out, Q5.out, W5.out⟩
                  case round =>
                    obtain ⟨j, hj, rfl, l', hxl, hPj, hQj, hWj⟩ := hrel
                    have Pj := Lib.hid hPj
                    have Wj := Lib.hid hWj
                    have Qj := Lib.hid hQj
                    have XL := Lib.hid hxl
                    clear hPj hWj hxl hQj P5 W5 Q5
                    by_cases hjl : j < o.keep.length
                    · have hjl' : j < l'.length := by rw [XL.out]; exact hjl
                      obtain ⟨g6, off6, c6', hve, hN, hcl6, hfr6, hst⟩ := Wj.out.store (j := j) (u0 := .bool l'[j]) (by rw [List.getElem?_map, List.getElem?_eq_getElem hjl']; rfl)
                      injection hve with h1 h2 h3
                      subst h1; subst h3
                      obtain ⟨z, hz⟩ : ∃ z, z = l'[j] := ⟨_, rfl⟩
                      rw [← hz] at hcl6
                      have ST := hst (.bool (!z))
                      rw [show (l'.map boolV).set j (.bool (!z)) = (l'.set j (!z)).map boolV by rw [List.map_set]; rfl] at ST
                      have ST := Lib.hid ST
                      have hst2 := (Only.refl (News wq w1) wr).setCell (p := ⟨g6, off6 + j, none⟩) (.inl hN.1) (.bool (!z))
                      have PJ := Lib.hid (Pj.out.turn hst2)
                      have QJ := Lib.hid (Qj.out.far (p := ⟨g6, off6 + j, none⟩) (fun e => hN.2 e.symm) (.bool (!z)))
                      have XJ := Lib.hid (show (l'.set j (!z)).length = o.keep.length by rw [List.length_set]; exact XL.out)
                      clear hst hst2 Pj Wj Qj hz
                      go_wp2_with fail
                      exact ⟨⟨j + 1, by omega, by go_num, _, XJ.out, PJ.out, QJ.out, ST.out⟩, by simp [intOf]; omega⟩
                    · obtain rfl : j = o.keep.length := by omega
                      have QT := Qj
                      have HT := Lib.hid (show ∃ E, PairN w wr b c E E (fun _ => False) ∧ Bnd n m (k + 1) E from ⟨_, Pj.out.less fun _ h => h.elim, BE.out.up⟩)
                      clear Pj Wj Qj XL
                      go_wp2_with fail
                      go_meet
                      obtain ⟨E, h1, h2⟩ := HT.out
                      exact ⟨E, h1, h2, QT.out⟩
                by_cases c2 : cl = 2
                · subst c2
                  have HC := Lib.hid (P0.out.flush (BK.out.few (by omega)))
                  obtain ⟨z, hz⟩ : ∃ z, z = (DD.flush D).2 := ⟨_, rfl⟩
                  rw [← hz] at HC
                  have HZ := Lib.hid hz
                  clear hz
                  go_wp2_with fail
                  refine HC.out.mono ?_
                  rintro e w4 ⟨rfl, hp, hk4⟩
                  have Q4 : Hid (Blk w4 wq.heap.size 48 (opCells 2 o (.slice bA o.bytes.length bc) (.slice kA o.keep.length kc))) := Lib.hid ((hk4 _ ⟨Nat.le_refl _, by simp⟩).trans Q0.out)
                  have HC := hp.rflush (BK.out.few (by omega))
                  rw [← HZ.out] at HC
                  have HC := Lib.hid HC
                  clear hp hk4
                  go_wp2_with fail
                  refine HC.out.mono ?_
                  rintro e w5 ⟨rfl, hp, hk4⟩
                  have QT : Hid (Blk w5 wq.heap.size 48 (opCells 2 o (.slice bA o.bytes.length bc) (.slice kA o.keep.length kc))) := Lib.hid ((hk4 _ ⟨Nat.le_refl _, by simp⟩).trans Q4.out)
                  have HT := Lib.hid (show ∃ E, PairN w w5 b c E E (fun _ => False) ∧ Bnd n m (k + 1) E from ⟨_, hp.less fun _ h => h.elim, BK.out.flush⟩)
                  clear hp hk4 HC
                  go_wp2_with fail
                  go_meet
                  obtain ⟨E, h1, h2⟩ := HT.out
                  exact ⟨E, h1, h2, QT.out⟩
                by_cases c0 : cl = 0
                · subst c0
                  have OE := Lib.hid (empty_own wq (.cells (opCells 0 o (.slice bA o.bytes.length bc) (.slice kA o.keep.length kc)) 48) 5)
                  have RS := Lib.hid (RB.out _ (O0.out.alloc (.cells #[] 5)))
                  have H1 := Lib.hid (oneCell_bytes o.bytes)
                  have hbl : o.bytes.length ≤ 200 := FO.out.1
                  go_wp2_with (at_builtin; refine wpList_app (v := .slice (some ⟨wq.heap.size + 1, 0, none⟩) 0 0) rfl _ _ _ rfl (by kernel_rfl) Ty.byte rfl rfl OE.out RS.out H1.out (by omega) ?_; intro v' w1 ha; obtain ⟨A1, c1, rfl, hs1⟩ := id ha.shape; obtain ⟨ho1, hq1, hw1, hr1⟩ := made_own ha; have Q1 : Hid (Blk w1 wq.heap.size 48 (opCells 0 o (.slice bA o.bytes.length bc) (.slice kA o.keep.length kc))) := Lib.hid hq1; have P1 := Lib.hid (PK.out.news ho1); have W1 := Lib.hid hw1; have R1 := Lib.hid hr1; have HS1 := Lib.hid hs1; clear ha ho1 hq1 hw1 hr1 hs1; have y1 : w1.cell? ⟨wq.heap.size, 1, none⟩ = some (.int .i64 o.sector) := Q1.out.cell 1)
                  try clear y1
                  have HQN : Hid (News wq w1 wq.heap.size) := Lib.hid ⟨Nat.le_refl _, Q1.out.lt⟩
                  have HC := P1.out.write o.sector _ _ o.bytes R1.out (BK.out.few (by omega))
                  obtain ⟨z, hz⟩ : ∃ z, z = (DD.write o.sector o.bytes D).2 := ⟨_, rfl⟩
                  rw [← hz] at HC
                  have HZ := Lib.hid hz
                  clear hz
                  refine HC.mono ?_
                  rintro e w4 ⟨rfl, hp, hk4⟩
                  have Q4 : Hid (Blk w4 wq.heap.size 48 (opCells 0 o (.slice bA o.bytes.length bc) (.slice kA o.keep.length kc))) := Lib.hid ((hk4 _ HQN.out).trans Q1.out)
                  have W4 := Lib.hid (W1.out.keep fun k hk => hk4 k hk.1)
                  have O4 := Lib.hid hp.only
                  have HC2 := hp.rwrite o.sector _ _ o.bytes (RW.out _ O4.out).1 (BK.out.few (by omega))
                  rw [← HZ.out] at HC2
                  have HC2 := Lib.hid HC2
                  have y1 : w4.cell? ⟨wq.heap.size, 1, none⟩ = some (.int .i64 o.sector) := Q4.out.cell 1
                  have y3 : w4.cell? ⟨wq.heap.size, 3, none⟩ = some (.slice bA o.bytes.length bc) := Q4.out.cell 3
                  clear hp hk4 HC
                  go_wp2_with fail
                  clear y1 y3
                  refine HC2.out.mono ?_
                  rintro e w5 ⟨rfl, hp, hk4⟩
                  have Q5 : Hid (Blk w5 wq.heap.size 48 (opCells 0 o (.slice bA o.bytes.length bc) (.slice kA o.keep.length kc))) := Lib.hid ((hk4 _ HQN.out).trans Q4.out)
                  have W5 := Lib.hid (W4.out.keep fun k hk => hk4 k hk.1)
                  have P5 := Lib.hid hp
                  have BE := Lib.hid (BK.out.write o.sector o.bytes)
                  have cvA : (convert 28 9 (.slice A1 o.bytes.length c1)).run Try.prog w5 = .ok (.string ⟨o.bytes.toArray⟩) w5 := conv_bytes (W5.out.rd (by simp) ⟨_, _, rfl, by have := HS1.out; omega⟩)
                  have cvB : (convert 28 9 (.slice bA o.bytes.length bc)).run Try.prog w5 = .ok (.string ⟨o.bytes.toArray⟩) w5 := conv_bytes (RW.out _ hp.only).1
                  have y3 : w5.cell? ⟨wq.heap.size, 3, none⟩ = some (.slice bA o.bytes.length bc) := Q5.out.cell 3
                  have heq : (o.bytes == o.bytes) = true := by simp
                  obtain ⟨E5, hE5⟩ : ∃ E5, E5 = (DD.write o.sector o.bytes D).1 := ⟨_, rfl⟩
                  rw [← hE5] at P5 BE
                  clear hp hk4 HC2 hE5
                  go_wp2_with fail
                  clear cvA cvB y3 heq
                  go_loopw [14] (fun i w' => ∃ j : Nat, j ≤ o.bytes.length ∧ i = .int .i64 j ∧ ∃ ys : List Value, ys.length = o.bytes.length ∧ PairN w w' b c E5 E5 (News wq w1) ∧ Blk w' wq.heap.size 48 (opCells 0 o (.slice bA o.bytes.length bc) (.slice kA o.keep.length kc)) ∧ WrL w' (fun k => News wq w1 k ∧ k ≠ wq.heap.size) (.slice A1 o.bytes.length c1) ys) (fun i _ => o.bytes.length - (intOf i).toNat)
                  case atStart =>
                    exact ⟨0, Nat.zero_le _, rfl, _, by simp, P5.out, Q5.out, W5.out⟩
                  case round =>
                    obtain ⟨j, hj, rfl, ys, hxl, hPj, hQj, hWj⟩ := hrel
                    have Pj := Lib.hid hPj
                    have Wj := Lib.hid hWj
                    have Qj := Lib.hid hQj
                    have XL := Lib.hid hxl
                    clear hPj hWj hxl hQj P5 W5 Q5
                    by_cases hjl : j < o.bytes.length
                    · obtain ⟨g6, off6, c6', hve, hN, hcl6, hfr6, hst⟩ := Wj.out.store (j := j) (List.getElem?_eq_getElem (by rw [XL.out]; exact hjl))
                      injection hve with h1 h2 h3
                      subst h1; subst h3
                      have ST := Lib.hid (hst (.int .u8 1))
                      have hst2 := (Only.refl (News wq w1) wr).setCell (p := ⟨g6, off6 + j, none⟩) (.inl hN.1) (.int .u8 1)
                      have PJ := Lib.hid (Pj.out.turn hst2)
                      have QJ := Lib.hid (Qj.out.far (p := ⟨g6, off6 + j, none⟩) (fun e => hN.2 e.symm) (.int .u8 1))
                      have XJ := Lib.hid (show (ys.set j (.int .u8 1)).length = o.bytes.length by rw [List.length_set]; exact XL.out)
                      clear hst hst2 Pj Wj Qj
                      go_wp2_with fail
                      exact ⟨⟨j + 1, by omega, by go_num, _, XJ.out, PJ.out, QJ.out, ST.out⟩, by simp [intOf]; omega⟩
                    · obtain rfl : j = o.bytes.length := by omega
                      have QT := Qj
                      have HT := Lib.hid (show ∃ E, PairN w wr b c E E (fun _ => False) ∧ Bnd n m (k + 1) E from ⟨_, Pj.out.less fun _ h => h.elim, BE.out⟩)
                      clear Pj Wj Qj XL
                      go_wp2_with fail
                      go_meet
                      obtain ⟨E, h1, h2⟩ := HT.out
                      exact ⟨E, h1, h2, QT.out⟩
                · have e0 : (cl == 0) = false := by simpa using c0
                  have e2 : (cl == 2) = false := by simpa using c2
                  have e3 : (cl == 3) = false := by simpa using c3
                  have e4 : (cl == 4) = false := by simpa using c4
                  have e5 : (cl == 5) = false := by simpa using c5
                  go_wp2_with fail
                  have HT := Lib.hid (show ∃ E, PairN w (wq.alloc (.cells (opCells cl o (.slice bA o.bytes.length bc) (.slice kA o.keep.length kc)) 48)) b c E E (fun _ => False) ∧ Bnd n m (k + 1) E from ⟨_, P0.out.less fun _ h => h.elim, BK.out.up⟩)
                  have QT := Q0
                  go_meet
                  obtain ⟨E, h1, h2⟩ := HT.out
                  exact ⟨E, h1, h2, QT.out⟩
              case rest =>
                obtain ⟨E, hPT, hBT, hQT⟩ := hcut
                have PT := Lib.hid hPT
                have BT := Lib.hid hBT
                have QT := Lib.hid hQT
                have y0 : wc.cell? ⟨wq.heap.size, 1, none⟩ = some (.int .i64 o.sector) := QT.out.cell 1
                have hlen := read_len PT.out.wf o.sector
                clear hPT hBT hQT P0 Q0 RB RK RW O0
                go_wp2_with fail
                clear y0
                obtain ⟨L6, hL6⟩ : ∃ L6, L6 = (DD.read o.sector E).1 := ⟨_, rfl⟩
                obtain ⟨z6, hz6⟩ : ∃ z6, z6 = (DD.read o.sector E).2 := ⟨_, rfl⟩
                have r1 := PT.out.read2 o.sector
                rw [← hL6, ← hz6] at r1
                rw [← hL6] at hlen
                refine r1.mono ?_
                rintro e w6 ⟨v6, rfl, hb6, ho6⟩
                obtain ⟨A6, c6, rfl, _⟩ := id hb6
                obtain ⟨N6, hP6, hR6⟩ : ∃ N, PairN w w6 b c E E N ∧ Rd w6 (fun k => N k ∧ Soft w6 k) 1 (.slice A6 L6.length c6) L6.length (L6.map byteV) := ⟨_, PT.out.news ho6, hb6.mono fun k hk hlt => ⟨⟨hk.1, hlt⟩, hk.2⟩⟩
                have y1 : w6.cell? ⟨wq.heap.size, 1, none⟩ = some (.int .i64 o.sector) := ho6.cell (QT.out.cell 1) id
                have r2 := hP6.rread o.sector
                rw [← hL6, ← hz6] at r2
                have r3 := hP6.size
                rw [BT.out.n, BT.out.m] at r3
                unfold strOf at r2
                obtain ⟨up6, hup6⟩ : ∃ up6, up6 = !E.down := ⟨_, rfl⟩
                obtain ⟨d6, hd6⟩ : ∃ d6, d6 = E.deeds := ⟨_, rfl⟩
                have UP : Hid (∀ w', Only NoB w6 w' → Calls Try.prog 18 #[.pointer (some ⟨b, 0, none⟩)] w' fun e w'' => e = .returned (.bool up6) ∧ w' = w'') := Lib.hid fun w' ho => by rw [hup6]; exact (hP6.quit ho).up
                have DE : Hid (∀ w', Only NoB w6 w' → Calls Try.prog 19 #[.pointer (some ⟨b, 0, none⟩)] w' fun e w'' => e = .returned (.int .i64 d6) ∧ w' = w'') := Lib.hid fun w' ho => by rw [hd6]; exact (hP6.quit ho).deeds
                have KP : Hid (∀ w', Only NoB w6 w' → (convert 28 9 (.slice A6 L6.length c6)).run Try.prog w' = .ok (.string ⟨L6.toArray⟩) w' ∧ w'.cell? ⟨c, 3, none⟩ = some (.bool up6) ∧ w'.cell? ⟨c, 6, none⟩ = some (.int .i64 d6)) := Lib.hid fun w' ho => ⟨conv_bytes (Rd.only hb6 ho fun _ _ => id), by rw [hup6]; exact (hP6.quit ho).rcell.1, by rw [hd6]; exact (hP6.quit ho).rcell.2⟩
                have R2 := Lib.hid r2
                have R3 := Lib.hid r3
                have P6 := Lib.hid hP6
                have W6 := Lib.hid (WrL.of hR6)
                clear r1 r2 r3 hb6 ho6 hP6 hR6 hL6 hz6 hup6 hd6
                go_wp2_with fail
                refine R2.out.mono ?_
                rintro e w7 ⟨rfl, rfl⟩
                clear y1
                go_wp2_with fail
                refine R3.out.mono ?_
                rintro e w8 ⟨rfl, rfl⟩
                clear R2 R3
                have O8 := Lib.hid ((Only.refl NoB w6).drew)
                have k1 := KP.out _ O8.out
                have heq : (L6 == L6) = true := by simp
                go_wp2_with fail
                clear k1
                go_region_held (fun w' => (convert 28 9 (.slice A6 L6.length c6)).run Try.prog w' = .ok (.string ⟨L6.toArray⟩) w' ∧ w'.cell? ⟨c, 3, none⟩ = some (.bool up6) ∧ w'.cell? ⟨c, 6, none⟩ = some (.int .i64 d6))
                  (first | exact KP.out _ O8.out | exact KP.out _ O8.out.drew)
                  (first
                    | (go_at_call 18; refine (UP.out _ O8.out.drew).mono ?_; rintro e w9 ⟨rfl, rfl⟩)
                    | (go_at_call 19; refine (DE.out _ O8.out.drew).mono ?_; rintro e w9 ⟨rfl, rfl⟩))
                go_wp2_with fail
                clear heq
                go_loopw [23] (fun i w' => ∃ j : Nat, j ≤ L6.length ∧ i = .int .i64 j ∧ ∃ xs, xs.length = L6.length ∧ PairN w w' b c E E N6 ∧ WrL w' N6 (.slice A6 L6.length c6) xs) (fun i _ => L6.length - (intOf i).toNat)
                case atStart =>
                  exact ⟨0, Nat.zero_le _, rfl, _, by simp, P6.out.quit O8.out.drew, W6.out.keep fun _ _ => rfl⟩
                case round =>
                  obtain ⟨j, hj, rfl, xs, hxl, hPj, hWj⟩ := hrel
                  have Pj := Lib.hid hPj
                  have Wj := Lib.hid hWj
                  have XL := Lib.hid hxl
                  clear hPj hWj hxl P6 W6 UP DE KP O8
                  by_cases hjl : j < L6.length
                  · obtain ⟨g6, off6, c6', hve, hN, hcl6, hfr6, hst⟩ := Wj.out.store (List.getElem?_eq_getElem (by rw [XL.out]; exact hjl))
                    injection hve with h1 h2 h3
                    subst h1; subst h3
                    have ST := Lib.hid (hst (.int .u8 2))
                    have PJ := Lib.hid (Pj.out.turn ((Only.refl N6 _).setCell (p := ⟨g6, off6 + j, none⟩) (.inl hN) (.int .u8 2)))
                    have XJ := Lib.hid (show (xs.set j (.int .u8 2)).length = L6.length by rw [List.length_set]; exact XL.out)
                    clear hst Pj Wj
                    go_wp2_with fail
                    exact ⟨⟨j + 1, by omega, by go_num, _, XJ.out, PJ.out, ST.out⟩, by simp [intOf]; omega⟩
                  · obtain rfl : j = L6.length := by omega
                    have PE := Lib.hid (Pj.out.less (M := fun _ => False) fun _ h => h.elim)
                    clear Pj Wj XL
                    go_wp2_with fail
                    go_roundw
                    case rel => exact ⟨k + 1, by omega, by go_num, E, PE.out, BT.out⟩
                    case measure => simp [intOf]; omega
            · obtain rfl : k = l.length := by omega
              have HC := Lib.hid PK.out.on
              go_wp2_with fail
              refine HC.out.mono ?_
              rintro e w4 ⟨rfl, hp, _⟩
              have HC := Lib.hid hp.ron
              clear hp
              go_wp2_with fail
              refine HC.out.mono ?_
              rintro e w5 ⟨rfl, hp, _⟩
              have BE := Lib.hid BK.out.on
              have hrd : ∀ s : Nat, s < n → DD.read (s : Int) (DD.on D) = ((DD.on D).at_ s, 0) := fun s hs => by
                unfold DD.read
                have h1 : (DD.on D).sector (s : Int) = true := by
                  unfold DD.sector
                  rw [BE.out.n]
                  simp
                  exact hs
                rw [h1]
                rfl
              have RD := Lib.hid hrd
              obtain ⟨E, hE⟩ : ∃ E, E = DD.on D := ⟨_, rfl⟩
              rw [← hE] at hp RD
              have P5 := Lib.hid hp
              clear hp hrd hE HC PK BK BE hlt
              go_wp2_with fail
              go_loopw [24] (fun i w' => ∃ s : Nat, s ≤ n ∧ i = .int .i64 s ∧ Only NoB w5 w') (fun i _ => n - (intOf i).toNat)
              case atStart =>
                exact ⟨0, Nat.zero_le _, rfl, Only.refl _ _⟩
              case round =>
                obtain ⟨s, hs, rfl, ho⟩ := hrel
                have OS := Lib.hid ho
                clear ho
                by_cases hsl : s < n
                · have r1 := (P5.out.quit OS.out).read (s : Int)
                  rw [RD.out s hsl] at r1
                  obtain ⟨L6, hL6⟩ : ∃ L6, L6 = E.at_ s := ⟨_, rfl⟩
                  have HL6 := Lib.hid hL6
                  rw [show (E.at_ s, (0 : Int)).1 = L6 from hL6.symm] at r1
                  have R1 := Lib.hid r1
                  clear r1 hL6
                  go_wp2_with fail
                  refine R1.out.mono ?_
                  rintro e w6 ⟨v6, rfl, hb6, ho6⟩
                  obtain ⟨A6, c6, rfl, _⟩ := id hb6
                  have O6 := Lib.hid (OS.out.trans ho6)
                  have r2 := (P5.out.quit O6.out).rread (s : Int)
                  rw [RD.out s hsl] at r2
                  rw [show (E.at_ s, (0 : Int)).1 = L6 from HL6.out.symm] at r2
                  unfold strOf at r2
                  have R2 := Lib.hid r2
                  have cv6 : (convert 28 9 (.slice A6 L6.length c6)).run Try.prog w6 = .ok (.string ⟨L6.toArray⟩) w6 := conv_bytes hb6
                  have CV := Lib.hid cv6
                  have heq : (L6 == L6) = true := by simp
                  clear r2 hb6 ho6 R1 cv6
                  go_wp2_with fail
                  refine R2.out.mono ?_
                  rintro e w7 ⟨rfl, rfl⟩
                  have cv6 := CV.out
                  go_wp2_with fail
                  exact ⟨⟨s + 1, by omega, by go_num, O6.out⟩, by simp [intOf]; omega⟩
                · have O := Lib.hid (P5.out.only.trans OS.out)
                  obtain rfl : s = n := by omega
                  clear P5 OS
                  go_wp2_with fail
                  refine (awake_any _).mono ?_
                  rintro e w14 ⟨rfl, ho⟩
                  have O7 := Lib.hid (O.out.trans ho)
                  clear ho
                  go_wp2_with fail
                  go_ret
                  exact ⟨rfl, O7.out⟩
end Go.Proofs.Ytllodjcfcjmocaa
