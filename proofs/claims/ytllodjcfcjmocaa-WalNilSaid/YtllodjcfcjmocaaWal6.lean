import Derived.Test.YtllodjcfcjmocaaWal4
import Derived.Test.YtllodjcfcjmocaaWal5
import Derived.Test.YtllodjcfcjmocaaWalC
/- THE WAL's Commit. -/
namespace Go.Proofs.Ytllodjcfcjmocaa
open Go.RowKit Go.Proofs
section
variable {w w' : World} {G K : Nat → Prop} {a b n m q : Nat} {W : WD} {lv : Value} {l : List Ch}
theorem Ty.int : Elt Try.prog 3 (.int .i64 0) 1 8 := ⟨by kernel_rfl, rfl, by omega, by omega⟩

/-- None of the numbers is x. -/
theorem index_none {v : Value} {xs : List Int} (hv : Ints w K v xs) (hxl : xs.length ≤ 1000000) (x : Int) (hx : ∀ y ∈ xs, y ≠ x) : Calls Try.prog 59 #[v, .int .i64 x] w fun e w' => e = .returned (.int .i64 (-1)) ∧ w = w' := by
  obtain ⟨A, c, rfl, _⟩ := id hv
  have HV := Lib.hid hv
  have HX := Lib.hid hx
  clear hv hx
  go_enter Try.func59, Try.ntmps59
  go_wp2_with fail
  go_loop [8] (fun i => ∃ k : Nat, k ≤ xs.length ∧ i = .int .i64 k) (fun i => xs.length - (intOf i).toNat)
  case atStart => exact ⟨0, Nat.zero_le _, rfl⟩
  case round =>
    obtain ⟨k, hk, rfl⟩ := hrel
    by_cases hlt : k < xs.length
    · obtain ⟨g, off, cc, hve, _, hg, hcell⟩ := HV.out.open_ (by omega)
      injection hve with h1 h2 h3
      subst h1; subst h3
      have hc := hcell k (.int .i64 xs[k]) (by rw [List.getElem?_map, List.getElem?_eq_getElem hlt]; rfl)
      have hne0 := HX.out _ (List.getElem_mem hlt)
      obtain ⟨y, hy⟩ : ∃ y, y = xs[k] := ⟨_, rfl⟩
      rw [← hy] at hc hne0
      have hne : (x == y) = false := by rw [beq_eq_false_iff_ne]; exact fun e => hne0 e.symm
      clear hne0
      clear hcell hy
      go_wp2_with fail
      exact ⟨⟨k + 1, by omega, by go_num⟩, by simp [intOf]; omega⟩
    · obtain rfl : k = xs.length := by omega
      go_wp2_with fail
      go_ret
      exact ⟨rfl, rfl⟩
theorem contains_none {v : Value} {xs : List Int} (hv : Ints w K v xs) (hxl : xs.length ≤ 1000000) (x : Int) (hx : ∀ y ∈ xs, y ≠ x) : Calls Try.prog 53 #[v, .int .i64 x] w fun e w' => e = .returned (.bool false) ∧ w = w' := by
  have HC := Lib.hid (index_none hv hxl x hx)
  clear hv hx
  go_enter Try.func53, Try.ntmps53
  go_wp2_with fail
  refine HC.out.mono ?_
  rintro e w1 ⟨rfl, rfl⟩
  go_wp2_with fail
  go_ret
  exact ⟨rfl, rfl⟩

/-- A call of the wal: it answers v, and is W' then. -/
def WDeed (w : World) (G : Nat → Prop) (a b : Nat) (v : Value) (W' : WD) (e : Ending) (w' : World) : Prop :=
  e = .returned v ∧ ∃ G', WalIn w' G' a b W' ∧ Only (fun k => G k ∨ k = a) w w' ∧ Grows G G' w
/-- Changes that may be: blocks there are, of their bytes, each once. -/
structure Valid (W : WD) (l : List Ch) : Prop where
  each : ∀ c ∈ l, 0 ≤ c.1 ∧ c.1 < ((W.D.n - 1 - W.log : Nat) : Int) ∧ c.2.length = W.D.m
  nodup : (l.map (·.1)).Nodup
/-- The eight deeds of a commit. -/
theorem acts8 {c : Nat} {cs : List UInt8} {f1 f3 f5 f7 FL : Value} (a1 : ActW w G a b n m W f1 (runD (wops (fun k => 1 + (k : Int)) l)) c) (a3 : ActW w G a b n m W f3 (DD.write 0 cs) c) (a5 : ActW w G a b n m W f5 (runD (wops (blockAt W.log l) l)) c) (a7 : ActW w G a b n m W f7 (DD.write 0 (DD.zero W.D.m)) c) (aF : ActW w G a b n m W FL DD.flush c) :
    ∀ k (_ : k < [f1, FL, f3, FL, f5, FL, f7, FL].length) (_ : k < (commitOps W.log W.D.m l cs).length), ActW w G a b n m W [f1, FL, f3, FL, f5, FL, f7, FL][k] (commitOps W.log W.D.m l cs)[k] c
  | 0, _, _ => a1
  | 1, _, _ => aF
  | 2, _, _ => a3
  | 3, _, _ => aF
  | 4, _, _ => a5
  | 5, _, _ => aF
  | 6, _, _ => a7
  | 7, _, _ => aF
  | k + 8, h, _ => absurd h (by simp)
/-- What the loop over the changes holds. -/
def SeenInv (w : World) (l : List Ch) (k : Nat) (v : Value) (wr : World) : Prop := Only NoB w wr ∧ Own wr (From w.heap.size) 3 1 v k ((l.take k).map fun c => .int .i64 c.1)

set_option maxRecDepth 4096 in
set_option maxHeartbeats 16000000 in
theorem wcommit_any (h : WalIn w G a b W) (hd : W.dead = false) (hl : Changes w K lv l) (hK : ∀ k, K k → ¬ G k) (hKlt : ∀ k, K k → k < w.heap.size) (hv : Valid W l) (hm : W.D.m ≤ 4096) (hn : W.D.n ≤ 65536) (hll : l.length ≤ 100000) (hb : Bnd n m q W.D) (hq : q + (l.length + 1) * 8 ≤ 1000000) :
    Calls Try.prog 35 #[.pointer (some ⟨a, 0, none⟩), lv] w fun e w' =>
      if W.log < l.length then WDeed w G a b (.int .i64 8) W e w' else if l = [] then WDeed w G a b (.int .i64 0) W e w' else
        ∃ cs, cs.length = W.D.m ∧ WDeed w G a b (.int .i64 (runD (commitOps W.log W.D.m l cs) W.D).2) (toldD { W with D := (runD (commitOps W.log W.D.m l cs) W.D).1 } (runD (commitOps W.log W.D.m l cs) W.D).2) e w' := by
  obtain ⟨A, c, rfl, hvx⟩ := id hl
  clear hvx
  have c0 : w.cell? ⟨a, 0, none⟩ = some (.pointer (some ⟨b, 0, none⟩)) := h.cell 0 _ rfl
  have c1 : w.cell? ⟨a, 1, none⟩ = some (.int .i64 W.log) := h.cell 1 _ rfl
  have c2 : w.cell? ⟨a, 2, none⟩ = some (.int .i64 ((W.D.n - 1 - W.log : Nat) : Int)) := h.cell 2 _ rfl
  have c3 : w.cell? ⟨a, 3, none⟩ = some (.int .i64 W.D.m) := h.cell 3 _ rfl
  have HC0 := Lib.hid c0
  have HC1 := Lib.hid c1
  have HC2 := Lib.hid c2
  have HC3 := Lib.hid c3
  have H := Lib.hid h
  have HL := Lib.hid hl
  have HK := Lib.hid hK
  have HKl := Lib.hid hKlt
  have HV := Lib.hid hv
  have HB := Lib.hid hb
  have HQ := Lib.hid hq
  have HR := Lib.hid (wready_up h hd)
  have HD := Lib.hid hd
  obtain ⟨POST, hPOST⟩ : ∃ POST : Ending → World → Prop, POST = fun e w' =>
      if W.log < l.length then WDeed w G a b (.int .i64 8) W e w' else if l = [] then WDeed w G a b (.int .i64 0) W e w' else
        ∃ cs, cs.length = W.D.m ∧ WDeed w G a b (.int .i64 (runD (commitOps W.log W.D.m l cs) W.D).2) (toldD { W with D := (runD (commitOps W.log W.D.m l cs) W.D).1 } (runD (commitOps W.log W.D.m l cs) W.D).2) e w' := ⟨_, rfl⟩
  rw [← hPOST]
  have HP := Lib.hid hPOST
  clear h hl hK hKlt hv hb hq hd hPOST c0 c1 c2 c3
  go_enter Try.func35, Try.ntmps35
  go_wp2_with fail
  refine HR.out.mono ?_
  rintro e w1 ⟨rfl, rfl⟩
  clear HR
  go_wp2_with fail
  go_loopw [17, 6] (fun i v wr => ∃ k : Nat, k ≤ l.length ∧ i = .int .i64 k ∧ SeenInv w l k v wr) (fun i _ _ => l.length - (intOf i).toNat)
  case atStart => exact ⟨0, Nat.zero_le _, rfl, Only.refl _ _, Own.nil _ _ _ _⟩
  case round =>
    obtain ⟨k, hk, rfl, hS⟩ := hrel
    have HO := Lib.hid hS.1
    have HW := Lib.hid hS.2
    obtain ⟨sA, sc, rfl, _⟩ := hS.2.shape
    clear hS
    by_cases hlt : k < l.length
    · obtain ⟨g, off, cc, bv, hve, _, hgK, hch⟩ := (HL.out.only HO.out fun _ _ => id).open_ hlt
      injection hve with h1 h2 h3
      subst h1; subst h3
      obtain ⟨bA, bc, rfl, _⟩ := id hch.rb
      obtain ⟨v1, v2, v3⟩ := HV.out.each l[k] (List.getElem_mem hlt)
      have hfresh : ∀ y ∈ (l.take k).map (·.1), y ≠ l[k].1 := by
        intro y hy e
        obtain ⟨i, hi, rfl⟩ := List.mem_iff_getElem.1 hy
        simp only [List.length_map, List.length_take] at hi
        simp only [List.getElem_map, List.getElem_take] at e
        exact List.pairwise_iff_getElem.1 HV.out.nodup i k (by simp; omega) (by simp; exact hlt) (by omega) (by simpa using e)
      rw [v3] at hch
      have x0 := hch.sec
      have x1 := hch.bytes
      obtain ⟨s, hse⟩ : ∃ s, s = l[k].1 := ⟨_, rfl⟩
      rw [← hse] at x0 v1 v2 hfresh
      obtain ⟨bl, hbl⟩ : ∃ bl, bl = W.D.n - 1 - W.log := ⟨_, rfl⟩
      rw [← hbl] at v2
      obtain ⟨mm, hmm⟩ : ∃ mm, mm = W.D.m := ⟨_, rfl⟩
      have d2 : wr.cell? ⟨a, 2, none⟩ = some (.int .i64 (bl : Int)) := by rw [hbl]; exact HO.out.cell HC2.out id
      have d3 : wr.cell? ⟨a, 3, none⟩ = some (.int .i64 (mm : Int)) := by rw [hmm]; exact HO.out.cell HC3.out id
      rw [← hmm] at x1
      have hbl2 : bl ≤ 65536 := by omega
      have hmm2 : mm ≤ 4096 := by omega
      have e1 : decide (s < 0) = false := by simp; omega
      have e2 : decide (s ≥ (bl : Int)) = false := by simp; omega
      have e3 : ((mm : Int) != (mm : Int)) = false := by simp
      obtain ⟨w5, hw5⟩ : ∃ w5, w5 = wr.alloc (.cells #[.int .i64 s, .slice bA mm bc] 69) := ⟨_, rfl⟩
      have o5 : Only NoB wr w5 := by rw [hw5]; exact (Only.refl NoB wr).alloc _
      have nb : Blk w5 wr.heap.size 69 #[.int .i64 s, .slice bA mm bc] := by rw [hw5]; exact Blk.new _ _ _
      have KS : Hid (∀ w', Only NoB w5 w' → w'.cell? ⟨wr.heap.size, 0, none⟩ = some (.int .i64 s) ∧ w'.cell? ⟨wr.heap.size, 1, none⟩ = some (.slice bA mm bc) ∧ w'.cell? ⟨a, 2, none⟩ = some (.int .i64 (bl : Int)) ∧ w'.cell? ⟨a, 3, none⟩ = some (.int .i64 (mm : Int))) := Lib.hid fun w' ho => ⟨(nb.only ho id).cell 0, (nb.only ho id).cell 1, ho.cell (o5.cell d2 id) id, ho.cell (o5.cell d3 id) id⟩
      have CT : Hid (∀ w', Only NoB w5 w' → Calls Try.prog 53 #[.slice sA k sc, .int .i64 s] w' fun e w'' => e = .returned (.bool false) ∧ w' = w'') := Lib.hid fun w' ho => by
        have hr := Rd.only HW.out.rd (o5.trans ho) fun _ _ => id
        have hkl : ((l.take k).map (·.1)).length = k := by simp; omega
        refine contains_none (K := From w.heap.size) (xs := (l.take k).map (·.1)) ?_ (by rw [hkl]; omega) s hfresh
        unfold Ints
        rw [hkl, List.map_map]
        exact hr
      have O5 := Lib.hid o5
      have HSE : Hid ((l.take (k + 1)).map (fun c => Value.int .i64 c.1) = (l.take k).map (fun c => Value.int .i64 c.1) ++ [.int .i64 s]) := Lib.hid (by rw [List.take_succ_eq_append_getElem hlt, hse, List.map_append]; rfl)
      clear hch hse hbl hmm hfresh nb o5 v1 v2 v3
      go_wp2_with fail
      rw [← hw5]
      have k1 := KS.out _ (Only.refl _ _)
      clear hw5 x0 x1 d2 d3
      go_region_held (fun w' => w'.cell? ⟨wr.heap.size, 0, none⟩ = some (.int .i64 s) ∧ w'.cell? ⟨wr.heap.size, 1, none⟩ = some (.slice bA mm bc) ∧ w'.cell? ⟨a, 2, none⟩ = some (.int .i64 (bl : Int)) ∧ w'.cell? ⟨a, 3, none⟩ = some (.int .i64 (mm : Int)))
        (first | exact KS.out _ (Only.drew (Only.refl _ _)))
        (first | (go_at_call 53; refine (CT.out _ (Only.drew (Only.refl _ _))).mono ?_; rintro e w6 ⟨rfl, rfl⟩) | fail)
      all_goals
        clear k1
        have k2 := KS.out _ (Only.drew (Only.refl _ _))
        go_wp2_with (at_builtin; refine wpList_app (v := .slice sA k sc) rfl _ _ _ rfl (by kernel_rfl) Ty.int rfl rfl (HW.out.only (O5.out.drew.alloc (.cells #[.int .i64 s] 3)) fun _ _ => id) (rd_new w5.drew 3 1 1 [.int .i64 s] rfl) (by simp [Value.oneCell']) (by omega) ?_; intro v7 w7 ha7; have HA7 := Lib.hid ha7; clear ha7)
        refine ⟨⟨k + 1, by omega, by go_num, only_new (HO.out.trans (O5.out.drew.alloc _)) HA7.out.only (fun k hk => HW.out.2 k hk), ?_⟩, by simp [intOf]; omega⟩
        rw [HSE.out]
        have hsz := (HO.out.trans (O5.out.drew.alloc (.cells #[.int .i64 s] 3))).size
        exact HA7.out.own.mono fun k hk _ => hk.elim id fun e => by rw [e]; exact hsz
    · obtain rfl : k = l.length := by omega
      have d1 := HO.out.cell HC1.out id
      have hwal := H.out.quit HO.out
      have HWL := Lib.hid hwal
      have HOG := Lib.hid (HO.out.mono (G := fun k => G k ∨ k = a) fun _ _ h => h.elim)
      clear hwal
      by_cases hlog : W.log < l.length
      · have hlog2 : (W.log : Int) < (l.length : Int) := by omega
        have HLG := Lib.hid hlog
        go_wp2_with fail
        rw [HP.out]
        simp only [if_pos HLG.out]
        exact ⟨rfl, G, HWL.out, HOG.out, Grows.refl _ _⟩
      · have hlog2 : decide ((l.length : Int) > (W.log : Int)) = false := by simp; omega
        have hlog3 : l.length ≤ W.log := by omega
        have HLG := Lib.hid hlog
        clear hlog
        by_cases hl0 : l.length = 0
        · have HL0 : Hid (l = []) := Lib.hid (List.eq_nil_of_length_eq_zero hl0)
          have e0 : ((l.length : Int) == 0) = true := by simp; exact HL0.out
          go_wp2_with fail
          rw [HP.out]
          simp only [if_neg HLG.out, if_pos HL0.out]
          exact ⟨rfl, G, HWL.out, HOG.out, Grows.refl _ _⟩
        · have e0 : ((l.length : Int) == 0) = false := by rw [beq_eq_false_iff_ne]; omega
          have HL0 : Hid (¬ l = []) := Lib.hid fun e => hl0 (by rw [e]; rfl)
          have d0 := HO.out.cell HC0.out id
          have hG : ∀ k, G k → k < wr.heap.size := fun k hk => Nat.lt_of_lt_of_le (H.out.disk.1 k hk) HO.out.size
          have hl1 := HL.out.only HO.out fun _ _ => id
          have hK1 : ∀ k, K k → k < wr.heap.size := fun k hk => Nat.lt_of_lt_of_le (HKl.out k hk) HO.out.size
          have F1 := Lib.hid (logOf_any (a := a) (b := b) (n := n) (m := m) (W := W) hG hl1 HK.out hK1 (by omega))
          have HG := Lib.hid hG
          have HL1 := Lib.hid hl1
          have HK1 := Lib.hid hK1
          clear hG hl1 hK1
          have HLC : Hid (3 + 3 * l.length ≤ W.D.m) := Lib.hid (by have := H.out.log2; omega)
          have HSX : Hid (∀ c ∈ l, 0 ≤ c.1 ∧ c.1 < 1000000000) := Lib.hid fun c hc => by
            obtain ⟨z1, z2, _⟩ := HV.out.each c hc
            exact ⟨z1, by omega⟩
          clear HW
          go_wp2_with fail
          refine F1.out.mono ?_
          rintro e w2 ⟨f1, rfl, ho2, ha2⟩
          obtain ⟨_, kf1, fi1, ca1, rfl, _, _⟩ := id ha2
          have A1 := Lib.hid ha2
          have O2 := Lib.hid ho2
          have F3 := Lib.hid (commit_some (n := n) (m := m) (HWL.out.quit ho2) (HL1.out.only ho2 fun _ _ => id) (fun k hk => Nat.lt_of_lt_of_le (HK1.out k hk) ho2.size) hm (by omega) HLC.out HSX.out)
          clear ho2 ha2 F1 d0 d1 hlog2
          go_wp2_with fail
          refine F3.out.mono ?_
          rintro e w3 ⟨f3, cs, rfl, ho3, hcl, _, ha3⟩
          obtain ⟨_, kf3, fi3, ca3, rfl, _, _⟩ := id ha3
          have A3 := Lib.hid ha3
          have O3 := Lib.hid (O2.out.trans ho3)
          have O23 := Lib.hid ho3
          have HCS := Lib.hid hcl
          have F5 := Lib.hid (blocksOf_any (n := n) (m := m) (HWL.out.quit O3.out) (HL1.out.only O3.out fun _ _ => id) HK.out (fun k hk => Nat.lt_of_lt_of_le (HK1.out k hk) O3.out.size) HSX.out (by have := H.out.log3; omega))
          clear ho3 ha3 F3 hcl
          go_wp2_with fail
          refine F5.out.mono ?_
          rintro e w4 ⟨f5, rfl, ho4, ha4⟩
          obtain ⟨_, kf5, fi5, ca5, rfl, _, _⟩ := id ha4
          have A5 := Lib.hid ha4
          have O4 := Lib.hid (O3.out.trans ho4)
          have O34 := Lib.hid ho4
          have F7 := Lib.hid (commit_none (n := n) (m := m) (HWL.out.quit O4.out) 0 hm none)
          clear ho4 ha4 F5
          go_wp2_with fail
          refine F7.out.mono ?_
          rintro e w5 ⟨f7, cs0, rfl, ho5, _, hz, ha5⟩
          obtain ⟨_, kf7, fi7, ca7, rfl, _, _⟩ := id ha5
          have hz0 := hz rfl
          rw [hz0] at ha5
          have A7 := Lib.hid ha5
          have O5 := Lib.hid (O4.out.trans ho5)
          have O45 := Lib.hid ho5
          clear ho5 ha5 F7 hz hz0
          obtain ⟨FL, hFL⟩ : ∃ FL, FL = Value.func (.func 12) #[.pointer (some ⟨b, 0, none⟩)] #[] := ⟨_, rfl⟩
          have hx := rd_new w5 31 1 8 [.func (.func kf1) fi1 ca1, FL, .func (.func kf3) fi3 ca3, FL, .func (.func kf5) fi5 ca5, FL, .func (.func kf7) fi7 ca7, FL] rfl
          rw [hFL] at hx
          have O6 : Hid (Only NoB w5 (w5.alloc (.cells #[.func (.func kf1) fi1 ca1, .func (.func 12) #[.pointer (some ⟨b, 0, none⟩)] #[], .func (.func kf3) fi3 ca3, .func (.func 12) #[.pointer (some ⟨b, 0, none⟩)] #[], .func (.func kf5) fi5 ca5, .func (.func 12) #[.pointer (some ⟨b, 0, none⟩)] #[], .func (.func kf7) fi7 ca7, .func (.func 12) #[.pointer (some ⟨b, 0, none⟩)] #[]] 31))) := Lib.hid ((Only.refl NoB w5).alloc _)
          have HX := Lib.hid hx
          clear hx hFL
          go_wp2_with fail
          have hds := wdeeds_any (n := n) (m := m) (q := q) (cost := l.length + 1) (G := G) (HWL.out.quit (O5.out.trans O6.out)) [.func (.func kf1) fi1 ca1, .func (.func 12) #[.pointer (some ⟨b, 0, none⟩)] #[], .func (.func kf3) fi3 ca3, .func (.func 12) #[.pointer (some ⟨b, 0, none⟩)] #[], .func (.func kf5) fi5 ca5, .func (.func 12) #[.pointer (some ⟨b, 0, none⟩)] #[], .func (.func kf7) fi7 ca7, .func (.func 12) #[.pointer (some ⟨b, 0, none⟩)] #[]] (commitOps W.log W.D.m l cs) rfl
            (fun k h1 h2 => acts8 ((A1.out.later (O23.out.trans (O34.out.trans (O45.out.trans O6.out)))).cost (Nat.le_succ _)) ((A3.out.later (O34.out.trans (O45.out.trans O6.out))).cost (Nat.le_add_left _ _)) ((A5.out.later (O45.out.trans O6.out)).cost (Nat.le_succ _)) ((A7.out.later O6.out).cost (Nat.le_add_left _ _)) (act_flush.cost (Nat.le_add_left _ _)) k h1 h2)
            _ _ HX.out (fun k hk hg => by have := HG.out k hg; have := O5.out.size; omega) HB.out (by have := HQ.out; simp; omega) (by simp)
          have HDS := Lib.hid hds
          clear hds
          obtain ⟨z, hz⟩ : ∃ z, z = (runD (commitOps W.log W.D.m l cs) W.D).2 := ⟨_, rfl⟩
          rw [← hz] at HDS
          have HZ := Lib.hid hz
          clear hz HX
          refine HDS.out.mono ?_
          rintro e w7 ⟨rfl, G7, h7, ho7, hg7⟩
          have HT := Lib.hid (told_any h7 z)
          have O7 := Lib.hid ho7
          have G7' := Lib.hid hg7
          clear h7 ho7 hg7 HDS
          go_wp2_with fail
          refine HT.out.mono ?_
          rintro e w8 ⟨rfl, h8, ho8⟩
          have H8 := Lib.hid h8
          have O8 := Lib.hid ho8
          clear h8 ho8 HT
          go_wp2_with fail
          rw [HP.out]
          simp only [if_neg HLG.out, if_neg HL0.out]
          refine ⟨cs, HCS.out, ?_⟩
          rw [← HZ.out]
          have o6 := HO.out.trans (O5.out.trans O6.out)
          have p6 := o6.mono (G := fun k => G k ∨ k = a) fun _ _ h => h.elim
          have p7 := O7.out.mono (G := fun k => G k ∨ k = a) fun _ _ h => Or.inl h
          have p8 := O8.out.mono (G := fun k => G k ∨ k = a) fun _ _ h => Or.inr h
          exact ⟨rfl, G7, H8.out, (p6.trans p7).trans p8, fun k hk => (G7'.out k hk).imp id fun h => Nat.le_trans o6.size h⟩
end
end Go.Proofs.Ytllodjcfcjmocaa
