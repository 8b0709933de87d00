import Derived.Test.YtllodjcfcjmocaaWal1
/- THE WAL's CLOSURES: writes. -/
namespace Go.Proofs.Ytllodjcfcjmocaa
open Go.RowKit Go.Proofs

abbrev Ch := Int × List UInt8
/-- A change in memory: where its two cells lie. -/
structure ChAt (w : World) (K : Nat → Prop) (g off : Nat) (c : Ch) (bv : Value) : Prop where
  sec : w.cell? ⟨g, off, none⟩ = some (.int .i64 c.1)
  bytes : w.cell? ⟨g, off + 1, none⟩ = some bv
  rb : Bytes w K bv c.2
/-- v is a slice that reads as the changes l. -/
def Changes (w : World) (K : Nat → Prop) (v : Value) (l : List Ch) : Prop :=
  ∃ A c, v = .slice A l.length c ∧ l.length ≤ c ∧ ∀ i (h : i < l.length), ∃ g off bv, A = some ⟨g, off, none⟩ ∧ K g ∧ ChAt w K g (off + i * 2) l[i] bv
theorem Changes.only {w w' : World} {K F : Nat → Prop} {v : Value} {l : List Ch} (h : Changes w K v l) (ho : Only F w w') (hd : ∀ k, K k → ¬ F k) : Changes w' K v l := by
  obtain ⟨A, c, hv, hc, h⟩ := h
  refine ⟨A, c, hv, hc, fun i hi => ?_⟩
  obtain ⟨g, off, bv, hA, hg, h1, h2, h3⟩ := h i hi
  exact ⟨g, off, bv, hA, hg, ho.cell h1 (hd g hg), ho.cell h2 (hd g hg), Rd.only h3 ho hd⟩
theorem Changes.open_ {w : World} {K : Nat → Prop} {v : Value} {l : List Ch} (h : Changes w K v l) {i : Nat} (hi : i < l.length) : ∃ g off c bv, v = .slice (some ⟨g, off, none⟩) l.length c ∧ l.length ≤ c ∧ K g ∧ ChAt w K g (off + i * 2) l[i] bv := by
  obtain ⟨A, c, hv, hc, h⟩ := h
  obtain ⟨g, off, bv, hA, hg, ho⟩ := h i hi
  exact ⟨g, off, c, bv, by rw [hv, hA], hc, hg, ho⟩
theorem Changes.nil (w : World) (K : Nat → Prop) : Changes w K (.slice none 0 0) [] := ⟨none, 0, rfl, Nat.le_refl _, fun _ h => absurd h (Nat.not_lt_zero _)⟩
/-- The changes' writes: the one k to a place. -/
def wops (pl : Nat → Int) (l : List Ch) : List (DD → DD × Int) := l.mapIdx fun k c => DD.write (pl k) c.2
theorem wops_len (pl : Nat → Int) (l : List Ch) : (wops pl l).length = l.length := by simp [wops]
theorem wops_get (pl : Nat → Int) (l : List Ch) {k : Nat} (h : k < (wops pl l).length) : (wops pl l)[k] = DD.write (pl k) (l[k]'(by rw [← wops_len pl l]; exact h)).2 := by simp [wops]
theorem runD_bnd {n m : Nat} : ∀ (os : List (DD → DD × Int)) (q : Nat) (D : DD), (∀ o ∈ os, ∀ q D, Bnd n m q D → Bnd n m (q + 1) (o D).1) → Bnd n m q D → Bnd n m (q + os.length) (runD os D).1
  | [], q, D, _, h => h
  | o :: os, q, D, ho, h => by
    rw [runD, List.length_cons, show q + (os.length + 1) = q + 1 + os.length by omega]
    have h1 := ho o (by simp) q D h
    split
    · exact runD_bnd os (q + 1) _ (fun o ho' => ho o (by simp [ho'])) h1
    · exact ⟨h1.n, h1.m, by have := h1.cache; omega, by have := h1.deeds; omega, h1.keep⟩
theorem wops_bnd {n m q : Nat} (pl : Nat → Int) (l : List Ch) {D : DD} (h : Bnd n m q D) : Bnd n m (q + l.length) (runD (wops pl l) D).1 := by
  have := runD_bnd (wops pl l) q D (fun o ho q D hb => by
    obtain ⟨i, hi, rfl⟩ := List.mem_iff_getElem.1 ho
    rw [wops_get]
    exact hb.write _ _) h
  rwa [wops_len] at this

set_option maxRecDepth 2048 in
set_option maxHeartbeats 4000000 in
theorem writes1_any {w : World} {G K : Nat → Prop} {a b n m q p0 p1 p2 kf : Nat} {W : WD} {lv : Value} {l : List Ch} {pl : Nat → Int} {first caps : Array Value} (h : WalIn w G a b W)
    (c0 : w.cell? ⟨p0, 0, none⟩ = some lv) (c1 : w.cell? ⟨p1, 0, none⟩ = some (.pointer (some ⟨a, 0, none⟩))) (c2 : w.cell? ⟨p2, 0, none⟩ = some (.func (.func kf) first caps)) (n1 : ¬ G p1) (n2 : ¬ G p2)
    (hl : Changes w K lv l) (hK : ∀ k, K k → ¬ G k) (hcf : ∀ (args : Array Value) (w1 : World), (callFunc kf args).run Try.prog w1 = .ok (.enter kf args) w1)
    (hp : ∀ wr k, k < l.length → Only G w wr → Calls Try.prog kf (first ++ #[.int .i64 k] ++ caps) wr fun e w' => e = .returned (.int .i64 (pl k)) ∧ Only NoB wr w') (hb : Bnd n m q W.D) (hq : q + l.length ≤ 1000000) :
    Calls Try.prog 61 #[.pointer (some ⟨p0, 0, none⟩), .pointer (some ⟨p1, 0, none⟩), .pointer (some ⟨p2, 0, none⟩)] w (DeedW w G a b (.int .i64 (runD (wops pl l) W.D).2) { W with D := (runD (wops pl l) W.D).1 }) := by
  obtain ⟨A, c, rfl, hvx⟩ := id hl
  clear hvx
  have H := Lib.hid h
  have HL := Lib.hid hl
  have HK := Lib.hid hK
  have HP := Lib.hid hp
  have HB := Lib.hid hb
  have HQ := Lib.hid hq
  have C1 := Lib.hid c1
  have C2 := Lib.hid c2
  have N1 := Lib.hid n1
  have N2 := Lib.hid n2
  have hll : l.length ≤ 1000000 := by omega
  clear h hl hK hp hb hq c1 c2 n1 n2
  go_enter Try.func61, Try.ntmps61
  go_wp2_with fail
  clear c0
  go_loopw [9] (fun i wr => ∃ k : Nat, k ≤ l.length ∧ i = .int .i64 k ∧ ∃ G1, WalIn wr G1 a b { W with D := (runD ((wops pl l).take k) W.D).1 } ∧ Only G w wr ∧ Grows G G1 w ∧ (runD ((wops pl l).take k) W.D).2 = 0 ∧ Bnd n m (q + k) (runD ((wops pl l).take k) W.D).1) (fun i _ => l.length - (intOf i).toNat)
  case atStart =>
    exact ⟨0, Nat.zero_le _, rfl, G, H.out, Only.refl _ _, Grows.refl _ _, rfl, HB.out⟩
  case round =>
    obtain ⟨k, hk, rfl, G1, h1, ho, hg, h0, hb⟩ := hrel
    have H1 := Lib.hid h1
    have HO := Lib.hid ho
    have HG := Lib.hid hg
    have H0 := Lib.hid h0
    have HB1 := Lib.hid hb
    clear h1 ho hg h0 hb H
    by_cases hlt : k < l.length
    · have HLr := HL.out.only HO.out HK.out
      obtain ⟨g, off, cc, bv, hve, _, hgK, hch⟩ := HLr.open_ hlt
      injection hve with h1 h2 h3
      subst h1; subst h3
      obtain ⟨bA, bc, rfl, _⟩ := id hch.rb
      have x0 := hch.sec
      have x1 := hch.bytes
      have HCH := Lib.hid hch
      clear hch HLr
      obtain ⟨w3, hw3⟩ : ∃ w3, w3 = wr.alloc (.cells #[.int .i64 l[k].1, .slice bA l[k].2.length bc] 69) := ⟨_, rfl⟩
      have o3 : Only NoB wr w3 := by rw [hw3]; exact (Only.refl NoB wr).alloc _
      have x3 : w3.cell? ⟨wr.heap.size, 1, none⟩ = some (.slice bA l[k].2.length bc) := by rw [hw3]; exact (Blk.new wr 69 #[.int .i64 l[k].1, .slice bA l[k].2.length bc]).cell 1
      have hG1 : ∀ p, ¬ G p → p < w.heap.size → ¬ G1 p := fun p hp hlt hg => by
        rcases HG.out p hg with h | h
        · exact hp h
        · omega
      have b1 : p1 < w.heap.size := World.block_lt_of_cell? w _ C1.out
      have b2 : p2 < w.heap.size := World.block_lt_of_cell? w _ C2.out
      have kp : ∀ w', Only G1 w3 w' → w'.cell? ⟨p1, 0, none⟩ = some (.pointer (some ⟨a, 0, none⟩)) ∧ w'.cell? ⟨a, 0, none⟩ = some (.pointer (some ⟨b, 0, none⟩)) ∧ w'.cell? ⟨p2, 0, none⟩ = some (.func (.func kf) first caps) ∧ w'.cell? ⟨wr.heap.size, 1, none⟩ = some (.slice bA l[k].2.length bc) := fun w' ho =>
        ⟨ho.cell (o3.cell (HO.out.cell C1.out N1.out) id) (hG1 p1 N1.out b1), ho.cell (o3.cell (H1.out.cell 0 _ rfl) id) H1.out.off, ho.cell (o3.cell (HO.out.cell C2.out N2.out) id) (hG1 p2 N2.out b2), ho.cell x3 fun hg => absurd (H1.out.disk.1 _ hg) (Nat.lt_irrefl _)⟩
      have KP := Lib.hid kp
      have HPk : Hid (∀ w', Only NoB w3 w' → Calls Try.prog kf (first ++ #[.int .i64 k] ++ caps) w' fun e w'' => e = .returned (.int .i64 (pl k)) ∧ Only NoB w' w'') := Lib.hid fun w' ho => HP.out w' k hlt (HO.out.trans ((o3.trans ho).mono fun _ _ h => h.elim))
      have hwr : ∀ w', Only NoB w3 w' → Calls Try.prog 10 #[.pointer (some ⟨b, 0, none⟩), .int .i64 (pl k), .slice bA l[k].2.length bc] w' (DeedW w' G1 a b (.int .i64 (DD.write (pl k) l[k].2 (runD ((wops pl l).take k) W.D).1).2) { W with D := (DD.write (pl k) l[k].2 (runD ((wops pl l).take k) W.D).1).1 }) := fun w' ho =>
        (H1.out.quit (o3.trans ho)).write HB1.out (by have := HQ.out; omega) (pl k) K _ _ (Rd.only HCH.out.rb (o3.trans ho) fun _ _ => id)
      obtain ⟨D2, hD2⟩ : ∃ D2, D2 = (DD.write (pl k) l[k].2 (runD ((wops pl l).take k) W.D).1).1 := ⟨_, rfl⟩
      obtain ⟨z, hz⟩ : ∃ z, z = (DD.write (pl k) l[k].2 (runD ((wops pl l).take k) W.D).1).2 := ⟨_, rfl⟩
      rw [← hD2, ← hz] at hwr
      have hko : k < (wops pl l).length := by rw [wops_len]; exact hlt
      have HS : Hid (runD ((wops pl l).take (k + 1)) W.D = (D2, z)) := Lib.hid (by rw [List.take_succ_eq_append_getElem hko, runD_snoc, if_pos H0.out, wops_get, hD2, hz])
      have HWR := Lib.hid hwr
      have HBN : Hid (Bnd n m (q + (k + 1)) D2) := Lib.hid (by rw [hD2]; exact HB1.out.write _ _)
      have O3 := Lib.hid o3
      go_wp2_with fail
      rw [← hw3]
      have k1 := kp w3 (Only.refl _ _)
      clear hw3 x0 x1 x3 kp hwr hD2 hz hG1 b1 b2 hko o3 HCH
      go_region_held (fun w' => w'.cell? ⟨p1, 0, none⟩ = some (.pointer (some ⟨a, 0, none⟩)) ∧ w'.cell? ⟨a, 0, none⟩ = some (.pointer (some ⟨b, 0, none⟩)) ∧ w'.cell? ⟨p2, 0, none⟩ = some (.func (.func kf) first caps) ∧ w'.cell? ⟨wr.heap.size, 1, none⟩ = some (.slice bA l[k].2.length bc))
        (first | exact KP.out _ (Only.drew (Only.refl _ _)) | exact KP.out _ (h13.mono fun _ _ h => h.elim) | exact KP.out _ h14)
        (first
          | (refine (HPk.out _ (Only.drew (Only.refl _ _))).mono ?_; rintro e w4 ⟨rfl, ho4⟩; have h13 : Only NoB w3 w4 := (Only.drew (Only.refl _ _)).trans ho4)
          | (go_at_call 10; refine (HWR.out _ h13).mono ?_; rintro e w5 ⟨rfl, G2, h2, ho2, hg2⟩; have h14 : Only G1 w3 w5 := (h13.mono fun _ _ h => h.elim).trans ho2))
      all_goals
        have ho5 : Only G1 wr w5 := (O3.out.mono fun _ _ h => h.elim).trans h14
        have H2 := Lib.hid h2
        have HO2 := Lib.hid (HG.out.only HO.out ho5)
        have HG2 : Hid (Grows G G2 w) := Lib.hid (HG.out.trans (fun k hk => (hg2 k hk).imp id fun h => Nat.le_trans (Nat.le_trans O3.out.size h13.size) h) HO.out.size)
        clear h2 ho2 hg2 h14 ho5 h13 ho4
        by_cases hz0 : z = 0
        · subst hz0
          go_wp2_with fail
          refine ⟨⟨k + 1, by omega, by go_num, G2, ?_, HO2.out, HG2.out, ?_, ?_⟩, by simp [intOf]; omega⟩
          · rw [HS.out]; exact H2.out
          · rw [HS.out]
          · rw [HS.out]; exact HBN.out
        · have e0 : (z == 0) = false := by simpa using hz0
          have HF : Hid (runD (wops pl l) W.D = (D2, z)) := Lib.hid ((runD_fail (j := k + 1) (by rw [HS.out]; exact hz0)).trans HS.out)
          clear hz0
          go_wp2_with fail
          go_ret
          rw [HF.out]
          exact ⟨rfl, G2, H2.out, HO2.out, HG2.out⟩
    · obtain rfl : k = l.length := by omega
      have HT : Hid ((wops pl l).take l.length = wops pl l) := Lib.hid (by rw [← wops_len pl l, List.take_length])
      have h1 := H1.out
      have h0 := H0.out
      rw [HT.out] at h1 h0
      have H1 := Lib.hid h1
      have H0 := Lib.hid h0
      clear h1 h0
      go_wp2_with fail
      go_ret
      rw [H0.out]
      exact ⟨rfl, G1, H1.out, HO.out, HG.out⟩
end Go.Proofs.Ytllodjcfcjmocaa
