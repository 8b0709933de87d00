import Derived.Test.YtllodjcfcjmocaaPair
/- THE WAL IN MEMORY; what its closures do; deeds. -/
namespace Go.Proofs.Ytllodjcfcjmocaa
open Go.RowKit Go.Proofs

/-- A wal as plain data: its disk, the log's blocks, is it dead. -/
structure WD where
  D : DD
  log : Nat
  dead : Bool
def walCells (b : Nat) (W : WD) : Array Value :=
  #[.pointer (some ⟨b, 0, none⟩), .int .i64 (W.log : Int), .int .i64 ((W.D.n - 1 - W.log : Nat) : Int), .int .i64 (W.D.m : Int), .bool W.dead]
/-- At a lies the wal W, over the disk at b (whose blocks are G). -/
structure WalIn (w : World) (G : Nat → Prop) (a b : Nat) (W : WD) : Prop where
  disk : DiskAt w G b W.D
  blk : Blk w a 78 (walCells b W)
  off : ¬ G a
  log1 : 1 ≤ W.log
  log2 : 3 + 3 * W.log ≤ W.D.m
  log3 : 1 + W.log < W.D.n
/-- A call that turns the disk alone. -/
def DeedW (w : World) (G : Nat → Prop) (a b : Nat) (v : Value) (W' : WD) (e : Ending) (w' : World) : Prop :=
  e = .returned v ∧ ∃ G', WalIn w' G' a b W' ∧ Only G w w' ∧ Grows G G' w

section
variable {w w' : World} {F G : Nat → Prop} {a b : Nat} {W : WD}
theorem WalIn.cell (h : WalIn w G a b W) (i : Nat) (v : Value) (hi : (walCells b W)[i]? = some v) : w.cell? ⟨a, i, none⟩ = some v := by rw [h.blk.cell, hi]
theorem WalIn.only (h : WalIn w G a b W) (ho : Only F w w') (hd : ∀ k, (G k ∨ k = a) → ¬ F k) : WalIn w' G a b W :=
  ⟨h.disk.only ho fun k hk => hd k (.inl hk), h.blk.only ho (hd a (.inr rfl)), h.off, h.log1, h.log2, h.log3⟩
theorem WalIn.quit (h : WalIn w G a b W) (ho : Only NoB w w') : WalIn w' G a b W := h.only ho fun _ _ => id
theorem deed_w (h : WalIn w G a b W) {v : Value} {D' : DD} {e : Ending} (hd : Deed w G b v D' e w') (hn : D'.n = W.D.n) (hm : D'.m = W.D.m) : DeedW w G a b v { W with D := D' } e w' := by
  obtain ⟨he, G', hd', ho, hg⟩ := hd
  refine ⟨he, G', ⟨hd', ?_, fun hk => ?_, h.log1, by simp only [hm]; exact h.log2, by simp only [hn]; exact h.log3⟩, ho, hg⟩
  · have := h.blk.only ho h.off
    unfold walCells at this ⊢
    simp only [hn, hm]
    exact this
  · rcases hg a hk with h1 | h1
    · exact h.off h1
    · have := h.blk.lt; omega
theorem WalIn.write (h : WalIn w G a b W) {n m q : Nat} (hb : Bnd n m q W.D) (hq : q ≤ 1000000) (s : Int) (K : Nat → Prop) (v : Value) (l : List UInt8) (hv : Bytes w K v l) :
    Calls Try.prog 10 #[.pointer (some ⟨b, 0, none⟩), .int .i64 s, v] w (DeedW w G a b (.int .i64 (DD.write s l W.D).2) { W with D := (DD.write s l W.D).1 }) :=
  (write_any h.disk s K v l hv (by have := hb.cache; omega) (by have := hb.keep; omega) (by have := hb.deeds; omega)).mono fun _ _ hd => deed_w h hd ((hb.write s l).n.trans hb.n.symm) ((hb.write s l).m.trans hb.m.symm)
theorem WalIn.flush (h : WalIn w G a b W) {n m q : Nat} (hb : Bnd n m q W.D) (hq : q ≤ 1000000) :
    Calls Try.prog 12 #[.pointer (some ⟨b, 0, none⟩)] w (DeedW w G a b (.int .i64 (DD.flush W.D).2) { W with D := (DD.flush W.D).1 }) :=
  (flush_any h.disk (by have := hb.keep; omega) (by have := hb.deeds; omega)).mono fun _ _ hd => deed_w h hd (hb.flush.n.trans hb.n.symm) (hb.flush.m.trans hb.m.symm)
theorem WalIn.read (h : WalIn w G a b W) (s : Int) : Calls Try.prog 15 #[.pointer (some ⟨b, 0, none⟩), .int .i64 s] w (ReadOut2 w (DD.read s W.D).1 (DD.read s W.D).2) := read_any2 h.disk s
theorem Grows.only {F' : Nat → Prop} {w2 : World} (hg : Grows F F' w) (ho : Only F w w') (hk : Only F' w' w2) : Only F w w2 := ho.steps hg hk
end

/-! ## deeds -/
/-- The deeds one after the other, till one fails. -/
def runD : List (DD → DD × Int) → DD → DD × Int
  | [], D => (D, 0)
  | o :: os, D => if (o D).2 = 0 then runD os (o D).1 else o D
theorem runD_snoc (os : List (DD → DD × Int)) (o : DD → DD × Int) : ∀ D, runD (os ++ [o]) D = if (runD os D).2 = 0 then o (runD os D).1 else runD os D := by
  induction os with
  | nil => intro D; simp only [List.nil_append, runD, if_true]; split <;> rename_i h <;> first | rfl | exact Prod.ext rfl h.symm
  | cons x os ih =>
    intro D
    rw [List.cons_append, runD, runD]
    by_cases h : (x D).2 = 0
    · rw [if_pos h, if_pos h, ih]
    · rw [if_neg h, if_neg h, if_neg h]
theorem runD_append (xs ys : List (DD → DD × Int)) : ∀ D, runD (xs ++ ys) D = if (runD xs D).2 = 0 then runD ys (runD xs D).1 else runD xs D := by
  induction xs with
  | nil => intro D; simp [runD]
  | cons x xs ih =>
    intro D
    rw [List.cons_append, runD, runD]
    by_cases h : (x D).2 = 0
    · rw [if_pos h, if_pos h, ih]
    · rw [if_neg h, if_neg h, if_neg h]
theorem runD_fail {os : List (DD → DD × Int)} {D : DD} {j : Nat} (h : (runD (os.take j) D).2 ≠ 0) : runD os D = runD (os.take j) D := by
  have := runD_append (os.take j) (os.drop j) D
  rwa [List.take_append_drop, if_neg h] at this
/-- f is a function value that does op to the wal's disk, from any world that w may turn into. -/
structure ActW (w : World) (G : Nat → Prop) (a b n m : Nat) (W : WD) (f : Value) (op : DD → DD × Int) (cost : Nat) : Prop where
  bnd : ∀ q D, Bnd n m q D → Bnd n m (q + cost) (op D).1
  call : ∃ (kf : Nat) (first caps : Array Value), f = .func (.func kf) first caps ∧ (∀ (args : Array Value) (w1 : World), (callFunc kf args).run Try.prog w1 = .ok (.enter kf args) w1) ∧
    ∀ w1 G1 D1 q, WalIn w1 G1 a b { W with D := D1 } → Only G w w1 → Grows G G1 w → Bnd n m q D1 → q + cost ≤ 1000000 → Calls Try.prog kf (first ++ caps) w1 (DeedW w1 G1 a b (.int .i64 (op D1).2) { W with D := (op D1).1 })

set_option maxRecDepth 2048 in
set_option maxHeartbeats 1000000 in
theorem wdeeds_any {w : World} {G : Nat → Prop} {a b n m q cost : Nat} {W : WD} (h : WalIn w G a b W) (fs : List Value) (ops : List (DD → DD × Int)) (hlen : ops.length = fs.length)
    (acts : ∀ k (h1 : k < fs.length) (h2 : k < ops.length), ActW w G a b n m W fs[k] ops[k] cost) (K : Nat → Prop) (v : Value) (hv : Rd w K 1 v fs.length fs) (hK : ∀ k, K k → ¬ G k) (hb : Bnd n m q W.D) (hq : q + cost * fs.length ≤ 1000000) (hf : fs.length ≤ 1000) :
    Calls Try.prog 49 #[v] w (DeedW w G a b (.int .i64 (runD ops W.D).2) { W with D := (runD ops W.D).1 }) := by
  obtain ⟨A, c, rfl, hvx⟩ := id hv
  clear hvx
  have H := Lib.hid h
  have HA := Lib.hid acts
  have HV := Lib.hid hv
  have HK := Lib.hid hK
  have HB := Lib.hid hb
  have HL := Lib.hid hlen
  have HQ := Lib.hid hq
  clear h acts hv hK hb hlen hq
  go_enter Try.func49, Try.ntmps49
  go_wp2_with fail
  go_loopw [8] (fun i wr => ∃ k : Nat, k ≤ fs.length ∧ i = .int .i64 k ∧ ∃ G1, WalIn wr G1 a b { W with D := (runD (ops.take k) W.D).1 } ∧ Only G w wr ∧ Grows G G1 w ∧ (runD (ops.take k) W.D).2 = 0 ∧ Bnd n m (q + cost * k) (runD (ops.take k) W.D).1) (fun i _ => fs.length - (intOf i).toNat)
  case atStart =>
    exact ⟨0, Nat.zero_le _, rfl, G, H.out, Only.refl _ _, Grows.refl _ _, rfl, HB.out⟩
  case round =>
    obtain ⟨k, hk, rfl, G1, h1, ho, hg, h0, hb⟩ := hrel
    have H1 := Lib.hid h1
    have HO := Lib.hid ho
    have HG := Lib.hid hg
    have H0 := Lib.hid h0
    have HB1 := Lib.hid hb
    clear h1 ho hg h0 hb H
    by_cases hlt : k < fs.length
    · obtain ⟨g, off, cc, hve, _, hg, hcell⟩ := HV.out.open_ (by omega)
      injection hve with h1 h2 h3
      subst h1; subst h3
      have hko : k < ops.length := by rw [HL.out]; exact hlt
      obtain ⟨hbnd, kf, first, caps, hfe, hcf, hcall⟩ := HA.out k hlt hko
      have hck := HO.out.cell (hcell k (.func (.func kf) first caps) (by rw [List.getElem?_eq_getElem hlt, hfe])) (HK.out _ hg)
      have HC := Lib.hid (hcall _ _ _ _ H1.out HO.out HG.out HB1.out (by have : cost * k + cost ≤ cost * fs.length := by rw [← Nat.mul_succ]; exact Nat.mul_le_mul_left _ hlt
                                                                         have := HQ.out
                                                                         omega))
      have HBN := Lib.hid (hbnd _ _ HB1.out)
      have HS : Hid (runD (ops.take (k + 1)) W.D = ops[k] (runD (ops.take k) W.D).1) := Lib.hid (by rw [List.take_succ_eq_append_getElem hko, runD_snoc, if_pos H0.out])
      clear hcell hcall hfe hbnd
      go_wp2_with fail
      refine HC.out.mono ?_
      rintro e w2 ⟨rfl, G2, h2, ho2, hg2⟩
      have H2 := Lib.hid h2
      have HO2 := Lib.hid (HG.out.only HO.out ho2)
      have HG2 := Lib.hid (HG.out.trans hg2 HO.out.size)
      obtain ⟨x, hx⟩ : ∃ x, x = (ops[k] (runD (ops.take k) W.D).1).2 := ⟨_, rfl⟩
      rw [← hx]
      have HX := Lib.hid hx
      clear h2 ho2 hg2 hx HC hck
      by_cases hx0 : x = 0
      · subst hx0
        go_wp2_with fail
        refine ⟨⟨k + 1, by omega, by go_num, G2, ?_, HO2.out, HG2.out, ?_, ?_⟩, by simp [intOf]; omega⟩
        · rw [HS.out]; exact H2.out
        · rw [HS.out]; exact HX.out.symm
        · rw [HS.out, Nat.mul_succ, ← Nat.add_assoc]; exact HBN.out
      · have e0 : (x == 0) = false := by simpa using hx0
        have HF : Hid (runD ops W.D = ops[k] (runD (ops.take k) W.D).1) := Lib.hid ((runD_fail (j := k + 1) (by rw [HS.out, ← HX.out]; exact hx0)).trans HS.out)
        clear hx0
        go_wp2_with fail
        go_ret
        rw [HF.out, ← HX.out]
        exact ⟨rfl, G2, H2.out, HO2.out, HG2.out⟩
    · obtain rfl : k = fs.length := by omega
      have HT : Hid (ops.take fs.length = ops) := Lib.hid (by rw [← HL.out, List.take_length])
      have h1 := H1.out
      have h0 := H0.out
      rw [HT.out] at h1 h0
      have H1 := Lib.hid h1
      have H0 := Lib.hid h0
      clear h1 h0
      go_wp2_with fail
      go_ret
      rw [H0.out]
      exact ⟨rfl, G1, H1.out, HO.out, HG.out⟩
end Go.Proofs.Ytllodjcfcjmocaa
