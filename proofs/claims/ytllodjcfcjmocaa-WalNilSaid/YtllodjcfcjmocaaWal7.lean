import Derived.Test.YtllodjcfcjmocaaWal5
import Derived.Test.YtllodjcfcjmocaaWalC
/- THE WAL's Open, of a disk whose first sector isn't set. -/
namespace Go.Proofs.Ytllodjcfcjmocaa
open Go.RowKit Go.Proofs
section
variable {w w' : World} {G K : Nat → Prop} {a b n m q : Nat} {D : DD}
theorem wopen_nil (w : World) (log : Int) : Calls Try.prog 32 #[.pointer none, .int .i64 log] w fun e w' => e = .returned (.tuple #[.pointer none, .int .i64 3]) ∧ w = w' := by
  go_enter Try.func32, Try.ntmps32
  go_wp2_with fail
  refine (size_nil _).mono ?_
  rintro e w1 ⟨rfl, rfl⟩
  go_wp2_with fail
  go_ret2
  exact ⟨rfl, rfl⟩
/-- What Open answers: a new wal. -/
def WMade (w : World) (G : Nat → Prop) (b : Nat) (W : WD) (e : Ending) (w' : World) : Prop :=
  ∃ a, e = .returned (.tuple #[.pointer (some ⟨a, 0, none⟩), .int .i64 0]) ∧ WalIn w' G a b W ∧ Only NoB w w' ∧ w.heap.size ≤ a
theorem walIn_new (h : DiskAt w G b D) {log : Nat} (h1 : 1 ≤ log) (h2 : 3 + 3 * log ≤ D.m) (h3 : 1 + log < D.n) : WalIn (w.alloc (.cells (walCells b ⟨D, log, false⟩) 78)) G w.heap.size b ⟨D, log, false⟩ :=
  ⟨h.only ((Only.refl NoB w).alloc _) fun _ _ => id, Blk.new _ _ _, fun hg => absurd (h.1 _ hg) (Nat.lt_irrefl _), h1, h2, h3⟩
set_option maxRecDepth 2048 in
set_option maxHeartbeats 2000000 in
theorem wopen_new (h : DiskAt w G b D) (log : Nat) (h1 : 1 ≤ log) (h2 : 3 + 3 * log ≤ D.m) (h3 : 1 + log < D.n) (hd : D.down = false) (x : UInt8) (rest : List UInt8) (hx : D.at_ 0 = x :: rest) (hx1 : x ≠ 1) :
    Calls Try.prog 32 #[.pointer (some ⟨b, 0, none⟩), .int .i64 log] w (WMade w G b ⟨D, log, false⟩) := by
  have HS := Lib.hid (size_any h)
  have hn := h.wf.n2
  have hm := h.wf.m2
  have hw := (walIn_new h h1 h2 h3).quit (Only.drew (Only.refl NoB _))
  have hr := (hw.read 0)
  have hrd : DD.read 0 D = (x :: rest, 0) := by
    unfold DD.read
    rw [hd]
    have : D.sector 0 = true := by unfold DD.sector; simp; omega
    rw [this]
    simp only [Bool.false_eq_true, if_false, if_true, Int.toNat_zero, hx]
  rw [hrd] at hr
  obtain ⟨N, hN⟩ : ∃ N, N = D.n := ⟨_, rfl⟩
  obtain ⟨M, hM⟩ : ∃ M, M = D.m := ⟨_, rfl⟩
  have hcs : walCells b ⟨D, log, false⟩ = #[.pointer (some ⟨b, 0, none⟩), .int .i64 log, .int .i64 ((N - 1 - log : Nat) : Int), .int .i64 M, .bool false] := by rw [hN, hM]; rfl
  rw [hcs] at hw hr
  clear hcs
  have HW := Lib.hid hw
  have HR := Lib.hid hr
  rw [← hN, ← hM] at HS
  have HN := Lib.hid hN
  have HM := Lib.hid hM
  rw [← hN] at hn h3
  rw [← hM] at hm h2
  have e1 : decide ((log : Int) < 1) = false := by simp; omega
  have e2 : decide ((log : Int) > ((M : Int) - 3) / 3) = false := by simp; omega
  have e2' : decide ((log : Int) > ((M : Int) - 3).tdiv 3) = false := by rw [Int.tdiv_eq_ediv_of_nonneg (by omega)]; exact e2
  have e3 : decide ((N : Int) ≤ 1 + (log : Int)) = false := by simp; omega
  have e4 : ((x.toNat : Int) != 1) = true := by
    rw [bne_iff_ne]
    intro e
    apply hx1
    have : x.toNat = 1 := by omega
    exact UInt8.toNat_inj.1 this
  have eb : (N : Int) - 1 - (log : Int) = ((N - 1 - log : Nat) : Int) := by omega
  clear h hw hr hrd hN hM hx hx1 hd
  go_enter Try.func32, Try.ntmps32
  go_wp2_with fail
  refine HS.out.mono ?_
  rintro e w1 ⟨rfl, rfl⟩
  go_wp2_with fail
  refine HR.out.mono ?_
  rintro e w2 ⟨v, rfl, hb, ho⟩
  obtain ⟨g, off, cc, rfl, _, _, hcell⟩ := hb.open_ (by simp)
  have hc := hcell 0 (.int .u8 x.toNat) rfl
  rw [Nat.add_zero] at hc
  have HO := Lib.hid ho
  clear hb ho hcell HR
  go_wp2_with fail
  go_ret2
  exact ⟨w.heap.size, rfl, HW.out.quit HO.out, (((Only.refl NoB w).alloc _).drew).trans HO.out, Nat.le_refl _⟩
set_option maxHeartbeats 1000000 in
theorem wopen_down (h : DiskAt w G b D) (log : Nat) (h1 : 1 ≤ log) (h2 : 3 + 3 * log ≤ D.m) (h3 : 1 + log < D.n) (hd : D.down = true) :
    Calls Try.prog 32 #[.pointer (some ⟨b, 0, none⟩), .int .i64 log] w (Quit w (.tuple #[.pointer none, .int .i64 50])) := by
  have HS := Lib.hid (size_any h)
  have hn := h.wf.n2
  have hm := h.wf.m2
  have hw := (walIn_new h h1 h2 h3).quit (Only.drew (Only.refl NoB _))
  have hr := (hw.read 0)
  have hrd : DD.read 0 D = ([], 50) := by
    unfold DD.read
    rw [hd]
    rfl
  rw [hrd] at hr
  obtain ⟨N, hN⟩ : ∃ N, N = D.n := ⟨_, rfl⟩
  obtain ⟨M, hM⟩ : ∃ M, M = D.m := ⟨_, rfl⟩
  have hcs : walCells b ⟨D, log, false⟩ = #[.pointer (some ⟨b, 0, none⟩), .int .i64 log, .int .i64 ((N - 1 - log : Nat) : Int), .int .i64 M, .bool false] := by rw [hN, hM]; rfl
  rw [hcs] at hr
  clear hcs
  have HR := Lib.hid hr
  rw [← hN, ← hM] at HS
  rw [← hN] at hn h3
  rw [← hM] at hm h2
  have e1 : decide ((log : Int) < 1) = false := by simp; omega
  have e2 : decide ((log : Int) > ((M : Int) - 3) / 3) = false := by simp; omega
  have e2' : decide ((log : Int) > ((M : Int) - 3).tdiv 3) = false := by rw [Int.tdiv_eq_ediv_of_nonneg (by omega)]; exact e2
  have e3 : decide ((N : Int) ≤ 1 + (log : Int)) = false := by simp; omega
  have eb : (N : Int) - 1 - (log : Int) = ((N - 1 - log : Nat) : Int) := by omega
  clear h hw hr hrd hN hM hd
  go_enter Try.func32, Try.ntmps32
  go_wp2_with fail
  refine HS.out.mono ?_
  rintro e w1 ⟨rfl, rfl⟩
  go_wp2_with fail
  refine HR.out.mono ?_
  rintro e w2 ⟨v, rfl, hb, ho⟩
  obtain ⟨vA, vc, rfl, hvx⟩ := id hb
  clear hvx
  have HO := Lib.hid ho
  clear hb ho HR
  go_wp2_with fail
  go_ret2
  exact ⟨rfl, (((Only.refl NoB w).alloc _).drew).trans HO.out⟩
end
end Go.Proofs.Ytllodjcfcjmocaa
