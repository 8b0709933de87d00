import Derived.Test.YtllodjcfcjmocaaWal2
/- THE WAL's CLOSURES are made: writes, logOf, blocksOf, Flush. -/
namespace Go.Proofs.Ytllodjcfcjmocaa
open Go.RowKit Go.Proofs
section
variable {w w' : World} {G K : Nat → Prop} {a b n m q : Nat} {W : WD} {f lv : Value} {op : DD → DD × Int} {l : List Ch} {pl : Nat → Int}
theorem ActW.cost {c c' : Nat} (h : ActW w G a b n m W f op c) (hc : c ≤ c') : ActW w G a b n m W f op c' := by
  obtain ⟨hb, kf, first, caps, he, hcf, hcall⟩ := h
  refine ⟨fun q D hq => ?_, kf, first, caps, he, hcf, fun w1 G1 D1 q h1 ho hg hbn hq => hcall w1 G1 D1 q h1 ho hg hbn (by omega)⟩
  have := hb q D hq
  exact ⟨this.n, this.m, by have := this.cache; omega, by have := this.deeds; omega, this.keep⟩
theorem ActW.later {c : Nat} (h : ActW w G a b n m W f op c) (ho : Only NoB w w') : ActW w' G a b n m W f op c := by
  obtain ⟨hb, kf, first, caps, he, hcf, hcall⟩ := h
  exact ⟨hb, kf, first, caps, he, hcf, fun w1 G1 D1 q h1 ho1 hg hbn hq => hcall w1 G1 D1 q h1 ((ho.mono fun _ _ h => h.elim).trans ho1) (fun k hk => (hg k hk).imp id fun h => Nat.le_trans ho.size h) hbn hq⟩
theorem act_flush : ActW w G a b n m W (.func (.func 12) #[.pointer (some ⟨b, 0, none⟩)] #[]) DD.flush 1 :=
  ⟨fun _ _ h => h.flush, _, _, _, rfl, fun _ _ => rfl, fun w1 G1 D1 q h1 _ _ hb hq => h1.flush hb (by omega)⟩
/-- A closure that is made. -/
def FnOut (w : World) (G : Nat → Prop) (a b n m : Nat) (W : WD) (op : DD → DD × Int) (cost : Nat) (e : Ending) (w' : World) : Prop := ∃ f, e = .returned f ∧ Only NoB w w' ∧ ActW w' G a b n m W f op cost

set_option maxRecDepth 2048 in
set_option maxHeartbeats 1000000 in
theorem writes_any {kf : Nat} {first caps : Array Value} (hG : ∀ k, G k → k < w.heap.size) (hl : Changes w K lv l) (hK : ∀ k, K k → ¬ G k) (hKlt : ∀ k, K k → k < w.heap.size) (hcf : ∀ (args : Array Value) (w1 : World), (callFunc kf args).run Try.prog w1 = .ok (.enter kf args) w1)
    (hp : ∀ wr k, k < l.length → Only G w wr → Calls Try.prog kf (first ++ #[.int .i64 k] ++ caps) wr fun e w' => e = .returned (.int .i64 (pl k)) ∧ Only NoB wr w') :
    Calls Try.prog 56 #[.pointer (some ⟨a, 0, none⟩), lv, .func (.func kf) first caps] w (FnOut w G a b n m W (runD (wops pl l)) l.length) := by
  obtain ⟨A, c, rfl, hvx⟩ := id hl
  clear hvx
  have HL := Lib.hid hl
  have HG := Lib.hid hG
  have HK := Lib.hid hK
  have HKl := Lib.hid hKlt
  have HP := Lib.hid hp
  have HC := Lib.hid hcf
  clear hl hG hK hKlt hp hcf
  go_enter Try.func56, Try.ntmps56
  go_wp2_with fail
  go_ret
  have b0 := Blk.new w 59 #[.pointer (some ⟨a, 0, none⟩)]
  have b1 := Blk.new (w.alloc (.cells #[.pointer (some ⟨a, 0, none⟩)] 59)) 54 #[.slice A l.length c]
  have b2 := Blk.new ((w.alloc (.cells #[.pointer (some ⟨a, 0, none⟩)] 59)).alloc (.cells #[.slice A l.length c] 54)) 89 #[.func (.func kf) first caps]
  have ho : Only NoB w (((w.alloc (.cells #[.pointer (some ⟨a, 0, none⟩)] 59)).alloc (.cells #[.slice A l.length c] 54)).alloc (.cells #[.func (.func kf) first caps] 89)) := (((Only.refl NoB w).alloc _).alloc _).alloc _
  have b0' := (b0.alloc (.cells #[.slice A l.length c] 54)).alloc (.cells #[.func (.func kf) first caps] 89)
  have b1' := b1.alloc (.cells #[.func (.func kf) first caps] 89)
  rw [World.size_alloc] at b1'
  rw [World.size_alloc, World.size_alloc] at b2
  refine ⟨_, rfl, ho, fun q D hq => wops_bnd pl l hq, 61, #[], #[.pointer (some ⟨w.heap.size + 1, 0, none⟩), .pointer (some ⟨w.heap.size, 0, none⟩), .pointer (some ⟨w.heap.size + 1 + 1, 0, none⟩)], rfl, fun _ _ => rfl, fun w1 G1 D1 q h1 ho1 hg hbn hq => ?_⟩
  have hnG : ∀ k, w.heap.size ≤ k → ¬ G k := fun k hk hg => by have := HG.out k hg; omega
  have hnG1 : ∀ k, w.heap.size ≤ k → k < (((w.alloc (.cells #[.pointer (some ⟨a, 0, none⟩)] 59)).alloc (.cells #[.slice A l.length c] 54)).alloc (.cells #[.func (.func kf) first caps] 89)).heap.size → ¬ G1 k := fun k hk hlt hg1 => by
    rcases hg k hg1 with h | h
    · exact hnG k hk h
    · omega
  have hoG : Only G w w1 := (ho.mono fun _ _ h => h.elim).trans ho1
  have hg0 : Grows G G1 w := fun k hk => (hg k hk).imp id fun h => Nat.le_trans ho.size h
  refine writes1_any (K := K) (kf := kf) (first := first) (caps := caps) h1 (ho1.cell (b1'.cell 0) (hnG _ (Nat.le_succ _))) (ho1.cell (b0'.cell 0) (hnG _ (Nat.le_refl _))) (ho1.cell (b2.cell 0) (hnG _ (Nat.le_add_right _ 2))) (hnG1 _ (Nat.le_refl _) b0'.lt) (hnG1 _ (Nat.le_add_right _ 2) b2.lt) (HL.out.only hoG HK.out) (fun k hk hg1 => ?_) HC.out (fun wr k hk ho2 => HP.out wr k hk (hg0.only hoG ho2)) hbn hq
  rcases hg k hg1 with h | h
  · exact HK.out k hk h
  · have := HKl.out k hk; have := ho.size; omega
theorem logOf1_any (k : Nat) (hk : k < 1000000000) (w : World) : Calls Try.prog 60 #[.int .i64 k] w fun e w' => e = .returned (.int .i64 ((1 : Int) + k)) ∧ Only NoB w w' := by
  go_enter Try.func60, Try.ntmps60
  go_wp2_with fail
  go_ret
  exact ⟨rfl, Only.refl _ _⟩
theorem logOf_any (hG : ∀ k, G k → k < w.heap.size) (hl : Changes w K lv l) (hK : ∀ k, K k → ¬ G k) (hKlt : ∀ k, K k → k < w.heap.size) (hll : l.length ≤ 1000000) :
    Calls Try.prog 54 #[.pointer (some ⟨a, 0, none⟩), lv] w (FnOut w G a b n m W (runD (wops (fun k => 1 + (k : Int)) l)) l.length) := by
  have HC := Lib.hid (writes_any (a := a) (b := b) (n := n) (m := m) (W := W) (pl := fun k => 1 + (k : Int)) (kf := 60) (first := #[]) (caps := #[]) hG hl hK hKlt (fun _ _ => rfl) (fun wr k hk _ => logOf1_any k (by omega) wr))
  obtain ⟨A, c, rfl, hvx⟩ := id hl
  clear hvx hl hG hK hKlt
  go_enter Try.func54, Try.ntmps54
  go_wp2_with fail
  refine HC.out.mono ?_
  rintro e w1 ⟨f, rfl, ho, ha⟩
  have HO := Lib.hid ho
  have HA := Lib.hid ha
  clear ho ha
  go_wp2_with fail
  go_ret
  exact ⟨f, rfl, HO.out, HA.out⟩
/-- The blocks' places. -/
def blockAt (log : Nat) (l : List Ch) (k : Nat) : Int := 1 + (log : Int) + (l.getD k (0, [])).1
set_option maxRecDepth 2048 in
theorem blocksOf1_any {p1 p2 k : Nat} (hk : k < l.length) (c1 : w.cell? ⟨p1, 0, none⟩ = some (.pointer (some ⟨a, 0, none⟩))) (c2 : w.cell? ⟨p2, 0, none⟩ = some lv) (hl : Changes w K lv l) (hlog : w.cell? ⟨a, 1, none⟩ = some (.int .i64 (W.log : Int))) (h1 : W.log ≤ 1000000)
    (h3 : 0 ≤ l[k].1) (h4 : l[k].1 < 1000000000) : Calls Try.prog 57 #[.int .i64 k, .pointer (some ⟨p1, 0, none⟩), .pointer (some ⟨p2, 0, none⟩)] w fun e w' => e = .returned (.int .i64 (blockAt W.log l k)) ∧ Only NoB w w' := by
  obtain ⟨g, off, cc, bv, rfl, _, _, hch⟩ := hl.open_ hk
  have x0 := hch.sec
  have hb : blockAt W.log l k = 1 + (W.log : Int) + l[k].1 := by unfold blockAt; rw [List.getD_eq_getElem?_getD, List.getElem?_eq_getElem hk]; rfl
  have HB := Lib.hid hb
  obtain ⟨s, hs⟩ : ∃ s, s = l[k].1 := ⟨_, rfl⟩
  rw [← hs] at x0 h3 h4 HB
  clear hl hch hs hb
  go_enter Try.func57, Try.ntmps57
  go_wp2_with fail
  go_region
  all_goals
    go_wp2_with fail
    go_ret
    exact ⟨by rw [HB.out]; rfl, (Only.refl _ _).drew⟩
theorem blocksOf_any (h : WalIn w G a b W) (hl : Changes w K lv l) (hK : ∀ k, K k → ¬ G k) (hKlt : ∀ k, K k → k < w.heap.size) (hs : ∀ c ∈ l, 0 ≤ c.1 ∧ c.1 < 1000000000) (hlog : W.log ≤ 1000000) :
    Calls Try.prog 50 #[.pointer (some ⟨a, 0, none⟩), lv] w (FnOut w G a b n m W (runD (wops (blockAt W.log l) l)) l.length) := by
  obtain ⟨A, c, rfl, hvx⟩ := id hl
  clear hvx
  have b0 := Blk.new w 59 #[.pointer (some ⟨a, 0, none⟩)]
  have b1 := Blk.new (w.alloc (.cells #[.pointer (some ⟨a, 0, none⟩)] 59)) 54 #[.slice A l.length c]
  have b0' := b0.alloc (.cells #[.slice A l.length c] 54)
  rw [World.size_alloc] at b1
  obtain ⟨w1, hw1⟩ : ∃ w1, w1 = (w.alloc (.cells #[.pointer (some ⟨a, 0, none⟩)] 59)).alloc (.cells #[.slice A l.length c] 54) := ⟨_, rfl⟩
  have ho : Only NoB w w1 := by rw [hw1]; exact ((Only.refl NoB w).alloc _).alloc _
  rw [← hw1] at b0' b1
  have hnG : ∀ k, w.heap.size ≤ k → ¬ G k := fun k hk hg => by have := h.disk.1 k hg; omega
  have HC := Lib.hid (writes_any (w := w1) (G := G) (a := a) (b := b) (n := n) (m := m) (W := W) (pl := blockAt W.log l) (kf := 57) (first := #[]) (caps := #[.pointer (some ⟨w.heap.size, 0, none⟩), .pointer (some ⟨w.heap.size + 1, 0, none⟩)]) (fun k hk => Nat.lt_of_lt_of_le (h.disk.1 k hk) ho.size) (hl.only ho fun _ _ => id) hK (fun k hk => Nat.lt_of_lt_of_le (hKlt k hk) ho.size) (fun _ _ => rfl)
    (fun wr k hk ho2 => blocksOf1_any hk (ho2.cell (b0'.cell 0) (hnG _ (Nat.le_refl _))) (ho2.cell (b1.cell 0) (hnG _ (Nat.le_succ _))) ((hl.only ho fun _ _ => id).only ho2 hK) (ho2.cell (ho.cell (h.cell 1 _ rfl) id) h.off) hlog (hs _ (List.getElem_mem hk)).1 (hs _ (List.getElem_mem hk)).2))
  have x0 : w1.cell? ⟨w.heap.size, 0, none⟩ = some (.pointer (some ⟨a, 0, none⟩)) := b0'.cell 0
  have x1 : w1.cell? ⟨w.heap.size + 1, 0, none⟩ = some (.slice A l.length c) := b1.cell 0
  have HO := Lib.hid ho
  clear h hl hK hKlt b0 b1 b0' hnG ho x0 x1
  go_enter Try.func50, Try.ntmps50
  go_wp2_with fail
  rw [← hw1]
  clear hw1
  refine HC.out.mono ?_
  rintro e w2 ⟨f, rfl, ho, ha⟩
  have HO2 := Lib.hid (HO.out.trans ho)
  have HA := Lib.hid ha
  clear ho ha
  go_wp2_with fail
  go_ret
  exact ⟨f, rfl, HO2.out, HA.out⟩
end
end Go.Proofs.Ytllodjcfcjmocaa
