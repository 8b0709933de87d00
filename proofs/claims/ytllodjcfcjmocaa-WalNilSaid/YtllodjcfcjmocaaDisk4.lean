import Derived.Test.YtllodjcfcjmocaaDisk3
/- THE DISK'S Arm, Write. -/
namespace Go.Proofs.Ytllodjcfcjmocaa
open Go.RowKit Go.Proofs
section
variable {R F : Nat → Prop} {b bm : Nat} {D : DD} {cv kv : Value} {xs : List Value} {f : Int → Option Value} {w w' : World}

/-- More blocks that are only read. -/
theorem DiskIn.more (h : DiskIn w R b D bm cv kv xs f) (N : Nat → Prop) (hN : ∀ k, N k → k < w.heap.size ∧ k ≠ b ∧ k ≠ bm ∧ cv.ownBlock ≠ some k) : DiskIn w (fun k => R k ∨ N k) b D bm cv kv xs f :=
  ⟨h.wf, fun hk => hk.elim h.rb (fun hk => (hN _ hk).2.1 rfl), fun hk => hk.elim h.rm (fun hk => (hN _ hk).2.2.1 rfl), fun g hg hk => hk.elim (h.rc g hg) (fun hk => (hN _ hk).2.2.2 hg), fun k hk => hk.elim (h.lt k) (fun hk => (hN _ hk).1),
    h.blk, h.own, h.cache.mono fun _ hk _ => .inl hk, h.map, h.done.mono fun _ hk _ => .inl hk, Rd.mono h.kept fun _ hk _ => .inl hk, h.left, h.cap, h.deeds⟩

/-- Other truths are kept. -/
theorem DiskIn.armed (h : DiskIn w R b D bm cv kv xs f) {kv' : Value} {l : List Bool} (hk : Bools w R kv' l) : DiskIn (w.setCell ⟨b, 6, none⟩ kv') R b { D with keep := l } bm cv kv' xs f := by
  have hne : ∀ k, k ≠ b → (w.setCell ⟨b, 6, none⟩ kv').heap[k]? = w.heap[k]? := fun k hk => Below.heap_setCell w _ _ k hk
  have hR : ∀ k, R k → k < w.heap.size → (w.setCell ⟨b, 6, none⟩ kv').heap[k]? = w.heap[k]? := fun k hk _ => hne k (fun e => h.rb (e ▸ hk))
  exact ⟨⟨h.wf.n1, h.wf.n2, h.wf.m1, h.wf.m2, h.wf.done, h.wf.cache⟩, h.rb, h.rm, h.rc, fun k hk => by rw [World.size_setCell]; exact h.lt k hk, h.blk.set_ 6 kv', ownsRow_keep h.own fun k hk => hne k (fun e => h.cv_ne (e ▸ hk)), h.cache.keep hR, h.map.keep (hne bm h.bm_ne), h.done.keep hR, Rd.keep hk hR, h.left, h.cap, h.deeds⟩

/-- New blocks. -/
def News (w w' : World) : Nat → Prop := fun k => w.heap.size ≤ k ∧ k < w'.heap.size

theorem News.far (h : DiskIn w R b D bm cv kv xs f) {k : Nat} (hk : w.heap.size ≤ k) : k ≠ b ∧ k ≠ bm ∧ cv.ownBlock ≠ some k :=
  ⟨fun e => by have := h.blk.lt; omega, fun e => by have := h.map.lt; omega, fun e => by have := (h.own.lt k e).2; omega⟩

theorem Rd.news {G : Nat → Prop} {size n : Nat} {v : Value} {ys : List Value} (h : Rd w' (From w.heap.size) size v n ys) (hG : ∀ k, News w w' k → G k) : Rd w' G size v n ys :=
  h.mono fun k hk hlt => hG k ⟨hk, hlt⟩

theorem Deed.of {R' : Nat → Prop} {cv' kv' v : Value} {xs' : List Value} {f' : Int → Option Value} {D' : DD} (hs : ∀ k, F k → k < w.heap.size) (hF : ∀ k, diskF R b bm cv k → F k) (h : DiskIn w' R' b D' bm cv' kv' xs' f')
    (ho : Only (diskW b bm cv.ownBlock) w w') (hR : ∀ k, R' k → R k ∨ News w w' k) (hc : ∀ g, cv'.ownBlock = some g → cv.ownBlock = some g ∨ News w w' g) : Deed w F b v D' (.returned v) w' := by
  refine ⟨rfl, fun k => F k ∨ News w w' k, ⟨fun k hk => hk.elim (fun hk => Nat.lt_of_lt_of_le (hs k hk) ho.size) (·.2), R', bm, cv', kv', xs', f', h, fun k hk => ?_⟩, ho.mono fun k _ hk => hF k (diskW_F hk), fun k hk => hk.imp id (·.1)⟩
  rcases hk with hk | hk | hk | hk
  · exact (hR k hk).imp (fun hk => hF k (.inl hk)) id
  · exact .inl (hF k (.inr (.inl hk)))
  · exact .inl (hF k (.inr (.inr (.inl hk))))
  · exact (hc k hk).imp (fun hk => hF k (.inr (.inr (.inr hk)))) id

theorem arm_nil (w : World) (n : Int) (A : Option Addr) (m c : Nat) : Calls Try.prog 17 #[.pointer none, .int .i64 n, .slice A m c] w fun e w' => e = .returned (.tuple #[]) ∧ w = w' := by
  go_enter Try.func17, Try.ntmps17
  go_wp2_with fail
  go_end0
  exact ⟨rfl, rfl⟩

set_option maxHeartbeats 400000 in
theorem arm_any (h : DiskAt w F b D) (n : Int) (hn : n < 9223372036854775808) (K : Nat → Prop) (kvv : Value) (l : List Bool) (hl : Bools w K kvv l) (hll : l.length ≤ 1000000000) :
    Calls Try.prog 17 #[.pointer (some ⟨b, 0, none⟩), .int .i64 n, kvv] w (Deed w F b (.tuple #[]) (DD.arm n l D)) := by
  obtain ⟨hs, R, bm, cv, kv, xs, f, h, hF⟩ := h
  have HCl := Lib.hid (clone_bool K kvv l.length (l.map boolV) hl (oneCell_bools l) hll)
  have H := Lib.hid h
  obtain ⟨A, c, rfl, _⟩ := id hl
  have HS := Lib.hid hs
  have HF := Lib.hid hF
  have hmax : (if n ≤ 0 then (0 : Int) else n) = (n.toNat : Int) := by split <;> omega
  clear h hl hs hF
  go_enter Try.func17, Try.ntmps17
  go_wp2_with fail
  all_goals
    refine HCl.out.mono ?_
    rintro e w1 ⟨v', rfl, hr, ho, _, _⟩
    obtain ⟨A', c', rfl, _⟩ := id hr
    have h1 := H.out.keep ho.size fun k hk => ho.block k (H.out.ltF k hk) id
    have h5 : w1.cell? ⟨b, 5, none⟩ = some (.int .i64 D.left) := h1.cell 5 _ rfl
    have h6 : w1.cell? ⟨b, 6, none⟩ = some kv := h1.cell 6 _ rfl
    have f5 := h1.frozen 5
    have f6 := h1.frozen 6
    have h2 := Lib.hid (h1.more (News w w1) fun k hk => ⟨hk.2, News.far H.out hk.1⟩)
    have HO := Lib.hid ho
    have HR := Lib.hid hr
    clear ho hr h1
    go_wp2_with fail
    go_end0
    have hi : ∀ m : Int, m = (n.toNat : Int) → DiskIn (w1.setCell ⟨b, 5, none⟩ (.int .i64 m)) (fun k => R k ∨ News w w1 k) b { D with left := n.toNat } bm cv kv xs f := fun m hm =>
      h2.out.turn 5 (.int .i64 m) { D with left := n.toNat } (by subst hm; rfl) rfl rfl rfl rfl rfl (by simp; omega) h2.out.deeds
    refine Deed.of HS.out HF.out ((hi _ (by omega)).armed (l := l) ?_) (((HO.out.mono fun _ _ hk => hk.elim).setCell (.inl (.inl rfl)) _).setCell (.inl (.inl rfl)) _) (fun k hk => hk.imp id fun hk => ⟨hk.1, by simpa using hk.2⟩) (fun g hg => .inl hg)
    refine Rd.keep (Rd.news HR.out fun k hk => .inr hk) fun k hk hlt => Below.heap_setCell _ _ _ _ ?_
    rcases hk with hk | hk
    · exact fun (e : k = b) => H.out.rb (e ▸ hk)
    · exact fun (e : k = b) => by have := H.out.blk.lt; have := hk.1; omega

/-! ## Write -/
theorem DiskIn.put (h : DiskIn w R b D bm cv kv xs f) {s : Nat} {l : List UInt8} {v cv' : Value} (hs : s < D.n) (hll : l.length = D.m) (hv : Bytes w R v l) (hcap : D.cache.length + 1 < 1000000000)
    (ha : App w (fun k => cv.ownBlock = some k) 69 2 cv D.cache.length 1 xs [.int .i64 (s : Int), v] cv' w') (hN : ¬ R w.heap.size) :
    DiskIn (w'.setCell ⟨b, 3, none⟩ cv') R b (DD.put s l D) bm cv' kv (xs ++ [.int .i64 (s : Int), v]) f := by
  have ho := ha.only
  have hR : ∀ k, R k → k < w.heap.size → w'.heap[k]? = w.heap[k]? := fun k hk hlt => ho.block k hlt (fun e => h.rc k e hk)
  have hne : ∀ k, k ≠ b → (w'.setCell ⟨b, 3, none⟩ cv').heap[k]? = w'.heap[k]? := fun k hk => Below.heap_setCell w' _ _ k hk
  have hR' : ∀ k, R k → k < w.heap.size → (w'.setCell ⟨b, 3, none⟩ cv').heap[k]? = w.heap[k]? := fun k hk hlt => (hne k (fun e => h.rb (e ▸ hk))).trans (hR k hk hlt)
  have hb2 := h.blk.only ho h.cv_ne
  have hcvb : ∀ g, cv'.ownBlock = some g → g ≠ b ∧ ¬ R g := by
    intro g hg
    rcases ha.own.2 g hg with hg | rfl
    · exact ⟨fun e => h.cv_ne (e ▸ hg), h.rc g hg⟩
    · exact ⟨fun e => by have := h.blk.lt; omega, hN⟩
  refine ⟨h.wf.put hs hll, h.rb, h.rm, fun g hg => (hcvb g hg).2, fun k hk => by rw [World.size_setCell]; exact Nat.lt_of_lt_of_le (h.lt k hk) ho.size, hb2.set_ 3 cv', ?_, ?_, h.map.keep ((hne bm h.bm_ne).trans (ho.block bm h.map.lt h.cv_nm)), h.done.keep hR', Rd.keep h.kept hR', h.left, by simp [DD.put]; omega, h.deeds⟩
  · have : (DD.put s l D).cache.length = D.cache.length + 1 := by simp [DD.put]
    rw [this]
    exact ownsRow_keep ha.own.1 fun k hk => hne k (hcvb k hk).1
  · exact (h.cache.keep hR').snoc (Rd.keep hv hR')
end
end Go.Proofs.Ytllodjcfcjmocaa
