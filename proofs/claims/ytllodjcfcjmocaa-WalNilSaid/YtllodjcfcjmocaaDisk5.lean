import Derived.Test.YtllodjcfcjmocaaDisk4
import Derived.Deep.RegionLaw
/- THE DISK'S Write. -/
namespace Go.Proofs.Ytllodjcfcjmocaa
open Go.RowKit Go.Proofs
section
variable {R F : Nat → Prop} {b bm : Nat} {D : DD} {cv kv : Value} {xs : List Value} {f : Int → Option Value} {w w' : World}

theorem write_down (h : DiskIn w R b D bm cv kv xs f) (hd : D.down = true) (s : Int) (v : Value) : Calls Try.prog 10 #[.pointer (some ⟨b, 0, none⟩), .int .i64 s, v] w fun e w' => e = .returned (.int .i64 50) ∧ w = w' := by
  go_enter Try.func10, Try.ntmps10
  go_wp2_with fail
  refine (ready_down h hd).mono ?_
  rintro e w1 ⟨rfl, rfl⟩
  go_wp2_with fail
  go_ret
  exact ⟨rfl, rfl⟩
theorem write_nil (w : World) (s : Int) (v : Value) : Calls Try.prog 10 #[.pointer none, .int .i64 s, v] w fun e w' => e = .returned (.int .i64 3) ∧ w = w' := by
  go_enter Try.func10, Try.ntmps10
  go_wp2_with fail
  refine (ready_nil _).mono ?_
  rintro e w1 ⟨rfl, rfl⟩
  go_wp2_with fail
  go_ret
  exact ⟨rfl, rfl⟩

set_option maxHeartbeats 400000 in
theorem write_bad (h : DiskIn w R b D bm cv kv xs f) (hd : D.down = false) (s : Int) (A : Option Addr) (n c : Nat) (hm : (D.sector s && decide (n = D.m)) = false) :
    Calls Try.prog 10 #[.pointer (some ⟨b, 0, none⟩), .int .i64 s, .slice A n c] w fun e w' => e = .returned (.int .i64 1) ∧ w = w' := by
  have HR := Lib.hid (ready_up h hd)
  have h0 : w.cell? ⟨b, 0, none⟩ = some (.int .i64 D.n) := h.cell 0 _ rfl
  have h1 : w.cell? ⟨b, 1, none⟩ = some (.int .i64 D.m) := h.cell 1 _ rfl
  have hn2 := h.wf.n2
  have hm2 := h.wf.m2
  simp only [DD.sector, Bool.and_eq_false_iff, decide_eq_false_iff_not] at hm
  clear h hd
  by_cases hs0 : s < 0
  · clear hm
    go_enter Try.func10, Try.ntmps10
    go_wp2_with fail
    refine HR.out.mono ?_
    rintro e w1 ⟨rfl, rfl⟩
    go_wp2_with fail
    go_ret
    exact ⟨rfl, rfl⟩
  · have e1 : decide (s < 0) = false := by simpa using hs0
    by_cases hs1 : (D.n : Int) ≤ s
    · clear hm
      go_enter Try.func10, Try.ntmps10
      go_wp2_with fail
      refine HR.out.mono ?_
      rintro e w1 ⟨rfl, rfl⟩
      go_wp2_with fail
      all_goals (go_ret; exact ⟨rfl, rfl⟩)
    · have e2 : decide ((D.n : Int) ≤ s) = false := by simpa using hs1
      have hne : n ≠ D.m := by rcases hm with hm | hm <;> omega
      have e3 : ((n : Int) != (D.m : Int)) = true := by rw [bne_iff_ne]; omega
      clear hm hne
      go_enter Try.func10, Try.ntmps10
      go_wp2_with fail
      refine HR.out.mono ?_
      rintro e w1 ⟨rfl, rfl⟩
      go_wp2_with fail
      all_goals (go_ret; exact ⟨rfl, rfl⟩)

/-- What stands behind the cache's append. -/
structure Mid (w : World) (R : Nat → Prop) (b bm : Nat) (D : DD) (cv kv : Value) (cv' : Value) (w3 : World) : Prop where
  disk : ∃ R' xs f, DiskIn w3 R' b D bm cv' kv xs f ∧ ∀ k, R' k → R k ∨ News w w3 k
  only : Only (diskW b bm cv.ownBlock) w w3
  own : ∀ g, cv'.ownBlock = some g → cv.ownBlock = some g ∨ News w w3 g

theorem write_mid {w1 w2 : World} (h : DiskIn w R b D bm cv kv xs f) {s : Nat} {l : List UInt8} {v cv' : Value} (hs : s < D.n) (hl : l.length = D.m) (hcap : D.cache.length + 1 < 1000000000) (ho : Only NoB w.drew w1) (hr : Rd w1 (From w.drew.heap.size) 1 v l.length (l.map byteV))
    (ha : App (w1.alloc (Obj.cells #[.int .i64 (s : Int), v] 69)) (fun k => cv.ownBlock = some k) 69 2 cv D.cache.length 1 xs [.int .i64 (s : Int), v] cv' w2) :
    Mid w R b bm (DD.put s l D) cv kv cv' (w2.setCell ⟨b, 3, none⟩ cv') := by
  have ho' : Only NoB w w1 := (Only.refl NoB w).drew.trans ho
  have ho2 := ho'.alloc (Obj.cells #[.int .i64 (s : Int), v] 69)
  have h2 := (h.keep ho2.size fun k hk => ho2.block k (h.ltF k hk) id).more (News w w1) (fun k hk => ⟨by have := hk.2; simp; omega, News.far h hk.1⟩)
  have h3 := h2.put hs hl (v := v) (Rd.keep (Rd.news hr fun k hk => .inr hk) fun k hk hlt => Below.heap_alloc _ _ _ hlt) hcap ha (by
    rintro (hk | hk)
    · have := h.lt _ hk; have := ho2.size; omega
    · have := hk.2; simp at this; omega)
  have hsz : (w1.alloc (Obj.cells #[.int .i64 (s : Int), v] 69)).heap.size ≤ w2.heap.size := ha.only.size
  have hown : ∀ g, cv'.ownBlock = some g → cv.ownBlock = some g ∨ News w (w2.setCell ⟨b, 3, none⟩ cv') g := by
    intro g hg
    rcases ha.lies with h4 | h4
    · exact .inl (h4 ▸ hg)
    · rw [h4] at hg
      injection hg with hg
      subst hg
      refine .inr ⟨by have := ho2.size; omega, ?_⟩
      have := ha.own.lt h4
      simpa using this
  refine ⟨⟨_, _, _, h3, fun k hk => hk.imp id fun hk => ⟨hk.1, ?_⟩⟩, ?_, hown⟩
  · have := hk.2; simp at hsz ⊢; omega
  · exact ((ho2.mono fun _ _ hk => hk.elim).trans (ha.only.mono fun k _ hk => .inr (.inr hk))).setCell (.inl (.inl rfl)) _

theorem Mid.deed {w3 w4 : World} {D' : DD} {cv' v : Value} {e : Ending} (hs : ∀ k, F k → k < w.heap.size) (hF : ∀ k, diskF R b bm cv k → F k) (hm : Mid w R b bm D cv kv cv' w3)
    {R' : Nat → Prop} (hR' : ∀ k, R' k → R k ∨ News w w3 k) (hd : DeedIn w3 R' b bm cv'.ownBlock kv v D' e w4) : Deed w F b v D' e w4 := by
  obtain ⟨rfl, cv4, xs4, f4, h4, hown, ho⟩ := hd
  have hn : ∀ k, News w w3 k → News w w4 k := fun k hk => ⟨hk.1, Nat.lt_of_lt_of_le hk.2 ho.size⟩
  refine Deed.of hs hF h4 (hm.only.trans' ho fun i hi hk => ?_) (fun k hk => (hR' k hk).imp id (hn k)) (fun g hg => (hm.own g (hown ▸ hg)).imp id (hn g))
  rcases hk with hk | hk | hk
  · exact .inl hk
  · exact .inr (.inl hk)
  · rcases hm.own i hk with hk | hk
    · exact .inr (.inr hk)
    · have := hk.1; omega

set_option maxHeartbeats 1000000 in
theorem write_put (h : DiskIn w R b D bm cv kv xs f) (hs : ∀ k, F k → k < w.heap.size) (hF : ∀ k, diskF R b bm cv k → F k) (hd : D.down = false) (s : Nat) (K : Nat → Prop) (v : Value) (l : List UInt8) (hv : Bytes w K v l) (hsn : s < D.n) (hl : l.length = D.m)
    (hcap : D.cache.length + 1 < 1000000000) (hkl : D.keep.length < 1000000000) (hdd : D.deeds + 1 < 1000000000) :
    Calls Try.prog 10 #[.pointer (some ⟨b, 0, none⟩), .int .i64 s, v] w (Deed w F b (.int .i64 (DD.deed (DD.put s l D)).2) (DD.deed (DD.put s l D)).1) := by
  have HR := Lib.hid (ready_up h hd)
  have h0 : w.cell? ⟨b, 0, none⟩ = some (.int .i64 D.n) := h.cell 0 _ rfl
  have h1 : w.cell? ⟨b, 1, none⟩ = some (.int .i64 D.m) := h.cell 1 _ rfl
  have h3 : w.cell? ⟨b, 3, none⟩ = some cv := h.cell 3 _ rfl
  have hn2 := h.wf.n2
  have hm2 := h.wf.m2
  have HCl := Lib.hid (clone_byte (w := w.drew) K v l.length (l.map byteV) (Rd.keep hv fun _ _ _ => rfl) (oneCell_bytes l) (by omega))
  obtain ⟨A, c, rfl, _⟩ := id hv
  obtain ⟨cA, cc, rfl, _⟩ := Own.shape (F := fun _ => True) ⟨h.own, fun _ _ => trivial⟩
  have hsi : (s : Int) < (D.n : Int) := by omega
  have HL := Lib.hid hl
  have e3 : ((l.length : Int) != (D.m : Int)) = false := by rw [bne_eq_false_iff_eq]; omega
  have H := Lib.hid h
  have HD := Lib.hid hd
  have HS := Lib.hid hs
  have HF := Lib.hid hF
  clear h hd hs hF hv hl
  go_enter Try.func10, Try.ntmps10
  go_wp2_with fail
  refine HR.out.mono ?_
  rintro e w1 ⟨rfl, rfl⟩
  go_wp2_with fail
  go_region_law
    (first
      | (refine step_app (by rfl) _ _ _ (by rfl) (by kernel_rfl) Ty.change (by rfl) (by rfl) (v := .slice cA D.cache.length cc) (F := fun k => (Value.slice cA D.cache.length cc).ownBlock = some k) (xs := xs) (n := D.cache.length) (m := 1) (sv := .slice (some ⟨w1.heap.size, 0, none⟩) 1 1) (news := [.int .i64 (s : Int), .slice vA l.length vc]) (own_of H.out.own (((Only.refl NoB w).drew.trans ho).alloc _) fun _ _ => id) (rd_new w1 69 2 1 [.int .i64 (s : Int), .slice vA l.length vc] rfl) (by simp [Value.oneCell']) (by omega) ?_; intro cv' w2 ha; obtain ⟨A2, c2, rfl, _⟩ := id ha.shape; have hb2 := (H.out.blk.only (((Only.refl NoB w).drew.trans ho).alloc (Obj.cells #[.int .i64 (s : Int), .slice vA l.length vc] 69)) id).only ha.only H.out.cv_ne; have c3 : w2.cell? ⟨b, 3, none⟩ = some (.slice cA D.cache.length cc) := (hb2.cell 3).trans rfl; have f3 := hb2.frozen 3)
      | (refine step_go (by rfl) 37 _ _ (by rfl) _ (by rfl) (fun _ => rfl) HCl.out (fun _ _ h => ⟨_, h.choose_spec.1⟩) ?_; rintro vv w1 ⟨v', he, hr, ho, _, hlo⟩; cases he; obtain ⟨vA, vc, rfl, _⟩ := id hr; have c1 : w1.cell? ⟨b, 3, none⟩ = some (.slice cA D.cache.length cc) := ho.cell h3 id; have c1' : (w1.alloc (Obj.cells #[.int .i64 (s : Int), .slice vA l.length vc] 69)).cell? ⟨b, 3, none⟩ = some (.slice cA D.cache.length cc) := (World.cell?_alloc_lt _ _ _ (World.block_lt_of_cell? _ _ c1)).trans c1))
  all_goals
    have hm := write_mid H.out hsn HL.out hcap ho hr ha
    obtain ⟨R', xs', f', h3', hR'⟩ := id hm.disk
    have HDd := Lib.hid (deed_in h3' hkl hdd)
    have HM := Lib.hid hm
    have HR' := Lib.hid hR'
    clear hm h3' hR' ha hb2 c3 f3 c1 c1' hr hlo ho
    go_wp2_with fail
    refine HDd.out.mono ?_
    rintro e w4 hd
    have hd' := HM.out.deed HS.out HF.out HR'.out hd
    obtain ⟨rfl, hd''⟩ := id hd'
    have HE := Lib.hid hd'
    clear hd hd' hd''
    go_wp2_with fail
    go_ret
    exact HE.out
end
end Go.Proofs.Ytllodjcfcjmocaa
