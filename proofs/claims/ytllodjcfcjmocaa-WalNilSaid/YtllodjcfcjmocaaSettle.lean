import Derived.Test.YtllodjcfcjmocaaDiskAt
/- THE DISK'S settle: some of the cache's writes are done, and it is forgotten. -/
namespace Go.Proofs.Ytllodjcfcjmocaa
open Go.RowKit Go.Proofs

theorem Ty.change : Elt Try.prog 69 (.agg #[.int .i64 0, .slice none 0 0]) 2 32 := ⟨by kernel_rfl, rfl, by omega, by omega⟩
theorem Ty.change_zero (w : World) : (zeroValue 69).run Try.prog w = .ok (.agg #[.int .i64 0, .slice none 0 0]) w := by kernel_rfl
theorem Ty.byte : Elt Try.prog 5 (.int .u8 0) 1 1 := ⟨by kernel_rfl, rfl, by omega, by omega⟩
theorem Ty.byteSize : (Try.prog.info? 5).map (·.size) = some 1 := by kernel_rfl
theorem Ty.bytesU : Try.prog.underlying 28 = some (.slice 5) := by kernel_rfl
theorem Ty.bool : Elt Try.prog 4 (.bool false) 1 1 := ⟨by kernel_rfl, rfl, by omega, by omega⟩

section
variable {w w' w2 : World} {F G R : Nat → Prop} {b bm : Nat} {D : DD} {cv kv : Value} {xs : List Value} {f : Int → Option Value}
/-- A sector's write is done: the map alone is turned. -/
theorem DiskIn.stored (h : DiskIn w R b D bm cv kv xs f) {s : Nat} {l : List UInt8} {v : Value} (hl : l.length = D.m) (hv : Bytes w R v l) (hm : IMap w2 bm (upd f s v)) (ho : Only (fun k => k = bm) w w2) :
    DiskIn w2 R b { D with done := DD.setS D.done s l } bm cv kv xs (upd f s v) := by
  have hR : ∀ k, R k → k < w.heap.size → w2.heap[k]? = w.heap[k]? := fun k hk hlt => ho.block k hlt (fun e => h.rm (e ▸ hk))
  refine ⟨⟨h.wf.n1, h.wf.n2, h.wf.m1, h.wf.m2, fun i => ?_, h.wf.cache⟩, h.rb, h.rm, h.rc, fun k hk => Nat.lt_of_lt_of_le (h.lt k hk) ho.size, h.blk.only ho (fun e => h.bm_ne e.symm), ownsRow_keep h.own fun k hk => ho.block k (h.own.lt k hk).2 (fun e => h.cv_nm (e ▸ hk)), h.cache.keep hR, hm, ?_, Rd.keep h.kept hR, h.left, h.cap, h.deeds⟩
  · unfold DD.setS; simp only; split
    · exact hl
    · exact h.wf.done i
  · intro i hi
    have hd := h.done.keep hR i hi
    by_cases his : i = s
    · subst his
      simp only [upd, if_true, DD.setS]
      exact Rd.keep hv hR
    · have : ((i : Int) = (s : Int)) = False := by simp; omega
      simp only [upd, this, if_false, DD.setS, his]
      exact hd

/-- The cache is forgotten. -/
theorem DiskIn.forgot (h : DiskIn w R b D bm cv kv xs f) (ho : Only (fun k => cv.ownBlock = some k) w w2) {cv' : Value} (hc : w2.ownsRow 0 69 2 cv' 0 []) (hcv : cv'.ownBlock = cv.ownBlock) :
    DiskIn (w2.setCell ⟨b, 3, none⟩ cv') R b { D with cache := [] } bm cv' kv [] f := by
  have hR : ∀ k, R k → k < w.heap.size → w2.heap[k]? = w.heap[k]? := fun k hk hlt => ho.block k hlt (fun e => h.rc k e hk)
  have hne : ∀ k, k ≠ b → (w2.setCell ⟨b, 3, none⟩ cv').heap[k]? = w2.heap[k]? := fun k hk => Below.heap_setCell w2 _ _ k hk
  have hR' : ∀ k, R k → k < w.heap.size → (w2.setCell ⟨b, 3, none⟩ cv').heap[k]? = w.heap[k]? := fun k hk hlt => (hne k (fun e => h.rb (e ▸ hk))).trans (hR k hk hlt)
  have hb2 := h.blk.only ho h.cv_ne
  refine ⟨⟨h.wf.n1, h.wf.n2, h.wf.m1, h.wf.m2, h.wf.done, fun c hc => by cases hc⟩, h.rb, h.rm, fun g hg => h.rc g (hcv ▸ hg), fun k hk => by rw [World.size_setCell]; exact Nat.lt_of_lt_of_le (h.lt k hk) ho.size, hb2.set_ 3 cv', ?_, trivial, h.map.keep ((hne bm h.bm_ne).trans (ho.block bm h.map.lt h.cv_nm)), h.done.keep hR', Rd.keep h.kept hR', h.left, by simp, h.deeds⟩
  exact ownsRow_keep hc fun k hk => hne k (fun e => h.cv_ne (e ▸ hcv ▸ hk))
end

/-- The blocks that the disk's operations write into. -/
def diskW (b bm : Nat) (own : Option Nat) : Nat → Prop := fun k => k = b ∨ k = bm ∨ own = some k

/-- What holds ahead of the round k. -/
def SettleInv (W : World) (is : Nat → Bool) (R : Nat → Prop) (b bm : Nat) (D : DD) (cv kv : Value) (xs : List Value) (k : Nat) (w : World) : Prop :=
  ∃ f, DiskIn w R b { D with done := DD.applyC is 0 (D.cache.take k) D.done } bm cv kv xs f ∧ Only (diskW b bm cv.ownBlock) W w

theorem apply_take (is : Nat → Bool) (D : DD) {k : Nat} (hk : k < D.cache.length) :
    DD.applyC is 0 (D.cache.take (k + 1)) D.done = if is k then DD.setS (DD.applyC is 0 (D.cache.take k) D.done) D.cache[k].1 D.cache[k].2 else DD.applyC is 0 (D.cache.take k) D.done := by
  rw [List.take_succ_eq_append_getElem hk, DD.applyC_snoc, List.length_take]
  have : 0 + min k D.cache.length = k := by omega
  rw [this]

/-- What settle answers. -/
def Settled (W : World) (is : Nat → Bool) (R : Nat → Prop) (b bm : Nat) (D : DD) (kv : Value) (own : Option Nat) (e : Ending) (w : World) : Prop :=
  e = .returned (.tuple #[]) ∧ ∃ cv f, DiskIn w R b (DD.settle is D) bm cv kv [] f ∧ cv.ownBlock = own ∧ Only (diskW b bm own) W w

set_option maxHeartbeats 1000000 in
theorem settle_any (b bm : Nat) (R : Nat → Prop) (D : DD) (cv kv : Value) (kf : Nat) (cap : Array Value) (is : Nat → Bool) (xs : List Value) (f) (w : World) (h : DiskIn w R b D bm cv kv xs f)
    (hcf : ∀ (args : Array Value) (w1 : World), (callFunc kf args).run Try.prog w1 = .ok (.enter kf args) w1)
    (hIs : ∀ (i : Nat) w1, i < D.cache.length → Only (diskW b bm cv.ownBlock) w w1 → Calls Try.prog kf (#[.int .i64 i] ++ cap) w1 (fun e w' => e = .returned (.bool (is i)) ∧ w1 = w')) :
    Calls Try.prog 39 #[.pointer (some ⟨b, 0, none⟩), .func (.func kf) #[] cap] w (Settled w is R b bm D kv cv.ownBlock) := by
  obtain ⟨A, c, hcv, hc⟩ : ∃ A c, cv = .slice A D.cache.length c ∧ D.cache.length ≤ c := Own.shape (F := fun _ => True) ⟨h.own, fun _ _ => trivial⟩
  subst hcv
  have h3 : w.cell? ⟨b, 3, none⟩ = some (.slice A D.cache.length c) := h.cell 3 _ rfl
  have hcap := h.cap
  have HI := Lib.hid hIs; clear hIs
  go_enter Try.func39, Try.ntmps39
  go_wp2
  go_loopw [11] (fun i wr => ∃ k : Nat, k ≤ D.cache.length ∧ i = .int .i64 k ∧ SettleInv w is R b bm D (.slice A D.cache.length c) kv xs k wr) (fun i _ => D.cache.length - (intOf i).toNat)
  case atStart => exact ⟨0, Nat.zero_le _, rfl, f, h, Only.refl _ _⟩
  case round =>
    obtain ⟨k, hk, rfl, f1, h1, ho⟩ := hrel
    clear h3
    by_cases hlt : k < D.cache.length
    · obtain ⟨x1, v, x2, x3⟩ := h1.cache.at_ (i := k) (c := D.cache[k]) (List.getElem?_eq_getElem hlt)
      obtain ⟨g, rfl, hcell⟩ : ∃ g, A = some ⟨g, 0, none⟩ ∧ ∀ j u, xs[j]? = some u → wr.cell? ⟨g, j, none⟩ = some u := by
        rcases h1.own.2 with ⟨h0, h0'⟩ | ⟨g, cap, cur, he, _, _⟩
        · have : D.cache.length = 0 := h0'
          omega
        · injection he with he
          subst he
          exact ⟨g, rfl, fun j u hu => by have := h1.own.cells (g := g) rfl j u hu; rwa [Addr.add_lit, Nat.zero_add] at this⟩
      have c1 := hcell _ _ x1
      have c2 := hcell _ _ x2
      clear hcell
      obtain ⟨A1, cc1, rfl, _⟩ := id x3
      have H3 := Lib.hid x3; clear x3
      clear x1 x2
      have HL := Lib.hid (h1.wf.cache D.cache[k] (List.getElem_mem hlt))
      have HT := Lib.hid (apply_take is D hlt)
      have hm0 : IMap ((wr.alloc (Obj.cells #[Value.int .i64 (D.cache[k].fst : Int), Value.slice A1 D.cache[k].snd.length cc1] 69)).drew) bm f1 := h1.map.keep (Below.heap_alloc _ _ _ h1.map.lt)
      obtain ⟨w2, hup, hm2, ho2⟩ := hm0.update (P := Try.prog) (t := 64) (kt := 3) (e := 28) (by kernel_rfl) (by kernel_rfl) (D.cache[k].fst : Int) (Value.slice A1 D.cache[k].snd.length cc1)
      have h2 : (wr.alloc (Obj.cells #[Value.int .i64 (D.cache[k].fst : Int), Value.slice A1 D.cache[k].snd.length cc1] 69)).cell? ⟨b, 2, none⟩ = some (.map (some bm)) := (World.cell?_alloc_lt _ _ _ h1.blk.lt).trans (h1.cell 2 _ rfl)
      have h1' := h1.keep (w' := (wr.alloc (Obj.cells #[Value.int .i64 (D.cache[k].fst : Int), Value.slice A1 D.cache[k].snd.length cc1] 69))) (by simp) (fun q hq => Below.heap_alloc _ _ _ (h1.ltF q hq))
      have H1 := Lib.hid h1'
      have HO := Lib.hid ho
      have HO2 := Lib.hid ho2
      have HM2 := Lib.hid hm2
      clear hm0 ho2 hm2 h1'
      go_wp2_with fail
      refine (HI.out k _ hlt (ho.alloc _)).mono ?_
      rintro e w1 ⟨rfl, rfl⟩
      clear ho h1
      cases hb : is k
      · have HB := Lib.hid hb; clear hb
        go_wp2_with fail
        refine ⟨⟨k + 1, by omega, by go_num, f1, ?_, HO.out.alloc _⟩, by simp [intOf]; omega⟩
        rw [HT.out, HB.out]
        simp only [Bool.false_eq_true, if_false]
        exact H1.out
      · have HB := Lib.hid hb; clear hb
        go_wp2_with fail
        go_region
        all_goals go_wp2_with fail
        all_goals
          refine ⟨⟨k + 1, by omega, by go_num, upd f1 D.cache[k].fst (Value.slice A1 D.cache[k].snd.length cc1), ?_, ?_⟩, by simp [intOf]; omega⟩
          · rw [HT.out, HB.out]
            simp only [if_true]
            exact H1.out.drew.stored HL.out.2 (Rd.keep H3.out (fun q hq hlt' => Below.heap_alloc _ _ _ hlt')) HM2.out HO2.out
          · exact ((HO.out.alloc _).drew).trans (HO2.out.mono fun q _ hq => .inr (.inl hq))
    · obtain rfl : k = D.cache.length := by omega
      rw [List.take_length] at h1
      have h3 : wr.cell? ⟨b, 3, none⟩ = some (.slice A D.cache.length c) := h1.cell 3 _ rfl
      obtain ⟨w2, hcl, hown2, ho2⟩ := run_clear_row (P := Try.prog) (t := 54) (ty := 0) (F := fun _ => True) (by kernel_rfl) Ty.change (by decide) ⟨h1.own, fun _ _ => trivial⟩ (Ty.change_zero wr)
      have hb2 := h1.blk.only ho2 h1.cv_ne
      have h3' : w2.cell? ⟨b, 3, none⟩ = some (.slice A D.cache.length c) := by rw [hb2.cell]; rfl
      have f3 : w2.frozen? ⟨b, 3, none⟩ = false := hb2.frozen 3
      have HZ := Lib.hid hown2
      have H1 := Lib.hid h1
      have HO := Lib.hid ho
      have HO2 := Lib.hid ho2
      clear hown2 h1 ho ho2 hb2
      go_wp2_with fail
      go_end0
      refine ⟨rfl, .slice A 0 c, f1, H1.out.forgot (w2 := w2) HO2.out (cv' := .slice A 0 c) ?_ (by cases A <;> rfl), by cases A <;> rfl, ?_⟩
      · rcases HZ.out.1.2 with ⟨h0, _⟩ | ⟨g, cap', cur, he, _, hg, _, hcm, hcs, _⟩
        · injection h0 with h0 h0' h0''
          subst h0; subst h0''
          exact World.ownsRow_nil _ _ _ _
        · injection he with h0 h0' h0''
          subst h0; subst h0''
          exact ⟨by simp, .inr ⟨g, _, cur, rfl, Nat.zero_le _, hg, Nat.zero_le _, hcm, hcs, by simp⟩⟩
      · exact ((HO.out.trans (HO2.out.mono fun q _ hq => .inr (.inr hq)))).setCell (p := ⟨b, 3, none⟩) (.inl (.inl rfl)) _
end Go.Proofs.Ytllodjcfcjmocaa
