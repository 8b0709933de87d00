import Derived.Test.YtllodjcfcjmocaaBackw
import Derived.Test.YtllodjcfcjmocaaDisk5
/- THE DISK'S Read. -/
namespace Go.Proofs.Ytllodjcfcjmocaa
open Go.RowKit Go.Proofs Go.Shelf
attribute [local go_sem] Oper.semAt_some
section
variable {R F : Nat → Prop} {b bm : Nat} {D : DD} {cv kv : Value} {xs : List Value} {f : Int → Option Value} {w w' : World}

/-- What Read answers: the bytes l (in new memory), the error e. -/
def ReadOut (w : World) (l : List UInt8) (er : Int) (e : Ending) (w' : World) : Prop :=
  ∃ v, e = .returned (.tuple #[v, .int .i64 er]) ∧ Bytes w' (From w.heap.size) v l ∧ Only NoB w w'

/-- The same, and the new memory isn't frozen. -/
def ReadOut2 (w : World) (l : List UInt8) (er : Int) (e : Ending) (w' : World) : Prop :=
  ∃ v, e = .returned (.tuple #[v, .int .i64 er]) ∧ Bytes w' (Fresh w w') v l ∧ Only NoB w w'
theorem ReadOut2.out {w : World} {l : List UInt8} {er : Int} {e : Ending} {w' : World} (h : ReadOut2 w l er e w') : ReadOut w l er e w' := by
  obtain ⟨v, he, hb, ho⟩ := h
  exact ⟨v, he, hb.mono fun k hk _ => hk.1, ho⟩
theorem Soft.grown {w w' : World} {k : Nat} (h : Soft w k) {row : Option Nat} (hg : w.grownBy w' row) (hr : ∀ r, row = some r → ∃ o : Obj, w.heap[r]? = some o ∧ o.isCells = false) : Soft w' k := by
  obtain ⟨cs, t, h⟩ := h
  refine ⟨cs, t, (hg.block k (Array.getElem?_eq_some_iff.1 h).1 fun e => ?_).trans h⟩
  obtain ⟨o, ho, hc⟩ := hr k e.symm
  rw [h] at ho; injection ho with ho; subst ho; cases hc
theorem Soft.keep {w w' : World} {k : Nat} (h : Soft w k) (hk : w'.heap[k]? = w.heap[k]?) : Soft w' k := by
  obtain ⟨cs, t, h⟩ := h
  exact ⟨cs, t, hk.trans h⟩

/-- The world behind Read's own variables. -/
def readW (w : World) (s : Int) : World := ((w.alloc (.cells #[.int .i64 s] 3)).alloc (.cells #[.slice none 0 0] 28)).alloc (.cells #[.int .i64 0] 25)
theorem readW_heap (w : World) (s : Int) {k : Nat} (hk : k < w.heap.size) : (readW w s).heap[k]? = w.heap[k]? := by
  unfold readW
  rw [Below.heap_alloc _ _ _ (by simp; omega), Below.heap_alloc _ _ _ (by simp; omega), Below.heap_alloc _ _ _ hk]
theorem readW_size (w : World) (s : Int) : (readW w s).heap.size = w.heap.size + 3 := by simp [readW]
theorem readW_only (w : World) (s : Int) : Only NoB w (readW w s) := (((Only.refl NoB w).alloc _).alloc _).alloc _
theorem DiskIn.readW (h : DiskIn w R b D bm cv kv xs f) (s : Int) : DiskIn (readW w s) R b D bm cv kv xs f :=
  h.keep (by rw [readW_size]; omega) fun k hk => readW_heap w s (h.ltF k hk)

set_option maxHeartbeats 400000 in
theorem read_down (h : DiskIn w R b D bm cv kv xs f) (hd : D.down = true) (s : Int) : Calls Try.prog 15 #[.pointer (some ⟨b, 0, none⟩), .int .i64 s] w (ReadOut2 w [] 50) := by
  have HR := Lib.hid (ready_down (h.readW s) hd)
  clear h
  go_enter Try.func15, Try.ntmps15
  go_wp2_with fail
  refine HR.out.mono ?_
  rintro e w1 ⟨rfl, rfl⟩
  unfold readW
  go_wp2_with fail
  refine bodyPost_ret (v := .tuple #[.slice none 0 0, .int .i64 50]) (by simp [results, Try.f15, go_sem]) rfl ⟨_, rfl, Rd.nil _ _ _, ?_⟩
  exact ((((Only.refl NoB w).alloc _).alloc _).alloc _)

set_option maxHeartbeats 400000 in
theorem read_bad (h : DiskIn w R b D bm cv kv xs f) (hd : D.down = false) (s : Int) (hs : D.sector s = false) : Calls Try.prog 15 #[.pointer (some ⟨b, 0, none⟩), .int .i64 s] w (ReadOut2 w [] 1) := by
  have HR := Lib.hid (ready_up (h.readW s) hd)
  have hn : (readW w s).cell? ⟨b, 0, none⟩ = some (.int .i64 D.n) := (h.readW s).cell 0 _ rfl
  unfold readW at hn
  clear h
  have hor : decide (s < 0) = true ∨ (decide (s < 0) = false ∧ decide (s ≥ (D.n : Int)) = true) := by
    simp only [DD.sector, decide_eq_false_iff_not] at hs
    simp only [decide_eq_true_eq, decide_eq_false_iff_not]; omega
  rcases hor with h0 | ⟨h0, h1⟩
  all_goals
    go_enter Try.func15, Try.ntmps15
    go_wp2_with fail
    refine HR.out.mono ?_
    rintro e w1 ⟨rfl, rfl⟩
    unfold readW
    go_wp2_with fail
    go_quiet (fail)
    go_wp2_with fail
    refine bodyPost_ret (v := .tuple #[.slice none 0 0, .int .i64 1]) (by simp [results, Try.f15, go_sem]) rfl ⟨_, rfl, Rd.nil _ _ _, ?_⟩
    exact (((((((Only.refl NoB w).alloc _).alloc _).alloc _).drewN nq).setCell (.inr (by simp)) _).setCell (.inr (by simp; omega)) _)

/-- What holds of the world between two rounds: nothing that was there has turned; no sector of those that came is ours. -/
def ReadI (W0 : World) (cs : List (Nat × List UInt8)) (s : Nat) (pre : List (Fin cs.length)) (W : World) : Prop :=
  (∀ j ∈ pre, cs[j.1].1 ≠ s) ∧ Only NoB W0 W
/-- .. and where a round has found ours: the result's cells hold it. -/
def ReadX (q : Nat) (W0 : World) (cs : List (Nat × List UInt8)) (s : Nat) (c : Code) (pre : List (Fin cs.length)) (W : World) : Prop :=
  c = .ret ∧ ∃ (ini : List (Fin cs.length)) (j : Fin cs.length) (v : Value), pre = ini ++ [j] ∧ cs[j.1].1 = s ∧ (∀ j ∈ ini, cs[j.1].1 ≠ s) ∧ W.cell? ⟨q + 1, 0, none⟩ = some v ∧ W.cell? ⟨q + 1 + 1, 0, none⟩ = some (.int .i64 0) ∧
    Bytes W (Fresh W0 W) v cs[j.1].2 ∧ Only (fun k => k = q + 1 ∨ k = q + 1 + 1) W0 W

theorem Rd.kept {w w' : World} {G : Nat → Prop} {size n : Nat} {v : Value} {ys : List Value} (h : Rd w G size v n ys) {row : Option Nat} (hg : w.grownBy w' row) (hr : ∀ r, row = some r → ∃ o : Obj, w.heap[r]? = some o ∧ o.isCells = false) : Rd w' G size v n ys := by
  obtain ⟨A, c, hv, hc, hl, h⟩ := h
  exact ⟨A, c, hv, hc, hl, fun hn => by
    obtain ⟨ad, hA, hF, hcell⟩ := h hn
    exact ⟨ad, hA, hF, fun j u hu => cell_kept (hcell j u hu) hg hr⟩⟩
theorem readI_own (W0 : World) (cs : List (Nat × List UInt8)) (s : Nat) : OwnFrom W0.heap.size (ReadI W0 cs s) := fun _ _ _ _ hs hg hr => ⟨hs.1, hs.2.grown hg fun k e => .inr (hr k e).1⟩
theorem readX_own (q : Nat) (W0 : World) (cs : List (Nat × List UInt8)) (s : Nat) (c : Code) : OwnFrom W0.heap.size (ReadX q W0 cs s c) := by
  rintro pre W W' row ⟨hc, ini, j, v, h1, h2, h3, h4, h5, h6, h7⟩ hg hr
  have hr' := fun r e => (hr r e).2
  exact ⟨hc, ini, j, v, h1, h2, h3, cell_kept h4 hg hr', cell_kept h5 hg hr', (Rd.kept h6 hg hr').mono fun k hk _ => ⟨hk.1, hk.2.grown hg hr'⟩, h7.grown hg fun k e => .inr (hr k e).1⟩

theorem ReadI.last {W0 W : World} {cs : List (Nat × List UInt8)} {s : Nat} {ys : List (Fin cs.length)} (h : ReadI W0 cs s ys W) (hy : ys.map (·.1) = bwd cs.length cs.length) : DD.last s cs = none := by
  refine DD.last_none fun c hc => ?_
  obtain ⟨j, hj, rfl⟩ := List.mem_iff_getElem.1 hc
  have : j ∈ ys.map (·.1) := by
    rw [hy]
    simp only [bwd, List.mem_map, List.mem_range]
    exact ⟨cs.length - 1 - j, by omega, by omega⟩
  obtain ⟨y, hy', rfl⟩ := List.mem_map.1 this
  exact h.1 y hy'
theorem ReadX.last {q : Nat} {W0 W : World} {cs : List (Nat × List UInt8)} {s : Nat} {c : Code} {pre : List (Fin cs.length)} (h : ReadX q W0 cs s c pre W) (hy : ∃ k, k ≤ cs.length ∧ pre.map (·.1) = bwd cs.length k) :
    ∃ l v, DD.last s cs = some l ∧ W.cell? ⟨q + 1, 0, none⟩ = some v ∧ W.cell? ⟨q + 1 + 1, 0, none⟩ = some (.int .i64 0) ∧ Bytes W (Fresh W0 W) v l ∧ Only (fun k => k = q + 1 ∨ k = q + 1 + 1) W0 W := by
  obtain ⟨_, ini, j, v, rfl, h2, h3, h4, h5, h6, h7⟩ := h
  obtain ⟨k, hk, hy⟩ := hy
  refine ⟨cs[j.1].2, v, ?_, h4, h5, h6, h7⟩
  obtain ⟨k, rfl⟩ : ∃ m, k = m + 1 := by
    cases k with
    | zero => simp [bwd] at hy
    | succ m => exact ⟨m, rfl⟩
  rw [bwd_succ, List.map_append] at hy
  obtain ⟨hy1, hy2⟩ := List.append_inj' hy rfl
  have hj : j.1 = cs.length - 1 - k := by simpa using hy2
  refine DD.last_some (j := j.1) (List.getElem?_eq_getElem j.2) h2 fun i hi x hx => ?_
  obtain ⟨hil, rfl⟩ := List.getElem?_eq_some_iff.1 hx
  have : i ∈ ini.map (·.1) := by
    rw [hy1]
    simp only [bwd, List.mem_map, List.mem_range]
    exact ⟨cs.length - 1 - i, by omega, by omega⟩
  obtain ⟨y, hy', rfl⟩ := List.mem_map.1 this
  exact h3 y hy'

/-- What is looked up, and what a copy of it leaves. -/
theorem DiskIn.looked (h : DiskIn w R b D bm cv kv xs f) {s : Nat} (hs : s < D.n) :
    ∃ n ns, Rd w R 1 ((f s).getD (.slice none 0 0)) n ns ∧ (∀ u ∈ ns, u.oneCell' = true) ∧ splice (List.replicate D.m (Value.int .u8 0)) 0 (ns.take (Nat.min n D.m)) = (D.done s).map byteV := by
  have hd := h.done s hs
  cases hf : f s with
  | none =>
    rw [hf] at hd
    refine ⟨0, [], Rd.nil _ _ _, by simp, ?_⟩
    rw [show D.done s = DD.zero D.m from hd]
    simp [splice, DD.zero, byteV]
  | some v =>
    rw [hf] at hd
    refine ⟨_, _, hd, oneCell_bytes _, ?_⟩
    have hl := h.wf.done s
    have : Nat.min (D.done s).length D.m = D.m := by rw [hl]; exact Nat.min_self _
    rw [this, List.take_of_length_le (by simp [hl]), splice]
    simp [hl]

set_option maxHeartbeats 1000000 in
theorem read_ok (h : DiskIn w R b D bm cv kv xs f) (hd : D.down = false) (s : Nat) (hs : s < D.n) : Calls Try.prog 15 #[.pointer (some ⟨b, 0, none⟩), .int .i64 s] w (ReadOut2 w (D.at_ s) 0) := by
  have HR := Lib.hid (ready_up (h.readW s) hd)
  have hn : (readW w s).cell? ⟨b, 0, none⟩ = some (.int .i64 D.n) := (h.readW s).cell 0 _ rfl
  have hc3 : (readW w s).cell? ⟨b, 3, none⟩ = some cv := (h.readW s).cell 3 _ rfl
  unfold readW at hn hc3
  have hs' : (s : Int) < (D.n : Int) := by omega
  have e1 : decide ((s : Int) < 0) = false := by simp
  have e2 : decide (s ≥ D.n) = false := by simpa using hs
  have e2' : decide ((s : Int) ≥ (D.n : Int)) = false := by simpa using hs
  obtain ⟨cA, cc, rfl, _⟩ := Own.shape (F := fun _ => True) ⟨h.own, fun _ _ => trivial⟩
  have H := Lib.hid h
  clear h hd hs
  refine (callsIn_wide (n := 6)).1 ?_
  refine callsIn_of_wp_marks Try.func15 rfl trivial ?_ rfl
  refine wpIn_wide.2 ?_
  simp only [Try.ntmps15, List.size_toArray, List.length_cons, List.length_nil, Nat.reduceAdd, Nat.reduceSub, Array.replicate_succ, Array.replicate_zero, List.push_toArray, List.append_toArray, List.nil_append, List.cons_append]
  go_wp2_with fail
  refine HR.out.mono ?_
  rintro e w1 ⟨rfl, rfl⟩
  unfold readW
  go_wp2_with fail
  go_quiet (fail)
  go_wp2_with (go_at_call 42; refine (callsIn_wide.1 (backw_in Fence.wide 3 trivial rfl _ _ _ _)).mono ?_; rintro e w1 ⟨rfl, rfl⟩)
  obtain ⟨W0, hW0⟩ : ∃ W0 : World, W0 = (((((w.alloc (Obj.cells #[Value.int IntKind.i64 ↑s] 3)).alloc (Obj.cells #[Value.slice none 0 0] 28)).alloc (Obj.cells #[Value.int IntKind.i64 0] 25)).drewN nq).alloc (Obj.cells #[Value.slice cA D.cache.length cc] 54)) := ⟨_, rfl⟩
  rw [← hW0]
  have hsz : W0.heap.size = w.heap.size + 4 := by rw [hW0]; simp
  have ho0 : Only NoB w W0 := by rw [hW0]; exact (((((Only.refl NoB w).alloc _).alloc _).alloc _).drewN _).alloc _
  have d0 := H.out.keep ho0.size fun k hk => ho0.block k (H.out.ltF k hk) id
  have b1 : Blk W0 w.heap.size 3 #[.int .i64 s] := by
    rw [hW0]; exact (((Blk.new w _ _).alloc _).alloc _).alloc _
  have b2 : Blk W0 (w.heap.size + 1) 28 #[.slice none 0 0] := by
    rw [hW0]; have := Blk.new (w.alloc (Obj.cells #[Value.int IntKind.i64 ↑s] 3)) 28 #[.slice none 0 0]; rw [World.size_alloc] at this; exact (this.alloc _).alloc _
  have b3 : Blk W0 (w.heap.size + 1 + 1) 25 #[.int .i64 0] := by
    rw [hW0]; have := Blk.new ((w.alloc (Obj.cells #[Value.int IntKind.i64 ↑s] 3)).alloc (Obj.cells #[Value.slice none 0 0] 28)) 25 #[.int .i64 0]; rw [World.size_alloc, World.size_alloc] at this; exact this.alloc _
  have b4 : Blk W0 (w.heap.size + 1 + 1 + 1) 54 #[.slice cA D.cache.length cc] := by
    rw [hW0]; have := Blk.new ((((w.alloc (Obj.cells #[Value.int IntKind.i64 ↑s] 3)).alloc (Obj.cells #[Value.slice none 0 0] 28)).alloc (Obj.cells #[Value.int IntKind.i64 0] 25)).drewN nq) 54 #[.slice cA D.cache.length cc]
    rw [show ((((w.alloc (Obj.cells #[Value.int IntKind.i64 ↑s] 3)).alloc (Obj.cells #[Value.slice none 0 0] 28)).alloc (Obj.cells #[Value.int IntKind.i64 0] 25)).drewN nq).heap.size = w.heap.size + 1 + 1 + 1 by simp] at this; exact this
  clear hW0 HR hn hc3
  obtain ⟨g, hgA, hgc⟩ : ∃ g, (0 < D.cache.length → cA = some ⟨g, 0, none⟩ ∧ g < W0.heap.size) ∧ ∀ j, j < D.cache.length → W0.cell? ⟨g, j * 2, none⟩ = some (xs.getD (j * 2) undef) ∧ W0.cell? ⟨g, j * 2 + 1, none⟩ = some (xs.getD (j * 2 + 1) undef) := by
    rcases d0.own.2 with ⟨h0, h0'⟩ | ⟨g, cap, cur, he, _, hg, _⟩
    · exact ⟨0, fun hp => by omega, fun j hj => by omega⟩
    · injection he with he
      refine ⟨g, fun _ => ⟨he, (Array.getElem?_eq_some_iff.1 hg).1⟩, fun j hj => ?_⟩
      subst he
      have hcl := d0.own.cells (g := g) rfl
      obtain ⟨x1, v, x2, _⟩ := d0.cache.at_ (i := j) (c := D.cache[j]) (List.getElem?_eq_getElem hj)
      have y1 := hcl _ _ x1
      have y2 := hcl _ _ x2
      rw [Addr.add_lit, Nat.zero_add] at y1 y2
      rw [List.getD_eq_getElem?_getD, List.getD_eq_getElem?_getD, x1, x2]
      exact ⟨y1, y2⟩
  have hcap := d0.cap
  refine (wpIn_wide (n := 6)).1 ?_
  refine wpIn_rangeFunc_ownH (n := 6) rfl (by omega) (gf := 55) (lb := #[.pointer (some ⟨w.heap.size + 1 + 1 + 1, 0, none⟩)]) rfl trivial (enters_of Try.func55 (by kernel_rfl) rfl)
    (backw_stops Fence.wide 5 trivial rfl (by omega) (w.heap.size + 1 + 1 + 1) g D.cache.length cc (fun i => xs.getD (i * 2) undef) (fun i => xs.getD (i * 2 + 1) undef) hcap cA (fun h => (hgA h).1) W0 (by omega) (fun h => (hgA h).2) (b4.cell 0) hgc)
    belowK_t (belowK_b (Nat.le_refl _)) (Below.refl _ _) (fun _ => rfl)
    (ReadI W0 D.cache s) (ReadX w.heap.size W0 D.cache s) (readI_own _ _ _) (readX_own _ _ _ _) ⟨by simp, Only.refl _ _⟩
    (fun (x : Fin D.cache.length) a' W => ∃ Bx, W0.heap.size ≤ Bx ∧ Blk W Bx 69 #[xs.getD (x.1 * 2) undef, xs.getD (x.1 * 2 + 1) undef] ∧ ∃ a30 a31, a' = Act.mk #[Value.pointer (some { block := b, off := 0 }), Value.int IntKind.i64 (s : Int), undef,
          Value.pointer (some { block := w.heap.size, off := 0 }),
          Value.pointer (some { block := w.heap.size + 1, off := 0 }),
          Value.pointer (some { block := w.heap.size + 1 + 1, off := 0 }), Value.int IntKind.i64 0, undef, Value.pointer (some ⟨Bx, 0, none⟩), undef,
          Value.pointer (some { block := b, off := 0 }), Value.int IntKind.i64 0, Value.int IntKind.i64 0,
          Value.bool false, undef, Value.int IntKind.i64 (s : Int), Value.bool false, Value.bool false,
          Value.int IntKind.i64 (s : Int), Value.pointer (some { block := b, off := 0 }),
          Value.pointer (some { block := b, off := 0 }), Value.pointer (some { block := b, off := 0 }),
          Value.int IntKind.i64 (D.n : Int), Value.bool false, Value.bool false, Value.pointer (some { block := b, off := 0 }),
          Value.pointer (some { block := b, off := 0 }), Value.pointer (some { block := b, off := 3 }),
          Value.slice cA D.cache.length cc,
          Value.func (Fn.func 55) #[] #[Value.pointer (some { block := w.heap.size + 1 + 1 + 1, off := 0 })], a30,
          a31, undef, undef, undef, undef, undef, undef, undef, undef, undef, undef, undef, undef, undef, undef, undef,
          undef, undef, undef, undef, undef, undef] [])
    ?hAx ?assign ?body ?done ?stop
  case hAx =>
    rintro x a' _ W W' row ⟨Bx, h1, h2, h3⟩ hg hr
    refine ⟨Bx, h1, (hg.block Bx h2.lt fun e => ?_).trans h2, h3⟩
    obtain ⟨_, o, ho, hc⟩ := hr Bx e.symm
    unfold Blk at h2
    rw [h2] at ho; injection ho with ho; subst ho; cases hc
  case assign =>
    intro l pre x W K hI hK
    obtain ⟨x1, v, x2, x3⟩ := d0.cache.at_ (i := x.1) (c := D.cache[x.1]) (List.getElem?_eq_getElem x.2)
    obtain ⟨vA, vc, rfl, _⟩ := id x3
    simp only [List.getD_eq_getElem?_getD, x1, x2, Option.getD_some] at hK ⊢
    have HK := Lib.hid hK
    have HI := Lib.hid hI
    clear hK hI x1 x2 x3
    gi_wp2
    exact HK.out _ _ ((KeepsOthers.alloc _ _).from _) ((Below.refl _ W).alloc HI.out.2.size _) ⟨HI.out.1, HI.out.2.alloc _⟩ ⟨W.heap.size, HI.out.2.size, Blk.new _ _ _, _, _, rfl⟩
  case body =>
    rintro l pre x a' W hl _ hI ⟨Bx, hBx, hblk, a30, a31, rfl⟩ hlt
    obtain ⟨x1, v, x2, x3⟩ := d0.cache.at_ (i := x.1) (c := D.cache[x.1]) (List.getElem?_eq_getElem x.2)
    obtain ⟨vA, vc, rfl, _⟩ := id x3
    simp only [List.getD_eq_getElem?_getD, x1, x2, Option.getD_some] at hblk
    have c1 : W.cell? ⟨Bx, 0, none⟩ = some (.int .i64 (D.cache[x.1].1 : Int)) := hblk.cell 0
    have c2 : W.cell? ⟨Bx, 1, none⟩ = some (.slice vA D.cache[x.1].2.length vc) := hblk.cell 1
    have cs : W.cell? ⟨w.heap.size, 0, none⟩ = some (.int .i64 (s : Int)) := hI.2.cell (b1.cell 0) id
    have hb2 := b2.only hI.2 id
    have hb3 := b3.only hI.2 id
    have hbm := d0.wf.cache D.cache[x.1] (List.getElem_mem x.2)
    have hm2 := d0.wf.m2
    have HI := Lib.hid hI
    by_cases hx : D.cache[x.1].1 = s
    · have hq : ((D.cache[x.1].1 : Int) == (s : Int)) = true := by rw [beq_iff_eq]; omega
      have hq' : (D.cache[x.1].1 == s) = true := by rw [beq_iff_eq]; exact hx
      have HCl := Lib.hid (clone_byte2 (w := W) R (.slice vA D.cache[x.1].2.length vc) D.cache[x.1].2.length (D.cache[x.1].2.map byteV) (Rd.only (G := NoB) x3 (hI.2) (fun _ _ => id)) (oneCell_bytes _) (by omega))
      have HX := Lib.hid hx
      have HB2 := Lib.hid hb2
      have HB3 := Lib.hid hb3
      clear hI hblk x1 x2 x3 hx hb2 hb3 hbm
      gi_wp2_with (refine ⟨trivial, ?_⟩; gi_at_call 37; refine (CallsIn.inRound l (callsIn_wide.2 HCl.out)).mono ?_; rintro e w1 ⟨v', rfl, hr, ho, _, _⟩; obtain ⟨A', c', rfl, _⟩ := id hr; have b2' := HB2.out.only ho id; have b3' := HB3.out.only ho id; have d2 := b2'.cell 0; have d3 := b3'.cell 0; have f2 := b2'.frozen 0; have f3 := b3'.frozen 0; dsimp at d2 d3; have HO := Lib.hid ho; have HRd := Lib.hid hr; clear ho hr b2' b3')
      have hne : (⟨w.heap.size + 1 + 1, 0, none⟩ : Addr) ≠ ⟨w.heap.size + 1, 0, none⟩ := by simp
      refine ⟨KeepsFrom.trans ⟨HO.out.size, fun k o _ hk _ => HO.out.heap hk id⟩ (((KeepsOthers.setCell _ _ _).trans (KeepsOthers.setCell _ _ _)).from _), rfl, pre, x, _, rfl, HX.out, HI.out.1,
        (World.cell?_setCell_other _ _ _ _ hne).trans (World.cell?_setCell_same' _ _ _ (by rw [d2]; rfl)), World.cell?_setCell_same' _ _ _ (by rw [World.cell?_setCell_other _ _ _ _ hne.symm, d3]; rfl), ?_, ?_⟩
      · have hs0 := HI.out.2.size
        have hst : ∀ k, W.heap.size ≤ k → ∀ (u1 u2 : Value) (w1 : World), ((w1.setCell ⟨w.heap.size + 1, 0, none⟩ u1).setCell ⟨w.heap.size + 1 + 1, 0, none⟩ u2).heap[k]? = w1.heap[k]? := fun k hk u1 u2 w1 => by
          rw [Below.heap_setCell _ _ _ _ (by simp; omega), Below.heap_setCell _ _ _ _ (by simp; omega)]
        exact Rd.mono (Rd.keep HRd.out fun k hk _ => hst k hk.1 _ _ _) fun k hk _ => ⟨Nat.le_trans hs0 hk.1, hk.2.keep (hst k hk.1 _ _ _)⟩
      · exact (((HI.out.2.trans HO.out).mono fun _ _ hk => hk.elim).setCell (.inl (.inl rfl)) _).setCell (.inl (.inr rfl)) _
    · have hq : ((D.cache[x.1].1 : Int) == (s : Int)) = false := by rw [beq_eq_false_iff_ne]; omega
      have hq' : (D.cache[x.1].1 == s) = false := by rw [beq_eq_false_iff_ne]; exact hx
      have HX := Lib.hid hx
      clear hI hblk x1 x2 x3 hx hb2 hb3 hbm
      gi_wp2_with fail
      refine ⟨KeepsFrom.refl _ _, Below.refl _ _, fun j hj => ?_, HI.out.2⟩
      rcases List.mem_append.1 hj with hj | hj
      · exact HI.out.1 j hj
      · obtain rfl := List.mem_singleton.1 hj; exact HX.out
  case done =>
    rintro D' ys W hD hS hI hK
    have HL := Lib.hid (ReadI.last hI hS)
    have hO := hI.2
    have dW := d0.keep hO.size fun k hk => hO.block k (d0.ltF k hk) id
    have c1 : W.cell? ⟨b, 1, none⟩ = some (.int .i64 D.m) := dW.cell 1 _ rfl
    have hm2 := dW.wf.m2
    have HD2 := Lib.hid dW
    have HO := Lib.hid hO
    have hK0 := hK
    have HK := Lib.hid hK
    obtain ⟨n, ns, hrd, hone, hres⟩ := dW.looked (s := s) (by omega)
    have hlk := fun (w2 : World) (ho2 : Only NoB W w2) => ((dW.keep ho2.size fun k hk => ho2.block k (dW.ltF k hk) id).map).lookup (P := Try.prog) (t := 64) (kt := 3) (e := 28) (by kernel_rfl) (by kernel_rfl) (z := .slice none 0 0) (by kernel_rfl) false (s : Int)
    have HLK := Lib.hid hlk
    have HRd := Lib.hid hrd
    have HOn := Lib.hid hone
    have HRes := Lib.hid hres
    have hb2 := b2.only hO id
    have hb3 := b3.only hO id
    have hcs : W.cell? ⟨w.heap.size, 0, none⟩ = some (.int .i64 (s : Int)) := hO.cell (b1.cell 0) id
    have HB2 := Lib.hid hb2
    have HB3 := Lib.hid hb3
    have HCS := Lib.hid hcs
    clear hS hI dW hO hK hK0 hlk hrd hone hres hb2 hb3 hcs
    go_wp2_with (at_make; refine wpList_mk (by rfl) _ _ _ (by rfl) (by kernel_rfl) Ty.byte .i64 .i64 D.m (by rfl) (by rfl) (by omega) ?_; intro W1 hblk ho1; have HB := Lib.hid hblk; have HO1 := Lib.hid ho1; clear hblk ho1)
    have ho1 := HO1.out
    have c2 : W1.cell? ⟨b, 2, none⟩ = some (.map (some bm)) := ho1.cell (HD2.out.cell 2 _ rfl) id
    have cs1 : W1.cell? ⟨w.heap.size, 0, none⟩ = some (.int .i64 (s : Int)) := ho1.cell HCS.out id
    have hlk := HLK.out W1.drew (ho1.drew)
    simp only [Bool.false_eq_true, if_false] at hlk
    obtain ⟨sv, hsv⟩ : ∃ sv, sv = (f (s : Int)).getD (.slice none 0 0) := ⟨_, rfl⟩
    rw [← hsv] at hlk
    have HRd1 := HRd.out
    rw [← hsv] at HRd1
    have HR2 := Lib.hid (Rd.only (w' := W1.drew) HRd1 ho1.drew (fun _ _ => id))
    have hbl := HB.out
    have hm1 : madeCells (Value.int IntKind.u8 0).cells (D.m * 1) = (List.replicate D.m (Value.int .u8 0)).toArray := madeCells_one _ _
    rw [hm1] at hbl
    have HB1 := Lib.hid (show Blk W1.drew W.heap.size 5 (List.replicate D.m (Value.int .u8 0)).toArray from hbl)
    have HFit := Lib.hid (show 0 + D.m ≤ (List.replicate D.m (Value.int .u8 0)).length by simp)
    clear hm1 hbl HRd1 hsv ho1 HB HRd HLK
    refine wp_region_noPanic ?_
    go_region_law
      ((refine step_cpy (by rfl) _ _ _ _ (by rfl) Ty.bytesU Ty.byteSize (by rfl) (by rfl) HB1.out HFit.out HR2.out HOn.out ?_; intro w3 hcp; have HCp := Lib.hid hcp; clear hcp))
    all_goals
      refine noPanic_mk ?_
      have ho3 : Only (fun k => k = W.heap.size) W w3 := ((HO1.out.drew).mono fun _ _ hk => hk.elim).trans HCp.out.only
      have hW0 := HO.out.size
      have hk3 : w3.heap[D']? = some (.deferred (some [])) := ho3.heap HK.out (fun (e : D' = W.heap.size) => by have := (Array.getElem?_eq_some_iff.1 HK.out).1; omega)
      have n2 : w.heap.size + 1 ≠ W.heap.size := by omega
      have n3 : w.heap.size + 1 + 1 ≠ W.heap.size := by omega
      have b2' := HB2.out.only ho3 n2
      have b3' := HB3.out.only ho3 n3
      have d2 : w3.cell? ⟨w.heap.size + 1, 0, none⟩ = some (.slice none 0 0) := b2'.cell 0
      have d3 : w3.cell? ⟨w.heap.size + 1 + 1, 0, none⟩ = some (.int .i64 0) := b3'.cell 0
      have f2 := b2'.frozen 0
      have f3 := b3'.frozen 0
      have HO3 := Lib.hid ho3
      have HK3 := Lib.hid hk3
      clear ho3 hk3 b2' b3' hlk
      go_wp2_with fail
      have hne : (⟨w.heap.size + 1 + 1, 0, none⟩ : Addr) ≠ ⟨w.heap.size + 1, 0, none⟩ := by simp
      have hKf : ((w3.setCell ⟨w.heap.size + 1, 0, none⟩ (.slice (some ⟨W.heap.size, 0, none⟩) D.m D.m)).setCell ⟨w.heap.size + 1 + 1, 0, none⟩ (.int .i64 0)).heap[D']? = some (.deferred (some [])) := by
        rw [Below.heap_setCell _ _ _ _ (by simp; omega), Below.heap_setCell _ _ _ _ (by simp; omega)]; exact HK3.out
      refine ⟨by simp, .inl ⟨_, _, rfl, run_takeDeferred hKf, ?_⟩⟩
      have hg := grownBy_putObj' ((w3.setCell ⟨w.heap.size + 1, 0, none⟩ (.slice (some ⟨W.heap.size, 0, none⟩) D.m D.m)).setCell ⟨w.heap.size + 1 + 1, 0, none⟩ (.int .i64 0)) D' (.deferred none)
      have hr : ∀ r, some D' = some r → ∃ o : Obj, ((w3.setCell ⟨w.heap.size + 1, 0, none⟩ (.slice (some ⟨W.heap.size, 0, none⟩) D.m D.m)).setCell ⟨w.heap.size + 1 + 1, 0, none⟩ (.int .i64 0)).heap[r]? = some o ∧ o.isCells = false := fun r e => by cases e; exact ⟨_, hKf, rfl⟩
      have hc4 := cell_kept ((World.cell?_setCell_other _ _ _ _ hne).trans (World.cell?_setCell_same' w3 ⟨w.heap.size + 1, 0, none⟩ (.slice (some ⟨W.heap.size, 0, none⟩) D.m D.m) (by rw [d2]; rfl))) hg hr
      have hc5 := cell_kept (World.cell?_setCell_same' (w3.setCell ⟨w.heap.size + 1, 0, none⟩ (.slice (some ⟨W.heap.size, 0, none⟩) D.m D.m)) ⟨w.heap.size + 1 + 1, 0, none⟩ (.int .i64 0) (by rw [World.cell?_setCell_other _ _ _ _ hne.symm, d3]; rfl)) hg hr
      refine ⟨.tuple #[.slice (some ⟨W.heap.size, 0, none⟩) D.m D.m, .int .i64 0], by simp [results, Try.f15, go_sem, hc4, hc5], _, rfl, ?_, ?_⟩
      · have hat : D.at_ s = D.done s := by unfold DD.at_; rw [HL.out]; rfl
        have hlen : (D.at_ s).length = D.m := HD2.out.wf.at_ s
        rw [hat] at hlen ⊢
        have hbk := HCp.out.blk
        rw [HRes.out] at hbk
        refine ⟨_, _, by rw [hlen], by rw [hlen]; exact Nat.le_refl _, by simp, fun _ => ⟨⟨W.heap.size, 0, none⟩, rfl, ⟨show w.heap.size ≤ W.heap.size by omega, Soft.grown (Soft.keep (w := w3) ⟨_, _, hbk⟩ (by rw [Below.heap_setCell _ _ _ _ (by simp; omega), Below.heap_setCell _ _ _ _ (by simp; omega)])) hg hr⟩, fun j u hu => ?_⟩⟩
        refine cell_kept ?_ hg hr
        rw [Addr.add_lit, World.cell?_setCell_other _ _ _ _ (by simp <;> omega), World.cell?_setCell_other _ _ _ _ (by simp <;> omega), Nat.zero_add, hbk.cell]
        simpa using hu
      · refine Only.grown (((((ho0.trans HO.out).trans' HO3.out fun i hi (hk : i = W.heap.size) => by omega).setCell (.inr (by simp)) _).setCell (.inr (by simp; omega)) _)) hg fun k e => by cases e; exact .inr (by omega)
  case stop =>
    rintro D' c pre W hD hS hX hK
    obtain ⟨l, v, h1, h2, h3, h4, h5⟩ := ReadX.last hX hS
    obtain ⟨rfl, _⟩ := hX
    have H1 := Lib.hid h1
    clear h1 hS
    gi_wp2_with fail
    refine ⟨by simp, .inl ⟨_, _, rfl, run_takeDeferred hK, ?_⟩⟩
    have hg := grownBy_putObj' W D' (.deferred none)
    have hr : ∀ r, some D' = some r → ∃ o : Obj, W.heap[r]? = some o ∧ o.isCells = false := fun r e => by cases e; exact ⟨_, hK, rfl⟩
    have hc4 := cell_kept h2 hg hr
    have hc5 := cell_kept h3 hg hr
    obtain ⟨A', c', rfl, _⟩ := id h4
    refine ⟨.tuple #[.slice A' l.length c', .int .i64 0], by simp [results, Try.f15, go_sem, hc4, hc5], _, rfl, ?_, ?_⟩
    · have hat : D.at_ s = l := by unfold DD.at_; rw [H1.out]; rfl
      rw [hat]
      exact (Rd.kept h4 hg hr).mono fun k hk _ => ⟨show w.heap.size ≤ k by have : W0.heap.size ≤ k := hk.1; omega, hk.2.grown hg hr⟩
    · exact (ho0.trans' h5 fun i hi hk => by rcases hk with hk | hk <;> omega).grown hg fun k e => by cases e; exact .inr (by omega)
end
end Go.Proofs.Ytllodjcfcjmocaa
