import Derived.Test.YtllodjcfcjmocaaBase
/-
  LAWS ON append, copy, clear, make OVER THE WORDS OF Base. No program in sight.
-/
namespace Go.Proofs.Ytllodjcfcjmocaa
open Go.RowKit

/-- A type's row in the program's table. -/
def Elt (P : Program) (e : TypeId) (z : Value) (size bytes : Nat) : Prop :=
  (P.info? e).map (fun i => (i.zero, i.size, i.bytes)) = some (some z, size, bytes) ∧ z.cells.size = size ∧ 0 < size ∧ 0 < bytes

/-- v is a slice of its own: at the head of a row of F that is known whole, or nil. -/
def Own (w : World) (F : Nat → Prop) (e : TypeId) (size : Nat) (v : Value) (n : Nat) (xs : List Value) : Prop :=
  w.ownsRow 0 e size v n xs ∧ ∀ g, v.ownBlock = some g → F g

section
variable {w w' : World} {F G : Nat → Prop} {e : TypeId} {size n : Nat} {v : Value} {xs : List Value}
theorem Own.rd (h : Own w F e size v n xs) : Rd w F size v n xs := Rd.own h.1 h.2
theorem Own.nil (w : World) (F : Nat → Prop) (e : TypeId) (size : Nat) : Own w F e size (.slice none 0 0) 0 [] := ⟨World.ownsRow_nil w 0 e size, fun g h => by cases h⟩
theorem Own.mono (h : Own w F e size v n xs) (hk : ∀ k, F k → k < w.heap.size → G k) : Own w G e size v n xs :=
  ⟨h.1, fun g hg => hk g (h.2 g hg) (h.1.lt g hg).2⟩
theorem Own.keep (h : Own w F e size v n xs) (hk : ∀ k, v.ownBlock = some k → w'.heap[k]? = w.heap[k]?) : Own w' F e size v n xs := by
  refine ⟨⟨h.1.1, ?_⟩, h.2⟩
  rcases h.1.2 with h0 | ⟨g, cap, cur, rfl, hb, hg, r⟩
  · exact .inl h0
  · exact .inr ⟨g, cap, cur, rfl, hb, (hk g rfl).trans hg, r⟩
theorem Own.only (h : Own w F e size v n xs) (ho : Only G w w') (hd : ∀ k, F k → ¬ G k) : Own w' F e size v n xs :=
  h.keep fun k hk => ho.block k (h.1.lt k hk).2 (hd k (h.2 k hk))
theorem Own.len (h : Own w F e size v n xs) : xs.length = n * size := h.1.1
theorem Own.alloc (h : Own w F e size v n xs) (o : Obj) : Own (w.alloc o) F e size v n xs := h.keep fun k hk => Below.heap_alloc w o k (h.1.lt k hk).2
theorem Own.shape (h : Own w F e size v n xs) : ∃ A c, v = .slice A n c ∧ n ≤ c := by
  rcases h.1.2 with ⟨rfl, rfl⟩ | ⟨g, cap, cur, rfl, hb, hg, hn, r⟩
  · exact ⟨_, _, rfl, Nat.le_refl _⟩
  · exact ⟨_, _, rfl, hn⟩
theorem Own.lt (h : Own w F e size v n xs) {g : Nat} (hg : v.ownBlock = some g) : g < w.heap.size := (h.1.lt g hg).2
end

/-- What append leaves. -/
structure App (w : World) (F : Nat → Prop) (e : TypeId) (size : Nat) (v : Value) (n m : Nat) (xs news : List Value) (v' : Value) (w' : World) : Prop where
  own : Own w' (fun k => F k ∨ k = w.heap.size) e size v' (n + m) (xs ++ news)
  only : Only (fun k => v.ownBlock = some k) w w'
  lies : v'.ownBlock = v.ownBlock ∨ v'.ownBlock = some w.heap.size
  shape : ∃ A c, v' = .slice A (n + m) c ∧ n + m ≤ c
  nil : v' = .slice none 0 0 ↔ v = .slice none 0 0 ∧ m = 0

section
variable {P : Program} {w : World}
theorem Elt.parts {e : TypeId} {z : Value} {size bytes : Nat} (h : Elt P e z size bytes) : ∃ i, P.info? e = some i ∧ i.zero = some z ∧ i.size = size ∧ i.bytes = bytes := info_parts h.1

theorem run_append_nothing {t ty e : TypeId} {z : Value} {size bytes : Nat} (ht : P.underlying t = some (.slice e)) (he : Elt P e z size bytes)
    {v : Value} {n : Nat} {xs : List Value} (hown : w.ownsRow 0 e size v n xs) (c : Nat) : (Builtin.append_ #[t, t] ty #[v, .slice none 0 c]).run P w = .ok v w := by
  obtain ⟨i, hi, _, hs, _⟩ := he.parts
  rcases hown.2 with ⟨rfl, rfl⟩ | ⟨g, cap, cur, rfl, _, _, hnc, _⟩
  · simp [Builtin.append_, run_underlying ht, sizeOf, typeInfo, hi, Builtin.lenOf, Builtin.firstCells]
  · simp [Builtin.append_, run_underlying ht, sizeOf, typeInfo, hi, Builtin.lenOf, Builtin.firstCells, hnc, storeCells]

theorem run_append_rd {t ty e : TypeId} {z : Value} {size bytes : Nat} (ht : P.underlying t = some (.slice e)) (he : Elt P e z size bytes)
    {F G : Nat → Prop} {v : Value} {n : Nat} {xs : List Value} (hown : Own w F e size v n xs) {s : Value} {m : Nat} {news : List Value} (hr : Rd w G size s m news)
    (h1 : ∀ u ∈ news, u.oneCell' = true) (hb : (n + m) * bytes ≤ 140737488355328) :
    ∃ v' w', (Builtin.append_ #[t, t] ty #[v, s]).run P w = .ok v' w' ∧ App w F e size v n m xs news v' w' := by
  obtain ⟨A, c, rfl, hc, hl, hcell⟩ := hr
  obtain ⟨i, hi, hz, hs, hby⟩ := he.parts
  have hsz := he.2.2.1
  have h63 : n + m ≤ maxLen := by
    have h := Nat.le_trans (Nat.le_mul_of_pos_right (n + m) he.2.2.2) hb
    simp only [maxLen]; omega
  have hcase : (A = none ∧ m = 0) ∨ ∃ ad, A = some ad ∧ ∀ j u, news[j]? = some u → w.cell? (ad.add j) = some u := by
    rcases Nat.eq_zero_or_pos m with h0 | h0
    · subst h0
      have : news = [] := List.eq_nil_of_length_eq_zero (by simpa using hl)
      subst this
      cases A with
      | none => exact .inl ⟨rfl, rfl⟩
      | some ad => exact .inr ⟨ad, rfl, fun j u h => by simp at h⟩
    · obtain ⟨ad, hA, _, hx⟩ := hcell (Nat.mul_pos h0 hsz)
      exact .inr ⟨ad, hA, hx⟩
  rcases hcase with ⟨rfl, rfl⟩ | ⟨ad, rfl, hx⟩
  · have hn : news = [] := List.eq_nil_of_length_eq_zero (by simpa using hl)
    subst hn
    refine ⟨v, w, run_append_nothing ht he hown.1 c, ⟨by simpa using hown.mono fun k hk _ => Or.inl hk, Only.refl _ _, .inl rfl, ?_, by simp⟩⟩
    simpa using hown.shape
  · obtain ⟨v', w', hrun, h2, h3, h4, h5⟩ := run_append_own_at (P := P) w 0 t ty e i z size bytes ht hi hz hs hby he.2.1 hsz v n xs hown.1 ad m c news hl hx h1 h63 hb (Nat.zero_le _)
    have hO : Own w' (fun k => F k ∨ k = w.heap.size) e size v' (n + m) (xs ++ news) := by
      refine ⟨h2, fun g hg => ?_⟩
      rcases h5 with h5 | h5
      · exact .inl (hown.2 g (h5 ▸ hg))
      · rw [h5] at hg; injection hg with hg; exact .inr hg.symm
    exact ⟨v', w', hrun, hO, Only.of_grown h3, h5, hO.shape, h4⟩

theorem wpList_app {ops : Array Oper} {rest : List Oper} {o : Oper} {a : Act} {Q : Exit → Act → World → Prop} (hgd : o.guard = none) (s x : Operand) (t : TypeId)
    (ho : o.op = .call { callee := .builtin .append, args := #[s, x], argTypes := #[t, t] }) {e : TypeId} {z : Value} {size bytes : Nat} (ht : P.underlying t = some (.slice e)) (he : Elt P e z size bytes)
    {F G : Nat → Prop} {v : Value} {n : Nat} {xs : List Value} (hs : a.eval s = v) {sv : Value} {m : Nat} {news : List Value} (hx : a.eval x = sv) (hown : Own w F e size v n xs) (hr : Rd w G size sv m news)
    (h1 : ∀ u ∈ news, u.oneCell' = true) (hb : (n + m) * bytes ≤ 140737488355328)
    (hK : ∀ v' w', App w F e size v n m xs news v' w' → wpList P ops Q rest (a.put o.dst v') w') : wpList P ops Q (o :: rest) a w := by
  subst hs; subst hx
  refine wpList_plain hgd fun _ hK' => ?_
  obtain ⟨v', w', hrun, h2⟩ := run_append_rd (ty := o.type) ht he hown hr h1 hb
  unfold Oper.wp execOp
  simp only [ho, resolve, invoke, builtin, Sem.run_bind, Sem.run_pure, Result.andThen_ok, List.map_toArray, List.map_cons, List.map_nil, hrun]
  exact hK' _ _ (hK v' w' h2)

/-- The same as a step of a region that draws its order. -/
theorem step_app {ops : Array Oper} {o : Oper} {a : Act} {K : Act → World → Prop} {Q : Exit → Act → World → Prop} {E : Prop} (hgd : o.guard = none) (s x : Operand) (t : TypeId)
    (ho : o.op = .call { callee := .builtin .append, args := #[s, x], argTypes := #[t, t] }) {e : TypeId} {z : Value} {size bytes : Nat} (ht : P.underlying t = some (.slice e)) (he : Elt P e z size bytes)
    {F G : Nat → Prop} {v : Value} {n : Nat} {xs : List Value} (hs : a.eval s = v) {sv : Value} {m : Nat} {news : List Value} (hx : a.eval x = sv) (hown : Own w F e size v n xs) (hr : Rd w G size sv m news)
    (h1 : ∀ u ∈ news, u.oneCell' = true) (hb : (n + m) * bytes ≤ 140737488355328)
    (hK : ∀ v' w', App w F e size v n m xs news v' w' → K (a.put o.dst v') w') : if Region.wanted o (yielded ops a.tmps) = true then Oper.wp P o a w K Q else E := by
  subst hs; subst hx
  have hw : Region.wanted o (yielded ops a.tmps) = true := by simp [Region.wanted, hgd]
  rw [if_pos hw]
  obtain ⟨v', w', hrun, h2⟩ := run_append_rd (ty := o.type) ht he hown hr h1 hb
  unfold Oper.wp execOp
  simp only [ho, resolve, invoke, builtin, Sem.run_bind, Sem.run_pure, Result.andThen_ok, List.map_toArray, List.map_cons, List.map_nil, hrun]
  exact hK v' w' h2

/-- A slice's literal reads as its cells. -/
theorem rd_new (w : World) (t size n : Nat) (cs : List Value) (hl : cs.length = n * size) : Rd (w.alloc (.cells cs.toArray t)) (fun k => k = w.heap.size) size (.slice (some ⟨w.heap.size, 0, none⟩) n n) n cs :=
  ⟨_, _, rfl, Nat.le_refl _, hl, fun _ => ⟨_, rfl, rfl, fun j u hu => by
    rw [Addr.add_lit, Nat.zero_add, cell_of_row _ _ j cs.toArray t (0, 0) (heap_alloc_new w _)]
    simpa using hu⟩⟩
/-- What is owned stays, where another step turns none of it. -/
theorem own_of {w' : World} {G : Nat → Prop} {e : TypeId} {size n : Nat} {v : Value} {xs : List Value} (h : w.ownsRow 0 e size v n xs) (ho : Only G w w') (hd : ∀ k, v.ownBlock = some k → ¬ G k) : Own w' (fun k => v.ownBlock = some k) e size v n xs :=
  Own.keep (w := w) ⟨h, fun _ hg => hg⟩ fun k hk => ho.block k (h.lt k hk).2 (hd k hk)

/-- A call of a Go function as a step of a region that draws its order. -/
theorem step_go {ops : Array Oper} {o : Oper} {a : Act} {K : Act → World → Prop} {Q : Exit → Act → World → Prop} {E : Prop} (hgd : o.guard = none) (f : FuncId) (args : List Operand) (ts : Array TypeId)
    (ho : o.op = .call { callee := .value (.func f), args := args.toArray, argTypes := ts }) (vs : List Value) (hvs : args.map a.eval = vs) (hcf : ∀ w, (callFunc f vs.toArray).run P w = .ok (.enter f vs.toArray) w)
    {S : Ending → World → Prop} (hc : Calls P f vs.toArray w S) (hS : ∀ e w', S e w' → ∃ v, e = .returned v) (hK : ∀ v w', S (.returned v) w' → K (a.put o.dst v) w') : if Region.wanted o (yielded ops a.tmps) = true then Oper.wp P o a w K Q else E := by
  subst hvs
  have hw : Region.wanted o (yielded ops a.tmps) = true := by simp [Region.wanted, hgd]
  rw [if_pos hw]
  have hf : a.eval (.func f) = .func (.func f) #[] #[] := rfl
  have hrun : (execOp a.eval o).run P w = .ok (.enter f (args.map a.eval).toArray) w := by
    have h1 := hcf w
    unfold execOp
    simp only [ho, resolve, hf]
    simp [invoke, Deferred.ofValue]
    exact h1
  unfold Oper.wp
  rw [hrun]
  refine hc.mono fun e w' hs => ?_
  obtain ⟨v, rfl⟩ := hS e w' hs
  exact hK v w' hs

theorem noPanic_mk {Q : Exit → Act → World → Prop} {a : Act} (h : Q .normal a w) : NoPanic Q .normal a w := h

/-! ## copy -/
/-- What a copy onto a place of a block leaves. -/
structure Cpy (w : World) (g off : Nat) (t : TypeId) (cur cs : List Value) (w' : World) : Prop where
  blk : Blk w' g t (splice cur off cs).toArray
  only : Only (fun k => k = g) w w'

theorem only_setRow (w : World) (g : Nat) (cs : Array Value) : Only (fun k => k = g) w (w.setRow g cs) :=
  ⟨rfl, rfl, rfl, by simp, fun k _ hk => setRow_other w g k _ (fun e => hk e)⟩

theorem run_copy_rd {dT sT ty e : TypeId} (hu : P.underlying dT = some (.slice e)) (hsz : (P.info? e).map (·.size) = some 1) {G : Nat → Prop} {g off dLen dCap : Nat} {t : TypeId} {cur : List Value}
    (hg : Blk w g t cur.toArray) (hfit : off + dLen ≤ cur.length) {s : Value} {m : Nat} {news : List Value} (hr : Rd w G 1 s m news) (h1 : ∀ u ∈ news, u.oneCell' = true) :
    ∃ w', (Builtin.copy_ #[dT, sT] ty #[.slice (some ⟨g, off, none⟩) dLen dCap, s]).run P w = .ok (.int .i64 (Nat.min m dLen)) w' ∧ Cpy w g off t cur (news.take (Nat.min m dLen)) w' := by
  obtain ⟨A, c, rfl, hc, hl, hcell⟩ := hr
  simp only [Nat.mul_one] at hl hcell
  have hm1 : Nat.min m dLen ≤ m := Nat.min_le_left _ _
  have hm2 : Nat.min m dLen ≤ dLen := Nat.min_le_right _ _
  have hlen : (news.take (Nat.min m dLen)).length = Nat.min m dLen := by rw [List.length_take, hl]; omega
  rcases Nat.eq_zero_or_pos (Nat.min m dLen) with h0 | h0
  · refine ⟨w, ?_, ?_, Only.refl _ _⟩
    · have := run_copy_none (P := P) w dT sT ty e (some ⟨g, off, none⟩) A dLen dCap m c hu hsz h0
      rw [h0]
      exact this
    · rw [h0]; simpa [splice] using hg
  · obtain ⟨ad, rfl, _, hx⟩ := hcell (by omega)
    have := run_copy_row (P := P) w dT sT ty e g off dLen dCap ad m c cur.toArray t (news.take (Nat.min m dLen)) hu hsz hg hlen
      (fun j v hv => hx j v (by rw [List.getElem?_take] at hv; split at hv; (· exact hv); (· cases hv))) (by rw [hlen]; simp; omega) (fun v hv => h1 v (List.mem_of_mem_take hv))
    rw [hlen] at this
    refine ⟨_, this, ?_, only_setRow w g _⟩
    have hb := setRow_heap w g cur.toArray ((news.take (Nat.min m dLen)) |> fun cs => (cur.take off ++ cs ++ cur.drop (off + Nat.min m dLen)).toArray) t (0, 0) hg
    unfold Blk splice
    rw [hlen]
    simpa using hb

theorem step_cpy {ops : Array Oper} {o : Oper} {a : Act} {K : Act → World → Prop} {Q : Exit → Act → World → Prop} {E : Prop} (hgd : o.guard = none) (d s : Operand) (dT sT : TypeId)
    (ho : o.op = .call { callee := .builtin .copy, args := #[d, s], argTypes := #[dT, sT] }) {e : TypeId} (hu : P.underlying dT = some (.slice e)) (hsz : (P.info? e).map (·.size) = some 1) {G : Nat → Prop} {g off dLen dCap : Nat} {t : TypeId} {cur : List Value}
    (hd : a.eval d = .slice (some ⟨g, off, none⟩) dLen dCap) {sv : Value} (hs : a.eval s = sv) (hg : Blk w g t cur.toArray) (hfit : off + dLen ≤ cur.length) {m : Nat} {news : List Value} (hr : Rd w G 1 sv m news) (h1 : ∀ u ∈ news, u.oneCell' = true)
    (hK : ∀ w', Cpy w g off t cur (news.take (Nat.min m dLen)) w' → K (a.put o.dst (.int .i64 (Nat.min m dLen))) w') : if Region.wanted o (yielded ops a.tmps) = true then Oper.wp P o a w K Q else E := by
  subst hs
  have hw : Region.wanted o (yielded ops a.tmps) = true := by simp [Region.wanted, hgd]
  rw [if_pos hw]
  obtain ⟨w', hrun, h2⟩ := run_copy_rd (P := P) (sT := sT) (ty := o.type) hu hsz hg hfit (dCap := dCap) hr h1
  unfold Oper.wp execOp
  simp only [ho, resolve, invoke, builtin, Sem.run_bind, Sem.run_pure, Result.andThen_ok, List.map_toArray, List.map_cons, List.map_nil, hd, hrun]
  exact hK w' h2
theorem wpList_cpy {ops : Array Oper} {rest : List Oper} {o : Oper} {a : Act} {Q : Exit → Act → World → Prop} (hgd : o.guard = none) (d s : Operand) (dT sT : TypeId)
    (ho : o.op = .call { callee := .builtin .copy, args := #[d, s], argTypes := #[dT, sT] }) {e : TypeId} (hu : P.underlying dT = some (.slice e)) (hsz : (P.info? e).map (·.size) = some 1) {G : Nat → Prop} {g off dLen dCap : Nat} {t : TypeId} {cur : List Value}
    (hd : a.eval d = .slice (some ⟨g, off, none⟩) dLen dCap) {sv : Value} (hs : a.eval s = sv) (hg : Blk w g t cur.toArray) (hfit : off + dLen ≤ cur.length) {m : Nat} {news : List Value} (hr : Rd w G 1 sv m news) (h1 : ∀ u ∈ news, u.oneCell' = true)
    (hK : ∀ w', Cpy w g off t cur (news.take (Nat.min m dLen)) w' → wpList P ops Q rest (a.put o.dst (.int .i64 (Nat.min m dLen))) w') : wpList P ops Q (o :: rest) a w := by
  subst hs
  refine wpList_plain hgd fun _ hK' => ?_
  obtain ⟨w', hrun, h2⟩ := run_copy_rd (P := P) (sT := sT) (ty := o.type) hu hsz hg hfit (dCap := dCap) hr h1
  unfold Oper.wp execOp
  simp only [ho, resolve, invoke, builtin, Sem.run_bind, Sem.run_pure, Result.andThen_ok, List.map_toArray, List.map_cons, List.map_nil, hd, hrun]
  exact hK' _ _ (hK w' h2)

/-! ## make -/
theorem run_mk {t e : TypeId} {z : Value} {size bytes : Nat} (ht : P.underlying t = some (.slice e)) (he : Elt P e z size bytes) (kl kc : IntKind) (n : Nat) (hb : bytes * n ≤ 281474976710656) :
    ∃ w', (Instr.makeSlice t (.int kl n) (.int kc n)).run P w = .ok (.slice (some ⟨w.heap.size, 0, none⟩) n n) w' ∧ Blk w' w.heap.size e (madeCells z.cells (n * size)) ∧ Only NoB w w' := by
  obtain ⟨i, hi, hz, hs, hby⟩ := he.parts
  have hm : n ≤ maxLen := by
    have := Nat.le_trans (Nat.le_mul_of_pos_left n he.2.2.2) hb
    simp only [maxLen]; omega
  obtain ⟨w', hrun, hown, hg⟩ := run_make_full (P := P) w 0 t e i z size ht hi hz hs kl kc n (by rw [hby]; exact hb) hm (Nat.zero_le _)
  refine ⟨w', hrun, ?_, (Only.of_grown hg).mono fun k _ hk => by cases hk⟩
  rcases hown.2 with ⟨h, _⟩ | ⟨g, cap, cur, h, _, hg', _, _, hcs, htake⟩
  · cases h
  · injection h with h1 h2 h3
    injection h1 with h1
    injection h1 with h1
    subst h1; subst h3
    have : cur = madeCells z.cells (n * size) := by
      apply Array.toList_inj.1
      rw [← htake, List.take_of_length_le (by simp [hcs])]
    rw [← this]
    exact hg'
theorem wpList_mk {ops : Array Oper} {rest : List Oper} {o : Oper} {a : Act} {Q : Exit → Act → World → Prop} (hgd : o.guard = none) (l c : Operand) (t : TypeId) (hop : o.op = Op.makeSlice t l c)
    {e : TypeId} {z : Value} {size bytes : Nat} (ht : P.underlying t = some (.slice e)) (he : Elt P e z size bytes) (kl kc : IntKind) (n : Nat) (hl : a.eval l = .int kl n) (hc : a.eval c = .int kc n) (hb : bytes * n ≤ 281474976710656)
    (hK : ∀ w', Blk w' w.heap.size e (madeCells z.cells (n * size)) → Only NoB w w' → wpList P ops Q rest (a.put o.dst (.slice (some ⟨w.heap.size, 0, none⟩) n n)) w') : wpList P ops Q (o :: rest) a w := by
  refine wpList_plain hgd fun K hK' => ?_
  obtain ⟨w', hrun, r1, r2⟩ := run_mk (P := P) (w := w) ht he kl kc n hb
  unfold Oper.wp
  simp [execOp, hop, hl, hc, hrun, Result.andThen]
  exact hK' _ _ (hK w' r1 r2)
theorem madeCells_one (z : Value) (n : Nat) : madeCells #[z] (n * 1) = (List.replicate n z).toArray := by
  apply Array.toList_inj.1
  rw [Nat.mul_one, toList_madeCells_one]

/-! ## clear -/
theorem run_clear_row {t ty e : TypeId} {z : Value} {size bytes : Nat} (ht : P.underlying t = some (.slice e)) (he : Elt P e z size bytes) (hz1 : ∀ u ∈ z.cells, u.oneCell' = true)
    {F : Nat → Prop} {v : Value} {n : Nat} {xs : List Value} (hown : Own w F e size v n xs) (hzr : (zeroValue e).run P w = .ok z w) :
    ∃ w', (Builtin.clear_ #[t] ty #[v]).run P w = .ok (.tuple #[]) w' ∧ Own w' F e size v n (Builtin.zeroCells z.cells n).toList ∧ Only (fun k => v.ownBlock = some k) w w' := by
  obtain ⟨i, hi, hz, hs, hby⟩ := he.parts
  rcases hown.1.2 with ⟨rfl, rfl⟩ | ⟨g, cap, cur, rfl, _, hg, hnc, hcm, hcs, htake⟩
  · refine ⟨w, by simp [Builtin.clear_, run_underlying ht], ?_, Only.refl _ _⟩
    have h0 : (Builtin.zeroCells z.cells 0).toList = [] := by simp [Builtin.zeroCells]
    rw [h0]
    exact Own.nil w F e size
  · rcases Nat.eq_zero_or_pos n with h0 | h0
    · subst h0
      refine ⟨w, by simp [Builtin.clear_, run_underlying ht], ?_, Only.refl _ _⟩
      have h0 : (Builtin.zeroCells z.cells 0).toList = [] := by simp [Builtin.zeroCells]
      rw [h0]
      have hx : xs = [] := List.eq_nil_of_length_eq_zero (by simpa using hown.1.1)
      rw [← hx]
      exact hown
    · have hzl : (Builtin.zeroCells z.cells n).toList.length = n * size := by simp [size_zeroCells, he.2.1]
      have hle : n * size ≤ cur.size := by rw [hcs]; exact Nat.mul_le_mul_right _ hnc
      have hst := run_storeCells_at P g 0 e (Builtin.zeroCells z.cells n).toList 0 cur w hg (by rw [hzl]; omega) (by
        intro u hu
        simp only [Builtin.zeroCells, Array.toList_map, List.mem_map] at hu
        obtain ⟨j, hj, rfl⟩ := hu
        have hjs : j % z.cells.size < z.cells.size := Nat.mod_lt _ (by rw [he.2.1]; exact he.2.2.1)
        rw [getElem!_pos z.cells _ hjs]
        exact hz1 _ (Array.getElem_mem _))
      refine ⟨w.setRow g ((cur.toList.take 0 ++ (Builtin.zeroCells z.cells n).toList ++ cur.toList.drop (0 + 0 + (Builtin.zeroCells z.cells n).toList.length)).toArray), ?_, ?_, ?_⟩
      · obtain ⟨k, rfl⟩ : ∃ k, n = k + 1 := ⟨n - 1, by omega⟩
        simp [Builtin.clear_, run_underlying ht, hzr, hst]
      · refine ⟨⟨hzl, .inr ⟨g, cap, _, rfl, Nat.zero_le _, setRow_heap w g cur _ e (0, 0) hg, hnc, hcm, ?_, ?_⟩⟩, hown.2⟩
        · simp only [List.size_toArray, List.length_append, List.length_take, List.length_drop, hzl, Array.length_toList]
          omega
        · have e0 : (List.take 0 cur.toList ++ (Builtin.zeroCells z.cells n).toList ++ List.drop (0 + 0 + (Builtin.zeroCells z.cells n).toList.length) cur.toList) = (Builtin.zeroCells z.cells n).toList ++ List.drop (0 + 0 + (Builtin.zeroCells z.cells n).toList.length) cur.toList := by simp
          rw [e0, List.take_append_of_le_length (by rw [hzl]; exact Nat.le_refl _), List.take_of_length_le (by rw [hzl]; exact Nat.le_refl _)]
      · exact (only_setRow w g _).mono fun k _ hk => by rw [hk]; rfl

end
end Go.Proofs.Ytllodjcfcjmocaa
