import Derived.Test.YtdipjakblaeekaaGreatMb6
import Derived.OwnWalkIn
import Derived.Lib.ConvBytes
import Derived.Deep.Fields
import Derived.ChangeSame
set_option linter.unusedVariables false
set_option linter.unusedSimpArgs false
namespace Go.Proofs.YtdipjakblaeekaaGreat
open Go.RowKit Go.Proofs Go.Shelf
set_option maxRecDepth 20000
theorem wpListIn_app {P : Program} {w : World} {Fc : Fence} {nF : Nat} {ops : Array Oper} {rest : List Oper} {o : Oper} {a : Act} {Q : Exit → Act → World → Prop} (hgd : o.guard = none) (s x : Operand) (t : TypeId)
    (ho : o.op = .call { callee := .builtin .append, args := #[s, x], argTypes := #[t, t] }) {e : TypeId} {z : Value} {size bytes : Nat} (ht : P.underlying t = some (.slice e)) (he : Elt P e z size bytes)
    {F G : Nat → Prop} {v : Value} {n : Nat} {xs : List Value} (hs : a.eval s = v) {sv : Value} {m : Nat} {news : List Value} (hx : a.eval x = sv) (hown : Own w F e size v n xs) (hr : Rd w G size sv m news)
    (h1 : ∀ u ∈ news, u.oneCell' = true) (hb : (n + m) * bytes ≤ 140737488355328)
    (hK : ∀ v' w', App w F e size v n m xs news v' w' → wpListIn Fc nF P ops Q rest (a.put o.dst v') w') : wpListIn Fc nF P ops Q (o :: rest) a w := by
  subst hs; subst hx
  refine wpListIn_plain hgd fun K hK' => ?_
  obtain ⟨v', w', hrun, h2⟩ := run_append_rd (ty := o.type) ht he hown hr h1 hb
  unfold Oper.wpIn
  refine ⟨by simp [Oper.about, ho, resolve, Target.leads, Sem.run_pure], ?_⟩
  rw [Oper.semAt_plain Fc _ _ (by rw [ho]; intro c hc'; cases hc')]
  simp only [execOp, ho, resolve, invoke, builtin, Sem.run_bind, Sem.run_pure, Result.andThen_ok, List.map_toArray, List.map_cons, List.map_nil, hrun]
  exact hK' _ _ (hK v' w' h2)
theorem results_cell_cell {P : Program} {fn : Func} {u q : Tmp} {ty2 ty3 : TypeId} (h : fn.results = #[.cell u ty2, .cell q ty3]) (tmps : Array Value) (w : World) (g2 g3 : Nat) (v2 v3 : Value)
    (hp2 : tmps.getD u undef = .pointer (some ⟨g2, 0, none⟩)) (hg2 : w.cell? ⟨g2, 0, none⟩ = some v2) (hu2 : (match P.underlying ty2 with | some (.struct _) | some (.array _ _) | none => true | _ => false) = false)
    (hp3 : tmps.getD q undef = .pointer (some ⟨g3, 0, none⟩)) (hg3 : w.cell? ⟨g3, 0, none⟩ = some v3) (hu3 : (match P.underlying ty3 with | some (.struct _) | some (.array _ _) | none => true | _ => false) = false) :
    (results fn tmps).run P w = .ok (.tuple #[v2, v3]) w := by
  have hp2' : tmps[u]?.getD undef = .pointer (some ⟨g2, 0, none⟩) := by simpa using hp2
  have hp3' : tmps[q]?.getD undef = .pointer (some ⟨g3, 0, none⟩) := by simpa using hp3
  have h2 := run_loadVar_one (P := P) (ty := ty2) hg2 hu2
  have h3 := run_loadVar_one (P := P) (ty := ty3) hg3 hu3
  simp [results, h, hp2', hp3', asAddr, Result.andThen, h2, h3]
def MineS (B b : Nat) (ty e : TypeId) (size n : Nat) (xs : List Value) (W : World) (G : Nat → Prop) : Prop := ∃ v, Mine b ty #[v] W G ∧ Own W (fun g => B ≤ g ∧ ¬ G g) e size v n xs
theorem own_cells {w : World} {F : Nat → Prop} {e : TypeId} {size n g : Nat} {v : Value} {xs : List Value} (h : Own w F e size v n xs) (hg : v.ownBlock = some g) : ∃ cur, w.heap[g]? = some (.cells cur e (0, 0)) := by
  rcases h.1.2 with ⟨rfl, _⟩ | ⟨g', cap, cur, rfl, _, hh, _⟩
  · cases hg
  · injection hg with hg
    subst hg
    exact ⟨cur, hh⟩
theorem mineS_abid {B B' b : Nat} {ty e : TypeId} {size n : Nat} {xs : List Value} : Abid B' (MineS B b ty e size n xs) := fun W W' G S hi hS ho => by
  obtain ⟨v, h1, h2⟩ := hi
  refine ⟨v, mine_abid W W' G S h1 hS ho, h2.keep fun k hk => ?_⟩
  obtain ⟨cur, hc⟩ := own_cells h2 hk
  refine ho.block k (h2.lt hk) fun hs => ?_
  obtain ⟨_, _, o, h3, h4⟩ := hS k hs
  rw [hc] at h3
  injection h3 with h3
  subst h3
  cases h4
theorem mineS_stay {T : World → (Nat → Prop) → Prop} {B b : Nat} {ty e : TypeId} {size n : Nat} {xs : List Value} : Stay T (MineS B b ty e size n xs) := fun W G W2 G2 hT hi hT2 ho hg => by
  obtain ⟨v, h1, h2⟩ := hi
  refine ⟨v, mine_stay W G W2 G2 hT h1 hT2 ho hg, ?_⟩
  have h3 := h2.keep (w' := W2) fun k hk => ho.block k (h2.lt hk) (h2.2 k hk).2
  exact ⟨h3.1, fun g hgv => ⟨(h2.2 g hgv).1, fun hk => (hg g hk).elim (h2.2 g hgv).2 fun hl => by have := h2.lt hgv; omega⟩⟩
attribute [local go_sem] Oper.semAt_some
section
variable {w w' : World} {F G : Nat → Prop} {X : XC} {t m n own c most : Nat} {D : PD} {M : List KV} {key pre s : Str}
def AllI (w : World) (F : Nat → Prop) (most : Nat) (L : List KV) (B k : Nat) (W : World) (G : Nat → Prop) : Prop :=
  k ≤ most ∧ Mine w.heap.size 3 #[.int .i64 most] W G ∧ Mine (w.heap.size + 1) 47 #[.slice none 0 0] W G ∧ Mine (w.heap.size + 1 + 1) 23 #[.int .i64 0] W G ∧ MineS B (w.heap.size + 1 + 1 + 1) 47 52 2 k (pairL (L.take k)) W G ∧ Mine (w.heap.size + 1 + 1 + 1 + 1) 23 #[.int .i64 0] W G ∧ Since w F W G ∧ Big B W G
theorem allI_abid {F : Nat → Prop} {L : List KV} {B B' k : Nat} (hB : w.heap.size ≤ B') : Abid B' (AllI w F most L B k) := (Abid.pure _).and (mine_abid.and (mine_abid.and (mine_abid.and (mineS_abid.and (mine_abid.and ((since_abid hB).and big_abid))))))
theorem allI_stay {T : World → (Nat → Prop) → Prop} {L : List KV} {F : Nat → Prop} {B k : Nat} : Stay T (AllI w F most L B k) := (Stay.pure _).and (mine_stay.and (mine_stay.and (mine_stay.and (mineS_stay.and (mine_stay.and (since_stay.and big_stay))))))
def AllX (w : World) (F : Nat → Prop) (most : Nat) (L : List KV) (c : Code) (W : World) (G : Nat → Prop) : Prop :=
  (c = .ret ∧ most < L.length) ∧ Mine (w.heap.size + 1) 47 #[.slice none 0 0] W G ∧ Mine (w.heap.size + 1 + 1) 23 #[.int .i64 2] W G ∧ Since w F W G
theorem allX_abid {F : Nat → Prop} {B' : Nat} {L : List KV} {c : Code} (hB : w.heap.size ≤ B') : Abid B' (AllX w F most L c) := (Abid.pure _).and (mine_abid.and (mine_abid.and (since_abid hB)))
def AllAns (B : Nat) (F' : Nat → Prop) (most : Nat) (L : List KV) (e : Ending) (w' : World) : Prop :=
  (L.length ≤ most ∧ ∃ v, e = .returned (.tuple #[v, .int .i64 0]) ∧ Own w' (fun g => B ≤ g ∧ ¬ F' g) 52 2 v L.length (pairL L)) ∨ (most < L.length ∧ e = .returned (.tuple #[.slice none 0 0, .int .i64 2]))
set_option maxHeartbeats 2000000 in
theorem all_ok (h : TxAt w F X t D) (hb : Bt D M c) (hkl : ∀ x ∈ M, x.1.length ≤ 1000) (hpl : pre.length ≤ 1000) (hlen : (under pre M).length ≤ 1000000) :
    Calls Tryz.prog 23 #[.pointer (some ⟨t, 0, none⟩), .string ⟨pre.toArray⟩, .int .i64 most] w (fun e w' => ∃ F', AllAns w.heap.size F' most (under pre M) e w' ∧ TxAt w' F' X t D ∧ Only F w w' ∧ Grows F F' w) := by
  refine (callsIn_wide (n := 6)).1 ?_
  refine callsIn_of_wp_marks Tryz.func23 rfl trivial ?_ rfl
  refine wpIn_wide.2 ?_
  simp only [Tryz.ntmps23, List.size_toArray, List.length_cons, List.length_nil, Nat.reduceAdd, Nat.reduceSub, Array.replicate_succ, Array.replicate_zero, List.push_toArray, List.append_toArray, List.nil_append, List.cons_append]
  go_wp2_with fail
  refine (pairs_ok _).mono ?_
  rintro e w1 ⟨rfl, rfl⟩
  go_wp2_with fail
  obtain ⟨R, hR⟩ : ∃ R, R = w.heap.size := ⟨_, rfl⟩
  obtain ⟨W0, hW0⟩ : ∃ W0, W0 = (((((((w.alloc (.cells #[.int .i64 most] 3)).alloc (.cells #[.slice none 0 0] 47)).alloc (.cells #[.int .i64 0] 23)).alloc (.cells #[.slice none 0 0] 47)).alloc (.cells #[.int .i64 0] 23)).alloc (.cells #[.pointer (some ⟨t, 0, none⟩)] 29)).alloc (.cells #[.string ⟨pre.toArray⟩] 9)).alloc (.cells #[.pointer (some ⟨w.heap.size + 1 + 1 + 1 + 1, 0, none⟩)] 97) := ⟨_, rfl⟩
  rw [← hW0]
  have hWa : W0 = allocs w [(#[.int .i64 most], 3), (#[.slice none 0 0], 47), (#[.int .i64 0], 23), (#[.slice none 0 0], 47), (#[.int .i64 0], 23), (#[.pointer (some ⟨t, 0, none⟩)], 29), (#[.string ⟨pre.toArray⟩], 9), (#[.pointer (some ⟨w.heap.size + 1 + 1 + 1 + 1, 0, none⟩)], 97)] := hW0
  have hs0 : W0.heap.size = w.heap.size + 8 := by rw [hWa, allocs_size]; rfl
  have ho0 : Only NoB w W0 := by rw [hWa]; exact allocs_only _ _
  have b0 : Blk W0 w.heap.size 3 #[.int .i64 most] := blk_of hWa 0 rfl
  have b1 : Blk W0 (w.heap.size + 1) 47 #[.slice none 0 0] := blk_of hWa 1 rfl
  have b2 : Blk W0 (w.heap.size + 1 + 1) 23 #[.int .i64 0] := blk_of hWa 2 rfl
  have b3 : Blk W0 (w.heap.size + 1 + 1 + 1) 47 #[.slice none 0 0] := blk_of hWa 3 rfl
  have b4 : Blk W0 (w.heap.size + 1 + 1 + 1 + 1) 23 #[.int .i64 0] := blk_of hWa 4 rfl
  have b5 : Blk W0 (w.heap.size + 1 + 1 + 1 + 1 + 1) 29 #[.pointer (some ⟨t, 0, none⟩)] := blk_of hWa 5 rfl
  have b6 : Blk W0 (w.heap.size + 1 + 1 + 1 + 1 + 1 + 1) 9 #[.string ⟨pre.toArray⟩] := blk_of hWa 6 rfl
  have b7 : Blk W0 (w.heap.size + 1 + 1 + 1 + 1 + 1 + 1 + 1) 97 #[.pointer (some ⟨w.heap.size + 1 + 1 + 1 + 1, 0, none⟩)] := blk_of hWa 7 rfl
  have hF : ∀ k, w.heap.size ≤ k → ¬ F k := fun k hk hf => by have := h.lt k hf; omega
  have hT0 : PairsT X t D pre (w.heap.size + 1 + 1 + 1 + 1 + 1 + 1) (w.heap.size + 1 + 1 + 1 + 1 + 1) (w.heap.size + 1 + 1 + 1 + 1 + 1 + 1 + 1) (w.heap.size + 1 + 1 + 1 + 1) W0 F := ⟨h.quit ho0, ⟨b6, hF _ (by omega)⟩, ⟨b5, hF _ (by omega)⟩, ⟨b7, hF _ (by omega)⟩⟩
  have hi0 : AllI w F most (under pre M) W0.heap.size 0 W0 F := ⟨Nat.zero_le _, ⟨b0, hF _ (Nat.le_refl _)⟩, ⟨b1, hF _ (by omega)⟩, ⟨b2, hF _ (by omega)⟩, ⟨_, ⟨b3, hF _ (by omega)⟩, Own.nil _ _ _ _⟩, ⟨b4, hF _ (by omega)⟩, ⟨ho0.mono fun _ _ h => h.elim, Grows.refl F w⟩, Nat.le_refl _⟩
  have HLEN := Lib.hid hlen
  clear hW0 hWa b0 b1 b2 b3 b4 b5 b6 b7 hlen
  refine (wpIn_wide (n := 6)).1 ?_
  refine range_tx (n := 6) (gf := 85) (N := (under pre M).length) (encs := pairA (under pre M)) (T := PairsT X t D pre (w.heap.size + 1 + 1 + 1 + 1 + 1 + 1) (w.heap.size + 1 + 1 + 1 + 1 + 1) (w.heap.size + 1 + 1 + 1 + 1 + 1 + 1 + 1) (w.heap.size + 1 + 1 + 1 + 1)) pairsT_abid (fun W G hT => hT.1.lt) rfl (enters_of Tryz.func85 (by kernel_rfl) rfl) (pairs_iter hb hkl hpl 5 (by omega)) (fun _ => rfl)
    (AllI w F most (under pre M) W0.heap.size) (fun k => allI_abid (by omega)) (fun k => allI_stay) (fun c _ => AllX w F most (under pre M) c) (fun c _ => allX_abid (by omega))
    hT0 hi0
    (fun k a' W => ∃ Bx, W0.heap.size ≤ Bx ∧ Blk W Bx 52 #[.string ⟨(keyAt (under pre M) k).toArray⟩, .string ⟨(valAt (under pre M) k).toArray⟩] ∧ ∃ a14, a' = Act.mk #[.pointer (some ⟨t, 0, none⟩), .string ⟨pre.toArray⟩, .int .i64 most, undef, undef, .pointer (some ⟨w.heap.size, 0, none⟩), .pointer (some ⟨w.heap.size + 1, 0, none⟩), .pointer (some ⟨w.heap.size + 1 + 1, 0, none⟩), .pointer (some ⟨w.heap.size + 1 + 1 + 1, 0, none⟩), .pointer (some ⟨w.heap.size + 1 + 1 + 1 + 1, 0, none⟩), .pointer (some ⟨Bx, 0, none⟩),
      .pointer (some ⟨t, 0, none⟩), .string ⟨pre.toArray⟩, .func (.func 85) #[] #[.pointer (some ⟨w.heap.size + 1 + 1 + 1 + 1 + 1 + 1, 0, none⟩), .pointer (some ⟨w.heap.size + 1 + 1 + 1 + 1 + 1, 0, none⟩), .pointer (some ⟨w.heap.size + 1 + 1 + 1 + 1 + 1 + 1 + 1, 0, none⟩)], a14, undef, undef, undef, undef, undef, undef, undef, undef, undef, undef, undef, undef] [])
    ?hAx ?assign ?body ?done ?stop
  case hAx =>
    rintro k a' W W' _ S ⟨Bx, h1, h2, h3⟩ hS ho
    exact ⟨Bx, h1, blk_abid h2 (fun q hq => (hS q hq).2.2) ho, h3⟩
  case assign =>
    intro l k W G K hk hT hI hK
    have HK := Lib.hid hK
    have HT := Lib.hid hT
    have HI := Lib.hid hI
    clear hK hT hI
    unfold pairA
    gi_wp2
    exact HK.out _ _ ((Only.refl NoB W).alloc _) ((pairsT_abid (B := 0)).quit HT.out ((Only.refl NoB W).alloc _)) ((allI_abid (Nat.le_refl _)).quit HI.out ((Only.refl NoB W).alloc _)) ⟨W.heap.size, HI.out.2.2.2.2.2.2.2, Blk.new _ _ _, _, rfl⟩
  case body =>
    rintro l k a' W G hk hl hT hI ⟨Bx, hBx, hbx, a14, rfl⟩
    obtain ⟨hkm, i0, i1, i2, ⟨v, i3, ho⟩, i4, isn, ibg⟩ := hI
    obtain ⟨A, cp, rfl, hcp⟩ := ho.shape
    have x0 := hbx.cell 0
    have x1 := hbx.cell 1
    have y0 := i0.1.cell 0
    have z0 := i1.1.cell 0
    have z1 := i1.1.frozen 0
    have u0 := i2.1.cell 0
    have u1 := i2.1.frozen 0
    have v0 := i3.1.cell 0
    have v1 := i3.1.frozen 0
    have HK := Lib.hid hk
    have HKM := Lib.hid hkm
    have HT := Lib.hid hT
    have H0 := Lib.hid i0
    have H1 := Lib.hid i1
    have H2 := Lib.hid i2
    have H3 := Lib.hid i3
    have H4 := Lib.hid i4
    have HO := Lib.hid ho
    have HSN := Lib.hid isn
    have HBG := Lib.hid ibg
    have HL := Lib.hid hl
    have HBX := Lib.hid hBx
    clear hk hl hT i0 i1 i2 i3 i4 isn ibg hBx hbx ho hkm hcp
    by_cases hlt : k < most
    · have hge : ¬ ((most : Int) ≤ (k : Int)) := by omega
      have HLT := Lib.hid hlt
      have hk6 : k ≤ 1000000 := by have := HLEN.out; have := HK.out; omega
      have hR3 : ∀ q, (Value.slice A k cp).ownBlock = some q → ¬ (w.heap.size + 1 + 1 + 1 = q) := fun q hq => by have := (HO.out.2 q hq).1; omega
      have HO1 : Hid (Own (W.alloc (.cells #[.string ⟨(keyAt (under pre M) k).toArray⟩, .string ⟨(valAt (under pre M) k).toArray⟩] 52)) (fun g => (Value.slice A k cp).ownBlock = some g) 52 2 (.slice A k cp) k (pairL ((under pre M).take k))) := Lib.hid (Own.alloc (w := W) ⟨HO.out.1, fun _ h => h⟩ _)
      have HR : Hid (Rd (W.alloc (.cells #[.string ⟨(keyAt (under pre M) k).toArray⟩, .string ⟨(valAt (under pre M) k).toArray⟩] 52)) (fun q => q = W.heap.size) 2 (.slice (some ⟨W.heap.size, 0, none⟩) 1 1) 1 [.string ⟨(keyAt (under pre M) k).toArray⟩, .string ⟨(valAt (under pre M) k).toArray⟩]) := Lib.hid (rd_new W 52 2 1 [.string ⟨(keyAt (under pre M) k).toArray⟩, .string ⟨(valAt (under pre M) k).toArray⟩] rfl)
      have H1N : Hid (∀ u ∈ ([.string ⟨(keyAt (under pre M) k).toArray⟩, .string ⟨(valAt (under pre M) k).toArray⟩] : List Value), u.oneCell' = true) := Lib.hid (by simp [Value.oneCell'])
      have HB3 : Hid (∀ v' w', App (W.alloc (.cells #[.string ⟨(keyAt (under pre M) k).toArray⟩, .string ⟨(valAt (under pre M) k).toArray⟩] 52)) (fun g => (Value.slice A k cp).ownBlock = some g) 52 2 (.slice A k cp) k 1 (pairL ((under pre M).take k)) [.string ⟨(keyAt (under pre M) k).toArray⟩, .string ⟨(valAt (under pre M) k).toArray⟩] v' w' → Blk w' (w.heap.size + 1 + 1 + 1) 47 #[.slice A k cp]) := Lib.hid fun v' w' ha => (H3.out.1.only ((Only.refl NoB W).alloc _) id).only ha.only fun hq => hR3 _ hq rfl
      clear z0 z1 u0 u1 hlt v1 hR3
      gi_wp2_with (gi_at_builtin; refine wpListIn_app rfl _ _ _ rfl (by kernel_rfl) Ty.pair rfl rfl HO1.out HR.out H1N.out (by omega) ?_; intro v' w' ha; obtain ⟨A', c', rfl, hc'⟩ := ha.shape; have hb3 := HB3.out _ _ ha; have v0' := hb3.cell 0; have v1' := hb3.frozen 0; have HA := Lib.hid ha; clear ha hb3 v0 hc')
      rw [← hs0]
      have hoA : Only (fun q => (Value.slice A k cp).ownBlock = some q) W w' := ((Only.refl _ W).alloc _).trans HA.out.only
      have hst : Only (fun q => q = w.heap.size + 1 + 1 + 1) w' (w'.setCell ⟨w.heap.size + 1 + 1 + 1, 0, none⟩ (.slice A' (k + 1) c')) := (Only.refl (fun q => q = w.heap.size + 1 + 1 + 1) w').setCell (p := ⟨w.heap.size + 1 + 1 + 1, 0, none⟩) (.inl rfl) _
      have hall : Only (fun q => q = w.heap.size + 1 + 1 + 1 ∨ (Value.slice A k cp).ownBlock = some q) W (w'.setCell ⟨w.heap.size + 1 + 1 + 1, 0, none⟩ (.slice A' (k + 1) c')) := (hoA.mono fun _ _ h => .inr h).trans (hst.mono fun _ _ h => .inl h)
      have hob : ∀ q, (Value.slice A k cp).ownBlock = some q → w.heap.size + 8 ≤ q ∧ ¬ G q := fun q hq => ⟨by have := (HO.out.2 q hq).1; omega, (HO.out.2 q hq).2⟩
      have hG : ∀ q, G q → ¬ (q = w.heap.size + 1 + 1 + 1 ∨ (Value.slice A k cp).ownBlock = some q) := fun q hq h => by
        rcases h with rfl | h
        · exact H3.out.2 hq
        · exact (hob q h).2 hq
      have hlow : ∀ q, q < w.heap.size + 8 → q ≠ w.heap.size + 1 + 1 + 1 → ¬ (q = w.heap.size + 1 + 1 + 1 ∨ (Value.slice A k cp).ownBlock = some q) := fun q hq hne h => by
        rcases h with h | h
        · exact hne h
        · have := (hob q h).1; omega
      have hkN := HK.out
      have htk : pairL ((under pre M).take (k + 1)) = pairL ((under pre M).take k) ++ [.string ⟨(keyAt (under pre M) k).toArray⟩, .string ⟨(valAt (under pre M) k).toArray⟩] := by
        rw [pairL_take _ hkN]
        unfold keyAt valAt strV
        rw [List.getD_eq_getElem?_getD, List.getElem?_eq_getElem hkN]; rfl
      have hb3 : Blk w' (w.heap.size + 1 + 1 + 1) 47 #[.slice A k cp] := HB3.out _ _ HA.out
      have hown : Own (w'.setCell ⟨w.heap.size + 1 + 1 + 1, 0, none⟩ (.slice A' (k + 1) c')) (fun g => W0.heap.size ≤ g ∧ ¬ G g) 52 2 (.slice A' (k + 1) c') (k + 1) (pairL ((under pre M).take (k + 1))) := by
        rw [htk]
        have hszW := HBG.out
        refine (HA.out.own.only hst fun q hq e => ?_).mono fun q hq _ => ?_
        · have e : q = w.heap.size + 1 + 1 + 1 := e
          rcases hq with hq | hq
          · have := (hob q hq).1; omega
          · have hq : q = _ := hq
            rw [World.size_alloc] at hq
            unfold Big at hszW; omega
        · rcases hq with hq | hq
          · exact HO.out.2 q hq
          · rw [World.size_alloc] at hq
            unfold Big at hszW
            exact ⟨by omega, fun hg => by have := HT.out.1.lt q hg; omega⟩
      refine ⟨fun q hq => hall.block q (HT.out.1.lt q hq) (hG q hq), fun q o hq ho hoc => (hall.block q (Array.getElem?_eq_some_iff.1 ho).1 fun h => ?_).trans ho, HT.out.beside hall hG ⟨hlow _ (by omega) (by omega), hlow _ (by omega) (by omega), hlow _ (by omega) (by omega)⟩, HLT.out, ⟨H0.out.1.only hall (hlow _ (by omega) (by omega)), H0.out.2⟩, ⟨H1.out.1.only hall (hlow _ (by omega) (by omega)), H1.out.2⟩, ⟨H2.out.1.only hall (hlow _ (by omega) (by omega)), H2.out.2⟩, ⟨_, ⟨hb3.set_ 0 _, H3.out.2⟩, hown⟩, ⟨H4.out.1.only hall (hlow _ (by omega) (by omega)), H4.out.2⟩, ⟨HSN.out.1.trans' hall fun q hq h => ?_, HSN.out.2⟩, Nat.le_trans HBG.out hall.size⟩
      · rcases h with h | h
        · omega
        · obtain ⟨cur, hc⟩ := own_cells HO.out h
          rw [hc] at ho
          injection ho with ho
          subst ho
          cases hoc
      · rcases h with h | h
        · omega
        · have := (hob q h).1; omega
    · have hge : (most : Int) ≤ (k : Int) := by omega
      have HGE := Lib.hid hge
      clear hlt v1 x0 x1
      gi_wp2_with fail
      have a1 := H1.out.1.set_ 0 (.slice none 0 0)
      have hst1 : Only (fun k => k = w.heap.size + 1) W (W.setCell ⟨w.heap.size + 1, 0, none⟩ (.slice none 0 0)) := (Only.refl (fun k => k = w.heap.size + 1) W).setCell (p := ⟨w.heap.size + 1, 0, none⟩) (.inl rfl) (.slice none 0 0)
      have a2 := (H2.out.1.only hst1 (by show ¬ (w.heap.size + 1 + 1 = w.heap.size + 1); omega)).set_ 0 (.int .i64 2)
      have hst2 : Only (fun k => k = w.heap.size + 1 + 1) (W.setCell ⟨w.heap.size + 1, 0, none⟩ (.slice none 0 0)) ((W.setCell ⟨w.heap.size + 1, 0, none⟩ (.slice none 0 0)).setCell ⟨w.heap.size + 1 + 1, 0, none⟩ (.int .i64 2)) := (Only.refl (fun k => k = w.heap.size + 1 + 1) _).setCell (p := ⟨w.heap.size + 1 + 1, 0, none⟩) (.inl rfl) (.int .i64 2)
      have hall : Only (fun k => k = w.heap.size + 1 ∨ k = w.heap.size + 1 + 1) W _ := (hst1.mono fun _ _ h => .inl h).trans (hst2.mono fun _ _ h => .inr h)
      have hG : ∀ k, G k → ¬ (k = w.heap.size + 1 ∨ k = w.heap.size + 1 + 1) := fun k hk h => by
        rcases h with rfl | rfl
        · exact H1.out.2 hk
        · exact H2.out.2 hk
      have hkm := HKM.out
      refine ⟨fun q o hq ho _ => (hall.block q (Array.getElem?_eq_some_iff.1 ho).1 (by omega)).trans ho, HT.out.beside hall hG ⟨by omega, by omega, by omega⟩, ⟨rfl, by have := HK.out; have := HGE.out; omega⟩, ⟨a1.only hst2 (by show ¬ (w.heap.size + 1 = w.heap.size + 1 + 1); omega), H1.out.2⟩, ⟨a2, H2.out.2⟩, HSN.out.1.trans' hall fun k hk h => by omega, HSN.out.2⟩
  case done =>
    rintro d W G hd hnd hT ⟨hkm, i0, i1, i2, ⟨v, i3, ho⟩, i4, isn, ibg⟩ hK
    obtain ⟨A, cp, rfl, hcp⟩ := ho.shape
    have HKM := Lib.hid hkm
    have HT := Lib.hid hT
    have H1 := Lib.hid i1
    have H2 := Lib.hid i2
    have H3 := Lib.hid i3
    have HO := Lib.hid ho
    have HSN := Lib.hid isn
    have HK := Lib.hid hK
    have HND := Lib.hid hnd
    have z0 := i1.1.cell 0
    have z1 := i1.1.frozen 0
    have u0 := i2.1.cell 0
    have u1 := i2.1.frozen 0
    have v0 := i3.1.cell 0
    have x0 := i4.1.cell 0
    clear i0 i1 i2 i3 i4 isn ibg ho hK hT hnd hkm hcp
    go_wp2_with fail
    have a1 := H1.out.1.set_ 0 (.slice A (under pre M).length cp)
    have hst1 : Only (fun k => k = w.heap.size + 1) W (W.setCell ⟨w.heap.size + 1, 0, none⟩ (.slice A (under pre M).length cp)) := (Only.refl (fun k => k = w.heap.size + 1) W).setCell (p := ⟨w.heap.size + 1, 0, none⟩) (.inl rfl) _
    have a2 := (H2.out.1.only hst1 (by show ¬ (w.heap.size + 1 + 1 = w.heap.size + 1); omega)).set_ 0 (.int .i64 0)
    have hst2 : Only (fun k => k = w.heap.size + 1 + 1) (W.setCell ⟨w.heap.size + 1, 0, none⟩ (.slice A (under pre M).length cp)) ((W.setCell ⟨w.heap.size + 1, 0, none⟩ (.slice A (under pre M).length cp)).setCell ⟨w.heap.size + 1 + 1, 0, none⟩ (.int .i64 0)) := (Only.refl (fun k => k = w.heap.size + 1 + 1) _).setCell (p := ⟨w.heap.size + 1 + 1, 0, none⟩) (.inl rfl) (.int .i64 0)
    obtain ⟨WF, hWF⟩ : ∃ z, z = (W.setCell ⟨w.heap.size + 1, 0, none⟩ (.slice A (under pre M).length cp)).setCell ⟨w.heap.size + 1 + 1, 0, none⟩ (.int .i64 0) := ⟨_, rfl⟩
    have hall : Only (fun k => k = w.heap.size + 1 ∨ k = w.heap.size + 1 + 1) W WF := by rw [hWF]; exact (hst1.mono fun _ _ h => .inl h).trans (hst2.mono fun _ _ h => .inr h)
    have a1' : Blk WF (w.heap.size + 1) 47 #[.slice A (under pre M).length cp] := by rw [hWF]; exact a1.only hst2 (by show ¬ (w.heap.size + 1 = w.heap.size + 1 + 1); omega)
    have a2' : Blk WF (w.heap.size + 1 + 1) 23 #[.int .i64 0] := by rw [hWF]; exact a2
    have hG : ∀ k, G k → ¬ (k = w.heap.size + 1 ∨ k = w.heap.size + 1 + 1) := fun k hk h => by
      rcases h with rfl | rfl
      · exact H1.out.2 hk
      · exact H2.out.2 hk
    have hKF := (hall.block d (Array.getElem?_eq_some_iff.1 HK.out).1 (by omega)).trans HK.out
    have hown := HO.out.keep (w' := WF) fun q hq => hall.block q (HO.out.lt hq) fun h => by have := (HO.out.2 q hq).1; omega
    rw [← hWF]
    clear hWF hst1 hst2 a1 a2
    refine ⟨by simp, .inl ⟨_, _, rfl, run_takeDeferred hKF, ?_⟩⟩
    have hp := put_only WF d (.deferred none)
    have hS : ∀ q, q = d → ∃ o : Obj, WF.heap[q]? = some o ∧ o.isCells = false := fun q hq => by rw [hq]; exact ⟨_, hKF, rfl⟩
    have c1 := (blk_abid a1' hS hp).cell 0
    have c2 := (blk_abid a2' hS hp).cell 0
    have hown2 := hown.keep (w' := WF.putObj d (.deferred none)) fun q hq => hp.block q (hown.lt hq) fun h => by
      obtain ⟨cur, hc⟩ := own_cells hown hq
      obtain ⟨o, h1, h2⟩ := hS q h
      rw [hc] at h1
      injection h1 with h1
      subst h1
      cases h2
    rw [List.take_length] at hown2
    refine ⟨_, results_cell_cell rfl _ _ (w.heap.size + 1) (w.heap.size + 1 + 1) _ _ rfl c1 (by kernel_rfl) rfl c2 (by kernel_rfl), G, .inl ⟨HKM.out, _, rfl, ⟨hown2.1, fun g hg => ⟨by have := (hown2.2 g hg).1; omega, (hown2.2 g hg).2⟩⟩⟩, ?_, ?_, HSN.out.2⟩
    · exact (HT.out.1.only hall hG).only hp fun k hk he => HND.out (he ▸ hk)
    · exact (HSN.out.1.trans' hall fun k hk he => by omega).trans' hp fun k hk he => by have he : k = d := he; omega
  case stop =>
    rintro d c k W G hd hk hnd hT ⟨⟨rfl, hL0⟩, i1, i2, isn⟩ hK
    have HL0 := Lib.hid hL0
    have HT := Lib.hid hT
    have H1 := Lib.hid i1
    have H2 := Lib.hid i2
    have HSN := Lib.hid isn
    have HK := Lib.hid hK
    have HND := Lib.hid hnd
    clear i1 i2 isn hL0 hT hnd hk
    gi_wp2_with fail
    refine ⟨by simp, .inl ⟨_, _, rfl, run_takeDeferred HK.out, ?_⟩⟩
    have hp := put_only W d (.deferred none)
    have hS : ∀ q, q = d → ∃ o : Obj, W.heap[q]? = some o ∧ o.isCells = false := fun q hq => by rw [hq]; exact ⟨_, HK.out, rfl⟩
    have c1 := (blk_abid H1.out.1 hS hp).cell 0
    have c2 := (blk_abid H2.out.1 hS hp).cell 0
    refine ⟨_, results_cell_cell rfl _ _ (w.heap.size + 1) (w.heap.size + 1 + 1) _ _ rfl c1 (by kernel_rfl) rfl c2 (by kernel_rfl), G, .inr ⟨HL0.out, rfl⟩, ?_, ?_, HSN.out.2⟩
    · exact HT.out.1.only hp fun k hk he => HND.out (he ▸ hk)
    · exact HSN.out.1.trans' hp fun k hk he => by have he : k = d := he; omega
theorem kv_all (h : KvAt w F X t m n own M c) (hpl : pre.length ≤ 1000) (hlen : (under pre M).length ≤ 1000000) :
    Calls Tryz.prog 23 #[.pointer (some ⟨t, 0, none⟩), .string ⟨pre.toArray⟩, .int .i64 most] w (fun e w' => ∃ F', AllAns w.heap.size F' most (under pre M) e w' ∧ KvAt w' F' X t m n own M c ∧ Only F w w' ∧ Grows F F' w) := by
  obtain ⟨D, ht, hb, rfl, rfl, rfl, hkl⟩ := h
  refine (all_ok ht hb hkl hpl hlen).mono ?_
  rintro e w1 ⟨F', h0, h1, h6, h7⟩
  exact ⟨F', h0, ⟨D, h1, hb, rfl, rfl, rfl, hkl⟩, h6, h7⟩
end
end Go.Proofs.YtdipjakblaeekaaGreat
namespace Go.Proofs.YtdipjakblaeekaaGreat
open Go.RowKit Go.Proofs Go.Shelf
set_option maxRecDepth 20000
attribute [local go_sem] Oper.semAt_some
section
variable {w w' : World} {F G : Nat → Prop} {X : XC} {t m np own c : Nat} {M : List KV}
def chunkOf (m : Nat) : Nat := min (NodeD.most m - 6) 200
theorem chunk_ok (h1 : 64 ≤ m) (h2 : m ≤ 4096) : Calls Tryz.prog 11 #[.int .i64 m] w fun e w' => e = .returned (.tuple #[.int .i64 (chunkOf m : Nat), .int .i64 0]) ∧ w = w' := by
  have hmo : 7 ≤ NodeD.most m := by unfold NodeD.most; omega
  have hmx : NodeD.most m ≤ 4096 := by unfold NodeD.most; omega
  have HM := Lib.hid (most_ok m h1 h2 w)
  obtain ⟨q, hq⟩ : ∃ q, q = NodeD.most m := ⟨_, rfl⟩
  have hc : chunkOf m = min (q - 6) 200 := by rw [hq]; rfl
  rw [hc]
  rw [← hq] at HM hmo hmx
  clear hc hq
  have hle : ¬ ((q : Int) ≤ 6) := by omega
  have hw1 : IntKind.i64.wrap ((q : Int) - 6) = (q : Int) - 6 := by rw [IntKind.wrap_i64]; omega
  obtain ⟨r, hr⟩ : ∃ r, r = min (q - 6) 200 := ⟨_, rfl⟩
  rw [← hr]
  have HR := Lib.hid hr
  clear hr
  by_cases hlt : (q : Int) - 6 < 200
  · have hr : (r : Int) = (q : Int) - 6 := by have := HR.out; omega
    rw [hr]
    clear hr
    go_enter Tryz.func11, Tryz.ntmps11
    go_wp2_with fail
    refine HM.out.mono ?_
    rintro e w1 ⟨rfl, rfl⟩
    go_wp2_with fail
    all_goals first | (go_ret2; exact ⟨rfl, rfl⟩) | (exfalso; omega)
  · have hr : (r : Int) = 200 := by have := HR.out; omega
    rw [hr]
    clear hr
    go_enter Tryz.func11, Tryz.ntmps11
    go_wp2_with fail
    refine HM.out.mono ?_
    rintro e w1 ⟨rfl, rfl⟩
    go_wp2_with fail
    all_goals first | (go_ret2; exact ⟨rfl, rfl⟩) | (exfalso; omega) | (go_ret2; refine ⟨?_, rfl⟩; show Ending.returned (Value.tuple #[Value.int IntKind.i64 ((q : Int) - 6), _]) = _; rw [show (q : Int) - 6 = 200 by omega]; rfl)
theorem chunk_bad (m : Int) (h : ¬ (64 ≤ m ∧ m ≤ 4096)) : Calls Tryz.prog 11 #[.int .i64 m] w fun e w' => e = .returned (.tuple #[.int .i64 0, .int .i64 1]) ∧ w = w' := by
  have HM := Lib.hid (most_bad m h w)
  clear h
  go_enter Tryz.func11, Tryz.ntmps11
  go_wp2_with fail
  refine HM.out.mono ?_
  rintro e w1 ⟨rfl, rfl⟩
  go_wp2_with fail
  go_ret2
  exact ⟨rfl, rfl⟩
theorem fprefix_ok (n : Int) : Calls Tryz.prog 51 #[.int .i64 n] w fun e w' => e = .returned (preAns n) ∧ Only NoB w w' := by
  have HP := Lib.hid (prefix_chunk (w := w) n)
  obtain ⟨a, b, hab⟩ : ∃ a b, preAns n = .tuple #[a, b] := by unfold preAns; split <;> exact ⟨_, _, rfl⟩
  rw [hab] at HP ⊢
  clear hab
  go_enter Tryz.func51, Tryz.ntmps51
  go_wp2_with fail
  refine HP.out.mono ?_
  rintro e w1 ⟨rfl, ho⟩
  have HO := Lib.hid ho
  clear ho
  go_wp2_with fail
  go_ret2
  exact ⟨rfl, HO.out⟩
def fpre (n : Int) : Str := (99 : UInt8) :: be3i n
theorem preAns_ok {n : Int} (h : 1 ≤ n ∧ n ≤ 16777215) : preAns n = .tuple #[.string ⟨(fpre n).toArray⟩, .int .i64 0] := by rw [preAns, if_pos h]; rfl
theorem preAns_bad {n : Int} (h : ¬ (1 ≤ n ∧ n ≤ 16777215)) : preAns n = .tuple #[.string ⟨#[]⟩, .int .i64 1] := by rw [preAns, if_neg h]
theorem fdrop_ok {n : Int} (h : KvAt w F X t m np own M c) (hn : 1 ≤ n ∧ n ≤ 16777215) (hlen : (under (fpre n) M).length ≤ 1000000) :
    Calls Tryz.prog 20 #[.pointer (some ⟨t, 0, none⟩), .int .i64 n] w (KvOut w F X t m np own (.tuple #[.int .i64 ((under (fpre n) M).length : Nat), .int .i64 0]) (rid (fpre n) M) c) := by
  have HP := Lib.hid (fprefix_ok (w := w) n)
  rw [preAns_ok hn] at HP
  have HH := Lib.hid h
  have HL := Lib.hid hlen
  have HD0 : Hid (∀ w1, Only NoB w w1 → Calls Tryz.prog 53 _ w1 _) := Lib.hid fun w1 ho => wdrop_ok (h.quit ho) (pre := fpre n) (by simp [fpre, be3i]) hlen
  obtain ⟨L, hL⟩ : ∃ L, L = (under (fpre n) M).length := ⟨_, rfl⟩
  rw [← hL] at HD0 ⊢
  clear h hlen hL
  go_enter Tryz.func20, Tryz.ntmps20
  go_wp2_with fail
  refine HP.out.mono ?_
  rintro e w1 ⟨rfl, ho⟩
  have HO := Lib.hid ho
  have HD := Lib.hid (HD0.out w1 ho)
  clear ho
  go_wp2_with fail
  refine HD.out.mono ?_
  rintro e w2 ⟨rfl, hk⟩
  have HK : Hid (KvOut w F X t m np own (.tuple #[.int .i64 (L : Nat), .int .i64 0]) (rid (fpre n) M) c (.returned (.tuple #[.int .i64 (L : Nat), .int .i64 0])) w2) := Lib.hid (KvOut.trans (HO.out.mono fun _ _ h => h.elim) (Grows.refl F w) ⟨rfl, hk⟩)
  clear hk
  go_wp2_with fail
  go_ret2
  exact HK.out
theorem fdrop_bad {n : Int} (hn : ¬ (1 ≤ n ∧ n ≤ 16777215)) :
    Calls Tryz.prog 20 #[.pointer (some ⟨t, 0, none⟩), .int .i64 n] w fun e w' => e = .returned (.tuple #[.int .i64 0, .int .i64 1]) ∧ Only NoB w w' := by
  have HP := Lib.hid (fprefix_ok (w := w) n)
  rw [preAns_bad hn] at HP
  clear hn
  go_enter Tryz.func20, Tryz.ntmps20
  go_wp2_with fail
  refine HP.out.mono ?_
  rintro e w1 ⟨rfl, ho⟩
  have HO := Lib.hid ho
  clear ho
  go_wp2_with fail
  go_ret2
  exact ⟨rfl, HO.out⟩
theorem KvAt.m12 (h : KvAt w F X t m np own M c) : 64 ≤ m ∧ m ≤ 4096 := by obtain ⟨D, _, hb, rfl, _⟩ := h; exact ⟨hb.1.m1, hb.1.m2⟩
theorem KvAt.bytes (h : KvAt w F X t m np own M c) : Calls Tryz.prog 80 #[.pointer (some ⟨t, 0, none⟩)] w fun e w' => e = .returned (.int .i64 m) ∧ w = w' := by
  obtain ⟨D, ht, _, rfl, _⟩ := h; exact ht.bytes
theorem ready_ok {n : Int} (h : KvAt w F X t m np own M c) (hn : 1 ≤ n ∧ n ≤ 16777215) :
    Calls Tryz.prog 49 #[.pointer (some ⟨t, 0, none⟩), .int .i64 n] w fun e w' => e = .returned (.tuple #[.int .i64 (chunkOf m : Nat), .int .i64 0]) ∧ Only NoB w w' := by
  have HP := Lib.hid (fprefix_ok (w := w) n)
  rw [preAns_ok hn] at HP
  have HH := Lib.hid h
  clear h
  go_enter Tryz.func49, Tryz.ntmps49
  go_wp2_with fail
  refine HP.out.mono ?_
  rintro e w1 ⟨rfl, ho⟩
  have HO := Lib.hid ho
  have HB := Lib.hid (HH.out.quit ho).bytes
  have HC := Lib.hid (chunk_ok (w := w1) HH.out.m12.1 HH.out.m12.2)
  clear ho
  go_wp2_with fail
  refine HB.out.mono ?_
  rintro e w2 ⟨rfl, rfl⟩
  go_wp2_with fail
  refine HC.out.mono ?_
  rintro e w2 ⟨rfl, rfl⟩
  go_wp2_with fail
  go_ret2
  exact ⟨rfl, HO.out⟩
theorem ready_bad {n : Int} (hn : ¬ (1 ≤ n ∧ n ≤ 16777215)) :
    Calls Tryz.prog 49 #[.pointer (some ⟨t, 0, none⟩), .int .i64 n] w fun e w' => e = .returned (.tuple #[.int .i64 0, .int .i64 1]) ∧ Only NoB w w' := by
  have HP := Lib.hid (fprefix_ok (w := w) n)
  rw [preAns_bad hn] at HP
  clear hn
  go_enter Tryz.func49, Tryz.ntmps49
  go_wp2_with fail
  refine HP.out.mono ?_
  rintro e w1 ⟨rfl, ho⟩
  have HO := Lib.hid ho
  clear ho
  go_wp2_with fail
  go_ret2
  exact ⟨rfl, HO.out⟩
end
end Go.Proofs.YtdipjakblaeekaaGreat
namespace Go.Proofs.YtdipjakblaeekaaGreat
section
variable {M : List KV} {p k v d : Str} {c i j : Nat}
def ckey (p : Str) (i : Nat) : Str := p ++ be2 i
def chunkN (c L : Nat) : Nat := (L + c - 1) / c
def chunkAt (c : Nat) (d : Str) (i : Nat) : Str := (d.drop (c * i)).take c
def chunks (c : Nat) (p d : Str) : List KV := (List.range (chunkN c d.length)).map fun i => (ckey p i, chunkAt c d i)
theorem chunks_len : (chunks c p d).length = chunkN c d.length := by simp [chunks]
theorem chunkN_lt {L : Nat} (hc : 0 < c) : i < chunkN c L ↔ c * i < L := by
  unfold chunkN
  rw [Nat.lt_div_iff_mul_lt hc, Nat.mul_comm]
  omega
theorem chunks_take (hc : 0 < c) (hi : c * i < d.length) : (chunks c p d).take (i + 1) = (chunks c p d).take i ++ [(ckey p i, chunkAt c d i)] := by
  have h : i < (chunks c p d).length := by rw [chunks_len]; exact (chunkN_lt hc).2 hi
  rw [List.take_succ_eq_append_getElem h]
  simp [chunks]
theorem chunks_all (hc : 0 < c) (hi : d.length ≤ c * i) : (chunks c p d).take i = chunks c p d := by
  apply List.take_of_length_le
  rw [chunks_len]
  have : ¬ i < chunkN c d.length := fun h => by have := (chunkN_lt hc).1 h; omega
  omega
theorem lts_pre : ∀ (p : Str) {a b : Str}, lts a b → lts (p ++ a) (p ++ b)
  | [], _, _, h => h
  | x :: p, _, _, h => lts_cons.2 (.inr ⟨rfl, lts_pre p h⟩)
theorem be2_lts (hij : i < j) (hj : j ≤ 65535) : lts (be2 i) (be2 j) := by
  unfold be2
  by_cases h : i / 256 = j / 256
  · rw [h]
    refine lts_cons.2 (.inr ⟨rfl, lts_cons.2 (.inl ?_)⟩)
    rw [UInt8.lt_iff_toNat_lt, UInt8.toNat_ofNat', UInt8.toNat_ofNat']
    omega
  · refine lts_cons.2 (.inl ?_)
    rw [UInt8.lt_iff_toNat_lt, UInt8.toNat_ofNat', UInt8.toNat_ofNat']
    omega
theorem ckey_lts (hij : i < j) (hj : j ≤ 65535) : lts (ckey p i) (ckey p j) := lts_pre p (be2_lts hij hj)
theorem hasP_ckey : hasP p (ckey p i) = true := by simp [hasP, ckey]
theorem chunks_keys {x : KV} (hx : x ∈ (chunks c p d).take i) : ∃ j, j < i ∧ x.1 = ckey p j := by
  obtain ⟨j, hj, rfl⟩ := List.getElem_of_mem hx
  rw [List.length_take] at hj
  refine ⟨j, by omega, ?_⟩
  simp [chunks]
theorem under_ins : ∀ {M : List KV}, Srt M → hasP p k = true → (∀ x ∈ under p M, lts x.1 k) → under p (ins k v M) = under p M ++ [(k, v)] ∧ rid p (ins k v M) = rid p M
  | [], _, hk, _ => by simp [ins, under, rid, hk]
  | x :: M, hs, hk, hl => by
    have hs' := List.pairwise_cons.1 hs
    rw [ins]
    split
    · rename_i hlt
      have hnone : under p (x :: M) = [] := by
        apply List.filter_eq_nil_iff.2
        intro y hy hyp
        have h1 := hl y (List.mem_filter.2 ⟨hy, hyp⟩)
        rcases List.mem_cons.1 hy with rfl | hy
        · exact lts_asymm hlt h1
        · exact lts_asymm (lts_trans hlt (hs'.1 y hy)) h1
      rw [hnone]
      unfold under at hnone ⊢
      unfold rid
      rw [List.filter_cons_of_pos (by simpa using hk), hnone, List.filter_cons_of_neg (by simp [hk])]
      exact ⟨rfl, rfl⟩
    · rename_i hlt
      split
      · rename_i he
        have h1 := hl x (List.mem_filter.2 ⟨by simp, by rw [he]; exact hk⟩)
        rw [he] at h1
        exact (lts_irrefl _ h1).elim
      · obtain ⟨h1, h2⟩ := under_ins (M := M) hs'.2 hk fun y hy => hl y (by unfold under at hy ⊢; exact List.mem_filter.2 ⟨List.mem_cons_of_mem _ (List.mem_filter.1 hy).1, (List.mem_filter.1 hy).2⟩)
        unfold under at h1 ⊢
        unfold rid at h2 ⊢
        by_cases hx : hasP p x.1 = true
        · refine ⟨?_, ?_⟩
          · rw [List.filter_cons_of_pos (by simpa using hx), List.filter_cons_of_pos (by simpa using hx), h1]; rfl
          · rw [List.filter_cons_of_neg (by simp [hx]), List.filter_cons_of_neg (by simp [hx]), h2]
        · refine ⟨?_, ?_⟩
          · rw [List.filter_cons_of_neg (by simpa using hx), List.filter_cons_of_neg (by simpa using hx), h1]
          · rw [List.filter_cons_of_pos (by simpa using hx), List.filter_cons_of_pos (by simpa using hx), h2]
theorem under_rid_self : under p (rid p M) = [] := by
  apply List.filter_eq_nil_iff.2
  intro y hy hyp
  have := (List.mem_filter.1 hy).2
  rw [hyp] at this
  cases this
theorem rid_rid : rid p (rid p M) = rid p M := by
  unfold rid
  rw [List.filter_filter]
  congr 1; funext x; simp
theorem under_other {q : Str} (hl : p.length = q.length) (hne : p ≠ q) : under q (rid p M) = under q M := by
  unfold under rid
  rw [List.filter_filter]
  apply List.filter_congr
  intro x _
  cases hq : hasP q x.1 with
  | false => rfl
  | true =>
    have : hasP p x.1 = false := by
      cases hp : hasP p x.1 with
      | false => rfl
      | true =>
        simp [hasP] at hp hq
        rw [hl] at hp
        exact (hne (hp.symm.trans hq)).elim
    rw [this]; rfl
end
end Go.Proofs.YtdipjakblaeekaaGreat
namespace Go.Proofs.YtdipjakblaeekaaGreat
open Go.RowKit Go.Proofs Go.Shelf
set_option maxRecDepth 20000
attribute [local go_sem] Oper.semAt_some
section
variable {w w' : World} {F G : Nat → Prop} {X : XC} {t m np own c n : Nat} {M : List KV} {d : Str}
def WrSt (w : World) (F : Nat → Prop) (X : XC) (t m np own n : Nat) (M : List KV) (c : Nat) (d : Str) (i : Nat) (v : Value) (wr : World) : Prop :=
  ∃ Mk, ∃ Fk, KvAt wr Fk X t m np own Mk (c + i) ∧ under (fpre n) Mk = (chunks (chunkOf m) (fpre n) d).take i ∧ rid (fpre n) Mk = rid (fpre n) M ∧ Only F w wr ∧ Grows F Fk w ∧ Bytes wr (fun k => w.heap.size ≤ k ∧ ¬ Fk k) v (d.drop (chunkOf m * i)) ∧ i ≤ chunkN (chunkOf m) d.length
def WrOut (w : World) (F : Nat → Prop) (X : XC) (t m np own n : Nat) (M : List KV) (c : Nat) (d : Str) (e : Ending) (w' : World) : Prop :=
  e = .returned (.int .i64 0) ∧ ∃ M' F', KvAt w' F' X t m np own M' c ∧ under (fpre n) M' = chunks (chunkOf m) (fpre n) d ∧ rid (fpre n) M' = rid (fpre n) M ∧ Only F w w' ∧ Grows F F' w
theorem bytesWorld_only (w : World) (e : TypeId) (s : ByteArray) : Only NoB w (Lib.bytesWorld w e s) :=
  ⟨rfl, rfl, rfl, by rw [Lib.bytesWorld_size]; omega, fun k hk _ => Lib.bytesWorld_at_old w e s k hk⟩
theorem le_grownCap (w : World) (n old : Nat) (e : TypeId) : n ≤ grownCap w n old e := by
  unfold grownCap
  simp [Question.cut]
set_option maxHeartbeats 2000000 in
theorem fwrite_ok (h : KvAt w F X t m np own M c) (hn : 1 ≤ n ∧ n ≤ 16777215) (hd : d.length ≤ 65536) (hN : chunkN (chunkOf m) d.length ≤ 65536) (hroom : c + chunkN (chunkOf m) d.length ≤ np - (own + 1)) (hlen : (under (fpre n) M).length ≤ 1000000) :
    Calls Tryz.prog 16 #[.pointer (some ⟨t, 0, none⟩), .int .i64 n, .string ⟨d.toArray⟩] w (WrOut w F X t m np own n M (c + chunkN (chunkOf m) d.length) d) := by
  have hch : 1 ≤ chunkOf m ∧ chunkOf m ≤ 200 := by
    have := h.m12
    unfold chunkOf NodeD.most
    omega
  have HR := Lib.hid (ready_ok (n := n) h (by omega))
  have HD : Hid (∀ w1, Only NoB w w1 → Calls Tryz.prog 20 _ w1 _) := Lib.hid fun w1 ho => fdrop_ok (n := n) (h.quit ho) (by omega) hlen
  obtain ⟨L, hL⟩ : ∃ L, L = d.length := ⟨_, rfl⟩
  obtain ⟨ch, hc⟩ : ∃ ch, ch = chunkOf m := ⟨_, rfl⟩
  obtain ⟨L0, hL0⟩ : ∃ L0, L0 = (under (fpre n) M).length := ⟨_, rfl⟩
  rw [← hL0] at HD
  rw [← hc] at HR hch hN
  rw [← hL] at hN hd
  have hq : ¬ (65536 < ((L : Int) + ch - 1) / ch) := by
    have : (((L + ch - 1 : Nat) / ch : Nat) : Int) = ((L : Int) + ch - 1) / ch := by
      rw [Int.natCast_ediv]
      congr 1; omega
    unfold chunkN at hN
    omega
  have hdl : d.length = L := hL.symm
  have hL1 : (L : Int) ≤ 65536 := by omega
  have hc0 : (ch : Int) ≠ 0 := by omega
  have hc1 : (1 : Int) ≤ ch := by omega
  have HH := Lib.hid h
  have HN := Lib.hid hn
  have HLL := Lib.hid hL
  have HC := Lib.hid hc
  clear h hlen hL hc hL0
  go_enter Tryz.func16, Tryz.ntmps16
  go_wp2_with fail
  refine HR.out.mono ?_
  rintro e w1 ⟨rfl, ho⟩
  have HO := Lib.hid ho
  clear ho
  go_wp2_with fail
  refine (HD.out w1 HO.out).mono ?_
  rintro e w2 ⟨rfl, F2, hk2, ho2, hg2⟩
  have hr : (ByteArray.mk d.toArray).size = L := by show d.toArray.size = L; simpa using hdl
  have hcv := Lib.run_convert_string_bytes (P := Tryz.prog) w2 9 50 5 ⟨d.toArray⟩ (u := .string) (by kernel_rfl) (by kernel_rfl) (by kernel_rfl)
  rw [hr] at hcv
  obtain ⟨W3, hW3⟩ : ∃ W3, W3 = Lib.bytesWorld w2 5 ⟨d.toArray⟩ := ⟨_, rfl⟩
  obtain ⟨cp, hcp⟩ : ∃ cp, cp = grownCap w2 L 0 5 := ⟨_, rfl⟩
  rw [← hW3, ← hcp] at hcv
  have ho3 : Only NoB w2 W3 := by rw [hW3]; exact bytesWorld_only _ _ _
  have hcpL : L ≤ cp := by rw [hcp]; exact le_grownCap _ _ _ _
  have hby : Bytes W3 (fun k => k = w2.heap.size) (.slice (some ⟨w2.heap.size, 0, none⟩) L cp) d := by
    rw [← hdl] at hcpL ⊢
    refine ⟨_, _, rfl, hcpL, by simp, fun _ => ⟨_, rfl, rfl, fun j u hu => ?_⟩⟩
    rw [Addr.add_lit, Nat.zero_add, hW3, Lib.bytesWorld_cell _ _ _ _ (by
      have := (List.getElem?_eq_some_iff.1 hu).1
      rw [List.length_map] at this
      show j < d.toArray.size
      simpa using this)]
    rw [List.getElem?_map] at hu
    cases hq : d[j]? with
    | none => rw [hq] at hu; cases hu
    | some x =>
      rw [hq] at hu
      injection hu with hu
      rw [← hu]
      show some (Value.int .u8 (d.toArray.toList.getD j 0).toNat) = some (byteV x)
      rw [List.getD_eq_getElem?_getD]
      simp [hq, byteV]
  have hs2 := ho2.size
  have hs1 := HO.out.size
  have HS : Hid (WrSt w F X t m np own n M c d 0 (.slice (some ⟨w2.heap.size, 0, none⟩) L cp) W3) := Lib.hid ⟨_, F2, hk2.quit ho3, by rw [under_rid_self]; rfl, rid_rid, (((HO.out.mono fun _ _ h => h.elim).trans' ho2 fun k hk hf => hf).trans' ho3 fun k hk hf => hf.elim), fun k hk => (hg2 k hk).imp id fun h => by omega, by
    rw [Nat.mul_zero, List.drop_zero]
    exact hby.mono fun k hk _ => by rw [hk]; exact ⟨by omega, fun hf => by have := hk2.lt _ hf; omega⟩, Nat.zero_le _⟩
  clear hW3 hby ho3 hk2 ho2 hg2 hs2 hs1 HD HR hcp hcpL hr
  go_wp2_with fail
  clear hcv hq hL1 hdl
  go_loopg [11, 12] L (fun g s11 s12 wr => ∃ i : Nat, s12 = .int .i64 i ∧ g = L - ch * i ∧ Hid (WrSt w F X t m np own n M c d i s11 wr))
  case atStart => exact ⟨0, rfl, by simp, HS⟩
  case round =>
    clear HS HO
    obtain ⟨i, rfl, hgk, HS⟩ := hrel
    obtain ⟨Mk, Fk, hkv, hun, hri, hon, hgr, hby, hile⟩ := HS.out
    rw [← HC.out] at hun hby hile
    obtain ⟨l, hl⟩ : ∃ l, l = (d.drop (ch * i)).length := ⟨_, rfl⟩
    have hlL : l = L - ch * i := by rw [hl, HLL.out, List.length_drop]
    by_cases hl0 : l = 0
    · subst hl0
      obtain ⟨A, c2, rfl, _⟩ := hby
      have hdn : d.length ≤ ch * i := by have := HLL.out; omega
      rw [chunks_all (by omega) hdn] at hun
      have HE : Hid (WrOut w F X t m np own n M (c + chunkN (chunkOf m) d.length) d (.returned (.int .i64 0)) wr) := Lib.hid ⟨rfl, Mk, Fk, hkv.mono (by rw [← HC.out]; omega), by rw [← HC.out]; exact hun, hri, hon, hgr⟩
      rw [← hl]
      clear hkv hun hri hon hgr hl hlL hdn hile HS hgk
      go_wp2_with fail
      go_ret
      exact HE.out
    · have hl1 : 0 < (d.drop (ch * i)).length := by omega
      obtain ⟨g, off, c2, rfl, hlc, hKg, hcell⟩ := hby.open_ hl1
      rw [← hl] at hlc hby ⊢
      have hil : ch * i < d.length := by have := HLL.out; omega
      have hi := (chunkN_lt (by omega)).2 hil
      have hi6 : i ≤ 65535 := by have := HLL.out; rw [← this] at hi; omega
      have hcv : ∀ (r : Nat) (w' : World), r ≤ l → Only NoB wr w' → (convert 50 9 (.slice (some ⟨g, off, none⟩) r r)).run Tryz.prog w' = .ok (.string ⟨((d.drop (ch * i)).take r).toArray⟩) w' := fun r w' hrl ho => by
        refine conv_bytes' (K := fun _ => True) (Rd.only (G := NoB) (F := fun _ => True) ?_ ho fun _ _ => id)
        have h1 : Rd wr _ 1 (.slice (some ⟨g, off, none⟩) r c2) r _ := Rd.take_ (w := wr) (n := l) (size := 1) (xs := (d.drop (ch * i)).map byteV) (by rw [hl] at hby ⊢; exact hby) hrl
        obtain ⟨A, c3, hv, hc3, hl3, hx⟩ := h1
        rw [Nat.mul_one, ← List.map_take] at hl3 hx
        have hlr : ((d.drop (ch * i)).take r).length = r := by rw [List.length_take]; omega
        rw [hlr]
        refine ⟨_, _, rfl, Nat.le_refl _, by rw [hl3, Nat.mul_one], fun h0 => ?_⟩
        obtain ⟨ad, h4, h5, h6⟩ := hx (by omega)
        injection hv with q1
        exact ⟨ad, q1.trans h4, trivial, h6⟩
      have hput : ∀ (r : Nat) (w5 : World), r = min ch l → Only NoB wr w5 → Calls Tryz.prog 36 #[.pointer (some ⟨t, 0, none⟩), .string ⟨((99 : UInt8) :: (be3 n ++ be2 i)).toArray⟩, .string ⟨((d.drop (ch * i)).take r).toArray⟩] w5 (fun e w6 => (∃ b, e = .returned (.tuple #[.bool b, .int .i64 0])) ∧ ∀ v, (v = .slice (some ⟨g, off + r, none⟩) (l - r) (c2 - r) ∨ (c2 = r ∧ v = .slice (some ⟨g, off, none⟩) (l - r) 0)) → WrSt w F X t m np own n M c d (i + 1) v w6) := fun r w5 hr ho5 => by
        have hkey : (99 : UInt8) :: (be3 n ++ be2 i) = ckey (fpre n) i := by unfold ckey fpre; rw [be3i_nat HN.out.2]; rfl
        have hval : (d.drop (ch * i)).take r = chunkAt ch d i := by
          unfold chunkAt
          rw [hr]
          by_cases hcl : ch ≤ l
          · rw [Nat.min_eq_left hcl]
          · rw [Nat.min_eq_right (by omega), List.take_of_length_le (by omega), List.take_of_length_le (by omega)]
        rw [hkey, hval]
        have hkl : (ckey (fpre n) i).length = 6 := by simp [ckey, fpre, be3i, be2]
        have hvl : (chunkAt ch d i).length ≤ ch := by unfold chunkAt; rw [List.length_take]; omega
        have hpok : PairOk m (ckey (fpre n) i, chunkAt ch d i) := by
          have h12 := hkv.m12
          have hce := HC.out
          unfold chunkOf at hce
          have hmo : 7 ≤ NodeD.most m := by unfold NodeD.most; omega
          refine ⟨by show 1 ≤ (ckey (fpre n) i).length; omega, by show (ckey (fpre n) i).length ≤ 255; omega, by show (chunkAt ch d i).length ≤ 255; omega, by show (ckey (fpre n) i).length + (chunkAt ch d i).length ≤ _; omega⟩
        have hbefore : ∀ x ∈ under (fpre n) Mk, lts x.1 (ckey (fpre n) i) := fun x hx => by
          rw [hun] at hx
          obtain ⟨j, hj, hxe⟩ := chunks_keys hx
          rw [hxe]
          exact ckey_lts hj hi6
        obtain ⟨hu1, hu2⟩ := under_ins (v := chunkAt ch d i) hkv.srt hasP_ckey hbefore
        refine (kv_put (hkv.quit ho5) (by rw [← HC.out] at hroom; omega) hpok (by omega)).mono ?_
        rintro e w6 ⟨rfl, F6, hk6, ho6, hg6⟩
        have hs5 := ho5.size
        have hsr := hon.size
        refine ⟨⟨_, rfl⟩, fun v hv => ⟨_, F6, hk6, by rw [hu1, hun, ← HC.out, ← chunks_take (by omega) hil], hu2.trans hri, (hon.trans' ho5 fun k hk hf => hf.elim).trans' ho6 fun k hk hf => (hgr k hf).elim id fun h => by omega, fun k hk => (hg6 k hk).elim (fun h => hgr k h) fun h => .inr (by omega), ?_, by rw [← HC.out]; omega⟩⟩
        have hd1 : Rd wr _ 1 (.slice (some ⟨g, off + r * 1, none⟩) (l - r) (c2 - r)) (l - r) _ := Rd.drop_ (w := wr) (n := l) (k := r) (size := 1) (xs := (d.drop (ch * i)).map byteV) (by rw [hl] at hby ⊢; exact hby) (by omega)
        rw [Nat.mul_one, ← List.map_drop, List.drop_drop] at hd1
        have hdd : d.drop (ch * i + r) = d.drop (ch * (i + 1)) := by
          rw [Nat.mul_succ]
          by_cases hcl : ch ≤ l
          · rw [hr, Nat.min_eq_left hcl]
          · have hL := HLL.out
            rw [List.drop_of_length_le (by omega), List.drop_of_length_le (by omega)]
        have hdl : l - r = (d.drop (ch * (i + 1))).length := by rw [← hdd, List.length_drop]; have := HLL.out; omega
        rw [hdd] at hd1
        rw [← HC.out]
        unfold Bytes
        rw [← hdl]
        rcases hv with rfl | ⟨hcr, rfl⟩
        · refine (((hd1.mono (G := fun k => (w.heap.size ≤ k ∧ ¬ Fk k) ∧ k < wr.heap.size) fun k hk hlk => ⟨hk, hlk⟩).only ho5 fun _ _ => id).only ho6 fun k hk => hk.1.2).mono fun k hk _ => ⟨hk.1.1, fun hf => ?_⟩
          rcases hg6 k hf with h1 | h1
          · exact hk.1.2 h1
          · have := hk.2; omega
        · have h0 : l - r = 0 := by omega
          rw [h0] at hdl ⊢
          have hnil : d.drop (ch * (i + 1)) = [] := List.length_eq_zero_iff.1 hdl.symm
          rw [hnil]
          exact ⟨_, _, rfl, Nat.le_refl _, rfl, fun h => by omega⟩
      have HPUT := Lib.hid hput
      have HB := Lib.hid (bytes_chunk (w := wr) (n := n) (m := i) HN.out hi6)
      have hl2 : (0 : Int) < l := by omega
      have HCV := Lib.hid hcv
      have HKV := Lib.hid hkv
      have HUN := Lib.hid hun
      have HRI := Lib.hid hri
      have HON := Lib.hid hon
      have HGR := Lib.hid hgr
      have HBY := Lib.hid hby
      have HI := Lib.hid hi
      have HIL := Lib.hid hil
      have HLD := Lib.hid hl
      have HLE := Lib.hid hlL
      have HGK := Lib.hid hgk
      have HKG := Lib.hid hKg
      unfold keyC at HB
      have hi6' := hi6
      clear hput hcv hkv hun hri hon hgr hby hi hil hl hlL hgk hKg hcell hile HS hl1 hi6
      by_cases hcl : (ch : Int) ≤ l
      · go_wp2_with fail
        refine HB.out.mono ?_
        rintro e w5 ⟨rfl, ho5⟩
        have hcv := HCV.out ch w5 (by omega) ho5
        have HP := Lib.hid (HPUT.out ch w5 (by omega) ho5)
        clear ho5
        go_wp2_with fail
        refine HP.out.mono ?_
        rintro e w6 ⟨⟨b, rfl⟩, hst⟩
        have HST := Lib.hid hst
        have hw1 : IntKind.i64.wrap ((i : Int) + 1) = (i : Int) + 1 := by
          have := hi6'
          rw [IntKind.wrap_i64]; omega
        have hlt : L - ch * (i + 1) < gk := by
          have h1 := HGK.out
          have h2 := HLE.out
          rw [Nat.mul_succ]; omega
        clear hst hcv
        go_wp2_with fail
        · go_roundg (L - ch * (i + 1))
          case measure => exact hlt
          case rel => exact ⟨i + 1, rfl, rfl, Lib.hid (HST.out _ (.inr ⟨by omega, by simp⟩))⟩
        · go_roundg (L - ch * (i + 1))
          case measure => exact hlt
          case rel => exact ⟨i + 1, rfl, rfl, Lib.hid (HST.out _ (.inl (by simp)))⟩
      · go_wp2_with fail
        refine HB.out.mono ?_
        rintro e w5 ⟨rfl, ho5⟩
        have hcv := HCV.out l w5 (by omega) ho5
        have HP := Lib.hid (HPUT.out l w5 (by omega) ho5)
        clear ho5
        go_wp2_with fail
        refine HP.out.mono ?_
        rintro e w6 ⟨⟨b, rfl⟩, hst⟩
        have HST := Lib.hid hst
        have hw1 : IntKind.i64.wrap ((i : Int) + 1) = (i : Int) + 1 := by
          have := hi6'
          rw [IntKind.wrap_i64]; omega
        have hlt : L - ch * (i + 1) < gk := by
          have h1 := HGK.out
          have h2 := HLE.out
          rw [Nat.mul_succ]; omega
        clear hst hcv
        go_wp2_with fail
        · go_roundg (L - ch * (i + 1))
          case measure => exact hlt
          case rel => exact ⟨i + 1, rfl, rfl, Lib.hid (HST.out _ (.inr ⟨by omega, by simp⟩))⟩
        · go_roundg (L - ch * (i + 1))
          case measure => exact hlt
          case rel => exact ⟨i + 1, rfl, rfl, Lib.hid (HST.out _ (.inl (by simp)))⟩
end
end Go.Proofs.YtdipjakblaeekaaGreat
namespace Go.Proofs.YtdipjakblaeekaaGreat
open Go.RowKit Go.Proofs Go.Shelf
set_option maxRecDepth 20000
attribute [local go_sem] Oper.semAt_some
section
variable {w w' : World} {F G : Nat → Prop} {X : XC} {t m np own c n s : Nat} {M : List KV} {d : Str}
def rdAns (d : Str) (s : Nat) : Value := if s = d.length then .tuple #[.string ⟨d.toArray⟩, .int .i64 0] else .tuple #[.string ⟨#[]⟩, .int .i64 4]
theorem chunkN_eq (L ch : Nat) (hc : 1 ≤ ch) : ((L : Int) + ch - 1) / ch = (chunkN ch L : Nat) := by
  unfold chunkN
  rw [Int.natCast_ediv]
  congr 1; omega
def RdSt (B : Nat) (F' : Nat → Prop) (ch : Nat) (d : Str) (w1 : World) (i : Nat) (v : Value) (wr : World) : Prop :=
  Only NoB w1 wr ∧ Own wr (fun k => B ≤ k) 5 1 v (min (ch * i) d.length) ((d.take (ch * i)).map byteV)
set_option maxHeartbeats 2000000 in
theorem fread_ok (h : KvAt w F X t m np own M c) (hn : 1 ≤ n ∧ n ≤ 16777215) (hs : s ≤ 65536) (hd : d.length ≤ 65536) (hun : under (fpre n) M = chunks (chunkOf m) (fpre n) d) :
    Calls Tryz.prog 18 #[.pointer (some ⟨t, 0, none⟩), .int .i64 n, .int .i64 s] w (KvOut w F X t m np own (rdAns d s) M c) := by
  have hch : 1 ≤ chunkOf m ∧ chunkOf m ≤ 200 := by
    have := h.m12
    unfold chunkOf NodeD.most
    omega
  have HR := Lib.hid (ready_ok (n := n) h (by omega))
  have hPR := fun w1 => fprefix_ok (w := w1) n
  rw [preAns_ok (by omega)] at hPR
  have HPR := Lib.hid hPR
  have hlen : (under (fpre n) M).length = chunkN (chunkOf m) d.length := by rw [hun, chunks_len]
  have hNd : chunkN (chunkOf m) d.length ≤ 65536 := by
    rw [chunkN]
    refine Nat.le_trans (Nat.div_le_div_right (c := chunkOf m) (b := 65536 * chunkOf m + (chunkOf m - 1)) (by have : 65536 * 1 ≤ 65536 * chunkOf m := Nat.mul_le_mul_left _ hch.1; omega)) ?_
    rw [Nat.mul_comm, Nat.mul_add_div (by omega), Nat.div_eq_of_lt (by omega)]
    omega
  have HA : Hid (∀ (w1 : World) (q : Nat), Only NoB w w1 → Calls Tryz.prog 23 #[.pointer (some ⟨t, 0, none⟩), .string ⟨(fpre n).toArray⟩, .int .i64 q] w1 _) := Lib.hid fun w1 q ho => kv_all (most := q) (h.quit ho) (pre := fpre n) (by simp [fpre, be3i]) (by omega)
  obtain ⟨ch, hc⟩ : ∃ ch, ch = chunkOf m := ⟨_, rfl⟩
  rw [← hc] at HR hch hNd hlen hun
  have hq := chunkN_eq s ch hch.1
  obtain ⟨q, hqe⟩ : ∃ q, q = chunkN ch s := ⟨_, rfl⟩
  rw [← hqe] at hq
  have hs1 : (s : Int) ≤ 65536 := by omega
  have hc0 : (ch : Int) ≠ 0 := by omega
  have hc1 : (1 : Int) ≤ ch := by omega
  have HN := Lib.hid hn
  have HH := Lib.hid h
  have HUN := Lib.hid hun
  have HLEN := Lib.hid hlen
  have HND := Lib.hid hNd
  have HQE := Lib.hid hqe
  obtain ⟨R, hR⟩ : ∃ R, R = rdAns d s := ⟨_, rfl⟩
  rw [← hR]
  have HRE := Lib.hid hR
  clear h hn hc hun hlen hNd hqe hR hPR
  go_enter Tryz.func18, Tryz.ntmps18
  go_wp2_with fail
  refine HR.out.mono ?_
  rintro e w1 ⟨rfl, ho⟩
  have HO := Lib.hid ho
  clear ho
  go_wp2_with fail
  refine (HPR.out w1).mono ?_
  rintro e w2 ⟨rfl, ho⟩
  have HO2 := Lib.hid (HO.out.trans ho)
  clear ho
  go_wp2_with fail
  refine (HA.out w2 q HO2.out).mono ?_
  rintro e w3 ⟨F3, hall, hk3, ho3, hg3⟩
  have hkk : KvAt w3 F3 X t m np own M c ∧ Only F w w3 ∧ Grows F F3 w := ⟨hk3, (HO2.out.mono fun _ _ h => h.elim).trans' ho3 fun k hk hf => hf, fun k hk => (hg3 k hk).imp id fun h => Nat.le_trans HO2.out.size h⟩
  have HKK := Lib.hid hkk
  have hs3 := Nat.le_trans HO2.out.size ho3.size
  have hs2 := HO2.out.size
  clear hk3 ho3 hg3 hkk
  rcases hall with ⟨hle, v, rfl, hown⟩ | ⟨hgt, rfl⟩
  · obtain ⟨A, cp, rfl, _⟩ := hown.shape
    obtain ⟨N, hN⟩ : ∃ N, N = (under (fpre n) M).length := ⟨_, rfl⟩
    rw [← hN] at hle hown ⊢
    by_cases hqN : N = q
    · subst hqN
      have HOW := Lib.hid hown
      have HNE := Lib.hid hN
      have HST : Hid (RdSt w3.heap.size F3 ch d w3 0 (.slice none 0 0) w3) := Lib.hid ⟨Only.refl _ _, by simpa using Own.nil w3 _ 5 1⟩
      clear hown hN hle
      go_wp2_with fail
      go_loopg [14, 73] N (fun g s14 s73 wr => ∃ i : Nat, s73 = .int .i64 i ∧ i ≤ N ∧ g = N - i ∧ Hid (RdSt w3.heap.size F3 ch d w3 i s14 wr))
      case atStart => exact ⟨0, rfl, Nat.zero_le _, rfl, HST⟩
      case round =>
        clear HST
        obtain ⟨i, rfl, hiN, hgk, HST⟩ := hrel
        obtain ⟨how, hov⟩ := HST.out
        obtain ⟨A2, c2, rfl, _⟩ := hov.shape
        by_cases hlt : i < N
        · have hltI : (i : Int) < (N : Int) := by omega
          have hlen := HLEN.out
          have hxe : (under (fpre n) M)[i]? = some (ckey (fpre n) i, chunkAt ch d i) := by
            rw [HUN.out]
            unfold chunks
            rw [List.getElem?_map, List.getElem?_range (by rw [← hlen, ← HNE.out]; exact hlt)]; rfl
          have hkey : ckey (fpre n) i = (99 : UInt8) :: (be3 n ++ be2 i) := by unfold ckey fpre; rw [be3i_nat HN.out.2]; rfl
          obtain ⟨hx1, hx2⟩ := pairL_get hxe
          have how3 := HOW.out.only how fun _ _ => id
          obtain ⟨g, c3, cs, hve, hnc, hKg, hB, hcs, hcell, hcl, _⟩ := how3.open_ (by omega)
          injection hve with q1 q2 q3
          subst q1; subst q3
          have y1 := hcl _ _ hx1
          have y2 := hcl _ _ hx2
          rw [hkey] at y1
          unfold strV at y1 y2
          obtain ⟨V, hV⟩ : ∃ V, V = chunkAt ch d i := ⟨_, rfl⟩
          rw [← hV] at y2
          simp only at y1 y2
          have hVl : V.length = min ch (d.length - ch * i) := by rw [hV]; unfold chunkAt; rw [List.length_take, List.length_drop]
          have hil : ch * i < d.length := (chunkN_lt (by omega)).1 (by rw [← hlen, ← HNE.out]; exact hlt)
          have hi6 : i ≤ 65535 := by have := HND.out; have := HNE.out; omega
          have hms : N - (i + 1) < gk := by omega
          have HB : Hid (∀ w', Calls Tryz.prog 50 #[.agg (keyC 3 [] [] n i)] w' _) := Lib.hid fun w' => bytes_chunk HN.out hi6
          unfold keyC at HB
          obtain ⟨lo, hlo⟩ : ∃ lo, lo = min (ch * i) d.length := ⟨_, rfl⟩
          rw [← hlo] at hov ⊢
          have HOV0 := Lib.hid hov
          have HSTEP : Hid (∀ w5 v8 w8, Only NoB wr w5 → App w5 (fun k => w3.heap.size ≤ k) 5 1 (.slice A2 lo c2) lo (ByteArray.mk V.toArray).size ((d.take (ch * i)).map byteV) (Lib.strCells ⟨V.toArray⟩) v8 w8 → RdSt w3.heap.size F3 ch d w3 (i + 1) v8 w8) := Lib.hid fun w5 v8 w8 ho5 ha => by
            have hsz : (ByteArray.mk V.toArray).size = V.length := by show V.toArray.size = _; simp
            rw [hsz, strCells_mk] at ha
            refine ⟨(how.trans ho5).trans' ha.only fun k hk hf => ?_, ?_⟩
            · have := hov.2 k hf; omega
            · have h1 := ha.own
              have hcat : d.take (ch * i) ++ V = d.take (ch * (i + 1)) := by rw [hV]; unfold chunkAt; rw [← List.take_add, ← Nat.mul_succ]
              rw [← List.map_append, hcat] at h1
              have hln : lo + V.length = min (ch * (i + 1)) d.length := by rw [hlo, hVl, Nat.mul_succ]; omega
              rw [hln] at h1
              refine h1.mono fun k hk _ => ?_
              rcases hk with hk | hk
              · exact hk
              · have := how.size; have := ho5.size; omega
          have hlo6 : lo ≤ 65536 := by omega
          have hVc : V.length ≤ 200 := by omega
          by_cases hlast : i + 1 < N
          · have hl1 : (i : Int) + 1 < (N : Int) := by omega
            have hil2 : ch * (i + 1) < d.length := (chunkN_lt (by omega)).1 (by rw [← hlen, ← HNE.out]; exact hlast)
            have hvl : V.length = ch := by rw [hVl]; rw [Nat.mul_succ] at hil2; omega
            clear hVl hV hx1 hx2 hcell hcl hB hcs hKg hnc how3 hov how hlen hxe hkey hlo hil hil2 hgk HST
            go_wp2_with fail
            refine (HB.out _).mono ?_
            rintro e w5 ⟨rfl, ho5⟩
            have HO5 := Lib.hid (((Only.refl NoB wr).alloc (.cells #[.string ⟨((99 : UInt8) :: (be3 n ++ be2 i)).toArray⟩, .string ⟨V.toArray⟩] 52)).trans ho5)
            have HOV := Lib.hid (HOV0.out.only HO5.out fun _ _ => id)
            have hb5 := (Blk.new wr 52 #[.string ⟨((99 : UInt8) :: (be3 n ++ be2 i)).toArray⟩, .string ⟨V.toArray⟩]).only ho5 id
            have z1 := hb5.cell 0
            have z2 := hb5.cell 1
            clear ho5 hb5 y1 y2
            go_wp2_with (at_builtin; refine wpList_app_str rfl _ _ _ _ rfl (by kernel_rfl) (by kernel_rfl) Ty.byte rfl rfl HOV.out (by show _ + (V.toArray).size ≤ _; rw [List.size_toArray]; omega) ?_; intro v8 w8 ha8; have HA8 := Lib.hid ha8; clear ha8)
            have HN8 := Lib.hid (HSTEP.out w5 v8 w8 HO5.out HA8.out)
            clear z1 z2 HA8
            go_wp2_with fail
            go_roundg (N - (i + 1))
            case measure => exact hms
            case rel => exact ⟨i + 1, rfl, by omega, rfl, HN8⟩
          · have hl1 : ¬ ((i : Int) + 1 < (N : Int)) := by omega
            clear hVl hV hx1 hx2 hcell hcl hB hcs hKg hnc how3 hov how hlen hxe hkey hlo hil hgk HST
            go_wp2_with fail
            refine (HB.out _).mono ?_
            rintro e w5 ⟨rfl, ho5⟩
            have HO5 := Lib.hid (((Only.refl NoB wr).alloc (.cells #[.string ⟨((99 : UInt8) :: (be3 n ++ be2 i)).toArray⟩, .string ⟨V.toArray⟩] 52)).trans ho5)
            have HOV := Lib.hid (HOV0.out.only HO5.out fun _ _ => id)
            have hb5 := (Blk.new wr 52 #[.string ⟨((99 : UInt8) :: (be3 n ++ be2 i)).toArray⟩, .string ⟨V.toArray⟩]).only ho5 id
            have z1 := hb5.cell 0
            have z2 := hb5.cell 1
            clear ho5 hb5 y1 y2
            go_wp2_with (at_builtin; refine wpList_app_str rfl _ _ _ _ rfl (by kernel_rfl) (by kernel_rfl) Ty.byte rfl rfl HOV.out (by show _ + (V.toArray).size ≤ _; rw [List.size_toArray]; omega) ?_; intro v8 w8 ha8; have HA8 := Lib.hid ha8; clear ha8)
            have HN8 := Lib.hid (HSTEP.out w5 v8 w8 HO5.out HA8.out)
            clear z1 z2 HA8
            go_wp2_with fail
            go_roundg (N - (i + 1))
            case measure => exact hms
            case rel => exact ⟨i + 1, rfl, by omega, rfl, HN8⟩
        · have hge : ¬ ((i : Int) < (N : Int)) := by omega
          have hNi : ¬ (ch * i < d.length) := fun hh => by
            have h1 := (chunkN_lt (by omega)).2 hh
            rw [← HLEN.out, ← HNE.out] at h1
            exact hlt h1
          have hmin : min (ch * i) d.length = d.length := Nat.min_eq_right (by omega)
          have htk : d.take (ch * i) = d := List.take_of_length_le (by omega)
          rw [hmin, htk] at hov
          rw [hmin]
          have hcv : (convert 50 9 (.slice A2 d.length c2)).run Tryz.prog wr = .ok (.string ⟨d.toArray⟩) wr := conv_bytes' (K := fun k => w3.heap.size ≤ k) hov.rd
          have HEND : Hid (∀ v, R = v → KvOut w F X t m np own R M c (.returned v) wr) := Lib.hid fun v hv => ⟨by rw [hv], F3, HKK.out.1.quit how, HKK.out.2.1.trans' how fun k hk hf => hf.elim, HKK.out.2.2⟩
          obtain ⟨dl, hdl⟩ : ∃ dl, dl = d.length := ⟨_, rfl⟩
          rw [← hdl] at hcv ⊢
          by_cases hsd : s = dl
          · have hR : R = .tuple #[.string ⟨d.toArray⟩, .int .i64 0] := by rw [HRE.out, rdAns, if_pos (hsd.trans hdl)]
            have HE := Lib.hid (HEND.out _ hR)
            have hsI : (dl : Int) = (s : Int) := by omega
            subst hsd
            clear hov how hNi hmin htk hdl hR HST hgk
            go_wp2_with fail
            go_ret2
            exact HE.out
          · have hR : R = .tuple #[.string ⟨#[]⟩, .int .i64 4] := by rw [HRE.out, rdAns, if_neg (fun e => hsd (e.trans hdl.symm))]
            have HE := Lib.hid (HEND.out _ hR)
            have hsI : ¬ ((dl : Int) = (s : Int)) := by omega
            clear hov how hNi hmin htk hdl hR HST hgk hcv
            go_wp2_with fail
            go_ret2
            exact HE.out
    · have hne : ¬ ((N : Int) = (q : Int)) := by omega
      have hsd : s ≠ d.length := fun e => by
        have h1 := HLEN.out
        have h2 := HQE.out
        rw [e] at h2
        omega
      have HE : Hid (KvOut w F X t m np own R M c (.returned (.tuple #[.string ⟨#[]⟩, .int .i64 4])) w3) := Lib.hid ⟨by rw [HRE.out, rdAns, if_neg hsd], F3, HKK.out⟩
      clear hown hN hsd hle
      go_wp2_with fail
      go_ret2
      exact HE.out
  · have hsd : s ≠ d.length := fun e => by
      have h1 := HLEN.out
      have h2 := HQE.out
      rw [e] at h2
      omega
    have HE : Hid (KvOut w F X t m np own R M c (.returned (.tuple #[.string ⟨#[]⟩, .int .i64 4])) w3) := Lib.hid ⟨by rw [HRE.out, rdAns, if_neg hsd], F3, HKK.out⟩
    clear hsd hgt
    go_wp2_with fail
    go_ret2
    exact HE.out
end
end Go.Proofs.YtdipjakblaeekaaGreat
namespace Go.Proofs.YtdipjakblaeekaaGreat
open Go.RowKit Go.Proofs Go.Shelf
set_option maxRecDepth 20000
attribute [local go_sem] Oper.semAt_some
section
variable {w w' : World} {m : Nat}
def OpenT (w : World) (m : Nat) (e : Ending) (w' : World) : Prop :=
  ∃ t F X, e = .returned (.pointer (some ⟨t, 0, none⟩)) ∧ KvAt w' F X t m 600 (ownOf 600 m) [] 0 ∧ Only NoB w w' ∧ ∀ k, F k → w.heap.size ≤ k
set_option maxHeartbeats 1000000 in
theorem open13_ok (h1 : 64 ≤ m) (h2 : m ≤ 4096) : Calls Tryz.prog 15 #[.int .i64 m] w (OpenT w m) := by
  have HN := Lib.hid (new_ok 602 m (by omega) (by omega) (by omega) h2 w)
  have H1 := Lib.hid h1
  have H2 := Lib.hid h2
  clear h1 h2
  go_enter Tryz.func15, Tryz.ntmps15
  go_wp2_with fail
  refine HN.out.mono ?_
  rintro e w1 ⟨b, G, rfl, hd, ho1, hG⟩
  have hz : (DD.new 602 m).at_ 0 = 0 :: List.replicate (m - 1) 0 := by
    show DD.zero m = _
    unfold DD.zero
    have h64 := H1.out
    obtain ⟨k, hk⟩ : ∃ k, m = k + 1 := ⟨m - 1, by omega⟩
    rw [hk]; rfl
  have HW := Lib.hid (wopen_new hd 1 (by omega) (by show 3 + 3 * 1 ≤ m; have := H1.out; omega) (by show 1 + 1 < 602; omega) rfl 0 _ hz (by decide))
  have HO1 := Lib.hid ho1
  have HG := Lib.hid hG
  clear hd ho1 hG hz
  go_wp2_with fail
  refine HW.out.mono ?_
  rintro e w2 ⟨a, rfl, hw, ho2, ha⟩
  have hroom : ownOf 600 m + 2 ≤ 600 := by
    have := H1.out
    unfold ownOf
    have h3 : (600 + 8 * m - 1) / (8 * m) ≤ 3 := by
      refine Nat.le_trans (Nat.div_le_of_le_mul (n := 3) ?_) (Nat.le_refl _)
      omega
    omega
  have HP := Lib.hid (popen_ok (X := freshX a b 600 m) (D := freshD 600 m) hw (fresh_base (by have := H1.out; omega) H2.out (by omega) hroom) (fresh_begin a b 600 m).symm)
  have HO2 := Lib.hid (HO1.out.trans ho2)
  have HA := Lib.hid ha
  clear hw ho2 ha hroom
  go_wp2_with fail
  refine HP.out.mono ?_
  rintro e w3 ⟨pg, rfl, hp, ho3, hpg⟩
  have HB := Lib.hid (begin_ok hp)
  have HO3 := Lib.hid (HO2.out.trans ho3)
  have HPG := Lib.hid hpg
  have HS := Lib.hid ho3.size
  clear hp ho3 hpg
  go_wp2_with fail
  refine HB.out.mono ?_
  rintro e w4 ⟨t, F, rfl, ht, ho4, hF⟩
  have hOk : Only NoB w w4 ∧ ∀ k, F k → w.heap.size ≤ k := by
    have s1 := HO1.out.size
    have s2 := HO2.out.size
    have s3 := HO3.out.size
    have hlow : ∀ k, (G k ∨ k = (freshX a b 600 m).a ∨ k = pg) → w.heap.size ≤ k := fun k hk => by
      rcases hk with hk | hk | hk
      · exact HG.out k hk
      · have := HA.out; have hk : k = a := hk; omega
      · have := HPG.out; omega
    exact ⟨HO3.out.trans' ho4 fun k hk hf => by have := hlow k hf; omega, fun k hk => (hF k hk).elim (hlow k) fun h => by omega⟩
  have HR : Hid (OpenT w m (.returned (.pointer (some ⟨t, 0, none⟩))) w4) := Lib.hid ⟨t, F, freshX a b 600 m, rfl, ⟨freshD 600 m, .inl ht, fresh_bt H1.out H2.out (by omega), rfl, rfl, rfl, fun x hx => by cases hx⟩, hOk⟩
  clear ht ho4 hF hOk
  go_wp2_with fail
  go_ret
  exact HR.out
end
end Go.Proofs.YtdipjakblaeekaaGreat
namespace Go.Proofs.YtdipjakblaeekaaGreat
open Go.RowKit Go.Proofs Go.Shelf
set_option maxRecDepth 20000
section
variable {w w' : World} {F G : Nat → Prop} {X : XC} {t m c n s : Nat} {M : List KV} {d : Str} {D : Nat → Str}
theorem ofNat_mod {a b : Nat} (h : UInt8.ofNat a = UInt8.ofNat b) : a % 256 = b % 256 := by
  have := congrArg UInt8.toNat h
  simpa using this
theorem fpre_inj {a b : Nat} (ha : a ≤ 16777215) (hb : b ≤ 16777215) (h : fpre a = fpre b) : a = b := by
  unfold fpre at h
  rw [be3i_nat ha, be3i_nat hb] at h
  unfold be3 at h
  injection h with _ h
  injection h with h1 h
  injection h with h2 h
  injection h with h3 _
  have e1 := ofNat_mod h1
  have e2 := ofNat_mod h2
  have e3 := ofNat_mod h3
  omega
theorem fpre_len (a b : Int) : (fpre a).length = (fpre b).length := rfl
def FlAt (w : World) (F : Nat → Prop) (X : XC) (t m : Nat) (D : Nat → Str) (c : Nat) : Prop :=
  ∃ M, KvAt w F X t m 600 (ownOf 600 m) M c ∧ (∀ n : Nat, 1 ≤ n ∧ n ≤ 16777215 → under (fpre n) M = chunks (chunkOf m) (fpre n) (D n) ∧ (D n).length ≤ 65536) ∧ ∀ x ∈ M, ∃ n : Nat, (1 ≤ n ∧ n ≤ 16777215) ∧ hasP (fpre n) x.1 = true
def FlOut (w : World) (F : Nat → Prop) (X : XC) (t m : Nat) (v : Value) (D : Nat → Str) (c : Nat) (e : Ending) (w' : World) : Prop :=
  e = .returned v ∧ ∃ F', FlAt w' F' X t m D c ∧ Only F w w' ∧ Grows F F' w
def setF (D : Nat → Str) (n : Nat) (d : Str) : Nat → Str := fun k => if k = n then d else D k
theorem fl_new (h : KvAt w F X t m 600 (ownOf 600 m) [] 0) : FlAt w F X t m (fun _ => []) 0 := by
  refine ⟨[], h, fun n _ => ⟨?_, by simp⟩, fun x hx => by cases hx⟩
  have : chunkOf m ≤ 200 := by unfold chunkOf; omega
  have h0 : chunkN (chunkOf m) 0 = 0 := by
    unfold chunkN
    rcases Nat.eq_zero_or_pos (chunkOf m) with h | h
    · rw [h]
    · exact Nat.div_eq_of_lt (by omega)
  simp [chunks, h0, under]
theorem FlAt.m12 (h : FlAt w F X t m D c) : 64 ≤ m ∧ m ≤ 4096 := by obtain ⟨M, hk, _⟩ := h; exact hk.m12
theorem FlAt.quit (h : FlAt w F X t m D c) (ho : Only NoB w w') : FlAt w' F X t m D c := by obtain ⟨M, hk, r⟩ := h; exact ⟨M, hk.quit ho, r⟩
theorem chunkOf_le (h : 64 ≤ m) : 1 ≤ chunkOf m ∧ chunkOf m ≤ 200 := by unfold chunkOf NodeD.most; omega
theorem chunkN_le {ch L : Nat} (hc : 1 ≤ ch) : chunkN ch L ≤ L := by
  unfold chunkN
  rcases Nat.eq_zero_or_pos L with h | h
  · subst h; rw [Nat.div_eq_of_lt (by omega)]; exact Nat.le_refl _
  · refine Nat.div_le_of_le_mul ?_
    obtain ⟨l, rfl⟩ : ∃ l, L = l + 1 := ⟨L - 1, by omega⟩
    rw [Nat.mul_comm, Nat.succ_mul]
    have : l * 1 ≤ l * ch := Nat.mul_le_mul_left _ hc
    omega
theorem fl_turn {M M' : List KV} {d : Str} (hn : 1 ≤ n ∧ n ≤ 16777215) (hd : d.length ≤ 65536) (hu : under (fpre n) M' = chunks (chunkOf m) (fpre n) d) (hr : rid (fpre n) M' = rid (fpre n) M)
    (hD : ∀ n : Nat, 1 ≤ n ∧ n ≤ 16777215 → under (fpre n) M = chunks (chunkOf m) (fpre n) (D n) ∧ (D n).length ≤ 65536) (hM : ∀ x ∈ M, ∃ n : Nat, (1 ≤ n ∧ n ≤ 16777215) ∧ hasP (fpre n) x.1 = true) :
    (∀ k : Nat, 1 ≤ k ∧ k ≤ 16777215 → under (fpre k) M' = chunks (chunkOf m) (fpre k) (setF D n d k) ∧ (setF D n d k).length ≤ 65536) ∧ ∀ x ∈ M', ∃ k : Nat, (1 ≤ k ∧ k ≤ 16777215) ∧ hasP (fpre k) x.1 = true := by
  refine ⟨fun k hk => ?_, fun x hx => ?_⟩
  · unfold setF
    split
    · rename_i h; subst h; exact ⟨hu, hd⟩
    · rename_i h
      have hne : fpre n ≠ fpre k := fun e => h (fpre_inj hn.2 hk.2 e).symm
      rw [← under_other (fpre_len _ _) hne, hr, under_other (fpre_len _ _) hne]
      exact hD k hk
  · cases hp : hasP (fpre n) x.1 with
    | true => exact ⟨n, hn, hp⟩
    | false =>
      have : x ∈ rid (fpre n) M' := List.mem_filter.2 ⟨hx, by simp [hp]⟩
      rw [hr] at this
      exact hM x (List.mem_filter.1 this).1
theorem fl_write (h : FlAt w F X t m D c) (hn : 1 ≤ n ∧ n ≤ 16777215) (hd : d.length ≤ 65536) (hroom : c + chunkN (chunkOf m) d.length ≤ 600 - (ownOf 600 m + 1)) :
    Calls Tryz.prog 16 #[.pointer (some ⟨t, 0, none⟩), .int .i64 n, .string ⟨d.toArray⟩] w (FlOut w F X t m (.int .i64 0) (setF D n d) (c + chunkN (chunkOf m) d.length)) := by
  obtain ⟨M, hk, hD, hM⟩ := h
  have hch := chunkOf_le hk.m12.1
  have hl : (under (fpre n) M).length ≤ 1000000 := by
    rw [(hD n hn).1, chunks_len]
    have := chunkN_le (L := (D n).length) hch.1
    have := (hD n hn).2
    omega
  refine (fwrite_ok hk hn hd (by have := chunkN_le (L := d.length) hch.1; omega) hroom hl).mono ?_
  rintro e w1 ⟨rfl, M', F', h1, h2, h3, h4, h5⟩
  exact ⟨rfl, F', ⟨M', h1, fl_turn hn hd h2 h3 hD hM⟩, h4, h5⟩
theorem fl_drop (h : FlAt w F X t m D c) (hn : 1 ≤ n ∧ n ≤ 16777215) :
    Calls Tryz.prog 20 #[.pointer (some ⟨t, 0, none⟩), .int .i64 n] w (FlOut w F X t m (.tuple #[.int .i64 (chunkN (chunkOf m) (D n).length : Nat), .int .i64 0]) (setF D n []) c) := by
  obtain ⟨M, hk, hD, hM⟩ := h
  have hch := chunkOf_le hk.m12.1
  have hle : (under (fpre n) M).length = chunkN (chunkOf m) (D n).length := by rw [(hD n hn).1, chunks_len]
  have hl : (under (fpre n) M).length ≤ 1000000 := by
    rw [hle]
    have := chunkN_le (L := (D n).length) hch.1
    have := (hD n hn).2
    omega
  have hdr := fdrop_ok (n := n) hk (by omega) hl
  rw [hle] at hdr
  refine hdr.mono ?_
  rintro e w1 ⟨rfl, F', h1, h4, h5⟩
  refine ⟨rfl, F', ⟨_, h1, fl_turn (d := []) hn (by simp) ?_ rid_rid hD hM⟩, h4, h5⟩
  rw [under_rid_self]
  have h0 : chunkN (chunkOf m) 0 = 0 := Nat.div_eq_of_lt (by omega)
  simp [chunks, h0]
theorem fl_read (h : FlAt w F X t m D c) (hn : 1 ≤ n ∧ n ≤ 16777215) (hs : s ≤ 65536) :
    Calls Tryz.prog 18 #[.pointer (some ⟨t, 0, none⟩), .int .i64 n, .int .i64 s] w (FlOut w F X t m (rdAns (D n) s) D c) := by
  obtain ⟨M, hk, hD, hM⟩ := h
  refine (fread_ok hk hn hs (hD n hn).2 (hD n hn).1).mono ?_
  rintro e w1 ⟨rfl, F', h1, h4, h5⟩
  exact ⟨rfl, F', ⟨M, h1, hD, hM⟩, h4, h5⟩
theorem fl_one (hM : ∀ x ∈ M, ∃ n : Nat, (1 ≤ n ∧ n ≤ 16777215) ∧ hasP (fpre n) x.1 = true) (hD : ∀ n : Nat, 1 ≤ n ∧ n ≤ 16777215 → under (fpre n) M = chunks (chunkOf m) (fpre n) (D n) ∧ (D n).length ≤ 65536) (h64 : 64 ≤ m) (hn : 1 ≤ n ∧ n ≤ 16777215) (h0 : ∀ k, k ≠ n → D k = []) : M = chunks (chunkOf m) (fpre n) (D n) := by
  rw [← (hD n hn).1]
  symm
  apply List.filter_eq_self.2
  intro x hx
  obtain ⟨k, hk, hp⟩ := hM x hx
  by_cases e : k = n
  · subst e; exact hp
  · have h1 := (hD k hk).1
    rw [h0 k e] at h1
    have hch := chunkOf_le h64
    have h2 : chunkN (chunkOf m) 0 = 0 := Nat.div_eq_of_lt (by omega)
    have h3 : under (fpre k) M = [] := by rw [h1]; simp [chunks, h2]
    have : x ∈ under (fpre k) M := List.mem_filter.2 ⟨hx, hp⟩
    rw [h3] at this
    cases this
theorem under_all : under [] M = M := List.filter_eq_self.2 fun x _ => hasP_nil _
theorem fl_count (h : FlAt w F X t m D c) (hn : 1 ≤ n ∧ n ≤ 16777215) (h0 : ∀ k, k ≠ n → D k = []) :
    Calls Tryz.prog 22 #[.pointer (some ⟨t, 0, none⟩), .string ⟨#[]⟩] w (FlOut w F X t m (.tuple #[.int .i64 (chunkN (chunkOf m) (D n).length : Nat), .int .i64 0]) D c) := by
  obtain ⟨M, hk, hD, hM⟩ := h
  have hch := chunkOf_le hk.m12.1
  have hMe := fl_one hM hD hk.m12.1 hn h0
  have hle : (under [] M).length = chunkN (chunkOf m) (D n).length := by rw [under_all, hMe, chunks_len]
  have hcn := kv_count (pre := []) hk (by simp) (by
    rw [hle]
    have := chunkN_le (L := (D n).length) hch.1
    have := (hD n hn).2
    omega)
  rw [hle] at hcn
  refine hcn.mono ?_
  rintro e w1 ⟨rfl, F', h1, h4, h5⟩
  exact ⟨rfl, F', ⟨M, h1, hD, hM⟩, h4, h5⟩
end
end Go.Proofs.YtdipjakblaeekaaGreat
namespace Go.Proofs.YtdipjakblaeekaaGreat
open Go.RowKit Go.Proofs Go.Shelf
set_option maxRecDepth 20000
attribute [local go_sem] Oper.semAt_some
section
variable {w w' : World} {F G : Nat → Prop} {X : XC} {t m c n s : Nat}
theorem low_trans {w0 w1 w2 : World} {F F' : Nat → Prop} (h1 : Only NoB w0 w1) (hF : ∀ k, F k → w0.heap.size ≤ k) (h2 : Only F w1 w2) (hg : Grows F F' w1) : Only NoB w0 w2 ∧ ∀ k, F' k → w0.heap.size ≤ k :=
  ⟨h1.trans' h2 fun k hk hf => by have := hF k hf; omega, fun k hk => (hg k hk).elim (hF k) fun h => Nat.le_trans h1.size h⟩
set_option maxHeartbeats 2000000 in
theorem awake13_ok : Calls Tryz.prog 13 #[] w fun e w' => e = .returned (.bool true) ∧ Only NoB w w' := by
  have HC := Lib.hid (chunk_ok (m := 128) (w := w) (by omega) (by omega))
  have hc : chunkOf 128 = 18 := rfl
  rw [hc] at HC
  have HT := Lib.hid (open13_ok (m := 64) (w := w) (by omega) (by omega))
  go_enter Tryz.func13, Tryz.ntmps13
  go_wp2_with fail
  refine HC.out.mono ?_
  rintro e w1 ⟨rfl, rfl⟩
  go_wp2_with fail
  refine HT.out.mono ?_
  rintro e w1 ⟨t, F, X, rfl, hk, ho, hF⟩
  have HF := Lib.hid hF
  have HO := Lib.hid ho
  have HW := Lib.hid (fl_write (n := 1) (d := [97, 98, 99]) (fl_new hk) (by omega) (by simp) (by decide))
  clear hk ho hF
  go_wp2_with fail
  refine HW.out.mono ?_
  rintro e w2 ⟨rfl, F2, hk, ho, hg⟩
  have h2 := low_trans HO.out HF.out ho hg
  have HF := Lib.hid h2.2
  have HO := Lib.hid h2.1
  have HR := Lib.hid (fl_read (n := 1) (s := 3) hk (by omega) (by omega))
  clear hk ho hg h2
  go_wp2_with fail
  refine HR.out.mono ?_
  rintro e w3 ⟨rfl, F3, hk, ho, hg⟩
  have h2 := low_trans HO.out HF.out ho hg
  have HF := Lib.hid h2.2
  have HO := Lib.hid h2.1
  have HR := Lib.hid (fl_read (n := 1) (s := 2) hk (by omega) (by omega))
  clear hk ho hg h2
  have hv3 : rdAns (setF (fun _ => []) 1 [97, 98, 99] 1) 3 = .tuple #[.string ⟨#[97, 98, 99]⟩, .int .i64 0] := rfl
  rw [hv3]
  go_wp2_with fail
  refine HR.out.mono ?_
  rintro e w4 ⟨rfl, F4, hk, ho, hg⟩
  have h2 := low_trans HO.out HF.out ho hg
  have HF := Lib.hid h2.2
  have HO := Lib.hid h2.1
  have HR := Lib.hid (fl_drop (n := 1) hk (by omega))
  clear hk ho hg h2
  have hv2 : rdAns (setF (fun _ => []) 1 [97, 98, 99] 1) 2 = .tuple #[.string ⟨#[]⟩, .int .i64 4] := rfl
  rw [hv2]
  have hN : chunkN (chunkOf 64) (setF (fun _ => []) 1 [97, 98, 99] 1).length = 2 := by decide
  rw [hN] at HR
  go_wp2_with fail
  refine HR.out.mono ?_
  rintro e w5 ⟨rfl, F5, hk, ho, hg⟩
  have h2 := low_trans HO.out HF.out ho hg
  have HO := Lib.hid h2.1
  clear hk ho hg h2
  go_wp2_with fail
  go_ret
  exact ⟨rfl, HO.out⟩
end
end Go.Proofs.YtdipjakblaeekaaGreat
namespace Go.Proofs.YtdipjakblaeekaaGreat
open Go.RowKit Go.Proofs Go.Shelf
set_option maxRecDepth 20000
attribute [local go_sem] Oper.semAt_some
section
variable {w w' : World} {t m c : Nat}
set_option maxHeartbeats 2000000 in
theorem filesOwn_badsize (size n m : Int) (a b : Str) (ha : a.length ≤ 9223372036854775807) (hb : b.length ≤ 9223372036854775807) (h : ¬ (64 ≤ size ∧ size ≤ 4096)) : Calls Tryz.prog 4 #[.int .i64 size, .string ⟨a.toArray⟩, .string ⟨b.toArray⟩, .int .i64 n, .int .i64 m] w (Quit w (.bool true)) := by
  have HC := Lib.hid (chunk_bad (w := w) size h)
  have HA := Lib.hid (awake13_ok (w := w))
  clear h
  go_enter Tryz.func4, Tryz.ntmps4
  go_wp2_with fail
  refine HC.out.mono ?_
  rintro e w1 ⟨rfl, rfl⟩
  go_wp2_with fail
  refine HA.out.mono ?_
  rintro e w1 ⟨rfl, ho⟩
  have HO := Lib.hid ho
  clear ho
  go_wp2_with fail
  go_ret
  exact ⟨rfl, HO.out⟩
def ownOk (ch : Nat) (size n m : Int) (la lb : Nat) : Prop := size ≤ 300 ∧ (la : Int) + lb ≤ 600 ∧ (1 ≤ n ∧ n ≤ 16777215) ∧ (1 ≤ m ∧ m ≤ 16777215) ∧ n ≠ m ∧ ((la : Int) + lb) / ch ≤ 300
set_option maxHeartbeats 4000000 in
theorem filesOwn_skip (size : Nat) (n m : Int) (a b : Str) (ha : a.length ≤ 4000000000000000000) (hb : b.length ≤ 4000000000000000000) (h1 : 64 ≤ size) (h2 : size ≤ 4096) (hno : ¬ ownOk (chunkOf size) size n m a.length b.length) : Calls Tryz.prog 4 #[.int .i64 size, .string ⟨a.toArray⟩, .string ⟨b.toArray⟩, .int .i64 n, .int .i64 m] w (Quit w (.bool true)) := by
  have hch := chunkOf_le h1
  have HC := Lib.hid (chunk_ok (w := w) (m := size) h1 h2)
  have HA := Lib.hid (awake13_ok (w := w))
  obtain ⟨ch, hc⟩ : ∃ ch, ch = chunkOf size := ⟨_, rfl⟩
  rw [← hc] at HC hch hno
  obtain ⟨la, hla⟩ : ∃ la, la = a.length := ⟨_, rfl⟩
  obtain ⟨lb, hlb⟩ : ∃ lb, lb = b.length := ⟨_, rfl⟩
  rw [← hla, ← hlb] at hno
  rw [← hla] at ha
  rw [← hlb] at hb
  have hla' : a.length = la := hla.symm
  have hlb' : b.length = lb := hlb.symm
  have hc1 : (1 : Int) ≤ ch := by omega
  have hc0 : (ch : Int) ≠ 0 := by omega
  have HNO := Lib.hid hno
  clear hc hla hlb hno
  go_enter Tryz.func4, Tryz.ntmps4
  go_wp2_with fail
  refine HC.out.mono ?_
  rintro e w1 ⟨rfl, rfl⟩
  go_wp2_with fail
  all_goals first
    | (refine HA.out.mono ?_; rintro e w1 ⟨rfl, ho⟩; have HO := Lib.hid ho; clear ho; go_wp2_with fail; go_ret; exact ⟨rfl, HO.out⟩)
    | (exfalso; exact HNO.out ⟨by omega, by omega, ⟨by omega, by omega⟩, ⟨by omega, by omega⟩, by omega, by omega⟩)
theorem rdAns_eq {d : Str} {s : Nat} (h : s = d.length) : rdAns d s = .tuple #[.string ⟨d.toArray⟩, .int .i64 0] := by rw [rdAns, if_pos h]
theorem rdAns_ne {d : Str} {s : Nat} (h : s ≠ d.length) : rdAns d s = .tuple #[.string ⟨#[]⟩, .int .i64 4] := by rw [rdAns, if_neg h]
theorem chunkN_up {ch L : Nat} (hc : 1 ≤ ch) : chunkN ch L ≤ L / ch + 1 := by
  unfold chunkN
  rw [← Nat.add_div_right _ (by omega : 0 < ch)]
  exact Nat.div_le_div_right (by omega)
theorem div_two {ch a b : Nat} (hc : 1 ≤ ch) : a / ch + b / ch ≤ (a + b) / ch := by
  rw [Nat.le_div_iff_mul_le (by omega), Nat.add_mul]
  have h1 := Nat.div_mul_le_self a ch
  have h2 := Nat.div_mul_le_self b ch
  omega
theorem own600 (h : 64 ≤ m) : ownOf 600 m ≤ 3 := by
  unfold ownOf
  refine Nat.div_le_of_le_mul ?_
  omega
end
end Go.Proofs.YtdipjakblaeekaaGreat
namespace Go.Proofs.YtdipjakblaeekaaGreat
open Go.RowKit
set_option maxRecDepth 20000
structure Ap (w0 w : World) (F G : Nat → Prop) : Prop where
  only : Only NoB w0 w
  newF : ∀ k, F k → w0.heap.size ≤ k ∧ k < w.heap.size
  newG : ∀ k, G k → w0.heap.size ≤ k ∧ k < w.heap.size
  apart : ∀ k, F k → ¬ G k
section
variable {w0 w w' : World} {F F' G G' : Nat → Prop}
theorem Ap.swap (h : Ap w0 w F G) : Ap w0 w G F := ⟨h.only, h.newG, h.newF, fun k hg hf => h.apart k hf hg⟩
theorem Ap.left (h : Ap w0 w F G) (ho : Only F w w') (hg : Grows F F' w) (hl : ∀ k, F' k → k < w'.heap.size) : Ap w0 w' F' G :=
  ⟨h.only.trans' ho fun k hk hf => by have := (h.newF k hf).1; omega, fun k hk => ⟨(hg k hk).elim (fun h1 => (h.newF k h1).1) fun h1 => Nat.le_trans h.only.size h1, hl k hk⟩,
    fun k hk => ⟨(h.newG k hk).1, Nat.lt_of_lt_of_le (h.newG k hk).2 ho.size⟩, fun k hk hG => (hg k hk).elim (fun h1 => h.apart k h1 hG) fun h1 => by have := (h.newG k hG).2; omega⟩
theorem Ap.right (h : Ap w0 w F G) (ho : Only G w w') (hg : Grows G G' w) (hl : ∀ k, G' k → k < w'.heap.size) : Ap w0 w' F G' := (h.swap.left ho hg hl).swap
theorem Ap.quit (h : Ap w0 w F G) (ho : Only NoB w w') : Ap w0 w' F G :=
  ⟨h.only.trans ho, fun k hk => ⟨(h.newF k hk).1, Nat.lt_of_lt_of_le (h.newF k hk).2 ho.size⟩, fun k hk => ⟨(h.newG k hk).1, Nat.lt_of_lt_of_le (h.newG k hk).2 ho.size⟩, h.apart⟩
theorem Ap.start (ho : Only NoB w0 w) (hF : ∀ k, F k → w0.heap.size ≤ k ∧ k < w.heap.size) (ho2 : Only NoB w w') (hG : ∀ k, G k → w.heap.size ≤ k ∧ k < w'.heap.size) : Ap w0 w' F G :=
  ⟨ho.trans ho2, fun k hk => ⟨(hF k hk).1, Nat.lt_of_lt_of_le (hF k hk).2 ho2.size⟩, fun k hk => ⟨Nat.le_trans ho.size (hG k hk).1, (hG k hk).2⟩, fun k hf hg => by have := (hF k hf).2; have := (hG k hg).1; omega⟩
end
end Go.Proofs.YtdipjakblaeekaaGreat
namespace Go.Proofs.YtdipjakblaeekaaGreat
open Go.RowKit Go.Proofs
set_option maxRecDepth 20000
def RefF (w : World) (G : Nat → Prop) (x ch : Nat) (L : List Str) : Prop :=
  (∀ k, G k → k < w.heap.size) ∧ G x ∧ L.length ≤ 1000 ∧ ∃ lv, Blk w x 34 #[.int .i64 ch, lv] ∧ Own w (fun k => G k ∧ k ≠ x) 9 1 lv L.length (L.map strV)
def RefFO (w : World) (G : Nat → Prop) (x ch : Nat) (v : Value) (L' : List Str) (e : Ending) (w' : World) : Prop :=
  e = .returned v ∧ ∃ G', RefF w' G' x ch L' ∧ Only G w w' ∧ Grows G G' w
def numOk (n : Int) : Prop := 1 ≤ n ∧ n ≤ 16777215
instance (n : Int) : Decidable (numOk n) := inferInstanceAs (Decidable (_ ∧ _))
def padL (L : List Str) (n : Nat) : List Str := L ++ List.replicate (n + 1 - L.length) []
section
variable {w w' : World} {G S : Nat → Prop} {x ch : Nat} {L : List Str}
theorem RefF.only (h : RefF w G x ch L) (ho : Only S w w') (hd : ∀ k, G k → ¬ S k) : RefF w' G x ch L := by
  obtain ⟨h1, h2, h3, lv, hb, hown⟩ := h
  exact ⟨fun k hk => Nat.lt_of_lt_of_le (h1 k hk) ho.size, h2, h3, lv, hb.only ho (hd x h2), hown.only ho fun k hk => hd k hk.1⟩
theorem RefF.quit (h : RefF w G x ch L) (ho : Only NoB w w') : RefF w' G x ch L := h.only ho fun _ _ => id
theorem number12_ok (n : Int) : Calls Tryz.prog 34 #[.int .i64 n] w fun e w' => e = .returned (.bool (decide (numOk n))) ∧ w = w' := by
  by_cases h1 : 1 ≤ n
  · by_cases h2 : n ≤ 16777215
    · rw [decide_eq_true (show numOk n from ⟨h1, h2⟩)]
      go_enter Tryz.func34, Tryz.ntmps34
      go_wp2_with fail
      go_ret
      exact ⟨rfl, rfl⟩
    · rw [decide_eq_false (show ¬ numOk n from fun h => h2 h.2)]
      have e2 : decide (n ≤ 16777215) = false := by simpa using h2
      clear h2
      go_enter Tryz.func34, Tryz.ntmps34
      go_wp2_with fail
      go_ret
      exact ⟨rfl, rfl⟩
  · rw [decide_eq_false (show ¬ numOk n from fun h => h1 h.1)]
    have e1 : decide (n ≥ 1) = false := by simpa using h1
    clear h1
    go_enter Tryz.func34, Tryz.ntmps34
    go_wp2_with fail
    go_ret
    exact ⟨rfl, rfl⟩
theorem rat_ok (h : RefF w G x ch L) (n : Nat) : Calls Tryz.prog 52 #[.pointer (some ⟨x, 0, none⟩), .int .i64 n] w fun e w' => e = .returned (.string ⟨(L.getD n []).toArray⟩) ∧ w = w' := by
  obtain ⟨h1, h2, h3, lv, hb, hown⟩ := h
  obtain ⟨A, c, rfl, _⟩ := hown.shape
  have c1 := hb.cell 1
  have HO := Lib.hid hown
  clear hown hb h1 h2
  by_cases hn : n < L.length
  · obtain ⟨g, cc, cs, hve, _, _, _, _, _, hcell, _⟩ := HO.out.open_ (by omega)
    injection hve with e1 e2 e3
    subst e1; subst e3
    have c2 := hcell n (strV L[n]) (by rw [List.getElem?_map, List.getElem?_eq_getElem hn]; rfl)
    have hd : L.getD n [] = L[n] := by rw [List.getD_eq_getElem?_getD, List.getElem?_eq_getElem hn]; rfl
    rw [hd]
    obtain ⟨s, hs⟩ : ∃ s, s = L[n] := ⟨_, rfl⟩
    rw [← hs] at c2 ⊢
    unfold strV at c2
    clear hcell hd hs
    go_enter Tryz.func52, Tryz.ntmps52
    go_wp2_with fail
    go_ret
    exact ⟨rfl, rfl⟩
  · have hd : L.getD n [] = [] := by rw [List.getD_eq_getElem?_getD, List.getElem?_eq_none (by omega)]; rfl
    rw [hd]
    clear hd
    go_enter Tryz.func52, Tryz.ntmps52
    go_wp2_with fail
    go_ret
    exact ⟨rfl, rfl⟩
theorem rcount_ok (h : RefF w G x ch L) (hch : 1 ≤ ch ∧ ch ≤ 200) (k : Nat) (hk : k ≤ 65536) : Calls Tryz.prog 54 #[.pointer (some ⟨x, 0, none⟩), .int .i64 k] w fun e w' => e = .returned (.int .i64 (((k + ch - 1) / ch : Nat) : Int)) ∧ Only NoB w w' := by
  obtain ⟨h1, h2, h3, lv, hb, hown⟩ := h
  have c0 := hb.cell 0
  have hc0 : (ch : Int) ≠ 0 := by omega
  obtain ⟨q, hq⟩ : ∃ q, q = (k + ch - 1) / ch := ⟨_, rfl⟩
  have hv : ((k : Int) + ch - 1).tdiv ch = (q : Int) := by
    rw [Int.tdiv_eq_ediv_of_nonneg (by omega), hq, Int.natCast_ediv]; congr 1; omega
  have hql : q ≤ 100000 := by rw [hq]; have := Nat.div_le_self (k + ch - 1) ch; omega
  rw [← hq]
  have hw1 : IntKind.i64.wrap ((k : Int) + ch) = (k : Int) + ch := by rw [IntKind.wrap_i64]; omega
  have hw2 : IntKind.i64.wrap ((k : Int) + ch - 1) = (k : Int) + ch - 1 := by rw [IntKind.wrap_i64]; omega
  clear hown hb h1 h2 h3 hq hch
  go_enter Tryz.func54, Tryz.ntmps54
  go_wp2_with fail
  go_region
  all_goals go_wp2_with fail
  all_goals go_ret
  all_goals exact ⟨rfl, (Only.refl NoB w).drew⟩
end
end Go.Proofs.YtdipjakblaeekaaGreat
namespace Go.Proofs.YtdipjakblaeekaaGreat
open Go.RowKit Go.Proofs
set_option maxRecDepth 20000
section
variable {w w' : World} {G S : Nat → Prop} {x ch : Nat} {L : List Str}
theorem padL_self {n : Nat} (h : n + 1 ≤ L.length) : padL L n = L := by unfold padL; rw [show n + 1 - L.length = 0 by omega]; simp
theorem padL_grow {n : Nat} (h : L.length ≤ n) : padL (L ++ [[]]) n = padL L n := by
  unfold padL
  rw [show n + 1 - L.length = n + 1 - (L ++ [([] : Str)]).length + 1 by simp; omega, List.replicate_succ, List.append_assoc]
  rfl
theorem padL_len (n : Nat) : (padL L n).length = max L.length (n + 1) := by unfold padL; simp; omega
theorem padL_get (n k : Nat) : (padL L n).getD k [] = L.getD k [] := by
  unfold padL
  rw [List.getD_eq_getElem?_getD, List.getD_eq_getElem?_getD]
  by_cases h : k < L.length
  · rw [List.getElem?_append_left h]
  · rw [List.getElem?_append_right (by omega), List.getElem?_eq_none (l := L) (by omega), List.getElem?_replicate]
    split <;> rfl
theorem RefF.grow {lv lv' : Value} {W1 w2 : World} (h1 : ∀ k, G k → k < w.heap.size) (h2 : G x) (h3 : L.length + 1 ≤ 1000) (hb : Blk w x 34 #[.int .i64 ch, lv]) (hown : Own w (fun k => G k ∧ k ≠ x) 9 1 lv L.length (L.map strV))
    (hW : W1 = w.alloc (.cells #[.string ⟨#[]⟩] 9)) (ha : App W1 (fun k => G k ∧ k ≠ x) 9 1 lv L.length 1 (L.map strV) [.string ⟨#[]⟩] lv' w2) :
    ∃ G', RefF (w2.setCell ⟨x, 1, none⟩ lv') G' x ch (L ++ [[]]) ∧ Only G w (w2.setCell ⟨x, 1, none⟩ lv') ∧ Grows G G' w := by
  have ho1 : Only G w W1 := by rw [hW]; exact (Only.refl G w).alloc _
  have hs1 : W1.heap.size = w.heap.size + 1 := by rw [hW]; simp
  have ho2 : Only G w w2 := ho1.trans' ha.only fun k hk hl => (hown.2 k hl).1
  have ho3 : Only G w (w2.setCell ⟨x, 1, none⟩ lv') := ho2.setCell (.inl h2) _
  have hxl : lv.ownBlock ≠ some x := fun e => (hown.2 x e).2 rfl
  have hb2 : Blk w2 x 34 #[.int .i64 ch, lv] := (hb.only (by rw [hW]; exact (Only.refl NoB w).alloc _) id : Blk W1 _ _ _).only ha.only hxl
  have hsz : W1.heap.size ≤ w2.heap.size := ha.only.size
  refine ⟨fun k => G k ∨ (w.heap.size ≤ k ∧ k < w2.heap.size), ⟨fun k hk => ?_, .inl h2, by simpa using h3, lv', hb2.set_ 1 lv', ?_⟩, ho3, fun k hk => hk.imp id (·.1)⟩
  · rw [World.size_setCell]
    rcases hk with hk | hk
    · have := h1 k hk; omega
    · exact hk.2
  · have hlv : ∀ k, lv'.ownBlock = some k → k ≠ x := fun k hk => by
      rcases ha.own.2 k hk with h | h
      · exact h.2
      · have := h1 x h2; omega
    have := ha.own.keep (w' := w2.setCell ⟨x, 1, none⟩ lv') fun k hk => Below.heap_setCell w2 _ _ k (hlv k hk)
    have h5 := this.mono (G := fun k => (G k ∨ (w.heap.size ≤ k ∧ k < w2.heap.size)) ∧ k ≠ x) fun k hk hlt => by
      rw [World.size_setCell] at hlt
      rcases hk with hk | hk
      · exact ⟨.inl hk.1, hk.2⟩
      · have := h1 x h2; exact ⟨.inr ⟨by omega, hlt⟩, by omega⟩
    simpa [strV] using h5
theorem RefF.put {g c n : Nat} {d : Str} (h1 : ∀ k, G k → k < w.heap.size) (h2 : G x) (h3 : L.length ≤ 1000) (hb : Blk w x 34 #[.int .i64 ch, .slice (some ⟨g, 0, none⟩) L.length c]) (hown : Own w (fun k => G k ∧ k ≠ x) 9 1 (.slice (some ⟨g, 0, none⟩) L.length c) L.length (L.map strV)) (hn : n < L.length) :
    RefF (w.setCell ⟨g, n, none⟩ (.string ⟨d.toArray⟩)) G x ch (L.set n d) ∧ Only G w (w.setCell ⟨g, n, none⟩ (.string ⟨d.toArray⟩)) := by
  obtain ⟨g', c', cs, hve, _, hg, _, _, _, _, hset⟩ := hown.open_ (by omega)
  injection hve with e1 e2 e3
  injection e1 with e1
  injection e1 with e1
  subst e1; subst e3
  have hs := hset n (.string ⟨d.toArray⟩)
  refine ⟨⟨fun k hk => by rw [World.size_setCell]; exact h1 k hk, h2, by simpa using h3, _, (hb.far (p := ⟨g, n, none⟩) (fun e => hg.2 e.symm) _), ?_⟩, (Only.refl G w).setCell (p := ⟨g, n, none⟩) (.inl hg.1) _⟩
  rw [List.length_set, List.map_set]
  exact hs
set_option maxHeartbeats 1000000 in
theorem rfwrite_ok (h : RefF w G x ch L) (n : Nat) (d : Str) (hn : 1 ≤ n ∧ n ≤ 900) (hd : d.length ≤ 65536) : Calls Tryz.prog 17 #[.pointer (some ⟨x, 0, none⟩), .int .i64 n, .string ⟨d.toArray⟩] w (RefFO w G x ch (.int .i64 0) ((padL L n).set n d)) := by
  have HN := Lib.hid (number12_ok (w := w) n)
  rw [decide_eq_true (show numOk n from ⟨by omega, by omega⟩)] at HN
  have H := Lib.hid h
  have hdl : (d.length : Int) ≤ 65536 := by omega
  clear h hd
  go_enter Tryz.func17, Tryz.ntmps17
  go_wp2_with fail
  refine HN.out.mono ?_
  rintro e w1 ⟨rfl, rfl⟩
  go_wp2_with fail
  go_loopw [] (fun wr => ∃ L' G', RefF wr G' x ch L' ∧ Only G w wr ∧ Grows G G' w ∧ padL L' n = padL L n) (fun wr => match wr.cell? ⟨x, 1, none⟩ with | some (.slice _ k _) => n + 1 - k | _ => 0)
  case atStart => exact ⟨L, G, H.out, Only.refl _ _, Grows.refl _ _, rfl⟩
  case round =>
    obtain ⟨L', G', ⟨h1, h2, h3, lv, hb, hown⟩, ho, hg, hp⟩ := hrel
    obtain ⟨A, c, rfl, _⟩ := hown.shape
    have c1 : wr.cell? ⟨x, 1, none⟩ = some (.slice A L'.length c) := hb.cell 1
    have HB := Lib.hid hb
    have HOW := Lib.hid hown
    have HO := Lib.hid ho
    have HG := Lib.hid hg
    have HP := Lib.hid hp
    have H1 := Lib.hid h1
    have H2 := Lib.hid h2
    have f1 := hb.frozen 1
    clear hb hown ho hg hp h1 h2 H
    by_cases hlt : L'.length ≤ n
    · have HR := Lib.hid (rd_new wr 9 1 1 [.string ⟨#[]⟩] rfl)
      have HA := Lib.hid (HOW.out.alloc (.cells #[.string ⟨#[]⟩] 9))
      have c1' : (wr.alloc (.cells #[.string ⟨#[]⟩] 9)).cell? ⟨x, 1, none⟩ = some (.slice A L'.length c) := (HB.out.alloc _).cell 1
      go_wp2_with (at_builtin; refine wpList_app rfl _ _ _ rfl (by kernel_rfl) Ty.str rfl rfl HA.out HR.out (by simp [Value.oneCell']) (by omega) ?_; intro v7 w7 ha7; obtain ⟨A7, c8, rfl, _⟩ := id ha7.shape; obtain ⟨G7, r7, o7, g7⟩ := RefF.grow H1.out H2.out (by omega) HB.out HOW.out rfl ha7; have hb7 := HB.out.alloc (.cells #[.string ⟨#[]⟩] 9); have hb8 := hb7.only ha7.only (fun e => (HOW.out.2 x e).2 rfl); have f7 := hb8.frozen 1; have c7 := hb8.cell 1; have R7 := Lib.hid r7; have O7 := Lib.hid o7; have G77 := Lib.hid g7; have B8 := Lib.hid hb8; clear ha7 r7 o7 g7 hb7 hb8)
      refine ⟨⟨L' ++ [[]], G7, R7.out, HO.out.steps HG.out O7.out, HG.out.trans G77.out HO.out.size, (padL_grow hlt).trans HP.out⟩, ?_⟩
      have : (w7.setCell ⟨x, 1, none⟩ (.slice A7 (L'.length + 1) c8)).cell? ⟨x, 1, none⟩ = some (.slice A7 (L'.length + 1) c8) := (B8.out.set_ 1 _).cell 1
      rw [this, c1]
      show n + 1 - (L'.length + 1) < n + 1 - L'.length
      omega
    · have hL : L' = padL L n := by rw [← HP.out, padL_self (by omega)]
      obtain ⟨g, cc, cs, hve, _, hg, hbk, _, _, hcell, _⟩ := HOW.out.open_ (by omega)
      injection hve with e1 e2 e3
      subst e1; subst e3
      obtain ⟨r1, r2⟩ := RefF.put (d := d) H1.out H2.out h3 HB.out HOW.out (show n < L'.length by omega)
      have R1 := Lib.hid r1
      have R2 := Lib.hid r2
      have HL := Lib.hid hL
      have c2 := hcell n (strV L'[n]) (by rw [List.getElem?_map, List.getElem?_eq_getElem (by omega)]; rfl)
      have f2 := hbk.frozen n
      clear r1 r2 hL hcell hbk
      go_wp2_with fail
      go_ret
      refine ⟨rfl, G', ?_, HO.out.steps HG.out R2.out, HG.out⟩
      rw [← HL.out]
      exact R1.out
end
end Go.Proofs.YtdipjakblaeekaaGreat
namespace Go.Proofs.YtdipjakblaeekaaGreat
open Go.RowKit Go.Proofs Go.Shelf
set_option maxRecDepth 20000
attribute [local go_sem] Oper.semAt_some
def wrA (n : Int) : Int := if numOk n then 0 else 1
def wrL (n : Int) (d : Str) (L : List Str) : List Str := if numOk n then (padL L n.toNat).set n.toNat d else L
def rdA (n s : Int) (d : Str) : Value := if numOk n ∧ 0 ≤ s ∧ s ≤ 65536 then rdAns d s.toNat else .tuple #[.string ⟨#[]⟩, .int .i64 1]
def drA (n : Int) (ch : Nat) (d : Str) : Value := if numOk n then .tuple #[.int .i64 (chunkN ch d.length : Nat), .int .i64 0] else .tuple #[.int .i64 0, .int .i64 1]
def drL (n : Int) (L : List Str) : List Str := if numOk n ∧ n.toNat < L.length then L.set n.toNat [] else L
section
variable {w w' : World} {G S : Nat → Prop} {x ch : Nat} {L : List Str}
theorem RefF.same {v : Value} (h : RefF w G x ch L) (ho : Only NoB w w') : RefFO w G x ch v L (.returned v) w' := ⟨rfl, G, h.quit ho, ho.mono fun _ _ h => h.elim, Grows.refl _ _⟩
theorem rfwrite_any (h : RefF w G x ch L) (n : Int) (d : Str) (hn : n ≤ 900 ∨ 16777215 < n) (hd : d.length ≤ 65536) : Calls Tryz.prog 17 #[.pointer (some ⟨x, 0, none⟩), .int .i64 n, .string ⟨d.toArray⟩] w (RefFO w G x ch (.int .i64 (wrA n)) (wrL n d L)) := by
  by_cases hk : numOk n
  · rw [wrA, if_pos hk, wrL, if_pos hk]
    obtain ⟨h1, h2⟩ := hk
    obtain ⟨k, rfl⟩ := Int.eq_ofNat_of_zero_le (show 0 ≤ n by omega)
    exact rfwrite_ok h k d ⟨by omega, by omega⟩ hd
  · rw [wrA, if_neg hk, wrL, if_neg hk]
    have HN := Lib.hid (number12_ok (w := w) n)
    rw [decide_eq_false hk] at HN
    have HE : Hid (RefFO w G x ch (.int .i64 1) L (.returned (.int .i64 1)) w) := Lib.hid (h.same (Only.refl _ _))
    clear h hn hd hk
    go_enter Tryz.func17, Tryz.ntmps17
    go_wp2_with fail
    refine HN.out.mono ?_
    rintro e w1 ⟨rfl, rfl⟩
    go_wp2_with fail
    go_ret
    exact HE.out
set_option maxHeartbeats 1000000 in
theorem rfread_any (h : RefF w G x ch L) (n s : Int) (hl : ∀ k, (L.getD k []).length ≤ 65536) : Calls Tryz.prog 19 #[.pointer (some ⟨x, 0, none⟩), .int .i64 n, .int .i64 s] w (RefFO w G x ch (rdA n s (L.getD n.toNat [])) L) := by
  have HN := Lib.hid (number12_ok (w := w) n)
  by_cases hk : numOk n
  · rw [decide_eq_true hk] at HN
    obtain ⟨h1, h2⟩ := id hk
    obtain ⟨k, rfl⟩ := Int.eq_ofNat_of_zero_le (show 0 ≤ n by omega)
    have HAT := Lib.hid (rat_ok h k)
    have hll := hl k
    rw [show ((k : Nat) : Int).toNat = k from rfl]
    obtain ⟨d, hd⟩ : ∃ d, d = L.getD k [] := ⟨_, rfl⟩
    rw [← hd] at HAT hll ⊢
    clear hd hl
    by_cases hs : 0 ≤ s ∧ s ≤ 65536
    · rw [rdA, if_pos ⟨hk, hs⟩]
      obtain ⟨q, rfl⟩ := Int.eq_ofNat_of_zero_le hs.1
      rw [show ((q : Nat) : Int).toNat = q from rfl]
      obtain ⟨ld, hld⟩ : ∃ ld, ld = d.length := ⟨_, rfl⟩
      have hs2 := hs.2
      by_cases hq : q = ld
      · rw [rdAns, if_pos (hq.trans hld)]
        have HE : Hid (RefFO w G x ch (.tuple #[.string ⟨d.toArray⟩, .int .i64 0]) L (.returned (.tuple #[.string ⟨d.toArray⟩, .int .i64 0])) w) := Lib.hid (h.same (Only.refl _ _))
        subst hq
        have hld' : d.length = q := hld.symm
        clear h hk hs hld hll
        go_enter Tryz.func19, Tryz.ntmps19
        go_wp2_with fail
        refine HN.out.mono ?_
        rintro e w1 ⟨rfl, rfl⟩
        go_wp2_with fail
        refine HAT.out.mono ?_
        rintro e w1 ⟨rfl, rfl⟩
        go_wp2_with fail
        refine HAT.out.mono ?_
        rintro e w1 ⟨rfl, rfl⟩
        go_wp2_with fail
        go_ret2
        exact HE.out
      · rw [rdAns, if_neg (fun e => hq (e.trans hld.symm))]
        have HE : Hid (RefFO w G x ch (.tuple #[.string ⟨#[]⟩, .int .i64 4]) L (.returned (.tuple #[.string ⟨#[]⟩, .int .i64 4])) w) := Lib.hid (h.same (Only.refl _ _))
        have hld' : d.length = ld := hld.symm
        have hne : ((ld : Int) != (q : Int)) = true := by rw [bne_iff_ne]; omega
        clear h hk hs hld hll hq
        go_enter Tryz.func19, Tryz.ntmps19
        go_wp2_with fail
        refine HN.out.mono ?_
        rintro e w1 ⟨rfl, rfl⟩
        go_wp2_with fail
        refine HAT.out.mono ?_
        rintro e w1 ⟨rfl, rfl⟩
        go_wp2_with fail
        go_ret2
        exact HE.out
    · rw [rdA, if_neg fun e => hs e.2]
      have HE : Hid (RefFO w G x ch (.tuple #[.string ⟨#[]⟩, .int .i64 1]) L (.returned (.tuple #[.string ⟨#[]⟩, .int .i64 1])) w) := Lib.hid (h.same (Only.refl _ _))
      clear h hk
      by_cases hs0 : s < 0
      · clear hs
        go_enter Tryz.func19, Tryz.ntmps19
        go_wp2_with fail
        refine HN.out.mono ?_
        rintro e w1 ⟨rfl, rfl⟩
        go_wp2_with fail
        go_ret2
        exact HE.out
      · have hs1 : s > 65536 := by omega
        have e0 : decide (s < 0) = false := by simpa using hs0
        clear hs hs0
        go_enter Tryz.func19, Tryz.ntmps19
        go_wp2_with fail
        refine HN.out.mono ?_
        rintro e w1 ⟨rfl, rfl⟩
        go_wp2_with fail
        go_ret2
        exact HE.out
  · rw [decide_eq_false hk] at HN
    rw [rdA, if_neg fun e => hk e.1]
    have HE : Hid (RefFO w G x ch (.tuple #[.string ⟨#[]⟩, .int .i64 1]) L (.returned (.tuple #[.string ⟨#[]⟩, .int .i64 1])) w) := Lib.hid (h.same (Only.refl _ _))
    clear h hk hl
    go_enter Tryz.func19, Tryz.ntmps19
    go_wp2_with fail
    refine HN.out.mono ?_
    rintro e w1 ⟨rfl, rfl⟩
    go_wp2_with fail
    go_ret2
    exact HE.out
set_option maxHeartbeats 1000000 in
theorem rfdrop_any (h : RefF w G x ch L) (hch : 1 ≤ ch ∧ ch ≤ 200) (n : Int) (hl : ∀ k, (L.getD k []).length ≤ 65536) : Calls Tryz.prog 21 #[.pointer (some ⟨x, 0, none⟩), .int .i64 n] w (RefFO w G x ch (drA n ch (L.getD n.toNat [])) (drL n L)) := by
  have HN := Lib.hid (number12_ok (w := w) n)
  by_cases hk : numOk n
  · rw [decide_eq_true hk] at HN
    obtain ⟨h1, h2⟩ := id hk
    obtain ⟨k, rfl⟩ := Int.eq_ofNat_of_zero_le (show 0 ≤ n by omega)
    have HAT := Lib.hid (rat_ok h k)
    have hll := hl k
    rw [drA, if_pos hk, show ((k : Nat) : Int).toNat = k from rfl, chunkN]
    obtain ⟨d, hd⟩ : ∃ d, d = L.getD k [] := ⟨_, rfl⟩
    rw [← hd] at HAT hll ⊢
    have HC := Lib.hid (rcount_ok h hch d.length hll)
    obtain ⟨q, hq⟩ : ∃ q, q = (d.length + ch - 1) / ch := ⟨_, rfl⟩
    rw [← hq] at HC ⊢
    have H := Lib.hid h
    obtain ⟨ld, hld⟩ : ∃ ld, ld = d.length := ⟨_, rfl⟩
    rw [← hld] at HC
    have hld' : d.length = ld := hld.symm
    clear hl h hld hd hll hq
    by_cases hkl : k < L.length
    · rw [drL, if_pos ⟨hk, hkl⟩]
      clear hk
      go_enter Tryz.func21, Tryz.ntmps21
      go_wp2_with fail
      refine HN.out.mono ?_
      rintro e w1 ⟨rfl, rfl⟩
      go_wp2_with fail
      refine HAT.out.mono ?_
      rintro e w1 ⟨rfl, rfl⟩
      go_wp2_with fail
      refine HC.out.mono ?_
      rintro e w1 ⟨rfl, ho⟩
      obtain ⟨h1', h2', h3', lv, hb, hown⟩ := H.out.quit ho
      obtain ⟨g, cc, cs, rfl, _, hg, hbk, _, _, hcell, _⟩ := hown.open_ (by omega)
      have c1 := hb.cell 1
      obtain ⟨r1, r2⟩ := RefF.put (n := k) (d := []) h1' h2' h3' hb hown hkl
      have c2 := hcell k (strV L[k]) (by rw [List.getElem?_map, List.getElem?_eq_getElem hkl]; rfl)
      have f2 := hbk.frozen k
      have R1 := Lib.hid r1
      have R2 := Lib.hid ((ho.mono fun _ _ h => h.elim).trans r2)
      clear hb hown hbk hcell r1 r2 ho h1' h2'
      go_wp2_with fail
      go_ret2
      exact ⟨rfl, G, R1.out, R2.out, Grows.refl _ _⟩
    · rw [drL, if_neg fun e => hkl e.2]
      clear hk
      go_enter Tryz.func21, Tryz.ntmps21
      go_wp2_with fail
      refine HN.out.mono ?_
      rintro e w1 ⟨rfl, rfl⟩
      go_wp2_with fail
      refine HAT.out.mono ?_
      rintro e w1 ⟨rfl, rfl⟩
      go_wp2_with fail
      refine HC.out.mono ?_
      rintro e w1 ⟨rfl, ho⟩
      obtain ⟨h1', h2', h3', lv, hb, hown⟩ := H.out.quit ho
      obtain ⟨A, cc, rfl, _⟩ := hown.shape
      have c1 := hb.cell 1
      have HE : Hid (RefFO w G x ch (.tuple #[.int .i64 (q : Int), .int .i64 0]) L (.returned (.tuple #[.int .i64 (q : Int), .int .i64 0])) w1) := Lib.hid (H.out.same ho)
      clear hb hown h1' h2' ho
      go_wp2_with fail
      go_ret2
      exact HE.out
  · rw [decide_eq_false hk] at HN
    rw [drA, if_neg hk, drL, if_neg fun e => hk e.1]
    have HE : Hid (RefFO w G x ch (.tuple #[.int .i64 0, .int .i64 1]) L (.returned (.tuple #[.int .i64 0, .int .i64 1])) w) := Lib.hid (h.same (Only.refl _ _))
    clear h hk hl
    go_enter Tryz.func21, Tryz.ntmps21
    go_wp2_with fail
    refine HN.out.mono ?_
    rintro e w1 ⟨rfl, rfl⟩
    go_wp2_with fail
    go_ret2
    exact HE.out
end
end Go.Proofs.YtdipjakblaeekaaGreat
namespace Go.Proofs.YtdipjakblaeekaaGreat
open Go.RowKit Go.Proofs
set_option maxRecDepth 20000
structure OpS where
  a : Int
  b : Int
  c : Int
  s : Str
structure OpSIn (w : World) (g off : Nat) (o : OpS) : Prop where
  a : w.cell? ⟨g, off, none⟩ = some (.int .i64 o.a)
  b : w.cell? ⟨g, off + 1, none⟩ = some (.int .i64 o.b)
  c : w.cell? ⟨g, off + 2, none⟩ = some (.int .i64 o.c)
  s : w.cell? ⟨g, off + 3, none⟩ = some (.string ⟨o.s.toArray⟩)
def SOps (w : World) (F : Nat → Prop) (v : Value) (l : List OpS) : Prop :=
  ∃ A c, v = .slice A l.length c ∧ l.length ≤ c ∧ ∀ i (h : i < l.length), ∃ g off, A = some ⟨g, off, none⟩ ∧ F g ∧ OpSIn w g (off + i * 4) l[i]
theorem OpSIn.only {w w' : World} {G : Nat → Prop} {g off : Nat} {o : OpS} (h : OpSIn w g off o) (ho : Only G w w') (hd : ¬ G g) : OpSIn w' g off o :=
  ⟨ho.cell h.a hd, ho.cell h.b hd, ho.cell h.c hd, ho.cell h.s hd⟩
theorem SOps.only {w w' : World} {F G : Nat → Prop} {v : Value} {l : List OpS} (h : SOps w F v l) (ho : Only G w w') (hd : ∀ k, F k → ¬ G k) : SOps w' F v l := by
  obtain ⟨A, c, hv, hc, h⟩ := h
  refine ⟨A, c, hv, hc, fun i hi => ?_⟩
  obtain ⟨g, off, hA, hg, ho1⟩ := h i hi
  exact ⟨g, off, hA, hg, ho1.only ho (hd g hg)⟩
theorem SOps.open_ {w : World} {F : Nat → Prop} {v : Value} {l : List OpS} (h : SOps w F v l) {i : Nat} (hi : i < l.length) : ∃ g off c, v = .slice (some ⟨g, off, none⟩) l.length c ∧ l.length ≤ c ∧ F g ∧ OpSIn w g (off + i * 4) l[i] := by
  obtain ⟨A, c, hv, hc, h⟩ := h
  obtain ⟨g, off, hA, hg, ho⟩ := h i hi
  exact ⟨g, off, c, by rw [hv, hA], hc, hg, ho⟩
theorem SOps.shape {w : World} {F : Nat → Prop} {v : Value} {l : List OpS} (h : SOps w F v l) : ∃ A c, v = .slice A l.length c ∧ l.length ≤ c := by
  obtain ⟨A, c, hv, hc, _⟩ := h
  exact ⟨A, c, hv, hc⟩
open Go.ChangeShapes Go.WideShapes Go.Deep in
theorem arg_scr {H : Type} {enc : TypeId × Value → H} {P : Program} {w : World} {base : Nat} {spare : Nat → Bool} {held : Bool} {t e ti ts : TypeId} {fs : Array Field} (ht : P.underlying t = some (.slice e)) (he : P.underlying e = some (.struct fs)) (hone : oneCellFields P fs = true) (hC : P.cellsOf e = 4)
    (hf : fs.toList.map (·.type) = [ti, ti, ti, ts]) (hi : P.underlying ti = some (.int .i64)) (hs : P.underlying ts = some .string)
    {v : Value} {d : DataW H} {ps : List MemPlace} (h : DataW.Trod enc P w base spare held t v d ps) (hv : v.cells = #[v]) :
    ∃ l : List OpS, SOps w (Old w) v l ∧ ∀ o ∈ l, (Lit.int .i64 o.b).wf = true ∧ (Lit.int .i64 o.c).wf = true ∧ o.s.length ≤ maxLen := by
  obtain ⟨fuel, h⟩ := h
  rw [hv] at h
  rcases open_slice ht h with ⟨hcs, _⟩ | ⟨a, len, cap, m, n, D, Pl, hcs, hbb, hl, hm, hmm, _, hall⟩
  · injection hcs with hcs
    subst hcs
    exact ⟨[], ⟨none, 0, rfl, Nat.le_refl _, fun i h => absurd h (Nat.not_lt_zero _)⟩, by simp⟩
  · injection hcs with hcs
    subst hcs
    have hspot : 0 < len → ∃ g off, a = ⟨g, off, none⟩ := fun h0 => by
      obtain ⟨cs', h1, _⟩ := hall 0 (by rw [hmm]; split <;> omega)
      rw [hC] at h1
      obtain ⟨_, hcl, hat⟩ := World.cells?_some h1
      have h2 := hat 0 (by omega)
      rw [List.getElem?_eq_getElem (by omega)] at h2
      obtain ⟨g, off, spot⟩ := a
      cases spot with
      | none => exact ⟨g, off, rfl⟩
      | some s =>
        exfalso
        simp only [Nat.zero_mul, Addr.add_zero'] at h2
        unfold World.cell? at h2
        split at h2
        · simp at h2
        · cases h2
    obtain ⟨l, hll, hp⟩ := list_of (fun i (o : OpS) => (∃ g off, a = ⟨g, off, none⟩ ∧ Old w g ∧ OpSIn w g (off + i * 4) o) ∧ (Lit.int .i64 o.b).wf = true ∧ (Lit.int .i64 o.c).wf = true ∧ o.s.length ≤ maxLen) len fun i hil => by
      have him : i < m := by rw [hmm]; split <;> omega
      obtain ⟨cs', h1, h2⟩ := hall i him
      rw [hC] at h1
      obtain ⟨ys, n', _, _, _, hyl, hfd⟩ := DataW.trod_struct he h2
      obtain ⟨_, hcl, hat⟩ := World.cells?_some h1
      have each : ∀ j (tj : TypeId), (fs.toList.map (·.type))[j]? = some tj → j < 4 → ∃ u y, w.cell? (a.add (i * 4 + j)) = some u ∧ DataW.trod enc P w base spare held n' tj [u] = some y := by
        intro j tj hj hj5
        obtain ⟨f, hfj, rfl⟩ := Option.map_eq_some_iff.1 (List.getElem?_map ▸ hj)
        rw [Array.getElem?_toList] at hfj
        obtain ⟨ho, hkk⟩ := hone_of hone j f hfj
        have hjl : j < fs.size := (Array.getElem?_eq_some_iff.1 hfj).1
        have h3 := hfd j f hfj
        rw [ho, hkk, List.drop_eq_getElem_cons (by omega), List.take_succ_cons, List.take_zero] at h3
        rw [List.getElem?_eq_getElem (by omega)] at h3
        refine ⟨_, _, ?_, h3⟩
        have := hat j hj5
        rw [add_add] at this
        rw [this, List.getElem?_eq_getElem (by omega)]
      rw [hf] at each
      obtain ⟨u0, y0, c0, t0⟩ := each 0 ti rfl (by omega)
      obtain ⟨u1, y1, c1, t1⟩ := each 1 ti rfl (by omega)
      obtain ⟨u2, y2, c2, t2⟩ := each 2 ti rfl (by omega)
      obtain ⟨u3, y3, c3, t3⟩ := each 3 ts rfl (by omega)
      obtain ⟨k0, e0, _, w0⟩ := DataW.trod_int hi t0
      obtain ⟨k1, e1, _, w1⟩ := DataW.trod_int hi t1
      obtain ⟨k2, e2, _, w2⟩ := DataW.trod_int hi t2
      obtain ⟨⟨⟨s⟩⟩, e3, _, w3⟩ := DataW.trod_string hs t3
      injection e0 with e0; injection e1 with e1; injection e2 with e2; injection e3 with e3
      subst e0; subst e1; subst e2; subst e3
      obtain ⟨g, off, rfl⟩ := hspot (by omega)
      simp only [Addr.add_lit] at c0 c1 c2 c3
      have hg : Old w g := World.block_lt_of_cell? w _ c0
      exact ⟨⟨k0, k1, k2, s⟩, ⟨g, off, rfl, hg, c0, by rw [Nat.add_assoc]; exact c1, by rw [Nat.add_assoc]; exact c2, by rw [Nat.add_assoc]; exact c3⟩, w1, w2, w3⟩
    refine ⟨l, ⟨some a, cap, by rw [hll], by omega, fun i hi => ?_⟩, fun o ho => ?_⟩
    · obtain ⟨⟨g, off, ha, hg, ho⟩, _⟩ := hp i hi
      exact ⟨g, off, by rw [ha], hg, ho⟩
    · obtain ⟨i, hi, rfl⟩ := List.mem_iff_getElem.1 ho
      exact (hp i hi).2
end Go.Proofs.YtdipjakblaeekaaGreat
namespace Go.Proofs.YtdipjakblaeekaaGreat
open Go.RowKit
set_option maxRecDepth 20000
section
variable {P : Program} {ops : Array Oper} {Q : Exit → Act → World → Prop} {S : World → Prop} {fuel : Nat} {listed : Array Bool} {a a' : Act} {w : World}
theorem hT (i d : Nat) {v : Value} (h : wpAnyH P .any ops Q S fuel (listed.setIfInBounds i true) a' w) (hS : S w := by assumption) (hd : (ops[i]?).map (·.dst) = some (some d) := by kernel_rfl) (hs : Region.noSelect ops = true := by kernel_rfl) (hf : Region.free .any ops listed i = true := by kernel_rfl) (hr : (Region.ready .any ops listed).contains i = true := by kernel_rfl)
    (hw : (ops[i]?).map (fun o => Region.wanted o (yielded ops a.tmps)) = some true := by kernel_rfl) (hQ : ∀ c (a : Act) (d : Option Tmp) (v : Value) w, Q (.panic c) (a.put d v) w → Q (.panic c) a w := by exact fun _ _ _ _ _ h => h)
    (hy : ∀ o, ops[i]? = some o → ∀ w, S w → (execOp a.eval o).run P w = .ok (.value v) w := by (intro o ho w' hSw; cases ho; (try dsimp only at hSw); go_simp; try with_reducible rfl))
    (hp : a.put (some d) v = a' := by ((try simp only [Act.put, List.setIfInBounds_toArray, List.set_cons_zero, List.set_cons_succ]); exact rfl)) : wpAnyH P .any ops Q S (fuel + 1) listed a w :=
  held_take hd hs hf hr rfl hw hQ hS hy (hp ▸ h)
theorem hV (i d : Nat) (v : Value) (h : wpAnyH P .any ops Q S fuel (listed.setIfInBounds i true) a' w) (hS : S w := by assumption) (hd : (ops[i]?).map (·.dst) = some (some d) := by kernel_rfl) (hs : Region.noSelect ops = true := by kernel_rfl) (hf : Region.free .any ops listed i = true := by kernel_rfl) (hr : (Region.ready .any ops listed).contains i = true := by kernel_rfl)
    (hw : (ops[i]?).map (fun o => Region.wanted o (yielded ops a.tmps)) = some true := by kernel_rfl) (hQ : ∀ c (a : Act) (d : Option Tmp) (v : Value) w, Q (.panic c) (a.put d v) w → Q (.panic c) a w := by exact fun _ _ _ _ _ h => h)
    (hy : ∀ o, ops[i]? = some o → ∀ w, S w → (execOp a.eval o).run P w = .ok (.value v) w := by (intro o ho w' hSw; cases ho; (try dsimp only at hSw); go_simp; first | done | with_reducible rfl | simp [*]))
    (hp : a.put (some d) v = a' := by ((try simp only [Act.put, List.setIfInBounds_toArray, List.set_cons_zero, List.set_cons_succ]); exact rfl)) : wpAnyH P .any ops Q S (fuel + 1) listed a w :=
  held_take hd hs hf hr rfl hw hQ hS hy (hp ▸ h)
theorem hK (i d : Nat) (h : wpAnyH P .any ops Q S fuel (listed.setIfInBounds i true) a' w) (hS : S w := by assumption) (hd : (ops[i]?).map (·.dst) = some (some d) := by kernel_rfl) (hs : Region.noSelect ops = true := by kernel_rfl) (hf : Region.free .any ops listed i = true := by kernel_rfl) (hr : (Region.ready .any ops listed).contains i = true := by kernel_rfl)
    (hw : (ops[i]?).map (fun o => Region.wanted o (yielded ops a.tmps)) = some false := by kernel_rfl) (hQ : ∀ c (a : Act) (d : Option Tmp) (v : Value) w, Q (.panic c) (a.put d v) w → Q (.panic c) a w := by exact fun _ _ _ _ _ h => h)
    (hp : a.put (some d) undef = a' := by ((try simp only [Act.put, List.setIfInBounds_toArray, List.set_cons_zero, List.set_cons_succ]); exact rfl)) : wpAnyH P .any ops Q S (fuel + 1) listed a w :=
  held_skip hd hs hf hr rfl hw hQ hS (hp ▸ h)
theorem hE (i : Nat) (h : ∀ o, ops[i]? = some o → ∀ K : Act → World → Prop, Shut (∀ a w, S w → (S w → wpAnyH P .any ops Q S fuel (listed.setIfInBounds i true) a w) → K a w) → Oper.wp P o a w K Q)
    (hr : Region.ready .any ops listed = [i] := by kernel_rfl) (hw : (ops[i]?).map (fun o => Region.wanted o (yielded ops a.tmps)) = some true := by kernel_rfl) : wpAnyH P .any ops Q S (fuel + 1) listed a w := held_step hr rfl hw h
theorem hB (id n : Nat) (S : World → Prop) (hS : S w.drew) (h : S w.drew → wpAnyH P .any ops (NoPanic Q) S n (Array.replicate n false) a w.drew) (hm : P.follows .mixedOrders = true := by kernel_rfl) (hn : ops.size = n := by kernel_rfl) : (Code.region id ops true).wp P Q a w :=
  wp_region_noPanic (held_start hm hn rfl hS h)
end
end Go.Proofs.YtdipjakblaeekaaGreat
