import Derived.Test.YtllodjcfcjmocaaWal3
import Derived.Test.YtllodjcfcjmocaaWr
import Derived.Deep.OwnRows
import Derived.Test.YtllodjcfcjmocaaHeld
/- THE WAL's commit: a closure that writes the first sector. -/
namespace Go.Proofs.Ytllodjcfcjmocaa
open Go.RowKit Go.Proofs

theorem oper_cpy {P : Program} {w : World} {o : Oper} {a : Act} {K : Act → World → Prop} {Q : Exit → Act → World → Prop} (d s : Operand) (dT sT : TypeId)
    (ho : o.op = .call { callee := .builtin .copy, args := #[d, s], argTypes := #[dT, sT] }) {e : TypeId} (hu : P.underlying dT = some (.slice e)) (hsz : (P.info? e).map (·.size) = some 1) {G : Nat → Prop} {g off dLen dCap : Nat} {t : TypeId} {cur : List Value}
    (hd : a.eval d = .slice (some ⟨g, off, none⟩) dLen dCap) {sv : Value} (hs : a.eval s = sv) (hg : Blk w g t cur.toArray) (hfit : off + dLen ≤ cur.length) {m : Nat} {news : List Value} (hr : Rd w G 1 sv m news) (h1 : ∀ u ∈ news, u.oneCell' = true)
    (hK : ∀ w', Cpy w g off t cur (news.take (Nat.min m dLen)) w' → K (a.put o.dst (.int .i64 (Nat.min m dLen))) w') : Oper.wp P o a w K Q := by
  subst hs
  obtain ⟨w', hrun, h2⟩ := run_copy_rd (P := P) (sT := sT) (ty := o.type) hu hsz hg hfit (dCap := dCap) hr h1
  unfold Oper.wp execOp
  simp only [ho, resolve, invoke, builtin, Sem.run_bind, Sem.run_pure, Result.andThen_ok, List.map_toArray, List.map_cons, List.map_nil, hd, hrun]
  exact hK w' h2
/-- A block of m bytes. -/
def BytesB (w : World) (g m : Nat) : Prop := ∃ cs : List UInt8, cs.length = m ∧ Blk w g 5 (cs.map byteV).toArray
theorem BytesB.cell {w : World} {g m i : Nat} (h : BytesB w g m) (hi : i < m) : ∃ x : UInt8, w.cell? ⟨g, i, none⟩ = some (.int .u8 x.toNat) := by
  obtain ⟨cs, hl, hb⟩ := h
  refine ⟨cs[i]'(by omega), ?_⟩
  rw [hb.cell]
  simp [List.getElem?_eq_getElem (show i < cs.length by omega), byteV]
theorem BytesB.frozen {w : World} {g m : Nat} (h : BytesB w g m) (i : Nat) : w.frozen? ⟨g, i, none⟩ = false := by
  obtain ⟨cs, hl, hb⟩ := h
  exact hb.frozen i
theorem byte_of {z : Int} (h0 : 0 ≤ z) (h1 : z < 256) : ∃ x : UInt8, Value.int .u8 z = byteV x :=
  ⟨UInt8.ofNat z.toNat, by
    have : (UInt8.ofNat z.toNat).toNat = z.toNat := by rw [UInt8.toNat_ofNat']; omega
    simp only [byteV, this]
    rw [Int.toNat_of_nonneg h0]⟩
theorem BytesB.store {w : World} {g m : Nat} (h : BytesB w g m) (i : Nat) {z : Int} (h0 : 0 ≤ z) (h1 : z < 256) : BytesB (w.setCell ⟨g, i, none⟩ (.int .u8 z)) g m := by
  obtain ⟨cs, hl, hb⟩ := h
  obtain ⟨x, hx⟩ := byte_of h0 h1
  refine ⟨cs.set i x, by simp [hl], ?_⟩
  have := hb.set_ i (.int .u8 z)
  rw [hx] at this ⊢
  rw [List.setIfInBounds_toArray] at this
  rw [List.map_set]
  exact this
theorem BytesB.only {F : Nat → Prop} {w w' : World} {g m : Nat} (h : BytesB w g m) (ho : Only F w w') (hF : ¬ F g) : BytesB w' g m := by
  obtain ⟨cs, hl, hb⟩ := h
  exact ⟨cs, hl, hb.only ho hF⟩
theorem wrap_u8 (z : Int) : 0 ≤ IntKind.u8.wrap z ∧ IntKind.u8.wrap z < 256 := by
  simp only [IntKind.wrap, IntKind.signed, IntKind.bits]
  simp
  omega

section
variable {w : World} {G K : Nat → Prop} {a b n m q : Nat} {W : WD} {lv : Value} {l : List Ch}
set_option maxHeartbeats 1000000 in
theorem commit1_any {p1 p2 : Nat} {v : Value} {cs : List UInt8} (h : WalIn w G a b W) (c1 : w.cell? ⟨p1, 0, none⟩ = some (.pointer (some ⟨a, 0, none⟩))) (c2 : w.cell? ⟨p2, 0, none⟩ = some v) (hv : Bytes w K v cs) (hb : Bnd n m q W.D) (hq : q ≤ 1000000) :
    Calls Try.prog 58 #[.pointer (some ⟨p1, 0, none⟩), .pointer (some ⟨p2, 0, none⟩)] w (DeedW w G a b (.int .i64 (DD.write 0 cs W.D).2) { W with D := (DD.write 0 cs W.D).1 }) := by
  have c3 : w.cell? ⟨a, 0, none⟩ = some (.pointer (some ⟨b, 0, none⟩)) := h.cell 0 _ rfl
  have HC := Lib.hid (fun w' (ho : Only NoB w w') => (h.quit ho).write hb hq 0 K v cs (Rd.only hv ho fun _ _ => id))
  have KP : Hid (∀ w', Only NoB w w' → w'.cell? ⟨p1, 0, none⟩ = some (.pointer (some ⟨a, 0, none⟩)) ∧ w'.cell? ⟨p2, 0, none⟩ = some v ∧ w'.cell? ⟨a, 0, none⟩ = some (.pointer (some ⟨b, 0, none⟩))) := Lib.hid fun w' ho => ⟨ho.cell c1 id, ho.cell c2 id, ho.cell c3 id⟩
  clear h hv hb
  go_enter Try.func58, Try.ntmps58
  go_wp2_with fail
  go_region_with (go_at_call 10; refine (HC.out _ (Only.drew (Only.refl _ _))).mono ?_; rintro e w5 ⟨rfl, G2, h2, ho2, hg2⟩; have H2 := Lib.hid h2; have HO2 := Lib.hid ho2; have HG2 := Lib.hid hg2; clear h2 ho2 hg2)
  all_goals
    go_wp2_with fail
    go_ret
    exact ⟨rfl, G2, H2.out, ⟨HO2.out.os, HO2.out.tape, HO2.out.output, HO2.out.size, HO2.out.block⟩, HG2.out⟩
/-- The commit's closure is made. -/
def FnCom (w : World) (G : Nat → Prop) (a b n m : Nat) (W : WD) (l : List Ch) (e : Ending) (w' : World) : Prop :=
  ∃ f cs, e = .returned f ∧ Only NoB w w' ∧ cs.length = W.D.m ∧ (l = [] → cs = DD.zero W.D.m) ∧ ActW w' G a b n m W f (DD.write 0 cs) 1
theorem act_commit {p1 p2 p3 k : Nat} {cs : List UInt8} (h1 : ¬ G p1) (h2 : ¬ G p2) (h3 : ¬ G p3) (c1 : w.cell? ⟨p1, 0, none⟩ = some (.pointer (some ⟨a, 0, none⟩))) (c2 : w.cell? ⟨p2, 0, none⟩ = some (.slice (some ⟨p3, 0, none⟩) cs.length k)) (hk : cs.length ≤ k) (hb : Blk w p3 5 (cs.map byteV).toArray) :
    ActW w G a b n m W (.func (.func 58) #[] #[.pointer (some ⟨p1, 0, none⟩), .pointer (some ⟨p2, 0, none⟩)]) (DD.write 0 cs) 1 := by
  refine ⟨fun q D h => h.write _ _, _, #[], _, rfl, fun _ _ => rfl, fun w1 G1 D1 q hw ho hg hbn hq => ?_⟩
  refine commit1_any (K := fun k => k = p3) hw (ho.cell c1 h1) (ho.cell c2 h2) (cs := cs) ⟨_, _, rfl, hk, by simp, fun _ => ⟨_, rfl, rfl, fun j u hu => ?_⟩⟩ hbn (by omega)
  rw [Addr.add_lit, Nat.zero_add, (hb.only ho h3).cell]
  simpa using hu

theorem BytesB.of_cpy {w w' : World} {g j m : Nat} {cs : List UInt8} {z1 z2 z3 : UInt8} {news : List Value} (hx : news = [z1, z2, z3].map byteV) (hl : cs.length = m) (hj : j + 3 ≤ m) (h : Cpy w g j 5 (cs.map byteV) (news.take (Nat.min 3 (m - j))) w') : BytesB w' g m := by
  have hb := h.blk
  rw [hx, show Nat.min 3 (m - j) = 3 from Nat.min_eq_left (by omega)] at hb
  refine ⟨cs.take j ++ [z1, z2, z3] ++ cs.drop (j + 3), by simp; omega, ?_⟩
  have : (cs.take j ++ [z1, z2, z3] ++ cs.drop (j + 3)).map byteV = splice (cs.map byteV) j (([z1, z2, z3].map byteV).take 3) := by
    simp [splice, List.map_take, List.map_drop]
  rw [this]
  exact hb
theorem com_blocks (w : World) (a k : Nat) (cs : Array Value) :
    Blk (((w.alloc (.cells #[.pointer (some ⟨a, 0, none⟩)] 59)).alloc (.cells cs 5)).alloc (.cells #[.slice (some ⟨w.heap.size + 1, 0, none⟩) k k] 28)) w.heap.size 59 #[.pointer (some ⟨a, 0, none⟩)] ∧
    Blk (((w.alloc (.cells #[.pointer (some ⟨a, 0, none⟩)] 59)).alloc (.cells cs 5)).alloc (.cells #[.slice (some ⟨w.heap.size + 1, 0, none⟩) k k] 28)) (w.heap.size + 1) 5 cs ∧
    Blk (((w.alloc (.cells #[.pointer (some ⟨a, 0, none⟩)] 59)).alloc (.cells cs 5)).alloc (.cells #[.slice (some ⟨w.heap.size + 1, 0, none⟩) k k] 28)) (w.heap.size + 1 + 1) 28 #[.slice (some ⟨w.heap.size + 1, 0, none⟩) k k] ∧
    Only NoB w (((w.alloc (.cells #[.pointer (some ⟨a, 0, none⟩)] 59)).alloc (.cells cs 5)).alloc (.cells #[.slice (some ⟨w.heap.size + 1, 0, none⟩) k k] 28)) := by
  have b1 := Blk.new (w.alloc (.cells #[.pointer (some ⟨a, 0, none⟩)] 59)) 5 cs
  have b2 := Blk.new ((w.alloc (.cells #[.pointer (some ⟨a, 0, none⟩)] 59)).alloc (.cells cs 5)) 28 #[.slice (some ⟨w.heap.size + 1, 0, none⟩) k k]
  rw [World.size_alloc] at b1
  rw [World.size_alloc, World.size_alloc] at b2
  exact ⟨((Blk.new w _ _).alloc _).alloc _, b1.alloc _, b2, (((Only.refl NoB w).alloc _).alloc _).alloc _⟩

set_option maxRecDepth 2048 in
set_option maxHeartbeats 4000000 in
theorem commit_none (h : WalIn w G a b W) (c : Nat) (hm : W.D.m ≤ 4096) (A : Option Addr) : Calls Try.prog 51 #[.pointer (some ⟨a, 0, none⟩), .slice A 0 c] w (FnCom w G a b n m W []) := by
  have c3 : w.cell? ⟨a, 3, none⟩ = some (.int .i64 W.D.m) := h.cell 3 _ rfl
  have hmk := run_make_row' (P := Try.prog) 28 5 (.int .u8 0) 1 Ty.bytesU Ty.byte.1 rfl .i64 .i64 W.D.m (by omega) (by omega)
  have ha := h.blk.lt
  have H := Lib.hid h
  clear h
  go_enter Try.func51, Try.ntmps51
  go_wp2_with fail
  obtain ⟨O, hO⟩ : ∃ O, O = Obj.cells (madeCells #[.int .u8 0] W.D.m) 5 := ⟨_, rfl⟩
  go_loop [31] (fun i => i = .int .i64 0) (fun _ => 0)
  case atStart => exact rfl
  case round =>
    obtain rfl := hrel
    go_wp2_with fail
    go_ret
    obtain ⟨q0, q1, q2, ho⟩ := com_blocks w a W.D.m (madeCells #[.int .u8 0] W.D.m)
    have hG : ∀ k, w.heap.size ≤ k → ¬ G k := fun k hk hg => by have := H.out.disk.1 k hg; omega
    have hz : (DD.zero W.D.m).length = W.D.m := by simp [DD.zero]
    refine ⟨_, DD.zero W.D.m, rfl, ho, hz, fun _ => rfl, act_commit (p3 := w.heap.size + 1) (k := W.D.m) (hG _ (Nat.le_refl _)) (hG _ (Nat.le_add_right _ 2)) (hG _ (Nat.le_succ _)) (q0.cell 0) (by rw [hz]; exact q2.cell 0) (by omega) ?_⟩
    have e := madeCells_one (.int .u8 0) W.D.m
    rw [Nat.mul_one] at e
    have e2 : (List.replicate W.D.m (Value.int .u8 0)) = (DD.zero W.D.m).map byteV := by unfold DD.zero; rw [List.map_replicate]; rfl
    rw [← e2, ← e]
    exact q1

set_option maxRecDepth 2048 in
set_option maxHeartbeats 8000000 in
theorem commit_some (h : WalIn w G a b W) (hl : Changes w K lv l) (hK : ∀ k, K k → k < w.heap.size) (hm : W.D.m ≤ 4096) (h0 : 0 < l.length) (hfit : 3 + 3 * l.length ≤ W.D.m) (hs : ∀ c ∈ l, 0 ≤ c.1 ∧ c.1 < 1000000000) : Calls Try.prog 51 #[.pointer (some ⟨a, 0, none⟩), lv] w (FnCom w G a b n m W l) := by
  have c3 : w.cell? ⟨a, 3, none⟩ = some (.int .i64 W.D.m) := h.cell 3 _ rfl
  have hmk := run_make_row' (P := Try.prog) 28 5 (.int .u8 0) 1 Ty.bytesU Ty.byte.1 rfl .i64 .i64 W.D.m (by omega) (by omega)
  obtain ⟨A, c, rfl, hvx⟩ := id hl
  clear hvx
  have H := Lib.hid h
  have HL := Lib.hid hl
  have HK := Lib.hid hK
  have HS := Lib.hid hs
  have ha := h.blk.lt
  obtain ⟨q0, q1, q2, ho⟩ := com_blocks w a W.D.m (madeCells #[.int .u8 0] W.D.m)
  have hz : (DD.zero W.D.m).length = W.D.m := by simp [DD.zero]
  have e := madeCells_one (.int .u8 0) W.D.m
  rw [Nat.mul_one] at e
  have e2 : (List.replicate W.D.m (Value.int .u8 0)) = (DD.zero W.D.m).map byteV := by unfold DD.zero; rw [List.map_replicate]; rfl
  obtain ⟨w3, hw3⟩ : ∃ w3, w3 = (((w.alloc (.cells #[.pointer (some ⟨a, 0, none⟩)] 59)).alloc (.cells (madeCells #[.int .u8 0] W.D.m) 5)).alloc (.cells #[.slice (some ⟨w.heap.size + 1, 0, none⟩) W.D.m W.D.m] 28)) := ⟨_, rfl⟩
  rw [← hw3] at q0 q1 q2 ho
  rw [e, e2] at q1
  have B1 : Hid (BytesB w3 (w.heap.size + 1) W.D.m) := Lib.hid ⟨_, hz, q1⟩
  have Q0 := Lib.hid q0
  have Q2 := Lib.hid q2
  have HO := Lib.hid ho
  clear h hl hK hs q0 q1 q2 ho e e2 hz
  go_enter Try.func51, Try.ntmps51
  go_wp2_with fail
  rw [← hw3]
  clear hw3 c3
  have x2 : w3.cell? ⟨w.heap.size + 1 + 1, 0, none⟩ = some (.slice (some ⟨w.heap.size + 1, 0, none⟩) W.D.m W.D.m) := Q2.out.cell 0
  obtain ⟨y0, hy0⟩ := B1.out.cell (i := 0) (by omega)
  obtain ⟨y1, hy1⟩ := B1.out.cell (i := 1) (by omega)
  obtain ⟨y2, hy2⟩ := B1.out.cell (i := 2) (by omega)
  have f0 := B1.out.frozen 0
  have f1 := B1.out.frozen 1
  have f2 := B1.out.frozen 2
  have hm0 : (0 : Int) < (W.D.m : Int) := by omega
  have hm1 : (1 : Int) < (W.D.m : Int) := by omega
  have hm2 : (2 : Int) < (W.D.m : Int) := by omega
  go_region
  obtain ⟨w5, hw5⟩ : ∃ w5, w5 = (((w3.setCell ⟨w.heap.size + 1, 0, none⟩ (.int .u8 1)).setCell ⟨w.heap.size + 1, 1, none⟩ (.int .u8 ((l.length : Int) / 256))).setCell ⟨w.heap.size + 1, 2, none⟩ (.int .u8 ((l.length : Int) % 256))).drew := ⟨_, rfl⟩
  have B5 : BytesB w5 (w.heap.size + 1) W.D.m := by
    rw [hw5]
    exact ((B1.out.store 0 (z := 1) (by omega) (by omega)).store 1 (by omega) (by omega)).store 2 (by omega) (by omega)
  have ho5 : Only (fun k => k = w.heap.size + 1) w3 w5 := by
    rw [hw5]
    exact ((((Only.refl (fun k => k = w.heap.size + 1) w3).setCell (p := ⟨w.heap.size + 1, 0, none⟩) (.inl rfl) _).setCell (p := ⟨w.heap.size + 1, 1, none⟩) (.inl rfl) _).setCell (p := ⟨w.heap.size + 1, 2, none⟩) (.inl rfl) _).drew
  have Q05 := Lib.hid (Q0.out.only ho5 (by omega))
  have Q25 := Lib.hid (Q2.out.only ho5 (by omega))
  have O5 := Lib.hid (only_new HO.out ho5 fun k hk => by rw [hk]; exact Nat.le_succ _)
  have B5 := Lib.hid B5
  rw [← hw5]
  clear hw5 ho5 x2 hy0 hy1 hy2 f0 f1 f2 Q0 Q2 B1 HO hm0 hm1 hm2
  go_wp2_with fail
  go_loopw [31] (fun i wr => ∃ k : Nat, k ≤ l.length ∧ i = .int .i64 k ∧ BytesB wr (w.heap.size + 1) W.D.m ∧ Blk wr w.heap.size 59 #[.pointer (some ⟨a, 0, none⟩)] ∧ Blk wr (w.heap.size + 1 + 1) 28 #[.slice (some ⟨w.heap.size + 1, 0, none⟩) W.D.m W.D.m] ∧ Only NoB w wr) (fun i _ => l.length - (intOf i).toNat)
  case atStart => exact ⟨0, Nat.zero_le _, rfl, B5.out, Q05.out, Q25.out, O5.out⟩
  case round =>
    obtain ⟨k, hk, rfl, hb, hq0, hq2, ho⟩ := hrel
    have BK := Lib.hid hb
    have Q0 := Lib.hid hq0
    have Q2 := Lib.hid hq2
    have HO := Lib.hid ho
    clear hb hq0 hq2 ho B5 Q05 Q25 O5
    by_cases hlt : k < l.length
    · obtain ⟨g, off, cc, bv, hve, _, hgK, hch⟩ := (HL.out.only HO.out fun _ _ => id).open_ hlt
      injection hve with h1 h2 h3
      subst h1; subst h3
      obtain ⟨bA, bc, rfl, _⟩ := id hch.rb
      have x0 := hch.sec
      have x1 := hch.bytes
      have x2 : (wr.alloc (.cells #[.int .i64 l[k].1, .slice bA l[k].2.length bc] 69)).cell? ⟨w.heap.size + 1 + 1, 0, none⟩ = some (.slice (some ⟨w.heap.size + 1, 0, none⟩) W.D.m W.D.m) := (Q2.out.alloc _).cell 0
      obtain ⟨j, hj⟩ : ∃ j : Nat, j = 3 + 3 * k := ⟨_, rfl⟩
      have hjm : j + 3 ≤ W.D.m := by omega
      have hjm2 : j ≤ W.D.m := by omega
      have hjm3 : (j : Int) ≤ (W.D.m : Int) := by omega
      have hw1 : IntKind.i64.wrap (3 * (k : Int)) = 3 * (k : Int) := by
        simp only [IntKind.wrap, IntKind.signed, IntKind.bits]
        simp
        omega
      have hw2 : IntKind.i64.wrap (3 + 3 * (k : Int)) = (j : Int) := by
        simp only [IntKind.wrap, IntKind.signed, IntKind.bits]
        simp
        omega
      have hmj : ¬ W.D.m = j := by omega
      have HJ := Lib.hid hj
      clear hj
      obtain ⟨hs0, hs1⟩ := HS.out l[k] (List.getElem_mem hlt)
      obtain ⟨s, hse⟩ : ∃ s, s = l[k].1 := ⟨_, rfl⟩
      rw [← hse] at x0 x2 hs0 hs1
      clear hch hse
      obtain ⟨z1, hz1⟩ := byte_of (wrap_u8 (s / 65536)).1 (wrap_u8 (s / 65536)).2
      obtain ⟨z2, hz2⟩ := byte_of (wrap_u8 (s / 256)).1 (wrap_u8 (s / 256)).2
      obtain ⟨z3, hz3⟩ := byte_of (wrap_u8 s).1 (wrap_u8 s).2
      obtain ⟨cs, hcl, hcb⟩ := BK.out
      obtain ⟨w5, hw5⟩ : ∃ w5, w5 = wr.alloc (.cells #[.int .i64 s, .slice bA l[k].2.length bc] 69) := ⟨_, rfl⟩
      have o5 : Only NoB wr w5 := by rw [hw5]; exact (Only.refl NoB wr).alloc _
      have s5 : w5.heap.size = wr.heap.size + 1 := by rw [hw5, World.size_alloc]
      have y2 : w5.cell? ⟨w.heap.size + 1 + 1, 0, none⟩ = some (.slice (some ⟨w.heap.size + 1, 0, none⟩) W.D.m W.D.m) := by rw [hw5]; exact x2
      have y0 : w5.cell? ⟨wr.heap.size, 0, none⟩ = some (.int .i64 s) := by rw [hw5]; exact (Blk.new wr 69 #[.int .i64 s, .slice bA l[k].2.length bc]).cell 0
      obtain ⟨w6, hw6⟩ : ∃ w6, w6 = w5.drew.alloc (.cells #[.int .u8 (IntKind.u8.wrap (s / 65536)), .int .u8 (IntKind.u8.wrap (s / 256)), .int .u8 (IntKind.u8.wrap s)] 5) := ⟨_, rfl⟩
      have o6 : Only NoB wr w6 := by rw [hw6]; exact o5.drew.alloc _
      have hrd := rd_new w5.drew 5 1 3 [.int .u8 (IntKind.u8.wrap (s / 65536)), .int .u8 (IntKind.u8.wrap (s / 256)), .int .u8 (IntKind.u8.wrap s)] rfl
      rw [show w5.drew.heap.size = wr.heap.size + 1 from s5] at hrd
      have hrd6 : Rd w6 (fun k => k = wr.heap.size + 1) 1 (.slice (some ⟨wr.heap.size + 1, 0, none⟩) 3 3) 3 [.int .u8 (IntKind.u8.wrap (s / 65536)), .int .u8 (IntKind.u8.wrap (s / 256)), .int .u8 (IntKind.u8.wrap s)] := by rw [hw6]; exact hrd
      have HB6 := Lib.hid (hcb.only o6 id)
      have HR6 := Lib.hid hrd6
      have HF6 : Hid (j + (W.D.m - j) ≤ (cs.map byteV).length) := Lib.hid (by simp [hcl]; omega)
      have HN6 : Hid (∀ u ∈ [Value.int .u8 (IntKind.u8.wrap (s / 65536)), .int .u8 (IntKind.u8.wrap (s / 256)), .int .u8 (IntKind.u8.wrap s)], u.oneCell' = true) := Lib.hid (by simp [Value.oneCell'])
      have HX : Hid ([Value.int .u8 (IntKind.u8.wrap (s / 65536)), .int .u8 (IntKind.u8.wrap (s / 256)), .int .u8 (IntKind.u8.wrap s)] = [z1, z2, z3].map byteV) := Lib.hid (by rw [hz1, hz2, hz3]; rfl)
      have O6 := Lib.hid o6
      have HCL := Lib.hid hcl
      rw [hw6] at HB6 HR6 O6
      clear hz1 hz2 hz3 hcl hcb hw6 o6 hrd hrd6
      go_wp2_with fail
      rw [← hw5]
      have S5 := s5
      clear hw5 x0 x1 x2 o5
      have KS : Hid (∀ w', Only NoB w5 w' → w'.cell? ⟨w.heap.size + 1 + 1, 0, none⟩ = some (.slice (some ⟨w.heap.size + 1, 0, none⟩) W.D.m W.D.m) ∧ w'.cell? ⟨wr.heap.size, 0, none⟩ = some (.int .i64 s)) := Lib.hid fun w' ho => ⟨ho.cell y2 id, ho.cell y0 id⟩
      have KC : Hid (∀ w', Only (fun k => k = w.heap.size + 1) (w5.drew.alloc (.cells #[.int .u8 (IntKind.u8.wrap (s / 65536)), .int .u8 (IntKind.u8.wrap (s / 256)), .int .u8 (IntKind.u8.wrap s)] 5)) w' → w'.cell? ⟨w.heap.size + 1 + 1, 0, none⟩ = some (.slice (some ⟨w.heap.size + 1, 0, none⟩) W.D.m W.D.m) ∧ w'.cell? ⟨wr.heap.size, 0, none⟩ = some (.int .i64 s)) := Lib.hid fun w' ho => by
        have := KS.out _ (((Only.refl NoB w5).drew).alloc (.cells #[.int .u8 (IntKind.u8.wrap (s / 65536)), .int .u8 (IntKind.u8.wrap (s / 256)), .int .u8 (IntKind.u8.wrap s)] 5))
        have h1 := HO.out.size
        have h2 := Q2.out.lt
        exact ⟨ho.cell this.1 (show w.heap.size + 1 + 1 ≠ w.heap.size + 1 by omega), ho.cell this.2 (show wr.heap.size ≠ w.heap.size + 1 by omega)⟩
      refine wp_region_noPanic ?_
      refine held_start (n := 18) (S := (fun w' => w'.cell? ⟨w.heap.size + 1 + 1, 0, none⟩ = some (.slice (some ⟨w.heap.size + 1, 0, none⟩) W.D.m W.D.m) ∧ w'.cell? ⟨wr.heap.size, 0, none⟩ = some (.int .i64 s))) (listed := #[false, false, false, false, false, false, false, false, false, false, false, false, false, false, false, false, false, false]) (by kernel_rfl) (by kernel_rfl) (by kernel_rfl) (KS.out _ ((Only.refl NoB w5).drew)) (fun hHeld => ?_)
      refine held_take (i := 0) (d := 36) (v := ?_) (listed' := #[true, false, false, false, false, false, false, false, false, false, false, false, false, false, false, false, false, false]) (by kernel_rfl) (by kernel_rfl) (by kernel_rfl) (by kernel_rfl) (by kernel_rfl) (by kernel_rfl) (fun _ _ _ _ _ h => h) (by assumption) ?_ ?_
      rotate_left
      · (intro o ho w' hSw; cases ho; (try dsimp only at hSw); go_simp; try with_reducible rfl)
      simp only [Act.put, List.setIfInBounds_toArray, List.set_cons_zero, List.set_cons_succ]
      refine held_take (i := 1) (d := 37) (v := ?_) (listed' := #[true, true, false, false, false, false, false, false, false, false, false, false, false, false, false, false, false, false]) (by kernel_rfl) (by kernel_rfl) (by kernel_rfl) (by kernel_rfl) (by kernel_rfl) (by kernel_rfl) (fun _ _ _ _ _ h => h) (by assumption) ?_ ?_
      rotate_left
      · (intro o ho w' hSw; cases ho; (try dsimp only at hSw); go_simp; try with_reducible rfl)
      simp only [Act.put, List.setIfInBounds_toArray, List.set_cons_zero, List.set_cons_succ]
      refine held_take (i := 2) (d := 38) (v := .int .i64 (3 * (k : Int))) (listed' := #[true, true, true, false, false, false, false, false, false, false, false, false, false, false, false, false, false, false]) (by kernel_rfl) (by kernel_rfl) (by kernel_rfl) (by kernel_rfl) (by kernel_rfl) (by kernel_rfl) (fun _ _ _ _ _ h => h) (by assumption) ?_ ?_
      · (intro o ho w' hSw; cases ho; (try dsimp only at hSw); go_simp; first | done | with_reducible rfl | simp [*])
      simp only [Act.put, List.setIfInBounds_toArray, List.set_cons_zero, List.set_cons_succ]
      refine held_take (i := 3) (d := 39) (v := .int .i64 (j : Int)) (listed' := #[true, true, true, true, false, false, false, false, false, false, false, false, false, false, false, false, false, false]) (by kernel_rfl) (by kernel_rfl) (by kernel_rfl) (by kernel_rfl) (by kernel_rfl) (by kernel_rfl) (fun _ _ _ _ _ h => h) (by assumption) ?_ ?_
      · (intro o ho w' hSw; cases ho; (try dsimp only at hSw); go_simp; first | done | with_reducible rfl | simp [*])
      simp only [Act.put, List.setIfInBounds_toArray, List.set_cons_zero, List.set_cons_succ]
      refine held_take (i := 4) (d := 40) (v := .slice (some ⟨w.heap.size + 1, j, none⟩) (W.D.m - j) (W.D.m - j)) (listed' := #[true, true, true, true, true, false, false, false, false, false, false, false, false, false, false, false, false, false]) (by kernel_rfl) (by kernel_rfl) (by kernel_rfl) (by kernel_rfl) (by kernel_rfl) (by kernel_rfl) (fun _ _ _ _ _ h => h) (by assumption) ?_ ?_
      · (intro o ho w' hSw; cases ho; (try dsimp only at hSw); go_simp; first | done | with_reducible rfl | simp [*])
      simp only [Act.put, List.setIfInBounds_toArray, List.set_cons_zero, List.set_cons_succ]
      refine held_take (i := 5) (d := 41) (v := ?_) (listed' := #[true, true, true, true, true, true, false, false, false, false, false, false, false, false, false, false, false, false]) (by kernel_rfl) (by kernel_rfl) (by kernel_rfl) (by kernel_rfl) (by kernel_rfl) (by kernel_rfl) (fun _ _ _ _ _ h => h) (by assumption) ?_ ?_
      rotate_left
      · (intro o ho w' hSw; cases ho; (try dsimp only at hSw); go_simp; try with_reducible rfl)
      simp only [Act.put, List.setIfInBounds_toArray, List.set_cons_zero, List.set_cons_succ]
      refine held_take (i := 6) (d := 42) (v := ?_) (listed' := #[true, true, true, true, true, true, true, false, false, false, false, false, false, false, false, false, false, false]) (by kernel_rfl) (by kernel_rfl) (by kernel_rfl) (by kernel_rfl) (by kernel_rfl) (by kernel_rfl) (fun _ _ _ _ _ h => h) (by assumption) ?_ ?_
      rotate_left
      · (intro o ho w' hSw; cases ho; (try dsimp only at hSw); go_simp; try with_reducible rfl)
      simp only [Act.put, List.setIfInBounds_toArray, List.set_cons_zero, List.set_cons_succ]
      refine held_take (i := 7) (d := 43) (v := ?_) (listed' := #[true, true, true, true, true, true, true, true, false, false, false, false, false, false, false, false, false, false]) (by kernel_rfl) (by kernel_rfl) (by kernel_rfl) (by kernel_rfl) (by kernel_rfl) (by kernel_rfl) (fun _ _ _ _ _ h => h) (by assumption) ?_ ?_
      rotate_left
      · (intro o ho w' hSw; cases ho; (try dsimp only at hSw); go_simp; try with_reducible rfl)
      simp only [Act.put, List.setIfInBounds_toArray, List.set_cons_zero, List.set_cons_succ]
      refine held_take (i := 8) (d := 44) (v := ?_) (listed' := #[true, true, true, true, true, true, true, true, true, false, false, false, false, false, false, false, false, false]) (by kernel_rfl) (by kernel_rfl) (by kernel_rfl) (by kernel_rfl) (by kernel_rfl) (by kernel_rfl) (fun _ _ _ _ _ h => h) (by assumption) ?_ ?_
      rotate_left
      · (intro o ho w' hSw; cases ho; (try dsimp only at hSw); go_simp; try with_reducible rfl)
      simp only [Act.put, List.setIfInBounds_toArray, List.set_cons_zero, List.set_cons_succ]
      refine held_take (i := 9) (d := 45) (v := ?_) (listed' := #[true, true, true, true, true, true, true, true, true, true, false, false, false, false, false, false, false, false]) (by kernel_rfl) (by kernel_rfl) (by kernel_rfl) (by kernel_rfl) (by kernel_rfl) (by kernel_rfl) (fun _ _ _ _ _ h => h) (by assumption) ?_ ?_
      rotate_left
      · (intro o ho w' hSw; cases ho; (try dsimp only at hSw); go_simp; try with_reducible rfl)
      simp only [Act.put, List.setIfInBounds_toArray, List.set_cons_zero, List.set_cons_succ]
      refine held_take (i := 10) (d := 46) (v := ?_) (listed' := #[true, true, true, true, true, true, true, true, true, true, true, false, false, false, false, false, false, false]) (by kernel_rfl) (by kernel_rfl) (by kernel_rfl) (by kernel_rfl) (by kernel_rfl) (by kernel_rfl) (fun _ _ _ _ _ h => h) (by assumption) ?_ ?_
      rotate_left
      · (intro o ho w' hSw; cases ho; (try dsimp only at hSw); go_simp; try with_reducible rfl)
      simp only [Act.put, List.setIfInBounds_toArray, List.set_cons_zero, List.set_cons_succ]
      refine held_take (i := 11) (d := 47) (v := ?_) (listed' := #[true, true, true, true, true, true, true, true, true, true, true, true, false, false, false, false, false, false]) (by kernel_rfl) (by kernel_rfl) (by kernel_rfl) (by kernel_rfl) (by kernel_rfl) (by kernel_rfl) (fun _ _ _ _ _ h => h) (by assumption) ?_ ?_
      rotate_left
      · (intro o ho w' hSw; cases ho; (try dsimp only at hSw); go_simp; try with_reducible rfl)
      simp only [Act.put, List.setIfInBounds_toArray, List.set_cons_zero, List.set_cons_succ]
      refine held_take (i := 12) (d := 48) (v := ?_) (listed' := #[true, true, true, true, true, true, true, true, true, true, true, true, true, false, false, false, false, false]) (by kernel_rfl) (by kernel_rfl) (by kernel_rfl) (by kernel_rfl) (by kernel_rfl) (by kernel_rfl) (fun _ _ _ _ _ h => h) (by assumption) ?_ ?_
      rotate_left
      · (intro o ho w' hSw; cases ho; (try dsimp only at hSw); go_simp; try with_reducible rfl)
      simp only [Act.put, List.setIfInBounds_toArray, List.set_cons_zero, List.set_cons_succ]
      refine held_take (i := 13) (d := 49) (v := ?_) (listed' := #[true, true, true, true, true, true, true, true, true, true, true, true, true, true, false, false, false, false]) (by kernel_rfl) (by kernel_rfl) (by kernel_rfl) (by kernel_rfl) (by kernel_rfl) (by kernel_rfl) (fun _ _ _ _ _ h => h) (by assumption) ?_ ?_
      rotate_left
      · (intro o ho w' hSw; cases ho; (try dsimp only at hSw); go_simp; try with_reducible rfl)
      simp only [Act.put, List.setIfInBounds_toArray, List.set_cons_zero, List.set_cons_succ]
      refine held_take (i := 14) (d := 50) (v := ?_) (listed' := #[true, true, true, true, true, true, true, true, true, true, true, true, true, true, true, false, false, false]) (by kernel_rfl) (by kernel_rfl) (by kernel_rfl) (by kernel_rfl) (by kernel_rfl) (by kernel_rfl) (fun _ _ _ _ _ h => h) (by assumption) ?_ ?_
      rotate_left
      · (intro o ho w' hSw; cases ho; (try dsimp only at hSw); go_simp; try with_reducible rfl)
      simp only [Act.put, List.setIfInBounds_toArray, List.set_cons_zero, List.set_cons_succ]
      refine held_take (i := 15) (d := 51) (v := ?_) (listed' := #[true, true, true, true, true, true, true, true, true, true, true, true, true, true, true, true, false, false]) (by kernel_rfl) (by kernel_rfl) (by kernel_rfl) (by kernel_rfl) (by kernel_rfl) (by kernel_rfl) (fun _ _ _ _ _ h => h) (by assumption) ?_ ?_
      rotate_left
      · (intro o ho w' hSw; cases ho; (try dsimp only at hSw); go_simp; try with_reducible rfl)
      simp only [Act.put, List.setIfInBounds_toArray, List.set_cons_zero, List.set_cons_succ]
      refine held_step (i := 16) (listed' := #[true, true, true, true, true, true, true, true, true, true, true, true, true, true, true, true, true, false]) (by kernel_rfl) (by kernel_rfl) (by kernel_rfl) (fun o ho K hK => ?_)
      cases ho
      go_simp
      refine hK.out _ _ (KS.out _ (((Only.refl NoB w5).drew).alloc _)) (fun hHeld => ?_)
      clear hK K
      try dsimp only
      refine held_step (i := 17) (listed' := #[true, true, true, true, true, true, true, true, true, true, true, true, true, true, true, true, true, true]) (by kernel_rfl) (by kernel_rfl) (by kernel_rfl) (fun o ho K hK => ?_)
      cases ho
      refine oper_cpy _ _ _ _ (by rfl) Ty.bytesU Ty.byteSize (by rfl) (by rfl) HB6.out HF6.out HR6.out HN6.out ?_
      intro w7 hcp
      refine hK.out _ _ (KC.out w7 hcp.only) (fun hHeld => ?_)
      clear hK K
      try simp only [Act.put, List.setIfInBounds_toArray]
      refine wpAnyH_done (by kernel_rfl) ?_ _
      refine NoPanic.normal ?_
      all_goals
        have HC7 := Lib.hid (BytesB.of_cpy HX.out HCL.out hjm hcp)
        have o7 := hcp.only
        have hne0 : w.heap.size ≠ w.heap.size + 1 := by omega
        have hne2 : w.heap.size + 1 + 1 ≠ w.heap.size + 1 := by omega
        have Q07 := Lib.hid ((Q0.out.only O6.out id).only o7 hne0)
        have Q27 := Lib.hid ((Q2.out.only O6.out id).only o7 hne2)
        have O7 := Lib.hid (only_new (HO.out.trans O6.out) o7 fun k hk => by rw [hk]; exact Nat.le_succ _)
        clear hcp o7 HB6 HR6 HF6 HN6 O6
        go_wp2_with fail
        exact ⟨⟨k + 1, by omega, by go_num, HC7.out, Q07.out, Q27.out, O7.out⟩, by simp [intOf]; omega⟩
    · obtain rfl : k = l.length := by omega
      have hG : ∀ k, w.heap.size ≤ k → ¬ G k := fun k hk hg => by have := H.out.disk.1 k hg; omega
      have HG := Lib.hid hG
      clear hG
      go_wp2_with fail
      go_ret
      obtain ⟨cs, hcl, hcb⟩ := BK.out
      refine ⟨_, cs, rfl, HO.out, hcl, fun e => by rw [e] at h0; simp at h0, act_commit (p3 := w.heap.size + 1) (k := W.D.m) (HG.out _ (Nat.le_refl _)) (HG.out _ (Nat.le_add_right _ 2)) (HG.out _ (Nat.le_succ _)) (Q0.out.cell 0) (by rw [hcl]; exact Q2.out.cell 0) (by omega) hcb⟩
end
end Go.Proofs.Ytllodjcfcjmocaa
