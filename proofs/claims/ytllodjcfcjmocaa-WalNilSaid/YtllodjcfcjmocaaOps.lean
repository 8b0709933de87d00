import Derived.Test.YtllodjcfcjmocaaRef6
import Derived.Test.YtllodjcfcjmocaaArgs
import Derived.Deep.Fields
import Derived.ChangeSame
/- A SCRIPT OF CALLS, as an argument; few. -/
namespace Go.Proofs.Ytllodjcfcjmocaa
open Go.RowKit Go.Proofs

structure OpD where
  call : Int
  sector : Int
  n : Int
  bytes : List UInt8
  keep : List Bool
/-- The i-th call in memory: where its five cells lie. -/
structure OpIn (w : World) (F : Nat → Prop) (g off : Nat) (o : OpD) (bv kv : Value) : Prop where
  call : w.cell? ⟨g, off, none⟩ = some (.int .i64 o.call)
  sector : w.cell? ⟨g, off + 1, none⟩ = some (.int .i64 o.sector)
  n : w.cell? ⟨g, off + 2, none⟩ = some (.int .i64 o.n)
  bytes : w.cell? ⟨g, off + 3, none⟩ = some bv
  keep : w.cell? ⟨g, off + 4, none⟩ = some kv
  rb : Bytes w F bv o.bytes
  rk : Bools w F kv o.keep
/-- v is a slice that reads as the script l. -/
def Ops (w : World) (F : Nat → Prop) (v : Value) (l : List OpD) : Prop :=
  ∃ A c, v = .slice A l.length c ∧ l.length ≤ c ∧ ∀ i (h : i < l.length), ∃ g off bv kv, A = some ⟨g, off, none⟩ ∧ F g ∧ OpIn w F g (off + i * 5) l[i] bv kv
theorem OpIn.only {w w' : World} {F G : Nat → Prop} {g off : Nat} {o : OpD} {bv kv : Value} (h : OpIn w F g off o bv kv) (ho : Only G w w') (hg : F g) (hd : ∀ k, F k → ¬ G k) : OpIn w' F g off o bv kv :=
  ⟨ho.cell h.call (hd g hg), ho.cell h.sector (hd g hg), ho.cell h.n (hd g hg), ho.cell h.bytes (hd g hg), ho.cell h.keep (hd g hg), Rd.only h.rb ho hd, Rd.only h.rk ho hd⟩
theorem Ops.open_ {w : World} {F : Nat → Prop} {v : Value} {l : List OpD} (h : Ops w F v l) {i : Nat} (hi : i < l.length) : ∃ g off c bv kv, v = .slice (some ⟨g, off, none⟩) l.length c ∧ l.length ≤ c ∧ F g ∧ OpIn w F g (off + i * 5) l[i] bv kv := by
  obtain ⟨A, c, hv, hc, h⟩ := h
  obtain ⟨g, off, bv, kv, hA, hg, ho⟩ := h i hi
  exact ⟨g, off, c, bv, kv, by rw [hv, hA], hc, hg, ho⟩
def fewD (l : List OpD) : Prop := l.length ≤ 100 ∧ ∀ o ∈ l, o.bytes.length ≤ 200 ∧ o.keep.length ≤ 100

def FewOut (l : List OpD) (w : World) (e : Ending) (w' : World) : Prop := ∃ b : Bool, e = .returned (.bool b) ∧ w = w' ∧ (b = true → fewD l)
set_option maxHeartbeats 1000000 in
theorem few_any (w : World) (F : Nat → Prop) (v : Value) (l : List OpD) (h : Ops w F v l) : Calls Try.prog 20 #[v] w (FewOut l w) := by
  obtain ⟨A, c, rfl, _⟩ := id h
  have H := Lib.hid h
  clear h
  by_cases h1 : ((l.length : Int) > 100)
  · go_enter Try.func20, Try.ntmps20
    go_wp2_with fail
    go_ret
    exact ⟨false, rfl, rfl, fun h => (by cases h)⟩
  have e1 : decide ((l.length : Int) > 100) = false := by simpa using h1
  have hl : l.length ≤ 100 := by omega
  clear h1
  go_enter Try.func20, Try.ntmps20
  go_wp2_with fail
  go_loop [3] (fun i => ∃ k : Nat, k ≤ l.length ∧ i = .int .i64 k ∧ ∀ j (hj : j < l.length), j < k → l[j].bytes.length ≤ 200 ∧ l[j].keep.length ≤ 100) (fun i => l.length - (intOf i).toNat)
  case atStart => exact ⟨0, Nat.zero_le _, rfl, fun _ _ h => absurd h (Nat.not_lt_zero _)⟩
  case round =>
    obtain ⟨k, hk, rfl, hI⟩ := hrel
    have HI := Lib.hid hI
    clear hI
    by_cases hlt : k < l.length
    · obtain ⟨g, off, cc, bv, kv, hve, _, hg, ho⟩ := H.out.open_ hlt
      injection hve with h1 h2 h3
      subst h1; subst h3
      obtain ⟨o, hoe⟩ : ∃ o, o = l[k] := ⟨_, rfl⟩
      rw [← hoe] at ho
      have HOE := Lib.hid hoe
      have hb := ho.bytes
      have hk4 := ho.keep
      obtain ⟨bA, bc, rfl, _⟩ := id ho.rb
      obtain ⟨kA, kc, rfl, _⟩ := id ho.rk
      clear ho hoe
      by_cases hb2 : ((o.bytes.length : Int) > 200)
      · go_wp2_with fail
        go_ret
        exact ⟨false, rfl, rfl, fun h => (by cases h)⟩
      · have e2 : decide ((o.bytes.length : Int) > 200) = false := by simpa using hb2
        by_cases hk2 : ((o.keep.length : Int) > 100)
        · go_wp2_with fail
          go_ret
          exact ⟨false, rfl, rfl, fun h => (by cases h)⟩
        · have e3 : decide ((o.keep.length : Int) > 100) = false := by simpa using hk2
          have HB : Hid (o.bytes.length ≤ 200 ∧ o.keep.length ≤ 100) := Lib.hid ⟨by omega, by omega⟩
          go_wp2_with fail
          refine ⟨⟨k + 1, by omega, by go_num, fun j hj hjk => ?_⟩, by simp [intOf]; omega⟩
          by_cases hjk2 : j = k
          · subst hjk2
            rw [← HOE.out]
            exact HB.out
          · exact HI.out j hj (by omega)
    · obtain rfl : k = l.length := by omega
      go_wp2_with fail
      go_ret
      refine ⟨true, rfl, rfl, fun _ => ⟨hl, fun o ho => ?_⟩⟩
      obtain ⟨j, hj, rfl⟩ := List.mem_iff_getElem.1 ho
      exact HI.out j hj hj

/-! ## The argument -/
open Go.ChangeShapes Go.WideShapes Go.Deep in
theorem arg_ops {H : Type} {enc : TypeId × Value → H} {P : Program} {w : World} {base : Nat} {spare : Nat → Bool} {held : Bool} {t e tb tk te tu ti : TypeId} {fs : Array Field} (ht : P.underlying t = some (.slice e)) (he : P.underlying e = some (.struct fs)) (hone : oneCellFields P fs = true) (hC : P.cellsOf e = 5)
    (hf : fs.toList.map (·.type) = [ti, ti, ti, tb, tk]) (hi : P.underlying ti = some (.int .i64)) (hb : P.underlying tb = some (.slice te)) (hk : P.underlying tk = some (.slice tu)) (hte : P.underlying te = some (.int .u8)) (htu : P.underlying tu = some .bool) (hce : P.cellsOf te = 1) (hcu : P.cellsOf tu = 1)
    {v : Value} {d : DataW H} {ps : List MemPlace} (h : DataW.Trod enc P w base spare held t v d ps) (hv : v.cells = #[v]) :
    ∃ l : List OpD, Ops w (Old w) v l ∧ ∀ o ∈ l, (Lit.int .i64 o.sector).wf = true ∧ (Lit.int .i64 o.n).wf = true := by
  obtain ⟨fuel, h⟩ := h
  rw [hv] at h
  rcases open_slice ht h with ⟨hcs, _⟩ | ⟨a, len, cap, m, n, D, Pl, hcs, hbb, hl, hm, hmm, _, hall⟩
  · injection hcs with hcs
    subst hcs
    exact ⟨[], ⟨none, 0, rfl, Nat.le_refl _, fun i h => absurd h (Nat.not_lt_zero _)⟩, by simp⟩
  · injection hcs with hcs
    subst hcs
    have hspot : 0 < len → ∃ g off, a = ⟨g, off, none⟩ := fun h0 => by
      obtain ⟨cs', h1, _⟩ := hall 0 (by rw [hmm]; split <;> omega)
      rw [hC] at h1
      obtain ⟨_, hcl, hat⟩ := World.cells?_some h1
      have h2 := hat 0 (by omega)
      rw [List.getElem?_eq_getElem (by omega)] at h2
      obtain ⟨g, off, spot⟩ := a
      cases spot with
      | none => exact ⟨g, off, rfl⟩
      | some s =>
        exfalso
        simp only [Nat.zero_mul, Addr.add_zero'] at h2
        unfold World.cell? at h2
        split at h2
        · simp at h2
        · cases h2
    obtain ⟨l, hll, hp⟩ := list_of (fun i (o : OpD) => (∃ g off bv kv, a = ⟨g, off, none⟩ ∧ Old w g ∧ OpIn w (Old w) g (off + i * 5) o bv kv) ∧ (Lit.int .i64 o.sector).wf = true ∧ (Lit.int .i64 o.n).wf = true) len fun i hil => by
      have him : i < m := by rw [hmm]; split <;> omega
      obtain ⟨cs', h1, h2⟩ := hall i him
      rw [hC] at h1
      obtain ⟨ys, n', _, _, _, hyl, hfd⟩ := DataW.trod_struct he h2
      obtain ⟨_, hcl, hat⟩ := World.cells?_some h1
      have each : ∀ j (tj : TypeId), (fs.toList.map (·.type))[j]? = some tj → j < 5 → ∃ u y, w.cell? (a.add (i * 5 + j)) = some u ∧ DataW.trod enc P w base spare held n' tj [u] = some y := by
        intro j tj hj hj5
        obtain ⟨f, hfj, rfl⟩ := Option.map_eq_some_iff.1 (List.getElem?_map ▸ hj)
        rw [Array.getElem?_toList] at hfj
        obtain ⟨ho, hkk⟩ := hone_of hone j f hfj
        have hjl : j < fs.size := (Array.getElem?_eq_some_iff.1 hfj).1
        have h3 := hfd j f hfj
        rw [ho, hkk, List.drop_eq_getElem_cons (by omega), List.take_succ_cons, List.take_zero] at h3
        rw [List.getElem?_eq_getElem (by omega)] at h3
        refine ⟨_, _, ?_, h3⟩
        have := hat j hj5
        rw [add_add] at this
        rw [this, List.getElem?_eq_getElem (by omega)]
      rw [hf] at each
      obtain ⟨u0, y0, c0, t0⟩ := each 0 ti rfl (by omega)
      obtain ⟨u1, y1, c1, t1⟩ := each 1 ti rfl (by omega)
      obtain ⟨u2, y2, c2, t2⟩ := each 2 ti rfl (by omega)
      obtain ⟨u3, y3, c3, t3⟩ := each 3 tb rfl (by omega)
      obtain ⟨u4, y4, c4, t4⟩ := each 4 tk rfl (by omega)
      obtain ⟨k0, e0, _, w0⟩ := DataW.trod_int hi t0
      obtain ⟨k1, e1, _, w1⟩ := DataW.trod_int hi t1
      obtain ⟨k2, e2, _, w2⟩ := DataW.trod_int hi t2
      injection e0 with e0; injection e1 with e1; injection e2 with e2
      subst e0; subst e1; subst e2
      obtain ⟨lb, hlb, _⟩ := arg_slice byteV (fun _ => True) hb hce (fun n cs x hx => by
        obtain ⟨k, rfl, _, hw⟩ := DataW.trod_int hte hx
        simp [Lit.wf, IntKind.min, IntKind.max, IntKind.signed, IntKind.bits] at hw
        refine ⟨UInt8.ofNat k.toNat, ?_, trivial⟩
        have : (UInt8.ofNat k.toNat).toNat = k.toNat := by rw [UInt8.toNat_ofNat']; omega
        simp only [byteV, this]
        rw [Int.toNat_of_nonneg (by omega)]) t3
      obtain ⟨lk, hlk, _⟩ := arg_slice boolV (fun _ => True) hk hcu (fun n cs x hx => by
        obtain ⟨b, rfl, _⟩ := DataW.trod_bool htu hx
        exact ⟨b, rfl, trivial⟩) t4
      obtain ⟨g, off, rfl⟩ := hspot (by omega)
      simp only [Addr.add_lit] at c0 c1 c2 c3 c4
      have hg : Old w g := World.block_lt_of_cell? w _ c0
      exact ⟨⟨k0, k1, k2, lb, lk⟩, ⟨g, off, u3, u4, rfl, hg, c0, by rw [Nat.add_assoc]; exact c1, by rw [Nat.add_assoc]; exact c2, by rw [Nat.add_assoc]; exact c3, by rw [Nat.add_assoc]; exact c4, hlb, hlk⟩, w1, w2⟩
    refine ⟨l, ⟨some a, cap, by rw [hll], by omega, fun i hi => ?_⟩, fun o ho => ?_⟩
    · obtain ⟨⟨g, off, bv, kv, ha, hg, ho⟩, _⟩ := hp i hi
      exact ⟨g, off, bv, kv, by rw [ha], hg, ho⟩
    · obtain ⟨i, hi, rfl⟩ := List.mem_iff_getElem.1 ho
      exact (hp i hi).2
end Go.Proofs.Ytllodjcfcjmocaa
