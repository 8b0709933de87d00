import Derived.Test.YtdipjakblaeekaaGreatMd7
import Derived.Deep.Slices
import Derived.ChangeArms
import Derived.ChangeOld
import Derived.ShutString
set_option linter.unusedVariables false
set_option linter.unusedSimpArgs false
namespace Go.Proofs.YtdipjakblaeekaaGreat
open Go.RowKit Go.Deep
set_option maxRecDepth 20000
section
variable {H : Type} {enc : TypeId × Value → H} {P : Program} {w : World} {base : Nat} {spare : Nat → Bool} {held : Bool}
theorem arg_slice {α : Type} (f : α → Value) (Good : α → Prop) {t e : TypeId} (ht : P.underlying t = some (.slice e)) (hc : P.cellsOf e = 1)
    (hel : ∀ n cs (x : DataW H × List MemPlace), DataW.trod enc P w base spare held n e cs = some x → ∃ y, cs = [f y] ∧ Good y)
    {fuel : Nat} {v : Value} {x : DataW H × List MemPlace} (h : DataW.trod enc P w base spare held fuel t [v] = some x) :
    ∃ l : List α, Rd w (Old w) 1 v l.length (l.map f) ∧ ∀ y ∈ l, Good y := by
  rcases open_slice ht h with ⟨hcs, _⟩ | ⟨a, len, cap, m, n, D, Pl, hcs, hb, hl, hm, hmm, _, hi⟩
  · injection hcs with hcs
    subst hcs
    exact ⟨[], Rd.nil _ _ _, by simp⟩
  · injection hcs with hcs
    subst hcs
    obtain ⟨l, hll, hp⟩ := list_of (fun i (y : α) => w.cell? (a.add i) = some (f y) ∧ Good y) len fun i hil => by
      have him : i < m := by rw [hmm]; split <;> omega
      obtain ⟨cs', h1, h2⟩ := hi i him
      obtain ⟨y, rfl, hy⟩ := hel _ _ _ h2
      rw [hc, Nat.mul_one] at h1
      have h3 := (World.cells?_some h1).2.2 0 (by omega)
      rw [add_add, Nat.add_zero] at h3
      exact ⟨y, h3, hy⟩
    refine ⟨l, ⟨some a, cap, by rw [hll], by omega, by simp, fun hn => ⟨a, rfl, ?_, fun j u hu => ?_⟩⟩, fun y hy => ?_⟩
    · have h0 := (hp 0 (by omega)).1
      have := World.block_lt_of_cell? w _ h0
      rwa [add_block] at this
    · obtain ⟨y, hy, rfl⟩ := List.getElem?_map ▸ hu |> fun hu => Option.map_eq_some_iff.1 (by simpa using hu)
      obtain ⟨hj, rfl⟩ := List.getElem?_eq_some_iff.1 hy
      exact (hp j hj).1
    · obtain ⟨i, hi', rfl⟩ := List.mem_iff_getElem.1 hy
      exact (hp i hi').2
end
end Go.Proofs.YtdipjakblaeekaaGreat
namespace Go.Proofs.YtdipjakblaeekaaGreat
open Go.RowKit Go.Proofs Go.Shelf
set_option maxRecDepth 20000
attribute [local go_sem] Oper.semAt_some
section
variable {w w' : World} {F G : Nat → Prop} {X : XC} {t m n own c : Nat} {D : PD} {M : List KV} {key pre s : Str}
def CountI (w : World) (F : Nat → Prop) (B k : Nat) (W : World) (G : Nat → Prop) : Prop :=
  Mine w.heap.size 3 #[.int .i64 k] W G ∧ Mine (w.heap.size + 1) 23 #[.int .i64 0] W G ∧ Since w F W G ∧ Big B W G
theorem countI_abid {F : Nat → Prop} {B B' k : Nat} (hB : w.heap.size ≤ B') : Abid B' (CountI w F B k) := mine_abid.and (mine_abid.and ((since_abid hB).and big_abid))
theorem countI_stay {T : World → (Nat → Prop) → Prop} {F : Nat → Prop} {B k : Nat} : Stay T (CountI w F B k) := mine_stay.and (mine_stay.and (since_stay.and big_stay))
set_option maxHeartbeats 2000000 in
theorem count_ok (h : TxAt w F X t D) (hb : Bt D M c) (hkl : ∀ x ∈ M, x.1.length ≤ 1000) (hpl : pre.length ≤ 1000) (hlen : (under pre M).length ≤ 1000000) :
    Calls Tryz.prog 22 #[.pointer (some ⟨t, 0, none⟩), .string ⟨pre.toArray⟩] w (fun e w' => ∃ F', e = .returned (.tuple #[.int .i64 ((under pre M).length : Nat), .int .i64 0]) ∧ TxAt w' F' X t D ∧ Only F w w' ∧ Grows F F' w) := by
  refine (callsIn_wide (n := 6)).1 ?_
  refine callsIn_of_wp_marks Tryz.func22 rfl trivial ?_ rfl
  refine wpIn_wide.2 ?_
  simp only [Tryz.ntmps22, List.size_toArray, List.length_cons, List.length_nil, Nat.reduceAdd, Nat.reduceSub, Array.replicate_succ, Array.replicate_zero, List.push_toArray, List.append_toArray, List.nil_append, List.cons_append]
  go_wp2_with fail
  refine (pairs_ok _).mono ?_
  rintro e w1 ⟨rfl, rfl⟩
  go_wp2_with fail
  obtain ⟨R, hR⟩ : ∃ R, R = w.heap.size := ⟨_, rfl⟩
  obtain ⟨W0, hW0⟩ : ∃ W0, W0 = ((((w.alloc (.cells #[.int .i64 0] 3)).alloc (.cells #[.int .i64 0] 23)).alloc (.cells #[.pointer (some ⟨t, 0, none⟩)] 29)).alloc (.cells #[.string ⟨pre.toArray⟩] 9)).alloc (.cells #[.pointer (some ⟨w.heap.size + 1, 0, none⟩)] 97) := ⟨_, rfl⟩
  rw [← hW0]
  have hWa : W0 = allocs w [(#[.int .i64 0], 3), (#[.int .i64 0], 23), (#[.pointer (some ⟨t, 0, none⟩)], 29), (#[.string ⟨pre.toArray⟩], 9), (#[.pointer (some ⟨w.heap.size + 1, 0, none⟩)], 97)] := hW0
  have hs0 : W0.heap.size = w.heap.size + 5 := by rw [hWa, allocs_size]; rfl
  have ho0 : Only NoB w W0 := by rw [hWa]; exact allocs_only _ _
  have b0 : Blk W0 w.heap.size 3 #[.int .i64 0] := blk_of hWa 0 rfl
  have b1 : Blk W0 (w.heap.size + 1) 23 #[.int .i64 0] := blk_of hWa 1 rfl
  have b4 : Blk W0 (w.heap.size + 1 + 1) 29 #[.pointer (some ⟨t, 0, none⟩)] := blk_of hWa 2 rfl
  have b5 : Blk W0 (w.heap.size + 1 + 1 + 1) 9 #[.string ⟨pre.toArray⟩] := blk_of hWa 3 rfl
  have b6 : Blk W0 (w.heap.size + 1 + 1 + 1 + 1) 97 #[.pointer (some ⟨w.heap.size + 1, 0, none⟩)] := blk_of hWa 4 rfl
  have hF : ∀ k, w.heap.size ≤ k → ¬ F k := fun k hk hf => by have := h.lt k hf; omega
  have hT0 : PairsT X t D pre (w.heap.size + 1 + 1 + 1) (w.heap.size + 1 + 1) (w.heap.size + 1 + 1 + 1 + 1) (w.heap.size + 1) W0 F := ⟨h.quit ho0, ⟨b5, hF _ (by omega)⟩, ⟨b4, hF _ (by omega)⟩, ⟨b6, hF _ (by omega)⟩⟩
  have hi0 : CountI w F W0.heap.size 0 W0 F := ⟨⟨b0, hF _ (Nat.le_refl _)⟩, ⟨b1, hF _ (by omega)⟩, ⟨ho0.mono fun _ _ h => h.elim, Grows.refl F w⟩, Nat.le_refl _⟩
  have HLEN := Lib.hid hlen
  clear hW0 hWa b0 b1 b4 b5 b6 hlen
  refine (wpIn_wide (n := 6)).1 ?_
  refine range_tx (n := 6) (gf := 85) (N := (under pre M).length) (encs := pairA (under pre M)) (T := PairsT X t D pre (w.heap.size + 1 + 1 + 1) (w.heap.size + 1 + 1) (w.heap.size + 1 + 1 + 1 + 1) (w.heap.size + 1)) pairsT_abid (fun W G hT => hT.1.lt) rfl (enters_of Tryz.func85 (by kernel_rfl) rfl) (pairs_iter hb hkl hpl 5 (by omega)) (fun _ => rfl)
    (CountI w F W0.heap.size) (fun k => countI_abid (by omega)) (fun k => countI_stay) (fun _ _ _ _ => False) (fun _ _ _ _ _ _ h _ _ => h)
    hT0 hi0
    (fun k a' W => ∃ a11, a' = Act.mk #[.pointer (some ⟨t, 0, none⟩), .string ⟨pre.toArray⟩, undef, undef, .int .i64 0, .int .i64 0, .pointer (some ⟨w.heap.size, 0, none⟩), .pointer (some ⟨w.heap.size + 1, 0, none⟩),
      .pointer (some ⟨t, 0, none⟩), .string ⟨pre.toArray⟩, .func (.func 85) #[] #[.pointer (some ⟨w.heap.size + 1 + 1 + 1, 0, none⟩), .pointer (some ⟨w.heap.size + 1 + 1, 0, none⟩), .pointer (some ⟨w.heap.size + 1 + 1 + 1 + 1, 0, none⟩)], a11, undef, undef, undef, undef, undef, undef] [])
    ?hAx ?assign ?body ?done ?stop
  case hAx =>
    rintro k a' W W' _ S h1 hS ho
    exact h1
  case assign =>
    intro l k W G K hk hT hI hK
    have HK := Lib.hid hK
    have HT := Lib.hid hT
    have HI := Lib.hid hI
    clear hK hT hI
    unfold pairA
    gi_wp2
    exact HK.out _ _ (Only.refl NoB W) HT.out HI.out ⟨.agg #[.string ⟨(keyAt (under pre M) k).toArray⟩, .string ⟨(valAt (under pre M) k).toArray⟩], by simp⟩
  case body =>
    rintro l k a' W G hk hl hT ⟨i0, i1, isn, ibg⟩ ⟨a11, rfl⟩
    have x0 := i0.1.cell 0
    have x1 := i0.1.frozen 0
    have HK := Lib.hid hk
    have HT := Lib.hid hT
    have H0 := Lib.hid i0
    have H1 := Lib.hid i1
    have HSN := Lib.hid isn
    have HBG := Lib.hid ibg
    have HL := Lib.hid hl
    have hw1 : IntKind.i64.wrap ((k : Int) + 1) = (k : Int) + 1 := by
      have := HLEN.out
      rw [IntKind.wrap_i64]; omega
    clear hk hl hT i0 i1 isn ibg
    gi_wp2_with fail
    have a1 := H0.out.1.set_ 0 (.int .i64 ((k : Int) + 1))
    have hst : Only (fun q => q = w.heap.size) W (W.setCell ⟨w.heap.size, 0, none⟩ (.int .i64 ((k : Int) + 1))) := (Only.refl (fun q => q = w.heap.size) W).setCell (p := ⟨w.heap.size, 0, none⟩) (.inl rfl) _
    have hG : ∀ k, G k → ¬ (k = w.heap.size) := fun k hk h => by subst h; exact H0.out.2 hk
    refine ⟨fun q hq => hst.block q (HT.out.1.lt q hq) (hG q hq), fun q o hq ho _ => (hst.block q (Array.getElem?_eq_some_iff.1 ho).1 (by show ¬ (q = w.heap.size); omega)).trans ho, HT.out.beside hst hG ⟨by omega, by omega, by omega⟩, ⟨a1, H0.out.2⟩, ⟨H1.out.1.only hst (by show ¬ (w.heap.size + 1 = w.heap.size); omega), H1.out.2⟩, ⟨HSN.out.1.trans' hst fun k hk h => by have h : k = w.heap.size := h; omega, HSN.out.2⟩, Nat.le_trans HBG.out hst.size⟩
  case done =>
    rintro d W G hd hnd hT ⟨i0, i1, isn, ibg⟩ hK
    have HT := Lib.hid hT
    have HSN := Lib.hid isn
    have HK := Lib.hid hK
    have HND := Lib.hid hnd
    have u0 := i0.1.cell 0
    have u1 := i1.1.cell 0
    clear i0 i1 isn ibg hK hT hnd
    go_wp2_with fail
    refine ⟨by simp, .inl ⟨_, _, rfl, run_takeDeferred HK.out, ?_⟩⟩
    have hp := put_only W d (.deferred none)
    refine ⟨_, results_tmp2 rfl _ _ _, G, rfl, ?_, ?_, HSN.out.2⟩
    · exact HT.out.1.only hp fun k hk he => HND.out (he ▸ hk)
    · exact HSN.out.1.trans' hp fun k hk he => by have he : k = d := he; omega
  case stop =>
    rintro d c k W G hd hk hnd hT hx hK
    exact hx.elim
theorem kv_count (h : KvAt w F X t m n own M c) (hpl : pre.length ≤ 1000) (hlen : (under pre M).length ≤ 1000000) :
    Calls Tryz.prog 22 #[.pointer (some ⟨t, 0, none⟩), .string ⟨pre.toArray⟩] w (KvOut w F X t m n own (.tuple #[.int .i64 ((under pre M).length : Nat), .int .i64 0]) M c) := by
  obtain ⟨D, ht, hb, rfl, rfl, rfl, hkl⟩ := h
  refine (count_ok ht hb hkl hpl hlen).mono ?_
  rintro e w1 ⟨F', rfl, h1, h6, h7⟩
  exact ⟨rfl, F', ⟨D, h1, hb, rfl, rfl, rfl, hkl⟩, h6, h7⟩
end
end Go.Proofs.YtdipjakblaeekaaGreat
namespace Go.Proofs.YtdipjakblaeekaaGreat
open Go.RowKit Go.Proofs Go.Shelf
set_option maxRecDepth 20000
attribute [local go_sem] Oper.semAt_some
section
variable {w w' : World} {F G : Nat → Prop} {X : XC} {t m np own c : Nat} {M : List KV} {key : Str}
theorem dcount_ok {n : Int} (hn : 1 ≤ n ∧ n ≤ 16777215) (h : KvAt w F X t m np own M c) (hlen : (under (dpre n) M).length ≤ 1000000) :
    Calls Tryz.prog 33 #[.pointer (some ⟨t, 0, none⟩), .int .i64 n] w (KvOut w F X t m np own (.tuple #[.int .i64 ((under (dpre n) M).length : Nat), .int .i64 0]) M c) := by
  have HP := prefix_ent (w := w) n
  rw [preAnsD_ok hn] at HP
  have HP := Lib.hid HP
  have HC0 : Hid (∀ w1, Only NoB w w1 → Calls Tryz.prog 22 _ w1 _) := Lib.hid fun w1 ho => kv_count (h.quit ho) (pre := dpre n) (by rw [dpre_len]; omega) hlen
  obtain ⟨L, hL⟩ : ∃ L, L = (under (dpre n) M).length := ⟨_, rfl⟩
  rw [← hL] at HC0 ⊢
  clear h hlen hL
  go_enter Tryz.func33, Tryz.ntmps33
  go_wp2_with fail
  refine HP.out.mono ?_
  rintro e w1 ⟨rfl, ho⟩
  have HO := Lib.hid ho
  have HD := Lib.hid (HC0.out w1 ho)
  clear ho
  go_wp2_with fail
  refine HD.out.mono ?_
  rintro e w2 ⟨rfl, hk⟩
  have HK : Hid (KvOut w F X t m np own (.tuple #[.int .i64 (L : Nat), .int .i64 0]) M c (.returned (.tuple #[.int .i64 (L : Nat), .int .i64 0])) w2) := Lib.hid (KvOut.trans (HO.out.mono fun _ _ h => h.elim) (Grows.refl F w) ⟨rfl, hk⟩)
  clear hk
  go_wp2_with fail
  go_ret2
  exact HK.out
theorem dcount_bad {n : Int} (hn : ¬ (1 ≤ n ∧ n ≤ 16777215)) :
    Calls Tryz.prog 33 #[.pointer (some ⟨t, 0, none⟩), .int .i64 n] w fun e w' => e = .returned (.tuple #[.int .i64 0, .int .i64 1]) ∧ Only NoB w w' := by
  have HP := prefix_ent (w := w) n
  rw [preAnsD_bad hn] at HP
  have HP := Lib.hid HP
  clear hn
  go_enter Tryz.func33, Tryz.ntmps33
  go_wp2_with fail
  refine HP.out.mono ?_
  rintro e w1 ⟨rfl, ho⟩
  have HO := Lib.hid ho
  clear ho
  go_wp2_with fail
  go_ret2
  exact ⟨rfl, HO.out⟩
end
end Go.Proofs.YtdipjakblaeekaaGreat
namespace Go.Proofs.YtdipjakblaeekaaGreat
open Go.RowKit Go.Proofs Go.Shelf
set_option maxRecDepth 20000
section
variable {M : List KV} {n m x : Int} {A : Str}
end
section
variable {w w' : World} {F F' G : Nat → Prop} {X : XC} {t c size : Nat} {M : List KV} {n x : Int} {A : Str} {v : Value} {xs : List Value}
theorem dr_count (h : DrAt w F X t M c) (n : Int) :
    Calls Tryz.prog 33 #[.pointer (some ⟨t, 0, none⟩), .int .i64 n] w (DrOut w F X t (.tuple #[.int .i64 ((lsL M n).length : Nat), .int .i64 (lsE n)]) M c) := by
  by_cases hn : dirN n
  · have h1 : lsL M n = under (dpre n) M := by rw [lsL, if_pos hn]
    have h2 : lsE n = 0 := by rw [lsE, if_pos hn]
    rw [h1, h2]
    refine (dcount_ok hn h.kv (by have := h.under_len (dpre n); omega)).mono ?_
    rintro e w1 ⟨rfl, F', h1, h4, h5⟩
    exact ⟨rfl, F', ⟨h1, h.dir, h.len, h.few⟩, h4, h5⟩
  · have h1 : lsL M n = [] := by rw [lsL, if_neg hn]
    have h2 : lsE n = 1 := by rw [lsE, if_neg hn]
    rw [h1, h2]
    refine (dcount_bad hn).mono ?_
    rintro e w1 ⟨rfl, ho⟩
    exact ⟨rfl, F, h.quit ho, ho.mono fun _ _ h => h.elim, Grows.refl F w⟩
end
end Go.Proofs.YtdipjakblaeekaaGreat
namespace Go.Proofs.YtdipjakblaeekaaGreat
open Go.RowKit Go.Proofs Go.Shelf
set_option maxRecDepth 20000
section
variable {w w' wr : World} {F F' : Nat → Prop} {X : XC} {t c b : Nat} {M M' : List KV} {ty : TypeId} {cs : Array Value}
structure HR (w wr : World) (X : XC) (t : Nat) (F : Nat → Prop) (M : List KV) (c : Nat) : Prop where
  dr : DrAt wr F X t M c
  on : Only NoB w wr
  low : ∀ q, F q → w.heap.size ≤ q
theorem HR.step {c' : Nat} (h : HR w wr X t F M c) (hd : DrAt w' F' X t M' c') (ho : Only F wr w') (hg : Grows F F' wr) : HR w w' X t F' M' c' :=
  have h2 := low_trans h.on h.low ho hg
  ⟨hd, h2.1, h2.2⟩
theorem HR.quit (h : HR w wr X t F M c) (ho : Only NoB wr w') : HR w w' X t F M c := ⟨h.dr.quit ho, h.on.trans ho, h.low⟩
theorem HR.more {c' : Nat} (h : HR w wr X t F M c) (hc : c ≤ c') (h2 : c' ≤ 280) : HR w wr X t F M c' := ⟨⟨h.dr.kv.mono hc, h.dr.dir, Nat.le_trans h.dr.len hc, h2⟩, h.on, h.low⟩
structure Boxed (w : World) (F : Nat → Prop) (b : Nat) (ty : TypeId) (cs : Array Value) : Prop where
  blk : Blk w b ty cs
  out : ¬ F b
theorem Boxed.step (h : Boxed w F b ty cs) (ho : Only F w w') (hg : Grows F F' w) : Boxed w' F' b ty cs :=
  ⟨h.blk.only ho h.out, fun hf => (hg b hf).elim h.out fun hl => by have := h.blk.lt; omega⟩
theorem Boxed.quit (h : Boxed w F b ty cs) (ho : Only NoB w w') : Boxed w' F b ty cs := ⟨h.blk.only ho id, h.out⟩
theorem HR.box {cs : Array Value} (h : HR w wr X t F M c) (hw : w' = wr.alloc (.cells cs ty)) : HR w w' X t F M c ∧ Boxed w' F wr.heap.size ty cs := by
  subst hw
  exact ⟨h.quit ((Only.refl NoB wr).alloc _), Blk.new _ _ _, fun hf => by have := h.dr.kv.lt _ hf; omega⟩
end
end Go.Proofs.YtdipjakblaeekaaGreat
namespace Go.Proofs.YtdipjakblaeekaaGreat
open Go.RowKit Go.Proofs
set_option maxRecDepth 20000
def Strs (w : World) (F : Nat → Prop) (v : Value) (l : List Str) : Prop := Rd w F 1 v l.length (l.map fun s => Value.string ⟨s.toArray⟩)
open Go.ChangeShapes Go.WideShapes in
theorem arg_strs {H : Type} {enc : TypeId × Value → H} {P : Program} {w : World} {base : Nat} {spare : Nat → Bool} {held : Bool} {t e : TypeId} (ht : P.underlying t = some (.slice e)) (he : P.underlying e = some .string) (hc : P.cellsOf e = 1) {v : Value} {d : DataW H} {ps : List MemPlace} (h : DataW.Trod enc P w base spare held t v d ps) (hv : v.cells = #[v]) :
    ∃ l : List Str, Strs w (Old w) v l ∧ ∀ s ∈ l, s.length ≤ maxLen := by
  obtain ⟨fuel, h⟩ := h
  rw [hv] at h
  exact arg_slice (fun s : Str => Value.string ⟨s.toArray⟩) (fun s => s.length ≤ maxLen) ht hc (fun n cs x hx => by
    obtain ⟨⟨⟨s⟩⟩, h1, _, h3⟩ := DataW.trod_string he hx
    exact ⟨s, h1, h3⟩) h
end Go.Proofs.YtdipjakblaeekaaGreat
namespace Go.Proofs.YtdipjakblaeekaaGreat
open Go.RowKit Go.Proofs Go.Shelf
set_option maxRecDepth 20000
attribute [local go_sem] Oper.semAt_some
section
variable {w w' wr : World} {F F' : Nat → Prop} {X : XC} {t c b : Nat} {M M' : List KV} {l : List Str}
def ManyM (l : List Str) (k : Nat) (M : List KV) : Prop := ∀ x ∈ M, ∃ (i : Nat) (h : i < l.length), i < k ∧ dirOk 5 l[i] = true ∧ x = (ekey 5 l[i], be3i ((i + 1 : Nat) : Int))
theorem ManyM.add {k : Nat} (h : ManyM l k M) (hk : k < l.length) : ManyM l (k + 1) (addM M 5 l[k] ((k + 1 : Nat) : Int)) := by
  intro x hx
  unfold addM at hx
  split at hx
  · rename_i h0
    rcases mem_ins hx with rfl | ⟨hx, _⟩
    · exact ⟨k, hk, by omega, (addE_ok h0).1, rfl⟩
    · obtain ⟨i, hi, h1, h2, h3⟩ := h x hx
      exact ⟨i, hi, by omega, h2, h3⟩
  · obtain ⟨i, hi, h1, h2, h3⟩ := h x hx
    exact ⟨i, hi, by omega, h2, h3⟩
theorem ManyM.all {k : Nat} (h : ManyM l k M) : lsL M 5 = M := by
  unfold lsL
  rw [if_pos (by unfold dirN; omega)]
  unfold under
  refine List.filter_eq_self.2 fun x hx => ?_
  obtain ⟨i, hi, _, _, rfl⟩ := h x hx
  exact hasP_same _ _
theorem many_len (hs : Srt M) {A : Str} {x : Int} (h0 : addE M 5 A x = 0) : (addM M 5 A x).length = M.length + 1 := by
  rw [addM, if_pos h0, ins_get_length hs, (addE_ok h0).2.2]; rfl
theorem many_take {j : Nat} (hs : Srt M) (hm : ManyM l l.length M) (hl : l.length ≤ 60) (hj : j < M.length) : ∃ (i : Nat) (h : i < l.length), M[j].1.drop 4 = l[i] ∧ numV M[j].2 = i + 1 ∧ findI (M.take (j + 1)) 5 l[i] = (i + 1, 0) ∧ remM (M.take (j + 1)) 5 l[i] = M.take j := by
  obtain ⟨i, hi, _, hd, he⟩ := hm M[j] (List.getElem_mem hj)
  have hn : dirN ((i + 1 : Nat) : Int) := ⟨by omega, by omega⟩
  have hs1 : Srt (M.take (j + 1)) := List.Pairwise.sublist (List.take_sublist _ _) hs
  have hmem : (ekey 5 l[i], be3i ((i + 1 : Nat) : Int)) ∈ M.take (j + 1) := by
    rw [← he, List.take_succ_eq_append_getElem hj]
    exact List.mem_append_right _ (by simp)
  have hg := get_of_mem hs1 hmem
  have hf : findI (M.take (j + 1)) 5 l[i] = (i + 1, 0) := by
    rw [find_some hd hn hg]; rfl
  refine ⟨i, hi, by rw [he]; rfl, by rw [he]; have := numV_be3 hn; show numV (be3i ((i + 1 : Nat) : Int)) = i + 1; omega, hf, ?_⟩
  rw [remM, hf, if_pos rfl]
  rw [List.take_succ_eq_append_getElem hj, del_append, he]
  have h1 : del (ekey 5 l[i]) (M.take j) = M.take j := del_none fun x hx e => by
    rw [List.take_succ_eq_append_getElem hj] at hs1
    have := (List.pairwise_append.1 hs1).2.2 x hx M[j] (by simp)
    rw [he] at this
    exact lts_ne this e
  rw [h1]
  simp [del]
def MSt (w : World) (X : XC) (t : Nat) (l : List Str) (k n : Nat) (wr : World) : Prop := ∃ F M, HR w wr X t F M k ∧ ManyM l k M ∧ M.length = n
def NSt (w : World) (X : XC) (t c : Nat) (lv : Value) (M : List KV) (j : Nat) (wr : World) : Prop := ∃ F, HR w wr X t F (M.take j) c ∧ Aside wr F 2 lv M.length (nameL M)
set_option maxHeartbeats 8000000 in
theorem dirsMany_walk (w : World) (v : Value) (l : List Str) (hl : Strs w (Old w) v l) (_ : ∀ s ∈ l, s.length ≤ maxLen) : Calls Tryz.prog 8 #[v] w (Quit w (.bool true)) := by
  obtain ⟨A, cap, rfl, _⟩ : ∃ A cap, v = .slice A l.length cap ∧ l.length ≤ cap := by obtain ⟨A, c, hv, hc, _⟩ := hl; exact ⟨A, c, hv, hc⟩
  have HA := Lib.hid fun w1 => awake14_ok (w := w1)
  have HT := Lib.hid (open14_ok (w := w))
  have HL := Lib.hid hl
  clear hl
  by_cases h60 : (60 : Int) < (l.length : Int)
  · go_enter Tryz.func8, Tryz.ntmps8
    go_wp2_with fail
    go_ret
    exact ⟨rfl, Only.refl _ _⟩
  have hl60 : l.length ≤ 60 := by omega
  go_enter Tryz.func8, Tryz.ntmps8
  go_wp2_with fail
  refine HT.out.mono ?_
  rintro e w1 ⟨t, F, X, rfl, hk, ho, hF⟩
  have H0 : Hid (MSt w X t l 0 0 w1) := Lib.hid ⟨F, [], ⟨dr_new hk, ho, hF⟩, fun x hx => (by cases hx), rfl⟩
  clear hk ho hF HT
  go_wp2_with fail
  go_loopw [4, 5] (fun a i wr => ∃ k n : Nat, k ≤ l.length ∧ i = .int .i64 k ∧ a = .int .i64 n ∧ n ≤ k ∧ Hid (MSt w X t l k n wr)) (fun _ i _ => l.length - (intOf i).toNat)
  case atStart => exact ⟨0, 0, Nat.zero_le _, rfl, rfl, Nat.le_refl _, H0⟩
  case round =>
    clear H0
    obtain ⟨k, n, hk, rfl, rfl, hnk, HI⟩ := hrel
    by_cases hlt : k < l.length
    · obtain ⟨F1, M, h1, hm, hn⟩ := HI.out
      obtain ⟨g, off, c1, hve, _, _, hcell⟩ := HL.out.open_ (by omega)
      injection hve with q1 q2 q3
      subst q1; subst q3
      have x0 := h1.on.cell (hcell k (.string ⟨l[k].toArray⟩) (by rw [List.getElem?_map, List.getElem?_eq_getElem hlt]; rfl)) id
      have HAD := dr_add h1.dr (by omega) 5 l[k] ((k + 1 : Nat) : Int)
      have hma := hm.add hlt
      have hml : addE M 5 l[k] ((k + 1 : Nat) : Int) = 0 → (addM M 5 l[k] ((k + 1 : Nat) : Int)).length = n + 1 := fun h0 => by rw [← hn]; exact many_len h1.dr.kv.srt h0
      have hmz : addE M 5 l[k] ((k + 1 : Nat) : Int) ≠ 0 → (addM M 5 l[k] ((k + 1 : Nat) : Int)).length = n := fun h0 => by rw [← hn, addM, if_neg h0]
      obtain ⟨s, hs⟩ : ∃ s, s = l[k] := ⟨_, rfl⟩
      rw [← hs] at x0 HAD hma hml hmz
      obtain ⟨M2, hM2⟩ : ∃ M2, M2 = addM M 5 s ((k + 1 : Nat) : Int) := ⟨_, rfl⟩
      rw [← hM2] at HAD hma hml hmz
      obtain ⟨q, hq⟩ : ∃ q, q = addE M 5 s ((k + 1 : Nat) : Int) := ⟨_, rfl⟩
      rw [← hq] at HAD hml hmz
      rw [show ((k + 1 : Nat) : Int) = (k : Int) + 1 from rfl] at HAD
      have HAD := Lib.hid HAD
      have H1 := Lib.hid h1
      have HMA := Lib.hid hma
      have HML := Lib.hid hml
      have HMZ := Lib.hid hmz
      obtain ⟨ls, hls⟩ : ∃ ls, ls = s.length := ⟨_, rfl⟩
      have hls' : s.length = ls := hls.symm
      have hwk : IntKind.i64.wrap ((k : Int) + 1) = (k : Int) + 1 := by rw [IntKind.wrap_i64]; omega
      clear hm hn h1 hcell hma hml hmz hs hM2 hq hls q2
      by_cases h200 : (200 : Int) < (ls : Int)
      · have HQ : Hid (Only NoB w wr) := Lib.hid H1.out.on
        go_wp2_with fail
        go_ret
        exact ⟨rfl, HQ.out⟩
      · by_cases hz : q = 0
        · have HM1 := Lib.hid (HML.out hz)
          subst hz
          go_wp2_with fail
          refine HAD.out.mono ?_
          rintro e w2 ⟨rfl, F2, hd, ho, hgr⟩
          have HS : Hid (MSt w X t l (k + 1) (n + 1) w2) := Lib.hid ⟨F2, M2, H1.out.step hd ho hgr, HMA.out, HM1.out⟩
          clear hd ho hgr
          go_wp2_with fail
          exact ⟨⟨k + 1, n + 1, by omega, by go_num, by go_num, by omega, HS⟩, by simp [intOf]; omega⟩
        · have HM1 := Lib.hid (HMZ.out hz)
          have hz1 : ¬ (q : Int) = 0 := by omega
          have hz2 : ((q : Int) == 0) = false := by simpa using hz
          go_wp2_with fail
          refine HAD.out.mono ?_
          rintro e w2 ⟨rfl, F2, hd, ho, hgr⟩
          have HS : Hid (MSt w X t l (k + 1) n w2) := Lib.hid ⟨F2, M2, H1.out.step hd ho hgr, HMA.out, HM1.out⟩
          clear hd ho hgr
          go_wp2_with fail
          exact ⟨⟨k + 1, n, by omega, by go_num, rfl, by omega, HS⟩, by simp [intOf]; omega⟩
    · obtain rfl : k = l.length := by omega
      obtain ⟨F1, M, h1, hm, hn⟩ := HI.out
      have hall := hm.all
      have hE : lsE 5 = 0 := rfl
      have HCO := dr_count h1.dr 5
      rw [hall, hE, hn] at HCO
      have HCO := Lib.hid HCO
      have H1 := Lib.hid h1
      have HM := Lib.hid hm
      have HN := Lib.hid hn
      have HAL := Lib.hid hall
      have hn60 : n ≤ 60 := by omega
      clear h1 hm hn hall hE
      go_wp2_with fail
      refine HCO.out.mono ?_
      rintro e w2 ⟨rfl, F2, hd, ho, hgr⟩
      have H2 := Lib.hid (H1.out.step hd ho hgr)
      have HLI := Lib.hid (dr_list hd 5)
      clear hd ho hgr
      go_wp2_with fail
      refine HLI.out.mono ?_
      rintro e w3 ⟨lv, F3, rfl, has, hd, ho, hgr⟩
      rw [show lsE 5 = 0 from rfl]
      rw [HAL.out] at has
      have HS : Hid (NSt w X t l.length lv M n w3) := Lib.hid ⟨F3, by rw [← HN.out, List.take_length]; exact H2.out.step hd ho hgr, has⟩
      obtain ⟨lA, lcp, rfl, _⟩ := has.shape
      rw [HN.out] at HS
      rw [HN.out]
      clear has hd ho hgr
      have HTK := Lib.hid fun j (hj : j < M.length) => many_take H1.out.dr.kv.srt HM.out hl60 hj
      have hw1 : IntKind.i64.wrap ((n : Int) - 1) = (n : Int) - 1 := by rw [IntKind.wrap_i64]; omega
      go_wp2_with fail
      go_loopw [10] (fun i wr => ∃ j : Nat, j ≤ n ∧ i = .int .i64 ((j : Int) - 1) ∧ Hid (NSt w X t l.length (.slice lA n lcp) M j wr)) (fun i _ => ((intOf i) + 1).toNat)
      case atStart => exact ⟨n, Nat.le_refl _, rfl, HS⟩
      case round =>
        as_aux_lemma =>
          clear HS
          obtain ⟨j, hj, rfl, HI9⟩ := hrel
          cases j with
          | zero =>
            obtain ⟨F7, h7, a7⟩ := HI9.out
            rw [List.take_zero] at h7
            have HCO := dr_count h7.dr 5
            rw [show lsE 5 = 0 from rfl, show (lsL [] 5).length = 0 from rfl] at HCO
            have HCO := Lib.hid HCO
            have H7 := Lib.hid h7
            rw [show ((0 : Nat) : Int) - 1 = -1 from rfl]
            clear h7 a7 HI9
            go_wp2_with fail
            refine HCO.out.mono ?_
            rintro e w4 ⟨rfl, F4, hd, ho, hgr⟩
            have HON := Lib.hid (H7.out.step hd ho hgr).on
            have HAW := Lib.hid (HA.out w4)
            clear hd ho hgr
            go_wp2_with fail
            refine HAW.out.mono ?_
            rintro e w5 ⟨rfl, ho⟩
            have HE := Lib.hid (HON.out.trans ho)
            clear ho
            go_wp2_with fail
            go_ret
            exact ⟨rfl, HE.out⟩
          | succ j =>
            have e0 : ((j + 1 : Nat) : Int) - 1 = (j : Int) := by omega
            rw [e0]
            obtain ⟨F7, h7, a7⟩ := HI9.out
            obtain ⟨i, hi, ht1, ht2, ht3, ht4⟩ := HTK.out j (by have := HN.out; omega)
            obtain ⟨K3, r3, hK3⟩ := id a7
            obtain ⟨g3, off3, c3, hve3, _, hg3, hcell3⟩ := r3.open_ (by have := HN.out; omega)
            injection hve3 with q1 q2 q3
            subst q1; subst q3
            have HG3 : Hid (¬ F7 g3) := Lib.hid (hK3 _ hg3).2
            obtain ⟨p1, p2⟩ := nameL_get (List.getElem?_eq_getElem (show j < M.length by have := HN.out; omega))
            have u1 := hcell3 _ _ p1
            have u2 := hcell3 _ _ p2
            rw [← Nat.add_assoc] at u2
            obtain ⟨g, off, c1, hve, _, _, hcell⟩ := HL.out.open_ (by omega)
            injection hve with q4 q5 q6
            subst q4; subst q6
            have hx := hcell i (.string ⟨l[i].toArray⟩) (by rw [List.getElem?_map, List.getElem?_eq_getElem hi]; rfl)
            have HRM := dr_remove h7.dr 5 l[i]
            rw [ht3, ht4] at HRM
            rw [ht1] at u1
            rw [ht2] at u2
            unfold strV at u1
            obtain ⟨s, hs⟩ : ∃ s, s = l[i] := ⟨_, rfl⟩
            obtain ⟨nq, hnq⟩ : ∃ nq, nq = i + 1 := ⟨_, rfl⟩
            rw [← hs] at hx HRM u1
            rw [← hnq] at HRM u2
            unfold findA at HRM
            have HRM := Lib.hid HRM
            have H7 := Lib.hid h7
            have A7 := Lib.hid a7
            have HX := Lib.hid hx
            have U1 := Lib.hid u1
            have U2 := Lib.hid u2
            have hj1 : (j : Int) < (n : Int) := by omega
            have hj0 : (0 : Int) ≤ (j : Int) := by omega
            have hi1 : (i : Int) < (l.length : Int) := by omega
            have hi0 : (0 : Int) ≤ (i : Int) := by omega
            have e3 : IntKind.i64.wrap ((nq : Int) - 1) = (i : Int) := by rw [IntKind.wrap_i64]; omega
            have e4 : IntKind.i64.wrap (i : Int) = (i : Int) := by rw [IntKind.wrap_i64]; omega
            have e5 : wrap64 ((nq : Int) - 1) = (i : Int) := by unfold wrap64; omega
            have e6 : IntKind.i64.wrap ((j : Int) - 1) = (j : Int) - 1 := by rw [IntKind.wrap_i64]; omega
            have hnq1 : ¬ ((nq : Int) < 1) := by omega
            have hnq2 : ¬ ((l.length : Int) < (nq : Int)) := by omega
            clear h7 a7 HI9 ht1 ht2 ht3 ht4 r3 hK3 hg3 hcell3 p1 p2 hcell hx hs hnq q2 q5 e0
            go_wp2_with fail
            refine HRM.out.mono ?_
            rintro e w4 ⟨rfl, F8, hd, ho, hgr⟩
            have h8 := H7.out.step hd ho hgr
            have z1 := ho.cell U1.out HG3.out
            have z2 := ho.cell U2.out HG3.out
            have z3 := h8.on.cell HX.out id
            have H8 := Lib.hid (show NSt w X t l.length (.slice (some ⟨g3, off3, none⟩) n lcp) M j w4 from ⟨F8, h8, A7.out.step ho hgr⟩)
            clear hd ho hgr h8 u1 u2
            go_upto_region 22 with fail
            refine hB _ 34 (fun w' => w'.cell? ⟨g3, off3 + j * 2, none⟩ = some (.string ⟨s.toArray⟩) ∧ w'.cell? ⟨g3, off3 + j * 2 + 1, none⟩ = some (.int .i64 (nq : Nat)) ∧ w'.cell? ⟨g, off + i, none⟩ = some (.string ⟨s.toArray⟩)) (⟨(Only.refl NoB w4).drew.cell z1 id, (Only.refl NoB w4).drew.cell z2 id, (Only.refl NoB w4).drew.cell z3 id⟩) (fun hHeld => ?_)
            refine hT 0 88 ?_
            refine hV 1 89 (.bool false) ?_
            refine hT 2 90 ?_
            refine hT 3 91 ?_
            refine hT 4 92 ?_
            refine hT 5 93 ?_
            refine hT 6 94 ?_
            refine hT 7 95 ?_
            refine hT 8 96 ?_
            refine hV 9 97 (.bool false) ?_
            refine hT 10 98 ?_
            refine hT 11 99 ?_
            refine hT 12 100 ?_
            refine hV 13 101 (.bool false) ?_ (hy := by (intro o ho w' hSw; cases ho; (try dsimp only at hSw); go_simp; first | done | omega))
            refine hT 14 102 ?_
            refine hT 15 103 ?_
            refine hT 16 104 ?_
            refine hT 17 105 ?_
            refine hT 18 106 ?_
            refine hV 19 107 (.bool false) ?_ (hy := by (intro o ho w' hSw; cases ho; (try dsimp only at hSw); go_simp; first | done | omega))
            refine hT 20 108 ?_
            refine hT 21 109 ?_
            refine hT 22 110 ?_
            refine hT 23 111 ?_
            refine hV 24 112 (.int .i64 (i : Nat)) ?_
            refine hT 25 113 ?_
            refine hT 26 114 ?_
            refine hT 27 115 ?_
            refine hT 28 116 ?_
            refine hT 29 117 ?_
            refine hT 30 118 ?_
            refine hT 31 119 ?_
            refine hV 32 120 (.bool false) ?_
            refine hT 33 121 ?_
            refine wpAnyH_done (by kernel_rfl) ?_ _
            refine NoPanic.normal ?_
            go_wp2_with fail
            obtain ⟨F9, h9, a9⟩ := H8.out
            exact ⟨⟨j, by omega, rfl, Lib.hid ⟨F9, h9.quit (Only.refl NoB w4).drew, a9.quit (Only.refl NoB w4).drew⟩⟩, by simp [intOf] <;> omega⟩
end
end Go.Proofs.YtdipjakblaeekaaGreat
