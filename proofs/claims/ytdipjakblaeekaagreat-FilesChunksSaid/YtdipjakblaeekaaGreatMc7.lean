import Derived.Test.YtdipjakblaeekaaGreatMc6
import Derived.Lib.ConvBytes
import Derived.Deep.Fields
import Derived.ChangeSame
set_option linter.unusedVariables false
set_option linter.unusedSimpArgs false
namespace Go.Proofs.YtdipjakblaeekaaGreat
open Go.RowKit Go.Proofs Go.Shelf
set_option maxRecDepth 20000
attribute [local go_sem] Oper.semAt_some
section
variable {w w' : World} {F G : Nat → Prop} {X : XC} {t m np own c : Nat} {M : List KV}
def chunkOf (m : Nat) : Nat := min (NodeD.most m - 6) 200
theorem chunk_ok (h1 : 64 ≤ m) (h2 : m ≤ 4096) : Calls Tryz.prog 11 #[.int .i64 m] w fun e w' => e = .returned (.tuple #[.int .i64 (chunkOf m : Nat), .int .i64 0]) ∧ w = w' := by
  have hmo : 7 ≤ NodeD.most m := by unfold NodeD.most; omega
  have hmx : NodeD.most m ≤ 4096 := by unfold NodeD.most; omega
  have HM := Lib.hid (most_ok m h1 h2 w)
  obtain ⟨q, hq⟩ : ∃ q, q = NodeD.most m := ⟨_, rfl⟩
  have hc : chunkOf m = min (q - 6) 200 := by rw [hq]; rfl
  rw [hc]
  rw [← hq] at HM hmo hmx
  clear hc hq
  have hle : ¬ ((q : Int) ≤ 6) := by omega
  have hw1 : IntKind.i64.wrap ((q : Int) - 6) = (q : Int) - 6 := by rw [IntKind.wrap_i64]; omega
  obtain ⟨r, hr⟩ : ∃ r, r = min (q - 6) 200 := ⟨_, rfl⟩
  rw [← hr]
  have HR := Lib.hid hr
  clear hr
  by_cases hlt : (q : Int) - 6 < 200
  · have hr : (r : Int) = (q : Int) - 6 := by have := HR.out; omega
    rw [hr]
    clear hr
    go_enter Tryz.func11, Tryz.ntmps11
    go_wp2_with fail
    refine HM.out.mono ?_
    rintro e w1 ⟨rfl, rfl⟩
    go_wp2_with fail
    all_goals first | (go_ret2; exact ⟨rfl, rfl⟩) | (exfalso; omega)
  · have hr : (r : Int) = 200 := by have := HR.out; omega
    rw [hr]
    clear hr
    go_enter Tryz.func11, Tryz.ntmps11
    go_wp2_with fail
    refine HM.out.mono ?_
    rintro e w1 ⟨rfl, rfl⟩
    go_wp2_with fail
    all_goals first | (go_ret2; exact ⟨rfl, rfl⟩) | (exfalso; omega) | (go_ret2; refine ⟨?_, rfl⟩; show Ending.returned (Value.tuple #[Value.int IntKind.i64 ((q : Int) - 6), _]) = _; rw [show (q : Int) - 6 = 200 by omega]; rfl)
theorem fprefix_ok (n : Int) : Calls Tryz.prog 51 #[.int .i64 n] w fun e w' => e = .returned (preAns n) ∧ Only NoB w w' := by
  have HP := Lib.hid (prefix_chunk (w := w) n)
  obtain ⟨a, b, hab⟩ : ∃ a b, preAns n = .tuple #[a, b] := by unfold preAns; split <;> exact ⟨_, _, rfl⟩
  rw [hab] at HP ⊢
  clear hab
  go_enter Tryz.func51, Tryz.ntmps51
  go_wp2_with fail
  refine HP.out.mono ?_
  rintro e w1 ⟨rfl, ho⟩
  have HO := Lib.hid ho
  clear ho
  go_wp2_with fail
  go_ret2
  exact ⟨rfl, HO.out⟩
def fpre (n : Int) : Str := (99 : UInt8) :: be3i n
theorem preAns_ok {n : Int} (h : 1 ≤ n ∧ n ≤ 16777215) : preAns n = .tuple #[.string ⟨(fpre n).toArray⟩, .int .i64 0] := by rw [preAns, if_pos h]; rfl
theorem fdrop_ok {n : Int} (h : KvAt w F X t m np own M c) (hn : 1 ≤ n ∧ n ≤ 16777215) (hlen : (under (fpre n) M).length ≤ 1000000) :
    Calls Tryz.prog 20 #[.pointer (some ⟨t, 0, none⟩), .int .i64 n] w (KvOut w F X t m np own (.tuple #[.int .i64 ((under (fpre n) M).length : Nat), .int .i64 0]) (rid (fpre n) M) c) := by
  have HP := Lib.hid (fprefix_ok (w := w) n)
  rw [preAns_ok hn] at HP
  have HH := Lib.hid h
  have HL := Lib.hid hlen
  have HD0 : Hid (∀ w1, Only NoB w w1 → Calls Tryz.prog 53 _ w1 _) := Lib.hid fun w1 ho => wdrop_ok (h.quit ho) (pre := fpre n) (by simp [fpre, be3i]) hlen
  obtain ⟨L, hL⟩ : ∃ L, L = (under (fpre n) M).length := ⟨_, rfl⟩
  rw [← hL] at HD0 ⊢
  clear h hlen hL
  go_enter Tryz.func20, Tryz.ntmps20
  go_wp2_with fail
  refine HP.out.mono ?_
  rintro e w1 ⟨rfl, ho⟩
  have HO := Lib.hid ho
  have HD := Lib.hid (HD0.out w1 ho)
  clear ho
  go_wp2_with fail
  refine HD.out.mono ?_
  rintro e w2 ⟨rfl, hk⟩
  have HK : Hid (KvOut w F X t m np own (.tuple #[.int .i64 (L : Nat), .int .i64 0]) (rid (fpre n) M) c (.returned (.tuple #[.int .i64 (L : Nat), .int .i64 0])) w2) := Lib.hid (KvOut.trans (HO.out.mono fun _ _ h => h.elim) (Grows.refl F w) ⟨rfl, hk⟩)
  clear hk
  go_wp2_with fail
  go_ret2
  exact HK.out
theorem KvAt.m12 (h : KvAt w F X t m np own M c) : 64 ≤ m ∧ m ≤ 4096 := by obtain ⟨D, _, hb, rfl, _⟩ := h; exact ⟨hb.1.m1, hb.1.m2⟩
theorem KvAt.bytes (h : KvAt w F X t m np own M c) : Calls Tryz.prog 80 #[.pointer (some ⟨t, 0, none⟩)] w fun e w' => e = .returned (.int .i64 m) ∧ w = w' := by
  obtain ⟨D, ht, _, rfl, _⟩ := h; exact ht.bytes
theorem ready_ok {n : Int} (h : KvAt w F X t m np own M c) (hn : 1 ≤ n ∧ n ≤ 16777215) :
    Calls Tryz.prog 49 #[.pointer (some ⟨t, 0, none⟩), .int .i64 n] w fun e w' => e = .returned (.tuple #[.int .i64 (chunkOf m : Nat), .int .i64 0]) ∧ Only NoB w w' := by
  have HP := Lib.hid (fprefix_ok (w := w) n)
  rw [preAns_ok hn] at HP
  have HH := Lib.hid h
  clear h
  go_enter Tryz.func49, Tryz.ntmps49
  go_wp2_with fail
  refine HP.out.mono ?_
  rintro e w1 ⟨rfl, ho⟩
  have HO := Lib.hid ho
  have HB := Lib.hid (HH.out.quit ho).bytes
  have HC := Lib.hid (chunk_ok (w := w1) HH.out.m12.1 HH.out.m12.2)
  clear ho
  go_wp2_with fail
  refine HB.out.mono ?_
  rintro e w2 ⟨rfl, rfl⟩
  go_wp2_with fail
  refine HC.out.mono ?_
  rintro e w2 ⟨rfl, rfl⟩
  go_wp2_with fail
  go_ret2
  exact ⟨rfl, HO.out⟩
end
end Go.Proofs.YtdipjakblaeekaaGreat
namespace Go.Proofs.YtdipjakblaeekaaGreat
section
variable {M : List KV} {p k v d : Str} {c i j : Nat}
def ckey (p : Str) (i : Nat) : Str := p ++ be2 i
def chunkN (c L : Nat) : Nat := (L + c - 1) / c
def chunkAt (c : Nat) (d : Str) (i : Nat) : Str := (d.drop (c * i)).take c
def chunks (c : Nat) (p d : Str) : List KV := (List.range (chunkN c d.length)).map fun i => (ckey p i, chunkAt c d i)
theorem chunks_len : (chunks c p d).length = chunkN c d.length := by simp [chunks]
theorem chunkN_lt {L : Nat} (hc : 0 < c) : i < chunkN c L ↔ c * i < L := by
  unfold chunkN
  rw [Nat.lt_div_iff_mul_lt hc, Nat.mul_comm]
  omega
theorem chunks_take (hc : 0 < c) (hi : c * i < d.length) : (chunks c p d).take (i + 1) = (chunks c p d).take i ++ [(ckey p i, chunkAt c d i)] := by
  have h : i < (chunks c p d).length := by rw [chunks_len]; exact (chunkN_lt hc).2 hi
  rw [List.take_succ_eq_append_getElem h]
  simp [chunks]
theorem chunks_all (hc : 0 < c) (hi : d.length ≤ c * i) : (chunks c p d).take i = chunks c p d := by
  apply List.take_of_length_le
  rw [chunks_len]
  have : ¬ i < chunkN c d.length := fun h => by have := (chunkN_lt hc).1 h; omega
  omega
theorem lts_pre : ∀ (p : Str) {a b : Str}, lts a b → lts (p ++ a) (p ++ b)
  | [], _, _, h => h
  | x :: p, _, _, h => lts_cons.2 (.inr ⟨rfl, lts_pre p h⟩)
theorem be2_lts (hij : i < j) (hj : j ≤ 65535) : lts (be2 i) (be2 j) := by
  unfold be2
  by_cases h : i / 256 = j / 256
  · rw [h]
    refine lts_cons.2 (.inr ⟨rfl, lts_cons.2 (.inl ?_)⟩)
    rw [UInt8.lt_iff_toNat_lt, UInt8.toNat_ofNat', UInt8.toNat_ofNat']
    omega
  · refine lts_cons.2 (.inl ?_)
    rw [UInt8.lt_iff_toNat_lt, UInt8.toNat_ofNat', UInt8.toNat_ofNat']
    omega
theorem ckey_lts (hij : i < j) (hj : j ≤ 65535) : lts (ckey p i) (ckey p j) := lts_pre p (be2_lts hij hj)
theorem hasP_ckey : hasP p (ckey p i) = true := by simp [hasP, ckey]
theorem chunks_keys {x : KV} (hx : x ∈ (chunks c p d).take i) : ∃ j, j < i ∧ x.1 = ckey p j := by
  obtain ⟨j, hj, rfl⟩ := List.getElem_of_mem hx
  rw [List.length_take] at hj
  refine ⟨j, by omega, ?_⟩
  simp [chunks]
theorem under_ins : ∀ {M : List KV}, Srt M → hasP p k = true → (∀ x ∈ under p M, lts x.1 k) → under p (ins k v M) = under p M ++ [(k, v)] ∧ rid p (ins k v M) = rid p M
  | [], _, hk, _ => by simp [ins, under, rid, hk]
  | x :: M, hs, hk, hl => by
    have hs' := List.pairwise_cons.1 hs
    rw [ins]
    split
    · rename_i hlt
      have hnone : under p (x :: M) = [] := by
        apply List.filter_eq_nil_iff.2
        intro y hy hyp
        have h1 := hl y (List.mem_filter.2 ⟨hy, hyp⟩)
        rcases List.mem_cons.1 hy with rfl | hy
        · exact lts_asymm hlt h1
        · exact lts_asymm (lts_trans hlt (hs'.1 y hy)) h1
      rw [hnone]
      unfold under at hnone ⊢
      unfold rid
      rw [List.filter_cons_of_pos (by simpa using hk), hnone, List.filter_cons_of_neg (by simp [hk])]
      exact ⟨rfl, rfl⟩
    · rename_i hlt
      split
      · rename_i he
        have h1 := hl x (List.mem_filter.2 ⟨by simp, by rw [he]; exact hk⟩)
        rw [he] at h1
        exact (lts_irrefl _ h1).elim
      · obtain ⟨h1, h2⟩ := under_ins (M := M) hs'.2 hk fun y hy => hl y (by unfold under at hy ⊢; exact List.mem_filter.2 ⟨List.mem_cons_of_mem _ (List.mem_filter.1 hy).1, (List.mem_filter.1 hy).2⟩)
        unfold under at h1 ⊢
        unfold rid at h2 ⊢
        by_cases hx : hasP p x.1 = true
        · refine ⟨?_, ?_⟩
          · rw [List.filter_cons_of_pos (by simpa using hx), List.filter_cons_of_pos (by simpa using hx), h1]; rfl
          · rw [List.filter_cons_of_neg (by simp [hx]), List.filter_cons_of_neg (by simp [hx]), h2]
        · refine ⟨?_, ?_⟩
          · rw [List.filter_cons_of_neg (by simpa using hx), List.filter_cons_of_neg (by simpa using hx), h1]
          · rw [List.filter_cons_of_pos (by simpa using hx), List.filter_cons_of_pos (by simpa using hx), h2]
theorem under_rid_self : under p (rid p M) = [] := by
  apply List.filter_eq_nil_iff.2
  intro y hy hyp
  have := (List.mem_filter.1 hy).2
  rw [hyp] at this
  cases this
theorem rid_rid : rid p (rid p M) = rid p M := by
  unfold rid
  rw [List.filter_filter]
  congr 1; funext x; simp
theorem under_other {q : Str} (hl : p.length = q.length) (hne : p ≠ q) : under q (rid p M) = under q M := by
  unfold under rid
  rw [List.filter_filter]
  apply List.filter_congr
  intro x _
  cases hq : hasP q x.1 with
  | false => rfl
  | true =>
    have : hasP p x.1 = false := by
      cases hp : hasP p x.1 with
      | false => rfl
      | true =>
        simp [hasP] at hp hq
        rw [hl] at hp
        exact (hne (hp.symm.trans hq)).elim
    rw [this]; rfl
end
end Go.Proofs.YtdipjakblaeekaaGreat
namespace Go.Proofs.YtdipjakblaeekaaGreat
open Go.RowKit Go.Proofs Go.Shelf
set_option maxRecDepth 20000
attribute [local go_sem] Oper.semAt_some
section
variable {w w' : World} {F G : Nat → Prop} {X : XC} {t m np own c n : Nat} {M : List KV} {d : Str}
def WrSt (w : World) (F : Nat → Prop) (X : XC) (t m np own n : Nat) (M : List KV) (c : Nat) (d : Str) (i : Nat) (v : Value) (wr : World) : Prop :=
  ∃ Mk, ∃ Fk, KvAt wr Fk X t m np own Mk (c + i) ∧ under (fpre n) Mk = (chunks (chunkOf m) (fpre n) d).take i ∧ rid (fpre n) Mk = rid (fpre n) M ∧ Only F w wr ∧ Grows F Fk w ∧ Bytes wr (fun k => w.heap.size ≤ k ∧ ¬ Fk k) v (d.drop (chunkOf m * i)) ∧ i ≤ chunkN (chunkOf m) d.length
def WrOut (w : World) (F : Nat → Prop) (X : XC) (t m np own n : Nat) (M : List KV) (c : Nat) (d : Str) (e : Ending) (w' : World) : Prop :=
  e = .returned (.int .i64 0) ∧ ∃ M' F', KvAt w' F' X t m np own M' c ∧ under (fpre n) M' = chunks (chunkOf m) (fpre n) d ∧ rid (fpre n) M' = rid (fpre n) M ∧ Only F w w' ∧ Grows F F' w
theorem bytesWorld_only (w : World) (e : TypeId) (s : ByteArray) : Only NoB w (Lib.bytesWorld w e s) :=
  ⟨rfl, rfl, rfl, by rw [Lib.bytesWorld_size]; omega, fun k hk _ => Lib.bytesWorld_at_old w e s k hk⟩
theorem le_grownCap (w : World) (n old : Nat) (e : TypeId) : n ≤ grownCap w n old e := by
  unfold grownCap
  simp [Question.cut]
set_option maxHeartbeats 2000000 in
theorem fwrite_ok (h : KvAt w F X t m np own M c) (hn : 1 ≤ n ∧ n ≤ 16777215) (hd : d.length ≤ 65536) (hN : chunkN (chunkOf m) d.length ≤ 65536) (hroom : c + chunkN (chunkOf m) d.length ≤ np - (own + 1)) (hlen : (under (fpre n) M).length ≤ 1000000) :
    Calls Tryz.prog 16 #[.pointer (some ⟨t, 0, none⟩), .int .i64 n, .string ⟨d.toArray⟩] w (WrOut w F X t m np own n M (c + chunkN (chunkOf m) d.length) d) := by
  have hch : 1 ≤ chunkOf m ∧ chunkOf m ≤ 200 := by
    have := h.m12
    unfold chunkOf NodeD.most
    omega
  have HR := Lib.hid (ready_ok (n := n) h (by omega))
  have HD : Hid (∀ w1, Only NoB w w1 → Calls Tryz.prog 20 _ w1 _) := Lib.hid fun w1 ho => fdrop_ok (n := n) (h.quit ho) (by omega) hlen
  obtain ⟨L, hL⟩ : ∃ L, L = d.length := ⟨_, rfl⟩
  obtain ⟨ch, hc⟩ : ∃ ch, ch = chunkOf m := ⟨_, rfl⟩
  obtain ⟨L0, hL0⟩ : ∃ L0, L0 = (under (fpre n) M).length := ⟨_, rfl⟩
  rw [← hL0] at HD
  rw [← hc] at HR hch hN
  rw [← hL] at hN hd
  have hq : ¬ (65536 < ((L : Int) + ch - 1) / ch) := by
    have : (((L + ch - 1 : Nat) / ch : Nat) : Int) = ((L : Int) + ch - 1) / ch := by
      rw [Int.natCast_ediv]
      congr 1; omega
    unfold chunkN at hN
    omega
  have hdl : d.length = L := hL.symm
  have hL1 : (L : Int) ≤ 65536 := by omega
  have hc0 : (ch : Int) ≠ 0 := by omega
  have hc1 : (1 : Int) ≤ ch := by omega
  have HH := Lib.hid h
  have HN := Lib.hid hn
  have HLL := Lib.hid hL
  have HC := Lib.hid hc
  clear h hlen hL hc hL0
  go_enter Tryz.func16, Tryz.ntmps16
  go_wp2_with fail
  refine HR.out.mono ?_
  rintro e w1 ⟨rfl, ho⟩
  have HO := Lib.hid ho
  clear ho
  go_wp2_with fail
  refine (HD.out w1 HO.out).mono ?_
  rintro e w2 ⟨rfl, F2, hk2, ho2, hg2⟩
  have hr : (ByteArray.mk d.toArray).size = L := by show d.toArray.size = L; simpa using hdl
  have hcv := Lib.run_convert_string_bytes (P := Tryz.prog) w2 9 50 5 ⟨d.toArray⟩ (u := .string) (by kernel_rfl) (by kernel_rfl) (by kernel_rfl)
  rw [hr] at hcv
  obtain ⟨W3, hW3⟩ : ∃ W3, W3 = Lib.bytesWorld w2 5 ⟨d.toArray⟩ := ⟨_, rfl⟩
  obtain ⟨cp, hcp⟩ : ∃ cp, cp = grownCap w2 L 0 5 := ⟨_, rfl⟩
  rw [← hW3, ← hcp] at hcv
  have ho3 : Only NoB w2 W3 := by rw [hW3]; exact bytesWorld_only _ _ _
  have hcpL : L ≤ cp := by rw [hcp]; exact le_grownCap _ _ _ _
  have hby : Bytes W3 (fun k => k = w2.heap.size) (.slice (some ⟨w2.heap.size, 0, none⟩) L cp) d := by
    rw [← hdl] at hcpL ⊢
    refine ⟨_, _, rfl, hcpL, by simp, fun _ => ⟨_, rfl, rfl, fun j u hu => ?_⟩⟩
    rw [Addr.add_lit, Nat.zero_add, hW3, Lib.bytesWorld_cell _ _ _ _ (by
      have := (List.getElem?_eq_some_iff.1 hu).1
      rw [List.length_map] at this
      show j < d.toArray.size
      simpa using this)]
    rw [List.getElem?_map] at hu
    cases hq : d[j]? with
    | none => rw [hq] at hu; cases hu
    | some x =>
      rw [hq] at hu
      injection hu with hu
      rw [← hu]
      show some (Value.int .u8 (d.toArray.toList.getD j 0).toNat) = some (byteV x)
      rw [List.getD_eq_getElem?_getD]
      simp [hq, byteV]
  have hs2 := ho2.size
  have hs1 := HO.out.size
  have HS : Hid (WrSt w F X t m np own n M c d 0 (.slice (some ⟨w2.heap.size, 0, none⟩) L cp) W3) := Lib.hid ⟨_, F2, hk2.quit ho3, by rw [under_rid_self]; rfl, rid_rid, (((HO.out.mono fun _ _ h => h.elim).trans' ho2 fun k hk hf => hf).trans' ho3 fun k hk hf => hf.elim), fun k hk => (hg2 k hk).imp id fun h => by omega, by
    rw [Nat.mul_zero, List.drop_zero]
    exact hby.mono fun k hk _ => by rw [hk]; exact ⟨by omega, fun hf => by have := hk2.lt _ hf; omega⟩, Nat.zero_le _⟩
  clear hW3 hby ho3 hk2 ho2 hg2 hs2 hs1 HD HR hcp hcpL hr
  go_wp2_with fail
  clear hcv hq hL1 hdl
  go_loopg [11, 12] L (fun g s11 s12 wr => ∃ i : Nat, s12 = .int .i64 i ∧ g = L - ch * i ∧ Hid (WrSt w F X t m np own n M c d i s11 wr))
  case atStart => exact ⟨0, rfl, by simp, HS⟩
  case round =>
    clear HS HO
    obtain ⟨i, rfl, hgk, HS⟩ := hrel
    obtain ⟨Mk, Fk, hkv, hun, hri, hon, hgr, hby, hile⟩ := HS.out
    rw [← HC.out] at hun hby hile
    obtain ⟨l, hl⟩ : ∃ l, l = (d.drop (ch * i)).length := ⟨_, rfl⟩
    have hlL : l = L - ch * i := by rw [hl, HLL.out, List.length_drop]
    by_cases hl0 : l = 0
    · subst hl0
      obtain ⟨A, c2, rfl, _⟩ := hby
      have hdn : d.length ≤ ch * i := by have := HLL.out; omega
      rw [chunks_all (by omega) hdn] at hun
      have HE : Hid (WrOut w F X t m np own n M (c + chunkN (chunkOf m) d.length) d (.returned (.int .i64 0)) wr) := Lib.hid ⟨rfl, Mk, Fk, hkv.mono (by rw [← HC.out]; omega), by rw [← HC.out]; exact hun, hri, hon, hgr⟩
      rw [← hl]
      clear hkv hun hri hon hgr hl hlL hdn hile HS hgk
      go_wp2_with fail
      go_ret
      exact HE.out
    · have hl1 : 0 < (d.drop (ch * i)).length := by omega
      obtain ⟨g, off, c2, rfl, hlc, hKg, hcell⟩ := hby.open_ hl1
      rw [← hl] at hlc hby ⊢
      have hil : ch * i < d.length := by have := HLL.out; omega
      have hi := (chunkN_lt (by omega)).2 hil
      have hi6 : i ≤ 65535 := by have := HLL.out; rw [← this] at hi; omega
      have hcv : ∀ (r : Nat) (w' : World), r ≤ l → Only NoB wr w' → (convert 50 9 (.slice (some ⟨g, off, none⟩) r r)).run Tryz.prog w' = .ok (.string ⟨((d.drop (ch * i)).take r).toArray⟩) w' := fun r w' hrl ho => by
        refine conv_bytes' (K := fun _ => True) (Rd.only (G := NoB) (F := fun _ => True) ?_ ho fun _ _ => id)
        have h1 : Rd wr _ 1 (.slice (some ⟨g, off, none⟩) r c2) r _ := Rd.take_ (w := wr) (n := l) (size := 1) (xs := (d.drop (ch * i)).map byteV) (by rw [hl] at hby ⊢; exact hby) hrl
        obtain ⟨A, c3, hv, hc3, hl3, hx⟩ := h1
        rw [Nat.mul_one, ← List.map_take] at hl3 hx
        have hlr : ((d.drop (ch * i)).take r).length = r := by rw [List.length_take]; omega
        rw [hlr]
        refine ⟨_, _, rfl, Nat.le_refl _, by rw [hl3, Nat.mul_one], fun h0 => ?_⟩
        obtain ⟨ad, h4, h5, h6⟩ := hx (by omega)
        injection hv with q1
        exact ⟨ad, q1.trans h4, trivial, h6⟩
      have hput : ∀ (r : Nat) (w5 : World), r = min ch l → Only NoB wr w5 → Calls Tryz.prog 36 #[.pointer (some ⟨t, 0, none⟩), .string ⟨((99 : UInt8) :: (be3 n ++ be2 i)).toArray⟩, .string ⟨((d.drop (ch * i)).take r).toArray⟩] w5 (fun e w6 => (∃ b, e = .returned (.tuple #[.bool b, .int .i64 0])) ∧ ∀ v, (v = .slice (some ⟨g, off + r, none⟩) (l - r) (c2 - r) ∨ (c2 = r ∧ v = .slice (some ⟨g, off, none⟩) (l - r) 0)) → WrSt w F X t m np own n M c d (i + 1) v w6) := fun r w5 hr ho5 => by
        have hkey : (99 : UInt8) :: (be3 n ++ be2 i) = ckey (fpre n) i := by unfold ckey fpre; rw [be3i_nat HN.out.2]; rfl
        have hval : (d.drop (ch * i)).take r = chunkAt ch d i := by
          unfold chunkAt
          rw [hr]
          by_cases hcl : ch ≤ l
          · rw [Nat.min_eq_left hcl]
          · rw [Nat.min_eq_right (by omega), List.take_of_length_le (by omega), List.take_of_length_le (by omega)]
        rw [hkey, hval]
        have hkl : (ckey (fpre n) i).length = 6 := by simp [ckey, fpre, be3i, be2]
        have hvl : (chunkAt ch d i).length ≤ ch := by unfold chunkAt; rw [List.length_take]; omega
        have hpok : PairOk m (ckey (fpre n) i, chunkAt ch d i) := by
          have h12 := hkv.m12
          have hce := HC.out
          unfold chunkOf at hce
          have hmo : 7 ≤ NodeD.most m := by unfold NodeD.most; omega
          refine ⟨by show 1 ≤ (ckey (fpre n) i).length; omega, by show (ckey (fpre n) i).length ≤ 255; omega, by show (chunkAt ch d i).length ≤ 255; omega, by show (ckey (fpre n) i).length + (chunkAt ch d i).length ≤ _; omega⟩
        have hbefore : ∀ x ∈ under (fpre n) Mk, lts x.1 (ckey (fpre n) i) := fun x hx => by
          rw [hun] at hx
          obtain ⟨j, hj, hxe⟩ := chunks_keys hx
          rw [hxe]
          exact ckey_lts hj hi6
        obtain ⟨hu1, hu2⟩ := under_ins (v := chunkAt ch d i) hkv.srt hasP_ckey hbefore
        refine (kv_put (hkv.quit ho5) (by rw [← HC.out] at hroom; omega) hpok (by omega)).mono ?_
        rintro e w6 ⟨rfl, F6, hk6, ho6, hg6⟩
        have hs5 := ho5.size
        have hsr := hon.size
        refine ⟨⟨_, rfl⟩, fun v hv => ⟨_, F6, hk6, by rw [hu1, hun, ← HC.out, ← chunks_take (by omega) hil], hu2.trans hri, (hon.trans' ho5 fun k hk hf => hf.elim).trans' ho6 fun k hk hf => (hgr k hf).elim id fun h => by omega, fun k hk => (hg6 k hk).elim (fun h => hgr k h) fun h => .inr (by omega), ?_, by rw [← HC.out]; omega⟩⟩
        have hd1 : Rd wr _ 1 (.slice (some ⟨g, off + r * 1, none⟩) (l - r) (c2 - r)) (l - r) _ := Rd.drop_ (w := wr) (n := l) (k := r) (size := 1) (xs := (d.drop (ch * i)).map byteV) (by rw [hl] at hby ⊢; exact hby) (by omega)
        rw [Nat.mul_one, ← List.map_drop, List.drop_drop] at hd1
        have hdd : d.drop (ch * i + r) = d.drop (ch * (i + 1)) := by
          rw [Nat.mul_succ]
          by_cases hcl : ch ≤ l
          · rw [hr, Nat.min_eq_left hcl]
          · have hL := HLL.out
            rw [List.drop_of_length_le (by omega), List.drop_of_length_le (by omega)]
        have hdl : l - r = (d.drop (ch * (i + 1))).length := by rw [← hdd, List.length_drop]; have := HLL.out; omega
        rw [hdd] at hd1
        rw [← HC.out]
        unfold Bytes
        rw [← hdl]
        rcases hv with rfl | ⟨hcr, rfl⟩
        · refine (((hd1.mono (G := fun k => (w.heap.size ≤ k ∧ ¬ Fk k) ∧ k < wr.heap.size) fun k hk hlk => ⟨hk, hlk⟩).only ho5 fun _ _ => id).only ho6 fun k hk => hk.1.2).mono fun k hk _ => ⟨hk.1.1, fun hf => ?_⟩
          rcases hg6 k hf with h1 | h1
          · exact hk.1.2 h1
          · have := hk.2; omega
        · have h0 : l - r = 0 := by omega
          rw [h0] at hdl ⊢
          have hnil : d.drop (ch * (i + 1)) = [] := List.length_eq_zero_iff.1 hdl.symm
          rw [hnil]
          exact ⟨_, _, rfl, Nat.le_refl _, rfl, fun h => by omega⟩
      have HPUT := Lib.hid hput
      have HB := Lib.hid (bytes_chunk (w := wr) (n := n) (m := i) HN.out hi6)
      have hl2 : (0 : Int) < l := by omega
      have HCV := Lib.hid hcv
      have HKV := Lib.hid hkv
      have HUN := Lib.hid hun
      have HRI := Lib.hid hri
      have HON := Lib.hid hon
      have HGR := Lib.hid hgr
      have HBY := Lib.hid hby
      have HI := Lib.hid hi
      have HIL := Lib.hid hil
      have HLD := Lib.hid hl
      have HLE := Lib.hid hlL
      have HGK := Lib.hid hgk
      have HKG := Lib.hid hKg
      unfold keyC at HB
      have hi6' := hi6
      clear hput hcv hkv hun hri hon hgr hby hi hil hl hlL hgk hKg hcell hile HS hl1 hi6
      by_cases hcl : (ch : Int) ≤ l
      · go_wp2_with fail
        refine HB.out.mono ?_
        rintro e w5 ⟨rfl, ho5⟩
        have hcv := HCV.out ch w5 (by omega) ho5
        have HP := Lib.hid (HPUT.out ch w5 (by omega) ho5)
        clear ho5
        go_wp2_with fail
        refine HP.out.mono ?_
        rintro e w6 ⟨⟨b, rfl⟩, hst⟩
        have HST := Lib.hid hst
        have hw1 : IntKind.i64.wrap ((i : Int) + 1) = (i : Int) + 1 := by
          have := hi6'
          rw [IntKind.wrap_i64]; omega
        have hlt : L - ch * (i + 1) < gk := by
          have h1 := HGK.out
          have h2 := HLE.out
          rw [Nat.mul_succ]; omega
        clear hst hcv
        go_wp2_with fail
        · go_roundg (L - ch * (i + 1))
          case measure => exact hlt
          case rel => exact ⟨i + 1, rfl, rfl, Lib.hid (HST.out _ (.inr ⟨by omega, by simp⟩))⟩
        · go_roundg (L - ch * (i + 1))
          case measure => exact hlt
          case rel => exact ⟨i + 1, rfl, rfl, Lib.hid (HST.out _ (.inl (by simp)))⟩
      · go_wp2_with fail
        refine HB.out.mono ?_
        rintro e w5 ⟨rfl, ho5⟩
        have hcv := HCV.out l w5 (by omega) ho5
        have HP := Lib.hid (HPUT.out l w5 (by omega) ho5)
        clear ho5
        go_wp2_with fail
        refine HP.out.mono ?_
        rintro e w6 ⟨⟨b, rfl⟩, hst⟩
        have HST := Lib.hid hst
        have hw1 : IntKind.i64.wrap ((i : Int) + 1) = (i : Int) + 1 := by
          have := hi6'
          rw [IntKind.wrap_i64]; omega
        have hlt : L - ch * (i + 1) < gk := by
          have h1 := HGK.out
          have h2 := HLE.out
          rw [Nat.mul_succ]; omega
        clear hst hcv
        go_wp2_with fail
        · go_roundg (L - ch * (i + 1))
          case measure => exact hlt
          case rel => exact ⟨i + 1, rfl, rfl, Lib.hid (HST.out _ (.inr ⟨by omega, by simp⟩))⟩
        · go_roundg (L - ch * (i + 1))
          case measure => exact hlt
          case rel => exact ⟨i + 1, rfl, rfl, Lib.hid (HST.out _ (.inl (by simp)))⟩
end
end Go.Proofs.YtdipjakblaeekaaGreat
namespace Go.Proofs.YtdipjakblaeekaaGreat
open Go.RowKit Go.Proofs Go.Shelf
set_option maxRecDepth 20000
attribute [local go_sem] Oper.semAt_some
section
variable {w w' : World} {F G : Nat → Prop} {X : XC} {t m np own c n s : Nat} {M : List KV} {d : Str}
def rdAns (d : Str) (s : Nat) : Value := if s = d.length then .tuple #[.string ⟨d.toArray⟩, .int .i64 0] else .tuple #[.string ⟨#[]⟩, .int .i64 4]
theorem chunkN_eq (L ch : Nat) (hc : 1 ≤ ch) : ((L : Int) + ch - 1) / ch = (chunkN ch L : Nat) := by
  unfold chunkN
  rw [Int.natCast_ediv]
  congr 1; omega
def RdSt (B : Nat) (F' : Nat → Prop) (ch : Nat) (d : Str) (w1 : World) (i : Nat) (v : Value) (wr : World) : Prop :=
  Only NoB w1 wr ∧ Own wr (fun k => B ≤ k) 5 1 v (min (ch * i) d.length) ((d.take (ch * i)).map byteV)
set_option maxHeartbeats 2000000 in
theorem fread_ok (h : KvAt w F X t m np own M c) (hn : 1 ≤ n ∧ n ≤ 16777215) (hs : s ≤ 65536) (hd : d.length ≤ 65536) (hun : under (fpre n) M = chunks (chunkOf m) (fpre n) d) :
    Calls Tryz.prog 18 #[.pointer (some ⟨t, 0, none⟩), .int .i64 n, .int .i64 s] w (KvOut w F X t m np own (rdAns d s) M c) := by
  have hch : 1 ≤ chunkOf m ∧ chunkOf m ≤ 200 := by
    have := h.m12
    unfold chunkOf NodeD.most
    omega
  have HR := Lib.hid (ready_ok (n := n) h (by omega))
  have hPR := fun w1 => fprefix_ok (w := w1) n
  rw [preAns_ok (by omega)] at hPR
  have HPR := Lib.hid hPR
  have hlen : (under (fpre n) M).length = chunkN (chunkOf m) d.length := by rw [hun, chunks_len]
  have hNd : chunkN (chunkOf m) d.length ≤ 65536 := by
    rw [chunkN]
    refine Nat.le_trans (Nat.div_le_div_right (c := chunkOf m) (b := 65536 * chunkOf m + (chunkOf m - 1)) (by have : 65536 * 1 ≤ 65536 * chunkOf m := Nat.mul_le_mul_left _ hch.1; omega)) ?_
    rw [Nat.mul_comm, Nat.mul_add_div (by omega), Nat.div_eq_of_lt (by omega)]
    omega
  have HA : Hid (∀ (w1 : World) (q : Nat), Only NoB w w1 → Calls Tryz.prog 23 #[.pointer (some ⟨t, 0, none⟩), .string ⟨(fpre n).toArray⟩, .int .i64 q] w1 _) := Lib.hid fun w1 q ho => kv_all (most := q) (h.quit ho) (pre := fpre n) (by simp [fpre, be3i]) (by omega)
  obtain ⟨ch, hc⟩ : ∃ ch, ch = chunkOf m := ⟨_, rfl⟩
  rw [← hc] at HR hch hNd hlen hun
  have hq := chunkN_eq s ch hch.1
  obtain ⟨q, hqe⟩ : ∃ q, q = chunkN ch s := ⟨_, rfl⟩
  rw [← hqe] at hq
  have hs1 : (s : Int) ≤ 65536 := by omega
  have hc0 : (ch : Int) ≠ 0 := by omega
  have hc1 : (1 : Int) ≤ ch := by omega
  have HN := Lib.hid hn
  have HH := Lib.hid h
  have HUN := Lib.hid hun
  have HLEN := Lib.hid hlen
  have HND := Lib.hid hNd
  have HQE := Lib.hid hqe
  obtain ⟨R, hR⟩ : ∃ R, R = rdAns d s := ⟨_, rfl⟩
  rw [← hR]
  have HRE := Lib.hid hR
  clear h hn hc hun hlen hNd hqe hR hPR
  go_enter Tryz.func18, Tryz.ntmps18
  go_wp2_with fail
  refine HR.out.mono ?_
  rintro e w1 ⟨rfl, ho⟩
  have HO := Lib.hid ho
  clear ho
  go_wp2_with fail
  refine (HPR.out w1).mono ?_
  rintro e w2 ⟨rfl, ho⟩
  have HO2 := Lib.hid (HO.out.trans ho)
  clear ho
  go_wp2_with fail
  refine (HA.out w2 q HO2.out).mono ?_
  rintro e w3 ⟨F3, hall, hk3, ho3, hg3⟩
  have hkk : KvAt w3 F3 X t m np own M c ∧ Only F w w3 ∧ Grows F F3 w := ⟨hk3, (HO2.out.mono fun _ _ h => h.elim).trans' ho3 fun k hk hf => hf, fun k hk => (hg3 k hk).imp id fun h => Nat.le_trans HO2.out.size h⟩
  have HKK := Lib.hid hkk
  have hs3 := Nat.le_trans HO2.out.size ho3.size
  have hs2 := HO2.out.size
  clear hk3 ho3 hg3 hkk
  rcases hall with ⟨hle, v, rfl, hown⟩ | ⟨hgt, rfl⟩
  · obtain ⟨A, cp, rfl, _⟩ := hown.shape
    obtain ⟨N, hN⟩ : ∃ N, N = (under (fpre n) M).length := ⟨_, rfl⟩
    rw [← hN] at hle hown ⊢
    by_cases hqN : N = q
    · subst hqN
      have HOW := Lib.hid hown
      have HNE := Lib.hid hN
      have HST : Hid (RdSt w3.heap.size F3 ch d w3 0 (.slice none 0 0) w3) := Lib.hid ⟨Only.refl _ _, by simpa using Own.nil w3 _ 5 1⟩
      clear hown hN hle
      go_wp2_with fail
      go_loopg [14, 73] N (fun g s14 s73 wr => ∃ i : Nat, s73 = .int .i64 i ∧ i ≤ N ∧ g = N - i ∧ Hid (RdSt w3.heap.size F3 ch d w3 i s14 wr))
      case atStart => exact ⟨0, rfl, Nat.zero_le _, rfl, HST⟩
      case round =>
        clear HST
        obtain ⟨i, rfl, hiN, hgk, HST⟩ := hrel
        obtain ⟨how, hov⟩ := HST.out
        obtain ⟨A2, c2, rfl, _⟩ := hov.shape
        by_cases hlt : i < N
        · have hltI : (i : Int) < (N : Int) := by omega
          have hlen := HLEN.out
          have hxe : (under (fpre n) M)[i]? = some (ckey (fpre n) i, chunkAt ch d i) := by
            rw [HUN.out]
            unfold chunks
            rw [List.getElem?_map, List.getElem?_range (by rw [← hlen, ← HNE.out]; exact hlt)]; rfl
          have hkey : ckey (fpre n) i = (99 : UInt8) :: (be3 n ++ be2 i) := by unfold ckey fpre; rw [be3i_nat HN.out.2]; rfl
          obtain ⟨hx1, hx2⟩ := pairL_get hxe
          have how3 := HOW.out.only how fun _ _ => id
          obtain ⟨g, c3, cs, hve, hnc, hKg, hB, hcs, hcell, hcl, _⟩ := how3.open_ (by omega)
          injection hve with q1 q2 q3
          subst q1; subst q3
          have y1 := hcl _ _ hx1
          have y2 := hcl _ _ hx2
          rw [hkey] at y1
          unfold strV at y1 y2
          obtain ⟨V, hV⟩ : ∃ V, V = chunkAt ch d i := ⟨_, rfl⟩
          rw [← hV] at y2
          simp only at y1 y2
          have hVl : V.length = min ch (d.length - ch * i) := by rw [hV]; unfold chunkAt; rw [List.length_take, List.length_drop]
          have hil : ch * i < d.length := (chunkN_lt (by omega)).1 (by rw [← hlen, ← HNE.out]; exact hlt)
          have hi6 : i ≤ 65535 := by have := HND.out; have := HNE.out; omega
          have hms : N - (i + 1) < gk := by omega
          have HB : Hid (∀ w', Calls Tryz.prog 50 #[.agg (keyC 3 [] [] n i)] w' _) := Lib.hid fun w' => bytes_chunk HN.out hi6
          unfold keyC at HB
          obtain ⟨lo, hlo⟩ : ∃ lo, lo = min (ch * i) d.length := ⟨_, rfl⟩
          rw [← hlo] at hov ⊢
          have HOV0 := Lib.hid hov
          have HSTEP : Hid (∀ w5 v8 w8, Only NoB wr w5 → App w5 (fun k => w3.heap.size ≤ k) 5 1 (.slice A2 lo c2) lo (ByteArray.mk V.toArray).size ((d.take (ch * i)).map byteV) (Lib.strCells ⟨V.toArray⟩) v8 w8 → RdSt w3.heap.size F3 ch d w3 (i + 1) v8 w8) := Lib.hid fun w5 v8 w8 ho5 ha => by
            have hsz : (ByteArray.mk V.toArray).size = V.length := by show V.toArray.size = _; simp
            rw [hsz, strCells_mk] at ha
            refine ⟨(how.trans ho5).trans' ha.only fun k hk hf => ?_, ?_⟩
            · have := hov.2 k hf; omega
            · have h1 := ha.own
              have hcat : d.take (ch * i) ++ V = d.take (ch * (i + 1)) := by rw [hV]; unfold chunkAt; rw [← List.take_add, ← Nat.mul_succ]
              rw [← List.map_append, hcat] at h1
              have hln : lo + V.length = min (ch * (i + 1)) d.length := by rw [hlo, hVl, Nat.mul_succ]; omega
              rw [hln] at h1
              refine h1.mono fun k hk _ => ?_
              rcases hk with hk | hk
              · exact hk
              · have := how.size; have := ho5.size; omega
          have hlo6 : lo ≤ 65536 := by omega
          have hVc : V.length ≤ 200 := by omega
          by_cases hlast : i + 1 < N
          · have hl1 : (i : Int) + 1 < (N : Int) := by omega
            have hil2 : ch * (i + 1) < d.length := (chunkN_lt (by omega)).1 (by rw [← hlen, ← HNE.out]; exact hlast)
            have hvl : V.length = ch := by rw [hVl]; rw [Nat.mul_succ] at hil2; omega
            clear hVl hV hx1 hx2 hcell hcl hB hcs hKg hnc how3 hov how hlen hxe hkey hlo hil hil2 hgk HST
            go_wp2_with fail
            refine (HB.out _).mono ?_
            rintro e w5 ⟨rfl, ho5⟩
            have HO5 := Lib.hid (((Only.refl NoB wr).alloc (.cells #[.string ⟨((99 : UInt8) :: (be3 n ++ be2 i)).toArray⟩, .string ⟨V.toArray⟩] 52)).trans ho5)
            have HOV := Lib.hid (HOV0.out.only HO5.out fun _ _ => id)
            have hb5 := (Blk.new wr 52 #[.string ⟨((99 : UInt8) :: (be3 n ++ be2 i)).toArray⟩, .string ⟨V.toArray⟩]).only ho5 id
            have z1 := hb5.cell 0
            have z2 := hb5.cell 1
            clear ho5 hb5 y1 y2
            go_wp2_with (at_builtin; refine wpList_app_str rfl _ _ _ _ rfl (by kernel_rfl) (by kernel_rfl) Ty.byte rfl rfl HOV.out (by show _ + (V.toArray).size ≤ _; rw [List.size_toArray]; omega) ?_; intro v8 w8 ha8; have HA8 := Lib.hid ha8; clear ha8)
            have HN8 := Lib.hid (HSTEP.out w5 v8 w8 HO5.out HA8.out)
            clear z1 z2 HA8
            go_wp2_with fail
            go_roundg (N - (i + 1))
            case measure => exact hms
            case rel => exact ⟨i + 1, rfl, by omega, rfl, HN8⟩
          · have hl1 : ¬ ((i : Int) + 1 < (N : Int)) := by omega
            clear hVl hV hx1 hx2 hcell hcl hB hcs hKg hnc how3 hov how hlen hxe hkey hlo hil hgk HST
            go_wp2_with fail
            refine (HB.out _).mono ?_
            rintro e w5 ⟨rfl, ho5⟩
            have HO5 := Lib.hid (((Only.refl NoB wr).alloc (.cells #[.string ⟨((99 : UInt8) :: (be3 n ++ be2 i)).toArray⟩, .string ⟨V.toArray⟩] 52)).trans ho5)
            have HOV := Lib.hid (HOV0.out.only HO5.out fun _ _ => id)
            have hb5 := (Blk.new wr 52 #[.string ⟨((99 : UInt8) :: (be3 n ++ be2 i)).toArray⟩, .string ⟨V.toArray⟩]).only ho5 id
            have z1 := hb5.cell 0
            have z2 := hb5.cell 1
            clear ho5 hb5 y1 y2
            go_wp2_with (at_builtin; refine wpList_app_str rfl _ _ _ _ rfl (by kernel_rfl) (by kernel_rfl) Ty.byte rfl rfl HOV.out (by show _ + (V.toArray).size ≤ _; rw [List.size_toArray]; omega) ?_; intro v8 w8 ha8; have HA8 := Lib.hid ha8; clear ha8)
            have HN8 := Lib.hid (HSTEP.out w5 v8 w8 HO5.out HA8.out)
            clear z1 z2 HA8
            go_wp2_with fail
            go_roundg (N - (i + 1))
            case measure => exact hms
            case rel => exact ⟨i + 1, rfl, by omega, rfl, HN8⟩
        · have hge : ¬ ((i : Int) < (N : Int)) := by omega
          have hNi : ¬ (ch * i < d.length) := fun hh => by
            have h1 := (chunkN_lt (by omega)).2 hh
            rw [← HLEN.out, ← HNE.out] at h1
            exact hlt h1
          have hmin : min (ch * i) d.length = d.length := Nat.min_eq_right (by omega)
          have htk : d.take (ch * i) = d := List.take_of_length_le (by omega)
          rw [hmin, htk] at hov
          rw [hmin]
          have hcv : (convert 50 9 (.slice A2 d.length c2)).run Tryz.prog wr = .ok (.string ⟨d.toArray⟩) wr := conv_bytes' (K := fun k => w3.heap.size ≤ k) hov.rd
          have HEND : Hid (∀ v, R = v → KvOut w F X t m np own R M c (.returned v) wr) := Lib.hid fun v hv => ⟨by rw [hv], F3, HKK.out.1.quit how, HKK.out.2.1.trans' how fun k hk hf => hf.elim, HKK.out.2.2⟩
          obtain ⟨dl, hdl⟩ : ∃ dl, dl = d.length := ⟨_, rfl⟩
          rw [← hdl] at hcv ⊢
          by_cases hsd : s = dl
          · have hR : R = .tuple #[.string ⟨d.toArray⟩, .int .i64 0] := by rw [HRE.out, rdAns, if_pos (hsd.trans hdl)]
            have HE := Lib.hid (HEND.out _ hR)
            have hsI : (dl : Int) = (s : Int) := by omega
            subst hsd
            clear hov how hNi hmin htk hdl hR HST hgk
            go_wp2_with fail
            go_ret2
            exact HE.out
          · have hR : R = .tuple #[.string ⟨#[]⟩, .int .i64 4] := by rw [HRE.out, rdAns, if_neg (fun e => hsd (e.trans hdl.symm))]
            have HE := Lib.hid (HEND.out _ hR)
            have hsI : ¬ ((dl : Int) = (s : Int)) := by omega
            clear hov how hNi hmin htk hdl hR HST hgk hcv
            go_wp2_with fail
            go_ret2
            exact HE.out
    · have hne : ¬ ((N : Int) = (q : Int)) := by omega
      have hsd : s ≠ d.length := fun e => by
        have h1 := HLEN.out
        have h2 := HQE.out
        rw [e] at h2
        omega
      have HE : Hid (KvOut w F X t m np own R M c (.returned (.tuple #[.string ⟨#[]⟩, .int .i64 4])) w3) := Lib.hid ⟨by rw [HRE.out, rdAns, if_neg hsd], F3, HKK.out⟩
      clear hown hN hsd hle
      go_wp2_with fail
      go_ret2
      exact HE.out
  · have hsd : s ≠ d.length := fun e => by
      have h1 := HLEN.out
      have h2 := HQE.out
      rw [e] at h2
      omega
    have HE : Hid (KvOut w F X t m np own R M c (.returned (.tuple #[.string ⟨#[]⟩, .int .i64 4])) w3) := Lib.hid ⟨by rw [HRE.out, rdAns, if_neg hsd], F3, HKK.out⟩
    clear hsd hgt
    go_wp2_with fail
    go_ret2
    exact HE.out
end
end Go.Proofs.YtdipjakblaeekaaGreat
namespace Go.Proofs.YtdipjakblaeekaaGreat
open Go.RowKit Go.Proofs Go.Shelf
set_option maxRecDepth 20000
attribute [local go_sem] Oper.semAt_some
section
variable {w w' : World} {m : Nat}
def OpenT (w : World) (m : Nat) (e : Ending) (w' : World) : Prop :=
  ∃ t F X, e = .returned (.pointer (some ⟨t, 0, none⟩)) ∧ KvAt w' F X t m 600 (ownOf 600 m) [] 0 ∧ Only NoB w w' ∧ ∀ k, F k → w.heap.size ≤ k
set_option maxHeartbeats 1000000 in
theorem open13_ok (h1 : 64 ≤ m) (h2 : m ≤ 4096) : Calls Tryz.prog 15 #[.int .i64 m] w (OpenT w m) := by
  have HN := Lib.hid (new_ok 602 m (by omega) (by omega) (by omega) h2 w)
  have H1 := Lib.hid h1
  have H2 := Lib.hid h2
  clear h1 h2
  go_enter Tryz.func15, Tryz.ntmps15
  go_wp2_with fail
  refine HN.out.mono ?_
  rintro e w1 ⟨b, G, rfl, hd, ho1, hG⟩
  have hz : (DD.new 602 m).at_ 0 = 0 :: List.replicate (m - 1) 0 := by
    show DD.zero m = _
    unfold DD.zero
    have h64 := H1.out
    obtain ⟨k, hk⟩ : ∃ k, m = k + 1 := ⟨m - 1, by omega⟩
    rw [hk]; rfl
  have HW := Lib.hid (wopen_new hd 1 (by omega) (by show 3 + 3 * 1 ≤ m; have := H1.out; omega) (by show 1 + 1 < 602; omega) rfl 0 _ hz (by decide))
  have HO1 := Lib.hid ho1
  have HG := Lib.hid hG
  clear hd ho1 hG hz
  go_wp2_with fail
  refine HW.out.mono ?_
  rintro e w2 ⟨a, rfl, hw, ho2, ha⟩
  have hroom : ownOf 600 m + 2 ≤ 600 := by
    have := H1.out
    unfold ownOf
    have h3 : (600 + 8 * m - 1) / (8 * m) ≤ 3 := by
      refine Nat.le_trans (Nat.div_le_of_le_mul (n := 3) ?_) (Nat.le_refl _)
      omega
    omega
  have HP := Lib.hid (popen_ok (X := freshX a b 600 m) (D := freshD 600 m) hw (fresh_base (by have := H1.out; omega) H2.out (by omega) hroom) (fresh_begin a b 600 m).symm)
  have HO2 := Lib.hid (HO1.out.trans ho2)
  have HA := Lib.hid ha
  clear hw ho2 ha hroom
  go_wp2_with fail
  refine HP.out.mono ?_
  rintro e w3 ⟨pg, rfl, hp, ho3, hpg⟩
  have HB := Lib.hid (begin_ok hp)
  have HO3 := Lib.hid (HO2.out.trans ho3)
  have HPG := Lib.hid hpg
  have HS := Lib.hid ho3.size
  clear hp ho3 hpg
  go_wp2_with fail
  refine HB.out.mono ?_
  rintro e w4 ⟨t, F, rfl, ht, ho4, hF⟩
  have hOk : Only NoB w w4 ∧ ∀ k, F k → w.heap.size ≤ k := by
    have s1 := HO1.out.size
    have s2 := HO2.out.size
    have s3 := HO3.out.size
    have hlow : ∀ k, (G k ∨ k = (freshX a b 600 m).a ∨ k = pg) → w.heap.size ≤ k := fun k hk => by
      rcases hk with hk | hk | hk
      · exact HG.out k hk
      · have := HA.out; have hk : k = a := hk; omega
      · have := HPG.out; omega
    exact ⟨HO3.out.trans' ho4 fun k hk hf => by have := hlow k hf; omega, fun k hk => (hF k hk).elim (hlow k) fun h => by omega⟩
  have HR : Hid (OpenT w m (.returned (.pointer (some ⟨t, 0, none⟩))) w4) := Lib.hid ⟨t, F, freshX a b 600 m, rfl, ⟨freshD 600 m, .inl ht, fresh_bt H1.out H2.out (by omega), rfl, rfl, rfl, fun x hx => by cases hx⟩, hOk⟩
  clear ht ho4 hF hOk
  go_wp2_with fail
  go_ret
  exact HR.out
end
end Go.Proofs.YtdipjakblaeekaaGreat
namespace Go.Proofs.YtdipjakblaeekaaGreat
open Go.RowKit Go.Proofs Go.Shelf
set_option maxRecDepth 20000
section
variable {w w' : World} {F G : Nat → Prop} {X : XC} {t m c n s : Nat} {M : List KV} {d : Str} {D : Nat → Str}
theorem ofNat_mod {a b : Nat} (h : UInt8.ofNat a = UInt8.ofNat b) : a % 256 = b % 256 := by
  have := congrArg UInt8.toNat h
  simpa using this
theorem fpre_inj {a b : Nat} (ha : a ≤ 16777215) (hb : b ≤ 16777215) (h : fpre a = fpre b) : a = b := by
  unfold fpre at h
  rw [be3i_nat ha, be3i_nat hb] at h
  unfold be3 at h
  injection h with _ h
  injection h with h1 h
  injection h with h2 h
  injection h with h3 _
  have e1 := ofNat_mod h1
  have e2 := ofNat_mod h2
  have e3 := ofNat_mod h3
  omega
theorem fpre_len (a b : Int) : (fpre a).length = (fpre b).length := rfl
def FlAt (w : World) (F : Nat → Prop) (X : XC) (t m : Nat) (D : Nat → Str) (c : Nat) : Prop :=
  ∃ M, KvAt w F X t m 600 (ownOf 600 m) M c ∧ (∀ n : Nat, 1 ≤ n ∧ n ≤ 16777215 → under (fpre n) M = chunks (chunkOf m) (fpre n) (D n) ∧ (D n).length ≤ 65536) ∧ ∀ x ∈ M, ∃ n : Nat, (1 ≤ n ∧ n ≤ 16777215) ∧ hasP (fpre n) x.1 = true
def FlOut (w : World) (F : Nat → Prop) (X : XC) (t m : Nat) (v : Value) (D : Nat → Str) (c : Nat) (e : Ending) (w' : World) : Prop :=
  e = .returned v ∧ ∃ F', FlAt w' F' X t m D c ∧ Only F w w' ∧ Grows F F' w
def setF (D : Nat → Str) (n : Nat) (d : Str) : Nat → Str := fun k => if k = n then d else D k
theorem fl_new (h : KvAt w F X t m 600 (ownOf 600 m) [] 0) : FlAt w F X t m (fun _ => []) 0 := by
  refine ⟨[], h, fun n _ => ⟨?_, by simp⟩, fun x hx => by cases hx⟩
  have : chunkOf m ≤ 200 := by unfold chunkOf; omega
  have h0 : chunkN (chunkOf m) 0 = 0 := by
    unfold chunkN
    rcases Nat.eq_zero_or_pos (chunkOf m) with h | h
    · rw [h]
    · exact Nat.div_eq_of_lt (by omega)
  simp [chunks, h0, under]
theorem FlAt.m12 (h : FlAt w F X t m D c) : 64 ≤ m ∧ m ≤ 4096 := by obtain ⟨M, hk, _⟩ := h; exact hk.m12
theorem FlAt.quit (h : FlAt w F X t m D c) (ho : Only NoB w w') : FlAt w' F X t m D c := by obtain ⟨M, hk, r⟩ := h; exact ⟨M, hk.quit ho, r⟩
theorem chunkOf_le (h : 64 ≤ m) : 1 ≤ chunkOf m ∧ chunkOf m ≤ 200 := by unfold chunkOf NodeD.most; omega
theorem chunkN_le {ch L : Nat} (hc : 1 ≤ ch) : chunkN ch L ≤ L := by
  unfold chunkN
  rcases Nat.eq_zero_or_pos L with h | h
  · subst h; rw [Nat.div_eq_of_lt (by omega)]; exact Nat.le_refl _
  · refine Nat.div_le_of_le_mul ?_
    obtain ⟨l, rfl⟩ : ∃ l, L = l + 1 := ⟨L - 1, by omega⟩
    rw [Nat.mul_comm, Nat.succ_mul]
    have : l * 1 ≤ l * ch := Nat.mul_le_mul_left _ hc
    omega
theorem fl_turn {M M' : List KV} {d : Str} (hn : 1 ≤ n ∧ n ≤ 16777215) (hd : d.length ≤ 65536) (hu : under (fpre n) M' = chunks (chunkOf m) (fpre n) d) (hr : rid (fpre n) M' = rid (fpre n) M)
    (hD : ∀ n : Nat, 1 ≤ n ∧ n ≤ 16777215 → under (fpre n) M = chunks (chunkOf m) (fpre n) (D n) ∧ (D n).length ≤ 65536) (hM : ∀ x ∈ M, ∃ n : Nat, (1 ≤ n ∧ n ≤ 16777215) ∧ hasP (fpre n) x.1 = true) :
    (∀ k : Nat, 1 ≤ k ∧ k ≤ 16777215 → under (fpre k) M' = chunks (chunkOf m) (fpre k) (setF D n d k) ∧ (setF D n d k).length ≤ 65536) ∧ ∀ x ∈ M', ∃ k : Nat, (1 ≤ k ∧ k ≤ 16777215) ∧ hasP (fpre k) x.1 = true := by
  refine ⟨fun k hk => ?_, fun x hx => ?_⟩
  · unfold setF
    split
    · rename_i h; subst h; exact ⟨hu, hd⟩
    · rename_i h
      have hne : fpre n ≠ fpre k := fun e => h (fpre_inj hn.2 hk.2 e).symm
      rw [← under_other (fpre_len _ _) hne, hr, under_other (fpre_len _ _) hne]
      exact hD k hk
  · cases hp : hasP (fpre n) x.1 with
    | true => exact ⟨n, hn, hp⟩
    | false =>
      have : x ∈ rid (fpre n) M' := List.mem_filter.2 ⟨hx, by simp [hp]⟩
      rw [hr] at this
      exact hM x (List.mem_filter.1 this).1
theorem fl_write (h : FlAt w F X t m D c) (hn : 1 ≤ n ∧ n ≤ 16777215) (hd : d.length ≤ 65536) (hroom : c + chunkN (chunkOf m) d.length ≤ 600 - (ownOf 600 m + 1)) :
    Calls Tryz.prog 16 #[.pointer (some ⟨t, 0, none⟩), .int .i64 n, .string ⟨d.toArray⟩] w (FlOut w F X t m (.int .i64 0) (setF D n d) (c + chunkN (chunkOf m) d.length)) := by
  obtain ⟨M, hk, hD, hM⟩ := h
  have hch := chunkOf_le hk.m12.1
  have hl : (under (fpre n) M).length ≤ 1000000 := by
    rw [(hD n hn).1, chunks_len]
    have := chunkN_le (L := (D n).length) hch.1
    have := (hD n hn).2
    omega
  refine (fwrite_ok hk hn hd (by have := chunkN_le (L := d.length) hch.1; omega) hroom hl).mono ?_
  rintro e w1 ⟨rfl, M', F', h1, h2, h3, h4, h5⟩
  exact ⟨rfl, F', ⟨M', h1, fl_turn hn hd h2 h3 hD hM⟩, h4, h5⟩
theorem fl_drop (h : FlAt w F X t m D c) (hn : 1 ≤ n ∧ n ≤ 16777215) :
    Calls Tryz.prog 20 #[.pointer (some ⟨t, 0, none⟩), .int .i64 n] w (FlOut w F X t m (.tuple #[.int .i64 (chunkN (chunkOf m) (D n).length : Nat), .int .i64 0]) (setF D n []) c) := by
  obtain ⟨M, hk, hD, hM⟩ := h
  have hch := chunkOf_le hk.m12.1
  have hle : (under (fpre n) M).length = chunkN (chunkOf m) (D n).length := by rw [(hD n hn).1, chunks_len]
  have hl : (under (fpre n) M).length ≤ 1000000 := by
    rw [hle]
    have := chunkN_le (L := (D n).length) hch.1
    have := (hD n hn).2
    omega
  have hdr := fdrop_ok (n := n) hk (by omega) hl
  rw [hle] at hdr
  refine hdr.mono ?_
  rintro e w1 ⟨rfl, F', h1, h4, h5⟩
  refine ⟨rfl, F', ⟨_, h1, fl_turn (d := []) hn (by simp) ?_ rid_rid hD hM⟩, h4, h5⟩
  rw [under_rid_self]
  have h0 : chunkN (chunkOf m) 0 = 0 := Nat.div_eq_of_lt (by omega)
  simp [chunks, h0]
theorem fl_read (h : FlAt w F X t m D c) (hn : 1 ≤ n ∧ n ≤ 16777215) (hs : s ≤ 65536) :
    Calls Tryz.prog 18 #[.pointer (some ⟨t, 0, none⟩), .int .i64 n, .int .i64 s] w (FlOut w F X t m (rdAns (D n) s) D c) := by
  obtain ⟨M, hk, hD, hM⟩ := h
  refine (fread_ok hk hn hs (hD n hn).2 (hD n hn).1).mono ?_
  rintro e w1 ⟨rfl, F', h1, h4, h5⟩
  exact ⟨rfl, F', ⟨M, h1, hD, hM⟩, h4, h5⟩
theorem fl_one (hM : ∀ x ∈ M, ∃ n : Nat, (1 ≤ n ∧ n ≤ 16777215) ∧ hasP (fpre n) x.1 = true) (hD : ∀ n : Nat, 1 ≤ n ∧ n ≤ 16777215 → under (fpre n) M = chunks (chunkOf m) (fpre n) (D n) ∧ (D n).length ≤ 65536) (h64 : 64 ≤ m) (hn : 1 ≤ n ∧ n ≤ 16777215) (h0 : ∀ k, k ≠ n → D k = []) : M = chunks (chunkOf m) (fpre n) (D n) := by
  rw [← (hD n hn).1]
  symm
  apply List.filter_eq_self.2
  intro x hx
  obtain ⟨k, hk, hp⟩ := hM x hx
  by_cases e : k = n
  · subst e; exact hp
  · have h1 := (hD k hk).1
    rw [h0 k e] at h1
    have hch := chunkOf_le h64
    have h2 : chunkN (chunkOf m) 0 = 0 := Nat.div_eq_of_lt (by omega)
    have h3 : under (fpre k) M = [] := by rw [h1]; simp [chunks, h2]
    have : x ∈ under (fpre k) M := List.mem_filter.2 ⟨hx, hp⟩
    rw [h3] at this
    cases this
theorem under_all : under [] M = M := List.filter_eq_self.2 fun x _ => hasP_nil _
end
end Go.Proofs.YtdipjakblaeekaaGreat
namespace Go.Proofs.YtdipjakblaeekaaGreat
open Go.RowKit Go.Proofs Go.Shelf
set_option maxRecDepth 20000
attribute [local go_sem] Oper.semAt_some
section
variable {w w' : World} {F G : Nat → Prop} {X : XC} {t m c n s : Nat}
theorem low_trans {w0 w1 w2 : World} {F F' : Nat → Prop} (h1 : Only NoB w0 w1) (hF : ∀ k, F k → w0.heap.size ≤ k) (h2 : Only F w1 w2) (hg : Grows F F' w1) : Only NoB w0 w2 ∧ ∀ k, F' k → w0.heap.size ≤ k :=
  ⟨h1.trans' h2 fun k hk hf => by have := hF k hf; omega, fun k hk => (hg k hk).elim (hF k) fun h => Nat.le_trans h1.size h⟩
set_option maxHeartbeats 2000000 in
theorem awake13_ok : Calls Tryz.prog 13 #[] w fun e w' => e = .returned (.bool true) ∧ Only NoB w w' := by
  have HC := Lib.hid (chunk_ok (m := 128) (w := w) (by omega) (by omega))
  have hc : chunkOf 128 = 18 := rfl
  rw [hc] at HC
  have HT := Lib.hid (open13_ok (m := 64) (w := w) (by omega) (by omega))
  go_enter Tryz.func13, Tryz.ntmps13
  go_wp2_with fail
  refine HC.out.mono ?_
  rintro e w1 ⟨rfl, rfl⟩
  go_wp2_with fail
  refine HT.out.mono ?_
  rintro e w1 ⟨t, F, X, rfl, hk, ho, hF⟩
  have HF := Lib.hid hF
  have HO := Lib.hid ho
  have HW := Lib.hid (fl_write (n := 1) (d := [97, 98, 99]) (fl_new hk) (by omega) (by simp) (by decide))
  clear hk ho hF
  go_wp2_with fail
  refine HW.out.mono ?_
  rintro e w2 ⟨rfl, F2, hk, ho, hg⟩
  have h2 := low_trans HO.out HF.out ho hg
  have HF := Lib.hid h2.2
  have HO := Lib.hid h2.1
  have HR := Lib.hid (fl_read (n := 1) (s := 3) hk (by omega) (by omega))
  clear hk ho hg h2
  go_wp2_with fail
  refine HR.out.mono ?_
  rintro e w3 ⟨rfl, F3, hk, ho, hg⟩
  have h2 := low_trans HO.out HF.out ho hg
  have HF := Lib.hid h2.2
  have HO := Lib.hid h2.1
  have HR := Lib.hid (fl_read (n := 1) (s := 2) hk (by omega) (by omega))
  clear hk ho hg h2
  have hv3 : rdAns (setF (fun _ => []) 1 [97, 98, 99] 1) 3 = .tuple #[.string ⟨#[97, 98, 99]⟩, .int .i64 0] := rfl
  rw [hv3]
  go_wp2_with fail
  refine HR.out.mono ?_
  rintro e w4 ⟨rfl, F4, hk, ho, hg⟩
  have h2 := low_trans HO.out HF.out ho hg
  have HF := Lib.hid h2.2
  have HO := Lib.hid h2.1
  have HR := Lib.hid (fl_drop (n := 1) hk (by omega))
  clear hk ho hg h2
  have hv2 : rdAns (setF (fun _ => []) 1 [97, 98, 99] 1) 2 = .tuple #[.string ⟨#[]⟩, .int .i64 4] := rfl
  rw [hv2]
  have hN : chunkN (chunkOf 64) (setF (fun _ => []) 1 [97, 98, 99] 1).length = 2 := by decide
  rw [hN] at HR
  go_wp2_with fail
  refine HR.out.mono ?_
  rintro e w5 ⟨rfl, F5, hk, ho, hg⟩
  have h2 := low_trans HO.out HF.out ho hg
  have HO := Lib.hid h2.1
  clear hk ho hg h2
  go_wp2_with fail
  go_ret
  exact ⟨rfl, HO.out⟩
end
end Go.Proofs.YtdipjakblaeekaaGreat
namespace Go.Proofs.YtdipjakblaeekaaGreat
open Go.RowKit Go.Proofs Go.Shelf
set_option maxRecDepth 20000
attribute [local go_sem] Oper.semAt_some
section
variable {w w' : World} {t m c : Nat}
theorem chunkN_up {ch L : Nat} (hc : 1 ≤ ch) : chunkN ch L ≤ L / ch + 1 := by
  unfold chunkN
  rw [← Nat.add_div_right _ (by omega : 0 < ch)]
  exact Nat.div_le_div_right (by omega)
theorem own600 (h : 64 ≤ m) : ownOf 600 m ≤ 3 := by
  unfold ownOf
  refine Nat.div_le_of_le_mul ?_
  omega
end
end Go.Proofs.YtdipjakblaeekaaGreat
namespace Go.Proofs.YtdipjakblaeekaaGreat
open Go.RowKit
set_option maxRecDepth 20000
structure Ap (w0 w : World) (F G : Nat → Prop) : Prop where
  only : Only NoB w0 w
  newF : ∀ k, F k → w0.heap.size ≤ k ∧ k < w.heap.size
  newG : ∀ k, G k → w0.heap.size ≤ k ∧ k < w.heap.size
  apart : ∀ k, F k → ¬ G k
section
variable {w0 w w' : World} {F F' G G' : Nat → Prop}
theorem Ap.swap (h : Ap w0 w F G) : Ap w0 w G F := ⟨h.only, h.newG, h.newF, fun k hg hf => h.apart k hf hg⟩
theorem Ap.left (h : Ap w0 w F G) (ho : Only F w w') (hg : Grows F F' w) (hl : ∀ k, F' k → k < w'.heap.size) : Ap w0 w' F' G :=
  ⟨h.only.trans' ho fun k hk hf => by have := (h.newF k hf).1; omega, fun k hk => ⟨(hg k hk).elim (fun h1 => (h.newF k h1).1) fun h1 => Nat.le_trans h.only.size h1, hl k hk⟩,
    fun k hk => ⟨(h.newG k hk).1, Nat.lt_of_lt_of_le (h.newG k hk).2 ho.size⟩, fun k hk hG => (hg k hk).elim (fun h1 => h.apart k h1 hG) fun h1 => by have := (h.newG k hG).2; omega⟩
theorem Ap.right (h : Ap w0 w F G) (ho : Only G w w') (hg : Grows G G' w) (hl : ∀ k, G' k → k < w'.heap.size) : Ap w0 w' F G' := (h.swap.left ho hg hl).swap
theorem Ap.quit (h : Ap w0 w F G) (ho : Only NoB w w') : Ap w0 w' F G :=
  ⟨h.only.trans ho, fun k hk => ⟨(h.newF k hk).1, Nat.lt_of_lt_of_le (h.newF k hk).2 ho.size⟩, fun k hk => ⟨(h.newG k hk).1, Nat.lt_of_lt_of_le (h.newG k hk).2 ho.size⟩, h.apart⟩
end
end Go.Proofs.YtdipjakblaeekaaGreat
namespace Go.Proofs.YtdipjakblaeekaaGreat
open Go.RowKit Go.Proofs
set_option maxRecDepth 20000
def RefF (w : World) (G : Nat → Prop) (x ch : Nat) (L : List Str) : Prop :=
  (∀ k, G k → k < w.heap.size) ∧ G x ∧ L.length ≤ 1000 ∧ ∃ lv, Blk w x 34 #[.int .i64 ch, lv] ∧ Own w (fun k => G k ∧ k ≠ x) 9 1 lv L.length (L.map strV)
def RefFO (w : World) (G : Nat → Prop) (x ch : Nat) (v : Value) (L' : List Str) (e : Ending) (w' : World) : Prop :=
  e = .returned v ∧ ∃ G', RefF w' G' x ch L' ∧ Only G w w' ∧ Grows G G' w
def numOk (n : Int) : Prop := 1 ≤ n ∧ n ≤ 16777215
instance (n : Int) : Decidable (numOk n) := inferInstanceAs (Decidable (_ ∧ _))
section
variable {w w' : World} {G S : Nat → Prop} {x ch : Nat} {L : List Str}
theorem RefF.only (h : RefF w G x ch L) (ho : Only S w w') (hd : ∀ k, G k → ¬ S k) : RefF w' G x ch L := by
  obtain ⟨h1, h2, h3, lv, hb, hown⟩ := h
  exact ⟨fun k hk => Nat.lt_of_lt_of_le (h1 k hk) ho.size, h2, h3, lv, hb.only ho (hd x h2), hown.only ho fun k hk => hd k hk.1⟩
theorem RefF.quit (h : RefF w G x ch L) (ho : Only NoB w w') : RefF w' G x ch L := h.only ho fun _ _ => id
end
end Go.Proofs.YtdipjakblaeekaaGreat
namespace Go.Proofs.YtdipjakblaeekaaGreat
open Go.RowKit Go.Proofs
set_option maxRecDepth 20000
section
variable {w w' : World} {G S : Nat → Prop} {x ch : Nat} {L : List Str}
theorem RefF.put {g c n : Nat} {d : Str} (h1 : ∀ k, G k → k < w.heap.size) (h2 : G x) (h3 : L.length ≤ 1000) (hb : Blk w x 34 #[.int .i64 ch, .slice (some ⟨g, 0, none⟩) L.length c]) (hown : Own w (fun k => G k ∧ k ≠ x) 9 1 (.slice (some ⟨g, 0, none⟩) L.length c) L.length (L.map strV)) (hn : n < L.length) :
    RefF (w.setCell ⟨g, n, none⟩ (.string ⟨d.toArray⟩)) G x ch (L.set n d) ∧ Only G w (w.setCell ⟨g, n, none⟩ (.string ⟨d.toArray⟩)) := by
  obtain ⟨g', c', cs, hve, _, hg, _, _, _, _, hset⟩ := hown.open_ (by omega)
  injection hve with e1 e2 e3
  injection e1 with e1
  injection e1 with e1
  subst e1; subst e3
  have hs := hset n (.string ⟨d.toArray⟩)
  refine ⟨⟨fun k hk => by rw [World.size_setCell]; exact h1 k hk, h2, by simpa using h3, _, (hb.far (p := ⟨g, n, none⟩) (fun e => hg.2 e.symm) _), ?_⟩, (Only.refl G w).setCell (p := ⟨g, n, none⟩) (.inl hg.1) _⟩
  rw [List.length_set, List.map_set]
  exact hs
end
end Go.Proofs.YtdipjakblaeekaaGreat
namespace Go.Proofs.YtdipjakblaeekaaGreat
open Go.RowKit Go.Proofs Go.Shelf
set_option maxRecDepth 20000
attribute [local go_sem] Oper.semAt_some
section
variable {w w' : World} {G S : Nat → Prop} {x ch : Nat} {L : List Str}
theorem RefF.same {v : Value} (h : RefF w G x ch L) (ho : Only NoB w w') : RefFO w G x ch v L (.returned v) w' := ⟨rfl, G, h.quit ho, ho.mono fun _ _ h => h.elim, Grows.refl _ _⟩
end
end Go.Proofs.YtdipjakblaeekaaGreat
namespace Go.Proofs.YtdipjakblaeekaaGreat
open Go.RowKit Go.Proofs
set_option maxRecDepth 20000
structure OpS where
  a : Int
  b : Int
  c : Int
  s : Str
structure OpSIn (w : World) (g off : Nat) (o : OpS) : Prop where
  a : w.cell? ⟨g, off, none⟩ = some (.int .i64 o.a)
  b : w.cell? ⟨g, off + 1, none⟩ = some (.int .i64 o.b)
  c : w.cell? ⟨g, off + 2, none⟩ = some (.int .i64 o.c)
  s : w.cell? ⟨g, off + 3, none⟩ = some (.string ⟨o.s.toArray⟩)
def SOps (w : World) (F : Nat → Prop) (v : Value) (l : List OpS) : Prop :=
  ∃ A c, v = .slice A l.length c ∧ l.length ≤ c ∧ ∀ i (h : i < l.length), ∃ g off, A = some ⟨g, off, none⟩ ∧ F g ∧ OpSIn w g (off + i * 4) l[i]
theorem OpSIn.only {w w' : World} {G : Nat → Prop} {g off : Nat} {o : OpS} (h : OpSIn w g off o) (ho : Only G w w') (hd : ¬ G g) : OpSIn w' g off o :=
  ⟨ho.cell h.a hd, ho.cell h.b hd, ho.cell h.c hd, ho.cell h.s hd⟩
theorem SOps.only {w w' : World} {F G : Nat → Prop} {v : Value} {l : List OpS} (h : SOps w F v l) (ho : Only G w w') (hd : ∀ k, F k → ¬ G k) : SOps w' F v l := by
  obtain ⟨A, c, hv, hc, h⟩ := h
  refine ⟨A, c, hv, hc, fun i hi => ?_⟩
  obtain ⟨g, off, hA, hg, ho1⟩ := h i hi
  exact ⟨g, off, hA, hg, ho1.only ho (hd g hg)⟩
theorem SOps.open_ {w : World} {F : Nat → Prop} {v : Value} {l : List OpS} (h : SOps w F v l) {i : Nat} (hi : i < l.length) : ∃ g off c, v = .slice (some ⟨g, off, none⟩) l.length c ∧ l.length ≤ c ∧ F g ∧ OpSIn w g (off + i * 4) l[i] := by
  obtain ⟨A, c, hv, hc, h⟩ := h
  obtain ⟨g, off, hA, hg, ho⟩ := h i hi
  exact ⟨g, off, c, by rw [hv, hA], hc, hg, ho⟩
theorem SOps.shape {w : World} {F : Nat → Prop} {v : Value} {l : List OpS} (h : SOps w F v l) : ∃ A c, v = .slice A l.length c ∧ l.length ≤ c := by
  obtain ⟨A, c, hv, hc, _⟩ := h
  exact ⟨A, c, hv, hc⟩
end Go.Proofs.YtdipjakblaeekaaGreat
namespace Go.Proofs.YtdipjakblaeekaaGreat
open Go.RowKit
set_option maxRecDepth 20000
section
variable {P : Program} {ops : Array Oper} {Q : Exit → Act → World → Prop} {S : World → Prop} {fuel : Nat} {listed : Array Bool} {a a' : Act} {w : World}
theorem hT (i d : Nat) {v : Value} (h : wpAnyH P .any ops Q S fuel (listed.setIfInBounds i true) a' w) (hS : S w := by assumption) (hd : (ops[i]?).map (·.dst) = some (some d) := by kernel_rfl) (hs : Region.noSelect ops = true := by kernel_rfl) (hf : Region.free .any ops listed i = true := by kernel_rfl) (hr : (Region.ready .any ops listed).contains i = true := by kernel_rfl)
    (hw : (ops[i]?).map (fun o => Region.wanted o (yielded ops a.tmps)) = some true := by kernel_rfl) (hQ : ∀ c (a : Act) (d : Option Tmp) (v : Value) w, Q (.panic c) (a.put d v) w → Q (.panic c) a w := by exact fun _ _ _ _ _ h => h)
    (hy : ∀ o, ops[i]? = some o → ∀ w, S w → (execOp a.eval o).run P w = .ok (.value v) w := by (intro o ho w' hSw; cases ho; (try dsimp only at hSw); go_simp; try with_reducible rfl))
    (hp : a.put (some d) v = a' := by ((try simp only [Act.put, List.setIfInBounds_toArray, List.set_cons_zero, List.set_cons_succ]); exact rfl)) : wpAnyH P .any ops Q S (fuel + 1) listed a w :=
  held_take hd hs hf hr rfl hw hQ hS hy (hp ▸ h)
theorem hV (i d : Nat) (v : Value) (h : wpAnyH P .any ops Q S fuel (listed.setIfInBounds i true) a' w) (hS : S w := by assumption) (hd : (ops[i]?).map (·.dst) = some (some d) := by kernel_rfl) (hs : Region.noSelect ops = true := by kernel_rfl) (hf : Region.free .any ops listed i = true := by kernel_rfl) (hr : (Region.ready .any ops listed).contains i = true := by kernel_rfl)
    (hw : (ops[i]?).map (fun o => Region.wanted o (yielded ops a.tmps)) = some true := by kernel_rfl) (hQ : ∀ c (a : Act) (d : Option Tmp) (v : Value) w, Q (.panic c) (a.put d v) w → Q (.panic c) a w := by exact fun _ _ _ _ _ h => h)
    (hy : ∀ o, ops[i]? = some o → ∀ w, S w → (execOp a.eval o).run P w = .ok (.value v) w := by (intro o ho w' hSw; cases ho; (try dsimp only at hSw); go_simp; first | done | with_reducible rfl | simp [*]))
    (hp : a.put (some d) v = a' := by ((try simp only [Act.put, List.setIfInBounds_toArray, List.set_cons_zero, List.set_cons_succ]); exact rfl)) : wpAnyH P .any ops Q S (fuel + 1) listed a w :=
  held_take hd hs hf hr rfl hw hQ hS hy (hp ▸ h)
theorem hK (i d : Nat) (h : wpAnyH P .any ops Q S fuel (listed.setIfInBounds i true) a' w) (hS : S w := by assumption) (hd : (ops[i]?).map (·.dst) = some (some d) := by kernel_rfl) (hs : Region.noSelect ops = true := by kernel_rfl) (hf : Region.free .any ops listed i = true := by kernel_rfl) (hr : (Region.ready .any ops listed).contains i = true := by kernel_rfl)
    (hw : (ops[i]?).map (fun o => Region.wanted o (yielded ops a.tmps)) = some false := by kernel_rfl) (hQ : ∀ c (a : Act) (d : Option Tmp) (v : Value) w, Q (.panic c) (a.put d v) w → Q (.panic c) a w := by exact fun _ _ _ _ _ h => h)
    (hp : a.put (some d) undef = a' := by ((try simp only [Act.put, List.setIfInBounds_toArray, List.set_cons_zero, List.set_cons_succ]); exact rfl)) : wpAnyH P .any ops Q S (fuel + 1) listed a w :=
  held_skip hd hs hf hr rfl hw hQ hS (hp ▸ h)
theorem hE (i : Nat) (h : ∀ o, ops[i]? = some o → ∀ K : Act → World → Prop, Shut (∀ a w, S w → (S w → wpAnyH P .any ops Q S fuel (listed.setIfInBounds i true) a w) → K a w) → Oper.wp P o a w K Q)
    (hr : Region.ready .any ops listed = [i] := by kernel_rfl) (hw : (ops[i]?).map (fun o => Region.wanted o (yielded ops a.tmps)) = some true := by kernel_rfl) : wpAnyH P .any ops Q S (fuel + 1) listed a w := held_step hr rfl hw h
theorem hB (id n : Nat) (S : World → Prop) (hS : S w.drew) (h : S w.drew → wpAnyH P .any ops (NoPanic Q) S n (Array.replicate n false) a w.drew) (hm : P.follows .mixedOrders = true := by kernel_rfl) (hn : ops.size = n := by kernel_rfl) : (Code.region id ops true).wp P Q a w :=
  wp_region_noPanic (held_start hm hn rfl hS h)
end
end Go.Proofs.YtdipjakblaeekaaGreat
