import Derived.Test.YtpjfheadolphgaaGreatMh4
import Derived.RangeFuncNested
import Derived.RangeFuncCalls
import Derived.RangeFuncLeaves
import Derived.Shelf.Abstract
import Derived.Shelf.RegionOpen
import Derived.OwnWalkIn
import Derived.TacticsInMore
import Derived.LoopNIn
import Derived.LoopIn
import Derived.Sort.LoopGhostIn
import Derived.Lib.BufferRead
import Derived.Lib.ConvBytes
import Derived.Test.YtpjfheadolphgaaGreatProg
import Derived.Laws.Externs
import Derived.Laws.RangeString
import Derived.Laws.RangeAny
import Derived.Lib.DecodeN
import Derived.Deep.LoopGhost
import Derived.WalkMore
import Derived.Lib.AsciiSet
import Derived.Lib.TrimUEq
import Derived.Deep.WholeRow
set_option linter.unusedVariables false
set_option linter.unusedSimpArgs false
namespace Go.Proofs.YtpjfheadolphgaaGreat
open Go.RowKit Go.Proofs
set_option maxRecDepth 20000
section
variable {w w' : World} {F G N K : Nat → Prop} {X : XC} {t x p q r c h m k i j o : Nat} {D D' : PD} {v pv kv cv pv' kv' cv' : Value} {M ps ps' : List KV} {key va : Str} {ks ks' : List Str} {cs cs' : List Nat} {hi : Option Str} {e y z : Ent} {n n' a b na nb : NodeD} {ys zs f1 f2 : List Ent}
theorem mend_short (h : TreeAt w F X x t D) (hB : Blk w o 200 #[.bool n.leaf, pv, kv, cv]) (hn : NodeO w N pv kv cv n) (hN : ∀ k, N k → ¬ F k ∧ k ≠ o ∧ k ≠ x) (ho : ¬ F o) (hl : n.children.length < 2) :
  Calls Tryz.prog 291 #[.pointer (some ⟨x, 0, none⟩), .pointer (some ⟨o, 0, none⟩), .int .i64 i] w (EditOut w F N X x t o D n) := by
 obtain ⟨pA, pc, kA, kc, cA, cc, rfl, rfl, rfl⟩ := hn.r.shape
 have c3 : w.cell? _ = some _ := hB.cell 3
 have hlt : ((n.children.length : Int) < 2) := by omega
 have HE : Hid (EditOut w F N X x t o D n (.returned (.int .i64 0)) w) := Lib.hid
  ⟨rfl, F, N, _, _, _, h, hB, hn.r, fun k hk => ⟨(hN k hk).1, .inl hk⟩, ho, Only.refl _ _, Grows.refl F w⟩
 clear h hB hn hN ho hl
 go_enter Tryz.func291, Tryz.ntmps291
 go_wp2_with fail
 go_ret
 exact HE.out
def ThinD (D : PD) (n : NodeD) (j p q : Nat) (key : Str) (na nb : NodeD) (D' : PD) (n' : NodeD) : Prop :=
 (D' = D ∧ n' = n) ∨ (2 ≤ n.children.length ∧ D' = mendD D p q key na nb ∧ n' = mendN D n j key na nb)
def ThinOut (w : World) (F N : Nat → Prop) (X : XC) (x t o : Nat) (D : PD) (n : NodeD) (j p q : Nat) (key : Str) (na nb : NodeD) (en : Ending) (w' : World) : Prop := ∃ D' n', ThinD D n j p q key na nb D' n' ∧ EditOut w F N X x t o D' n' en w'
set_option maxHeartbeats 2000000 in
theorem thin_ok {p1 q1 : Nat} {n1 n2 : NodeD} (h : TreeAt w F X x t D) (hB : Blk w o 200 #[.bool n.leaf, pv, kv, cv]) (hn : NodeO w N pv kv cv n) (hN : ∀ k, N k → ¬ F k ∧ k ≠ o ∧ k ≠ x) (ho : ¬ F o) (hox : x ≠ o)
  (hc : n.children[i]? = some p) (hp : D.is p = true ∧ D.used p = true ∧ D.page p = na.bytes D.m ∧ na.Ok D.m ∧ (na.leaf = true → na.pairs ≠ []))
  (hM : 2 ≤ n.children.length → MendAt D n j p1 q1 key n1 n2 ∧ j = if i + 2 ≤ n.children.length then i else n.children.length - 2) :
  Calls Tryz.prog 233 #[.pointer (some ⟨x, 0, none⟩), .pointer (some ⟨o, 0, none⟩), .int .i64 i] w (ThinOut w F N X x t o D n j p1 q1 key n1 n2) := by
 obtain ⟨pA, pc, kA, kc, cA, cc, rfl, rfl, rfl⟩ := hn.r.shape
 have hil := (List.getElem?_eq_some_iff.1 hc).1
 have c3 : w.cell? _ = some _ := hB.cell 3
 obtain ⟨g, off, c', hve, _, _, hcell⟩ := hn.kids.rd.open_ (by show 0 < n.children.length * 1; omega)
 injection hve with q1 q2 q3
 subst q1; subst q3
 have e1 := hcell i (natV p) (by rw [List.getElem?_map, hc]; rfl)
 unfold natV at e1
 have hi0 : (0 : Int) ≤ (i : Int) := by omega
 have hi1 : (i : Int) < (n.children.length : Int) := by omega
 have HL := Lib.hid (load_ok h hp.1 hp.2.1 hp.2.2.1 hp.2.2.2.1 hp.2.2.2.2)
 have H := Lib.hid h
 have HB := Lib.hid hB
 have HN := Lib.hid hn
 have HNF := Lib.hid hN
 have HOF := Lib.hid ho
 have HOX := Lib.hid hox
 have HP := Lib.hid hp
 have HM := Lib.hid hM
 clear h hB hn hN ho hox hc hp hM hcell q2
 go_enter Tryz.func233, Tryz.ntmps233
 go_wp2_with fail
 refine HL.out.mono ?_
 rintro ee w5 ⟨pv1, kv1, cv1, rfl, hn1, hx5, ho5⟩
 obtain ⟨pA1, pc1, kA1, kc1, cA1, cc1, rfl, rfl, rfl⟩ := hn1.r.shape
 obtain ⟨W5, hW5⟩ : ∃ W5, W5 = w5.alloc (.cells #[.bool na.leaf, .slice pA1 na.pairs.length pc1, .slice kA1 na.keys.length kc1, .slice cA1 na.children.length cc1] 200) := ⟨_, rfl⟩
 have hq5 : Only NoB w5 W5 := by rw [hW5]; exact (Only.refl NoB w5).alloc _
 have hB5 : Blk W5 w5.heap.size 200 #[.bool na.leaf, .slice pA1 na.pairs.length pc1, .slice kA1 na.keys.length kc1, .slice cA1 na.children.length cc1] := by rw [hW5]; exact Blk.new w5 _ _
 have hdv : (D.m : Int).tdiv 2 = ((D.m / 2 : Nat) : Int) := by rw [Int.tdiv_eq_ediv_of_nonneg (by omega)]; omega
 have hx5' := hx5.quit hq5
 have hwv : IntKind.i64.wrap ((D.m : Int) / 2) = (D.m : Int) / 2 := by rw [IntKind.wrap_i64]; have := hx5'.mle; omega
 have HSZ := Lib.hid (nsize_any ((hn1.r.quit hq5).quit (Only.refl NoB W5).drew) (by have := HP.out.2.2.2.1.size; have := hx5.mle; omega))
 have j0 : W5.cell? _ = some _ := hB5.cell 0
 have j1 : W5.cell? _ = some _ := hB5.cell 1
 have j2 : W5.cell? _ = some _ := hB5.cell 2
 have j3 : W5.cell? _ = some _ := hB5.cell 3
 have x1 : W5.cell? _ = some _ := hx5'.blk.cell 1
 have HX5 := Lib.hid hx5'
 have HALL : Hid (Only F w W5) := Lib.hid (ho5.trans (hq5.mono fun _ _ h => h.elim))
 have HW5 := Lib.hid hW5
 unfold nodeV at HSZ
 clear hn1 hx5 hx5' ho5 hq5 hB5 hW5 e1 c3
 unfold nodeV
 go_upto_region 2 with fail
 rw [← HW5.out]
 refine _root_.Go.Proofs.YtpjfheadolphgaaGreat.hB _ 12 (fun w' => (w'.cell? ⟨w5.heap.size, 0, none⟩ = some (.bool na.leaf) ∧ w'.cell? ⟨w5.heap.size, 1, none⟩ = some (.slice pA1 na.pairs.length pc1) ∧ w'.cell? ⟨w5.heap.size, 2, none⟩ = some (.slice kA1 na.keys.length kc1) ∧ w'.cell? ⟨w5.heap.size, 3, none⟩ = some (.slice cA1 na.children.length cc1)) ∧ w'.cell? ⟨x, 1, none⟩ = some (.int .i64 D.m)) (⟨⟨j0, j1, j2, j3⟩, x1⟩) (fun hHeld => ?_)
 refine hT 0 21 ?_
 refine hV 1 22 ((.bool false)) ?_
 refine hV 2 23 ((.bool false)) ?_
 refine hT 3 24 ?_
 refine hT 5 26 ?_
 refine hT 6 27 ?_
 refine hT 7 28 ?_
 refine hT 8 29 ?_
 refine hT 9 30 ?_
 refine hE 4 (fun o ho K hK => ?_)
 cases ho
 go_simp
 refine HSZ.out.mono ?_
 rintro e4 z4 ⟨rfl, hq4⟩
 have hq4 : Only NoB W5 z4 := (Only.refl NoB W5).drew.trans hq4
 refine hK.out _ _ (⟨⟨hq4.cell j0 id, hq4.cell j1 id, hq4.cell j2 id, hq4.cell j3 id⟩, hq4.cell x1 id⟩) (fun hHeld => ?_)
 clear hK K
 try simp only [Act.put, List.setIfInBounds_toArray, List.set_cons_zero, List.set_cons_succ]
 refine hT 10 31 ?_
 refine hT 11 32 ?_
 refine wpAnyH_done (by kernel_rfl) ?_ _
 refine NoPanic.normal ?_
 have hon : Only F w z4 := HALL.out.trans (hq4.mono fun _ _ h => h.elim)
 have hbo := HB.out.only hon HOF.out
 have hno := HN.out.only hon fun k hk => (HNF.out k hk).1
 have hx := HX5.out.quit hq4
 have HON := Lib.hid hon
 have HBO := Lib.hid hbo
 have HNO := Lib.hid hno
 have HXZ := Lib.hid hx
 have hgrow : ∀ (D' : PD) (n' : NodeD) (e : Ending) (w' : World), EditOut z4 F N X x t o D' n' e w' → EditOut w F N X x t o D' n' e w' := by
  rintro D' n' e w' ⟨he, F', N', pv, kv, cv, h1, h2, h3, h4, h5, h6, h7⟩
  have hs := HON.out.size
  exact ⟨he, F', N', pv, kv, cv, h1, h2, h3, fun k hk => ⟨(h4 k hk).1, (h4 k hk).2.imp id fun h => by omega⟩, h5, (HON.out.mono fun k _ hk => .inl hk).trans h6, fun k hk => (h7 k hk).imp id fun h => by omega⟩
 have HGROW := Lib.hid hgrow
 clear hwv hdv hon hbo hno hx hgrow hHeld hq4 j0 j1 j2 j3 x1
 by_cases hbig : D.m / 2 ≤ na.size
 ·have HE : Hid (ThinOut w F N X x t o D n j p1 q1 key n1 n2 (.returned (.int .i64 0)) z4) := Lib.hid ⟨D, n, .inl ⟨rfl, rfl⟩, HGROW.out _ _ _ _
   ⟨rfl, F, N, _, _, _, HXZ.out, HBO.out, HNO.out.r, fun k hk => ⟨(HNF.out k hk).1, .inl hk⟩, HOF.out, Only.refl _ _, Grows.refl F z4⟩⟩
  have hbi : (D.m : Int) / 2 ≤ (na.size : Int) := by omega
  clear hbig
  go_wp2_with fail
  go_ret
  exact HE.out
 ·have hme : Calls Tryz.prog 291 #[.pointer (some ⟨x, 0, none⟩), .pointer (some ⟨o, 0, none⟩), .int .i64 i] z4 (ThinOut w F N X x t o D n j p1 q1 key n1 n2) := by
   by_cases hl : 2 ≤ n.children.length
   ·obtain ⟨hM, hj⟩ := HM.out hl
    exact (mend_ok HXZ.out HBO.out HNO.out HNF.out HOF.out HOX.out hM hj).mono fun e w' he => ⟨_, _, .inr ⟨hl, rfl, rfl⟩, HGROW.out _ _ _ _ he⟩
   ·exact (mend_short HXZ.out HBO.out HNO.out HNF.out HOF.out (by omega)).mono fun e w' he => ⟨D, n, .inl ⟨rfl, rfl⟩, HGROW.out _ _ _ _ he⟩
  have HME := Lib.hid hme
  have hbi : ¬ (D.m : Int) / 2 ≤ (na.size : Int) := by omega
  clear hme hbig
  go_wp2_with fail
  refine HME.out.mono ?_
  rintro e w' he
  have he1 : e = .returned (.int .i64 0) := by obtain ⟨_, _, _, h, _⟩ := he; exact h
  subst he1
  have HE := Lib.hid he
  clear he
  go_wp2_with fail
  go_ret
  exact HE.out
set_option maxHeartbeats 4000000 in
theorem gone_ok (h : TreeAt w F X x t D) (hB : Blk w o 200 #[.bool n.leaf, pv, kv, cv]) (hn : NodeO w N pv kv cv n) (hN : ∀ k, N k → ¬ F k ∧ k ≠ o ∧ k ≠ x) (ho : ¬ F o) (hox : x ≠ o)
  (hc : n.children[i]? = some p) (hp : D.is p = true ∧ D.used p = true) (hrt : p ≠ D.root) (hl : n.leaf = false) (hnp : n.pairs = []) (hlen : n.children.length = n.keys.length + 1 ∧ n.children.length ≤ 4096) :
  Calls Tryz.prog 232 #[.pointer (some ⟨x, 0, none⟩), .pointer (some ⟨o, 0, none⟩), .int .i64 i] w (EditOut w F N X x t o (PD.turn p false D) ⟨false, [], if n.keys = [] then [] else delAt n.keys (i - 1), delAt n.children i⟩) := by
 obtain ⟨l, ps, ks, cs⟩ := n
 simp only at hc hl hnp hlen hB ⊢
 subst hl; subst hnp
 obtain ⟨pA, pc, kA, kc, cA, cc, rfl, rfl, rfl⟩ := hn.r.shape
 simp only at hn hB
 have hil := (List.getElem?_eq_some_iff.1 hc).1
 have hcb := hlen.2
 have c3 : w.cell? _ = some _ := hB.cell 3
 have x0 : w.cell? _ = some _ := h.blk.cell 0
 obtain ⟨g, off, c', hve, _, hNg, hcell⟩ := hn.kids.rd.open_ (by show 0 < cs.length * 1; omega)
 injection hve with q1 q2 q3
 subst q1; subst q3
 have e1 := hcell i (natV p) (by rw [List.getElem?_map, hc]; rfl)
 unfold natV at e1
 have hi0 : (0 : Int) ≤ (i : Int) := by omega
 have hi1 : (i : Int) < (cs.length : Int) := by omega
 have HGV := Lib.hid (give_any (h.quit (Only.refl NoB w).drew).tx hp.1 hp.2 hrt)
 have H := Lib.hid h
 have HB := Lib.hid hB
 have HN := Lib.hid hn
 have HNF := Lib.hid hN
 have HOF := Lib.hid ho
 have HOX := Lib.hid hox
 have HLEN := Lib.hid hlen.1
 obtain ⟨nk, hnk⟩ : ∃ l, l = if ks = [] then [] else delAt ks (i - 1) := ⟨_, rfl⟩
 rw [← hnk]
 have HNK := Lib.hid hnk
 clear hnk
 have HGF : Hid (¬ F g) := Lib.hid (hN g hNg).1
 clear h hB hn hN ho hox hc hp hrt hlen hcell q2 hNg
 go_enter Tryz.func232, Tryz.ntmps232
 go_wp2_with fail
 refine _root_.Go.Proofs.YtpjfheadolphgaaGreat.hB _ 13 (fun w' => w'.cell? ⟨x, 0, none⟩ = some (.pointer (some ⟨t, 0, none⟩)) ∧ w'.cell? ⟨o, 3, none⟩ = some (.slice (some ⟨g, off, none⟩) cs.length cc) ∧ w'.cell? ⟨g, off + i, none⟩ = some (.int .i64 p)) (⟨x0, c3, e1⟩) (fun hHeld => ?_)
 refine hT 0 9 ?_
 refine hT 1 10 ?_
 refine hT 2 11 ?_
 refine hT 3 12 ?_
 refine hT 4 13 ?_
 refine hT 5 14 ?_
 refine hT 6 15 ?_
 refine hT 7 16 ?_
 refine hT 8 17 ?_
 refine hT 9 18 ?_
 refine hT 10 19 ?_
 refine hE 11 (fun o ho K hK => ?_)
 cases ho
 go_simp
 refine HGV.out.mono ?_
 rintro e1 z1 ⟨rfl, F1, ht1, ho1, hg1⟩
 have hx1 := (H.out.quit (Only.refl NoB w).drew).deed (D' := PD.turn p false D) rfl ht1 ho1 hg1
 have ho1 : Only F w z1 := ((Only.refl NoB w).drew.mono fun _ _ h => h.elim).trans ho1
 have hg1 : Grows F F1 w := hg1
 refine hK.out _ _ (⟨ho1.cell x0 H.out.out, ho1.cell c3 HOF.out, ho1.cell e1 HGF.out⟩) (fun hHeld => ?_)
 clear hK K
 try simp only [Act.put, List.setIfInBounds_toArray, List.set_cons_zero, List.set_cons_succ]
 refine hT 12 7 ?_
 refine wpAnyH_done (by kernel_rfl) ?_ _
 refine NoPanic.normal ?_
 have hbo := HB.out.only ho1 HOF.out
 have hk1 : Own z1 (fun k => N k ∧ k < w.heap.size) 9 1 (.slice kA ks.length kc) ks.length (ks.map strV) := (HN.out.keys.mono fun k h1 h2 => ⟨h1, h2⟩).only ho1 fun k hk => (HNF.out k hk.1).1
 have hc1 : Own z1 (fun k => N k ∧ k < w.heap.size) 3 1 (.slice (some ⟨g, off, none⟩) cs.length cc) cs.length (cs.map natV) := (HN.out.kids.mono fun k h1 h2 => ⟨h1, h2⟩).only ho1 fun k hk => (HNF.out k hk.1).1
 have hdc := del_nat' hc1 hil (by omega)
 have hw1 : IntKind.i64.wrap ((i : Int) + 1) = (i : Int) + 1 := by rw [IntKind.wrap_i64]; omega
 have c3 : z1.cell? _ = some _ := hbo.cell 3
 have HDC := Lib.hid hdc
 have HBO := Lib.hid hbo
 have HK1 := Lib.hid hk1
 have HC1 := Lib.hid hc1
 have HO1 := Lib.hid ho1
 have HX1 := Lib.hid hx1
 have HG1 := Lib.hid hg1
 clear hdc hbo hk1 hc1 ho1 hx1 hg1 hHeld e1
 go_wp2_with fail
 refine HDC.out.mono ?_
 rintro e2 z2 ⟨v2, rfl, hown2, ho2⟩
 obtain ⟨A2, c2, rfl, _⟩ := hown2.shape
 have hkg : ∀ k, (Value.slice kA ks.length kc).ownBlock = some k → N k ∧ k < w.heap.size := HK1.out.2
 have hcg : ∀ k, (Value.slice (some ⟨g, off, none⟩) cs.length cc).ownBlock = some k → N k ∧ k < w.heap.size := HC1.out.2
 have hNo : ∀ k, N k → k ≠ o := fun k hk => (HNF.out k hk).2.1
 have hol : o < w.heap.size := HB.out.lt
 have hsz1 := HO1.out.size
 have hsz2 := ho2.size
 have hb2 := HBO.out.only ho2 fun he => hNo o (hcg o he).1 rfl
 have hb3 := hb2.set_ 3 (.slice A2 (cs.length - 1) c2)
 have hst : Only (fun k => k = o) z2 (z2.setCell ⟨o, 3, none⟩ (.slice A2 (cs.length - 1) c2)) := (Only.refl (fun k => k = o) z2).setCell (p := ⟨o, 3, none⟩) (.inl rfl) (.slice A2 (cs.length - 1) c2)
 have hap := HN.out.apart
 have hk2 := HK1.out.keep (w' := z2) fun k hk => ho2.block k (HK1.out.lt hk) fun he => hap k hk he
 have hk3 := hk2.only hst fun k hk he => hNo k hk.1 he
 have hc3 := hown2.only hst fun k hk he => by
  have he : k = o := he
  rcases hk with hk | hk
  ·exact hNo k (hcg k hk).1 he
  ·omega
 have hs3 : Only (fun k => k = o ∨ (N k ∧ k < w.heap.size)) z1 _ := (ho2.mono fun k _ hk => .inr (hcg k hk)).trans (hst.mono fun k _ hk => .inl hk)
 obtain ⟨Z, hZ⟩ : ∃ Z, Z = z2.setCell ⟨o, 3, none⟩ (.slice A2 (cs.length - 1) c2) := ⟨_, rfl⟩
 have c3 : z2.cell? _ = some _ := hb2.cell 3
 have p3 := hb2.frozen 3
 have n2 := hb3.cell 2
 have HZ := Lib.hid hZ
 rw [← hZ] at hb3 hk3 hc3 hs3
 have HB3 := Lib.hid hb3
 have HK3 := Lib.hid hk3
 have HC3 := Lib.hid hc3
 have HS3 := Lib.hid hs3
 have HFS : Hid (∀ k, (fun k => k = o ∨ (N k ∧ k < w.heap.size)) k → ∀ F', Grows F F' w → ¬ F' k) := Lib.hid fun k hk F' hg hf => by
  rcases hg k hf with h1 | h1
  ·rcases hk with rfl | hk
   ·exact HOF.out h1
   ·exact (HNF.out k hk.1).1 h1
  ·rcases hk with rfl | hk <;> omega
 have HX3 := Lib.hid (HX1.out.far hs3 (fun k hf hk => HFS.out k hk _ HG1.out hf) fun hx => by
  rcases hx with hx | hx
  ·exact HOX.out hx
  ·exact (HNF.out x hx.1).2.2 rfl)
 have HCR : Hid (Rd Z (fun k => (N k ∧ k < w.heap.size) ∨ (z1.heap.size ≤ k ∧ k < Z.heap.size)) 1 (.slice A2 (cs.length - 1) c2) (cs.length - 1) ((delAt cs i).map natV)) := Lib.hid
  (hc3.rd.mono fun k hk hl => hk.imp (fun hk => hcg k hk) fun hk => ⟨hk, hl⟩)
 have HIL := Lib.hid hil
 have HPZ : Hid (Rd w N 2 (.slice pA 0 pc) 0 []) := Lib.hid HN.out.pairs.rd
 have HCS : Hid (∀ k, (Value.slice A2 (cs.length - 1) c2).ownBlock = some k → (N k ∧ k < w.heap.size ∧ (Value.slice (some ⟨g, off, none⟩) cs.length cc).ownBlock = some k) ∨ z1.heap.size ≤ k) := Lib.hid fun k hk => (hown2.2 k hk).imp (fun h => ⟨(hcg k h).1, (hcg k h).2, h⟩) id
 by_cases hks : ks = []
 ·subst hks
  have HE : Hid (EditOut w F N X x t o (PD.turn p false D) ⟨false, [], nk, delAt cs i⟩ (.returned (.int .i64 0)) Z) := Lib.hid (by
   rw [HNK.out, if_pos rfl]
   have hkz : Rd z1 _ 1 (.slice kA 0 kc) 0 [] := HK1.out.rd
   refine ⟨rfl, _, (fun k => (N k ∧ k < w.heap.size) ∨ (z1.heap.size ≤ k ∧ k < Z.heap.size)), _, _, _, HX3.out, HB3.out, ⟨HPZ.out.zero, hkz.zero, by show Rd _ _ 1 _ (delAt cs i).length _; rw [delAt_len HIL.out]; exact HCR.out⟩, fun k hk => ⟨fun hf => ?_, hk.imp (·.1) fun hk => by omega⟩, HFS.out o (.inl rfl) _ HG1.out,
    (HO1.out.mono fun k _ hk => .inl hk).trans (HS3.out.mono fun k _ hk => hk.elim (fun h => .inr (.inl h)) fun h => .inr (.inr h.1)), HG1.out⟩
   rcases hk with hk | hk
   ·exact HFS.out k (.inr hk) _ HG1.out hf
   ·have := HX1.out.tx.1 k hf; omega)
  clear hkg hcg hNo hol hsz1 hsz2 hb2 hb3 hst hap hk2 hk3 hc3 hs3 hZ hown2 ho2 hil
  go_wp2_with fail
  rw [← HZ.out]
  go_ret
  exact HE.out
 ·have hkl : 0 < ks.length := List.length_pos_iff.2 hks
  have hklc : ks.length ≤ 4096 := by have := HLEN.out; omega
  obtain ⟨i1, hi1e⟩ : ∃ i1, i1 = i - 1 := ⟨_, rfl⟩
  have him : i1 < ks.length := by have := HLEN.out; omega
  have hdk := del_str' HK3.out him (by omega)
  have hw2 : IntKind.i64.wrap ((i1 : Int) + 1) = (i1 : Int) + 1 := by rw [IntKind.wrap_i64]; omega
  have HI1E := Lib.hid hi1e
  have HDK := Lib.hid hdk
  have HKS := Lib.hid hks
  have hkp : (0 : Int) < (ks.length : Int) := by omega
  clear hkg hcg hNo hol hsz1 hsz2 hb2 hst hap hk2 hk3 hc3 hs3 hZ hown2 ho2 hil hks hdk hb3 hi1e
  go_upto_region 6 with fail
  rw [← HZ.out]
  go_cut [8] (fun s8 wc => s8 = .int .i64 (i1 : Int) ∧ Z = wc)
  case first =>
   by_cases hi : i = 0
   ·have h0 : i1 = 0 := by have := HI1E.out; omega
    subst hi; subst h0
    go_wp2_with fail
    go_meet
    all_goals exact ⟨rfl, rfl⟩
   ·have hi2 : (0 : Int) ≤ (i : Int) - 1 := by omega
    have hi3 : (i1 : Int) = (i : Int) - 1 := by have := HI1E.out; omega
    have HI3 := Lib.hid hi3
    clear hi3
    go_wp2_with fail
    go_meet
    exact ⟨by rw [HI3.out], rfl⟩
  case rest =>
   obtain ⟨rfl, hwc⟩ := hcut
   subst hwc
   have c2 : Z.cell? _ = some _ := HB3.out.cell 2
   clear c3 p3 n2 hkp
   go_wp2_with fail
   refine HDK.out.mono ?_
   rintro e4 z4 ⟨v4, rfl, hown4, ho4⟩
   obtain ⟨A4, c4, rfl, _⟩ := hown4.shape
   have hkg : ∀ k, (Value.slice kA ks.length kc).ownBlock = some k → N k ∧ k < w.heap.size := HK1.out.2
   have hNo : ∀ k, N k → k ≠ o := fun k hk => (HNF.out k hk).2.1
   have hol : o < w.heap.size := HB.out.lt
   have hsz1 := HO1.out.size
   have hszZ := HS3.out.size
   have hsz4 := ho4.size
   have hap := HN.out.apart
   have hb4 := HB3.out.only ho4 fun he => hNo o (hkg o he).1 rfl
   have hb5 := hb4.set_ 2 (.slice A4 (ks.length - 1) c4)
   have hst : Only (fun k => k = o) z4 (z4.setCell ⟨o, 2, none⟩ (.slice A4 (ks.length - 1) c4)) := (Only.refl (fun k => k = o) z4).setCell (p := ⟨o, 2, none⟩) (.inl rfl) (.slice A4 (ks.length - 1) c4)
   obtain ⟨Y, hY⟩ : ∃ Y, Y = z4.setCell ⟨o, 2, none⟩ (.slice A4 (ks.length - 1) c4) := ⟨_, rfl⟩
   have hk5 := hown4.only hst fun k hk he => by
    have he : k = o := he
    rcases hk with hk | hk
    ·exact hNo k (hkg k hk).1 he
    ·omega
   have hs5 : Only (fun k => k = o ∨ (N k ∧ k < w.heap.size)) z1 _ := HS3.out.trans ((ho4.mono fun k _ hk => .inr (hkg k hk)).trans (hst.mono fun k _ hk => .inl hk))
   have hc4 := HC3.out.keep (w' := z4) fun k hk => ho4.block k (HC3.out.lt hk) fun he => by
    rcases HCS.out k hk with h2 | h2
    ·exact hap k he h2.2.2
    ·have := (hkg k he).2; omega
   have hc5 := hc4.only hst fun k hk he => by
    have he : k = o := he
    rcases hk with hk | hk
    ·exact hNo k (HC1.out.2 k hk).1 he
    ·omega
   have hsY := hst.size
   have c2 : z4.cell? _ = some _ := hb4.cell 2
   have p2 := hb4.frozen 2
   rw [← hY] at hb5 hk5 hs5 hc5 hsY
   have HE : Hid (EditOut w F N X x t o (PD.turn p false D) ⟨false, [], nk, delAt cs i⟩ (.returned (.int .i64 0)) Y) := Lib.hid (by
    have hx5 := HX1.out.far hs5 (fun k hf hk => HFS.out k hk _ HG1.out hf) (fun hx => by
     rcases hx with hx | hx
     ·exact HOX.out hx
     ·exact (HNF.out x hx.1).2.2 rfl)
    rw [HNK.out, if_neg HKS.out, ← HI1E.out]
    refine ⟨rfl, _, (fun k => (N k ∧ k < w.heap.size) ∨ (z1.heap.size ≤ k ∧ k < Y.heap.size)), _, _, _, hx5, hb5, ⟨HPZ.out.zero, ?_, ?_⟩, fun k hk => ⟨fun hf => ?_, hk.imp (·.1) fun hk => by omega⟩, HFS.out o (.inl rfl) _ HG1.out,
     (HO1.out.mono fun k _ hk => .inl hk).trans (hs5.mono fun k _ hk => hk.elim (fun h => .inr (.inl h)) fun h => .inr (.inr h.1)), HG1.out⟩
    ·show Rd _ _ 1 _ (delAt ks i1).length _
     rw [delAt_len him]
     exact hk5.rd.mono fun k hk hl => hk.imp (fun hk => hkg k hk) fun hk => ⟨by omega, hl⟩
    ·show Rd _ _ 1 _ (delAt cs i).length _
     rw [delAt_len HIL.out]
     exact hc5.rd.mono fun k hk hl => hk.imp (fun hk => HC1.out.2 k hk) fun hk => ⟨hk, hl⟩
    ·rcases hk with hk | hk
     ·exact HFS.out k (.inr hk) _ HG1.out hf
     ·have := HX1.out.tx.1 k hf; omega)
   have HY := Lib.hid hY
   clear hkg hNo hol hsz1 hszZ hsz4 hap hb4 hb5 hst hY hk5 hs5 hc4 hc5 hsY hown4 ho4
   go_wp2_with fail
   rw [← HY.out]
   go_ret
   exact HE.out
end
end Go.Proofs.YtpjfheadolphgaaGreat
namespace Go.Proofs.YtpjfheadolphgaaGreat
open Go.RowKit Go.Proofs
set_option maxRecDepth 20000
section
variable {D D1 D' : PD} {h i : Nat} {hi : Option Str} {e x0 z : Ent} {es zs : List Ent} {n' : NodeD}
theorem mid_kids (hm : MidT D D1 h hi e.c (x0 :: es) (z :: zs)) : ∀ y ∈ z :: zs, y.c ∈ flatP (z :: zs) := fun y hy => by
 obtain ⟨S, hS⟩ : ∃ P, y.P = y.c :: P := by
  have hc := hm.chain
  obtain ⟨a, b, hab⟩ := List.append_of_mem hy
  rw [hab, chain_append] at hc
  exact sub_c hc.2.1
 exact List.mem_flatMap.2 ⟨y, hy, by rw [hS]; simp⟩
theorem mid_ok (hI : In D h e hi x0 es) (hm : MidT D D1 h hi e.c (x0 :: es) (z :: zs)) (hg : Good D) (hsz : (innerN (z :: zs)).size ≤ (innerN (x0 :: es)).size) (hk : ∀ y ∈ zs, KeyOk D.m y.lo) : (innerN (z :: zs)).Ok D1.m := by
 have hmm := hm.T.m
 have hh := hm.T.held
 have F := hm.chain.facts
 have hg1 := hg.same hmm hm.T.n
 have hsz1 := (inner_ok.1 hI.ok).1
 exact inner_ok.2 ⟨by rw [hmm]; omega, fun y hy => by rw [hmm]; exact hk y hy, fun y hy => hg1.kid (hh.is _ (List.mem_cons_of_mem _ (mid_kids hm y hy))), (List.pairwise_cons.1 F.los).2⟩
def NoRoot (D : PD) (e : Ent) : Prop := D.used D.root = true ∧ ∀ q ∈ e.P, q ≠ e.c → q ≠ D.root
theorem mid_root (hI : In D h e hi x0 es) (hm : MidT D D1 h hi e.c (x0 :: es) (z :: zs)) (hr : NoRoot D e) : ∀ q ∈ flatP (z :: zs), q ≠ D1.root := by
 intro q hq heq
 have hn := List.nodup_cons.1 hm.T.nodup
 rw [hm.T.root] at heq
 rcases hm.T.fresh q (List.mem_cons_of_mem _ hq) with h1 | h1
 ·exact hr.2 q (by rw [hI.P]; exact h1) (fun e' => hn.1 (e' ▸ hq)) heq
 ·rw [heq, hr.1] at h1; cases h1
theorem isNode_load {D : PD} {p : Ent} {na : NodeD} (hs : Sub D h p hi) (hn : IsNode D h p hi na) (hi1 : D.is p.c = true) (hu : D.used p.c = true) :
  D.is p.c = true ∧ D.used p.c = true ∧ D.page p.c = na.bytes D.m ∧ na.Ok D.m ∧ (na.leaf = true → na.pairs ≠ []) := ⟨hi1, hu, hn.1, hn.2.1, (isNode_leaf hs hn).2⟩
theorem thin_plain (hI : In D h e hi x0 es) (hg : Good D) (hm : MidT D D1 h hi e.c (x0 :: es) (z :: zs)) (hk : ∀ y ∈ zs, KeyOk D.m y.lo) (hr : NoRoot D e) (hil : i ≤ zs.length) (hok : (innerN (z :: zs)).Ok D1.m) :
  ∃ j p q key na nb, (2 ≤ (innerN (z :: zs)).children.length → MendAt D1 (innerN (z :: zs)) j p q key na nb ∧ j = if i + 2 ≤ (innerN (z :: zs)).children.length then i else (innerN (z :: zs)).children.length - 2) ∧
   ∀ D' n', ThinD D1 (innerN (z :: zs)) j p q key na nb D' n' → (D' = D1 ∧ n' = innerN (z :: zs)) ∨
    ∃ y ys, MidT D1 D' h hi e.c (z :: zs) (y :: ys) ∧ y.lo = z.lo ∧ (innerN (y :: ys)).size ≤ (innerN (z :: zs)).size ∧ (∀ x ∈ ys, KeyOk D1.m x.lo) ∧ sumW (y :: ys) ≤ sumW (z :: zs) ∧ flatM (y :: ys) = flatM (z :: zs) ∧ n' = innerN (y :: ys) ∧ ys.length + 1 = zs.length := by
 have hcl : (innerN (z :: zs)).children.length = zs.length + 1 := by simp [innerN]
 by_cases h2 : 2 ≤ zs.length + 1
 ·obtain ⟨j, hj⟩ : ∃ j, j = if i + 2 ≤ zs.length + 1 then i else zs.length + 1 - 2 := ⟨_, rfl⟩
  have hjl : j + 1 < (z :: zs).length := by rw [hj]; simp; split <;> omega
  have hmm := hm.T.m
  obtain ⟨f1, p, q, f2, heq, hf1⟩ : ∃ f1 p q f2, z :: zs = f1 ++ p :: q :: f2 ∧ f1.length = j := by
   refine ⟨(z :: zs).take j, (z :: zs)[j], (z :: zs)[j + 1], (z :: zs).drop (j + 2), ?_, by rw [List.length_take]; omega⟩
   rw [← List.drop_eq_getElem_cons hjl, ← List.drop_eq_getElem_cons (by omega), List.take_append_drop]
  have hc := hm.chain
  rw [heq, chain_append] at hc
  obtain ⟨hc1, hsp, hsq, hc2⟩ := hc
  obtain ⟨na, hna⟩ := sub_node hsp
  obtain ⟨nb, hnb⟩ := sub_node hsq
  have hpm : p ∈ z :: zs := by rw [heq]; simp
  have hqm : q ∈ z :: zs := by rw [heq]; simp
  have hpP := mid_kids hm p hpm
  have hqP := mid_kids hm q hqm
  have hh := hm.T.held
  have hkd : ∀ y ∈ zs, KeyOk D1.m y.lo := fun y hy => by rw [hmm]; exact hk y hy
  have hqz : q ∈ zs := by
   cases f1 with
   | nil => injection heq with _ h; rw [h]; simp
   | cons y f1 => injection heq with _ h; rw [h]; simp
  have hne : p.c ≠ q.c := by
   intro he
   have hnd := (List.nodup_cons.1 hh.nodup).2
   rw [heq, flatP_append, flatP_cons, flatP_cons] at hnd
   obtain ⟨Sp, hSp⟩ := sub_c hsp
   obtain ⟨Sq, hSq⟩ := sub_c hsq
   rw [hSp, hSq] at hnd
   have h1 := (List.nodup_append.1 hnd).2.1
   have h2 := (List.nodup_append.1 h1).2.2 p.c (by simp) q.c (by simp)
   exact h2 he
  have hlp := isNode_leaf hsp hna
  have hlq := isNode_leaf hsq hnb
  refine ⟨j, p.c, q.c, q.lo, na, nb, fun _ => ⟨⟨rfl, ?_, ?_, isNode_load hsp hna (hh.is _ (List.mem_cons_of_mem _ hpP)) (hh.used _ (List.mem_cons_of_mem _ hpP)), isNode_load hsq hnb (hh.is _ (List.mem_cons_of_mem _ hqP)) (hh.used _ (List.mem_cons_of_mem _ hqP)), by rw [hlp.1, hlq.1], (hkd q hqz).2.1, fun hsz => ?_, hne, mid_root hI hm hr _ hqP, rfl, ?_⟩, by rw [hcl]; exact hj⟩, fun D' n' ht => ?_⟩
  ·show (List.map Ent.c (z :: zs))[j]? = _ ∧ (List.map Ent.c (z :: zs))[j + 1]? = _
   rw [heq, ← hf1]; simp
  ·obtain ⟨y, ys, _, _, _, _, _, _, _, _, m9⟩ : ∃ y ys, MidT D1 D1 h hi e.c (z :: zs) (z :: zs) ∧ True ∧ True ∧ True ∧ True ∧ y = z ∧ ys = zs ∧ True ∧ (innerN (z :: zs)).keys[j]? = some q.lo := by
    refine ⟨z, zs, MidT.refl hh hm.chain, trivial, trivial, trivial, trivial, rfl, rfl, trivial, ?_⟩
    show (zs.map Ent.lo)[j]? = _
    cases f1 with
    | nil =>
     injection heq with _ h
     rw [h, ← hf1]; simp
    | cons y f1 =>
     injection heq with _ h
     rw [h, ← hf1]; simp
   exact m9
  ·obtain ⟨y, ys, m1, m2, m3, m4, m5, m6, m7, m8, m9⟩ := mend_inner heq hm.chain hh hkd hna hnb hsz
   exact m8
  ·refine ⟨by simp [innerN], ?_, by simp [innerN]; simp at hjl; omega⟩
   have := ok_keys hok (by rw [hmm]; exact hg.m2)
   exact this.2.2
  ·rcases ht with ht | ⟨_, hD, hn⟩
   ·exact .inl ht
   ·by_cases hsz : (joinN na q.lo nb).size ≤ D1.m
    ·obtain ⟨y, ys, m1, m2, m3, m4, m5, m6, m7, m8, m9⟩ := mend_inner heq hm.chain hh hkd hna hnb hsz
     refine .inr ⟨y, ys, by rw [hD, mendD, if_pos hsz]; exact m1, m2, m3, m4, m5, m6, ?_, ?_⟩
     ·rw [hn, mendN, if_pos hsz, m7, hf1]; rfl
     ·have h1 := congrArg (fun n => n.children.length) m7
      simp only at h1
      rw [delAt_len (by rw [hcl, hf1]; simp at hjl; omega), hcl] at h1
      simp [innerN] at h1
      omega
    ·exact .inl ⟨by rw [hD, mendD, if_neg hsz], by rw [hn, mendN, if_neg hsz]⟩
 ·refine ⟨0, 0, 0, [], innerN (z :: zs), innerN (z :: zs), fun h => by omega, fun D' n' ht => ?_⟩
  rcases ht with ht | ⟨h1, _⟩
  ·exact .inl ht
  ·omega
end
end Go.Proofs.YtpjfheadolphgaaGreat
namespace Go.Proofs.YtpjfheadolphgaaGreat
open Go.RowKit Go.Proofs
set_option maxRecDepth 20000
section
variable {w w' : World} {F G N K : Nat → Prop} {X : XC} {t x p r c h m k i o : Nat} {D D' : PD} {v pv kv cv : Value} {M ps : List KV} {key va : Str} {ks : List Str} {cs : List Nat} {hi : Option Str} {e : Ent} {n : NodeD}
def DropOut (w : World) (F : Nat → Prop) (X : XC) (x t : Nat) (D : PD) (h : Nat) (e : Ent) (hi : Option Str) (key : Str) (en : Ending) (w' : World) : Prop :=
 ∃ had empty D' F', en = .returned (.tuple #[.bool had, .bool empty, .int .i64 0]) ∧ DropR D D' h e hi key had empty ∧ TreeAt w' F' X x t D' ∧ Only F w w' ∧ Grows F F' w
theorem dropR_no (hg : (get key e.M).isSome = false) : DropR D D h e hi key false false := ⟨hg, by rw [if_neg (by simp)]; exact ⟨rfl, rfl⟩⟩
theorem dropR_all (hg : (get key e.M).isSome = true) (h1 : del key e.M = []) (h2 : Turned D D' e.P [e.c]) : DropR D D' h e hi key true true := ⟨hg, by rw [if_pos rfl, if_pos rfl]; exact ⟨h1, h2⟩⟩
theorem dropR_some (hg : (get key e.M).isSome = true) {a : Ent} (h1 : Less D D' h e hi (del key e.M) a) : DropR D D' h e hi key true false := ⟨hg, by rw [if_pos rfl, if_neg (by simp)]; exact ⟨a, h1⟩⟩
set_option maxHeartbeats 2000000 in
theorem drop_lf (h : TreeAt w F X x t D) (hs : Sub D 0 e hi) (hh : Held D e.P) :
  Calls Tryz.prog 141 #[.pointer (some ⟨x, 0, none⟩), .int .i64 e.c, .string ⟨key.toArray⟩] w (DropOut w F X x t D 0 e hi key) := by
 have HDL := Lib.hid (fun hne => drop_leaf (key := key) hs hh hne)
 have hsrt := (sub_facts hs).srt
 obtain ⟨o1, o2, o3, o4, o5, o6⟩ := hs
 have his := hh.is e.c (by rw [o5]; simp)
 have hus := hh.used e.c (by rw [o5]; simp)
 have HTR : Hid (Turned D D e.P [e.c]) := Lib.hid (by rw [o5] at hh ⊢; exact Turned.refl hh)
 have hld := load_ok h his hus o4 o1 (fun _ => o2)
 have hFw : ∀ k, w.heap.size ≤ k → ¬ F k := fun k hk hf => by have := h.tx.1 _ hf; omega
 have hpl : e.M.length ≤ 4096 := by
  have h1 := o1.size
  have h2 := sizeP_ge e.M
  have h3 : (leafN e.M).size = 3 + 3 * 0 + NodeD.sizeP e.M + 0 := rfl
  have := h.mle
  omega
 have HFW := Lib.hid hFw
 have HLD := Lib.hid hld
 have HIS := Lib.hid his
 have HUS := Lib.hid hus
 have HSR := Lib.hid hsrt
 have HXL := Lib.hid h.blk.lt
 have HOK := Lib.hid o1
 clear h hh o1 o2 o3 o4 o5 o6 his hus hFw hld hsrt
 go_enter Tryz.func141, Tryz.ntmps141
 go_wp2_with fail
 refine HLD.out.mono ?_
 rintro e3 w3 ⟨pv, kv, cv, rfl, hnd, hx3, ho3⟩
 obtain ⟨pA, pc, kA, kc, cA, cc, rfl, rfl, rfl⟩ := hnd.r.shape
 have hnd : NodeO w3 (From w.heap.size) (.slice pA e.M.length pc) (.slice kA 0 kc) (.slice cA 0 cc) (leafN e.M) := hnd
 obtain ⟨W4, hW4⟩ : ∃ W4, W4 = w3.alloc (.cells #[.bool true, .slice pA e.M.length pc, .slice kA 0 kc, .slice cA 0 cc] 200) := ⟨_, rfl⟩
 have ho4 : Only NoB w3 W4 := by rw [hW4]; exact (Only.refl NoB w3).alloc _
 have hs4 : W4.heap.size = w3.heap.size + 1 := by rw [hW4]; simp
 have hB4 : Blk W4 w3.heap.size 200 #[.bool true, .slice pA e.M.length pc, .slice kA 0 kc, .slice cA 0 cc] := by rw [hW4]; exact Blk.new w3 _ _
 have hpl2 : Calls Tryz.prog 139 #[nodeV true (.slice pA e.M.length pc) (.slice kA 0 kc) (.slice cA 0 cc), .string ⟨key.toArray⟩] W4 (PlaceOut ⟨true, e.M, [], []⟩ key W4) := (place_leaf (key := key) (ps := e.M) (ks := []) (cs := []) (hnd.quit ho4).r HSR.out (by omega))
 have HPC := Lib.hid hpl2
 have HND := Lib.hid hnd
 have HX3 := Lib.hid hx3
 have HO3 := Lib.hid ho3
 have HO4 := Lib.hid ho4
 have HS4 := Lib.hid hs4
 have HB4 := Lib.hid hB4
 have HW4 := Lib.hid hW4
 clear hpl2 hnd hx3 ho3 ho4 hs4 hB4 hW4
 unfold nodeV leafN
 go_wp2_with fail
 rw [← HW4.out]
 refine HPC.out.mono ?_
 rintro e5 w5 ⟨i, is, hpp, _, rfl, ho5⟩
 have hpp : PlaceP e.M key i is := hpp rfl
 have hget := placeP_get hpp
 have hil : is = true → i < e.M.length := by
  obtain ⟨a, b, hab, rfl, _, hb⟩ := hpp
  rw [hab, List.length_append]
  intro ht
  rw [ht, if_pos rfl] at hb
  obtain ⟨v, c, rfl, _⟩ := hb
  simp
 have hx5 := (HX3.out.quit HO4.out).quit ho5
 have hon5 : Only F w w5 := HO3.out.trans ((HO4.out.trans ho5).mono fun _ _ h => h.elim)
 have hb9 := HB4.out.only ho5 id
 have m0 : w5.cell? _ = some _ := hb9.cell 0
 have m1 : w5.cell? _ = some _ := hb9.cell 1
 have HX5 := Lib.hid hx5
 have HON5 := Lib.hid hon5
 have HB9 := Lib.hid hb9
 cases is with
 | false =>
  have HE : Hid (DropOut w F X x t D 0 e hi key (.returned (.tuple #[.bool false, .bool false, .int .i64 0])) w5) := Lib.hid ⟨false, false, D, F, rfl, dropR_no hget, hx5, hon5, Grows.refl F w⟩
  clear hpp hget hil hx5 hon5 hb9 ho5
  go_wp2_with fail
  go_ret3
  exact HE.out
 | true =>
  have hix := hil rfl
  have hde := place_del hpp HSR.out
  have hown : Own w5 (From w.heap.size) 83 2 (.slice pA e.M.length pc) e.M.length (pairL e.M) := (HND.out.pairs.only HO4.out fun _ _ => id).only ho5 fun _ _ => id
  have hdc := del_pair' hown hix (by omega)
  obtain ⟨l1, hl1⟩ : ∃ l1, l1 = e.M.length - 1 := ⟨_, rfl⟩
  rw [← hl1] at hdc
  have hw1 : IntKind.i64.wrap ((i : Int) + 1) = (i : Int) + 1 := by rw [IntKind.wrap_i64]; omega
  have hkz : Rd w3 (From w.heap.size) 1 (.slice kA 0 kc) 0 [] := HND.out.keys.rd
  have hcz : Rd w3 (From w.heap.size) 1 (.slice cA 0 cc) 0 [] := HND.out.kids.rd
  have hgl : ∀ g, (Value.slice pA e.M.length pc).ownBlock = some g → w.heap.size ≤ g ∧ g < w3.heap.size := fun g hg => ⟨HND.out.pairs.2 g hg, HND.out.pairs.lt hg⟩
  have HDC := Lib.hid hdc
  have HL1 := Lib.hid hl1
  have HDE := Lib.hid hde
  have HGT := Lib.hid hget
  have HKZ := Lib.hid hkz
  have HCZ := Lib.hid hcz
  have HGL := Lib.hid hgl
  have HIL := Lib.hid hix
  clear hpp hget hil hx5 hon5 hb9 ho5 hde hown hdc hkz hcz hgl hl1
  go_wp2_with fail
  refine HDC.out.mono ?_
  rintro e7 w7 ⟨v', rfl, hown7, ho7⟩
  obtain ⟨A', c', rfl, _⟩ := hown7.shape
  have hsz3 := HO3.out.size
  have hs4 := HS4.out
  have hgl := HGL.out
  have hsz5 : w3.heap.size < w5.heap.size := HB9.out.lt
  have hsz7 := ho7.size
  have hb9 := HB9.out.only ho7 fun he => by have := hgl _ he; omega
  have hb9' := hb9.set_ 1 (.slice A' l1 c')
  have hst : Only (fun k => k = w3.heap.size) w7 (w7.setCell ⟨w3.heap.size, 1, none⟩ (.slice A' l1 c')) := (Only.refl (fun k => k = w3.heap.size) w7).setCell (p := ⟨w3.heap.size, 1, none⟩) (.inl rfl) (.slice A' l1 c')
  have hrd : Rd (w7.setCell ⟨w3.heap.size, 1, none⟩ (.slice A' l1 c')) (fun k => k ≠ w3.heap.size) 2 (.slice A' l1 c') (del key e.M).length (pairL (del key e.M)) := by
   have h1 := hown7.rd.only hst fun k hk he => by
    have he : k = w3.heap.size := he
    rcases hk with hk | hk
    ·have := hgl _ hk; omega
    ·omega
   rw [HDE.out, delAt_len HIL.out, ← HL1.out]
   exact h1.mono fun k hk _ => by
    rcases hk with hk | hk
    ·have := hgl _ hk; omega
    ·omega
  have hxW := (HX5.out.far ho7 (fun k hk he => by have := hgl _ he; exact HFW.out k (by omega) hk) (fun he => by have := hgl _ he; have := HXL.out; omega)).beside hst (HFW.out _ (by omega)) (by have := HXL.out; omega)
  have honW : Only F w _ := only_at (HON5.out.trans' ho7 fun k hk he => by have := hgl _ he; omega) hst (by omega)
  have hnr : NodeR _ (fun k => k ≠ w3.heap.size) (.slice A' l1 c') (.slice kA 0 kc) (.slice cA 0 cc) (leafN (del key e.M)) := ⟨hrd, HKZ.out.zero, HCZ.out.zero⟩
  have hdl : (del key e.M).length = l1 := by rw [HDE.out, delAt_len HIL.out, ← HL1.out]
  obtain ⟨W, hW⟩ : ∃ W, W = w7.setCell ⟨w3.heap.size, 1, none⟩ (.slice A' l1 c') := ⟨_, rfl⟩
  have m1 : w7.cell? _ = some _ := hb9.cell 1
  have p1 := hb9.frozen 1
  have n0 := hb9'.cell 0
  have n1 := hb9'.cell 1
  have n2 := hb9'.cell 2
  have n3 := hb9'.cell 3
  rw [← hW] at hxW honW hnr
  have HWW := Lib.hid hW
  by_cases hl0 : l1 = 0
  ·have hdn : del key e.M = [] := List.length_eq_zero_iff.1 (by rw [hdl, hl0])
   have HE : Hid (DropOut w F X x t D 0 e hi key (.returned (.tuple #[.bool true, .bool true, .int .i64 0])) W) := Lib.hid ⟨true, true, D, F, rfl, dropR_all HGT.out hdn HTR.out, hxW, honW, Grows.refl F w⟩
   subst hl0
   clear hsz3 hs4 hgl hsz5 hsz7 hb9 hb9' hst hrd hxW honW hnr hdl hW hown7 ho7 hdn
   go_wp2_with fail
   go_ret3
   rw [← HWW.out]
   exact HE.out
  ·have hdn : del key e.M ≠ [] := fun h0 => hl0 (by rw [← hdl, h0]; rfl)
   have hL := HDL.out hdn
   have hokd := hL.sub.1
   have hsv := save_ok (n := leafN (del key e.M)) hxW HIS.out HUS.out hnr hokd (fun _ => hdn)
   unfold nodeV at hsv
   simp only [leafN] at hsv
   have HSV := Lib.hid hsv
   have hlb : ((l1 : Int) == 0) = false := by simp; exact hl0
   have hlc : ¬ ((l1 : Int) = 0) := by omega
   have HL := Lib.hid hL
   have HOW := Lib.hid honW
   clear hsz3 hs4 hgl hsz5 hsz7 hb9 hb9' hst hrd hxW honW hnr hdl hW hown7 ho7 hdn hL hokd hsv hl0
   go_wp2_with fail
   rw [← HWW.out]
   refine HSV.out.mono ?_
   rintro e8 w8 ⟨rfl, F8, hx8, ho8, hg8⟩
   have HE : Hid (DropOut w F X x t D 0 e hi key (.returned (.tuple #[.bool true, .bool false, .int .i64 0])) w8) := Lib.hid
    ⟨true, false, _, F8, rfl, dropR_some HGT.out HL.out, hx8, HOW.out.trans ho8, fun k hk => (hg8 k hk).imp id fun h => by have := HOW.out.size; omega⟩
   clear hx8 ho8 hg8 n0 n1 n2 n3 m1 p1 m0
   go_wp2_with fail
   go_ret3
   exact HE.out
end
end Go.Proofs.YtpjfheadolphgaaGreat
namespace Go.Proofs.YtpjfheadolphgaaGreat
open Go.RowKit Go.Proofs
set_option maxRecDepth 20000
section
variable {w w' : World} {F G N K : Nat → Prop} {X : XC} {t x p r c h m k i o : Nat} {D D1 D' : PD} {v pv kv cv : Value} {M ps : List KV} {key va : Str} {ks : List Str} {cs : List Nat} {hi : Option Str} {e x0 xx z : Ent} {es e1 e2 zs : List Ent} {n n' : NodeD}
def DropHyp (X : XC) (x t : Nat) (key : Str) (h : Nat) : Prop := ∀ (w : World) (F : Nat → Prop) (D : PD) (e : Ent) (hi : Option Str), TreeAt w F X x t D → Good D → Sub D h e hi → les e.lo key → bel key hi → Held D e.P → NoRoot D e →
  Calls Tryz.prog 141 #[.pointer (some ⟨x, 0, none⟩), .int .i64 e.c, .string ⟨key.toArray⟩] w (DropOut w F X x t D h e hi key)
def DropEnd (D D2 : PD) (h : Nat) (e : Ent) (hi : Option Str) (key : Str) (n' : NodeD) (was : Nat) : Prop :=
 (n'.leaf = false ∧ n'.pairs = []) ∧ ((n'.children.length = was ∧ ∃ a, Less D D2 (h + 1) e hi (del key e.M) a) ∨
 (n'.children.length = 0 ∧ was ≠ 0 ∧ del key e.M = [] ∧ Turned D D2 e.P [e.c]) ∨
 (n'.children.length ≠ 0 ∧ n'.children.length ≠ was ∧ n'.Ok D2.m ∧ D2.is e.c = true ∧ D2.used e.c = true ∧ ∃ a, Less D (PD.putPage e.c (n'.bytes D2.m) D2) (h + 1) e hi (del key e.M) a))
theorem gone_end (hI : In D h e hi x0 es) (har : Around (x0 :: es) hi key e1 xx e2) (hh : Held D e.P) (hg : Good D) (hT : Turned D D1 xx.P [xx.c]) (hd : del key xx.M = []) :
  DropEnd D (PD.turn xx.c false D1) h e hi key ⟨false, [], if (innerN (x0 :: es)).keys = [] then [] else delAt (innerN (x0 :: es)).keys (e1.length - 1), delAt (innerN (x0 :: es)).children e1.length⟩ (innerN (x0 :: es)).children.length := by
 obtain ⟨g1, g2, g3⟩ := gone_inner hI har hh hT hd
 have hcl : (innerN (x0 :: es)).children.length = es.length + 1 := by simp [innerN]
 have hil := (List.getElem?_eq_some_iff.1 g2).1
 refine ⟨⟨rfl, rfl⟩, .inr ?_⟩
 split at g3
 ·rename_i h0
  obtain ⟨g4, g5, g6⟩ := g3
  refine .inl ⟨?_, by omega, by rw [g1, h0]; rfl, g4⟩
  show (delAt _ _).length = 0
  rw [delAt_len hil, g5]; rfl
 ·obtain ⟨z, zs, m1, m2, m3, m4, m5, m6, m7, m8⟩ := g3
  have hn : (⟨false, [], if (innerN (x0 :: es)).keys = [] then [] else delAt (innerN (x0 :: es)).keys (e1.length - 1), delAt (innerN (x0 :: es)).children e1.length⟩ : NodeD) = innerN (z :: zs) := by
   rw [m7, if_neg (by intro h0; rw [h0] at m8; simp at m8)]
  rw [hn]
  have h1 : (innerN (z :: zs)).children.length = zs.length + 1 := by simp [innerN]
  have h2 := congrArg (fun n => n.children.length) m7
  simp only at h2
  rw [delAt_len hil] at h2
  obtain ⟨a, ha⟩ := hI.write m1 hg m2 m3 m4 m5
  refine .inr ⟨by omega, by omega, mid_ok hI m1 hg m3 m4, m1.T.held.is _ (by simp), m1.T.held.used _ (by simp), a, ?_⟩
  rw [g1, ← m6]; exact ha
theorem MidT.both {D D1 D2 : PD} {c : Nat} {es zs ys : List Ent} (h1 : MidT D D1 h hi c es zs) (h2 : MidT D1 D2 h hi c zs ys) : MidT D D2 h hi c es ys := h1.trans h2
theorem thin_end (hI : In D h e hi x0 es) (har : Around (x0 :: es) hi key e1 xx e2) (hh : Held D e.P) (hg : Good D) (hr : NoRoot D e) {a : Ent} (hL : Less D D1 h xx (nxt hi e2) (del key xx.M) a) :
  (∃ na : NodeD, D1.is xx.c = true ∧ D1.used xx.c = true ∧ D1.page xx.c = na.bytes D1.m ∧ na.Ok D1.m ∧ (na.leaf = true → na.pairs ≠ [])) ∧
  ∃ j p q k2 na nb, (2 ≤ (innerN (x0 :: es)).children.length → MendAt D1 (innerN (x0 :: es)) j p q k2 na nb ∧ j = if e1.length + 2 ≤ (innerN (x0 :: es)).children.length then e1.length else (innerN (x0 :: es)).children.length - 2) ∧
   ∀ D' n', ThinD D1 (innerN (x0 :: es)) j p q k2 na nb D' n' → DropEnd D D' h e hi key n' (innerN (x0 :: es)).children.length := by
 obtain ⟨z, zs, hz, m1, m2, m3, m4, m5, m6⟩ := stay_inner hI har hh hL
 have hcl : (innerN (x0 :: es)).children.length = es.length + 1 := by simp [innerN]
 have hcz : (innerN (z :: zs)).children.length = zs.length + 1 := by simp [innerN]
 have hok := mid_ok hI m1 hg (by rw [m3]; exact Nat.le_refl _) m6
 have hzl : zs.length = es.length := by rw [m3, hcl] at hcz; omega
 have hi1 : e1.length ≤ zs.length := by have := congrArg List.length har.eq; simp at this; omega
 constructor
 ·obtain ⟨na, hna⟩ := sub_node hL.sub
  have ham : a ∈ z :: zs := by rw [← hz]; simp
  have hP := mid_kids m1 a ham
  have hld := isNode_load hL.sub hna (m1.T.held.is _ (List.mem_cons_of_mem _ hP)) (m1.T.held.used _ (List.mem_cons_of_mem _ hP))
  rw [hL.c] at hld
  exact ⟨na, hld⟩
 ·obtain ⟨j, p, q, k2, na, nb, t1, t2⟩ := thin_plain (i := e1.length) hI hg m1 m6 hr hi1 hok
  rw [m3] at t1 t2
  refine ⟨j, p, q, k2, na, nb, t1, fun D' n' ht => ?_⟩
  rcases t2 D' n' ht with ⟨rfl, rfl⟩ | ⟨y, ys, y1, y2, y3, y4, y5, y6, y7, y8⟩
  ·obtain ⟨b, hb⟩ := hI.stay m1 m2 m3 m4
   exact ⟨⟨rfl, rfl⟩, .inl ⟨rfl, b, by rw [← m5]; exact hb⟩⟩
  ·have hm := m1.both y1
   have hsz : (innerN (y :: ys)).size ≤ (innerN (x0 :: es)).size := y3
   have hk : ∀ x ∈ ys, KeyOk D.m x.lo := fun x hx => by rw [← m1.T.m]; exact y4 x hx
   obtain ⟨b, hb⟩ := hI.write hm hg (y2.trans m2) hsz hk (Nat.le_trans y5 m4)
   have h1 : (innerN (y :: ys)).children.length = ys.length + 1 := by simp [innerN]
   rw [y7]
   exact ⟨⟨rfl, rfl⟩, .inr (.inr ⟨by omega, by omega, mid_ok hI hm hg hsz hk, hm.T.held.is _ (by simp), hm.T.held.used _ (by simp), b, by rw [← m5, ← y6]; exact hb⟩)⟩
set_option maxHeartbeats 4000000 in
theorem drop_in (ih : DropHyp X x t key h) (htr : TreeAt w F X x t D) (hg : Good D) (hs : Sub D (h + 1) e hi) (hlo : les e.lo key) (hb : bel key hi) (hh : Held D e.P) (hr : NoRoot D e) :
  Calls Tryz.prog 141 #[.pointer (some ⟨x, 0, none⟩), .int .i64 e.c, .string ⟨key.toArray⟩] w (DropOut w F X x t D (h + 1) e hi key) := by
 obtain ⟨x0, es, hI⟩ := sub_in hs
 obtain ⟨P, hP⟩ := sub_c hs
 have his := hh.is e.c (by rw [hP]; simp)
 have hus := hh.used e.c (by rw [hP]; simp)
 have hld := load_ok (n := innerN (x0 :: es)) htr his hus hI.page hI.ok (fun h => by cases h)
 have hFw : ∀ k, w.heap.size ≤ k → ¬ F k := fun k hk hf => by have := htr.tx.1 _ hf; omega
 have hkl := ok_keys hI.ok htr.mle
 have HKL := Lib.hid hkl
 have HFW := Lib.hid hFw
 have HLD := Lib.hid hld
 have HII := Lib.hid hI
 have HXL := Lib.hid htr.blk.lt
 have HGD := Lib.hid hg
 have HLO := Lib.hid hlo
 have HBL := Lib.hid hb
 have HHD := Lib.hid hh
 have HNR := Lib.hid hr
 have HIH := Lib.hid ih
 clear htr hg hlo hb hh his hus hFw hld hI hP hs ih hkl hr
 go_enter Tryz.func141, Tryz.ntmps141
 go_wp2_with fail
 refine HLD.out.mono ?_
 rintro e3 w3 ⟨pv, kv, cv, rfl, hnd, hx3, ho3⟩
 obtain ⟨pA, pc, kA, kc, cA, cc, rfl, rfl, rfl⟩ := hnd.r.shape
 obtain ⟨nks, hnks⟩ : ∃ l, l = (innerN (x0 :: es)).keys := ⟨_, rfl⟩
 obtain ⟨ncs, hncs⟩ : ∃ l, l = (innerN (x0 :: es)).children := ⟨_, rfl⟩
 have hnd : NodeO w3 (From w.heap.size) (.slice pA 0 pc) (.slice kA nks.length kc) (.slice cA ncs.length cc) ⟨false, [], nks, ncs⟩ := by rw [hnks, hncs]; exact hnd
 obtain ⟨W4, hW4⟩ : ∃ W4, W4 = w3.alloc (.cells #[.bool false, .slice pA 0 pc, .slice kA nks.length kc, .slice cA ncs.length cc] 200) := ⟨_, rfl⟩
 have ho4 : Only NoB w3 W4 := by rw [hW4]; exact (Only.refl NoB w3).alloc _
 have hs4 : W4.heap.size = w3.heap.size + 1 := by rw [hW4]; simp
 have hB4 : Blk W4 w3.heap.size 200 #[.bool false, .slice pA 0 pc, .slice kA nks.length kc, .slice cA ncs.length cc] := by rw [hW4]; exact Blk.new w3 _ _
 have hpl2 : Calls Tryz.prog 139 #[nodeV false (.slice pA 0 pc) (.slice kA nks.length kc) (.slice cA ncs.length cc), .string ⟨key.toArray⟩] W4 (PlaceOut ⟨false, [], nks, ncs⟩ key W4) := place_inner (key := key) (hnd.quit ho4).r (by rw [hnks]; exact HII.out.ok.rise) (by rw [hnks]; have := HKL.out.1; omega)
 have HPC := Lib.hid hpl2
 have HND := Lib.hid hnd
 have HX3 := Lib.hid hx3
 have HO3 := Lib.hid ho3
 have HO4 := Lib.hid ho4
 have HS4 := Lib.hid hs4
 have HB4 := Lib.hid hB4
 have HW4 := Lib.hid hW4
 have HNKS := Lib.hid hnks
 have HNCS := Lib.hid hncs
 have hnl : (innerN (x0 :: es)).keys.length = nks.length := by rw [hnks]
 have hncl : (innerN (x0 :: es)).children.length = ncs.length := by rw [hncs]
 unfold nodeV
 rw [hnl, hncl]
 clear hpl2 hnd hx3 ho3 ho4 hs4 hB4 hW4 hnks hncs hnl hncl
 rw [show (innerN (x0 :: es)).leaf = false from rfl, show (innerN (x0 :: es)).pairs.length = 0 from rfl]
 go_wp2_with fail
 rw [← HW4.out]
 refine HPC.out.mono ?_
 rintro e5 w5 ⟨i, is, _, hpp, rfl, ho5⟩
 have hpp : PlaceK nks key i := hpp rfl
 obtain ⟨e1, xx, e2, har, hi1⟩ := around HII.out.chain (by rw [HII.out.lo]; exact HLO.out) HBL.out (by rw [HNKS.out] at hpp; simpa [innerN] using hpp)
 have hch := HII.out.chain
 rw [har.eq, chain_append] at hch
 have hxs : Sub D h xx (nxt hi e2) := hch.2.1
 have hnci : ncs[i]? = some xx.c := by
  rw [HNCS.out]
  show ((x0 :: es).map Ent.c)[i]? = _
  rw [har.eq, ← hi1]; simp
 have hheld : Held D xx.P := by
  have h1 := HHD.out
  rw [HII.out.P] at h1
  exact (mid_held har.eq h1).1.mid
 have hxP : ∀ q ∈ xx.P, q ∈ e.P ∧ q ≠ e.c := by
  intro q hq
  have h1 := HHD.out.nodup
  rw [HII.out.P] at h1
  have h2 : q ∈ flatP (x0 :: es) := by rw [har.eq, flatP_append, flatP_cons]; simp [hq]
  exact ⟨by rw [HII.out.P]; exact List.mem_cons_of_mem _ h2, fun he => (List.nodup_cons.1 h1).1 (he ▸ h2)⟩
 have hown := (HND.out.kids.only HO4.out fun _ _ => id).only ho5 fun _ _ => id
 have hx5 := (HX3.out.quit HO4.out).quit ho5
 have hcall := HIH.out w5 F D xx (nxt hi e2) hx5 HGD.out hxs har.lo har.bel hheld ⟨HNR.out.1, fun q hq _ => HNR.out.2 q (hxP q hq).1 (hxP q hq).2⟩
 have hil := (List.getElem?_eq_some_iff.1 hnci).1
 obtain ⟨g, off, c', hve, _, hFg, hcell⟩ := hown.rd.open_ (by show 0 < ncs.length * 1; omega)
 injection hve with q1 q2 q3
 subst q1; subst q3
 have c1 := hcell i (natV xx.c) (by rw [List.getElem?_map, hnci]; rfl)
 have hb9 := HB4.out.only ho5 id
 have n3 : w5.cell? _ = some _ := hb9.cell 3
 have m0 : w5.cell? _ = some _ := hb9.cell 0
 have hii : (i : Int) < (ncs.length : Int) := by omega
 have hi0 : (0 : Int) ≤ (i : Int) := by omega
 have hget : (get key e.M).isSome = (get key xx.M).isSome := by rw [HII.out.M, har.get]
 have hsz3 := HO3.out.size
 have hsz5 : w3.heap.size < w5.heap.size := hb9.lt
 have HNO5 := Lib.hid (((HND.out.mono fun q h1 h2 => (⟨h1, h2⟩ : w.heap.size ≤ q ∧ q < w3.heap.size)).only HO4.out fun _ _ => id).only ho5 fun _ _ => id)
 have HSL : Hid (w.heap.size ≤ w3.heap.size ∧ w3.heap.size < w5.heap.size) := Lib.hid ⟨hsz3, hsz5⟩
 have HON5 : Hid (Only F w w5) := Lib.hid (HO3.out.trans ((HO4.out.trans ho5).mono fun _ _ h => h.elim))
 have hroot : xx.c ≠ D.root := by
  obtain ⟨Sx, hSx⟩ := sub_c hxs
  have h1 := hxP xx.c (by rw [hSx]; simp)
  exact HNR.out.2 _ h1.1 h1.2
 unfold natV at c1
 have HCALL := Lib.hid hcall
 have HB9 := Lib.hid hb9
 have HX5 := Lib.hid hx5
 have HAR := Lib.hid har
 have HI1 := Lib.hid hi1
 have HIL := Lib.hid hil
 have HGT := Lib.hid hget
 have HRT := Lib.hid hroot
 have HCI := Lib.hid hnci
 clear hpp hch hxs hnci hheld hxP hown hx5 hcall hcell hb9 ho5 har hi1 hFg q2 hget hsz3 hsz5 hroot
 go_wp2_with fail
 refine HCALL.out.mono ?_
 rintro e6 w6 ⟨had, empty, D1, F6, rfl, hR, hx6, ho6, hg6⟩
 have hsl := HSL.out
 have hon6 : Only F w w6 := HON5.out.trans ho6
 have hgr6 : Grows F F6 w := fun q hq => (hg6 q hq).imp id fun h => by omega
 have hF6 : ∀ q, w.heap.size ≤ q → q < w5.heap.size → ¬ F6 q := fun q h1 h2 hf => by
  rcases hg6 q hf with h3 | h3
  ·exact HFW.out q h1 h3
  ·omega
 have hb9 := HB9.out.only ho6 (HFW.out _ (by omega))
 have hno6 := HNO5.out.only ho6 fun q hq => HFW.out q hq.1
 have hN6 : ∀ q, (w.heap.size ≤ q ∧ q < w3.heap.size) → ¬ F6 q ∧ q ≠ w3.heap.size ∧ q ≠ x := fun q hq => ⟨hF6 q hq.1 (by omega), by omega, by have := HXL.out; omega⟩
 have c3 : w6.cell? _ = some _ := hb9.cell 3
 have HON6 := Lib.hid hon6
 have HGR6 := Lib.hid hgr6
 obtain ⟨hgx, hrest⟩ := hR
 rw [← HGT.out] at hgx
 cases had with
 | false =>
  rw [if_neg (by simp)] at hrest
  obtain ⟨rfl, rfl⟩ := hrest
  have HE : Hid (DropOut w F X x t D1 (h + 1) e hi key (.returned (.tuple #[.bool false, .bool false, .int .i64 0])) w6) := Lib.hid ⟨false, false, D1, F6, rfl, dropR_no hgx, hx6, hon6, hgr6⟩
  clear hgx hx6 ho6 hg6 hsl hon6 hgr6 hF6 hb9 hno6 hN6
  go_wp2_with fail
  go_ret3
  exact HE.out
 | true =>
  rw [if_pos rfl] at hrest
  cases empty with
  | true =>
   rw [if_pos rfl] at hrest
   obtain ⟨hd, hT⟩ := hrest
   have hge := gone_end HII.out HAR.out HHD.out HGD.out hT hd
   obtain ⟨n', hn'⟩ : ∃ n', n' = (⟨false, [], if nks = [] then [] else delAt nks (i - 1), delAt ncs i⟩ : NodeD) := ⟨_, rfl⟩
   rw [← HNKS.out, ← HNCS.out, HI1.out, ← hn'] at hge
   have hgo := gone_ok hx6 hb9 hno6 hN6 (hF6 _ (by omega) (by omega)) (by have := HXL.out; omega) HCI.out ⟨hT.held.is _ (by simp), hT.held.used _ (by simp)⟩ (by rw [hT.root]; exact HRT.out) rfl rfl (by
    have h1 := (HII.out.ok.inner rfl).2
    have h2 := HKL.out.2.2
    rw [← HNKS.out, ← HNCS.out] at h1
    rw [← HNCS.out] at h2
    exact ⟨h1, h2⟩)
   rw [← hn'] at hgo
   have HGO := Lib.hid hgo
   have HEND := Lib.hid hge
   have HGX := Lib.hid hgx
   clear hgo hge hd hT hn' hgx hx6 ho6 hg6 hsl hon6 hgr6 hF6 hb9 hno6 hN6 c1 n3 m0
   go_wp2_with fail
   refine HGO.out.mono ?_
   rintro e7 w7 hed
   have hend := HEND.out
   obtain ⟨D2, hD2⟩ : ∃ D2, D2 = PD.turn xx.c false D1 := ⟨_, rfl⟩
   rw [← hD2] at hed hend
   clear hD2
   obtain ⟨he, F7, N7, pv7, kv7, cv7, hx7, hb7, hn7, hNF7, hFo7, ho7, hg7⟩ := hed
   subst he
   obtain ⟨⟨hl', hp'⟩, hcase⟩ := hend
   obtain ⟨l', ps', nks', ncs'⟩ := n'
   simp only at hl' hp' hcase hb7
   subst hl'; subst hp'
   obtain ⟨pA7, pc7, kA7, kc7, cA7, cc7, rfl, rfl, rfl⟩ := hn7.shape
   simp only at hb7 hn7
   have hsl := HSL.out
   have hon7 : Only F w w7 := HON6.out.trans' ho7 fun q hq hf => by
    rcases hf with hf | hf | hf
    ·exact (HGR6.out q hf).elim id fun h => by omega
    ·omega
    ·omega
   have hgr7 : Grows F F7 w := fun q hq => by
    rcases hg7 q hq with h1 | h1
    ·exact HGR6.out q h1
    ·have := HON6.out.size; exact .inr (by omega)
   have d0 : w7.cell? _ = some _ := hb7.cell 0
   have d1 : w7.cell? _ = some _ := hb7.cell 1
   have d2 : w7.cell? _ = some _ := hb7.cell 2
   have d3 : w7.cell? _ = some _ := hb7.cell 3
   have HON7 := Lib.hid hon7
   have HGR7 := Lib.hid hgr7
   rcases hcase with ⟨hlen, a, hL⟩ | ⟨hlen, hwas, hdn, hT⟩ | ⟨hlen, hwas, hok, his, hus, a, hL⟩
   ·have HE : Hid (DropOut w F X x t D (h + 1) e hi key (.returned (.tuple #[.bool true, .bool false, .int .i64 0])) w7) := Lib.hid ⟨true, false, D2, F7, rfl, dropR_some HGX.out hL, hx7, hon7, hgr7⟩
    rw [hlen] at d3
    clear hL hlen hon7 hgr7 hsl hx7 hb7 hn7 hNF7 hFo7 ho7 hg7
    go_wp2_with fail
    go_ret3
    exact HE.out
   ·have HE : Hid (DropOut w F X x t D (h + 1) e hi key (.returned (.tuple #[.bool true, .bool true, .int .i64 0])) w7) := Lib.hid ⟨true, true, D2, F7, rfl, dropR_all HGX.out hdn hT, hx7, hon7, hgr7⟩
    rw [hlen] at d3
    have hw0 : ((0 : Int) == (ncs.length : Int)) = false := by simp; omega
    have hw1 : ¬ ((0 : Int) = (ncs.length : Int)) := by omega
    clear hdn hT hlen hwas hon7 hgr7 hsl hx7 hb7 hn7 hNF7 hFo7 ho7 hg7
    go_wp2_with fail
    go_ret3
    exact HE.out
   ·have hsv := save_ok hx7 his hus hn7 hok (fun h => by cases h)
    unfold nodeV at hsv
    simp only at hsv
    have HSV := Lib.hid hsv
    have HL := Lib.hid hL
    have hw0 : ((ncs'.length : Int) == (ncs.length : Int)) = false := by simp; omega
    have hw1 : ¬ ((ncs'.length : Int) = (ncs.length : Int)) := by omega
    have hw2 : ((ncs'.length : Int) == 0) = false := by simp; intro h0; exact hlen (by rw [h0]; rfl)
    have hw3 : ¬ ((ncs'.length : Int) = 0) := by omega
    clear hsv hL hlen hwas hok his hus hon7 hgr7 hsl hx7 hb7 hn7 hNF7 hFo7 ho7 hg7
    go_wp2_with fail
    refine HSV.out.mono ?_
    rintro e8 w8 ⟨rfl, F8, hx8, ho8, hg8⟩
    have HE : Hid (DropOut w F X x t D (h + 1) e hi key (.returned (.tuple #[.bool true, .bool false, .int .i64 0])) w8) := Lib.hid
     ⟨true, false, _, F8, rfl, dropR_some HGX.out HL.out, hx8, HON7.out.trans' ho8 fun q hq hf => (HGR7.out q hf).elim id fun h => by omega, fun q hq => by
      rcases hg8 q hq with h1 | h1
      ·exact HGR7.out q h1
      ·have := HON7.out.size; exact .inr (by omega)⟩
    clear hx8 ho8 hg8 d0 d1 d2 d3
    go_wp2_with fail
    go_ret3
    exact HE.out
  | false =>
   rw [if_neg (by simp)] at hrest
   obtain ⟨a, hL⟩ := hrest
   obtain ⟨⟨na, hna⟩, j, p, q, k2, n1, n2, t1, t2⟩ := thin_end HII.out HAR.out HHD.out HGD.out HNR.out hL
   have hnn : innerN (x0 :: es) = ⟨false, [], nks, ncs⟩ := by rw [HNKS.out, HNCS.out]; rfl
   rw [hnn, HI1.out] at t1
   rw [hnn] at t2
   have hth := thin_ok hx6 hb9 hno6 hN6 (hF6 _ (by omega) (by omega)) (by have := HXL.out; omega) HCI.out hna t1
   have HTH := Lib.hid hth
   have HEND := Lib.hid t2
   have HGX := Lib.hid hgx
   clear hth t1 t2 hna hnn hL hgx hx6 ho6 hg6 hsl hon6 hgr6 hF6 hb9 hno6 hN6 c1 n3 m0
   go_wp2_with fail
   refine HTH.out.mono ?_
   rintro e7 w7 ⟨D2, n', hthd, hed⟩
   have hend := HEND.out D2 n' hthd
   clear hthd
   obtain ⟨he, F7, N7, pv7, kv7, cv7, hx7, hb7, hn7, hNF7, hFo7, ho7, hg7⟩ := hed
   subst he
   obtain ⟨⟨hl', hp'⟩, hcase⟩ := hend
   obtain ⟨l', ps', nks', ncs'⟩ := n'
   simp only at hl' hp' hcase hb7
   subst hl'; subst hp'
   obtain ⟨pA7, pc7, kA7, kc7, cA7, cc7, rfl, rfl, rfl⟩ := hn7.shape
   simp only at hb7 hn7
   have hsl := HSL.out
   have hon7 : Only F w w7 := HON6.out.trans' ho7 fun q hq hf => by
    rcases hf with hf | hf | hf
    ·exact (HGR6.out q hf).elim id fun h => by omega
    ·omega
    ·omega
   have hgr7 : Grows F F7 w := fun q hq => by
    rcases hg7 q hq with h1 | h1
    ·exact HGR6.out q h1
    ·have := HON6.out.size; exact .inr (by omega)
   have d0 : w7.cell? _ = some _ := hb7.cell 0
   have d1 : w7.cell? _ = some _ := hb7.cell 1
   have d2 : w7.cell? _ = some _ := hb7.cell 2
   have d3 : w7.cell? _ = some _ := hb7.cell 3
   have HON7 := Lib.hid hon7
   have HGR7 := Lib.hid hgr7
   rcases hcase with ⟨hlen, a, hL⟩ | ⟨hlen, hwas, hdn, hT⟩ | ⟨hlen, hwas, hok, his, hus, a, hL⟩
   ·have HE : Hid (DropOut w F X x t D (h + 1) e hi key (.returned (.tuple #[.bool true, .bool false, .int .i64 0])) w7) := Lib.hid ⟨true, false, D2, F7, rfl, dropR_some HGX.out hL, hx7, hon7, hgr7⟩
    rw [hlen] at d3
    clear hL hlen hon7 hgr7 hsl hx7 hb7 hn7 hNF7 hFo7 ho7 hg7
    go_wp2_with fail
    go_ret3
    exact HE.out
   ·have HE : Hid (DropOut w F X x t D (h + 1) e hi key (.returned (.tuple #[.bool true, .bool true, .int .i64 0])) w7) := Lib.hid ⟨true, true, D2, F7, rfl, dropR_all HGX.out hdn hT, hx7, hon7, hgr7⟩
    rw [hlen] at d3
    have hw0 : ((0 : Int) == (ncs.length : Int)) = false := by simp; omega
    have hw1 : ¬ ((0 : Int) = (ncs.length : Int)) := by omega
    clear hdn hT hlen hwas hon7 hgr7 hsl hx7 hb7 hn7 hNF7 hFo7 ho7 hg7
    go_wp2_with fail
    go_ret3
    exact HE.out
   ·have hsv := save_ok hx7 his hus hn7 hok (fun h => by cases h)
    unfold nodeV at hsv
    simp only at hsv
    have HSV := Lib.hid hsv
    have HL := Lib.hid hL
    have hw0 : ((ncs'.length : Int) == (ncs.length : Int)) = false := by simp; omega
    have hw1 : ¬ ((ncs'.length : Int) = (ncs.length : Int)) := by omega
    have hw2 : ((ncs'.length : Int) == 0) = false := by simp; intro h0; exact hlen (by rw [h0]; rfl)
    have hw3 : ¬ ((ncs'.length : Int) = 0) := by omega
    clear hsv hL hlen hwas hok his hus hon7 hgr7 hsl hx7 hb7 hn7 hNF7 hFo7 ho7 hg7
    go_wp2_with fail
    refine HSV.out.mono ?_
    rintro e8 w8 ⟨rfl, F8, hx8, ho8, hg8⟩
    have HE : Hid (DropOut w F X x t D (h + 1) e hi key (.returned (.tuple #[.bool true, .bool false, .int .i64 0])) w8) := Lib.hid
     ⟨true, false, _, F8, rfl, dropR_some HGX.out HL.out, hx8, HON7.out.trans' ho8 fun q hq hf => (HGR7.out q hf).elim id fun h => by omega, fun q hq => by
      rcases hg8 q hq with h1 | h1
      ·exact HGR7.out q h1
      ·have := HON7.out.size; exact .inr (by omega)⟩
    clear hx8 ho8 hg8 d0 d1 d2 d3
    go_wp2_with fail
    go_ret3
    exact HE.out
end
end Go.Proofs.YtpjfheadolphgaaGreat
namespace Go.Proofs.YtpjfheadolphgaaGreat
open Go.RowKit Go.Proofs
set_option maxRecDepth 20000
section
variable {w w' : World} {F G N K : Nat → Prop} {X : XC} {t x p r c h m k i o : Nat} {D D1 D' : PD} {v pv kv cv : Value} {M ps : List KV} {key va : Str} {ks : List Str} {cs : List Nat} {hi : Option Str} {e x0 xx z : Ent} {es e1 e2 zs : List Ent} {n n' : NodeD}
theorem drop_ok : ∀ h, DropHyp X x t key h
 | 0 => fun _ _ _ _ _ h1 _ h3 _ _ h6 _ => drop_lf h1 h3 h6
 | h + 1 => fun _ _ _ _ _ h1 h2 h3 h4 h5 h6 h7 => drop_in (drop_ok h) h1 h2 h3 h4 h5 h6 h7
structure LowSt (w : World) (F : Nat → Prop) (X : XC) (x t : Nat) (D : PD) (M : List KV) (c g : Nat) (D1 : PD) (F1 : Nat → Prop) (wr : World) : Prop where
 bt : Bt D1 M c
 ht : D1.root = 0 ∨ ∃ h e, Root D1 M c h e ∧ h < g
 tree : TreeAt wr F1 X x t D1
 m : D1.m = D.m
 n : D1.n = D.n
 own : D1.own = D.own
 only : Only F w wr
 grows : Grows F F1 w
def LowOut (w : World) (F : Nat → Prop) (X : XC) (x t : Nat) (D : PD) (M : List KV) (c : Nat) (en : Ending) (w' : World) : Prop :=
 en = .returned (.int .i64 0) ∧ ∃ D' F', TreeAt w' F' X x t D' ∧ Bt D' M c ∧ D'.m = D.m ∧ D'.n = D.n ∧ D'.own = D.own ∧ Only F w w' ∧ Grows F F' w
theorem LowSt.step {F2 : Nat → Prop} {D2 : PD} {g g2 : Nat} {D1 : PD} {F1 : Nat → Prop} {wr : World} (h : LowSt w F X x t D M c g D1 F1 wr) (hb : Bt D2 M c) (hh : D2.root = 0 ∨ ∃ h e, Root D2 M c h e ∧ h < g2) (ht : TreeAt w' F2 X x t D2) (hm : D2.m = D1.m) (hn : D2.n = D1.n) (ho : D2.own = D1.own) (hon : Only F1 wr w') (hg : Grows F1 F2 wr) :
  LowSt w F X x t D M c g2 D2 F2 w' :=
 ⟨hb, hh, ht, hm.trans h.m, hn.trans h.n, ho.trans h.own, h.only.trans' hon fun k hk hf => (h.grows k hf).elim id fun h => by omega, fun k hk => (hg k hk).elim (fun h1 => h.grows k h1) fun h1 => .inr (Nat.le_trans h.only.size h1)⟩
theorem LowSt.out {g : Nat} {D1 : PD} {F1 : Nat → Prop} {wr : World} (h : LowSt w F X x t D M c g D1 F1 wr) : LowOut w F X x t D M c (.returned (.int .i64 0)) wr := ⟨rfl, D1, F1, h.tree, h.bt, h.m, h.n, h.own, h.only, h.grows⟩
set_option maxHeartbeats 2000000 in
theorem lower_ok (htr : TreeAt w F X x t D) (hb : Bt D M c) : Calls Tryz.prog 144 #[.pointer (some ⟨x, 0, none⟩)] w (LowOut w F X x t D M c) := by
 obtain ⟨g0, hg0⟩ : ∃ g0, D.root = 0 ∨ ∃ h e, Root D M c h e ∧ h < g0 := by
  rcases hb.2 with ⟨h0, _⟩ | ⟨h, e, hr⟩
  ·exact ⟨0, .inl h0⟩
  ·exact ⟨h + 1, .inr ⟨h, e, hr, Nat.lt_succ_self _⟩⟩
 have HST : Hid (LowSt w F X x t D M c g0 D F w) := Lib.hid ⟨hb, hg0, htr, rfl, rfl, rfl, Only.refl _ _, Grows.refl F w⟩
 clear htr hb hg0
 go_enter Tryz.func144, Tryz.ntmps144
 go_wp2_with fail
 go_loopg [] g0 (fun g wr => ∃ D1 F1, Hid (LowSt w F X x t D M c g D1 F1 wr))
 case atStart => exact ⟨D, F, HST⟩
 case round =>
  clear HST
  obtain ⟨D1, F1, HS⟩ := hrel
  have hxr := HS.out.tree
  have HRT := Lib.hid (root_any hxr.tx.at_)
  have x0 : wr.cell? _ = some _ := hxr.blk.cell 0
  have HXR := Lib.hid hxr
  clear hxr
  go_wp2_with fail
  refine HRT.out.mono ?_
  rintro ee w2 ⟨rfl, F2, ht2, ho2, hg2⟩
  have hx2 := HXR.out.deed (D' := D1) rfl ht2 ho2 hg2
  clear x0
  rcases HS.out.ht with h0 | ⟨h, e, hroot, hlt⟩
  ·have HE := Lib.hid (HS.out.step (g2 := gk) HS.out.bt (.inl h0) hx2 rfl rfl rfl ho2 hg2).out
   rw [h0]
   clear hx2 ht2 ho2 hg2
   go_wp2_with fail
   go_ret
   exact HE.out
  ·have hbq : ((D1.root : Int) == 0) = false := by simp; exact hroot.ne0
   have hbr : ¬ ((D1.root : Int) = 0) := by have := hroot.ne0; omega
   obtain ⟨n, hnode⟩ := sub_node hroot.sub
   obtain ⟨P, hP⟩ := sub_c hroot.sub
   have his := hroot.held.is e.c (by rw [hP]; simp)
   have hus := hroot.held.used e.c (by rw [hP]; simp)
   obtain ⟨hlf, hne⟩ := isNode_leaf hroot.sub hnode
   have hL := load_ok hx2 his hus hnode.1 hnode.2.1 hne
   rw [hroot.at_] at hL
   have HL := Lib.hid hL
   have HROOT := Lib.hid hroot
   have HNODE := Lib.hid hnode
   have HX2 := Lib.hid hx2
   have HO2 := Lib.hid ho2
   have HG2 := Lib.hid hg2
   have HLF := Lib.hid hlf
   have HNE := Lib.hid hne
   have HIS := Lib.hid his
   have HUS := Lib.hid hus
   clear hroot hnode hP his hus hlf hne hL hx2 ht2 ho2 hg2
   go_wp2_with fail
   refine HL.out.mono ?_
   rintro e3 w3 ⟨pv, kv, cv, rfl, hn3, hx3, ho3⟩
   obtain ⟨pA, pc, kA, kc, cA, cc, rfl, rfl, rfl⟩ := hn3.r.shape
   have hstep := fun (g2 : Nat) (hq : D1.root = 0 ∨ ∃ h e, Root D1 M c h e ∧ h < g2) (W : World) (hoW : Only NoB w3 W) => HS.out.step (g2 := g2) HS.out.bt hq (hx3.quit hoW) rfl rfl rfl (HO2.out.trans' (ho3.trans (hoW.mono fun _ _ h => h.elim)) fun k hk hf => (HG2.out k hf).elim id fun h => by omega) HG2.out
   obtain ⟨W4, hW4⟩ : ∃ W4, W4 = w3.alloc (.cells #[.bool n.leaf, .slice pA n.pairs.length pc, .slice kA n.keys.length kc, .slice cA n.children.length cc] 200) := ⟨_, rfl⟩
   have ho4 : Only NoB w3 W4 := by rw [hW4]; exact (Only.refl NoB w3).alloc _
   have HE := Lib.hid (hstep gk (.inr ⟨h, e, HROOT.out, hlt⟩) W4 ho4).out
   have HW4 := Lib.hid hW4
   unfold nodeV
   rcases h with _ | h
   ·have hl : n.leaf = true := by rw [HLF.out]; rfl
    have hpp : 0 < n.pairs.length := List.length_pos_iff.2 (HNE.out hl)
    rw [hl] at HW4 ⊢
    clear hl hn3 hx3 ho3 hstep hW4 ho4
    go_wp2_with fail
    rw [← HW4.out]
    go_ret
    exact HE.out
   ·have hl : n.leaf = false := by rw [HLF.out]; rfl
    obtain ⟨x0, es, hI, hn⟩ : ∃ x0 es, In D1 h e none x0 es ∧ n = innerN (x0 :: es) := by
     rcases HNODE.out.2.2 with ⟨h0, _⟩ | ⟨h', x0, es, h0, hI, hn⟩
     ·cases h0
     ·injection h0 with h0; subst h0; exact ⟨x0, es, hI, hn⟩
    have hpl : n.pairs.length = 0 := by rw [hn]; rfl
    rw [hl] at HW4 ⊢
    rw [hpl] at HW4 ⊢
    by_cases hks : es = []
    ·subst hks
     have hkl : n.keys.length = 0 := by rw [hn]; rfl
     have hcl : n.children.length = 1 := by rw [hn]; rfl
     have hcc : n.children[0]? = some x0.c := by rw [hn]; rfl
     rw [hkl, hcl] at HW4 ⊢
     obtain ⟨hlow, hnc, hi0, hu0⟩ := HROOT.out.lower hI
     obtain ⟨g, off, c', hve, _, _, hcell⟩ := hn3.kids.rd.open_ (by rw [hcl]; show 0 < 1 * 1; omega)
     injection hve with q1 q2 q3
     have hca : cA = some ⟨g, off, none⟩ := q1
     have c1 := (hcell 0 (natV x0.c) (by rw [List.getElem?_map, hcc]; rfl))
     unfold natV at c1
     rw [Nat.add_zero] at c1
     subst hca
     have hx4 := hx3.quit ho4
     have xx0 : W4.cell? _ = some _ := hx4.blk.cell 0
     have c1 := ho4.cell c1 id
     have hB4 : Blk W4 w3.heap.size 200 #[.bool false, .slice pA 0 pc, .slice kA 0 kc, .slice (some ⟨g, off, none⟩) 1 cc] := by rw [HW4.out]; exact Blk.new w3 _ _
     have a0 : W4.cell? _ = some _ := hB4.cell 0
     have a1 : W4.cell? _ = some _ := hB4.cell 1
     have a2 : W4.cell? _ = some _ := hB4.cell 2
     have a3 : W4.cell? _ = some _ := hB4.cell 3
     rw [HW4.out] at xx0 c1 a0 a1 a2 a3
     have HSR := Lib.hid (setRoot_any hx4.tx (p := x0.c) (.inr ⟨hi0, hu0⟩))
     have HX4 := Lib.hid hx4
     have HST := Lib.hid (hstep gk (.inr ⟨h + 1, e, HROOT.out, hlt⟩) W4 ho4)
     have HLOW := Lib.hid hlow
     have HNC := Lib.hid hnc
     have hhl : h < gk - 1 ∧ gk - 1 < gk := by omega
     clear hn3 hx3 ho3 hstep hW4 ho4 hn hpl hkl hcl hcc hI hlow hnc hi0 hu0 hcell q2 q3 q1 hx4 hB4 hl hlt
     go_wp2_with fail
     rw [← HW4.out]
     refine HSR.out.mono ?_
     rintro e5 w5 ⟨rfl, F5, ht5, ho5, hg5⟩
     have hx5 := HX4.out.deed (D' := { D1 with root := x0.c }) rfl ht5 ho5 hg5
     have hgv := give_any hx5.tx (p := e.c) HIS.out HUS.out (fun h0 => HNC.out h0.symm)
     rw [HROOT.out.at_] at hgv
     have HGV := Lib.hid hgv
     have xx0 : w5.cell? _ = some _ := hx5.blk.cell 0
     have HX5 := Lib.hid hx5
     have HO5 := Lib.hid ho5
     have HG5 := Lib.hid hg5
     clear hx5 hgv ht5 ho5 hg5 a0 a1 a2 a3 c1
     go_wp2_with fail
     refine HGV.out.mono ?_
     rintro e6 w6 ⟨rfl, F6, ht6, ho6, hg6⟩
     have hlow := HLOW.out
     rw [HROOT.out.at_] at hlow
     have hx6 := HX5.out.deed (D' := PD.turn D1.root false { D1 with root := x0.c }) rfl ht6 ho6 hg6
     have hgood := HS.out.bt.1.same (D' := PD.turn D1.root false { D1 with root := x0.c }) rfl rfl
     have hfin := HST.out.step (g2 := gk - 1) (hlow.bt hgood) (.inr ⟨h, x0, hlow, hhl.1⟩) hx6 rfl rfl rfl (HO5.out.trans' ho6 fun k hk hf => (HG5.out k hf).elim id fun h => by omega) (fun k hk => by
      rcases hg6 k hk with h1 | h1
      ·exact HG5.out k h1
      ·exact .inr (Nat.le_trans HO5.out.size h1))
     have HFIN := Lib.hid hfin
     clear hlow hx6 hgood hfin ht6 ho6 hg6 xx0
     go_wp2_with fail
     go_roundg (gk - 1)
     case measure => omega
     case rel => exact ⟨_, _, HFIN⟩
    ·have hkp : 0 < n.keys.length := by rw [hn]; show 0 < (es.map Ent.lo).length; rw [List.length_map]; exact List.length_pos_iff.2 hks
     clear hl hn3 hx3 ho3 hstep hW4 ho4 hn hpl hI hks
     go_wp2_with fail
     rw [← HW4.out]
     go_ret
     exact HE.out
end
end Go.Proofs.YtpjfheadolphgaaGreat
namespace Go.Proofs.YtpjfheadolphgaaGreat
open Go.RowKit Go.Proofs
set_option maxRecDepth 20000
section
variable {w w' : World} {F G N K : Nat → Prop} {X : XC} {t x p r c h m k i o : Nat} {D D1 D' : PD} {v pv kv cv : Value} {M ps : List KV} {key va : Str} {ks : List Str} {cs : List Nat} {hi : Option Str} {e x0 xx z : Ent} {es e1 e2 zs : List Ent} {n n' : NodeD}
theorem del_get_none : ∀ {M : List KV}, (get key M).isSome = false → del key M = M
 | [], _ => rfl
 | (a, b) :: M, h => by
  rw [get] at h
  split at h
  ·simp at h
  ·rename_i hne
   have ih := del_get_none (M := M) h
   unfold del at ih ⊢
   rw [List.filter_cons_of_pos (by simpa using hne), ih]
set_option maxHeartbeats 2000000 in
theorem bdel_ok (h : TxAt w F X t D) (hb : Bt D M c) :
  Calls Tryz.prog 52 #[.pointer (some ⟨t, 0, none⟩), .string ⟨key.toArray⟩] w (TurnDone w F X t D (.tuple #[.bool (get key M).isSome, .int .i64 0]) (del key M) c) := by
 have HG := Lib.hid hb.1
 have HOF := Lib.hid (of_ok h hb.1.m1 hb.1.m2)
 have hlt : ∀ k, F k → k < w.heap.size := h.lt
 have HLT := Lib.hid hlt
 have HB := Lib.hid hb
 clear h hlt hb
 go_enter Tryz.func52, Tryz.ntmps52
 go_wp2_with fail
 refine HOF.out.mono ?_
 rintro e w1 ⟨x, rfl, ht1, hx1, ho1, hxl⟩
 have HRT := Lib.hid (root_any ht1)
 have HX1 := Lib.hid hx1
 have HO1 := Lib.hid ho1
 have HXL := Lib.hid hxl
 clear ht1 hx1 ho1 hxl
 go_wp2_with fail
 refine HRT.out.mono ?_
 rintro e6 w6 ⟨rfl, F6, ht6, ho6, hg6⟩
 have hs1 := HO1.out.size
 have hFn : ∀ k, w.heap.size ≤ k → ¬ F k := fun k hk hf => by have := HLT.out k hf; omega
 have hxl := HXL.out
 have hx1l := HX1.out.lt
 have htr : TreeAt w6 F6 X x t D := ⟨ht6, HX1.out.only ho6 (hFn x hxl), fun hk => by rcases hg6 x hk with h1 | h1; (· exact hFn x hxl h1); (· omega), HG.out.m1⟩
 have hon6 : Only F w w6 := (HO1.out.mono fun _ _ h => h.elim).trans ho6
 have hgr6 : Grows F F6 w := fun k hk => (hg6 k hk).imp id fun h => by omega
 have HTR := Lib.hid htr
 have HON := Lib.hid hon6
 have HGR := Lib.hid hgr6
 clear hs1 hFn hxl hx1l htr hon6 hgr6 ht6 ho6 hg6
 rcases HB.out.2 with ⟨hr0, hM, hu⟩ | ⟨h, e, hroot⟩
 ·have HE : Hid (∃ D' F', TxLd w6 F' X t D' ∧ Bt D' (del key M) c ∧ D'.m = D.m ∧ D'.n = D.n ∧ D'.own = D.own ∧ Only F w w6 ∧ Grows F F' w) := Lib.hid
   ⟨D, F6, HTR.out.tx, by rw [show del key M = M by rw [hM]; rfl]; exact HB.out, rfl, rfl, rfl, HON.out, HGR.out⟩
  have HM := Lib.hid hM
  rw [hr0]
  clear hr0 hM hu
  go_wp2_with fail
  go_ret2
  exact ⟨by rw [HM.out]; rfl, HE.out⟩
 ·obtain rfl := hroot.M
  have hdr := drop_ok (key := key) h w6 F6 D e none HTR.out HG.out hroot.sub (by rw [hroot.lo]; exact nil_les _) trivial hroot.held ⟨hroot.may.2, fun q _ hne => by rw [← hroot.at_]; exact hne⟩
  rw [hroot.at_] at hdr
  have hbq : ((D.root : Int) == 0) = false := by simp; exact hroot.ne0
  have hbr : ¬ ((D.root : Int) = 0) := by have := hroot.ne0; omega
  have HDR := Lib.hid hdr
  have HROOT := Lib.hid hroot
  clear hdr hroot
  go_wp2_with fail
  refine HDR.out.mono ?_
  rintro e7 w7 ⟨had, empty, D1, F7, rfl, hR, hx7, ho7, hg7⟩
  have hon7 : Only F w w7 := HON.out.trans' ho7 fun k hk hf => (HGR.out k hf).elim id fun h => by omega
  have hgr7 : Grows F F7 w := fun k hk => by
   rcases hg7 k hk with h1 | h1
   ·exact HGR.out k h1
   ·have := HON.out.size; exact .inr (by omega)
  have HX7 := Lib.hid hx7
  have HON7 := Lib.hid hon7
  have HGR7 := Lib.hid hgr7
  obtain ⟨hgx, hrest⟩ := hR
  have HGX := Lib.hid hgx
  clear hx7 hon7 hgr7 ho7 hg7 hgx
  cases had with
  | false =>
   rw [if_neg (by simp)] at hrest
   obtain ⟨rfl, rfl⟩ := hrest
   have HE : Hid (∃ D' F', TxLd w7 F' X t D' ∧ Bt D' (del key e.M) c ∧ D'.m = D1.m ∧ D'.n = D1.n ∧ D'.own = D1.own ∧ Only F w w7 ∧ Grows F F' w) := Lib.hid
    ⟨D1, F7, HX7.out.tx, by rw [del_get_none HGX.out]; exact HB.out, rfl, rfl, rfl, HON7.out, HGR7.out⟩
   go_wp2_with fail
   go_ret2
   exact ⟨by rw [HGX.out]; rfl, HE.out⟩
  | true =>
   rw [if_pos rfl] at hrest
   have hlow : ∀ (D2 : PD) (F2 : Nat → Prop) (W : World), TreeAt W F2 X x t D2 → Bt D2 (del key e.M) c → D2.m = D.m → D2.n = D.n → D2.own = D.own → Only F w W → Grows F F2 w →
     Calls Tryz.prog 144 #[.pointer (some ⟨x, 0, none⟩)] W fun en w' => en = .returned (.int .i64 0) ∧ Hid (∃ D' F', TxLd w' F' X t D' ∧ Bt D' (del key e.M) c ∧ D'.m = D.m ∧ D'.n = D.n ∧ D'.own = D.own ∧ Only F w w' ∧ Grows F F' w) := by
    intro D2 F2 W h1 h2 h3 h4 h5 h6 h7
    refine (lower_ok h1 h2).mono fun en w' ⟨he, D', F', q1, q2, q3, q4, q5, q6, q7⟩ => ⟨he, Lib.hid ⟨D', F', q1.tx, q2, q3.trans h3, q4.trans h4, q5.trans h5, h6.trans' q6 fun k hk hf => (h7 k hf).elim id fun h => by omega, fun k hk => ?_⟩⟩
    rcases q7 k hk with h1 | h1
    ·exact h7 k h1
    ·exact .inr (Nat.le_trans h6.size h1)
   have HLOW := Lib.hid hlow
   cases empty with
   | true =>
    rw [if_pos rfl] at hrest
    obtain ⟨hd, hT⟩ := hrest
    have hsr := setRoot_any HX7.out.tx (p := 0) (.inl rfl)
    have HSR := Lib.hid hsr
    have HEM := Lib.hid (HROOT.out.emptied HG.out hT hd)
    have HTT := Lib.hid hT
    clear hsr hd hT hlow
    go_wp2_with fail
    refine HSR.out.mono ?_
    rintro e8 w8 ⟨rfl, F8, ht8, ho8, hg8⟩
    have hx8 := HX7.out.deed (D' := { D1 with root := 0 }) rfl ht8 ho8 hg8
    have hgi := give_any hx8.tx (p := e.c) (HTT.out.held.is _ (by simp)) (HTT.out.held.used _ (by simp)) (fun h0 => by
     have h1 := HTT.out.held.is e.c (by simp)
     rw [h0] at h1
     unfold PD.is at h1
     simp at h1)
    rw [HROOT.out.at_] at hgi
    have HGI := Lib.hid hgi
    have HX8 := Lib.hid hx8
    have HO8 := Lib.hid ho8
    have HG8 := Lib.hid hg8
    clear hx8 hgi ht8 ho8 hg8
    go_wp2_with fail
    refine HGI.out.mono ?_
    rintro e9 w9 ⟨rfl, F9, ht9, ho9, hg9⟩
    have hx9 := HX8.out.deed (D' := PD.turn D.root false { D1 with root := 0 }) rfl ht9 ho9 hg9
    have hem := HEM.out
    rw [HROOT.out.at_] at hem
    have hlw := HLOW.out _ _ _ hx9 hem HTT.out.m HTT.out.n HTT.out.own ((HON7.out.trans' HO8.out fun k hk hf => (HGR7.out k hf).elim id fun h => by omega).trans' ho9 fun k hk hf => (HG8.out k hf).elim (fun h => (HGR7.out k h).elim id fun h => by omega) fun h => by have := HON7.out.size; omega) (fun k hk => by
     rcases hg9 k hk with h1 | h1
     ·rcases HG8.out k h1 with h2 | h2
      ·exact HGR7.out k h2
      ·have := HON7.out.size; exact .inr (by omega)
     ·have := HON7.out.size; have := HO8.out.size; exact .inr (by omega))
    have HLW := Lib.hid hlw
    clear hx9 hem hlw ht9 ho9 hg9
    go_wp2_with fail
    refine HLW.out.mono ?_
    rintro e10 w10 ⟨rfl, HE⟩
    go_wp2_with fail
    go_ret2
    exact ⟨by rw [HGX.out]; rfl, HE.out⟩
   | false =>
    rw [if_neg (by simp)] at hrest
    obtain ⟨a, hL⟩ := hrest
    have hrl := HROOT.out.less hL
    have hlw := hlow _ _ _ HX7.out (hrl.bt (HG.out.same hL.T.m hL.T.n)) hL.T.m hL.T.n hL.T.own HON7.out HGR7.out
    have HLW := Lib.hid hlw
    clear hL hrl hlw hlow
    go_wp2_with fail
    refine HLW.out.mono ?_
    rintro e10 w10 ⟨rfl, HE⟩
    go_wp2_with fail
    go_ret2
    exact ⟨by rw [HGX.out]; rfl, HE.out⟩
end
end Go.Proofs.YtpjfheadolphgaaGreat
namespace Go.Proofs.YtpjfheadolphgaaGreat
open Go.RowKit Go.Proofs
set_option maxRecDepth 20000
section
variable {w w' : World} {F N K : Nat → Prop} {X : XC} {t x p r c h o i : Nat} {D D' : PD} {n : NodeD} {v pv kv cv : Value} {M : List KV} {key : Str} {cs : List Nat}
theorem next_clo (l : Bool) (hk : Rd w (fun k => k ≠ o) 1 cv cs.length (cs.map natV)) (hl : cs.length ≤ 4096) (hil : i ≤ 4096) (hB : Blk w o 3 #[.int .i64 (r : Nat)]) :
  Calls Tryz.prog 138 #[nodeV l pv kv cv, .int .i64 i, .pointer (some ⟨o, 0, none⟩)] w fun e w' => e = .returned (.tuple #[]) ∧ Blk w' o 3 #[.int .i64 (cs.getD (i + 1) r : Nat)] ∧ Only (fun k => k = o) w w' := by
 obtain ⟨cA, cc, rfl, _⟩ := (show ∃ A c, cv = .slice A cs.length c ∧ cs.length ≤ c from by obtain ⟨A, c, h1, h2, _⟩ := hk; exact ⟨A, c, h1, h2⟩)
 obtain ⟨W1, hW1⟩ : ∃ W1, W1 = w.alloc (.cells #[.bool l, pv, kv, .slice cA cs.length cc] 200) := ⟨_, rfl⟩
 have ho1 : Only NoB w W1 := by rw [hW1]; exact (Only.refl NoB w).alloc _
 by_cases hi : i + 1 < cs.length
 ·obtain ⟨g, off, c', hve, _, _, hcell⟩ := (hk.only ho1 fun _ _ => id).open_ (by omega)
  injection hve with q1 q2 q3
  subst q1; subst q3
  obtain ⟨d, hd⟩ : ∃ d, d = cs[i + 1] := ⟨_, rfl⟩
  have e1 := hcell (i + 1) (natV d) (by rw [List.getElem?_map, List.getElem?_eq_getElem hi, hd]; rfl)
  unfold natV at e1
  rw [hW1] at e1
  have hgd : cs.getD (i + 1) r = d := by rw [List.getD_eq_getElem?_getD, List.getElem?_eq_getElem hi, hd]; rfl
  rw [hgd]
  have hB1 := hB.only ho1 id
  have x0 : W1.cell? _ = some _ := hB1.cell 0
  have y0 := hB1.frozen 0
  have hB2 := hB1.set_ 0 (.int .i64 d)
  have hst : Only (fun k => k = o) W1 (W1.setCell ⟨o, 0, none⟩ (.int .i64 d)) := (Only.refl (fun k => k = o) W1).setCell (p := ⟨o, 0, none⟩) (.inl rfl) (.int .i64 d)
  have HE : Hid (Blk (W1.setCell ⟨o, 0, none⟩ (.int .i64 d)) o 3 #[.int .i64 d] ∧ Only (fun k => k = o) w (W1.setCell ⟨o, 0, none⟩ (.int .i64 d))) := Lib.hid ⟨hB2, (ho1.mono fun _ _ h => h.elim).trans hst⟩
  have HW1 := Lib.hid hW1
  rw [hW1] at x0 y0
  have hi1 : (i : Int) + 1 < (cs.length : Int) := by omega
  have hi0 : (0 : Int) ≤ (i : Int) := by omega
  clear hk hB hd hgd hcell q2 hB1 hB2 hst hW1 ho1
  unfold nodeV
  go_enter Tryz.func138, Tryz.ntmps138
  go_wp2_with fail
  rw [← HW1.out]
  go_end0
  exact ⟨rfl, HE.out⟩
 ·have hgd : cs.getD (i + 1) r = r := by rw [List.getD_eq_getElem?_getD, List.getElem?_eq_none (by omega)]; rfl
  rw [hgd]
  have HE : Hid (Blk W1 o 3 #[.int .i64 (r : Nat)] ∧ Only (fun k => k = o) w W1) := Lib.hid ⟨hB.only ho1 id, ho1.mono fun _ _ h => h.elim⟩
  have HW1 := Lib.hid hW1
  have hi1 : ¬ (i : Int) + 1 < (cs.length : Int) := by omega
  have hi0 : (0 : Int) ≤ (i : Int) := by omega
  clear hk hB hgd hW1 ho1
  unfold nodeV
  go_enter Tryz.func138, Tryz.ntmps138
  go_wp2_with fail
  rw [← HW1.out]
  go_end0
  exact ⟨rfl, HE.out⟩
def NextF (D : PD) (M : List KV) (key : Str) (ps : List KV) (r : Nat) : Prop :=
 (r = 0 → next key M = next key ps) ∧ (r ≠ 0 → ∃ h' y hi', Sub D h' y hi' ∧ y.c = r ∧ Mays D y.P ∧ next key M = (next key ps).or y.M.head?)
def DownNext (w : World) (F : Nat → Prop) (X : XC) (x t o : Nat) (D : PD) (M : List KV) (key : Str) (e : Ending) (w' : World) : Prop :=
 ∃ ps r pv kv cv F', e = .returned (.tuple #[nodeV true pv kv cv, .int .i64 0]) ∧ NextF D M key ps r ∧ Srt ps ∧ ps.length ≤ 4096 ∧ NodeO w' (From w.heap.size) pv kv cv (leafN ps) ∧ TreeAt w' F' X x t D ∧ Blk w' o 3 #[.int .i64 (r : Nat)] ∧ Only (fun k => F k ∨ k = o) w w' ∧ Grows F F' w
set_option maxHeartbeats 2000000 in
theorem down_next (h : TxAt w F X t D) (hx : Blk w x 212 #[.pointer (some ⟨t, 0, none⟩), .int .i64 D.m]) (hxF : ¬ F x) (hm : 64 ≤ D.m) (hb : Bt D M c) (hR : Blk w o 3 #[.int .i64 0]) (hoF : ¬ F o) (hxo : x ≠ o) :
  Calls Tryz.prog 137 #[.pointer (some ⟨x, 0, none⟩), .string ⟨key.toArray⟩, .func (.func 138) #[] #[.pointer (some ⟨o, 0, none⟩)]] w (DownNext w F X x t o D M key) := by
 obtain ⟨W1, hW1⟩ : ∃ W1, W1 = w.alloc (.cells #[.bool false, .slice none 0 0, .slice none 0 0, .slice none 0 0] 200) := ⟨_, rfl⟩
 have ho1 : Only NoB w W1 := by rw [hW1]; exact (Only.refl NoB w).alloc _
 have hs1 : W1.heap.size = w.heap.size + 1 := by rw [hW1]; simp
 have hB : Blk W1 w.heap.size 200 #[.bool false, .slice none 0 0, .slice none 0 0, .slice none 0 0] := by rw [hW1]; exact Blk.new w _ _
 have h1 := h.quit ho1
 have HR := Lib.hid (root_any h1)
 have hx1 := hx.only ho1 id
 have c0 : W1.cell? ⟨x, 0, none⟩ = some (.pointer (some ⟨t, 0, none⟩)) := hx1.cell 0
 rw [hW1] at c0
 have hFw : ¬ F w.heap.size := fun hf => by rcases h with h | h <;> (have := h.1 _ hf; omega)
 have hxw : x ≠ w.heap.size := fun e => by have := hx.lt; omega
 have HF := Lib.hid hFw
 have HX := Lib.hid hxw
 have HX1 := Lib.hid hx1
 have HB := Lib.hid hB
 have HO1 := Lib.hid ho1
 have HW1 := Lib.hid hW1
 have HS1 := Lib.hid hs1
 have HBT := Lib.hid hb
 have HXF := Lib.hid hxF
 have HRB := Lib.hid (hR.only ho1 id)
 have HOF := Lib.hid hoF
 have HXO := Lib.hid hxo
 have HOL : Hid (o < w.heap.size) := Lib.hid hR.lt
 clear hR hoF hxo
 clear h hx hxF hb hW1 ho1 hs1 hB h1 hx1 hFw hxw
 go_enter Tryz.func137, Tryz.ntmps137
 go_wp2_with fail
 rw [← HW1.out]
 refine HR.out.mono ?_
 rintro e w2 ⟨rfl, F2, ht2, ho2, hg2⟩
 have hx2 : TreeAt w2 F2 X x t D := ⟨ht2, HX1.out.only ho2 HXF.out, fun hk => by rcases hg2 x hk with h1 | h1; (· exact HXF.out h1); (· have := HX1.out.lt; omega), hm⟩
 have hb2 := HB.out.only ho2 HF.out
 have HF2 : Hid (¬ F2 w.heap.size) := Lib.hid fun hk => by rcases hg2 _ hk with h1 | h1; (· exact HF.out h1); (· have := HS1.out; omega)
 have HG2 : Hid (Grows F F2 w) := Lib.hid fun k hk => (hg2 k hk).imp id fun h => Nat.le_trans HO1.out.size h
 have HRB2 := Lib.hid (HRB.out.only ho2 HOF.out)
 have HOF2 : Hid (¬ F2 o) := Lib.hid fun hk => by rcases hg2 o hk with h1 | h1; (· exact HOF.out h1); (· have := HOL.out; have := HS1.out; omega)
 have HO2 : Hid (Only F w w2) := Lib.hid ((HO1.out.mono fun _ _ h => h.elim).trans ho2)
 rcases HBT.out.2 with ⟨hr0, hM, _⟩ | ⟨h, e, hroot⟩
 ·have o0 : w2.cell? _ = some _ := hb2.cell 0
  have o1 : w2.cell? _ = some _ := hb2.cell 1
  have o2 : w2.cell? _ = some _ := hb2.cell 2
  have o3 : w2.cell? _ = some _ := hb2.cell 3
  have p0 := hb2.frozen 0
  have p1 := hb2.frozen 1
  have p2 := hb2.frozen 2
  have p3 := hb2.frozen 3
  have HB2 := Lib.hid hb2
  have HX2 := Lib.hid hx2
  rw [hr0]
  have HM := Lib.hid hM
  clear hb2 hx2 hM hr0 ho2 hg2 ht2 c0
  go_wp2_with fail
  (try simp only [Exit.inBlock, Exit.then])
  obtain ⟨hbf, hst⟩ := set4 HB2.out (.bool true) (.slice none 0 0) (.slice none 0 0) (.slice none 0 0)
  refine bodyPost_ret (results_row_tmp rfl _ _ w.heap.size 200 _ rfl hbf (by kernel_rfl) (by kernel_rfl)) rfl ?_
  refine ⟨[], 0, _, _, _, F2, rfl, ⟨fun _ => by rw [HM.out], fun h => (h rfl).elim⟩, List.Pairwise.nil, by simp, ⟨Own.nil _ _ _ _, Own.nil _ _ _ _, Own.nil _ _ _ _, fun q hq => by simp [Value.ownBlock] at hq⟩, ?_, HRB2.out.only hst (by have := HOL.out; show ¬ (o = w.heap.size); omega), (only_new2 HO2.out hst).mono fun _ _ h => .inl h, HG2.out⟩
  exact ⟨TxQ.only HX2.out.tx hst fun k hk e => HF2.out (e ▸ hk), HX2.out.blk.only hst fun e => HX.out e, HX2.out.out, hm⟩
 ·have hne0 : ¬ ((D.root : Int) = 0) := by have := hroot.ne0; omega
  have hbq : ((D.root : Int) == 0) = false := by simp; exact hroot.ne0
  have hway : Way D M key h e none 0 := ⟨hroot.sub, by rw [hroot.lo]; exact nil_les _, trivial, [], [], by simp [hroot.M], by simp, by simp, .inl ⟨rfl, rfl⟩⟩
  have hmay : Mays D e.P := fun q hq => ⟨hroot.held.is q hq, hroot.held.used q hq⟩
  have HI : Hid (Way D M key h e none 0 ∧ Mays D e.P ∧ TreeAt w2 F2 X x t D ∧ Blk w2 w.heap.size 200 #[.bool false, .slice none 0 0, .slice none 0 0, .slice none 0 0] ∧ Only (fun k => F k ∨ k = o) w w2 ∧ Blk w2 o 3 #[.int .i64 (0 : Nat)]) := Lib.hid ⟨hway, hmay, hx2, hb2, HO2.out.mono fun _ _ h => .inl h, HRB2.out⟩
  have hat := hroot.at_
  clear hway hmay hx2 hb2 hroot ho2 hg2 ht2 c0
  go_wp2_with fail
  go_loopg [8] (h + 1) (fun g s8 wr => ∃ (h : Nat) (e : Ent) (hi : Option Str) (r : Nat), s8 = .int .i64 e.c ∧ h < g ∧ Hid (Way D M key h e hi r ∧ Mays D e.P ∧ TreeAt wr F2 X x t D ∧ Blk wr w.heap.size 200 #[.bool false, .slice none 0 0, .slice none 0 0, .slice none 0 0] ∧ Only (fun k => F k ∨ k = o) w wr ∧ Blk wr o 3 #[.int .i64 (r : Nat)]))
  case atStart => exact ⟨h, e, none, 0, by rw [hat], by omega, HI.out⟩
  case round =>
   clear HI hat
   obtain ⟨h, e, hi, r, rfl, hg, hst⟩ := hrel
   obtain ⟨hway, hmay, hxr, hbr, hor, hrr⟩ := hst.out
   obtain ⟨n, hnode⟩ := sub_node hway.sub
   obtain ⟨P, hP⟩ := sub_c hway.sub
   obtain ⟨his, hus⟩ := hmay e.c (by rw [hP]; simp)
   obtain ⟨hlf, hne⟩ := isNode_leaf hway.sub hnode
   have HL := Lib.hid (load_ok hxr his hus hnode.1 hnode.2.1 hne)
   have HFW : Hid (¬ F2 w.heap.size) := HF2
   have HND := Lib.hid hnode
   have HWAY := Lib.hid hway
   have HMAY := Lib.hid hmay
   have HBR := Lib.hid hbr
   have HOR := Lib.hid hor
   have HLF := Lib.hid hlf
   have HXR := Lib.hid hxr
   have HRR := Lib.hid hrr
   clear hrr hway hmay hxr hbr hor hnode hlf hne hst hP
   go_wp2_with fail
   refine HL.out.mono ?_
   rintro e3 w3 ⟨pv, kv, cv, rfl, hnd3, hx3, ho3⟩
   have HKL := Lib.hid (ok_keys HND.out.2.1 HXR.out.mle).2.2
   obtain ⟨pA, pc, kA, kc, cA, cc, rfl, rfl, rfl⟩ := hnd3.r.shape
   have HX3 := Lib.hid hx3
   have HO3 := Lib.hid ho3
   have HN3 := Lib.hid hnd3
   clear hx3 ho3 hnd3
   unfold nodeV
   rcases h with _ | h
   ·have hl : n.leaf = true := by rw [HLF.out]; rfl
    have hn : n = leafN e.M := by
     rcases HND.out.2.2 with ⟨_, hn⟩ | ⟨h', _, _, h0, _⟩
     ·exact hn
     ·cases h0
    have HNL := Lib.hid hn
    obtain ⟨W4, hW4⟩ : ∃ W4, W4 = w3.alloc (.cells #[.bool true, .slice pA n.pairs.length pc, .slice kA n.keys.length kc, .slice cA n.children.length cc] 200) := ⟨_, rfl⟩
    have ho4 : Only NoB w3 W4 := by rw [hW4]; exact (Only.refl NoB w3).alloc _
    have hbo := (HBR.out.only HO3.out HF2.out).only ho4 id
    rw [hW4] at hbo
    have o0 := hbo.cell 0
    have o1 := hbo.cell 1
    have o2 := hbo.cell 2
    have o3 := hbo.cell 3
    have p0 := hbo.frozen 0
    have p1 := hbo.frozen 1
    have p2 := hbo.frozen 2
    have p3 := hbo.frozen 3
    have HBO := Lib.hid hbo
    have HO4 := Lib.hid ho4
    have HW4 := Lib.hid hW4
    rw [hl]
    clear hl hn hbo ho4 hW4
    go_wp2_with fail
    (try simp only [Exit.inBlock, Exit.then])
    obtain ⟨hbf, hst⟩ := set4 HBO.out (.bool true) (.slice pA n.pairs.length pc) (.slice kA n.keys.length kc) (.slice cA n.children.length cc)
    refine bodyPost_ret (results_row_tmp rfl _ _ w.heap.size 200 _ rfl hbf (by kernel_rfl) (by kernel_rfl)) rfl ?_
    clear o0 o1 o2 o3 p0 p1 p2 p3
    have hle : w.heap.size + 1 ≤ wr.heap.size := by have := HBR.out.lt; omega
    rw [← HW4.out] at hst
    have hpl : e.M.length ≤ 4096 := by
     have h1 := HND.out.2.1.size
     rw [HNL.out] at h1
     have h2 := sizeP_ge e.M
     have h3 : (leafN e.M).size = 3 + 3 * 0 + NodeD.sizeP e.M + 0 := rfl
     have := HXR.out.mle
     omega
    have hown : NodeO W4 (From wr.heap.size) (.slice pA n.pairs.length pc) (.slice kA n.keys.length kc) (.slice cA n.children.length cc) n := HN3.out.quit HO4.out
    have hfin : Only (fun k => F k ∨ k = o) w W4 := (HOR.out.trans' HO3.out fun k hk hf => .inl ((HG2.out k hf).elim id fun h => by omega)).trans (HO4.out.mono fun _ _ h => h.elim)
    refine ⟨e.M, r, _, _, _, F2, rfl, ⟨fun h => by have hw := HWAY.out; rw [h] at hw; exact hw.next0, fun h => HWAY.out.next1 h⟩, (sub_facts HWAY.out.sub).srt, hpl, ?_, ?_, ?_, ?_, HG2.out⟩
    ·rw [← HNL.out]
     rw [HW4.out] at hst hown
     exact (hown.only hst fun k hk e => by unfold From at hk; omega).mono fun k hk _ => by unfold From at hk ⊢; omega
    ·have hx4 := HX3.out.quit HO4.out
     rw [HW4.out] at hst hx4
     exact ⟨TxQ.only hx4.tx hst fun k hk e => HF2.out (e ▸ hk), hx4.blk.only hst fun e => HX.out e, hx4.out, hm⟩
    ·rw [HW4.out] at hst
     exact ((HRR.out.only HO3.out HOF2.out).only (HW4.out ▸ HO4.out) id).only hst (by have := HOL.out; show ¬ (o = w.heap.size); omega)
    ·rw [HW4.out] at hst hfin
     exact only_at hfin hst (Nat.le_refl _)
   ·have hl : n.leaf = false := by rw [HLF.out]; rfl
    obtain ⟨x0, es, hI, hn⟩ : ∃ x0 es, In D h e hi x0 es ∧ n = innerN (x0 :: es) := by
     rcases HND.out.2.2 with ⟨h0, _⟩ | ⟨h', x0, es, h0, hI, hn⟩
     ·cases h0
     ·injection h0 with h0; subst h0; exact ⟨x0, es, hI, hn⟩
    obtain ⟨W4, hW4⟩ : ∃ W4, W4 = w3.alloc (.cells #[.bool false, .slice pA n.pairs.length pc, .slice kA n.keys.length kc, .slice cA n.children.length cc] 200) := ⟨_, rfl⟩
    have ho4 : Only NoB w3 W4 := by rw [hW4]; exact (Only.refl NoB w3).alloc _
    have hB4 : Blk W4 w3.heap.size 200 #[.bool false, .slice pA n.pairs.length pc, .slice kA n.keys.length kc, .slice cA n.children.length cc] := by rw [hW4]; exact Blk.new w3 _ _
    have hpl := place_ok (key := key) (HN3.out.quit ho4).r HND.out.2.1 HXR.out.mle
    rw [hl] at hpl
    have HPL := Lib.hid hpl
    have HN4 := Lib.hid (HN3.out.quit ho4)
    have HNL := Lib.hid hn
    have HI := Lib.hid hI
    have HO4 := Lib.hid ho4
    have HW4 := Lib.hid hW4
    have HB4 := Lib.hid hB4
    have HLL := Lib.hid hl
    rw [hl]
    clear hl hn hI ho4 hB4 hW4 hpl
    go_wp2_with fail
    rw [← HW4.out]
    refine HPL.out.mono ?_
    rintro e5 w5 ⟨i, is, _, hpk, rfl, ho5⟩
    have hpk := hpk HLL.out
    rw [HNL.out] at hpk
    obtain ⟨y, hi', hmem, hch, hway⟩ := HWAY.out.down HI.out hpk (fun e he => by
     have := (HI.out.ok.kid e.c (by show e.c ∈ (x0 :: es).map Ent.c; exact List.mem_map_of_mem he)).1
     omega) HMAY.out
    have HWY := Lib.hid hway
    have HO5 := Lib.hid ho5
    have hb5 := HB4.out.only ho5 id
    have b0 : w5.cell? _ = some _ := hb5.cell 0
    have b1 : w5.cell? _ = some _ := hb5.cell 1
    have b2 : w5.cell? _ = some _ := hb5.cell 2
    have b3 : w5.cell? _ = some _ := hb5.cell 3
    have HRR5 := (((HRR.out.only HO3.out HOF2.out).only HO4.out id).only HO5.out id)
    have hcl := next_clo (pv := .slice pA n.pairs.length pc) (kv := .slice kA n.keys.length kc) (cv := .slice cA n.children.length cc) (i := i) false ((HN4.out.kids.only HO5.out fun _ _ => id).rd.mono (G := fun k => k ≠ o) fun k hk _ => by have h1 : wr.heap.size ≤ k := hk; have := HOL.out; have := HOR.out.size; omega) (by have := HKL.out; omega) (by have := HKL.out; have h9 := (List.getElem?_eq_some_iff.1 hch).1; rw [← HNL.out] at h9; omega) HRR5
    have HCL := Lib.hid hcl
    clear HRR5 hcl
    rw [← HNL.out] at hch
    have HCH := Lib.hid hch
    have HMY : Hid (Mays D y.P) := Lib.hid fun q hq => HMAY.out q (by rw [HI.out.P]; exact List.mem_cons_of_mem _ (List.mem_flatMap.2 ⟨y, hmem, hq⟩))
    have HB5 := Lib.hid hb5
    clear hpk hmem hch hway ho5 hb5
    go_wp2_with fail
    refine HCL.out.mono ?_
    rintro e6 w6 ⟨rfl, hr6, ho6⟩
    have hol := HOL.out
    have hwr := HOR.out.size
    have hs3 := HO3.out.size
    have hb6 := HB5.out.only ho6 (by show ¬ (w3.heap.size = o); omega)
    have HR6 := Lib.hid hr6
    have k3 : w6.cell? _ = some _ := hb6.cell 3
    have hil := (List.getElem?_eq_some_iff.1 HCH.out).1
    obtain ⟨g, off, c', hve, _, _, hcell⟩ := ((HN4.out.kids.only HO5.out fun _ _ => id).only ho6 fun k hk he => by have h1 : wr.heap.size ≤ k := hk; have h2 : k = o := he; omega).rd.open_ (by omega)
    injection hve with q1 q2 q3
    subst q1; subst q3
    have cc1 := hcell i (natV y.c) (by rw [List.getElem?_map, HCH.out]; rfl)
    unfold natV at cc1
    have hii : (i : Int) < (n.children.length : Int) := by omega
    have hi0 : (0 : Int) ≤ (i : Int) := by omega
    have HO6 := Lib.hid ho6
    clear hr6 hol hwr hs3 hb6 hcell q2 ho6 b0 b1 b2 b3
    go_wp2_with fail
    go_roundg (h + 1)
    case measure => omega
    case rel =>
     have hon : Only NoB w3 w5 := HO4.out.trans HO5.out
     refine ⟨h, y, hi', _, rfl, by omega, Lib.hid ⟨HWY.out, HMY.out, (HX3.out.quit hon).beside HO6.out HOF2.out HXO.out, ((HBR.out.only HO3.out HF2.out).only hon id).only HO6.out (by have := HOL.out; show ¬ (w.heap.size = o); omega), ?_, ?_⟩⟩
     ·exact ((HOR.out.trans' HO3.out fun k hk hf => .inl ((HG2.out k hf).elim id fun h => by omega)).trans (hon.mono fun _ _ h => h.elim)).trans (HO6.out.mono fun _ _ h => .inr h)
     ·rw [← HNL.out]; exact HR6.out
end
end Go.Proofs.YtpjfheadolphgaaGreat
namespace Go.Proofs.YtpjfheadolphgaaGreat
open Go.RowKit Go.Proofs
set_option maxRecDepth 20000
theorem results_row_tmp_tmp {P : Program} {fn : Func} {p u q : Tmp} {ty : TypeId} (h : fn.results = #[.cell p ty, .tmp u, .tmp q]) (tmps : Array Value) (w : World) (g : Nat) (t : TypeId) (cs : Array Value)
  (hp : tmps.getD p undef = .pointer (some ⟨g, 0, none⟩)) (hg : Blk w g t cs) (hu : (match P.underlying ty with | some (.struct _) | some (.array _ _) => true | _ => false) = true) (hi : (P.info? ty).map (·.size) = some cs.size) :
  (results fn tmps).run P w = .ok (.tuple #[.agg cs, tmps.getD u undef, tmps.getD q undef]) w := by
 have h1 := run_loadVar_blk (P := P) w g t cs hg hu hi
 have hp' : tmps[p]?.getD undef = .pointer (some ⟨g, 0, none⟩) := by simpa using hp
 simp [results, h, hp', asAddr, Result.andThen, h1]
section
variable {w w' : World} {F N K : Nat → Prop} {X : XC} {t x p r c h o i : Nat} {D D' : PD} {n : NodeD} {v pv kv cv : Value} {M : List KV} {key : Str} {cs : List Nat} {e y : Ent} {hi : Option Str}
def pairO : Option KV → Value
 | none => .agg #[.string ⟨#[]⟩, .string ⟨#[]⟩]
 | some p => .agg #[strV p.1, strV p.2]
def LeastOut (w : World) (F : Nat → Prop) (X : XC) (x t : Nat) (D : PD) (M : List KV) (en : Ending) (w' : World) : Prop :=
 ∃ p, M.head? = some p ∧ en = .returned (.tuple #[.agg #[.string ⟨p.1.toArray⟩, .string ⟨p.2.toArray⟩], .bool true, .int .i64 0]) ∧ TreeAt w' F X x t D ∧ Only F w w'
def LeastSt (w : World) (F : Nat → Prop) (X : XC) (x t : Nat) (D : PD) (M : List KV) (h : Nat) (e : Ent) (hi : Option Str) (wr : World) : Prop :=
 Sub D h e hi ∧ Mays D e.P ∧ e.M.head? = M.head? ∧ TreeAt wr F X x t D ∧ Blk wr w.heap.size 83 #[.string ⟨#[]⟩, .string ⟨#[]⟩] ∧ Only F w wr
set_option maxHeartbeats 2000000 in
theorem least_ok (h0 : TreeAt w F X x t D) (hs : Sub D h y hi) (hm : Mays D y.P) :
  Calls Tryz.prog 140 #[.pointer (some ⟨x, 0, none⟩), .int .i64 y.c] w (LeastOut w F X x t D y.M) := by
 obtain ⟨W1, hW1⟩ : ∃ W1, W1 = w.alloc (.cells #[.string ⟨#[]⟩, .string ⟨#[]⟩] 83) := ⟨_, rfl⟩
 have ho1 : Only NoB w W1 := by rw [hW1]; exact (Only.refl NoB w).alloc _
 have hB1 : Blk W1 w.heap.size 83 #[.string ⟨#[]⟩, .string ⟨#[]⟩] := by rw [hW1]; exact Blk.new w _ _
 have hFw : ∀ k, w.heap.size ≤ k → ¬ F k := fun k hk hf => by have := h0.tx.1 _ hf; omega
 have HST : Hid (LeastSt w F X x t D y.M h y hi W1) := Lib.hid ⟨hs, hm, rfl, h0.quit ho1, hB1, ho1.mono fun _ _ h => h.elim⟩
 have HFW := Lib.hid hFw
 have HXL := Lib.hid h0.blk.lt
 have HW1 := Lib.hid hW1
 clear h0 hs hm hW1 ho1 hB1 hFw
 go_enter Tryz.func140, Tryz.ntmps140
 go_wp2_with fail
 rw [← HW1.out]
 go_loopg [1] (h + 1) (fun g s1 wr => ∃ (h : Nat) (e : Ent) (hi : Option Str), s1 = .int .i64 e.c ∧ h < g ∧ Hid (LeastSt w F X x t D y.M h e hi wr))
 case atStart => exact ⟨h, y, hi, rfl, Nat.lt_succ_self _, HST⟩
 case round =>
  clear HST
  obtain ⟨h, e, hi, rfl, hg, hst⟩ := hrel
  obtain ⟨hsub, hmay, hhd, hxr, hbr, hor⟩ := hst.out
  obtain ⟨n, hnode⟩ := sub_node hsub
  obtain ⟨P, hP⟩ := sub_c hsub
  obtain ⟨his, hus⟩ := hmay e.c (by rw [hP]; simp)
  obtain ⟨hlf, hne⟩ := isNode_leaf hsub hnode
  have HL := Lib.hid (load_ok hxr his hus hnode.1 hnode.2.1 hne)
  have HND := Lib.hid hnode
  have HMAY := Lib.hid hmay
  have HHD := Lib.hid hhd
  have HBR := Lib.hid hbr
  have HOR := Lib.hid hor
  have HLF := Lib.hid hlf
  have HNE := Lib.hid hne
  have HSUB := Lib.hid hsub
  clear hsub hmay hhd hxr hbr hor hnode hlf hne hst hP his hus
  go_wp2_with fail
  refine HL.out.mono ?_
  rintro e3 w3 ⟨pv, kv, cv, rfl, hn3, hx3, ho3⟩
  obtain ⟨pA, pc, kA, kc, cA, cc, rfl, rfl, rfl⟩ := hn3.r.shape
  have hbo := HBR.out.only ho3 (HFW.out _ (Nat.le_refl _))
  have hor3 := HOR.out.trans ho3
  unfold nodeV
  rcases h with _ | h
  ·have hl : n.leaf = true := by rw [HLF.out]; rfl
   have hnn : n = leafN e.M := by
    rcases HND.out.2.2 with ⟨_, hn⟩ | ⟨h', _, _, h0, _⟩
    ·exact hn
    ·cases h0
   have hpl : 0 < n.pairs.length := List.length_pos_iff.2 (HNE.out hl)
   obtain ⟨g, off, c', hve, _, _, hcell⟩ := hn3.pairs.rd.open_ (by omega)
   injection hve with q1 q2 q3
   subst q1; subst q3
   obtain ⟨a, b, ps', hps⟩ : ∃ a b ps', n.pairs = (a, b) :: ps' := by
    cases hq : n.pairs with
    | nil => rw [hq] at hpl; cases hpl
    | cons p ps' => exact ⟨p.1, p.2, ps', rfl⟩
   have c1 := hcell 0 (strV a) (by rw [hps]; rfl)
   have c2 := hcell 1 (strV b) (by rw [hps]; rfl)
   unfold strV at c1 c2
   rw [Nat.add_zero] at c1
   have hhd : y.M.head? = some (a, b) := by rw [← HHD.out, show e.M = n.pairs by rw [hnn]; rfl, hps]; rfl
   have hgw : g < w3.heap.size := World.block_lt_of_cell? _ _ c1
   obtain ⟨W4, hW4⟩ : ∃ W4, W4 = w3.alloc (.cells #[.bool true, .slice (some ⟨g, off, none⟩) n.pairs.length pc, .slice kA n.keys.length kc, .slice cA n.children.length cc] 200) := ⟨_, rfl⟩
   have ho4 : Only NoB w3 W4 := by rw [hW4]; exact (Only.refl NoB w3).alloc _
   have hb4 := hbo.only ho4 id
   obtain ⟨hbf, hst⟩ := set2 hb4 (.string ⟨a.toArray⟩) (.string ⟨b.toArray⟩)
   have c1 := ho4.cell c1 id
   have c2 := ho4.cell c2 id
   have o0 := hb4.cell 0
   have o1 := hb4.cell 1
   have p0 := hb4.frozen 0
   have p1 := hb4.frozen 1
   have HE : Hid (TreeAt _ F X x t D ∧ Only F w _) := Lib.hid ⟨(hx3.quit ho4).beside hst (HFW.out _ (Nat.le_refl _)) (by have := HXL.out; omega), only_at (hor3.trans (ho4.mono fun _ _ h => h.elim)) hst (Nat.le_refl _)⟩
   have HBF := Lib.hid hbf
   have HHD2 := Lib.hid hhd
   have hpl0 : ((n.pairs.length : Int) == 0) = false := by rw [beq_eq_false_iff_ne]; omega
   have hpl1 : ¬ ((n.pairs.length : Int) = 0) := by omega
   rw [hW4] at c1 c2 o0 o1 p0 p1
   rw [hl]
   rw [hW4] at HBF HE
   clear hl hnn hcell q2 hps hhd hW4 ho4 hb4 hbf hst hbo hor3 hn3 hx3 ho3
   go_wp2_with fail
   (try simp only [Exit.inBlock, Exit.then])
   refine bodyPost_ret (results_row_tmp_tmp rfl _ _ w.heap.size 83 _ rfl HBF.out (by kernel_rfl) (by kernel_rfl)) rfl ?_
   exact ⟨(a, b), HHD2.out, rfl, HE.out.1, HE.out.2⟩
  ·have hl : n.leaf = false := by rw [HLF.out]; rfl
   obtain ⟨x0, es, hI, hn⟩ : ∃ x0 es, In D h e hi x0 es ∧ n = innerN (x0 :: es) := by
    rcases HND.out.2.2 with ⟨h0, _⟩ | ⟨h', x0, es, h0, hI, hn⟩
    ·cases h0
    ·injection h0 with h0; subst h0; exact ⟨x0, es, hI, hn⟩
   have hcl : 0 < n.children.length := by rw [hn]; simp [innerN]
   have hcc : n.children[0]? = some x0.c := by rw [hn]; rfl
   obtain ⟨g, off, c', hve, _, _, hcell⟩ := hn3.kids.rd.open_ (by omega)
   injection hve with q1 q2 q3
   subst q1; subst q3
   have c1 := hcell 0 (natV x0.c) (by rw [List.getElem?_map, hcc]; rfl)
   unfold natV at c1
   rw [Nat.add_zero] at c1
   obtain ⟨W4, hW4⟩ : ∃ W4, W4 = w3.alloc (.cells #[.bool false, .slice pA n.pairs.length pc, .slice kA n.keys.length kc, .slice (some ⟨g, off, none⟩) n.children.length cc] 200) := ⟨_, rfl⟩
   have ho4 : Only NoB w3 W4 := by rw [hW4]; exact (Only.refl NoB w3).alloc _
   have c1 := ho4.cell c1 id
   have hss := sub_facts hI.chain.1
   have hnext : LeastSt w F X x t D y.M h x0 (nxt hi es) W4 := ⟨hI.chain.1, fun q hq => HMAY.out q (by rw [hI.P]; exact List.mem_cons_of_mem _ (List.mem_flatMap.2 ⟨x0, by simp, hq⟩)), by
    rw [← HHD.out, hI.M, flatM_cons, List.head?_append]
    cases hq : x0.M with
    | nil => exact (hss.ne hq).elim
    | cons p l => rfl, hx3.quit ho4, hbo.only ho4 id, hor3.trans (ho4.mono fun _ _ h => h.elim)⟩
   have HNX := Lib.hid hnext
   have HW4 := Lib.hid hW4
   rw [hW4] at c1
   rw [hl]
   clear hl hn hcc hcell q2 hW4 ho4 hbo hor3 hn3 hx3 ho3 hI hss hnext
   go_wp2_with fail
   rw [← HW4.out]
   go_roundg (h + 1)
   case measure => omega
   case rel => exact ⟨h, x0, _, rfl, Nat.lt_succ_self _, HNX⟩
end
end Go.Proofs.YtpjfheadolphgaaGreat
namespace Go.Proofs.YtpjfheadolphgaaGreat
open Go.RowKit Go.Proofs
set_option maxRecDepth 20000
section
variable {w w' : World} {F N K : Nat → Prop} {X : XC} {t x p r c h o i : Nat} {D D' : PD} {n : NodeD} {v pv kv cv : Value} {M ps : List KV} {key : Str} {cs : List Nat} {e y : Ent} {hi : Option Str}
theorem pairO_some (p : KV) : pairO (some p) = .agg #[.string ⟨p.1.toArray⟩, .string ⟨p.2.toArray⟩] := rfl
theorem pairO_none : pairO none = .agg #[.string ⟨#[]⟩, .string ⟨#[]⟩] := rfl
set_option maxHeartbeats 4000000 in
theorem bnext_ok (h : TxAt w F X t D) (hb : Bt D M c) :
  Calls Tryz.prog 51 #[.pointer (some ⟨t, 0, none⟩), .string ⟨key.toArray⟩] w (DeedT w F X t (.tuple #[pairO (next key M), .bool (next key M).isSome, .int .i64 0]) D) := by
 have hlt : ∀ k, F k → k < w.heap.size := h.lt
 obtain ⟨W0, hW0⟩ : ∃ W0, W0 = w.alloc (.cells #[.string ⟨#[]⟩, .string ⟨#[]⟩] 83) := ⟨_, rfl⟩
 have ho0 : Only NoB w W0 := by rw [hW0]; exact (Only.refl NoB w).alloc _
 have hB0 : Blk W0 w.heap.size 83 #[.string ⟨#[]⟩, .string ⟨#[]⟩] := by rw [hW0]; exact Blk.new w _ _
 have HOF := Lib.hid (of_ok (h.quit ho0) hb.1.m1 hb.1.m2)
 have HLT := Lib.hid hlt
 have HB := Lib.hid hb
 have HB0 := Lib.hid hB0
 have HO0 := Lib.hid ho0
 have HW0 := Lib.hid hW0
 clear h hlt hb ho0 hB0 hW0
 go_enter Tryz.func51, Tryz.ntmps51
 go_wp2_with fail
 rw [← HW0.out]
 refine HOF.out.mono ?_
 rintro e1 w1 ⟨x, rfl, ht1, hx1, ho1, hxl⟩
 obtain ⟨W2, hW2⟩ : ∃ W2, W2 = w1.alloc (.cells #[.int .i64 0] 3) := ⟨_, rfl⟩
 have ho2 : Only NoB w1 W2 := by rw [hW2]; exact (Only.refl NoB w1).alloc _
 have hB2 : Blk W2 w1.heap.size 3 #[.int .i64 0] := by rw [hW2]; exact Blk.new w1 _ _
 have hs0 := HO0.out.size
 have hs1 := ho1.size
 have hwl : w.heap.size < W0.heap.size := HB0.out.lt
 have hxl1 := hx1.lt
 have hFw : ∀ k, w.heap.size ≤ k → ¬ F k := fun k hk hf => by have := HLT.out k hf; omega
 have hdn := down_next (key := key) (ht1.quit ho2) (hx1.only ho2 id) (hFw x (by omega)) HB.out.1.m1 HB.out hB2 (hFw _ (by omega)) (by omega)
 have HDN := Lib.hid hdn
 have HW2 := Lib.hid hW2
 have HFW := Lib.hid hFw
 have HSZ : Hid (w.heap.size < x ∧ x < w1.heap.size ∧ w.heap.size < w1.heap.size) := Lib.hid ⟨by omega, hxl1, by omega⟩
 have HB2 := Lib.hid ((HB0.out.only ho1 id).only ho2 id)
 have HO2 : Hid (Only NoB w W2) := Lib.hid ((HO0.out.trans ho1).trans ho2)
 clear ht1 hx1 ho1 hxl hW2 ho2 hB2 hs0 hs1 hwl hxl1 hFw hdn
 go_wp2_with fail
 rw [← HW2.out]
 refine HDN.out.mono ?_
 rintro e3 w3 ⟨ps, r, pv, kv, cv, F3, rfl, hnx, hsrt, hpl, hnd, hx3, hr3, ho3, hg3⟩
 obtain ⟨pA, pc, kA, kc, cA, cc, rfl, rfl, rfl⟩ := hnd.r.shape
 have hnd : NodeO w3 (From W2.heap.size) (.slice pA ps.length pc) (.slice kA 0 kc) (.slice cA 0 cc) (leafN ps) := hnd
 obtain ⟨W4, hW4⟩ : ∃ W4, W4 = w3.alloc (.cells #[.bool true, .slice pA ps.length pc, .slice kA 0 kc, .slice cA 0 cc] 200) := ⟨_, rfl⟩
 have ho4 : Only NoB w3 W4 := by rw [hW4]; exact (Only.refl NoB w3).alloc _
 have hB4 : Blk W4 w3.heap.size 200 #[.bool true, .slice pA ps.length pc, .slice kA 0 kc, .slice cA 0 cc] := by rw [hW4]; exact Blk.new w3 _ _
 have hpl2 : Calls Tryz.prog 139 #[nodeV true (.slice pA ps.length pc) (.slice kA 0 kc) (.slice cA 0 cc), .string ⟨key.toArray⟩] W4 (PlaceOut ⟨true, ps, [], []⟩ key W4) := (place_leaf (key := key) (ps := ps) (ks := []) (cs := []) (hnd.quit ho4).r hsrt (by omega))
 have hsz := HSZ.out
 have hs2 := HO2.out.size
 have hon3 : Only F w w3 := (HO2.out.mono fun _ _ h => h.elim).trans' ho3 fun k hk hf => by
  rcases hf with hf | hf
  ·exact hf
  ·omega
 have hgr : Grows F F3 w := fun k hk => (hg3 k hk).imp id fun h => by omega
 have hF3 : ∀ k, w.heap.size ≤ k → k < W2.heap.size → ¬ F3 k := fun k h1 h2 hf => by
  rcases hg3 k hf with h3 | h3
  ·exact HFW.out k h1 h3
  ·omega
 have hw1 : w1.heap.size < W2.heap.size := by rw [HW2.out]; simp
 have hb0 := HB2.out.only ho3 (fun hf => by rcases hf with hf | hf; (· exact HFW.out _ (Nat.le_refl _) hf); (· omega))
 have HPC := Lib.hid hpl2
 have HND := Lib.hid (hnd.quit ho4)
 have HB4 := Lib.hid hB4
 have HW4 := Lib.hid hW4
 have HNX := Lib.hid hnx
 have HX4 := Lib.hid (hx3.quit ho4)
 have HR4 := Lib.hid (hr3.only ho4 id)
 have HON4 : Hid (Only F w W4) := Lib.hid (hon3.trans (ho4.mono fun _ _ h => h.elim))
 have HGR := Lib.hid hgr
 have HF3 : Hid (¬ F3 w.heap.size ∧ ¬ F3 w1.heap.size) := Lib.hid ⟨hF3 _ (Nat.le_refl _) (by omega), hF3 _ (by omega) hw1⟩
 have HB04 := Lib.hid (hb0.only ho4 id)
 have HHL := Lib.hid hb0.lt
 clear hpl2 hnd hB4 hW4 hnx hx3 hr3 ho3 hg3 hon3 hgr hF3 hw1 hb0 ho4 hs2 hsz hsrt
 unfold nodeV leafN
 go_wp2_with fail
 rw [← HW4.out]
 refine HPC.out.mono ?_
 rintro e5 w5 ⟨i, is, hpp, _, rfl, ho5⟩
 have hpp : PlaceP ps key i is := hpp rfl
 have hnl := next_leaf hpp
 have hil : i ≤ ps.length := by obtain ⟨a, b, hab, rfl, _, _⟩ := hpp; rw [hab]; simp
 have hb9 := HB4.out.only ho5 id
 have hr5 := HR4.out.only ho5 id
 have hb05 := HB04.out.only ho5 id
 have hx5 := HX4.out.quit ho5
 have hon5 : Only F w w5 := HON4.out.trans (ho5.mono fun _ _ h => h.elim)
 have m1 : w5.cell? _ = some _ := hb9.cell 1
 have r0 : w5.cell? _ = some _ := hr5.cell 0
 have o0 := hb05.cell 0
 have o1 := hb05.cell 1
 have p0 := hb05.frozen 0
 have p1 := hb05.frozen 1
 obtain ⟨j, hj⟩ : ∃ j, j = i + if is then 1 else 0 := ⟨_, rfl⟩
 rw [← hj] at hnl
 have HPR := Lib.hid ((HND.out.pairs.only ho5 fun _ _ => id).rd)
 have HNL := Lib.hid hnl
 have HX5 := Lib.hid hx5
 have HON5 := Lib.hid hon5
 have HB05 := Lib.hid hb05
 have hjl : j ≤ ps.length + 1 := by rw [hj]; split <;> omega
 have HJ := Lib.hid hj
 have hpl' : ps.length ≤ 4096 := hpl
 clear hpp hnl hb9 hr5 hb05 hx5 hon5 ho5 hj hpl
 have hi1 : (i : Int) ≤ 4096 := by omega
 have hi0 : (0 : Int) ≤ (i : Int) := by omega
 go_upto_if 39 with fail
 go_cut [11] (fun s11 wc => s11 = .int .i64 (j : Int) ∧ w5 = wc)
 case first =>
  cases is with
  | true =>
   go_wp2_with fail
   go_meet
   exact ⟨by rw [HJ.out]; rfl, rfl⟩
  | false =>
   go_wp2_with fail
   go_meet
   exact ⟨by rw [HJ.out]; rfl, rfl⟩
 case rest =>
  obtain ⟨rfl, hwc⟩ := hcut
  subst hwc
  clear hi1 hi0
  by_cases hjp : j < ps.length
  ·obtain ⟨g, off, c', hve, _, _, hcell⟩ := HPR.out.open_ (by show 0 < ps.length * 2; omega)
   injection hve with q1 q2 q3
   subst q1; subst q3
   obtain ⟨p, hp⟩ : ∃ p, p = ps[j] := ⟨_, rfl⟩
   obtain ⟨c1, c2⟩ := pairL_get (ps := ps) (i := j) (p := p) (by rw [List.getElem?_eq_getElem hjp, hp])
   have c1 := hcell _ _ c1
   have c2 := hcell _ _ c2
   rw [← Nat.add_assoc] at c2
   unfold strV at c1 c2
   have hn1 : next key M = some p := by
    have hn := HNL.out
    rw [List.getElem?_eq_getElem hjp, ← hp] at hn
    by_cases hr : r = 0
    ·rw [HNX.out.1 hr]; exact hn
    ·obtain ⟨_, _, _, _, _, _, hq⟩ := HNX.out.2 hr
     rw [hq, hn]; rfl
   have HN1 := Lib.hid hn1
   have hji : (j : Int) < (ps.length : Int) := by omega
   have hj0 : (0 : Int) ≤ (j : Int) := by omega
   obtain ⟨hbf, hst⟩ := set2 HB05.out (.string ⟨p.1.toArray⟩) (.string ⟨p.2.toArray⟩)
   have HBF := Lib.hid hbf
   have HE : Hid (∃ F', TxLd _ F' X t D ∧ Only F w _ ∧ Grows F F' w) := Lib.hid ⟨F3, TxQ.only HX5.out.tx hst fun k hk e => HF3.out.1 (e ▸ hk), only_at HON5.out hst (Nat.le_refl _), HGR.out⟩
   clear hbf hst hn1 hcell q2 hp r0
   go_wp2_with fail
   (try simp only [Exit.inBlock, Exit.then])
   refine bodyPost_ret (results_row_tmp_tmp rfl _ _ w.heap.size 83 _ rfl HBF.out (by kernel_rfl) (by kernel_rfl)) rfl ?_
   exact ⟨by rw [HN1.out]; rfl, HE.out⟩
  ·have hn0 : next key ps = none := by rw [HNL.out]; exact List.getElem?_eq_none (by omega)
   have hji : ¬ (j : Int) < (ps.length : Int) := by omega
   by_cases hr : r = 0
   ·have HN1 : Hid (next key M = none) := Lib.hid (by rw [HNX.out.1 hr]; exact hn0)
    subst hr
    have r0 : w5.cell? _ = some (Value.int .i64 0) := r0
    obtain ⟨hbf, hst⟩ := set2 HB05.out (.string ⟨#[]⟩) (.string ⟨#[]⟩)
    have HBF := Lib.hid hbf
    have HE : Hid (∃ F', TxLd _ F' X t D ∧ Only F w _ ∧ Grows F F' w) := Lib.hid ⟨F3, TxQ.only HX5.out.tx hst fun k hk e => HF3.out.1 (e ▸ hk), only_at HON5.out hst (Nat.le_refl _), HGR.out⟩
    clear hbf hst hn0
    go_wp2_with fail
    (try simp only [Exit.inBlock, Exit.then])
    refine bodyPost_ret (results_row_tmp_tmp rfl _ _ w.heap.size 83 _ rfl HBF.out (by kernel_rfl) (by kernel_rfl)) rfl ?_
    exact ⟨by rw [HN1.out]; rfl, HE.out⟩
   ·obtain ⟨h', y, hi', hsy, hyc, hmy, hq⟩ := HNX.out.2 hr
    have hle := least_ok HX5.out hsy hmy
    rw [hyc] at hle
    have HLE := Lib.hid hle
    have HN1 : Hid (next key M = y.M.head?) := Lib.hid (by rw [hq, hn0]; rfl)
    have hrb : ((r : Int) == 0) = false := by rw [beq_eq_false_iff_ne]; omega
    have hrc : ¬ ((r : Int) = 0) := by omega
    clear hsy hyc hmy hq hle hn0 hr
    go_wp2_with fail
    refine HLE.out.mono ?_
    rintro e7 w7 ⟨p, hp, rfl, hx7, ho7⟩
    have hb7 := HB05.out.only ho7 HF3.out.1
    have o0 := hb7.cell 0
    have o1 := hb7.cell 1
    have p0 := hb7.frozen 0
    have p1 := hb7.frozen 1
    obtain ⟨hbf, hst⟩ := set2 hb7 (.string ⟨p.1.toArray⟩) (.string ⟨p.2.toArray⟩)
    have HBF := Lib.hid hbf
    have HPP := Lib.hid hp
    have HE : Hid (∃ F', TxLd _ F' X t D ∧ Only F w _ ∧ Grows F F' w) := Lib.hid ⟨F3, TxQ.only hx7.tx hst fun k hk e => HF3.out.1 (e ▸ hk), only_at (HON5.out.trans' ho7 fun k hk hf => (HGR.out k hf).elim id fun h => by omega) hst (Nat.le_refl _), HGR.out⟩
    clear hbf hst hb7 hx7 ho7 hp
    go_wp2_with fail
    (try simp only [Exit.inBlock, Exit.then])
    refine bodyPost_ret (results_row_tmp_tmp rfl _ _ w.heap.size 83 _ rfl HBF.out (by kernel_rfl) (by kernel_rfl)) rfl ?_
    exact ⟨by rw [HN1.out, HPP.out]; rfl, HE.out⟩
end
end Go.Proofs.YtpjfheadolphgaaGreat
namespace Go.Proofs.YtpjfheadolphgaaGreat
def hasP (p s : Str) : Bool := decide (s.take p.length = p)
def under (p : Str) (M : List KV) : List KV := M.filter fun x => hasP p x.1
def behind (k : Str) (M : List KV) : List KV := M.filter fun x => decide (lts k x.1)
theorem hasP_nil (s : Str) : hasP [] s = true := by simp [hasP]
theorem hasP_self (p : Str) : hasP p p = true := by simp [hasP]
theorem hasP_cons {x y : UInt8} {p s : Str} : hasP (x :: p) (y :: s) = (decide (x = y) && hasP p s) := by
 unfold hasP
 rw [List.length_cons, List.take_succ_cons]
 by_cases h : x = y
 ·subst h; simp
 ·simp [h, Ne.symm h]
theorem hasP_cons_nil {x : UInt8} {p : Str} : hasP (x :: p) [] = false := by simp [hasP]
theorem hasP_les : ∀ {p s : Str}, hasP p s = true → les p s
 | [], s, _ => nil_les s
 | x :: p, [], h => by rw [hasP_cons_nil] at h; cases h
 | x :: p, y :: s, h => by
  rw [hasP_cons] at h
  simp at h
  obtain ⟨rfl, h⟩ := h
  intro hl
  rcases lts_cons.1 hl with h1 | ⟨_, h1⟩
  ·exact UInt8.lt_irrefl _ h1
  ·exact hasP_les h h1
theorem hasP_between : ∀ {p a b c : Str}, hasP p a = true → lts a b → hasP p b = false → lts b c → hasP p c = false
 | [], a, b, c, _, _, h, _ => by rw [hasP_nil] at h; cases h
 | x :: p, [], b, c, h, _, _, _ => by rw [hasP_cons_nil] at h; cases h
 | x :: p, y :: a, [], c, _, h, _, _ => (lts_nil _ h).elim
 | x :: p, y :: a, z :: b, [], _, _, _, h => (lts_nil _ h).elim
 | x :: p, y :: a, z :: b, u :: c, h1, h2, h3, h4 => by
  rw [hasP_cons] at h1 h3 ⊢
  simp at h1
  obtain ⟨rfl, h1⟩ := h1
  by_cases hxu : x = u
  ·subst hxu
   have hxz : x = z := by
    rcases lts_cons.1 h2 with q | ⟨q, _⟩
    ·rcases lts_cons.1 h4 with r | ⟨r, _⟩
     ·exact (UInt8.lt_irrefl _ (UInt8.lt_trans q r)).elim
     ·exact r.symm
    ·exact q
   subst hxz
   have q2 : lts a b := by rcases lts_cons.1 h2 with q | ⟨_, q⟩; (· exact (UInt8.lt_irrefl _ q).elim); (· exact q)
   have q4 : lts b c := by rcases lts_cons.1 h4 with q | ⟨_, q⟩; (· exact (UInt8.lt_irrefl _ q).elim); (· exact q)
   simp at h3 ⊢
   exact hasP_between h1 q2 h3 q4
  ·simp [hxu]
theorem next_behind (k : Str) : ∀ M : List KV, next k M = (behind k M).head?
 | [] => rfl
 | x :: M => by
  rw [next, behind]
  split
  ·rename_i h; rw [List.filter_cons_of_pos (by simpa using h)]; rfl
  ·rename_i h; rw [List.filter_cons_of_neg (by simpa using h)]; exact next_behind k M
theorem under_nil {p : Str} {l : List KV} (h : ∀ x ∈ l, hasP p x.1 = false) : under p l = [] := by
 unfold under
 rw [List.filter_eq_nil_iff]
 intro x hx
 rw [h x hx]; simp
theorem behind_next {k : Str} {M : List KV} (hs : Srt M) {x : KV} (h : next k M = some x) : behind k M = x :: behind x.1 M ∧ lts k x.1 ∧ x ∈ M := by
 induction M with
 | nil => cases h
 | cons y M ih =>
  have hs' := List.pairwise_cons.1 hs
  rw [next] at h
  by_cases hy : lts k y.1
  ·rw [if_pos hy] at h
   injection h with h
   subst h
   refine ⟨?_, hy, by simp⟩
   unfold behind
   rw [List.filter_cons_of_pos (by simpa using hy), List.filter_cons_of_neg (by simpa using lts_irrefl y.1)]
   congr 1
   apply List.filter_congr
   intro z hz
   have h1 := hs'.1 z hz
   simp [h1, lts_trans hy h1]
  ·rw [if_neg hy] at h
   obtain ⟨i1, i2, i3⟩ := ih hs'.2 h
   refine ⟨?_, i2, by simp [i3]⟩
   have hxy : ¬ lts x.1 y.1 := lts_asymm (hs'.1 x i3)
   unfold behind at i1 ⊢
   rw [List.filter_cons_of_neg (by simpa using hy), List.filter_cons_of_neg (by simpa using hxy), i1]
theorem under_none {p k : Str} {M : List KV} (h : next k M = none) : under p (behind k M) = [] := by
 rw [next_behind] at h
 have : behind k M = [] := List.head?_eq_none_iff.1 h
 rw [this]; rfl
theorem under_far {p k : Str} {M : List KV} (hs : Srt M) (hk : hasP p k = true) {x : KV} (h : next k M = some x) (hx : hasP p x.1 = false) : under p (behind k M) = [] := by
 obtain ⟨h1, h2, h3⟩ := behind_next hs h
 rw [h1]
 apply under_nil
 intro y hy
 rcases List.mem_cons.1 hy with rfl | hy
 ·exact hx
 ·have : lts x.1 y.1 := by simpa using (List.mem_filter.1 hy).2
  exact hasP_between hk h2 hx this
theorem under_step {p k : Str} {M : List KV} (hs : Srt M) {x : KV} (h : next k M = some x) (hx : hasP p x.1 = true) : under p (behind k M) = x :: under p (behind x.1 M) := by
 obtain ⟨h1, h2, h3⟩ := behind_next hs h
 rw [h1]
 unfold under
 rw [List.filter_cons_of_pos (by simpa using hx)]
theorem under_start {p : Str} : ∀ {M : List KV}, Srt M → under p M = (match get p M with | some v => [(p, v)] | none => []) ++ under p (behind p M)
 | [], _ => rfl
 | x :: M, hs => by
  have hs' := List.pairwise_cons.1 hs
  have ih := under_start (p := p) hs'.2
  rcases lts_total x.1 p with h | h | h
  ·have hx : hasP p x.1 = false := by
    cases hq : hasP p x.1 with
    | false => rfl
    | true => exact (hasP_les hq h).elim
   rw [get, if_neg (lts_ne h)]
   unfold under behind at ih ⊢
   rw [List.filter_cons_of_neg (by simp [hx]), List.filter_cons_of_neg (by simpa using lts_asymm h), ih]
  ·have hb : behind p (x :: M) = M := by
    unfold behind
    rw [List.filter_cons_of_neg (by rw [h]; simpa using lts_irrefl p), List.filter_eq_self]
    intro y hy
    rw [← h]; simpa using hs'.1 y hy
   rw [hb, get, if_pos h]
   unfold under
   rw [List.filter_cons_of_pos (by rw [h]; exact hasP_self p)]
   obtain ⟨a, b⟩ := x
   simp only at h
   rw [h]; rfl
  ·have hb : behind p (x :: M) = x :: M := by
    unfold behind
    rw [List.filter_eq_self]
    intro y hy
    rcases List.mem_cons.1 hy with rfl | hy
    ·simpa using h
    ·simpa using lts_trans h (hs'.1 y hy)
   have hg : get p (x :: M) = none := get_none fun y hy e => by
    rcases List.mem_cons.1 hy with rfl | hy
    ·exact lts_ne h e.symm
    ·exact lts_ne (lts_trans h (hs'.1 y hy)) e.symm
   rw [hb, hg]; rfl
end Go.Proofs.YtpjfheadolphgaaGreat
namespace Go.Proofs.YtpjfheadolphgaaGreat
open Go.RowKit Go.Proofs
set_option maxRecDepth 20000
def Abid (B : Nat) (T : World → (Nat → Prop) → Prop) : Prop := ∀ (W W' : World) (G S : Nat → Prop), T W G → (∀ q, S q → B ≤ q ∧ ¬ G q ∧ ∃ o : Obj, W.heap[q]? = some o ∧ o.isCells = false) → Only S W W' → T W' G
def IterS (n : Nat) (P : Program) (gf : Nat) (lb : Array Value) (encs : Nat → Array Value) (T T0 : World → (Nat → Prop) → Prop) (N : Nat) : Prop :=
 ∀ (l : Nat) (J : Nat → World → (Nat → Prop) → Prop) (Jx : Nat → World → Prop) (W : World) (G : Nat → Prop),
  (∀ k W1 G1, J k W1 G1 → T W1 G1 ∧ ∀ W2 G2, T W2 G2 → Only G1 W1 W2 → Grows G1 G2 W1 → J k W2 G2) →
  (∀ k W1 G1, k < N → J k W1 G1 → YieldAt Fence.wide (n - 1) P l (encs k) W1 fun e W' => (e = .returned (.bool true) ∧ J (k + 1) W' G1 ∧ ∀ q, G1 q → W'.heap[q]? = W1.heap[q]?) ∨ (e = .returned (.bool false) ∧ Jx (k + 1) W')) →
  J 0 W G → T0 W G → CallsIn Fence.wide n P gf (#[.func (.yield l) #[] #[]] ++ lb) W fun e W' => (∃ v, e = .returned v) ∧ ((∃ G', J N W' G') ∨ ∃ k, k ≤ N ∧ Jx k W')
def IterT (n : Nat) (P : Program) (gf : Nat) (lb : Array Value) (encs : Nat → Array Value) (T : World → (Nat → Prop) → Prop) (N : Nat) : Prop :=
 ∀ (l : Nat) (J : Nat → World → (Nat → Prop) → Prop) (Jx : Nat → World → Prop) (W : World) (G : Nat → Prop),
  (∀ k W1 G1, J k W1 G1 → T W1 G1 ∧ ∀ W2 G2, T W2 G2 → Only G1 W1 W2 → Grows G1 G2 W1 → J k W2 G2) →
  (∀ k W1 G1, k < N → J k W1 G1 → YieldAt Fence.wide (n - 1) P l (encs k) W1 fun e W' => (e = .returned (.bool true) ∧ J (k + 1) W' G1 ∧ ∀ q, G1 q → W'.heap[q]? = W1.heap[q]?) ∨ (e = .returned (.bool false) ∧ Jx (k + 1) W')) →
  J 0 W G → CallsIn Fence.wide n P gf (#[.func (.yield l) #[] #[]] ++ lb) W fun e W' => (∃ v, e = .returned v) ∧ ((∃ G', J N W' G') ∨ ∃ k, k ≤ N ∧ Jx k W')
def roundEnd (B : Nat) (T : World → (Nat → Prop) → Prop) (I : Nat → World → (Nat → Prop) → Prop) (Ix : Code → Nat → World → (Nat → Prop) → Prop) (k : Nat) (G : Nat → Prop) (W : World) : Exit → Act → World → Prop
 | .normal, _, W' => (∀ q, G q → W'.heap[q]? = W.heap[q]?) ∧ (∀ q (o : Obj), B ≤ q → W.heap[q]? = some o → o.isCells = false → W'.heap[q]? = some o) ∧ T W' G ∧ I (k + 1) W' G
 | .ret, _, W' => (∀ q (o : Obj), B ≤ q → W.heap[q]? = some o → o.isCells = false → W'.heap[q]? = some o) ∧ T W' G ∧ Ix .ret (k + 1) W' G
 | .exit id, _, W' => (∀ q (o : Obj), B ≤ q → W.heap[q]? = some o → o.isCells = false → W'.heap[q]? = some o) ∧ T W' G ∧ Ix (.exit id) (k + 1) W' G
 | .goto _, _, _ => False
 | .panic _, _, _ => False
 | .outgrown, _, _ => False
theorem put_only (W : World) (q : Nat) (o : Obj) : Only (fun k => k = q) W (W.putObj q o) := (Only.of_grown (grownBy_putObj' W q o)).mono fun k _ h => by injection h with h; exact h.symm
theorem Abid.put {B : Nat} {T : World → (Nat → Prop) → Prop} (h : Abid B T) {W : World} {G : Nat → Prop} {q : Nat} {o : Obj} (o' : Obj) (hT : T W G) (hB : B ≤ q) (hq : ¬ G q) (ho : W.heap[q]? = some o) (hc : o.isCells = false) : T (W.putObj q o') G :=
 h W _ G _ hT (fun k hk => by rw [hk]; exact ⟨hB, hq, o, ho, hc⟩) (put_only W q o')
theorem Abid.quit {B : Nat} {T : World → (Nat → Prop) → Prop} (h : Abid B T) {W W' : World} {G : Nat → Prop} (hT : T W G) (ho : Only NoB W W') : T W' G := h W W' G NoB hT (fun _ h => h.elim) ho
theorem range_ts {P : Program} {n gf N : Nat} {lb : Array Value} {encs : Nat → Array Value} {T T0 : World → (Nat → Prop) → Prop} {g : Operand} {ps : Array Tmp} {assign body : Code} {Q : Exit → Act → World → Prop} {a : Act} {w : World} {G0 : Nat → Prop}
  (hT : Abid w.heap.size T) (hTl : ∀ W G, T W G → ∀ k, G k → k < W.heap.size) (hg : a.eval g = .func (.func gf) #[] lb) (eg : ∀ args w, (callFunc gf args).run P w = .ok (.enter gf args) w) (hT0 : Abid w.heap.size T0) (t0 : T0 w G0) (hseq : IterS (n - 1) P gf lb encs T T0 N) (hps : ∀ k, (encs k).size = ps.size)
  (I : Nat → World → (Nat → Prop) → Prop) (hI : ∀ k, Abid w.heap.size (I k)) (hIT : ∀ k W G W2 G2, T W G → I k W G → T W2 G2 → Only G W W2 → Grows G G2 W → I k W2 G2) (Ix : Code → Nat → World → (Nat → Prop) → Prop) (hIx : ∀ c k, Abid w.heap.size (Ix c k)) (h0 : T w G0) (i0 : I 0 w G0)
  (Ax : Nat → Act → World → Prop) (hAx : ∀ k a', Abid w.heap.size (fun W _ => Ax k a' W))
  (hassign : ∀ (l k : Nat) (W : World) (G : Nat → Prop) (K : Act → World → Prop), k < N → T W G → I k W G → (∀ a' W', Only NoB W W' → T W' G → I k W' G → Ax k a' W' → K a' W') →
   assign.wpIn (Fence.wide.inRound l) (n - 1 - 1) P (Exit.then K (fun _ _ _ => False)) { tmps := (ps.zip (encs k)).foldl (fun t (p, v) => t.setIfInBounds p v) a.tmps, defers := [] } W)
  (hbody : ∀ (l k : Nat) (a' : Act) (W : World) (G : Nat → Prop), k < N → w.heap.size ≤ l → T W G → I k W G → Ax k a' W → body.wpIn (Fence.wide.inRound l) (n - 1 - 1) P (roundEnd w.heap.size T I Ix k G W) a' W)
  (hdone : ∀ (d : Nat) (W : World) (G : Nat → Prop), w.heap.size ≤ d → ¬ G d → T W G → I N W G → W.heap[d]? = some (.deferred (some [])) → Q .normal { a with defers := { target := .collected d, args := #[] } :: a.defers } W)
  (hstop : ∀ (d : Nat) (c : Code) (k : Nat) (W : World) (G : Nat → Prop), w.heap.size ≤ d → k ≤ N → ¬ G d → T W G → Ix c k W G → W.heap[d]? = some (.deferred (some [])) → c.wpIn Fence.wide n P Q { a with defers := { target := .collected d, args := #[] } :: a.defers } W) :
  (Code.rangeFunc g ps assign body).wpIn Fence.wide n P Q a w := by
 refine wpIn_rangeFunc fun fn hfn => ?_
 obtain ⟨d, hd⟩ : ∃ d, d = w.heap.size := ⟨_, rfl⟩
 obtain ⟨l, hl⟩ : ∃ l, l = w.heap.size + 1 := ⟨_, rfl⟩
 obtain ⟨rec, hrec⟩ : ∃ rec : LoopState → Option Code → Loop, rec = fun st pe => { state := st, pending := pe, fn, tmps := a.tmps, params := ps, assign, body, defers := w.heap.size } := ⟨_, rfl⟩
 obtain ⟨W1, hW1⟩ : ∃ W1, W1 = (w.alloc (.deferred (some []))).alloc (.loop (rec .ready none)) := ⟨_, rfl⟩
 have ho1 : Only NoB w W1 := by rw [hW1]; exact ((Only.refl NoB w).alloc _).alloc _
 have hs1 : W1.heap.size = w.heap.size + 2 := by rw [hW1]; simp
 have hL1 : W1.heap[l]? = some (.loop (rec .ready none)) := by
  rw [hW1, hl]
  have := World.alloc_heap_new (w.alloc (.deferred (some []))) (.loop (rec .ready none))
  rwa [World.size_alloc] at this
 have hD1 : W1.heap[d]? = some (.deferred (some [])) := by
  rw [hW1, hd]
  exact (Below.heap_alloc _ _ _ (by simp)).trans (World.alloc_heap_new w _)
 have hn0 : ¬ G0 l ∧ ¬ G0 d := ⟨fun h => by have := hTl _ _ h0 _ h; omega, fun h => by have := hTl _ _ h0 _ h; omega⟩
 have hdl : d ≠ l := by omega
 refine ⟨l, [{ target := .collected d, args := #[] }], W1, { target := .fn (.func gf) lb, args := #[.func (.yield l) #[] #[]] }, W1, gf, #[.func (.yield l) #[] #[]] ++ lb, W1, ?_, ?_, fun _ _ => trivial, ?_, (fun h => by cases h), ?_⟩
 ·rw [hW1, hrec, hl, hd]; exact run_enterLoop_outer _ _ _ _ _
 ·simp only [resolve, hg]
  simp [go_sem]
 ·simp [invoke, go_sem, eg]
 ·refine (hseq l (fun k W G => T W G ∧ I k W G ∧ ¬ G l ∧ ¬ G d ∧ W.heap[l]? = some (.loop (rec .ready none)) ∧ W.heap[d]? = some (.deferred (some [])))
   (fun k W => ∃ G c, T W G ∧ Ix c k W G ∧ ¬ G l ∧ ¬ G d ∧ W.heap[l]? = some (.loop (rec .done (some c))) ∧ W.heap[d]? = some (.deferred (some []))) W1 G0 ?_ ?_
   ⟨hT.quit h0 ho1, (hI 0).quit i0 ho1, hn0.1, hn0.2, hL1, hD1⟩ (hT0.quit t0 ho1)).mono ?_
  ·rintro k W G ⟨hTW, hIW, nl, nd, h1, h2⟩
   have l1 := (Array.getElem?_eq_some_iff.1 h1).1
   have l2 := (Array.getElem?_eq_some_iff.1 h2).1
   exact ⟨hTW, fun W2 G2 hT2 ho hgr => ⟨hT2, hIT k W G W2 G2 hTW hIW hT2 ho hgr, fun h => (hgr l h).elim nl fun h => by omega, fun h => (hgr d h).elim nd fun h => by omega, (ho.block l l1 nl).trans h1, (ho.block d l2 nd).trans h2⟩⟩
  ·rintro k W G hk ⟨hTW, hIW, nl, nd, h1, h2⟩
   have hy := run_yield (P := P) (args := encs k) h1 (by rw [hrec]; exact hps k)
   rw [hrec] at hy
   refine ⟨fn, _, assign, body, hy, roundIn_of_wpIn hfn (hassign l k W G _ hk hTW hIW ?_)⟩
   clear hy
   intro a' Wa ho hTa hIa hax
   have h1a : Wa.heap[l]? = _ := (ho.block l (Array.getElem?_eq_some_iff.1 h1).1 id).trans h1
   have h2a : Wa.heap[d]? = _ := (ho.block d (Array.getElem?_eq_some_iff.1 h2).1 id).trans h2
   have hb := run_beginRound (P := P) h1a (by rw [hrec])
   obtain ⟨o1, ho1'⟩ : ∃ o1 : Obj, o1 = .loop { rec .ready none with state := .busy } := ⟨_, rfl⟩
   rw [← ho1'] at hb
   have hoc : o1.isCells = false := by rw [ho1']; rfl
   refine ⟨_, hb, ?_⟩
   have h1b : (Wa.putObj l o1).heap[l]? = some o1 := World.putObj_heap_same (Array.getElem?_eq_some_iff.1 h1a).1
   have h2b : (Wa.putObj l o1).heap[d]? = some (.deferred (some [])) := (World.putObj_heap_other hdl).trans h2a
   refine wpIn_mono (hbody l k a' _ G hk (by omega) (hT.put o1 hTa (by omega) nl h1a rfl) ((hI k).put o1 hIa (by omega) nl h1a rfl) ((hAx k a').put (G := fun _ => False) o1 hax (by omega) id h1a rfl)) ?_
   rintro e a3 W3 hp
   cases e with
   | normal =>
    obtain ⟨hgk, hst, hT3, hI3⟩ := hp
    have h1c := hst l o1 (by omega) h1b hoc
    have h2c := hst d _ (by omega) h2b rfl
    have hl3 := (Array.getElem?_eq_some_iff.1 h1c).1
    rw [ho1'] at h1c
    have he := run_endRound (P := P) none h1c
    refine ⟨_, _, he, .inl ⟨rfl, ⟨hT.put _ hT3 (by omega) nl h1c rfl, (hI _).put _ hI3 (by omega) nl h1c rfl, nl, nd, ?_, (World.putObj_heap_other hdl).trans h2c⟩, fun q hq => ?_⟩⟩
    ·rw [World.putObj_heap_same hl3, hrec]
     simp
    ·have hql : q ≠ l := fun e => nl (e ▸ hq)
     rw [World.putObj_heap_other hql, hgk q hq, World.putObj_heap_other hql]
     exact ho.block q (hTl _ _ hTW q hq) id
   | ret =>
    obtain ⟨hst, hT3, hI3⟩ := hp
    have h1c := hst l o1 (by omega) h1b hoc
    have h2c := hst d _ (by omega) h2b rfl
    have hl3 := (Array.getElem?_eq_some_iff.1 h1c).1
    rw [ho1'] at h1c
    have he := run_endRound (P := P) (some .ret) h1c
    refine ⟨_, _, he, .inr ⟨rfl, G, .ret, hT.put _ hT3 (by omega) nl h1c rfl, (hIx _ _).put _ hI3 (by omega) nl h1c rfl, nl, nd, ?_, (World.putObj_heap_other hdl).trans h2c⟩⟩
    rw [World.putObj_heap_same hl3, hrec]
    simp
   | exit id =>
    obtain ⟨hst, hT3, hI3⟩ := hp
    have h1c := hst l o1 (by omega) h1b hoc
    have h2c := hst d _ (by omega) h2b rfl
    have hl3 := (Array.getElem?_eq_some_iff.1 h1c).1
    rw [ho1'] at h1c
    have he := run_endRound (P := P) (some (.exit id)) h1c
    refine ⟨_, _, he, .inr ⟨rfl, G, .exit id, hT.put _ hT3 (by omega) nl h1c rfl, (hIx _ _).put _ hI3 (by omega) nl h1c rfl, nl, nd, ?_, (World.putObj_heap_other hdl).trans h2c⟩⟩
    rw [World.putObj_heap_same hl3, hrec]
    simp
   | goto t => exact hp.elim
   | panic ch => exact hp.elim
   | outgrown => exact hp.elim
  ·rintro e W2 ⟨⟨v, rfl⟩, ⟨G, hT2, hI2, nl, nd, h1, h2⟩ | ⟨k, hk, G, c, hT2, hI2, nl, nd, h1, h2⟩⟩
   ·have he := run_endLoop (P := P) h1 (by rw [hrec]; simp)
    refine ⟨none, _, by rw [hrec] at he; exact he, hdone d _ G (by omega) nd (hT.put _ hT2 (by omega) nl h1 rfl) ((hI _).put _ hI2 (by omega) nl h1 rfl) ((World.putObj_heap_other hdl).trans h2)⟩
   ·have he := run_endLoop (P := P) h1 (by rw [hrec]; simp)
    refine ⟨some c, _, by rw [hrec] at he; exact he, hstop d c k _ G (by omega) hk nd (hT.put _ hT2 (by omega) nl h1 rfl) ((hIx _ _).put _ hI2 (by omega) nl h1 rfl) ((World.putObj_heap_other hdl).trans h2)⟩
theorem range_tx {P : Program} {n gf N : Nat} {lb : Array Value} {encs : Nat → Array Value} {T : World → (Nat → Prop) → Prop} {g : Operand} {ps : Array Tmp} {assign body : Code} {Q : Exit → Act → World → Prop} {a : Act} {w : World} {G0 : Nat → Prop}
  (hT : Abid w.heap.size T) (hTl : ∀ W G, T W G → ∀ k, G k → k < W.heap.size) (hg : a.eval g = .func (.func gf) #[] lb) (eg : ∀ args w, (callFunc gf args).run P w = .ok (.enter gf args) w) (hseq : IterT (n - 1) P gf lb encs T N) (hps : ∀ k, (encs k).size = ps.size)
  (I : Nat → World → (Nat → Prop) → Prop) (hI : ∀ k, Abid w.heap.size (I k)) (hIT : ∀ k W G W2 G2, T W G → I k W G → T W2 G2 → Only G W W2 → Grows G G2 W → I k W2 G2) (Ix : Code → Nat → World → (Nat → Prop) → Prop) (hIx : ∀ c k, Abid w.heap.size (Ix c k)) (h0 : T w G0) (i0 : I 0 w G0)
  (Ax : Nat → Act → World → Prop) (hAx : ∀ k a', Abid w.heap.size (fun W _ => Ax k a' W))
  (hassign : ∀ (l k : Nat) (W : World) (G : Nat → Prop) (K : Act → World → Prop), k < N → T W G → I k W G → (∀ a' W', Only NoB W W' → T W' G → I k W' G → Ax k a' W' → K a' W') →
   assign.wpIn (Fence.wide.inRound l) (n - 1 - 1) P (Exit.then K (fun _ _ _ => False)) { tmps := (ps.zip (encs k)).foldl (fun t (p, v) => t.setIfInBounds p v) a.tmps, defers := [] } W)
  (hbody : ∀ (l k : Nat) (a' : Act) (W : World) (G : Nat → Prop), k < N → w.heap.size ≤ l → T W G → I k W G → Ax k a' W → body.wpIn (Fence.wide.inRound l) (n - 1 - 1) P (roundEnd w.heap.size T I Ix k G W) a' W)
  (hdone : ∀ (d : Nat) (W : World) (G : Nat → Prop), w.heap.size ≤ d → ¬ G d → T W G → I N W G → W.heap[d]? = some (.deferred (some [])) → Q .normal { a with defers := { target := .collected d, args := #[] } :: a.defers } W)
  (hstop : ∀ (d : Nat) (c : Code) (k : Nat) (W : World) (G : Nat → Prop), w.heap.size ≤ d → k ≤ N → ¬ G d → T W G → Ix c k W G → W.heap[d]? = some (.deferred (some [])) → c.wpIn Fence.wide n P Q { a with defers := { target := .collected d, args := #[] } :: a.defers } W) :
  (Code.rangeFunc g ps assign body).wpIn Fence.wide n P Q a w :=
 range_ts (T0 := fun _ _ => True) hT hTl hg eg (fun _ _ _ _ _ _ _ => trivial) trivial (fun l J Jx W G h1 h2 h3 _ => hseq l J Jx W G h1 h2 h3) hps I hI hIT Ix hIx h0 i0 Ax hAx hassign hbody hdone hstop
def Stay (T I : World → (Nat → Prop) → Prop) : Prop := ∀ W G W2 G2, T W G → I W G → T W2 G2 → Only G W W2 → Grows G G2 W → I W2 G2
theorem Abid.and {B : Nat} {I I' : World → (Nat → Prop) → Prop} (h : Abid B I) (h' : Abid B I') : Abid B (fun W G => I W G ∧ I' W G) := fun W W' G S hi hS ho => ⟨h W W' G S hi.1 hS ho, h' W W' G S hi.2 hS ho⟩
theorem Stay.and {T I I' : World → (Nat → Prop) → Prop} (h : Stay T I) (h' : Stay T I') : Stay T (fun W G => I W G ∧ I' W G) := fun W G W2 G2 a hi b ho hg => ⟨h W G W2 G2 a hi.1 b ho hg, h' W G W2 G2 a hi.2 b ho hg⟩
theorem Abid.pure {B : Nat} (p : Prop) : Abid B (fun _ _ => p) := fun _ _ _ _ hi _ _ => hi
theorem Stay.pure {T : World → (Nat → Prop) → Prop} (p : Prop) : Stay T (fun _ _ => p) := fun _ _ _ _ _ hi _ _ _ => hi
def Big (B : Nat) (W : World) (_ : Nat → Prop) : Prop := B ≤ W.heap.size
theorem big_abid {B B' : Nat} : Abid B (Big B') := fun _ _ _ _ hi _ ho => Nat.le_trans hi ho.size
theorem big_stay {T : World → (Nat → Prop) → Prop} {B : Nat} : Stay T (Big B) := fun _ _ _ _ _ hi _ ho _ => Nat.le_trans hi ho.size
def Mine (b : Nat) (ty : TypeId) (cs : Array Value) (W : World) (G : Nat → Prop) : Prop := Blk W b ty cs ∧ ¬ G b
theorem blk_abid {W W' : World} {S : Nat → Prop} {b : Nat} {ty : TypeId} {cs : Array Value} (h : Blk W b ty cs) (hS : ∀ q, S q → ∃ o : Obj, W.heap[q]? = some o ∧ o.isCells = false) (ho : Only S W W') : Blk W' b ty cs := by
 refine h.only ho fun hs => ?_
 obtain ⟨o, h1, h2⟩ := hS b hs
 unfold Blk at h
 rw [h] at h1
 injection h1 with h1
 subst h1
 cases h2
theorem mine_abid {B b : Nat} {ty : TypeId} {cs : Array Value} : Abid B (Mine b ty cs) := fun _ _ _ _ hi hS ho => ⟨blk_abid hi.1 (fun q hq => (hS q hq).2.2) ho, hi.2⟩
theorem mine_stay {T : World → (Nat → Prop) → Prop} {b : Nat} {ty : TypeId} {cs : Array Value} : Stay T (Mine b ty cs) := fun _ _ _ _ _ hi _ ho hg => ⟨hi.1.only ho hi.2, fun hk => (hg _ hk).elim hi.2 fun hl => by have := hi.1.lt; omega⟩
def Since (w : World) (F : Nat → Prop) (W : World) (G : Nat → Prop) : Prop := Only F w W ∧ Grows F G w
theorem since_abid {B : Nat} {w : World} {F : Nat → Prop} (hB : w.heap.size ≤ B) : Abid B (Since w F) := fun _ _ _ _ hi hS ho => ⟨hi.1.trans' ho fun k hk hs => by have := (hS k hs).1; omega, hi.2⟩
theorem since_stay {T : World → (Nat → Prop) → Prop} {w : World} {F : Nat → Prop} : Stay T (Since w F) := fun _ _ _ _ _ hi _ ho hg => ⟨hi.1.trans' ho fun k hk hf => (hi.2 k hf).elim id fun h => by omega, fun k hk => (hg k hk).elim (fun h => hi.2 k h) fun h => .inr (Nat.le_trans hi.1.size h)⟩
def allocs (w : World) (l : List (Array Value × TypeId)) : World := l.foldl (fun w x => w.alloc (.cells x.1 x.2)) w
theorem allocs_only : ∀ (l : List (Array Value × TypeId)) (w : World), Only NoB w (allocs w l)
 | [], w => Only.refl _ _
 | x :: l, w => ((Only.refl NoB w).alloc (.cells x.1 x.2)).trans (allocs_only l (w.alloc (.cells x.1 x.2)))
theorem allocs_size : ∀ (l : List (Array Value × TypeId)) (w : World), (allocs w l).heap.size = w.heap.size + l.length
 | [], w => rfl
 | x :: l, w => by
  have := allocs_size l (w.alloc (.cells x.1 x.2))
  show (allocs (w.alloc (.cells x.1 x.2)) l).heap.size = _
  rw [this, List.length_cons]
  simp; omega
theorem allocs_blk : ∀ (l : List (Array Value × TypeId)) (w : World) (i : Nat) (x : Array Value × TypeId), l[i]? = some x → Blk (allocs w l) (w.heap.size + i) x.2 x.1
 | y :: l, w, 0, x, h => by
  have h : y = x := by simpa using h
  subst h
  exact (Blk.new w y.2 y.1).only (allocs_only l _) id
 | y :: l, w, i + 1, x, h => by
  have := allocs_blk l (w.alloc (.cells y.1 y.2)) i x (by simpa using h)
  rw [show (w.alloc (.cells y.1 y.2)).heap.size + i = w.heap.size + (i + 1) by simp; omega] at this
  exact this
theorem blk_of {w W0 : World} {l : List (Array Value × TypeId)} (h : W0 = allocs w l) (i : Nat) {cs : Array Value} {ty : TypeId} (hx : l[i]? = some (cs, ty)) : Blk W0 (w.heap.size + i) ty cs := by rw [h]; exact allocs_blk l w i _ hx
end Go.Proofs.YtpjfheadolphgaaGreat
namespace Go.Proofs.YtpjfheadolphgaaGreat
open Go.RowKit Go.Proofs Go.Shelf
set_option maxRecDepth 20000
attribute [local go_sem] Oper.semAt_some
section
variable {w w' : World} {F G : Nat → Prop} {X : XC} {t c b1 b2 b3 e9 : Nat} {D : PD} {M : List KV} {key pre s : Str}
theorem hasP_short {p s : Str} (h : s.length < p.length) : hasP p s = false := by
 unfold hasP
 rw [decide_eq_false_iff_not]
 intro e
 have := congrArg List.length e
 rw [List.length_take] at this
 omega
theorem cut_ok (s : Str) (n : Nat) : ((ByteArray.mk s.toArray).extract 0 n).toList = s.take n := by
 have h : (ByteArray.mk s.toArray).extract 0 n = ⟨(s.take n).toArray⟩ := by
  apply ByteArray.ext
  rw [ByteArray.data_extract]
  apply Array.ext'
  simp
 rw [h]
 exact ByteArray.toList_mk _
theorem slite_ok (s p : Str) (hs : s.length ≤ 1000000) (hp : p.length ≤ 1000000) (w : World) : Calls Tryz.prog 202 #[.string ⟨s.toArray⟩, .string ⟨p.toArray⟩] w fun e w' => e = .returned (.bool (hasP p s)) ∧ w = w' := by
 by_cases hl : p.length ≤ s.length
 ·have hl1 : (p.length : Int) ≤ (s.length : Int) := by omega
  go_enter Tryz.func202, Tryz.ntmps202
  go_wp2_with fail
  go_ret
  refine ⟨?_, rfl⟩
  show Ending.returned (.bool (((ByteArray.mk s.toArray).extract 0 p.length).toList == p)) = _
  rw [cut_ok]
  unfold hasP
  congr 2
  rw [Bool.eq_iff_iff]
  simp
 ·have HH := Lib.hid (hasP_short (show s.length < p.length by omega))
  have hl1 : ¬ (p.length : Int) ≤ (s.length : Int) := by omega
  clear hl
  go_enter Tryz.func202, Tryz.ntmps202
  go_wp2_with fail
  go_ret
  exact ⟨by rw [HH.out]; rfl, rfl⟩
theorem hasPrefix_ok (s p : Str) (hs : s.length ≤ 1000000) (hp : p.length ≤ 1000000) (w : World) : Calls Tryz.prog 106 #[.string ⟨s.toArray⟩, .string ⟨p.toArray⟩] w fun e w' => e = .returned (.bool (hasP p s)) ∧ w = w' := by
 have HS := Lib.hid (slite_ok s p hs hp w)
 go_enter Tryz.func106, Tryz.ntmps106
 go_wp2_with fail
 refine HS.out.mono ?_
 rintro e w1 ⟨rfl, rfl⟩
 go_wp2_with fail
 go_ret
 exact ⟨rfl, rfl⟩
def PairsT (X : XC) (t : Nat) (D : PD) (pre : Str) (b1 b2 b3 e9 : Nat) (W : World) (G : Nat → Prop) : Prop :=
 TxAt W G X t D ∧ (Blk W b1 9 #[.string ⟨pre.toArray⟩] ∧ ¬ G b1) ∧ (Blk W b2 24 #[.pointer (some ⟨t, 0, none⟩)] ∧ ¬ G b2) ∧ (Blk W b3 266 #[.pointer (some ⟨e9, 0, none⟩)] ∧ ¬ G b3)
theorem TxAt.wider {W : World} {G' : Nat → Prop} (h : TxAt W G X t D) (hl : ∀ k, G' k → k < W.heap.size) (hg : ∀ k, G k → G' k) : TxAt W G' X t D := by
 rcases h with ⟨_, R, A, pg, mo, bv, wv, rv, bl, rb, f, h, hF⟩ | ⟨_, R, A, pg, mo, bv, wv, rv, bl, rb, f, h, hF⟩
 ·exact .inl ⟨hl, R, A, pg, mo, bv, wv, rv, bl, rb, f, h, fun k hk => hg k (hF k hk)⟩
 ·exact .inr ⟨hl, R, A, pg, mo, bv, wv, rv, bl, rb, f, h, fun k hk => hg k (hF k hk)⟩
theorem pairsT_abid {B : Nat} : Abid B (PairsT X t D pre b1 b2 b3 e9) := fun W W' G S h hS ho =>
 ⟨h.1.only ho fun k hk hs => (hS k hs).2.1 hk, ⟨blk_abid h.2.1.1 (fun q hq => (hS q hq).2.2) ho, h.2.1.2⟩, ⟨blk_abid h.2.2.1.1 (fun q hq => (hS q hq).2.2) ho, h.2.2.1.2⟩, ⟨blk_abid h.2.2.2.1 (fun q hq => (hS q hq).2.2) ho, h.2.2.2.2⟩⟩
theorem PairsT.step {W W' : World} {G G' : Nat → Prop} (h : PairsT X t D pre b1 b2 b3 e9 W G) (ht : TxAt W' G' X t D) (ho : Only G W W') (hg : Grows G G' W) : PairsT X t D pre b1 b2 b3 e9 W' G' :=
 ⟨ht, ⟨h.2.1.1.only ho h.2.1.2, fun hk => (hg _ hk).elim h.2.1.2 fun hl => by have := h.2.1.1.lt; omega⟩, ⟨h.2.2.1.1.only ho h.2.2.1.2, fun hk => (hg _ hk).elim h.2.2.1.2 fun hl => by have := h.2.2.1.1.lt; omega⟩,
  ⟨h.2.2.2.1.only ho h.2.2.2.2, fun hk => (hg _ hk).elim h.2.2.2.2 fun hl => by have := h.2.2.2.1.lt; omega⟩⟩
theorem PairsT.beside {W W' : World} {G S : Nat → Prop} (h : PairsT X t D pre b1 b2 b3 e9 W G) (ho : Only S W W') (hG : ∀ k, G k → ¬ S k) (hb : ¬ S b1 ∧ ¬ S b2 ∧ ¬ S b3) : PairsT X t D pre b1 b2 b3 e9 W' G :=
 ⟨h.1.only ho hG, ⟨h.2.1.1.only ho hb.1, h.2.1.2⟩, ⟨h.2.2.1.1.only ho hb.2.1, h.2.2.1.2⟩, ⟨h.2.2.2.1.only ho hb.2.2, h.2.2.2.2⟩⟩
theorem PairsT.more {W W' : World} {G : Nat → Prop} {q : Nat} (h : PairsT X t D pre b1 b2 b3 e9 W G) (ho : Only NoB W W') (hq : q = W.heap.size) (hs : W.heap.size < W'.heap.size) : PairsT X t D pre b1 b2 b3 e9 W' (fun k => G k ∨ k = q) := by
 have h1 := (pairsT_abid (B := 0)).quit h ho
 refine ⟨h1.1.wider (fun k hk => hk.elim (h1.1.lt k) fun e => by omega) fun k hk => .inl hk, ⟨h1.2.1.1, fun hk => hk.elim h1.2.1.2 fun e => ?_⟩, ⟨h1.2.2.1.1, fun hk => hk.elim h1.2.2.1.2 fun e => ?_⟩, ⟨h1.2.2.2.1, fun hk => hk.elim h1.2.2.2.2 fun e => ?_⟩⟩
 ·have := h.2.1.1.lt; omega
 ·have := h.2.2.1.1.lt; omega
 ·have := h.2.2.2.1.lt; omega
def keyAt (L : List KV) (k : Nat) : Str := (L.getD k ([], [])).1
def valAt (L : List KV) (k : Nat) : Str := (L.getD k ([], [])).2
def pairA (L : List KV) (k : Nat) : Array Value := #[.agg #[.string ⟨(keyAt L k).toArray⟩, .string ⟨(valAt L k).toArray⟩]]
theorem pairs_ok (w : World) : Calls Tryz.prog 189 #[.pointer (some ⟨t, 0, none⟩), .string ⟨pre.toArray⟩, .pointer (some ⟨e9, 0, none⟩)] w fun e w' => e = .returned (.func (.func 266) #[] #[.pointer (some ⟨w.heap.size + 1, 0, none⟩), .pointer (some ⟨w.heap.size, 0, none⟩), .pointer (some ⟨w.heap.size + 1 + 1, 0, none⟩)]) ∧
  w' = ((w.alloc (.cells #[.pointer (some ⟨t, 0, none⟩)] 24)).alloc (.cells #[.string ⟨pre.toArray⟩] 9)).alloc (.cells #[.pointer (some ⟨e9, 0, none⟩)] 266) := by
 go_enter Tryz.func189, Tryz.ntmps189
 go_wp2_with fail
 go_ret
 exact ⟨rfl, rfl⟩
set_option maxHeartbeats 2000000 in
theorem pairs_iter (hb : Bt D M c) (hkl : ∀ x ∈ M, x.1.length ≤ 1000) (hpl : pre.length ≤ 1000) (n : Nat) (hn : 1 ≤ n) :
  IterT n Tryz.prog 266 #[.pointer (some ⟨b1, 0, none⟩), .pointer (some ⟨b2, 0, none⟩), .pointer (some ⟨b3, 0, none⟩)] (pairA (under pre M)) (PairsT X t D pre b1 b2 b3 e9) (under pre M).length := by
 intro l J Jx W G hJ hY h0
 obtain ⟨hT, hst⟩ := hJ 0 W G h0
 refine callsIn_of_wp Tryz.func266 rfl trivial ?_ rfl
 simp only [Tryz.ntmps266, List.size_toArray, List.length_cons, List.length_nil, Nat.reduceAdd, Nat.reduceSub, Array.replicate_succ, Array.replicate_zero, List.push_toArray, List.append_toArray, List.nil_append, List.cons_append]
 have c1 := hT.2.1.1.cell 0
 have c2 := hT.2.2.1.1.cell 0
 have HGET := Lib.hid (get_ok (key := pre) hT.1 hb.1.m1 hb.1.m2 hb)
 obtain ⟨L, hL⟩ : ∃ L, L = under pre M := ⟨_, rfl⟩
 have hstart := under_start (p := pre) hb.srt
 rw [← hL] at hstart hY ⊢
 have HST := Lib.hid hst
 have HT := Lib.hid hT
 have HJ := Lib.hid hJ
 have HY := Lib.hid hY
 have HSTART := Lib.hid hstart
 have HB := Lib.hid hb
 have HKL := Lib.hid hkl
 have HPL := Lib.hid hpl
 clear hst hT hJ hY hstart hb hL hkl hpl h0
 gi_wp2_with fail
 refine ⟨trivial, (callsIn_wide.2 HGET.out).mono ?_⟩
 rintro e w1 ⟨rfl, G1, ht1, ho1, hg1⟩
 have hT1 := HT.out.step ht1.at_ ho1 hg1
 have hJ1 := HST.out w1 G1 hT1 ho1 hg1
 have c1 := hT1.2.1.1.cell 0
 have HT1 := Lib.hid hT1
 have HJ1 := Lib.hid hJ1
 clear hT1 hJ1 ht1 ho1 hg1 c2
 cases hget : get pre M with
 | none =>
  rw [hget] at HSTART
  have HS2 : Hid (L.drop 0 = under pre (behind pre M)) := Lib.hid HSTART.out
  clear hget
  have HS3 : Hid (L.drop 0 = under pre (behind pre M)) := HS2
  have HJ3 : Hid (∃ G, J 0 w1 G) := Lib.hid ⟨_, HJ1.out⟩
  gi_wp2_with fail
  refine ⟨fun _ h => (by cases h), ?_⟩
  gi_wp2_with fail
  gi_loopg [5] (L.length - 0) (fun g s5 wr => ∃ (k : Nat) (last : Str), s5 = .string ⟨last.toArray⟩ ∧ g = L.length - k ∧ k ≤ L.length ∧ Hid (hasP pre last = true ∧ last.length ≤ 1000 ∧ L.drop k = under pre (behind last M) ∧ ∃ G, J k wr G))
  case atStart => exact ⟨0, pre, rfl, rfl, Nat.zero_le _, Lib.hid ⟨hasP_self pre, HPL.out, HS3.out, HJ3.out⟩⟩
  case round =>
   clear HJ3 HS3
   obtain ⟨k, last, rfl, hg, hkL, hst⟩ := hrel
   obtain ⟨hlp, hll, hdr, Gr, hJk⟩ := hst.out
   obtain ⟨hTr, hstr⟩ := HJ.out k wr Gr hJk
   have HNXT := Lib.hid (bnext_ok (key := last) hTr.1 HB.out)
   have r1 := hTr.2.1.1.cell 0
   have r2 := hTr.2.2.1.1.cell 0
   have HTR := Lib.hid hTr
   have HSTR := Lib.hid hstr
   have HDR := Lib.hid hdr
   have HLP := Lib.hid hlp
   have HGK := Lib.hid hg
   have HKL2 := Lib.hid hkL
   clear hst hlp hll hdr hJk hTr hstr hg hkL
   gi_wp2_with fail
   refine ⟨trivial, (callsIn_wide.2 HNXT.out).mono ?_⟩
   rintro e w3 ⟨rfl, G3, ht3, ho3, hg3⟩
   have hT3 := HTR.out.step ht3.at_ ho3 hg3
   have hJ3 := HSTR.out w3 G3 hT3 ho3 hg3
   have r1 := hT3.2.1.1.cell 0
   obtain ⟨hT3', hst3⟩ := HJ.out k w3 G3 hJ3
   have HT3 := Lib.hid hT3
   have HJ3 := Lib.hid hJ3
   have HT3' := Lib.hid hT3'
   have HST3 := Lib.hid hst3
   clear hT3 hJ3 hT3' hst3 ht3 ho3 hg3 r2
   cases hq : next last M with
   | none =>
    have hkN : k = L.length := by
     have h1 := HDR.out
     rw [under_none hq] at h1
     have h2 := congrArg List.length h1
     rw [List.length_drop] at h2
     have := HKL2.out
     simp at h2
     omega
    have HKN := Lib.hid hkN
    clear hq hkN
    rw [pairO_none, Option.isSome_none]
    gi_wp2_with fail
    refine ⟨trivial, ?_⟩
    gi_wp2_with fail
    refine ⟨fun _ h => (by cases h), ?_⟩
    gi_wp2_with fail
    refine bodyPost_ret (results_none rfl _ _ _) rfl ?_
    have hjn : ∀ o : Obj, J L.length (w3.alloc o) G3 := fun o => HKN.out ▸ HST3.out (w3.alloc o) G3 ((pairsT_abid (B := 0)).quit HT3'.out ((Only.refl NoB w3).alloc o)) (((Only.refl NoB w3).alloc o).mono fun _ _ h => h.elim) (Grows.refl _ _)
    exact ⟨⟨_, rfl⟩, .inl ⟨_, hjn _⟩⟩
   | some p =>
    have hpM : p ∈ M := (behind_next HB.out.srt hq).2.2
    have hpl := HKL.out p hpM
    have hhp := fun w => hasPrefix_ok p.1 pre (by omega) (by have := HPL.out; omega) w
    have HHP := Lib.hid hhp
    have HQ := Lib.hid hq
    have HPLN := Lib.hid hpl
    obtain ⟨W4, hW4⟩ : ∃ W4, W4 = w3.alloc (.cells #[.string ⟨p.1.toArray⟩, .string ⟨p.2.toArray⟩] 83) := ⟨_, rfl⟩
    have ho4 : Only NoB w3 W4 := by rw [hW4]; exact (Only.refl NoB w3).alloc _
    have hT4 : PairsT X t D pre b1 b2 b3 e9 W4 (fun q => G3 q ∨ q = w3.heap.size) := HT3'.out.more ho4 rfl (by rw [hW4]; simp)
    have hJ4 := HST3.out W4 _ hT4 (ho4.mono fun _ _ h => h.elim) (fun q hq => hq.imp id fun h => by omega)
    have hB4 : Blk W4 w3.heap.size 83 #[.string ⟨p.1.toArray⟩, .string ⟨p.2.toArray⟩] := by rw [hW4]; exact Blk.new w3 _ _
    have s0 : W4.cell? _ = some _ := hB4.cell 0
    have s1 : W4.cell? _ = some _ := hB4.cell 1
    have r4 : W4.cell? _ = some _ := hT4.2.1.1.cell 0
    have HB4 := Lib.hid hB4
    have HT4 := Lib.hid hT4
    have HJ4 := Lib.hid hJ4
    have HW4 := Lib.hid hW4
    rw [hW4] at s0 s1 r4
    clear hq hpM hpl hhp hT4 hJ4 hB4 hW4 ho4 r1
    rw [pairO_some, Option.isSome_some]
    gi_wp2_with fail
    rw [← HW4.out]
    refine ⟨trivial, (callsIn_wide.2 (HHP.out _)).mono ?_⟩
    rintro e w5 ⟨rfl, rfl⟩
    cases hpp : hasP pre p.1 with
    | false =>
     have hkN : k = L.length := by
      have h1 := HDR.out
      rw [under_far HB.out.srt HLP.out HQ.out hpp] at h1
      have h2 := congrArg List.length h1
      rw [List.length_drop] at h2
      have := HKL2.out
      simp at h2
      omega
     have HKN := Lib.hid hkN
     clear hkN hpp
     gi_wp2_with fail
     refine ⟨fun _ h => (by cases h), ?_⟩
     gi_wp2_with fail
     refine bodyPost_ret (results_none rfl _ _ _) rfl ?_
     exact ⟨⟨_, rfl⟩, .inl ⟨_, HKN.out ▸ HJ4.out⟩⟩
    | true =>
     have hdr := HDR.out
     rw [under_step HB.out.srt HQ.out hpp] at hdr
     have hkN : k < L.length := by
      have h2 := congrArg List.length hdr
      rw [List.length_drop] at h2
      simp at h2
      omega
     have hgd : L.getD k ([], []) = p := by
      have h2 : (L.drop k)[0]? = some p := by rw [hdr]; rfl
      rw [List.getElem?_drop, Nat.add_zero] at h2
      rw [List.getD_eq_getElem?_getD, h2]; rfl
     have hdr2 : L.drop (k + 1) = under pre (behind p.1 M) := by rw [← List.drop_drop, hdr]; rfl
     obtain ⟨fn, tmps, assign, body, hy, hR⟩ := HY.out k W4 _ hkN HJ4.out
     unfold pairA keyAt valAt at hy
     rw [hgd] at hy
     have HDR2 := Lib.hid hdr2
     have HKN := Lib.hid hkN
     have HPP := Lib.hid hpp
     have s0' : W4.cell? ⟨w3.heap.size, 0, none⟩ = some (.string ⟨p.1.toArray⟩) := HB4.out.cell 0
     have s1' : W4.cell? ⟨w3.heap.size, 1, none⟩ = some (.string ⟨p.2.toArray⟩) := HB4.out.cell 1
     clear hdr hkN hgd hdr2 hpp
     gi_wp2_with fail
     refine hR.mono ?_
     rintro e W5 (⟨rfl, hJ5, hk5⟩ | ⟨rfl, hJx5⟩)
     ·have hb5 : Blk W5 w3.heap.size 83 #[.string ⟨p.1.toArray⟩, .string ⟨p.2.toArray⟩] := (hk5 _ (.inr rfl)).trans HB4.out
      have s0 : W5.cell? _ = some _ := hb5.cell 0
      have HJ5 := Lib.hid hJ5
      have hll : p.1.length ≤ 1000 := HPLN.out
      have HNEW : Hid (hasP pre p.1 = true ∧ p.1.length ≤ 1000 ∧ L.drop (k + 1) = under pre (behind p.1 M) ∧ ∃ G, J (k + 1) W5 G) := Lib.hid ⟨HPP.out, hll, HDR2.out, _, hJ5⟩
      have hgl : L.length - (k + 1) < gk := by have := HGK.out; have := HKN.out; omega
      have HKN1 : Hid (k + 1 ≤ L.length) := Lib.hid HKN.out
      clear hJ5 hk5 hb5 hll hR hy s0' s1'
      gi_wp2_with fail
      gi_roundg (L.length - (k + 1))
      case measure => exact hgl
      case rel => exact ⟨k + 1, p.1, rfl, rfl, HKN1.out, HNEW⟩
     ·have HJX := Lib.hid hJx5
      clear hJx5 hR hy s0' s1'
      gi_wp2_with fail
      refine bodyPost_ret (results_none rfl _ _ _) rfl ?_
      exact ⟨⟨_, rfl⟩, .inr ⟨k + 1, HKN.out, HJX.out⟩⟩
 | some v =>
  rw [hget] at HSTART
  have HS2 : Hid (L.drop 1 = under pre (behind pre M) ∧ L.getD 0 ([], []) = (pre, v) ∧ 0 < L.length) := Lib.hid (by rw [HSTART.out]; exact ⟨rfl, rfl, by simp⟩)
  clear hget
  obtain ⟨fn, tmps, assign, body, hy, hR⟩ := HY.out 0 w1 G1 HS2.out.2.2 HJ1.out
  unfold pairA keyAt valAt at hy
  rw [HS2.out.2.1] at hy
  simp only [Option.getD_some, Option.isSome_some]
  unfold strV
  gi_wp2_with fail
  refine hR.mono ?_
  rintro e W2 (⟨rfl, hJ2, hk2⟩ | ⟨rfl, hJx2⟩)
  ·have HS3 : Hid (L.drop 1 = under pre (behind pre M)) := Lib.hid HS2.out.1
   have HJ3 : Hid (∃ G, J 1 W2 G) := Lib.hid ⟨_, hJ2⟩
   clear hJ2 hk2 hR hy
   gi_wp2_with fail
   gi_loopg [5] (L.length - 1) (fun g s5 wr => ∃ (k : Nat) (last : Str), s5 = .string ⟨last.toArray⟩ ∧ g = L.length - k ∧ k ≤ L.length ∧ Hid (hasP pre last = true ∧ last.length ≤ 1000 ∧ L.drop k = under pre (behind last M) ∧ ∃ G, J k wr G))
   case atStart => exact ⟨1, pre, rfl, rfl, HS2.out.2.2, Lib.hid ⟨hasP_self pre, HPL.out, HS3.out, HJ3.out⟩⟩
   case round =>
    clear HJ3 HS3
    obtain ⟨k, last, rfl, hg, hkL, hst⟩ := hrel
    obtain ⟨hlp, hll, hdr, Gr, hJk⟩ := hst.out
    obtain ⟨hTr, hstr⟩ := HJ.out k wr Gr hJk
    have HNXT := Lib.hid (bnext_ok (key := last) hTr.1 HB.out)
    have r1 := hTr.2.1.1.cell 0
    have r2 := hTr.2.2.1.1.cell 0
    have HTR := Lib.hid hTr
    have HSTR := Lib.hid hstr
    have HDR := Lib.hid hdr
    have HLP := Lib.hid hlp
    have HGK := Lib.hid hg
    have HKL2 := Lib.hid hkL
    clear hst hlp hll hdr hJk hTr hstr hg hkL
    gi_wp2_with fail
    refine ⟨trivial, (callsIn_wide.2 HNXT.out).mono ?_⟩
    rintro e w3 ⟨rfl, G3, ht3, ho3, hg3⟩
    have hT3 := HTR.out.step ht3.at_ ho3 hg3
    have hJ3 := HSTR.out w3 G3 hT3 ho3 hg3
    have r1 := hT3.2.1.1.cell 0
    obtain ⟨hT3', hst3⟩ := HJ.out k w3 G3 hJ3
    have HT3 := Lib.hid hT3
    have HJ3 := Lib.hid hJ3
    have HT3' := Lib.hid hT3'
    have HST3 := Lib.hid hst3
    clear hT3 hJ3 hT3' hst3 ht3 ho3 hg3 r2
    cases hq : next last M with
    | none =>
     have hkN : k = L.length := by
      have h1 := HDR.out
      rw [under_none hq] at h1
      have h2 := congrArg List.length h1
      rw [List.length_drop] at h2
      have := HKL2.out
      simp at h2
      omega
     have HKN := Lib.hid hkN
     clear hq hkN
     rw [pairO_none, Option.isSome_none]
     gi_wp2_with fail
     refine ⟨trivial, ?_⟩
     gi_wp2_with fail
     refine ⟨fun _ h => (by cases h), ?_⟩
     gi_wp2_with fail
     refine bodyPost_ret (results_none rfl _ _ _) rfl ?_
     have hjn : ∀ o : Obj, J L.length (w3.alloc o) G3 := fun o => HKN.out ▸ HST3.out (w3.alloc o) G3 ((pairsT_abid (B := 0)).quit HT3'.out ((Only.refl NoB w3).alloc o)) (((Only.refl NoB w3).alloc o).mono fun _ _ h => h.elim) (Grows.refl _ _)
     exact ⟨⟨_, rfl⟩, .inl ⟨_, hjn _⟩⟩
    | some p =>
     have hpM : p ∈ M := (behind_next HB.out.srt hq).2.2
     have hpl := HKL.out p hpM
     have hhp := fun w => hasPrefix_ok p.1 pre (by omega) (by have := HPL.out; omega) w
     have HHP := Lib.hid hhp
     have HQ := Lib.hid hq
     have HPLN := Lib.hid hpl
     obtain ⟨W4, hW4⟩ : ∃ W4, W4 = w3.alloc (.cells #[.string ⟨p.1.toArray⟩, .string ⟨p.2.toArray⟩] 83) := ⟨_, rfl⟩
     have ho4 : Only NoB w3 W4 := by rw [hW4]; exact (Only.refl NoB w3).alloc _
     have hT4 : PairsT X t D pre b1 b2 b3 e9 W4 (fun q => G3 q ∨ q = w3.heap.size) := HT3'.out.more ho4 rfl (by rw [hW4]; simp)
     have hJ4 := HST3.out W4 _ hT4 (ho4.mono fun _ _ h => h.elim) (fun q hq => hq.imp id fun h => by omega)
     have hB4 : Blk W4 w3.heap.size 83 #[.string ⟨p.1.toArray⟩, .string ⟨p.2.toArray⟩] := by rw [hW4]; exact Blk.new w3 _ _
     have s0 : W4.cell? _ = some _ := hB4.cell 0
     have s1 : W4.cell? _ = some _ := hB4.cell 1
     have r4 : W4.cell? _ = some _ := hT4.2.1.1.cell 0
     have HB4 := Lib.hid hB4
     have HT4 := Lib.hid hT4
     have HJ4 := Lib.hid hJ4
     have HW4 := Lib.hid hW4
     rw [hW4] at s0 s1 r4
     clear hq hpM hpl hhp hT4 hJ4 hB4 hW4 ho4 r1
     rw [pairO_some, Option.isSome_some]
     gi_wp2_with fail
     rw [← HW4.out]
     refine ⟨trivial, (callsIn_wide.2 (HHP.out _)).mono ?_⟩
     rintro e w5 ⟨rfl, rfl⟩
     cases hpp : hasP pre p.1 with
     | false =>
      have hkN : k = L.length := by
       have h1 := HDR.out
       rw [under_far HB.out.srt HLP.out HQ.out hpp] at h1
       have h2 := congrArg List.length h1
       rw [List.length_drop] at h2
       have := HKL2.out
       simp at h2
       omega
      have HKN := Lib.hid hkN
      clear hkN hpp
      gi_wp2_with fail
      refine ⟨fun _ h => (by cases h), ?_⟩
      gi_wp2_with fail
      refine bodyPost_ret (results_none rfl _ _ _) rfl ?_
      exact ⟨⟨_, rfl⟩, .inl ⟨_, HKN.out ▸ HJ4.out⟩⟩
     | true =>
      have hdr := HDR.out
      rw [under_step HB.out.srt HQ.out hpp] at hdr
      have hkN : k < L.length := by
       have h2 := congrArg List.length hdr
       rw [List.length_drop] at h2
       simp at h2
       omega
      have hgd : L.getD k ([], []) = p := by
       have h2 : (L.drop k)[0]? = some p := by rw [hdr]; rfl
       rw [List.getElem?_drop, Nat.add_zero] at h2
       rw [List.getD_eq_getElem?_getD, h2]; rfl
      have hdr2 : L.drop (k + 1) = under pre (behind p.1 M) := by rw [← List.drop_drop, hdr]; rfl
      obtain ⟨fn, tmps, assign, body, hy, hR⟩ := HY.out k W4 _ hkN HJ4.out
      unfold pairA keyAt valAt at hy
      rw [hgd] at hy
      have HDR2 := Lib.hid hdr2
      have HKN := Lib.hid hkN
      have HPP := Lib.hid hpp
      have s0' : W4.cell? ⟨w3.heap.size, 0, none⟩ = some (.string ⟨p.1.toArray⟩) := HB4.out.cell 0
      have s1' : W4.cell? ⟨w3.heap.size, 1, none⟩ = some (.string ⟨p.2.toArray⟩) := HB4.out.cell 1
      clear hdr hkN hgd hdr2 hpp
      gi_wp2_with fail
      refine hR.mono ?_
      rintro e W5 (⟨rfl, hJ5, hk5⟩ | ⟨rfl, hJx5⟩)
      ·have hb5 : Blk W5 w3.heap.size 83 #[.string ⟨p.1.toArray⟩, .string ⟨p.2.toArray⟩] := (hk5 _ (.inr rfl)).trans HB4.out
       have s0 : W5.cell? _ = some _ := hb5.cell 0
       have HJ5 := Lib.hid hJ5
       have hll : p.1.length ≤ 1000 := HPLN.out
       have HNEW : Hid (hasP pre p.1 = true ∧ p.1.length ≤ 1000 ∧ L.drop (k + 1) = under pre (behind p.1 M) ∧ ∃ G, J (k + 1) W5 G) := Lib.hid ⟨HPP.out, hll, HDR2.out, _, hJ5⟩
       have hgl : L.length - (k + 1) < gk := by have := HGK.out; have := HKN.out; omega
       have HKN1 : Hid (k + 1 ≤ L.length) := Lib.hid HKN.out
       clear hJ5 hk5 hb5 hll hR hy s0' s1'
       gi_wp2_with fail
       gi_roundg (L.length - (k + 1))
       case measure => exact hgl
       case rel => exact ⟨k + 1, p.1, rfl, rfl, HKN1.out, HNEW⟩
      ·have HJX := Lib.hid hJx5
       clear hJx5 hR hy s0' s1'
       gi_wp2_with fail
       refine bodyPost_ret (results_none rfl _ _ _) rfl ?_
       exact ⟨⟨_, rfl⟩, .inr ⟨k + 1, HKN.out, HJX.out⟩⟩
  ·have HJX := Lib.hid hJx2
   clear hJx2 hR hy
   gi_wp2_with fail
   refine bodyPost_ret (results_none rfl _ _ _) rfl ?_
   exact ⟨⟨_, rfl⟩, .inr ⟨1, HS2.out.2.2, HJX.out⟩⟩
end
end Go.Proofs.YtpjfheadolphgaaGreat
namespace Go.Proofs.YtpjfheadolphgaaGreat
open Go.RowKit Go.Proofs Go.Shelf
set_option maxRecDepth 20000
theorem run_loadVar_one {P : Program} {ty : TypeId} {w : World} {a : Addr} {v : Value} (hg : w.cell? a = some v) (hu : (match P.underlying ty with | some (.struct _) | some (.array _ _) | none => true | _ => false) = false) : (loadVar ty a).run P w = .ok v w := by
 cases ht : P.underlying ty with
 | none => rw [ht] at hu; cases hu
 | some d =>
  rw [ht] at hu
  cases d <;> first | (cases hu; done) | simp [loadVar, isAgg, run_underlying ht, Result.andThen, hg]
attribute [local go_sem] Oper.semAt_some
section
variable {w w' : World} {F G : Nat → Prop} {X : XC} {t c : Nat} {D : PD} {M : List KV} {key pre s : Str}
end
end Go.Proofs.YtpjfheadolphgaaGreat
namespace Go.Proofs.YtpjfheadolphgaaGreat
open Go.RowKit Go.Proofs Go.Shelf
set_option maxRecDepth 20000
def rid (p : Str) (M : List KV) : List KV := M.filter fun x => !hasP p x.1
def KvAt (w : World) (F : Nat → Prop) (X : XC) (t m n own : Nat) (M : List KV) (c : Nat) : Prop :=
 ∃ D, TxAt w F X t D ∧ Bt D M c ∧ D.m = m ∧ D.n = n ∧ D.own = own ∧ ∀ x ∈ M, x.1.length ≤ 1000
def KvOut (w : World) (F : Nat → Prop) (X : XC) (t m n own : Nat) (v : Value) (M' : List KV) (c' : Nat) (en : Ending) (w' : World) : Prop :=
 en = .returned v ∧ ∃ F', KvAt w' F' X t m n own M' c' ∧ Only F w w' ∧ Grows F F' w
section
variable {w w' : World} {F G : Nat → Prop} {X : XC} {t m n own c : Nat} {M : List KV} {key va pre s : Str}
theorem KvAt.srt (h : KvAt w F X t m n own M c) : Srt M := by obtain ⟨D, _, hb, _⟩ := h; exact hb.srt
theorem KvAt.lt (h : KvAt w F X t m n own M c) : ∀ k, F k → k < w.heap.size := by obtain ⟨D, ht, _⟩ := h; exact ht.lt
theorem KvAt.keys (h : KvAt w F X t m n own M c) : ∀ x ∈ M, x.1.length ≤ 1000 := by obtain ⟨D, _, _, _, _, _, hk⟩ := h; exact hk
theorem KvAt.quit (h : KvAt w F X t m n own M c) (ho : Only NoB w w') : KvAt w' F X t m n own M c := by
 obtain ⟨D, ht, r⟩ := h; exact ⟨D, ht.quit ho, r⟩
theorem KvAt.only (h : KvAt w F X t m n own M c) (ho : Only G w w') (hG : ∀ k, F k → ¬ G k) : KvAt w' F X t m n own M c := by
 obtain ⟨D, ht, r⟩ := h; exact ⟨D, ht.only ho hG, r⟩
theorem KvAt.mono (h : KvAt w F X t m n own M c) {c' : Nat} (hc : c ≤ c') : KvAt w F X t m n own M c' := by
 obtain ⟨D, ht, hb, r⟩ := h; exact ⟨D, ht, hb.mono hc, r⟩
theorem del_keys {M : List KV} (h : ∀ x ∈ M, x.1.length ≤ 1000) : ∀ x ∈ del key M, x.1.length ≤ 1000 := fun x hx => h x (List.mem_filter.1 hx).1
theorem ins_keys (hk : key.length ≤ 1000) : ∀ {M : List KV}, (∀ x ∈ M, x.1.length ≤ 1000) → ∀ x ∈ ins key va M, x.1.length ≤ 1000
 | [], _, x, hx => by
  have : x = (key, va) := by simpa [ins] using hx
  rw [this]; exact hk
 | y :: M, h, x, hx => by
  rw [ins] at hx
  split at hx
  ·rcases List.mem_cons.1 hx with rfl | hx
   ·exact hk
   ·exact h x hx
  ·split at hx
   ·rcases List.mem_cons.1 hx with rfl | hx
    ·exact hk
    ·exact h x (List.mem_cons_of_mem _ hx)
   ·rcases List.mem_cons.1 hx with rfl | hx
    ·exact h _ (by simp)
    ·exact ins_keys hk (fun z hz => h z (List.mem_cons_of_mem _ hz)) x hx
theorem kv_put (h : KvAt w F X t m n own M c) (hc : c + 1 ≤ n - (own + 1)) (hp : PairOk m (key, va)) (hk : key.length ≤ 1000) :
  Calls Tryz.prog 53 #[.pointer (some ⟨t, 0, none⟩), .string ⟨key.toArray⟩, .string ⟨va.toArray⟩] w (KvOut w F X t m n own (.tuple #[.bool (get key M).isSome, .int .i64 0]) (ins key va M) (c + 1)) := by
 obtain ⟨D, ht, hb, rfl, rfl, rfl, hkl⟩ := h
 refine (bput_ok ht hb (by unfold PD.cap; omega) hp).mono ?_
 rintro e w1 ⟨rfl, D', F', h1, h2, h3, h4, h5, h6, h7⟩
 exact ⟨rfl, F', ⟨D', h1.at_, h2, h3, h4, h5, ins_keys hk hkl⟩, h6, h7⟩
theorem kv_del (h : KvAt w F X t m n own M c) :
  Calls Tryz.prog 52 #[.pointer (some ⟨t, 0, none⟩), .string ⟨key.toArray⟩] w (KvOut w F X t m n own (.tuple #[.bool (get key M).isSome, .int .i64 0]) (del key M) c) := by
 obtain ⟨D, ht, hb, rfl, rfl, rfl, hkl⟩ := h
 refine (bdel_ok ht hb).mono ?_
 rintro e w1 ⟨rfl, D', F', h1, h2, h3, h4, h5, h6, h7⟩
 exact ⟨rfl, F', ⟨D', h1.at_, h2, h3, h4, h5, del_keys hkl⟩, h6, h7⟩
end
end Go.Proofs.YtpjfheadolphgaaGreat
namespace Go.Proofs.YtpjfheadolphgaaGreat
open Go.RowKit Go.Proofs Go.Shelf
set_option maxRecDepth 20000
attribute [local go_sem] Oper.semAt_some
section
variable {w w' : World}
theorem conv_bytes' {w : World} {K : Nat → Prop} {v : Value} {l : List UInt8} (h : Bytes w K v l) : (convert 162 9 v).run Tryz.prog w = .ok (.string ⟨l.toArray⟩) w := by
 obtain ⟨A, c, rfl, hc, hl, hx⟩ := h
 cases A with
 | none =>
  have h0 : l = [] := by
   cases l with
   | nil => rfl
   | cons a l => obtain ⟨ad, h, _⟩ := hx (by simp); cases h
  subst h0
  exact Lib.run_convert_nil_bytes w 162 9 5 c (by kernel_rfl) (by kernel_rfl) (by kernel_rfl)
 | some ad =>
  refine run_convert_bytes_back w 162 9 5 ad c l (by kernel_rfl) (by kernel_rfl) (by kernel_rfl) fun j hj => ?_
  obtain ⟨ad', he, _, hx⟩ := hx (by omega)
  injection he with he
  subst he
  exact hx j _ (by rw [List.getElem?_map, List.getElem?_eq_getElem hj]; rfl)
theorem within_ok (n l h : Int) : Calls Tryz.prog 185 #[.int .i64 n, .int .i64 l, .int .i64 h] w fun e w' => e = .returned (.bool (decide (l ≤ n ∧ n ≤ h))) ∧ w = w' := by
 go_enter Tryz.func185, Tryz.ntmps185
 by_cases h1 : l ≤ n
 ·go_wp2_with fail
  go_ret
  exact ⟨by simp [h1], rfl⟩
 ·go_wp2_with fail
  go_ret
  exact ⟨by simp; intro h2; omega, rfl⟩
def be3 (n : Nat) : Str := [UInt8.ofNat (n / 65536), UInt8.ofNat (n / 256), UInt8.ofNat n]
theorem bytes_text (a b : Str) : (⟨a.toArray⟩ : ByteArray) ++ ⟨b.toArray⟩ = ⟨(a ++ b).toArray⟩ := by
 apply ByteArray.ext
 simp
theorem conv_new {w : World} {n : Nat} {l : Str} {cs : List Value} (h : cs = l.map fun b => Value.int .u8 b.toNat) (hl : cs.length = n) : (convert 162 9 (.slice (some ⟨w.heap.size, 0, none⟩) n n)).run Tryz.prog (w.alloc (.cells cs.toArray 5)) = .ok (.string ⟨l.toArray⟩) (w.alloc (.cells cs.toArray 5)) := by
 have hln : l.length = n := by rw [← hl, h]; simp
 refine conv_bytes' (K := fun _ => True) (l := l) ?_
 refine (show Rd _ _ _ _ _ _ from ?_)
 rw [← hln] at hl ⊢
 have h2 := (rd_new w 5 1 l.length cs (by omega)).mono (G := fun _ => True) fun _ _ _ => trivial
 rw [h] at h2
 rw [h]
 exact h2
def letterOf (k : Nat) : Str := ([110, 105, 99, 100, 112, 114, 117, 102, 103, 116].drop (k - 1)).take 1
theorem letter_ok (k : Nat) (h1 : 1 ≤ k) (h2 : k ≤ 10) : Calls Tryz.prog 188 #[.int .i64 k] w fun e w' => e = .returned (.string ⟨(letterOf k).toArray⟩) ∧ w = w' := by
 have h3 : (k : Int) ≤ 10 := by omega
 have h4 : (0 : Int) ≤ (k : Int) - 1 := by omega
 go_enter Tryz.func188, Tryz.ntmps188
 have hx : (⟨#[110, 105, 99, 100, 112, 114, 117, 102, 103, 116]⟩ : ByteArray).extract (k - 1) k = ⟨(letterOf k).toArray⟩ := by
  have : k = 1 ∨ k = 2 ∨ k = 3 ∨ k = 4 ∨ k = 5 ∨ k = 6 ∨ k = 7 ∨ k = 8 ∨ k = 9 ∨ k = 10 := by omega
  rcases this with rfl | rfl | rfl | rfl | rfl | rfl | rfl | rfl | rfl | rfl <;> rfl
 go_wp2_with fail
 go_ret
 exact ⟨rfl, rfl⟩
end
end Go.Proofs.YtpjfheadolphgaaGreat
namespace Go.Proofs.YtpjfheadolphgaaGreat
open Go.RowKit Go.Proofs Go.Shelf
set_option maxRecDepth 20000
attribute [local go_sem] Oper.semAt_some
section
variable {w w' : World} {b1 b3 b4 : Nat} {K : Nat} {A B : Str} {n m l : Nat}
theorem key_within {n l h : Int} (hh : l ≤ n ∧ n ≤ h) : Calls Tryz.prog 185 #[.int .i64 n, .int .i64 l, .int .i64 h] w fun e w' => e = .returned (.bool true) ∧ w = w' := by
 refine (within_ok n l h).mono ?_
 rintro e w1 ⟨rfl, rfl⟩
 exact ⟨by simp [hh], rfl⟩
end
end Go.Proofs.YtpjfheadolphgaaGreat
namespace Go.Proofs.YtpjfheadolphgaaGreat
open Go.RowKit Go.Proofs Go.Shelf
set_option maxRecDepth 20000
attribute [local go_sem] Oper.semAt_some
section
variable {w w' : World} {m : Nat}
def byteOf (x : Int) : UInt8 := UInt8.ofNat (x % 256).toNat
theorem byteOf_val (x : Int) : Value.int .u8 (x % 256) = Value.int .u8 (byteOf x).toNat := by
 unfold byteOf
 rw [UInt8.toNat_ofNat']
 congr 1; omega
def be3i (n : Int) : Str := [byteOf (n / 65536), byteOf (n / 256), byteOf n]
theorem be3i_cells (n : Int) : [Value.int .u8 (n / 65536 % 256), .int .u8 (n / 256 % 256), .int .u8 (n % 256)] = (be3i n).map fun b => Value.int .u8 b.toNat := by
 unfold be3i
 simp only [List.map_cons, List.map_nil, byteOf_val]
theorem be3i_nat {n : Nat} (hn : n ≤ 16777215) : be3i n = be3 n := by
 unfold be3i be3 byteOf
 congr 1
 ·apply UInt8.toNat.inj; simp; omega
 ·congr 1
  ·apply UInt8.toNat.inj; simp; omega
  ·congr 1; apply UInt8.toNat.inj; simp; omega
theorem number_any (n : Int) : Calls Tryz.prog 186 #[.int .i64 n] w fun e w' => e = .returned (.string ⟨(be3i n).toArray⟩) ∧ Only NoB w w' := by
 have hcv := conv_new (w := w) (n := 3) (be3i_cells n) rfl
 go_enter Tryz.func186, Tryz.ntmps186
 go_wp2_with fail
 go_ret
 exact ⟨rfl, (Only.refl NoB w).alloc _⟩
end
end Go.Proofs.YtpjfheadolphgaaGreat
namespace Go.Proofs.YtpjfheadolphgaaGreat
open Go.RowKit Go.Proofs Go.Shelf
set_option maxRecDepth 20000
theorem wpListIn_app {P : Program} {w : World} {Fc : Fence} {nF : Nat} {ops : Array Oper} {rest : List Oper} {o : Oper} {a : Act} {Q : Exit → Act → World → Prop} (hgd : o.guard = none) (s x : Operand) (t : TypeId)
  (ho : o.op = .call { callee := .builtin .append, args := #[s, x], argTypes := #[t, t] }) {e : TypeId} {z : Value} {size bytes : Nat} (ht : P.underlying t = some (.slice e)) (he : Elt P e z size bytes)
  {F G : Nat → Prop} {v : Value} {n : Nat} {xs : List Value} (hs : a.eval s = v) {sv : Value} {m : Nat} {news : List Value} (hx : a.eval x = sv) (hown : Own w F e size v n xs) (hr : Rd w G size sv m news)
  (h1 : ∀ u ∈ news, u.oneCell' = true) (hb : (n + m) * bytes ≤ 140737488355328)
  (hK : ∀ v' w', App w F e size v n m xs news v' w' → wpListIn Fc nF P ops Q rest (a.put o.dst v') w') : wpListIn Fc nF P ops Q (o :: rest) a w := by
 subst hs; subst hx
 refine wpListIn_plain hgd fun K hK' => ?_
 obtain ⟨v', w', hrun, h2⟩ := run_append_rd (ty := o.type) ht he hown hr h1 hb
 unfold Oper.wpIn
 refine ⟨by simp [Oper.about, ho, resolve, Target.leads, Sem.run_pure], ?_⟩
 rw [Oper.semAt_plain Fc _ _ (by rw [ho]; intro c hc'; cases hc')]
 simp only [execOp, ho, resolve, invoke, builtin, Sem.run_bind, Sem.run_pure, Result.andThen_ok, List.map_toArray, List.map_cons, List.map_nil, hrun]
 exact hK' _ _ (hK v' w' h2)
theorem results_cell_cell {P : Program} {fn : Func} {u q : Tmp} {ty2 ty3 : TypeId} (h : fn.results = #[.cell u ty2, .cell q ty3]) (tmps : Array Value) (w : World) (g2 g3 : Nat) (v2 v3 : Value)
  (hp2 : tmps.getD u undef = .pointer (some ⟨g2, 0, none⟩)) (hg2 : w.cell? ⟨g2, 0, none⟩ = some v2) (hu2 : (match P.underlying ty2 with | some (.struct _) | some (.array _ _) | none => true | _ => false) = false)
  (hp3 : tmps.getD q undef = .pointer (some ⟨g3, 0, none⟩)) (hg3 : w.cell? ⟨g3, 0, none⟩ = some v3) (hu3 : (match P.underlying ty3 with | some (.struct _) | some (.array _ _) | none => true | _ => false) = false) :
  (results fn tmps).run P w = .ok (.tuple #[v2, v3]) w := by
 have hp2' : tmps[u]?.getD undef = .pointer (some ⟨g2, 0, none⟩) := by simpa using hp2
 have hp3' : tmps[q]?.getD undef = .pointer (some ⟨g3, 0, none⟩) := by simpa using hp3
 have h2 := run_loadVar_one (P := P) (ty := ty2) hg2 hu2
 have h3 := run_loadVar_one (P := P) (ty := ty3) hg3 hu3
 simp [results, h, hp2', hp3', asAddr, Result.andThen, h2, h3]
def MineS (B b : Nat) (ty e : TypeId) (size n : Nat) (xs : List Value) (W : World) (G : Nat → Prop) : Prop := ∃ v, Mine b ty #[v] W G ∧ Own W (fun g => B ≤ g ∧ ¬ G g) e size v n xs
theorem own_cells {w : World} {F : Nat → Prop} {e : TypeId} {size n g : Nat} {v : Value} {xs : List Value} (h : Own w F e size v n xs) (hg : v.ownBlock = some g) : ∃ cur, w.heap[g]? = some (.cells cur e (0, 0)) := by
 rcases h.1.2 with ⟨rfl, _⟩ | ⟨g', cap, cur, rfl, _, hh, _⟩
 ·cases hg
 ·injection hg with hg
  subst hg
  exact ⟨cur, hh⟩
theorem mineS_abid {B B' b : Nat} {ty e : TypeId} {size n : Nat} {xs : List Value} : Abid B' (MineS B b ty e size n xs) := fun W W' G S hi hS ho => by
 obtain ⟨v, h1, h2⟩ := hi
 refine ⟨v, mine_abid W W' G S h1 hS ho, h2.keep fun k hk => ?_⟩
 obtain ⟨cur, hc⟩ := own_cells h2 hk
 refine ho.block k (h2.lt hk) fun hs => ?_
 obtain ⟨_, _, o, h3, h4⟩ := hS k hs
 rw [hc] at h3
 injection h3 with h3
 subst h3
 cases h4
theorem mineS_stay {T : World → (Nat → Prop) → Prop} {B b : Nat} {ty e : TypeId} {size n : Nat} {xs : List Value} : Stay T (MineS B b ty e size n xs) := fun W G W2 G2 hT hi hT2 ho hg => by
 obtain ⟨v, h1, h2⟩ := hi
 refine ⟨v, mine_stay W G W2 G2 hT h1 hT2 ho hg, ?_⟩
 have h3 := h2.keep (w' := W2) fun k hk => ho.block k (h2.lt hk) (h2.2 k hk).2
 exact ⟨h3.1, fun g hgv => ⟨(h2.2 g hgv).1, fun hk => (hg g hk).elim (h2.2 g hgv).2 fun hl => by have := h2.lt hgv; omega⟩⟩
attribute [local go_sem] Oper.semAt_some
section
variable {w w' : World} {F G : Nat → Prop} {X : XC} {t m n own c most : Nat} {D : PD} {M : List KV} {key pre s : Str}
def AllI (w : World) (F : Nat → Prop) (most : Nat) (L : List KV) (B k : Nat) (W : World) (G : Nat → Prop) : Prop :=
 k ≤ most ∧ Mine w.heap.size 3 #[.int .i64 most] W G ∧ Mine (w.heap.size + 1) 145 #[.slice none 0 0] W G ∧ Mine (w.heap.size + 1 + 1) 38 #[.int .i64 0] W G ∧ MineS B (w.heap.size + 1 + 1 + 1) 145 83 2 k (pairL (L.take k)) W G ∧ Mine (w.heap.size + 1 + 1 + 1 + 1) 38 #[.int .i64 0] W G ∧ Since w F W G ∧ Big B W G
theorem allI_abid {F : Nat → Prop} {L : List KV} {B B' k : Nat} (hB : w.heap.size ≤ B') : Abid B' (AllI w F most L B k) := (Abid.pure _).and (mine_abid.and (mine_abid.and (mine_abid.and (mineS_abid.and (mine_abid.and ((since_abid hB).and big_abid))))))
theorem allI_stay {T : World → (Nat → Prop) → Prop} {L : List KV} {F : Nat → Prop} {B k : Nat} : Stay T (AllI w F most L B k) := (Stay.pure _).and (mine_stay.and (mine_stay.and (mine_stay.and (mineS_stay.and (mine_stay.and (since_stay.and big_stay))))))
def AllX (w : World) (F : Nat → Prop) (most : Nat) (L : List KV) (c : Code) (W : World) (G : Nat → Prop) : Prop :=
 (c = .ret ∧ most < L.length) ∧ Mine (w.heap.size + 1) 145 #[.slice none 0 0] W G ∧ Mine (w.heap.size + 1 + 1) 38 #[.int .i64 2] W G ∧ Since w F W G
theorem allX_abid {F : Nat → Prop} {B' : Nat} {L : List KV} {c : Code} (hB : w.heap.size ≤ B') : Abid B' (AllX w F most L c) := (Abid.pure _).and (mine_abid.and (mine_abid.and (since_abid hB)))
def AllAns (B : Nat) (F' : Nat → Prop) (most : Nat) (L : List KV) (e : Ending) (w' : World) : Prop :=
 (L.length ≤ most ∧ ∃ v, e = .returned (.tuple #[v, .int .i64 0]) ∧ Own w' (fun g => B ≤ g ∧ ¬ F' g) 83 2 v L.length (pairL L)) ∨ (most < L.length ∧ e = .returned (.tuple #[.slice none 0 0, .int .i64 2]))
set_option maxHeartbeats 2000000 in
theorem all_ok (h : TxAt w F X t D) (hb : Bt D M c) (hkl : ∀ x ∈ M, x.1.length ≤ 1000) (hpl : pre.length ≤ 1000) (hlen : (under pre M).length ≤ 1000000) :
  Calls Tryz.prog 95 #[.pointer (some ⟨t, 0, none⟩), .string ⟨pre.toArray⟩, .int .i64 most] w (fun e w' => ∃ F', AllAns w.heap.size F' most (under pre M) e w' ∧ TxAt w' F' X t D ∧ Only F w w' ∧ Grows F F' w) := by
 refine (callsIn_wide (n := 6)).1 ?_
 refine callsIn_of_wp_marks Tryz.func95 rfl trivial ?_ rfl
 refine wpIn_wide.2 ?_
 simp only [Tryz.ntmps95, List.size_toArray, List.length_cons, List.length_nil, Nat.reduceAdd, Nat.reduceSub, Array.replicate_succ, Array.replicate_zero, List.push_toArray, List.append_toArray, List.nil_append, List.cons_append]
 go_wp2_with fail
 refine (pairs_ok _).mono ?_
 rintro e w1 ⟨rfl, rfl⟩
 go_wp2_with fail
 obtain ⟨R, hR⟩ : ∃ R, R = w.heap.size := ⟨_, rfl⟩
 obtain ⟨W0, hW0⟩ : ∃ W0, W0 = (((((((w.alloc (.cells #[.int .i64 most] 3)).alloc (.cells #[.slice none 0 0] 145)).alloc (.cells #[.int .i64 0] 38)).alloc (.cells #[.slice none 0 0] 145)).alloc (.cells #[.int .i64 0] 38)).alloc (.cells #[.pointer (some ⟨t, 0, none⟩)] 24)).alloc (.cells #[.string ⟨pre.toArray⟩] 9)).alloc (.cells #[.pointer (some ⟨w.heap.size + 1 + 1 + 1 + 1, 0, none⟩)] 266) := ⟨_, rfl⟩
 rw [← hW0]
 have hWa : W0 = allocs w [(#[.int .i64 most], 3), (#[.slice none 0 0], 145), (#[.int .i64 0], 38), (#[.slice none 0 0], 145), (#[.int .i64 0], 38), (#[.pointer (some ⟨t, 0, none⟩)], 24), (#[.string ⟨pre.toArray⟩], 9), (#[.pointer (some ⟨w.heap.size + 1 + 1 + 1 + 1, 0, none⟩)], 266)] := hW0
 have hs0 : W0.heap.size = w.heap.size + 8 := by rw [hWa, allocs_size]; rfl
 have ho0 : Only NoB w W0 := by rw [hWa]; exact allocs_only _ _
 have b0 : Blk W0 w.heap.size 3 #[.int .i64 most] := blk_of hWa 0 rfl
 have b1 : Blk W0 (w.heap.size + 1) 145 #[.slice none 0 0] := blk_of hWa 1 rfl
 have b2 : Blk W0 (w.heap.size + 1 + 1) 38 #[.int .i64 0] := blk_of hWa 2 rfl
 have b3 : Blk W0 (w.heap.size + 1 + 1 + 1) 145 #[.slice none 0 0] := blk_of hWa 3 rfl
 have b4 : Blk W0 (w.heap.size + 1 + 1 + 1 + 1) 38 #[.int .i64 0] := blk_of hWa 4 rfl
 have b5 : Blk W0 (w.heap.size + 1 + 1 + 1 + 1 + 1) 24 #[.pointer (some ⟨t, 0, none⟩)] := blk_of hWa 5 rfl
 have b6 : Blk W0 (w.heap.size + 1 + 1 + 1 + 1 + 1 + 1) 9 #[.string ⟨pre.toArray⟩] := blk_of hWa 6 rfl
 have b7 : Blk W0 (w.heap.size + 1 + 1 + 1 + 1 + 1 + 1 + 1) 266 #[.pointer (some ⟨w.heap.size + 1 + 1 + 1 + 1, 0, none⟩)] := blk_of hWa 7 rfl
 have hF : ∀ k, w.heap.size ≤ k → ¬ F k := fun k hk hf => by have := h.lt k hf; omega
 have hT0 : PairsT X t D pre (w.heap.size + 1 + 1 + 1 + 1 + 1 + 1) (w.heap.size + 1 + 1 + 1 + 1 + 1) (w.heap.size + 1 + 1 + 1 + 1 + 1 + 1 + 1) (w.heap.size + 1 + 1 + 1 + 1) W0 F := ⟨h.quit ho0, ⟨b6, hF _ (by omega)⟩, ⟨b5, hF _ (by omega)⟩, ⟨b7, hF _ (by omega)⟩⟩
 have hi0 : AllI w F most (under pre M) W0.heap.size 0 W0 F := ⟨Nat.zero_le _, ⟨b0, hF _ (Nat.le_refl _)⟩, ⟨b1, hF _ (by omega)⟩, ⟨b2, hF _ (by omega)⟩, ⟨_, ⟨b3, hF _ (by omega)⟩, Own.nil _ _ _ _⟩, ⟨b4, hF _ (by omega)⟩, ⟨ho0.mono fun _ _ h => h.elim, Grows.refl F w⟩, Nat.le_refl _⟩
 have HLEN := Lib.hid hlen
 clear hW0 hWa b0 b1 b2 b3 b4 b5 b6 b7 hlen
 refine (wpIn_wide (n := 6)).1 ?_
 refine range_tx (n := 6) (gf := 266) (N := (under pre M).length) (encs := pairA (under pre M)) (T := PairsT X t D pre (w.heap.size + 1 + 1 + 1 + 1 + 1 + 1) (w.heap.size + 1 + 1 + 1 + 1 + 1) (w.heap.size + 1 + 1 + 1 + 1 + 1 + 1 + 1) (w.heap.size + 1 + 1 + 1 + 1)) pairsT_abid (fun W G hT => hT.1.lt) rfl (enters_of Tryz.func266 (by kernel_rfl) rfl) (pairs_iter hb hkl hpl 5 (by omega)) (fun _ => rfl)
  (AllI w F most (under pre M) W0.heap.size) (fun k => allI_abid (by omega)) (fun k => allI_stay) (fun c _ => AllX w F most (under pre M) c) (fun c _ => allX_abid (by omega))
  hT0 hi0
  (fun k a' W => ∃ Bx, W0.heap.size ≤ Bx ∧ Blk W Bx 83 #[.string ⟨(keyAt (under pre M) k).toArray⟩, .string ⟨(valAt (under pre M) k).toArray⟩] ∧ ∃ a14, a' = Act.mk #[.pointer (some ⟨t, 0, none⟩), .string ⟨pre.toArray⟩, .int .i64 most, undef, undef, .pointer (some ⟨w.heap.size, 0, none⟩), .pointer (some ⟨w.heap.size + 1, 0, none⟩), .pointer (some ⟨w.heap.size + 1 + 1, 0, none⟩), .pointer (some ⟨w.heap.size + 1 + 1 + 1, 0, none⟩), .pointer (some ⟨w.heap.size + 1 + 1 + 1 + 1, 0, none⟩), .pointer (some ⟨Bx, 0, none⟩),
   .pointer (some ⟨t, 0, none⟩), .string ⟨pre.toArray⟩, .func (.func 266) #[] #[.pointer (some ⟨w.heap.size + 1 + 1 + 1 + 1 + 1 + 1, 0, none⟩), .pointer (some ⟨w.heap.size + 1 + 1 + 1 + 1 + 1, 0, none⟩), .pointer (some ⟨w.heap.size + 1 + 1 + 1 + 1 + 1 + 1 + 1, 0, none⟩)], a14, undef, undef, undef, undef, undef, undef, undef, undef, undef, undef, undef, undef] [])
  ?hAx ?assign ?body ?done ?stop
 case hAx =>
  rintro k a' W W' _ S ⟨Bx, h1, h2, h3⟩ hS ho
  exact ⟨Bx, h1, blk_abid h2 (fun q hq => (hS q hq).2.2) ho, h3⟩
 case assign =>
  intro l k W G K hk hT hI hK
  have HK := Lib.hid hK
  have HT := Lib.hid hT
  have HI := Lib.hid hI
  clear hK hT hI
  unfold pairA
  gi_wp2
  exact HK.out _ _ ((Only.refl NoB W).alloc _) ((pairsT_abid (B := 0)).quit HT.out ((Only.refl NoB W).alloc _)) ((allI_abid (Nat.le_refl _)).quit HI.out ((Only.refl NoB W).alloc _)) ⟨W.heap.size, HI.out.2.2.2.2.2.2.2, Blk.new _ _ _, _, rfl⟩
 case body =>
  rintro l k a' W G hk hl hT hI ⟨Bx, hBx, hbx, a14, rfl⟩
  obtain ⟨hkm, i0, i1, i2, ⟨v, i3, ho⟩, i4, isn, ibg⟩ := hI
  obtain ⟨A, cp, rfl, hcp⟩ := ho.shape
  have x0 := hbx.cell 0
  have x1 := hbx.cell 1
  have y0 := i0.1.cell 0
  have z0 := i1.1.cell 0
  have z1 := i1.1.frozen 0
  have u0 := i2.1.cell 0
  have u1 := i2.1.frozen 0
  have v0 := i3.1.cell 0
  have v1 := i3.1.frozen 0
  have HK := Lib.hid hk
  have HKM := Lib.hid hkm
  have HT := Lib.hid hT
  have H0 := Lib.hid i0
  have H1 := Lib.hid i1
  have H2 := Lib.hid i2
  have H3 := Lib.hid i3
  have H4 := Lib.hid i4
  have HO := Lib.hid ho
  have HSN := Lib.hid isn
  have HBG := Lib.hid ibg
  have HL := Lib.hid hl
  have HBX := Lib.hid hBx
  clear hk hl hT i0 i1 i2 i3 i4 isn ibg hBx hbx ho hkm hcp
  by_cases hlt : k < most
  ·have hge : ¬ ((most : Int) ≤ (k : Int)) := by omega
   have HLT := Lib.hid hlt
   have hk6 : k ≤ 1000000 := by have := HLEN.out; have := HK.out; omega
   have hR3 : ∀ q, (Value.slice A k cp).ownBlock = some q → ¬ (w.heap.size + 1 + 1 + 1 = q) := fun q hq => by have := (HO.out.2 q hq).1; omega
   have HO1 : Hid (Own (W.alloc (.cells #[.string ⟨(keyAt (under pre M) k).toArray⟩, .string ⟨(valAt (under pre M) k).toArray⟩] 83)) (fun g => (Value.slice A k cp).ownBlock = some g) 83 2 (.slice A k cp) k (pairL ((under pre M).take k))) := Lib.hid (Own.alloc (w := W) ⟨HO.out.1, fun _ h => h⟩ _)
   have HR : Hid (Rd (W.alloc (.cells #[.string ⟨(keyAt (under pre M) k).toArray⟩, .string ⟨(valAt (under pre M) k).toArray⟩] 83)) (fun q => q = W.heap.size) 2 (.slice (some ⟨W.heap.size, 0, none⟩) 1 1) 1 [.string ⟨(keyAt (under pre M) k).toArray⟩, .string ⟨(valAt (under pre M) k).toArray⟩]) := Lib.hid (rd_new W 83 2 1 [.string ⟨(keyAt (under pre M) k).toArray⟩, .string ⟨(valAt (under pre M) k).toArray⟩] rfl)
   have H1N : Hid (∀ u ∈ ([.string ⟨(keyAt (under pre M) k).toArray⟩, .string ⟨(valAt (under pre M) k).toArray⟩] : List Value), u.oneCell' = true) := Lib.hid (by simp [Value.oneCell'])
   have HB3 : Hid (∀ v' w', App (W.alloc (.cells #[.string ⟨(keyAt (under pre M) k).toArray⟩, .string ⟨(valAt (under pre M) k).toArray⟩] 83)) (fun g => (Value.slice A k cp).ownBlock = some g) 83 2 (.slice A k cp) k 1 (pairL ((under pre M).take k)) [.string ⟨(keyAt (under pre M) k).toArray⟩, .string ⟨(valAt (under pre M) k).toArray⟩] v' w' → Blk w' (w.heap.size + 1 + 1 + 1) 145 #[.slice A k cp]) := Lib.hid fun v' w' ha => (H3.out.1.only ((Only.refl NoB W).alloc _) id).only ha.only fun hq => hR3 _ hq rfl
   clear z0 z1 u0 u1 hlt v1 hR3
   gi_wp2_with (gi_at_builtin; refine wpListIn_app rfl _ _ _ rfl (by kernel_rfl) Ty.pair rfl rfl HO1.out HR.out H1N.out (by omega) ?_; intro v' w' ha; obtain ⟨A', c', rfl, hc'⟩ := ha.shape; have hb3 := HB3.out _ _ ha; have v0' := hb3.cell 0; have v1' := hb3.frozen 0; have HA := Lib.hid ha; clear ha hb3 v0 hc')
   rw [← hs0]
   have hoA : Only (fun q => (Value.slice A k cp).ownBlock = some q) W w' := ((Only.refl _ W).alloc _).trans HA.out.only
   have hst : Only (fun q => q = w.heap.size + 1 + 1 + 1) w' (w'.setCell ⟨w.heap.size + 1 + 1 + 1, 0, none⟩ (.slice A' (k + 1) c')) := (Only.refl (fun q => q = w.heap.size + 1 + 1 + 1) w').setCell (p := ⟨w.heap.size + 1 + 1 + 1, 0, none⟩) (.inl rfl) _
   have hall : Only (fun q => q = w.heap.size + 1 + 1 + 1 ∨ (Value.slice A k cp).ownBlock = some q) W (w'.setCell ⟨w.heap.size + 1 + 1 + 1, 0, none⟩ (.slice A' (k + 1) c')) := (hoA.mono fun _ _ h => .inr h).trans (hst.mono fun _ _ h => .inl h)
   have hob : ∀ q, (Value.slice A k cp).ownBlock = some q → w.heap.size + 8 ≤ q ∧ ¬ G q := fun q hq => ⟨by have := (HO.out.2 q hq).1; omega, (HO.out.2 q hq).2⟩
   have hG : ∀ q, G q → ¬ (q = w.heap.size + 1 + 1 + 1 ∨ (Value.slice A k cp).ownBlock = some q) := fun q hq h => by
    rcases h with rfl | h
    ·exact H3.out.2 hq
    ·exact (hob q h).2 hq
   have hlow : ∀ q, q < w.heap.size + 8 → q ≠ w.heap.size + 1 + 1 + 1 → ¬ (q = w.heap.size + 1 + 1 + 1 ∨ (Value.slice A k cp).ownBlock = some q) := fun q hq hne h => by
    rcases h with h | h
    ·exact hne h
    ·have := (hob q h).1; omega
   have hkN := HK.out
   have htk : pairL ((under pre M).take (k + 1)) = pairL ((under pre M).take k) ++ [.string ⟨(keyAt (under pre M) k).toArray⟩, .string ⟨(valAt (under pre M) k).toArray⟩] := by
    rw [pairL_take _ hkN]
    unfold keyAt valAt strV
    rw [List.getD_eq_getElem?_getD, List.getElem?_eq_getElem hkN]; rfl
   have hb3 : Blk w' (w.heap.size + 1 + 1 + 1) 145 #[.slice A k cp] := HB3.out _ _ HA.out
   have hown : Own (w'.setCell ⟨w.heap.size + 1 + 1 + 1, 0, none⟩ (.slice A' (k + 1) c')) (fun g => W0.heap.size ≤ g ∧ ¬ G g) 83 2 (.slice A' (k + 1) c') (k + 1) (pairL ((under pre M).take (k + 1))) := by
    rw [htk]
    have hszW := HBG.out
    refine (HA.out.own.only hst fun q hq e => ?_).mono fun q hq _ => ?_
    ·have e : q = w.heap.size + 1 + 1 + 1 := e
     rcases hq with hq | hq
     ·have := (hob q hq).1; omega
     ·have hq : q = _ := hq
      rw [World.size_alloc] at hq
      unfold Big at hszW; omega
    ·rcases hq with hq | hq
     ·exact HO.out.2 q hq
     ·rw [World.size_alloc] at hq
      unfold Big at hszW
      exact ⟨by omega, fun hg => by have := HT.out.1.lt q hg; omega⟩
   refine ⟨fun q hq => hall.block q (HT.out.1.lt q hq) (hG q hq), fun q o hq ho hoc => (hall.block q (Array.getElem?_eq_some_iff.1 ho).1 fun h => ?_).trans ho, HT.out.beside hall hG ⟨hlow _ (by omega) (by omega), hlow _ (by omega) (by omega), hlow _ (by omega) (by omega)⟩, HLT.out, ⟨H0.out.1.only hall (hlow _ (by omega) (by omega)), H0.out.2⟩, ⟨H1.out.1.only hall (hlow _ (by omega) (by omega)), H1.out.2⟩, ⟨H2.out.1.only hall (hlow _ (by omega) (by omega)), H2.out.2⟩, ⟨_, ⟨hb3.set_ 0 _, H3.out.2⟩, hown⟩, ⟨H4.out.1.only hall (hlow _ (by omega) (by omega)), H4.out.2⟩, ⟨HSN.out.1.trans' hall fun q hq h => ?_, HSN.out.2⟩, Nat.le_trans HBG.out hall.size⟩
   ·rcases h with h | h
    ·omega
    ·obtain ⟨cur, hc⟩ := own_cells HO.out h
     rw [hc] at ho
     injection ho with ho
     subst ho
     cases hoc
   ·rcases h with h | h
    ·omega
    ·have := (hob q h).1; omega
  ·have hge : (most : Int) ≤ (k : Int) := by omega
   have HGE := Lib.hid hge
   clear hlt v1 x0 x1
   gi_wp2_with fail
   have a1 := H1.out.1.set_ 0 (.slice none 0 0)
   have hst1 : Only (fun k => k = w.heap.size + 1) W (W.setCell ⟨w.heap.size + 1, 0, none⟩ (.slice none 0 0)) := (Only.refl (fun k => k = w.heap.size + 1) W).setCell (p := ⟨w.heap.size + 1, 0, none⟩) (.inl rfl) (.slice none 0 0)
   have a2 := (H2.out.1.only hst1 (by show ¬ (w.heap.size + 1 + 1 = w.heap.size + 1); omega)).set_ 0 (.int .i64 2)
   have hst2 : Only (fun k => k = w.heap.size + 1 + 1) (W.setCell ⟨w.heap.size + 1, 0, none⟩ (.slice none 0 0)) ((W.setCell ⟨w.heap.size + 1, 0, none⟩ (.slice none 0 0)).setCell ⟨w.heap.size + 1 + 1, 0, none⟩ (.int .i64 2)) := (Only.refl (fun k => k = w.heap.size + 1 + 1) _).setCell (p := ⟨w.heap.size + 1 + 1, 0, none⟩) (.inl rfl) (.int .i64 2)
   have hall : Only (fun k => k = w.heap.size + 1 ∨ k = w.heap.size + 1 + 1) W _ := (hst1.mono fun _ _ h => .inl h).trans (hst2.mono fun _ _ h => .inr h)
   have hG : ∀ k, G k → ¬ (k = w.heap.size + 1 ∨ k = w.heap.size + 1 + 1) := fun k hk h => by
    rcases h with rfl | rfl
    ·exact H1.out.2 hk
    ·exact H2.out.2 hk
   have hkm := HKM.out
   refine ⟨fun q o hq ho _ => (hall.block q (Array.getElem?_eq_some_iff.1 ho).1 (by omega)).trans ho, HT.out.beside hall hG ⟨by omega, by omega, by omega⟩, ⟨rfl, by have := HK.out; have := HGE.out; omega⟩, ⟨a1.only hst2 (by show ¬ (w.heap.size + 1 = w.heap.size + 1 + 1); omega), H1.out.2⟩, ⟨a2, H2.out.2⟩, HSN.out.1.trans' hall fun k hk h => by omega, HSN.out.2⟩
 case done =>
  rintro d W G hd hnd hT ⟨hkm, i0, i1, i2, ⟨v, i3, ho⟩, i4, isn, ibg⟩ hK
  obtain ⟨A, cp, rfl, hcp⟩ := ho.shape
  have HKM := Lib.hid hkm
  have HT := Lib.hid hT
  have H1 := Lib.hid i1
  have H2 := Lib.hid i2
  have H3 := Lib.hid i3
  have HO := Lib.hid ho
  have HSN := Lib.hid isn
  have HK := Lib.hid hK
  have HND := Lib.hid hnd
  have z0 := i1.1.cell 0
  have z1 := i1.1.frozen 0
  have u0 := i2.1.cell 0
  have u1 := i2.1.frozen 0
  have v0 := i3.1.cell 0
  have x0 := i4.1.cell 0
  clear i0 i1 i2 i3 i4 isn ibg ho hK hT hnd hkm hcp
  go_wp2_with fail
  have a1 := H1.out.1.set_ 0 (.slice A (under pre M).length cp)
  have hst1 : Only (fun k => k = w.heap.size + 1) W (W.setCell ⟨w.heap.size + 1, 0, none⟩ (.slice A (under pre M).length cp)) := (Only.refl (fun k => k = w.heap.size + 1) W).setCell (p := ⟨w.heap.size + 1, 0, none⟩) (.inl rfl) _
  have a2 := (H2.out.1.only hst1 (by show ¬ (w.heap.size + 1 + 1 = w.heap.size + 1); omega)).set_ 0 (.int .i64 0)
  have hst2 : Only (fun k => k = w.heap.size + 1 + 1) (W.setCell ⟨w.heap.size + 1, 0, none⟩ (.slice A (under pre M).length cp)) ((W.setCell ⟨w.heap.size + 1, 0, none⟩ (.slice A (under pre M).length cp)).setCell ⟨w.heap.size + 1 + 1, 0, none⟩ (.int .i64 0)) := (Only.refl (fun k => k = w.heap.size + 1 + 1) _).setCell (p := ⟨w.heap.size + 1 + 1, 0, none⟩) (.inl rfl) (.int .i64 0)
  obtain ⟨WF, hWF⟩ : ∃ z, z = (W.setCell ⟨w.heap.size + 1, 0, none⟩ (.slice A (under pre M).length cp)).setCell ⟨w.heap.size + 1 + 1, 0, none⟩ (.int .i64 0) := ⟨_, rfl⟩
  have hall : Only (fun k => k = w.heap.size + 1 ∨ k = w.heap.size + 1 + 1) W WF := by rw [hWF]; exact (hst1.mono fun _ _ h => .inl h).trans (hst2.mono fun _ _ h => .inr h)
  have a1' : Blk WF (w.heap.size + 1) 145 #[.slice A (under pre M).length cp] := by rw [hWF]; exact a1.only hst2 (by show ¬ (w.heap.size + 1 = w.heap.size + 1 + 1); omega)
  have a2' : Blk WF (w.heap.size + 1 + 1) 38 #[.int .i64 0] := by rw [hWF]; exact a2
  have hG : ∀ k, G k → ¬ (k = w.heap.size + 1 ∨ k = w.heap.size + 1 + 1) := fun k hk h => by
   rcases h with rfl | rfl
   ·exact H1.out.2 hk
   ·exact H2.out.2 hk
  have hKF := (hall.block d (Array.getElem?_eq_some_iff.1 HK.out).1 (by omega)).trans HK.out
  have hown := HO.out.keep (w' := WF) fun q hq => hall.block q (HO.out.lt hq) fun h => by have := (HO.out.2 q hq).1; omega
  rw [← hWF]
  clear hWF hst1 hst2 a1 a2
  refine ⟨by simp, .inl ⟨_, _, rfl, run_takeDeferred hKF, ?_⟩⟩
  have hp := put_only WF d (.deferred none)
  have hS : ∀ q, q = d → ∃ o : Obj, WF.heap[q]? = some o ∧ o.isCells = false := fun q hq => by rw [hq]; exact ⟨_, hKF, rfl⟩
  have c1 := (blk_abid a1' hS hp).cell 0
  have c2 := (blk_abid a2' hS hp).cell 0
  have hown2 := hown.keep (w' := WF.putObj d (.deferred none)) fun q hq => hp.block q (hown.lt hq) fun h => by
   obtain ⟨cur, hc⟩ := own_cells hown hq
   obtain ⟨o, h1, h2⟩ := hS q h
   rw [hc] at h1
   injection h1 with h1
   subst h1
   cases h2
  rw [List.take_length] at hown2
  refine ⟨_, results_cell_cell rfl _ _ (w.heap.size + 1) (w.heap.size + 1 + 1) _ _ rfl c1 (by kernel_rfl) rfl c2 (by kernel_rfl), G, .inl ⟨HKM.out, _, rfl, ⟨hown2.1, fun g hg => ⟨by have := (hown2.2 g hg).1; omega, (hown2.2 g hg).2⟩⟩⟩, ?_, ?_, HSN.out.2⟩
  ·exact (HT.out.1.only hall hG).only hp fun k hk he => HND.out (he ▸ hk)
  ·exact (HSN.out.1.trans' hall fun k hk he => by omega).trans' hp fun k hk he => by have he : k = d := he; omega
 case stop =>
  rintro d c k W G hd hk hnd hT ⟨⟨rfl, hL0⟩, i1, i2, isn⟩ hK
  have HL0 := Lib.hid hL0
  have HT := Lib.hid hT
  have H1 := Lib.hid i1
  have H2 := Lib.hid i2
  have HSN := Lib.hid isn
  have HK := Lib.hid hK
  have HND := Lib.hid hnd
  clear i1 i2 isn hL0 hT hnd hk
  gi_wp2_with fail
  refine ⟨by simp, .inl ⟨_, _, rfl, run_takeDeferred HK.out, ?_⟩⟩
  have hp := put_only W d (.deferred none)
  have hS : ∀ q, q = d → ∃ o : Obj, W.heap[q]? = some o ∧ o.isCells = false := fun q hq => by rw [hq]; exact ⟨_, HK.out, rfl⟩
  have c1 := (blk_abid H1.out.1 hS hp).cell 0
  have c2 := (blk_abid H2.out.1 hS hp).cell 0
  refine ⟨_, results_cell_cell rfl _ _ (w.heap.size + 1) (w.heap.size + 1 + 1) _ _ rfl c1 (by kernel_rfl) rfl c2 (by kernel_rfl), G, .inr ⟨HL0.out, rfl⟩, ?_, ?_, HSN.out.2⟩
  ·exact HT.out.1.only hp fun k hk he => HND.out (he ▸ hk)
  ·exact HSN.out.1.trans' hp fun k hk he => by have he : k = d := he; omega
theorem kv_all (h : KvAt w F X t m n own M c) (hpl : pre.length ≤ 1000) (hlen : (under pre M).length ≤ 1000000) :
  Calls Tryz.prog 95 #[.pointer (some ⟨t, 0, none⟩), .string ⟨pre.toArray⟩, .int .i64 most] w (fun e w' => ∃ F', AllAns w.heap.size F' most (under pre M) e w' ∧ KvAt w' F' X t m n own M c ∧ Only F w w' ∧ Grows F F' w) := by
 obtain ⟨D, ht, hb, rfl, rfl, rfl, hkl⟩ := h
 refine (all_ok ht hb hkl hpl hlen).mono ?_
 rintro e w1 ⟨F', h0, h1, h6, h7⟩
 exact ⟨F', h0, ⟨D, h1, hb, rfl, rfl, rfl, hkl⟩, h6, h7⟩
end
end Go.Proofs.YtpjfheadolphgaaGreat
namespace Go.Proofs.YtpjfheadolphgaaGreat
section
variable {M : List KV} {p k v d : Str} {c i j : Nat}
theorem lts_pre : ∀ (p : Str) {a b : Str}, lts a b → lts (p ++ a) (p ++ b)
 | [], _, _, h => h
 | x :: p, _, _, h => lts_cons.2 (.inr ⟨rfl, lts_pre p h⟩)
theorem under_ins : ∀ {M : List KV}, Srt M → hasP p k = true → (∀ x ∈ under p M, lts x.1 k) → under p (ins k v M) = under p M ++ [(k, v)] ∧ rid p (ins k v M) = rid p M
 | [], _, hk, _ => by simp [ins, under, rid, hk]
 | x :: M, hs, hk, hl => by
  have hs' := List.pairwise_cons.1 hs
  rw [ins]
  split
  ·rename_i hlt
   have hnone : under p (x :: M) = [] := by
    apply List.filter_eq_nil_iff.2
    intro y hy hyp
    have h1 := hl y (List.mem_filter.2 ⟨hy, hyp⟩)
    rcases List.mem_cons.1 hy with rfl | hy
    ·exact lts_asymm hlt h1
    ·exact lts_asymm (lts_trans hlt (hs'.1 y hy)) h1
   rw [hnone]
   unfold under at hnone ⊢
   unfold rid
   rw [List.filter_cons_of_pos (by simpa using hk), hnone, List.filter_cons_of_neg (by simp [hk])]
   exact ⟨rfl, rfl⟩
  ·rename_i hlt
   split
   ·rename_i he
    have h1 := hl x (List.mem_filter.2 ⟨by simp, by rw [he]; exact hk⟩)
    rw [he] at h1
    exact (lts_irrefl _ h1).elim
   ·obtain ⟨h1, h2⟩ := under_ins (M := M) hs'.2 hk fun y hy => hl y (by unfold under at hy ⊢; exact List.mem_filter.2 ⟨List.mem_cons_of_mem _ (List.mem_filter.1 hy).1, (List.mem_filter.1 hy).2⟩)
    unfold under at h1 ⊢
    unfold rid at h2 ⊢
    by_cases hx : hasP p x.1 = true
    ·refine ⟨?_, ?_⟩
     ·rw [List.filter_cons_of_pos (by simpa using hx), List.filter_cons_of_pos (by simpa using hx), h1]; rfl
     ·rw [List.filter_cons_of_neg (by simp [hx]), List.filter_cons_of_neg (by simp [hx]), h2]
    ·refine ⟨?_, ?_⟩
     ·rw [List.filter_cons_of_neg (by simpa using hx), List.filter_cons_of_neg (by simpa using hx), h1]
     ·rw [List.filter_cons_of_pos (by simpa using hx), List.filter_cons_of_pos (by simpa using hx), h2]
end
end Go.Proofs.YtpjfheadolphgaaGreat
namespace Go.Proofs.YtpjfheadolphgaaGreat
open Go.RowKit Go.Proofs Go.Shelf
set_option maxRecDepth 20000
attribute [local go_sem] Oper.semAt_some
section
variable {w w' : World} {F G : Nat → Prop} {X : XC} {t m np own c n : Nat} {M : List KV} {d : Str}
theorem bytesWorld_only (w : World) (e : TypeId) (s : ByteArray) : Only NoB w (Lib.bytesWorld w e s) :=
 ⟨rfl, rfl, rfl, by rw [Lib.bytesWorld_size]; omega, fun k hk _ => Lib.bytesWorld_at_old w e s k hk⟩
theorem le_grownCap (w : World) (n old : Nat) (e : TypeId) : n ≤ grownCap w n old e := by
 unfold grownCap
 simp [Question.cut]
end
end Go.Proofs.YtpjfheadolphgaaGreat
namespace Go.Proofs.YtpjfheadolphgaaGreat
open Go.RowKit Go.Proofs
set_option maxRecDepth 20000
section
variable {w : World}
theorem ext_ib (s : ByteArray) (c : Int) (w : World) : (callFunc 308 #[.string s, .int .u8 c]).run Tryz.prog w = .ok (.value (.int .i64 (firstIdx s c.toNat.toUInt8))) w := by
 rw [run_callFunc_extern Tryz.func308 (by kernel_rfl) (by kernel_rfl) (by kernel_rfl) (e := Extern.BytealgIndexByte.indexByte) (by kernel_rfl) #[.string s, .int .u8 c] w, run_indexByte_string]
 rfl
theorem sib_ok (s : ByteArray) (c : Int) (w : World) : Calls Tryz.prog 267 #[.string s, .int .u8 c] w fun e w' => e = .returned (.int .i64 (firstIdx s c.toNat.toUInt8)) ∧ w = w' := by
 have he := ext_ib s c w
 go_enter Tryz.func267, Tryz.ntmps267
 go_wp2_with fail
 go_ret
 exact ⟨rfl, rfl⟩
theorem ib_ok (s : ByteArray) (c : Int) (w : World) : Calls Tryz.prog 190 #[.string s, .int .u8 c] w fun e w' => e = .returned (.int .i64 (firstIdx s c.toNat.toUInt8)) ∧ w = w' := by
 have HS := Lib.hid (sib_ok s c w)
 go_enter Tryz.func190, Tryz.ntmps190
 go_wp2_with fail
 refine HS.out.mono ?_
 rintro e w1 ⟨rfl, rfl⟩
 go_wp2_with fail
 go_ret
 exact ⟨rfl, rfl⟩
def zs : ByteArray := ⟨#[0, 47]⟩
def zsAt (r : Nat) : Int := if r = 0 then 0 else if r = 47 then 1 else -1
theorem zs_first (c : UInt8) : firstIdx zs c = zsAt c.toNat := by
 have h0 : (zs[0]! : UInt8) = 0 := rfl
 have h1 : (zs[1]! : UInt8) = 47 := rfl
 have hs : zs.size = 2 := rfl
 unfold firstIdx zsAt
 rw [hs, show List.range 2 = [0, 1] from rfl]
 by_cases c0 : c = 0
 ·subst c0; rfl
 ·by_cases c1 : c = 47
  ·subst c1; rfl
  ·have e0 : ¬ c.toNat = 0 := fun h => c0 (UInt8.toNat_inj.1 h)
   have e1 : ¬ c.toNat = 47 := fun h => c1 (UInt8.toNat_inj.1 h)
   have q0 : ((0 : UInt8) == c) = false := by simpa using fun h : 0 = c => c0 h.symm
   have q1 : ((47 : UInt8) == c) = false := by simpa using fun h : 47 = c => c1 h.symm
   simp only [List.find?_cons, List.find?_nil, h0, h1, q0, q1, if_neg e0, if_neg e1]
def VrOut (w : World) (e : Ending) (w' : World) : Prop := ∃ b : Bool, e = .returned (.bool b) ∧ w = w'
theorem validRune_any (r : Int) (w : World) : Calls Tryz.prog 356 #[.int .i32 r] w (VrOut w) := by
 go_enter Tryz.func356, Tryz.ntmps356
 go_wp2_with fail
 all_goals go_ret
 all_goals exact ⟨_, rfl, rfl⟩
theorem encode_high (r : Int) (h : 128 ≤ r) : (∃ a b, Utf8.encode r = ⟨#[a, b]⟩ ∧ b ≠ 47) ∨ (∃ a b c, Utf8.encode r = ⟨#[a, b, c]⟩) ∨ ∃ a b c d, Utf8.encode r = ⟨#[a, b, c, d]⟩ := by
 unfold Utf8.encode
 obtain ⟨c, hc⟩ : ∃ c, c = (if Utf8.valid r then r.toNat else Utf8.runeError) := ⟨_, rfl⟩
 have h1 : 128 ≤ c := by rw [hc]; split; (· omega); (· decide)
 simp only [← hc]
 rw [if_neg (by omega)]
 split
 ·refine .inl ⟨_, _, rfl, fun h => ?_⟩
  have := congrArg UInt8.toNat h
  rw [UInt8.toNat_ofNat'] at this
  have h2 : (47 : UInt8).toNat = 47 := rfl
  rw [h2] at this
  omega
 ·split
  ·exact .inr (.inl ⟨_, _, _, rfl⟩)
  ·exact .inr (.inr ⟨_, _, _, _, rfl⟩)
theorem conv_rune (r : Int) (w : World) : (convert 21 9 (.int .i32 r)).run Tryz.prog w = .ok (.string (Utf8.encode r)) w := by
 have h1 : Tryz.prog.underlying 21 = some (.int .i32) := by kernel_rfl
 have h2 : Tryz.prog.underlying 9 = some .string := by kernel_rfl
 simp [convert, run_underlying h1, run_underlying h2, Conv.intToString]
theorem run_two (i : Nat) (b : UInt8) (h : i < zs.size) (hb : zs[i]'h = b) (h8 : b.toNat < 128) (w : World) (ty : TypeId) :
  (Instr.next (.pointer (some ⟨w.heap.size, 0, none⟩)) true ty).run Tryz.prog (w.iter zs i) = .ok (.tuple #[.bool true, .int .i64 i, .int .i32 b.toNat]) (w.iter zs (i + 1)) := by
 have := run_next_ascii (P := Tryz.prog) w zs i ty h (by rw [hb]; exact h8)
 rwa [hb] at this
set_option maxHeartbeats 2000000 in
theorem indexRune_ascii (r : Nat) (h : r < 128) (w : World) : Calls Tryz.prog 333 #[.string zs, .int .i32 r] w fun e w' => e = .returned (.int .i64 (zsAt r)) ∧ Only NoB w w' := by
 have HI := Lib.hid (ib_ok zs r w)
 rw [zs_first] at HI
 have hb : ((r : Int).toNat.toUInt8).toNat = r := by simp; omega
 rw [hb] at HI
 have h2 : (r : Int) < 128 := by omega
 have h3 : (0 : Int) ≤ r := by omega
 clear hb
 unfold zs at HI ⊢
 go_enter Tryz.func333, Tryz.ntmps333
 go_wp2_with fail
 refine HI.out.mono ?_
 rintro e w1 ⟨rfl, rfl⟩
 go_wp2_with fail
 go_ret
 exact ⟨rfl, Only.refl _ _⟩
theorem firstIdx_none {s : ByteArray} (h : s.size = 0) (c : UInt8) : firstIdx s c = -1 := by unfold firstIdx; rw [h]; rfl
set_option maxHeartbeats 4000000 in
theorem indexRune_err (w : World) : Calls Tryz.prog 333 #[.string zs, .int .i32 65533] w fun e w' => e = .returned (.int .i64 (-1)) ∧ Only NoB w w' := by
 unfold zs
 go_enter Tryz.func333, Tryz.ntmps333
 go_wp2_with fail
 go_loopg [5, 6] 2 (fun g _ _ wx => ∃ i : Nat, i + g = 2 ∧ wx = w.iter ⟨#[0, 47]⟩ i)
 case atStart => exact ⟨0, by omega, rfl⟩
 case round =>
  obtain ⟨i, hig, rfl⟩ := hrel
  rcases i with _ | _ | _ | i
  ·have hnx := fun ty => run_two 0 0 (by decide) rfl (by decide) w ty
   unfold zs at hnx
   obtain ⟨g', rfl⟩ : ∃ g', gk = g' + 1 := ⟨gk - 1, by omega⟩
   go_wp2_with fail
   go_roundg g'
   case measure => omega
   case rel => exact ⟨1, by omega, rfl⟩
  ·have hnx := fun ty => run_two 1 47 (by decide) rfl (by decide) w ty
   unfold zs at hnx
   obtain ⟨g', rfl⟩ : ∃ g', gk = g' + 1 := ⟨gk - 1, by omega⟩
   go_wp2_with fail
   go_roundg g'
   case measure => omega
   case rel => exact ⟨2, by omega, rfl⟩
  ·have hnx := fun ty => run_next_end (P := Tryz.prog) w ⟨#[0, 47]⟩ 2 ty (by decide)
   go_wp2_with fail
   go_ret
   exact ⟨rfl, (Only.refl NoB w).alloc _⟩
  ·omega
set_option maxHeartbeats 4000000 in
theorem indexRune_high (r : Int) (h : 128 ≤ r) (w : World) : Calls Tryz.prog 333 #[.string zs, .int .i32 r] w fun e w' => e = .returned (.int .i64 (-1)) ∧ Only NoB w w' := by
 by_cases he : r = 65533
 ·subst he; exact indexRune_err w
 ·have hbe : (r == 65533) = false := by simpa using he
  have h128 : ¬ r < 128 := by omega
  have HV := Lib.hid (validRune_any r w)
  have hcv := fun w => conv_rune r w
  have HI := Lib.hid fun s c w => ib_ok s c w
  rcases encode_high r h with ⟨a, b, hen, hb⟩ | ⟨a, b, c, hen⟩ | ⟨a, b, c, d, hen⟩
  ·rw [hen] at hcv
   clear hen he
   unfold zs
   go_enter Tryz.func333, Tryz.ntmps333
   go_wp2_with fail
   refine HV.out.mono ?_
   rintro e w1 ⟨bb, rfl, rfl⟩
   cases bb
   ·go_wp2_with fail
    go_ret
    exact ⟨rfl, Only.refl _ _⟩
   ·go_wp2_with fail
    go_step3
    go_wp2_with fail
    go_loopw [9] (fun i wr => i = .int .i64 1 ∧ Only NoB w wr) (fun _ _ => 0)
    case atStart => exact ⟨rfl, Only.refl _ _⟩
    case round =>
     obtain ⟨rfl, ho⟩ := hrel
     have HO := Lib.hid ho
     clear ho
     have hbne : ((47 : UInt8) != b) = true := by simpa using fun h : 47 = b => hb h.symm
     have hx1 : ∀ h, ((⟨#[0, 47]⟩ : ByteArray)[1]'h).toNat = 47 := fun _ => rfl
     have hx2 : ∀ h, ((⟨#[a, b]⟩ : ByteArray)[1]'h).toNat = b.toNat := fun _ => rfl
     have hw2 : IntKind.i64.wrap 2 = 2 := by decide
     have hbn : ¬ (47 : Int) = (b.toNat : Int) := fun h => hb (UInt8.toNat_inj.1 (by show b.toNat = 47; omega))
     have hbq : ((47 : Int) != (b.toNat : Int)) = true := by rw [bne_iff_ne]; exact hbn
     go_wp2_with fail
     go_step3
     go_wp2_with fail
     go_region
     all_goals go_wp2_with fail
     all_goals (
      refine hB _ 9 (fun w' => Only NoB w w') (HO.out.drew.drew) (fun hHeld => ?_)
      refine hT 0 34 ?_
      refine hT 1 35 ?_
      refine hT 2 36 ?_
      refine hT 3 37 ?_
      refine hT 4 38 ?_
      refine hT 5 39 ?_
      refine hT 6 40 ?_
      refine hE 7 (fun o ho K hK => ?_)
      cases ho
      go_simp
      refine ((HI.out _ (b.toNat : Int) _ : Calls _ _ _ _ _)).mono ?_
      rintro e z2 ⟨rfl, rfl⟩
      rw [firstIdx_none (by first | rfl | decide | simp)]
      refine hK.out _ _ (by assumption) (fun hHeld => ?_)
      clear hK K
      try simp only [Act.put, List.setIfInBounds_toArray, List.set_cons_zero, List.set_cons_succ]
      refine hT 8 11 ?_
      refine wpAnyH_done (by kernel_rfl) ?_ _
      refine NoPanic.normal ?_
      go_wp2_with fail
      rw [Exit.noGoto_ret]
      go_wp2_with fail
      rw [Exit.noGoto_ret]
      go_wp2_with fail
      go_ret
      exact ⟨rfl, by assumption⟩)
  ·rw [hen] at hcv
   clear hen he
   unfold zs
   go_enter Tryz.func333, Tryz.ntmps333
   go_wp2_with fail
   refine HV.out.mono ?_
   rintro e w1 ⟨bb, rfl, rfl⟩
   cases bb
   ·go_wp2_with fail
    go_ret
    exact ⟨rfl, Only.refl _ _⟩
   ·go_wp2_with fail
    go_step3
    go_wp2_with fail
    go_loopw [9] (fun i wr => i = .int .i64 2 ∧ Only NoB w wr) (fun _ _ => 0)
    case atStart => exact ⟨rfl, Only.refl _ _⟩
    case round =>
     obtain ⟨rfl, ho⟩ := hrel
     have HO := Lib.hid ho
     clear ho
     go_wp2_with fail
     (try rw [Exit.noGoto_ret])
     go_ret
     exact ⟨rfl, HO.out⟩
  ·rw [hen] at hcv
   clear hen he
   unfold zs
   go_enter Tryz.func333, Tryz.ntmps333
   go_wp2_with fail
   refine HV.out.mono ?_
   rintro e w1 ⟨bb, rfl, rfl⟩
   cases bb
   ·go_wp2_with fail
    go_ret
    exact ⟨rfl, Only.refl _ _⟩
   ·go_wp2_with fail
    go_step3
    go_wp2_with fail
    go_loopw [9] (fun i wr => i = .int .i64 3 ∧ Only NoB w wr) (fun _ _ => 0)
    case atStart => exact ⟨rfl, Only.refl _ _⟩
    case round =>
     obtain ⟨rfl, ho⟩ := hrel
     have HO := Lib.hid ho
     clear ho
     go_wp2_with fail
     (try rw [Exit.noGoto_ret])
     go_ret
     exact ⟨rfl, HO.out⟩
end
end Go.Proofs.YtpjfheadolphgaaGreat
namespace Go.Proofs.YtpjfheadolphgaaGreat
open Go.RowKit Go.Proofs
set_option maxRecDepth 20000
section
variable {w : World} {s : Str}
def hasZS (s : Str) : Bool := s.any fun b => b == 0 || b == 47
theorem hasZS_take {i : Nat} {b : UInt8} (h : s[i]? = some b) : hasZS (s.take (i + 1)) = (hasZS (s.take i) || (b == 0 || b == 47)) := by
 rw [List.take_add_one, h]
 simp [hasZS]
theorem zsAt_neg {b : UInt8} (h : (b == 0 || b == 47) = false) : zsAt b.toNat = -1 := by
 simp only [Bool.or_eq_false_iff, beq_eq_false_iff_ne] at h
 unfold zsAt
 rw [if_neg fun e : b.toNat = 0 => h.1 (UInt8.toNat_inj.1 e), if_neg fun e : b.toNat = 47 => h.2 (UInt8.toNat_inj.1 e)]
theorem zsAt_pos {b : UInt8} (h : (b == 0 || b == 47) = true) : 0 ≤ zsAt b.toNat := by
 unfold zsAt
 split
 ·omega
 ·split
  ·omega
  ·rename_i h1 h2
   simp only [Bool.or_eq_true, beq_iff_eq] at h
   rcases h with rfl | rfl
   ·exact (h1 rfl).elim
   ·exact (h2 rfl).elim
theorem zs_contains (b : UInt8) : [(0 : UInt8), 47].contains b = (b == 0 || b == 47) := by
 simp [List.contains, List.elem]
 cases (b == 0) <;> cases (b == 47) <;> rfl
theorem wp_val {P : Program} {o : Oper} {a : Act} {w : World} {K : Act → World → Prop} {Q : Exit → Act → World → Prop} (v : Value) (h : (execOp a.eval o).run P w = .ok (.value v) w) (hk : K (a.put o.dst v) w) : Oper.wp P o a w K Q := by
 unfold Oper.wp; rw [h]; exact hk
theorem set_zero (w : World) : (zeroValue 365).run Tryz.prog w = .ok (.agg (Array.replicate 256 (.bool false))) w := by kernel_rfl
theorem set_size : (Tryz.prog.info? 365).map (·.size) = some 256 := by kernel_rfl
set_option maxHeartbeats 4000000 in
set_option maxRecDepth 20000 in
theorem mkset_ok (w : World) : Calls Tryz.prog 335 #[.string zs] w fun e w' => e = .returned (.tuple #[.agg (Lib.setCells [0, 47]), .bool true]) ∧ w' = w.alloc (.cells (Lib.setCells [0, 47]) 365) := by
 have hz := set_zero
 unfold zs
 go_enter Tryz.func335, Tryz.ntmps335
 go_wp2
 rw [← Lib.setCells_nil]
 go_loopg [4] 2 (fun g s4 wx => ∃ (i : Nat) (l : Str), i + g = 2 ∧ s4 = .int .i64 i ∧ l = ([0, 47] : Str).take i ∧ wx = w.alloc (.cells (Lib.setCells l) 365))
 case atStart => exact ⟨0, [], by omega, rfl, rfl, rfl⟩
 case round =>
  obtain ⟨i, l, hig, rfl, hl, rfl⟩ := hrel
  rcases i with _ | _ | _ | i
  ·obtain ⟨g', rfl⟩ : ∃ g', gk = g' + 1 := ⟨gk - 1, by omega⟩
   have hx1 : ∀ h, ((⟨#[0, 47]⟩ : ByteArray)[0]'h).toNat = 0 := fun _ => rfl
   have hcell : (Lib.setCells l)[0]? = some (.bool false) := by rw [hl]; exact Lib.setCells_at _ 0
   have hsn : (Lib.setCells l).setIfInBounds 0 (.bool true) = Lib.setCells [0] := by rw [hl]; exact (Lib.setCells_snoc [] 0).symm
   have HSN := Lib.hid hsn
   clear hl hsn
   go_wp2
   go_roundg g'
   case measure => omega
   case rel => exact ⟨1, [0], by omega, rfl, rfl, by rw [← HSN.out]⟩
  ·obtain ⟨g', rfl⟩ : ∃ g', gk = g' + 1 := ⟨gk - 1, by omega⟩
   have hx1 : ∀ h, ((⟨#[0, 47]⟩ : ByteArray)[1]'h).toNat = 47 := fun _ => rfl
   have hcell : (Lib.setCells l)[47]? = some (.bool false) := by rw [hl]; exact Lib.setCells_at _ 47
   have hsn : (Lib.setCells l).setIfInBounds 47 (.bool true) = Lib.setCells [0, 47] := by rw [hl]; exact (Lib.setCells_snoc [0] 47).symm
   have HSN := Lib.hid hsn
   clear hl hsn
   go_wp2
   go_roundg g'
   case measure => omega
   case rel => exact ⟨2, [0, 47], by omega, rfl, rfl, by rw [← HSN.out]⟩
  ·obtain rfl : l = [0, 47] := hl
   have hld := run_loadVar_new (P := Tryz.prog) w 365 (Lib.setCells [0, 47]) 256 4 (by kernel_rfl) (by rw [Lib.setCells_size]; exact set_size)
   have hsz := Lib.setCells_size [0, 47]
   have hlc := run_loadCellsFrom_new (P := Tryz.prog) w 365 (Lib.setCells [0, 47]) 256 hsz
   have hsc := run_storeCells_new (P := Tryz.prog) w 365 (Lib.setCells [0, 47]) (Lib.setCells [0, 47]) (by rw [hsz]; exact set_size) rfl (Lib.setCells_one _)
   have ha : ∀ w, (isAgg 365).run Tryz.prog w = .ok true w := fun w => by kernel_rfl
   have hz2 : ∀ w, (sizeOf 365).run Tryz.prog w = .ok 256 w := fun w => by kernel_rfl
   have HA := Lib.hid ha
   have HZ := Lib.hid hz2
   have t230 : Tryz.prog.underlying 365 = some (.array 256 4) := by kernel_rfl
   have hl2 : (Instr.loadAt 365 (.pointer (some ⟨w.heap.size, 0, none⟩))).run Tryz.prog (w.alloc (.cells (Lib.setCells [0, 47]) 365)) = .ok (.agg (Lib.setCells [0, 47])) (w.alloc (.cells (Lib.setCells [0, 47]) 365)) := by
    simp [Instr.loadAt, Instr.sureAddr, hld]
   have HL2 := Lib.hid hl2
   have HSC := Lib.hid hsc
   have HLD := Lib.hid hld
   clear ha hz2 hl2 hld hlc hsc hsz hz
   go_wp2
   refine wp_val (.agg (Lib.setCells [0, 47])) ?_ ?_
   ·simp [execOp, Act.eval, HL2.out, Result.andThen]
   go_wp2
   rw [HSC.out]
   simp only [Result.andThen]
   rw [Oper.upon_skip]
   go_wp2
   (try simp only [Exit.inBlock, Exit.then])
   have hld := HLD.out
   refine bodyPost_ret (v := .tuple #[.agg (Lib.setCells [0, 47]), .bool true]) ?_ rfl ⟨rfl, rfl⟩
   rw [results_cell_tmp rfl]
   simp [asAddr, Result.andThen, hld]
  ·omega
end
end Go.Proofs.YtpjfheadolphgaaGreat
namespace Go.Proofs.YtpjfheadolphgaaGreat
open Go.RowKit Go.Proofs
set_option maxRecDepth 20000
section
variable {w : World} {s : Str}
theorem set_has (b : Nat) (x : UInt8) (v : Bool) (w : World) (hc : w.cell? ⟨b, x.toNat, none⟩ = some (.bool v)) :
  Calls Tryz.prog 336 #[.pointer (some ⟨b, 0, none⟩), .int .u8 x.toNat] w fun e w' => e = .returned (.bool v) ∧ w = w' := by
 have hx256 : (x.toNat : Int) < 256 := by have := UInt8.toNat_lt x; omega
 go_enter Tryz.func336, Tryz.ntmps336
 go_wp2
 go_ret
 exact ⟨rfl, rfl⟩
theorem use_set (n : Int) (w : World) : Calls Tryz.prog 334 #[.int .i64 n] w fun e w' => e = .returned (.bool (decide (8 < n))) ∧ w = w' := by
 go_enter Tryz.func334, Tryz.ntmps334
 go_wp2
 go_ret
 exact ⟨rfl, rfl⟩
def AnyOut (w : World) (s : Str) (e : Ending) (w' : World) : Prop := ∃ v : Int, e = .returned (.int .i64 v) ∧ (0 ≤ v ↔ hasZS s = true) ∧ Only NoB w w'
theorem anyOut_hit {w w' : World} {i : Nat} {b : UInt8} (hb : s[i]? = some b) (h : (b == 0 || b == 47) = true) (ho : Only NoB w w') : AnyOut w s (.returned (.int .i64 (i : Int))) w' :=
 ⟨i, rfl, ⟨fun _ => by unfold hasZS; rw [List.any_eq_true]; exact ⟨b, List.mem_of_getElem? hb, h⟩, fun _ => by omega⟩, ho⟩
theorem anyOut_none {w w' : World} (h : hasZS s = false) (ho : Only NoB w w') : AnyOut w s (.returned (.int .i64 (-1))) w' := ⟨-1, rfl, ⟨fun h => by omega, fun h2 => by rw [h] at h2; cases h2⟩, ho⟩
theorem byte_at {i : Nat} {b : UInt8} (hb : s[i]? = some b) : ∀ h, ((⟨s.toArray⟩ : ByteArray)[i]'h) = b := fun h => by
 obtain ⟨h1, rfl⟩ := List.getElem?_eq_some_iff.1 hb
 simp [ByteArray.getElem_eq_getElem_data]
set_option maxHeartbeats 4000000 in
set_option maxRecDepth 20000 in
theorem any_long (h8 : 8 < s.length) (w : World) (hl : s.length ≤ 1000000000) : Calls Tryz.prog 307 #[.string ⟨s.toArray⟩, .string zs] w (AnyOut w s) := by
 have HM := Lib.hid (mkset_ok w)
 have HU := Lib.hid fun n => use_set n w
 obtain ⟨W2, hW2⟩ : ∃ W2, W2 = (w.alloc (.cells (Lib.setCells [0, 47]) 365)).alloc (.cells (Lib.setCells [0, 47]) 365) := ⟨_, rfl⟩
 have hsc : (storeCells ⟨w.heap.size + 1, 0, none⟩ (Lib.setCells [0, 47]).toList 0).run Tryz.prog ((w.alloc (.cells (Lib.setCells [0, 47]) 365)).alloc (.cells (Array.replicate 256 (.bool false)) 365)) = .ok () W2 := by
  have := run_storeCells_new (P := Tryz.prog) (w.alloc (.cells (Lib.setCells [0, 47]) 365)) 365 (Array.replicate 256 (.bool false)) (Lib.setCells [0, 47]) (by rw [Lib.setCells_size]; exact set_size) (by rw [Lib.setCells_size, Array.size_replicate]) (Lib.setCells_one _)
  rw [hW2]
  simpa using this
 have hsz := Lib.setCells_size [0, 47]
 have hcellAt : ∀ x : UInt8, W2.cell? ⟨w.heap.size + 1, x.toNat, none⟩ = some (.bool (x == 0 || x == 47)) := fun x => by
  rw [hW2, World.cell?_alloc_at _ _ _ _ (by simp), Lib.setCells_at, zs_contains]
 have HC := Lib.hid hcellAt
 have HSC := Lib.hid hsc
 have HO2 : Hid (Only NoB w W2) := Lib.hid (by rw [hW2]; exact ((Only.refl NoB w).alloc _).alloc _)
 have hz := set_zero
 have t230 : Tryz.prog.underlying 365 = some (.array 256 4) := by kernel_rfl
 obtain ⟨ls, hls⟩ : ∃ ls, ls = s.length := ⟨_, rfl⟩
 have hls' : s.length = ls := hls.symm
 have h8d : decide ((8 : Int) < (ls : Int)) = true := decide_eq_true (by omega)
 rw [hls'] at h8 hl
 clear hsc hcellAt hW2 hls
 unfold zs at HM ⊢
 go_enter Tryz.func307, Tryz.ntmps307
 go_wp2_with fail
 refine (HU.out _).mono ?_
 rintro e w1 ⟨rfl, rfl⟩
 rw [h8d]
 go_wp2_with fail
 refine HM.out.mono ?_
 rintro e w1 ⟨rfl, rfl⟩
 go_wp2_with fail
 rw [HSC.out]
 simp only [Result.andThen]
 rw [Oper.upon_skip]
 clear hsz hz t230
 go_wp2_with fail
 go_loop [8] (fun i => ∃ k : Nat, k ≤ ls ∧ i = .int .i64 k ∧ hasZS (s.take k) = false) (fun i => ls - (intOf i).toNat)
 case atStart => exact ⟨0, Nat.zero_le _, rfl, rfl⟩
 case round =>
  obtain ⟨k, hk, rfl, hno⟩ := hrel
  have HN := Lib.hid hno
  clear hno
  by_cases hlt : k < ls
  ·have hks : k < s.length := by omega
   obtain ⟨b, hse⟩ : ∃ b, s[k]? = some b := ⟨_, List.getElem?_eq_getElem hks⟩
   have hb := byte_at hse
   have HSE := Lib.hid hse
   have HS := Lib.hid (set_has (w.heap.size + 1) b _ W2 (HC.out b))
   cases hin : (b == 0 || b == 47) with
   | false =>
    rw [hin] at HS
    have HT := Lib.hid (hasZS_take HSE.out)
    rw [hin] at HT
    clear hse hks hin
    go_wp2_with fail
    refine HS.out.mono ?_
    rintro e w1 ⟨rfl, rfl⟩
    go_wp2_with fail
    exact ⟨⟨k + 1, by omega, by go_num, by rw [HT.out, HN.out]; rfl⟩, by simp [intOf]; omega⟩
   | true =>
    rw [hin] at HS
    have HE := Lib.hid (anyOut_hit HSE.out hin HO2.out)
    clear hse hks hin
    go_wp2_with fail
    refine HS.out.mono ?_
    rintro e w1 ⟨rfl, rfl⟩
    go_wp2_with fail
    go_ret
    exact HE.out
  ·obtain rfl : k = ls := by omega
   have hno := HN.out
   rw [← hls', List.take_length] at hno
   have HE := Lib.hid (anyOut_none hno HO2.out)
   clear hno
   go_wp2_with fail
   go_ret
   exact HE.out
def IterAt (w : World) (r : Nat) (s : Str) (pos : Nat) : Prop := w.heap[r]? = some (.stringIter ⟨s.toArray⟩ pos)
theorem next_any {r pos : Nat} (h : IterAt w r s pos) (hp : pos < s.length) :
  ∃ w', (∀ ty, (Instr.next (.pointer (some ⟨r, 0, none⟩)) true ty).run Tryz.prog w = .ok (.tuple #[.bool true, .int .i64 pos, .int .i32 (Utf8.decode ⟨s.toArray⟩ pos).1]) w') ∧ IterAt w' r s (pos + (Utf8.decode ⟨s.toArray⟩ pos).2) ∧ Only (fun k => k = r) w w' := by
 have hlt : r < w.heap.size := (Array.getElem?_eq_some_iff.1 h).1
 refine ⟨{ w with heap := w.heap.setIfInBounds r (.stringIter ⟨s.toArray⟩ (pos + (Utf8.decode ⟨s.toArray⟩ pos).2)) }, ?_, ?_, ⟨rfl, rfl, rfl, by simp, fun k _ hk => by simp [Ne.symm hk]⟩⟩
 ·intro ty
  have hps : pos < (ByteArray.mk s.toArray).size := hp
  unfold IterAt at h
  simp only [Instr.next, getObj, setObj, Sem.run_bind, Sem.run, h, Result.andThen, hps, if_true]
  simp [goInt]
 ·unfold IterAt
  simp [hlt]
theorem next_end {r pos : Nat} (ty : TypeId) (h : IterAt w r s pos) (hp : ¬ pos < s.length) : (Instr.next (.pointer (some ⟨r, 0, none⟩)) true ty).run Tryz.prog w = .ok (.tuple #[.bool false]) w := by
 have hps : ¬ pos < (ByteArray.mk s.toArray).size := hp
 unfold IterAt at h
 simp [Instr.next, getObj, Sem.run, h, hps]
theorem decodeN_wide (n b0 b1 b2 b3 : Nat) (hn : 1 ≤ n) : 1 ≤ (Lib.decodeN n b0 b1 b2 b3).2 ∧ (Lib.decodeN n b0 b1 b2 b3).2 ≤ n ∧ (Lib.decodeN n b0 b1 b2 b3).2 ≤ 4 ∧ (b0 < 128 → Lib.decodeN n b0 b1 b2 b3 = (b0, 1)) ∧ (128 ≤ b0 → 128 ≤ (Lib.decodeN n b0 b1 b2 b3).1) ∧
  (2 ≤ (Lib.decodeN n b0 b1 b2 b3).2 → b1 / 64 = 2) ∧ (3 ≤ (Lib.decodeN n b0 b1 b2 b3).2 → b2 / 64 = 2) ∧ (4 ≤ (Lib.decodeN n b0 b1 b2 b3).2 → b3 / 64 = 2) := by
 unfold Lib.decodeN
 repeat' split
 all_goals (dsimp only; first | omega | (simp only [Prod.mk.injEq]; omega) | (simp; omega))
theorem rune_at {pos : Nat} (hp : pos < s.length) : 1 ≤ (Utf8.decode ⟨s.toArray⟩ pos).2 ∧ pos + (Utf8.decode ⟨s.toArray⟩ pos).2 ≤ s.length ∧
  (s[pos].toNat < 128 → Utf8.decode ⟨s.toArray⟩ pos = (s[pos].toNat, 1)) ∧ (128 ≤ s[pos].toNat → 128 ≤ (Utf8.decode ⟨s.toArray⟩ pos).1 ∧ ∀ j (h : j < s.length), pos ≤ j → j < pos + (Utf8.decode ⟨s.toArray⟩ pos).2 → 128 ≤ s[j].toNat) := by
 have hd := Lib.decode_N ⟨s.toArray⟩ pos
 simp only at hd
 have hg : ∀ k (h : k < s.length), s.getD k 0 = s[k] := fun k h => by rw [List.getD_eq_getElem?_getD, List.getElem?_eq_getElem h]; rfl
 rw [hd, hg pos hp]
 obtain ⟨h1, h2, h3, h4, h5, h6, h7, h8⟩ := decodeN_wide (s.length - pos) s[pos].toNat (s.getD (pos + 1) 0).toNat (s.getD (pos + 2) 0).toNat (s.getD (pos + 3) 0).toNat (by omega)
 refine ⟨h1, by omega, h4, fun hh => ⟨h5 hh, fun j hj hj1 hj2 => ?_⟩⟩
 obtain ⟨k, rfl⟩ : ∃ k, j = pos + k := ⟨j - pos, by omega⟩
 rcases k with _ | _ | _ | _ | k
 ·exact hh
 ·have := h6 (by omega); rw [hg _ hj] at this; omega
 ·have := h7 (by omega); rw [hg _ hj] at this; omega
 ·have := h8 (by omega); rw [hg _ hj] at this; omega
 ·omega
theorem hasZS_high {i j : Nat} (hij : i ≤ j) (hj : j ≤ s.length) (h : ∀ k (hk : k < s.length), i ≤ k → k < j → 128 ≤ s[k].toNat) : hasZS (s.take j) = hasZS (s.take i) := by
 have : s.take j = s.take i ++ (s.drop i).take (j - i) := by
  rw [← List.take_append_drop i (s.take j), List.take_take, List.drop_take, Nat.min_eq_left hij]
 rw [this]
 unfold hasZS
 rw [List.any_append]
 have h2 : ((s.drop i).take (j - i)).any (fun b => b == 0 || b == 47) = false := by
  rw [List.any_eq_false]
  intro x hx
  obtain ⟨k, hk, rfl⟩ := List.mem_iff_getElem.1 hx
  have hk2 : k < j - i := by simp at hk; omega
  rw [List.getElem_take, List.getElem_drop]
  have := h (i + k) (by omega) (by omega) (by omega)
  simp only [Bool.or_eq_true, beq_iff_eq]
  rintro (e | e) <;> (rw [e] at this; revert this; decide)
 rw [h2, Bool.or_false]
end
end Go.Proofs.YtpjfheadolphgaaGreat
namespace Go.Proofs.YtpjfheadolphgaaGreat
open Go.RowKit Go.Proofs
set_option maxRecDepth 20000
def posOf (w : World) (r : Nat) : Nat := match w.heap[r]? with | some (.stringIter _ p) => p | _ => 0
section
variable {w : World} {s : Str}
theorem posOf_at {r p : Nat} (h : IterAt w r s p) : posOf w r = p := by unfold posOf; unfold IterAt at h; rw [h]
set_option maxHeartbeats 4000000 in
theorem any_short (h8 : s.length ≤ 8) (w : World) : Calls Tryz.prog 307 #[.string ⟨s.toArray⟩, .string zs] w (AnyOut w s) := by
 have HU := Lib.hid fun n => use_set n w
 have HA := Lib.hid indexRune_ascii
 have HH := Lib.hid indexRune_high
 obtain ⟨ls, hls⟩ : ∃ ls, ls = s.length := ⟨_, rfl⟩
 have hls' : s.length = ls := hls.symm
 have h8d : decide ((8 : Int) < (ls : Int)) = false := decide_eq_false (by omega)
 have HL := Lib.hid hls'
 obtain ⟨R, hR⟩ : ∃ R, R = w.heap.size := ⟨_, rfl⟩
 have hi0 : IterAt (w.iter ⟨s.toArray⟩ 0) R s 0 := by rw [hR]; exact World.iter_heap w ⟨s.toArray⟩ 0
 have ho0 : Only NoB w (w.iter ⟨s.toArray⟩ 0) := (Only.refl NoB w).alloc _
 have HI := Lib.hid hi0
 have HO := Lib.hid ho0
 have HRL : Hid (w.heap.size ≤ R) := Lib.hid (by rw [hR]; exact Nat.le_refl _)
 have HRR := Lib.hid hR
 clear hls hi0 ho0 h8
 unfold zs at HA HH ⊢
 go_enter Tryz.func307, Tryz.ntmps307
 go_wp2_with fail
 refine (HU.out _).mono ?_
 rintro e w1 ⟨rfl, rfl⟩
 rw [h8d]
 go_wp2_with fail
 rw [← hR]
 clear hR
 go_loopw [9, 10] (fun _ _ wr => ∃ pos : Nat, Hid (IterAt wr R s pos ∧ pos ≤ ls ∧ Only NoB w wr ∧ hasZS (s.take pos) = false)) (fun _ _ wr => ls - posOf wr R)
 case atStart => exact ⟨0, Lib.hid ⟨HI.out, Nat.zero_le _, HO.out, rfl⟩⟩
 case round =>
  obtain ⟨pos, HJ⟩ := hrel
  have hmr : posOf wr R = pos := posOf_at HJ.out.1
  have HMR := Lib.hid hmr
  clear hmr HI HO
  by_cases hlt : pos < ls
  ·have hlt2 : pos < s.length := by have := HL.out; omega
   obtain ⟨h1, h2, h3, h4⟩ := rune_at hlt2
   obtain ⟨w5, hn5, hi5, ho5⟩ := next_any HJ.out.1 hlt2
   obtain ⟨rn, hrn⟩ : ∃ rn, rn = (Utf8.decode ⟨s.toArray⟩ pos).1 := ⟨_, rfl⟩
   obtain ⟨wd, hwd⟩ : ∃ wd, wd = (Utf8.decode ⟨s.toArray⟩ pos).2 := ⟨_, rfl⟩
   rw [← hwd] at h1 h2 h4 hi5
   rw [← hrn] at h4 hn5
   have ho6 : Only NoB w w5 := HJ.out.2.2.1.trans' ho5 fun k hk hq => by have := HRL.out; omega
   obtain ⟨b, hse⟩ : ∃ b, s[pos]? = some b := ⟨_, List.getElem?_eq_getElem hlt2⟩
   have hbe : s[pos] = b := (List.getElem?_eq_some_iff.1 hse).2
   rw [hbe] at h3 h4
   by_cases hb : b.toNat < 128
   ·have h5 := h3 hb
    rw [h5] at hrn hwd
    obtain rfl : rn = b.toNat := hrn
    obtain rfl : wd = 1 := hwd
    have HX := Lib.hid (HA.out b.toNat hb w5)
    have HT := Lib.hid (hasZS_take hse)
    have HI5 := Lib.hid hi5
    have HO6 := Lib.hid ho6
    have HSE := Lib.hid hse
    cases hin : (b == 0 || b == 47) with
    | false =>
     have hzn := zsAt_neg hin
     rw [hzn] at HX
     rw [hin] at HT
     clear h1 h2 h3 h4 h5 hi5 ho5 ho6 hse hbe hin hzn
     go_wp2_with fail
     refine HX.out.mono ?_
     rintro e w6 ⟨rfl, ho7⟩
     have hi6 : IterAt w6 R s (pos + 1) := (ho7.block R (Array.getElem?_eq_some_iff.1 HI5.out).1 id).trans HI5.out
     have HN : Hid (IterAt w6 R s (pos + 1) ∧ pos + 1 ≤ ls ∧ Only NoB w w6 ∧ hasZS (s.take (pos + 1)) = false) := Lib.hid ⟨hi6, by omega, HO6.out.trans ho7, by rw [HT.out, HJ.out.2.2.2]; rfl⟩
     have hm6 := posOf_at hi6
     have HM6 := Lib.hid hm6
     clear ho7 hi6 hm6
     go_wp2_with fail
     exact ⟨⟨pos + 1, HN⟩, by rw [HM6.out, HMR.out]; omega⟩
    | true =>
     have HP := Lib.hid (zsAt_pos hin)
     obtain ⟨v, hv⟩ : ∃ v, v = zsAt b.toNat := ⟨_, rfl⟩
     rw [← hv] at HX HP
     have hv0 := HP.out
     have HIN := Lib.hid hin
     clear h1 h2 h3 h4 h5 hi5 ho5 ho6 hse hbe hin hv
     go_wp2_with fail
     refine HX.out.mono ?_
     rintro e w6 ⟨rfl, ho7⟩
     have HE := Lib.hid (anyOut_hit HSE.out HIN.out (HO6.out.trans ho7))
     clear ho7
     go_wp2_with fail
     go_ret
     exact HE.out
   ·obtain ⟨h5, h6⟩ := h4 (by omega)
    have HX := Lib.hid (HH.out (rn : Int) (by omega) w5)
    have HT := Lib.hid (hasZS_high (i := pos) (j := pos + wd) (by omega) h2 h6)
    have HI5 := Lib.hid hi5
    have HO6 := Lib.hid ho6
    have hwl : pos + wd ≤ ls := by have := HL.out; omega
    clear h2 h3 h4 h5 h6 hi5 ho5 ho6 hse hbe hrn hwd hb
    go_wp2_with fail
    refine HX.out.mono ?_
    rintro e w6 ⟨rfl, ho7⟩
    have hi6 : IterAt w6 R s (pos + wd) := (ho7.block R (Array.getElem?_eq_some_iff.1 HI5.out).1 id).trans HI5.out
    have HN : Hid (IterAt w6 R s (pos + wd) ∧ pos + wd ≤ ls ∧ Only NoB w w6 ∧ hasZS (s.take (pos + wd)) = false) := Lib.hid ⟨hi6, hwl, HO6.out.trans ho7, by rw [HT.out, HJ.out.2.2.2]⟩
    have hm6 := posOf_at hi6
    have HM6 := Lib.hid hm6
    clear ho7 hi6 hm6
    go_wp2_with fail
    exact ⟨⟨pos + wd, HN⟩, by rw [HM6.out, HMR.out]; omega⟩
  ·obtain rfl : pos = ls := by have := HJ.out.2.1; omega
   have hnx := fun ty => next_end ty HJ.out.1 (by have := HL.out; omega)
   have hno := HJ.out.2.2.2
   rw [← hls', List.take_length] at hno
   have HE := Lib.hid (anyOut_none hno HJ.out.2.2.1)
   clear hno
   go_wp2_with fail
   go_ret
   exact HE.out
theorem any_ok (hl : s.length ≤ 1000000000) (w : World) : Calls Tryz.prog 307 #[.string ⟨s.toArray⟩, .string zs] w (AnyOut w s) := by
 by_cases h8 : s.length ≤ 8
 ·exact any_short h8 w
 ·exact any_long (by omega) w hl
theorem containsAny_ok (hl : s.length ≤ 1000000000) (w : World) : Calls Tryz.prog 265 #[.string ⟨s.toArray⟩, .string zs] w fun e w' => e = .returned (.bool (hasZS s)) ∧ Only NoB w w' := by
 have HX := Lib.hid (any_ok hl w)
 unfold zs at HX ⊢
 go_enter Tryz.func265, Tryz.ntmps265
 go_wp2_with fail
 refine HX.out.mono ?_
 rintro e w1 ⟨v, rfl, hv, ho⟩
 have hd : decide (v ≥ 0) = hasZS s := by
  rw [Bool.eq_iff_iff, decide_eq_true_iff]
  exact hv
 have HO := Lib.hid ho
 have HD := Lib.hid hd
 clear hv ho hd
 go_wp2_with fail
 go_ret
 exact ⟨by rw [← HD.out]; rfl, HO.out⟩
def nameOk (s : Str) : Bool := decide (1 ≤ s.length) && (decide (s.length ≤ 64) && !hasZS s)
theorem name_ok (s : Str) (w : World) : Calls Tryz.prog 187 #[.string ⟨s.toArray⟩] w fun e w' => e = .returned (.bool (nameOk s)) ∧ Only NoB w w' := by
 unfold nameOk
 by_cases h1 : 1 ≤ s.length
 ·rw [decide_eq_true h1]
  have hemp : s.isEmpty = false := by
   cases s with
   | nil => cases h1
   | cons => rfl
  obtain ⟨ls, hls⟩ : ∃ ls, ls = s.length := ⟨_, rfl⟩
  have hls' : s.length = ls := hls.symm
  rw [← hls]
  by_cases h2 : ls ≤ 64
  ·rw [decide_eq_true h2]
   have HX := Lib.hid (containsAny_ok (s := s) (by omega) w)
   have h2i : (ls : Int) ≤ 64 := by omega
   unfold zs at HX
   clear hls h1
   go_enter Tryz.func187, Tryz.ntmps187
   go_wp2_with fail
   refine HX.out.mono ?_
   rintro e w1 ⟨rfl, ho⟩
   have HO := Lib.hid ho
   clear ho
   go_wp2_with fail
   go_ret
   exact ⟨rfl, HO.out⟩
  ·rw [decide_eq_false h2]
   have h2i : ¬ (ls : Int) ≤ 64 := by omega
   clear hls h1
   go_enter Tryz.func187, Tryz.ntmps187
   go_wp2_with fail
   go_ret
   exact ⟨rfl, Only.refl _ _⟩
 ·obtain rfl : s = [] := List.eq_nil_of_length_eq_zero (by omega)
  clear h1
  go_enter Tryz.func187, Tryz.ntmps187
  go_wp2_with fail
  go_ret
  exact ⟨rfl, Only.refl _ _⟩
end
end Go.Proofs.YtpjfheadolphgaaGreat
