import Derived.Test.YtpjfheadolphgaaGreatMh3
import Derived.Deep.LoopGhost
import Derived.OwnWalk
import Derived.WalkLawsBesides
set_option linter.unusedVariables false
set_option linter.unusedSimpArgs false
namespace Go.Proofs.YtpjfheadolphgaaGreat
open Go.RowKit Go.Proofs
set_option maxRecDepth 20000
section
variable {w w' : World} {F N K : Nat → Prop} {X : XC} {t x p r c h : Nat} {D D' : PD} {n : NodeD} {v pv kv cv : Value} {M : List KV} {key : Str}
theorem set4 {w : World} {o : Nat} {ty : TypeId} {z0 z1 z2 z3 : Value} (hB : Blk w o ty #[z0, z1, z2, z3]) (a b c d : Value) :
  Blk ((((w.setCell ⟨o, 0, none⟩ a).setCell ⟨o, 1, none⟩ b).setCell ⟨o, 2, none⟩ c).setCell ⟨o, 3, none⟩ d) o ty #[a, b, c, d] ∧ Only (fun k => k = o) w ((((w.setCell ⟨o, 0, none⟩ a).setCell ⟨o, 1, none⟩ b).setCell ⟨o, 2, none⟩ c).setCell ⟨o, 3, none⟩ d) :=
 ⟨(((hB.set_ 0 a).set_ 1 b).set_ 2 c).set_ 3 d, ((((Only.refl (fun k => k = o) w).setCell (p := ⟨o, 0, none⟩) (.inl rfl) a).setCell (p := ⟨o, 1, none⟩) (.inl rfl) b).setCell (p := ⟨o, 2, none⟩) (.inl rfl) c).setCell (p := ⟨o, 3, none⟩) (.inl rfl) d⟩
theorem isNode_leaf {e : Ent} {hi : Option Str} (hs : Sub D h e hi) (hn : IsNode D h e hi n) : n.leaf = decide (h = 0) ∧ (n.leaf = true → n.pairs ≠ []) := by
 rcases hn.2.2 with ⟨rfl, rfl⟩ | ⟨h', x, es, rfl, _, rfl⟩
 ·exact ⟨rfl, fun _ => hs.2.1⟩
 ·exact ⟨rfl, fun h => by cases h⟩
theorem get_clo (l : Bool) (i : Int) (w : World) : Calls Tryz.prog 148 #[nodeV l pv kv cv, .int .i64 i] w fun e w' => e = .returned (.tuple #[]) ∧ Only NoB w w' := by
 have ho : Only NoB w (w.alloc (.cells #[.bool l, pv, kv, cv] 200)) := (Only.refl NoB w).alloc _
 unfold nodeV
 go_enter Tryz.func148, Tryz.ntmps148
 go_wp2_with fail
 go_end0
 exact ⟨rfl, ho⟩
def DownOut (w : World) (F : Nat → Prop) (X : XC) (x t : Nat) (D : PD) (M : List KV) (key : Str) (e : Ending) (w' : World) : Prop :=
 ∃ ps pv kv cv F', e = .returned (.tuple #[nodeV true pv kv cv, .int .i64 0]) ∧ get key M = get key ps ∧ Srt ps ∧ ps.length ≤ 4096 ∧ NodeO w' (From w.heap.size) pv kv cv (leafN ps) ∧ TreeAt w' F' X x t D ∧ Only F w w' ∧ Grows F F' w
set_option maxHeartbeats 2000000 in
theorem down_get (h : TxAt w F X t D) (hx : Blk w x 212 #[.pointer (some ⟨t, 0, none⟩), .int .i64 D.m]) (hxF : ¬ F x) (hm : 64 ≤ D.m) (hb : Bt D M c) :
  Calls Tryz.prog 137 #[.pointer (some ⟨x, 0, none⟩), .string ⟨key.toArray⟩, .func (.func 148) #[] #[]] w (DownOut w F X x t D M key) := by
 obtain ⟨W1, hW1⟩ : ∃ W1, W1 = w.alloc (.cells #[.bool false, .slice none 0 0, .slice none 0 0, .slice none 0 0] 200) := ⟨_, rfl⟩
 have ho1 : Only NoB w W1 := by rw [hW1]; exact (Only.refl NoB w).alloc _
 have hs1 : W1.heap.size = w.heap.size + 1 := by rw [hW1]; simp
 have hB : Blk W1 w.heap.size 200 #[.bool false, .slice none 0 0, .slice none 0 0, .slice none 0 0] := by rw [hW1]; exact Blk.new w _ _
 have h1 := h.quit ho1
 have HR := Lib.hid (root_any h1)
 have hx1 := hx.only ho1 id
 have c0 : W1.cell? ⟨x, 0, none⟩ = some (.pointer (some ⟨t, 0, none⟩)) := hx1.cell 0
 rw [hW1] at c0
 have hFw : ¬ F w.heap.size := fun hf => by rcases h with h | h <;> (have := h.1 _ hf; omega)
 have hxw : x ≠ w.heap.size := fun e => by have := hx.lt; omega
 have HF := Lib.hid hFw
 have HX := Lib.hid hxw
 have HX1 := Lib.hid hx1
 have HB := Lib.hid hB
 have HO1 := Lib.hid ho1
 have HW1 := Lib.hid hW1
 have HS1 := Lib.hid hs1
 have HBT := Lib.hid hb
 have HXF := Lib.hid hxF
 clear h hx hxF hb hW1 ho1 hs1 hB h1 hx1 hFw hxw
 go_enter Tryz.func137, Tryz.ntmps137
 go_wp2_with fail
 rw [← HW1.out]
 refine HR.out.mono ?_
 rintro e w2 ⟨rfl, F2, ht2, ho2, hg2⟩
 have hx2 : TreeAt w2 F2 X x t D := ⟨ht2, HX1.out.only ho2 HXF.out, fun hk => by rcases hg2 x hk with h1 | h1; (· exact HXF.out h1); (· have := HX1.out.lt; omega), hm⟩
 have hb2 := HB.out.only ho2 HF.out
 have HF2 : Hid (¬ F2 w.heap.size) := Lib.hid fun hk => by rcases hg2 _ hk with h1 | h1; (· exact HF.out h1); (· have := HS1.out; omega)
 have HG2 : Hid (Grows F F2 w) := Lib.hid fun k hk => (hg2 k hk).imp id fun h => Nat.le_trans HO1.out.size h
 have HO2 : Hid (Only F w w2) := Lib.hid ((HO1.out.mono fun _ _ h => h.elim).trans ho2)
 rcases HBT.out.2 with ⟨hr0, hM, _⟩ | ⟨h, e, hroot⟩
 ·have o0 : w2.cell? _ = some _ := hb2.cell 0
  have o1 : w2.cell? _ = some _ := hb2.cell 1
  have o2 : w2.cell? _ = some _ := hb2.cell 2
  have o3 : w2.cell? _ = some _ := hb2.cell 3
  have p0 := hb2.frozen 0
  have p1 := hb2.frozen 1
  have p2 := hb2.frozen 2
  have p3 := hb2.frozen 3
  have HB2 := Lib.hid hb2
  have HX2 := Lib.hid hx2
  rw [hr0]
  have HM := Lib.hid hM
  clear hb2 hx2 hM hr0 ho2 hg2 ht2 c0
  go_wp2_with fail
  (try simp only [Exit.inBlock, Exit.then])
  obtain ⟨hbf, hst⟩ := set4 HB2.out (.bool true) (.slice none 0 0) (.slice none 0 0) (.slice none 0 0)
  refine bodyPost_ret (results_row_tmp rfl _ _ w.heap.size 200 _ rfl hbf (by kernel_rfl) (by kernel_rfl)) rfl ?_
  refine ⟨[], _, _, _, F2, rfl, by rw [HM.out], List.Pairwise.nil, by simp, ⟨Own.nil _ _ _ _, Own.nil _ _ _ _, Own.nil _ _ _ _, fun q hq => by simp [Value.ownBlock] at hq⟩, ?_, only_new2 HO2.out hst, HG2.out⟩
  exact ⟨TxQ.only HX2.out.tx hst fun k hk e => HF2.out (e ▸ hk), HX2.out.blk.only hst fun e => HX.out e, HX2.out.out, hm⟩
 ·have hne0 : ¬ ((D.root : Int) = 0) := by have := hroot.ne0; omega
  have hbq : ((D.root : Int) == 0) = false := by simp; exact hroot.ne0
  have hway : Way D M key h e none 0 := ⟨hroot.sub, by rw [hroot.lo]; exact nil_les _, trivial, [], [], by simp [hroot.M], by simp, by simp, .inl ⟨rfl, rfl⟩⟩
  have hmay : Mays D e.P := fun q hq => ⟨hroot.held.is q hq, hroot.held.used q hq⟩
  have HI : Hid (Way D M key h e none 0 ∧ Mays D e.P ∧ TreeAt w2 F2 X x t D ∧ Blk w2 w.heap.size 200 #[.bool false, .slice none 0 0, .slice none 0 0, .slice none 0 0] ∧ Only F w w2) := Lib.hid ⟨hway, hmay, hx2, hb2, HO2.out⟩
  have hat := hroot.at_
  clear hway hmay hx2 hb2 hroot ho2 hg2 ht2 c0
  go_wp2_with fail
  go_loopg [8] (h + 1) (fun g s8 wr => ∃ (h : Nat) (e : Ent) (hi : Option Str) (r : Nat), s8 = .int .i64 e.c ∧ h < g ∧ Hid (Way D M key h e hi r ∧ Mays D e.P ∧ TreeAt wr F2 X x t D ∧ Blk wr w.heap.size 200 #[.bool false, .slice none 0 0, .slice none 0 0, .slice none 0 0] ∧ Only F w wr))
  case atStart => exact ⟨h, e, none, 0, by rw [hat], by omega, HI.out⟩
  case round =>
   clear HI hat
   obtain ⟨h, e, hi, r, rfl, hg, hst⟩ := hrel
   obtain ⟨hway, hmay, hxr, hbr, hor⟩ := hst.out
   obtain ⟨n, hnode⟩ := sub_node hway.sub
   obtain ⟨P, hP⟩ := sub_c hway.sub
   obtain ⟨his, hus⟩ := hmay e.c (by rw [hP]; simp)
   obtain ⟨hlf, hne⟩ := isNode_leaf hway.sub hnode
   have HL := Lib.hid (load_ok hxr his hus hnode.1 hnode.2.1 hne)
   have HFW : Hid (¬ F2 w.heap.size) := HF2
   have HND := Lib.hid hnode
   have HWAY := Lib.hid hway
   have HMAY := Lib.hid hmay
   have HBR := Lib.hid hbr
   have HOR := Lib.hid hor
   have HLF := Lib.hid hlf
   have HXR := Lib.hid hxr
   clear hway hmay hxr hbr hor hnode hlf hne hst hP
   go_wp2_with fail
   refine HL.out.mono ?_
   rintro e3 w3 ⟨pv, kv, cv, rfl, hnd3, hx3, ho3⟩
   obtain ⟨pA, pc, kA, kc, cA, cc, rfl, rfl, rfl⟩ := hnd3.r.shape
   have HX3 := Lib.hid hx3
   have HO3 := Lib.hid ho3
   have HN3 := Lib.hid hnd3
   clear hx3 ho3 hnd3
   unfold nodeV
   rcases h with _ | h
   ·have hl : n.leaf = true := by rw [HLF.out]; rfl
    have hn : n = leafN e.M := by
     rcases HND.out.2.2 with ⟨_, hn⟩ | ⟨h', _, _, h0, _⟩
     ·exact hn
     ·cases h0
    have HNL := Lib.hid hn
    obtain ⟨W4, hW4⟩ : ∃ W4, W4 = w3.alloc (.cells #[.bool true, .slice pA n.pairs.length pc, .slice kA n.keys.length kc, .slice cA n.children.length cc] 200) := ⟨_, rfl⟩
    have ho4 : Only NoB w3 W4 := by rw [hW4]; exact (Only.refl NoB w3).alloc _
    have hbo := (HBR.out.only HO3.out HF2.out).only ho4 id
    rw [hW4] at hbo
    have o0 := hbo.cell 0
    have o1 := hbo.cell 1
    have o2 := hbo.cell 2
    have o3 := hbo.cell 3
    have p0 := hbo.frozen 0
    have p1 := hbo.frozen 1
    have p2 := hbo.frozen 2
    have p3 := hbo.frozen 3
    have HBO := Lib.hid hbo
    have HO4 := Lib.hid ho4
    have HW4 := Lib.hid hW4
    rw [hl]
    clear hl hn hbo ho4 hW4
    go_wp2_with fail
    (try simp only [Exit.inBlock, Exit.then])
    obtain ⟨hbf, hst⟩ := set4 HBO.out (.bool true) (.slice pA n.pairs.length pc) (.slice kA n.keys.length kc) (.slice cA n.children.length cc)
    refine bodyPost_ret (results_row_tmp rfl _ _ w.heap.size 200 _ rfl hbf (by kernel_rfl) (by kernel_rfl)) rfl ?_
    clear o0 o1 o2 o3 p0 p1 p2 p3
    have hle : w.heap.size + 1 ≤ wr.heap.size := by have := HBR.out.lt; omega
    rw [← HW4.out] at hst
    have hpl : e.M.length ≤ 4096 := by
     have h1 := HND.out.2.1.size
     rw [HNL.out] at h1
     have h2 := sizeP_ge e.M
     have h3 : (leafN e.M).size = 3 + 3 * 0 + NodeD.sizeP e.M + 0 := rfl
     have := HXR.out.mle
     omega
    have hown : NodeO W4 (From wr.heap.size) (.slice pA n.pairs.length pc) (.slice kA n.keys.length kc) (.slice cA n.children.length cc) n := HN3.out.quit HO4.out
    have hfin : Only F w W4 := (HOR.out.trans' HO3.out fun k hk hf => (HG2.out k hf).elim id fun h => by omega).trans (HO4.out.mono fun _ _ h => h.elim)
    refine ⟨e.M, _, _, _, F2, rfl, HWAY.out.get, (sub_facts HWAY.out.sub).srt, hpl, ?_, ?_, ?_, HG2.out⟩
    ·rw [← HNL.out]
     rw [HW4.out] at hst hown
     exact (hown.only hst fun k hk e => by unfold From at hk; omega).mono fun k hk _ => by unfold From at hk ⊢; omega
    ·have hx4 := HX3.out.quit HO4.out
     rw [HW4.out] at hst hx4
     exact ⟨TxQ.only hx4.tx hst fun k hk e => HF2.out (e ▸ hk), hx4.blk.only hst fun e => HX.out e, hx4.out, hm⟩
    ·rw [HW4.out] at hst hfin
     exact only_new2 hfin hst
   ·have hl : n.leaf = false := by rw [HLF.out]; rfl
    obtain ⟨x0, es, hI, hn⟩ : ∃ x0 es, In D h e hi x0 es ∧ n = innerN (x0 :: es) := by
     rcases HND.out.2.2 with ⟨h0, _⟩ | ⟨h', x0, es, h0, hI, hn⟩
     ·cases h0
     ·injection h0 with h0; subst h0; exact ⟨x0, es, hI, hn⟩
    obtain ⟨W4, hW4⟩ : ∃ W4, W4 = w3.alloc (.cells #[.bool false, .slice pA n.pairs.length pc, .slice kA n.keys.length kc, .slice cA n.children.length cc] 200) := ⟨_, rfl⟩
    have ho4 : Only NoB w3 W4 := by rw [hW4]; exact (Only.refl NoB w3).alloc _
    have hB4 : Blk W4 w3.heap.size 200 #[.bool false, .slice pA n.pairs.length pc, .slice kA n.keys.length kc, .slice cA n.children.length cc] := by rw [hW4]; exact Blk.new w3 _ _
    have hpl := place_ok (key := key) (HN3.out.quit ho4).r HND.out.2.1 HXR.out.mle
    rw [hl] at hpl
    have HPL := Lib.hid hpl
    have HN4 := Lib.hid (HN3.out.quit ho4)
    have HNL := Lib.hid hn
    have HI := Lib.hid hI
    have HO4 := Lib.hid ho4
    have HW4 := Lib.hid hW4
    have HB4 := Lib.hid hB4
    have HLL := Lib.hid hl
    rw [hl]
    clear hl hn hI ho4 hB4 hW4 hpl
    go_wp2_with fail
    rw [← HW4.out]
    refine HPL.out.mono ?_
    rintro e5 w5 ⟨i, is, _, hpk, rfl, ho5⟩
    have hpk := hpk HLL.out
    rw [HNL.out] at hpk
    obtain ⟨y, hi', hmem, hch, hway⟩ := HWAY.out.down HI.out hpk (fun e he => by
     have := (HI.out.ok.kid e.c (by show e.c ∈ (x0 :: es).map Ent.c; exact List.mem_map_of_mem he)).1
     omega) HMAY.out
    have HWY := Lib.hid hway
    have HO5 := Lib.hid ho5
    have hb5 := HB4.out.only ho5 id
    have b0 : w5.cell? _ = some _ := hb5.cell 0
    have b1 : w5.cell? _ = some _ := hb5.cell 1
    have b2 : w5.cell? _ = some _ := hb5.cell 2
    have b3 : w5.cell? _ = some _ := hb5.cell 3
    have HCL := Lib.hid (get_clo (pv := .slice pA n.pairs.length pc) (kv := .slice kA n.keys.length kc) (cv := .slice cA n.children.length cc) false i w5)
    rw [← HNL.out] at hch
    have HCH := Lib.hid hch
    have HMY : Hid (Mays D y.P) := Lib.hid fun q hq => HMAY.out q (by rw [HI.out.P]; exact List.mem_cons_of_mem _ (List.mem_flatMap.2 ⟨y, hmem, hq⟩))
    have HB5 := Lib.hid hb5
    clear hpk hmem hch hway ho5 hb5
    go_wp2_with fail
    refine HCL.out.mono ?_
    rintro e6 w6 ⟨rfl, ho6⟩
    have hb6 := HB5.out.only ho6 id
    have k3 : w6.cell? _ = some _ := hb6.cell 3
    have hil := (List.getElem?_eq_some_iff.1 HCH.out).1
    obtain ⟨g, off, c', hve, _, _, hcell⟩ := (HN4.out.kids.only (HO5.out.trans ho6) fun _ _ => id).rd.open_ (by omega)
    injection hve with q1 q2 q3
    subst q1; subst q3
    have cc1 := hcell i (natV y.c) (by rw [List.getElem?_map, HCH.out]; rfl)
    unfold natV at cc1
    have hii : (i : Int) < (n.children.length : Int) := by omega
    have hi0 : (0 : Int) ≤ (i : Int) := by omega
    have HO6 := Lib.hid ho6
    clear hb6 hcell q2 ho6 b0 b1 b2 b3
    go_wp2_with fail
    go_roundg (h + 1)
    case measure => omega
    case rel =>
     have hon : Only NoB w3 w6 := HO4.out.trans (HO5.out.trans HO6.out)
     refine ⟨h, y, hi', _, rfl, by omega, Lib.hid ⟨HWY.out, HMY.out, HX3.out.quit hon, (HBR.out.only HO3.out HF2.out).only hon id, ?_⟩⟩
     exact (HOR.out.trans' HO3.out fun k hk hf => (HG2.out k hf).elim id fun h => by omega).trans (hon.mono fun _ _ h => h.elim)
end
end Go.Proofs.YtpjfheadolphgaaGreat
namespace Go.Proofs.YtpjfheadolphgaaGreat
open Go.RowKit Go.Proofs
set_option maxRecDepth 20000
section
variable {w w' : World} {F N K : Nat → Prop} {X : XC} {t x p r c h : Nat} {D D' : PD} {n : NodeD} {v pv kv cv : Value} {M : List KV} {key : Str}
theorem placeP_at {ps : List KV} {i : Nat} (h : PlaceP ps key i true) : ∃ v, ps[i]? = some (key, v) ∧ get key ps = some v := by
 obtain ⟨a, b, rfl, rfl, ha, hb⟩ := h
 rw [if_pos rfl] at hb
 obtain ⟨v, c, rfl, hc⟩ := hb
 refine ⟨v, by simp, ?_⟩
 rw [get_append, get_none fun x hx => lts_ne (ha x hx)]
 simp [get]
theorem placeP_no {ps : List KV} {i : Nat} (h : PlaceP ps key i false) : get key ps = none := by
 have := placeP_get h
 cases hg : get key ps with
 | none => rfl
 | some v => rw [hg] at this; cases this
set_option maxHeartbeats 1000000 in
theorem get_ok (h : TxAt w F X t D) (hm : 64 ≤ D.m) (hm2 : D.m ≤ 4096) (hb : Bt D M c) :
  Calls Tryz.prog 54 #[.pointer (some ⟨t, 0, none⟩), .string ⟨key.toArray⟩] w (DeedT w F X t (.tuple #[strV ((get key M).getD []), .bool (get key M).isSome, .int .i64 0]) D) := by
 have HOF := Lib.hid (of_ok h hm hm2)
 have hlt : ∀ k, F k → k < w.heap.size := fun k hk => by rcases h with h | h <;> exact h.1 k hk
 have HLT := Lib.hid hlt
 have HB := Lib.hid hb
 clear h hlt hb
 go_enter Tryz.func54, Tryz.ntmps54
 go_wp2_with fail
 refine HOF.out.mono ?_
 rintro e w1 ⟨x, rfl, ht1, hx1, ho1, hxl⟩
 have HD := Lib.hid (down_get (key := key) ht1 hx1 (fun hk => by have := HLT.out x hk; omega) hm HB.out)
 have HO1 := Lib.hid ho1
 clear ht1 hx1 ho1
 go_wp2_with fail
 refine HD.out.mono ?_
 rintro e w2 ⟨ps, pv, kv, cv, F2, rfl, hget, hsrt, hpl, hnd, hx2, ho2, hg2⟩
 obtain ⟨pA, pc, kA, kc, cA, cc, rfl, rfl, rfl⟩ := hnd.r.shape
 have hnd : NodeO w2 (From w1.heap.size) (.slice pA ps.length pc) (.slice kA 0 kc) (.slice cA 0 cc) (leafN ps) := hnd
 obtain ⟨W3, hW3⟩ : ∃ W3, W3 = w2.alloc (.cells #[.bool true, .slice pA ps.length pc, .slice kA 0 kc, .slice cA 0 cc] 200) := ⟨_, rfl⟩
 have ho3 : Only NoB w2 W3 := by rw [hW3]; exact (Only.refl NoB w2).alloc _
 have hB3 : Blk W3 w2.heap.size 200 #[.bool true, .slice pA ps.length pc, .slice kA 0 kc, .slice cA 0 cc] := by rw [hW3]; exact Blk.new w2 _ _
 have hpl2 : Calls Tryz.prog 139 #[nodeV true (.slice pA ps.length pc) (.slice kA 0 kc) (.slice cA 0 cc), .string ⟨key.toArray⟩] W3 (PlaceOut ⟨true, ps, [], []⟩ key W3) := (place_leaf (key := key) (ps := ps) (ks := []) (cs := []) (hnd.quit ho3).r hsrt (by omega))
 have HPL := Lib.hid hpl2
 have HND := Lib.hid (hnd.quit ho3)
 have HX2 := Lib.hid hx2
 have HO2 := Lib.hid ho2
 have HG2 := Lib.hid hg2
 have HO3 := Lib.hid ho3
 have HW3 := Lib.hid hW3
 have HB3 := Lib.hid hB3
 have HGT := Lib.hid hget
 clear hpl2 hnd hx2 ho2 hg2 ho3 hW3 hB3 hget
 unfold nodeV leafN
 go_wp2_with fail
 rw [← HW3.out]
 refine HPL.out.mono ?_
 rintro e w4 ⟨i, is, hpp, _, rfl, ho4⟩
 have hpp : PlaceP ps key i is := hpp rfl
 have hE : Hid (∃ F', TxLd w4 F' X t D ∧ Only F w w4 ∧ Grows F F' w) := Lib.hid ⟨F2, (HX2.out.quit (HO3.out.trans ho4)).tx, ((HO1.out.mono fun _ _ h => h.elim).trans HO2.out).trans ((HO3.out.trans ho4).mono fun _ _ h => h.elim), fun k hk => (HG2.out k hk).imp id fun h => Nat.le_trans HO1.out.size h⟩
 cases is with
 | true =>
  obtain ⟨v, hv1, hv2⟩ := placeP_at hpp
  have hil := (List.getElem?_eq_some_iff.1 hv1).1
  have hb4 := HB3.out.only ho4 id
  have k1 : w4.cell? _ = some _ := hb4.cell 1
  obtain ⟨g, off, c', hve, _, _, hcell⟩ := (HND.out.pairs.only ho4 fun _ _ => id).rd.open_ (by show 0 < ps.length * 2; omega)
  injection hve with q1 q2 q3
  subst q1; subst q3
  have c2 := hcell _ _ (pairL_get hv1).2
  unfold strV at c2
  rw [← Nat.add_assoc] at c2
  have HV2 := Lib.hid hv2
  have hii : (i : Int) < (ps.length : Int) := by omega
  have hi0 : (0 : Int) ≤ (i : Int) := by omega
  clear hpp hv1 hv2 hb4 hcell q2 ho4
  go_wp2_with fail
  go_ret3
  exact ⟨by rw [HGT.out, HV2.out]; rfl, hE.out⟩
 | false =>
  have HV2 := Lib.hid (placeP_no hpp)
  clear hpp ho4
  go_wp2_with fail
  go_ret3
  exact ⟨by rw [HGT.out, HV2.out]; rfl, hE.out⟩
end
end Go.Proofs.YtpjfheadolphgaaGreat
namespace Go.Proofs.YtpjfheadolphgaaGreat
open Go.RowKit Go.Proofs
set_option maxRecDepth 20000
section
variable {w w' : World} {F N K : Nat → Prop} {X : XC} {t x p r c h m : Nat} {D D' : PD} {n : NodeD} {v pv kv cv : Value} {M ps : List KV} {key : Str} {ks : List Str} {cs : List Nat}
theorem sum_take_szP (ps : List KV) {k : Nat} (h : k < ps.length) : ((ps.map szP).take (k + 1)).sum = ((ps.map szP).take k).sum + (2 + ps[k].1.length + ps[k].2.length) := by
 rw [List.take_succ_eq_append_getElem (by simpa using h)]
 simp [szP]
theorem sum_take_le (ps : List KV) (k : Nat) : ((ps.map szP).take k).sum ≤ NodeD.sizeP ps := by
 have h1 := sum_szP ps
 have h2 : ((ps.map szP).take k).sum + ((ps.map szP).drop k).sum = (ps.map szP).sum := by rw [← List.sum_append, List.take_append_drop]
 omega
theorem Rd.take_ {F : Nat → Prop} {size n k c g off : Nat} {xs : List Value} (h : Rd w F size (.slice (some ⟨g, off, none⟩) n c) n xs) (hk : k ≤ n) : Rd w F size (.slice (some ⟨g, off, none⟩) k c) k (xs.take (k * size)) := by
 obtain ⟨A, c', hv, hc, hl, hx⟩ := h
 injection hv with q1 q2 q3
 subst q3
 have hle : k * size ≤ n * size := Nat.mul_le_mul_right _ hk
 refine ⟨_, _, rfl, by omega, by rw [List.length_take, hl]; omega, fun h0 => ?_⟩
 obtain ⟨ad, h1, h2, h3⟩ := hx (by omega)
 rw [← q1] at h1
 exact ⟨ad, h1, h2, fun j u hu => h3 j u (by rw [List.getElem?_take] at hu; split at hu; (· exact hu); (· cases hu))⟩
theorem Rd.drop_ {F : Nat → Prop} {size n k c g off : Nat} {xs : List Value} (h : Rd w F size (.slice (some ⟨g, off, none⟩) n c) n xs) (hk : k ≤ n) : Rd w F size (.slice (some ⟨g, off + k * size, none⟩) (n - k) (c - k)) (n - k) (xs.drop (k * size)) := by
 obtain ⟨A, c', hv, hc, hl, hx⟩ := h
 injection hv with q1 q2 q3
 subst q3
 have hle : k * size ≤ n * size := Nat.mul_le_mul_right _ hk
 refine ⟨_, _, rfl, by omega, by rw [List.length_drop, hl, Nat.sub_mul], fun h0 => ?_⟩
 rw [Nat.sub_mul] at h0
 obtain ⟨ad, h1, h2, h3⟩ := hx (by omega)
 rw [← q1] at h1
 injection h1 with h1
 subst h1
 exact ⟨_, rfl, h2, fun j u hu => by
  rw [List.getElem?_drop] at hu
  have := h3 _ u hu
  rw [Addr.add_lit] at this ⊢
  rwa [Nat.add_assoc]⟩
theorem Rd.at_ {F : Nat → Prop} {size n c g off : Nat} {xs : List Value} (h : Rd w F size (.slice (some ⟨g, off, none⟩) n c) n xs) : Rd w (fun q => q = g ∧ F q) size (.slice (some ⟨g, off, none⟩) n c) n xs := by
 obtain ⟨A, c', hv, hc, hl, hx⟩ := h
 refine ⟨A, c', hv, hc, hl, fun h0 => ?_⟩
 obtain ⟨ad, h1, h2, h3⟩ := hx h0
 injection hv with q1 q2 q3
 rw [← q1] at h1
 injection h1 with h1
 subst h1
 exact ⟨_, q1.symm, ⟨rfl, h2⟩, h3⟩
theorem pairL_takeN : ∀ (ps : List KV) (k : Nat), pairL (ps.take k) = (pairL ps).take (k * 2)
 | [], k => by simp [pairL]
 | p :: ps, 0 => by simp [pairL]
 | p :: ps, k + 1 => by rw [List.take_succ_cons, show (k + 1) * 2 = k * 2 + 1 + 1 by omega]; simp [pairL, pairL_takeN ps k]
theorem pairL_dropN : ∀ (ps : List KV) (k : Nat), pairL (ps.drop k) = (pairL ps).drop (k * 2)
 | [], k => by simp [pairL]
 | p :: ps, 0 => by simp [pairL]
 | p :: ps, k + 1 => by rw [List.drop_succ_cons, show (k + 1) * 2 = k * 2 + 1 + 1 by omega]; simp [pairL, pairL_dropN ps k]
def PartsOut (w : World) (N : Nat → Prop) (a : NodeD) (key : Str) (b : NodeD) (e : Ending) (w' : World) : Prop :=
 ∃ pa ka ca pb kb cb, e = .returned (.tuple #[nodeV a.leaf pa ka ca, strV key, nodeV b.leaf pb kb cb]) ∧ NodeR w' N pa ka ca a ∧ NodeR w' N pb kb cb b ∧ Only NoB w w'
set_option maxHeartbeats 2000000 in
theorem split_lf (hx : Blk w x 212 #[.pointer (some ⟨t, 0, none⟩), .int .i64 m]) (hn : NodeR w N pv kv cv ⟨true, ps, ks, cs⟩) (hne : ps ≠ []) (hl : NodeD.sizeP ps ≤ 100000) (hm : m ≤ 4096) :
  Calls Tryz.prog 298 #[.pointer (some ⟨x, 0, none⟩), nodeV true pv kv cv] w (PartsOut w N (splitN (leafN ps) m).1 (splitN (leafN ps) m).2.1 (splitN (leafN ps) m).2.2) := by
 obtain ⟨pA, pc, kA, kc, cA, cc, rfl, rfl, rfl⟩ := hn.shape
 simp only at hn ⊢
 have hpl := sizeP_ge ps
 have hlen : 0 < ps.length := List.length_pos_iff.2 hne
 obtain ⟨W3, hW3⟩ : ∃ W3, W3 = ((w.alloc (.cells #[.bool true, .slice pA ps.length pc, .slice kA ks.length kc, .slice cA cs.length cc] 200)).alloc (.cells #[.bool false, .slice none 0 0, .slice none 0 0, .slice none 0 0] 200)).alloc (.cells #[.bool false, .slice none 0 0, .slice none 0 0, .slice none 0 0] 200) := ⟨_, rfl⟩
 have ho3 : Only NoB w W3 := by rw [hW3]; exact (((Only.refl NoB w).alloc _).alloc _).alloc _
 have c1 : W3.cell? ⟨x, 1, none⟩ = some (.int .i64 m) := (hx.only ho3 id).cell 1
 rw [hW3] at c1
 have hB : Blk W3 w.heap.size 200 #[.bool true, .slice pA ps.length pc, .slice kA ks.length kc, .slice cA cs.length cc] := by rw [hW3]; exact ((Blk.new w _ _).alloc _).alloc _
 obtain ⟨g0, off0, c0', hve0, _, _, hcell0⟩ := hn.pairs.open_ (by show 0 < ps.length * 2; omega)
 have hgc0 := hcell0 0 _ (List.getElem?_eq_getElem (by rw [pairL_len]; show 0 < ps.length * 2; omega))
 obtain ⟨g, off, c', hve, _, _, hcell⟩ := (hn.pairs.only ho3 fun _ _ => id).open_ (by show 0 < ps.length * 2; omega)
 injection hve0 with r1 r2 r3
 injection hve with q1 q2 q3
 have hgg : g0 = g := by rw [r1] at q1; injection q1 with q1; injection q1
 subst q1; subst q3
 rw [hgg] at hgc0
 have hgc := hgc0
 clear hcell0 r1 r2 r3 hgg hgc0
 have HC : Hid (∀ k (hk : k < ps.length), W3.cell? ⟨g, off + k * 2, none⟩ = some (strV ps[k].1) ∧ W3.cell? ⟨g, off + k * 2 + 1, none⟩ = some (strV ps[k].2)) := Lib.hid fun k hk => by
  obtain ⟨p1, p2⟩ := pairL_get (List.getElem?_eq_getElem hk)
  have e2 := hcell _ _ p2
  rw [← Nat.add_assoc] at e2
  exact ⟨hcell _ _ p1, e2⟩
 have hB4 : Blk W3 (w.heap.size + 1) 200 #[.bool false, .slice none 0 0, .slice none 0 0, .slice none 0 0] := by
  rw [hW3]
  have := Blk.new (w.alloc (.cells #[.bool true, .slice (some ⟨g, off, none⟩) ps.length pc, .slice kA ks.length kc, .slice cA cs.length cc] 200)) 200 #[.bool false, .slice none 0 0, .slice none 0 0, .slice none 0 0]
  rw [show (w.alloc (.cells #[.bool true, .slice (some ⟨g, off, none⟩) ps.length pc, .slice kA ks.length kc, .slice cA cs.length cc] 200)).heap.size = w.heap.size + 1 by simp] at this
  exact this.alloc _
 have hB6 : Blk W3 (w.heap.size + 1 + 1) 200 #[.bool false, .slice none 0 0, .slice none 0 0, .slice none 0 0] := by
  rw [hW3]
  have := Blk.new ((w.alloc (.cells #[.bool true, .slice (some ⟨g, off, none⟩) ps.length pc, .slice kA ks.length kc, .slice cA cs.length cc] 200)).alloc (.cells #[.bool false, .slice none 0 0, .slice none 0 0, .slice none 0 0] 200)) 200 #[.bool false, .slice none 0 0, .slice none 0 0, .slice none 0 0]
  rwa [show ((w.alloc (.cells #[.bool true, .slice (some ⟨g, off, none⟩) ps.length pc, .slice kA ks.length kc, .slice cA cs.length cc] 200)).alloc (.cells #[.bool false, .slice none 0 0, .slice none 0 0, .slice none 0 0] 200)).heap.size = w.heap.size + 1 + 1 by simp] at this
 have hgw : g < w.heap.size := World.block_lt_of_cell? _ _ hgc
 have HNG : Hid (∀ q, q = w.heap.size ∨ q = g → q ≠ w.heap.size + 1 ∧ q ≠ w.heap.size + 1 + 1) := Lib.hid fun q hq => by omega
 have HB4 := Lib.hid hB4
 have HB6 := Lib.hid hB6
 have HN := Lib.hid (hn.quit ho3)
 have HB := Lib.hid hB
 have HO3 := Lib.hid ho3
 have HW3 := Lib.hid hW3
 obtain ⟨A, hA⟩ : ∃ A, A = cut (m / 2) (ps.map szP) 0 := ⟨_, rfl⟩
 have HA := Lib.hid hA
 have hAlt : A < ps.length := by
  have := cut_lt (m / 2) (ps.map szP) 0 (by simpa using hne)
  rw [← hA] at this
  simpa using this
 have HNE := Lib.hid hne
 have hdv : (m : Int).tdiv 2 = ((m / 2 : Nat) : Int) := by rw [Int.tdiv_eq_ediv_of_nonneg (by omega)]; omega
 clear hn hB hB4 hB6 ho3 hW3 hcell q2 hA hne hx hgc
 unfold nodeV
 go_enter Tryz.func298, Tryz.ntmps298
 go_wp2_with fail
 rw [← HW3.out]
 go_loopw [8, 9] (fun s8 s9 wr => ∃ k : Nat, k ≤ A ∧ s9 = .int .i64 k ∧ s8 = .int .i64 ((((ps.map szP).take k).sum : Nat) : Int) ∧ Only NoB W3 wr) (fun _ s9 _ => A - (intOf s9).toNat)
 case atStart => exact ⟨0, Nat.zero_le _, rfl, by simp, Only.refl _ _⟩
 case round =>
  obtain ⟨k, hk, rfl, rfl, hor⟩ := hrel
  have hst := cut_step (m / 2) (ps.map szP) 0 k (by rw [← HA.out]; exact hk)
  rw [← HA.out, List.length_map, Nat.zero_add] at hst
  have hsl := sum_take_le ps k
  have hb := HB.out.only hor id
  have n1 : wr.cell? _ = some _ := hb.cell 1
  have HOR := Lib.hid hor
  have HBR := Lib.hid hb
  obtain ⟨S, hS⟩ : ∃ S, S = ((ps.map szP).take k).sum := ⟨_, rfl⟩
  rw [← hS] at hst hsl ⊢
  have HS := Lib.hid hS
  clear hb hor hS
  by_cases hlt : k < A
  ·obtain ⟨h1, h2⟩ := hst.1 hlt
   have hsz := sum_take_szP ps (k := k) (by omega)
   obtain ⟨e1, e2⟩ := HC.out k (by omega)
   have e1 := HOR.out.cell e1 id
   have e2 := HOR.out.cell e2 id
   obtain ⟨⟨a, b⟩, hab⟩ : ∃ q, q = ps[k] := ⟨_, rfl⟩
   rw [← hab] at e1 e2 hsz
   unfold strV at e1 e2
   simp only at hsz e1 e2
   rw [← HS.out] at hsz
   have hsz2 := sum_take_le ps (k + 1)
   rw [hsz] at hsz2
   have HSZ := Lib.hid hsz
   have h3 : (k : Int) < (ps.length : Int) - 1 := by omega
   have h4 : (S : Int) < ((m / 2 : Nat) : Int) := by omega
   have h5 : (k : Int) < (ps.length : Int) := by omega
   clear hst hsz hab
   have hki : (k : Int) < (ps.length : Int) := by omega
   have hki2 : k < ps.length := by omega
   go_wp2_with fail
   go_quiet (fail)
   go_wp2_with fail
   go_roundw
   case rel => exact ⟨k + 1, by omega, by go_num, by rw [HSZ.out]; go_num, HOR.out.drewN nq⟩
   case measure => simp only [intOf]; omega
  ·obtain rfl : k = A := by omega
   obtain ⟨e1, _⟩ := HC.out k hAlt
   have e1 := HOR.out.cell e1 id
   obtain ⟨a, ha⟩ : ∃ a, a = ps[k].1 := ⟨_, rfl⟩
   rw [← ha] at e1
   unfold strV at e1
   have HAK := Lib.hid ha
   have hki2 : k ≤ ps.length := by omega
   have hpk : ¬ (pc = k) := by omega
   have hlt3 : k < ps.length := by omega
   have hki3 : (k : Int) < (ps.length : Int) := by omega
   have hki4 : (k : Int) ≤ (ps.length : Int) := by omega
   have hki5 : (k : Int) ≤ (pc : Int) := by omega
   have hki6 : k ≤ pc := by omega
   have hcase : (¬ (k : Int) < (ps.length : Int) - 1) ∨ ((k : Int) < (ps.length : Int) - 1 ∧ ¬ (S : Int) < ((m / 2 : Nat) : Int)) := by
    by_cases h : k + 1 < ps.length
    ·exact .inr ⟨by omega, fun h2 => hlt (hst.2 ⟨h, by omega⟩)⟩
    ·exact .inl (by omega)
   clear hst ha hlt
   rcases hcase with h1 | ⟨h1, h2⟩
   all_goals
    go_wp2_with fail
    have hb4 := HB4.out.only HOR.out id
    have hb6 := HB6.out.only HOR.out id
    obtain ⟨hs4, hst4⟩ := set4 hb4 (.bool true) (.slice (some ⟨g, off, none⟩) k pc) (.slice none 0 0) (.slice none 0 0)
    have hb6' := hb6.only hst4 (by show ¬ (w.heap.size + 1 + 1 = w.heap.size + 1); omega)
    obtain ⟨hs6, hst6⟩ := set4 hb6' (.bool true) (.slice (some ⟨g, off + k * 2, none⟩) (ps.length - k) (pc - k)) (.slice none 0 0) (.slice none 0 0)
    have x0 := hb4.cell 0
    have x1 := hb4.cell 1
    have x2 := hb4.cell 2
    have x3 := hb4.cell 3
    have y0 := hb4.frozen 0
    have y1 := hb4.frozen 1
    have y2 := hb4.frozen 2
    have y3 := hb4.frozen 3
    have z0 := hb6'.cell 0
    have z1 := hb6'.cell 1
    have z2 := hb6'.cell 2
    have z3 := hb6'.cell 3
    have v0 := hb6'.frozen 0
    have v1 := hb6'.frozen 1
    have v2 := hb6'.frozen 2
    have v3 := hb6'.frozen 3
    have HS4 := Lib.hid hs4
    have HT4 := Lib.hid hst4
    have HS6 := Lib.hid hs6
    have HT6 := Lib.hid hst6
    have HNW : Hid (∀ q, q = w.heap.size ∨ q = g → q ≠ w.heap.size + 1 ∧ q ≠ w.heap.size + 1 + 1) := Lib.hid HNG.out
    clear hb4 hb6 hb6' hs4 hst4 hs6 hst6
    refine _root_.Go.Proofs.YtpjfheadolphgaaGreat.hB _ 19 (fun w' => w'.cell? ⟨w.heap.size, 1, none⟩ = some (.slice (some ⟨g, off, none⟩) ps.length pc) ∧ w'.cell? ⟨g, off + k * 2, none⟩ = some (.string ⟨a.toArray⟩)) (⟨n1, e1⟩) (fun hHeld => ?_)
    refine hT 0 49 ?_
    refine hT 1 50 ?_
    refine hT 2 51 ?_
    refine hT 3 52 ?_
    refine hT 4 53 ?_
    refine hT 5 54 ?_
    refine hT 6 55 ?_
    refine hT 7 56 ?_
    refine hT 8 57 ?_
    refine hT 9 58 ?_
    refine hT 10 59 ?_
    refine hT 11 60 ?_
    refine hT 12 61 ?_
    refine hT 13 62 ?_
    refine hT 14 63 ?_
    refine hT 15 64 ?_
    refine hE 16 (fun o ho K hK => ?_)
    cases ho
    go_simp
    skip
    refine hK.out _ _ (⟨HT4.out.drew.cell n1 (HNW.out _ (.inl rfl)).1, HT4.out.drew.cell e1 (HNW.out _ (.inr rfl)).1⟩) (fun hHeld => ?_)
    clear hK K
    try simp only [Act.put, List.setIfInBounds_toArray, List.set_cons_zero, List.set_cons_succ]
    refine hT 17 5 ?_
    refine hE 18 (fun o ho K hK => ?_)
    cases ho
    go_simp
    skip
    refine hK.out _ _ (⟨HT6.out.drew.cell (HT4.out.cell n1 (HNW.out _ (.inl rfl)).1) (HNW.out _ (.inl rfl)).2, HT6.out.drew.cell (HT4.out.cell e1 (HNW.out _ (.inr rfl)).1) (HNW.out _ (.inr rfl)).2⟩) (fun hHeld => ?_)
    clear hK K
    try simp only [Act.put, List.setIfInBounds_toArray, List.set_cons_zero, List.set_cons_succ]
    refine wpAnyH_done (by kernel_rfl) ?_ _
    refine NoPanic.normal ?_
    go_wp2_with fail
    (try simp only [Exit.inBlock, Exit.then])
    have hb4 := (HS4.out.only HT6.out (by show ¬ (w.heap.size + 1 = w.heap.size + 1 + 1); omega)).drew
    have hb6 := HS6.out.drew
    refine bodyPost_ret (results_row_tmp_row rfl _ _ (w.heap.size + 1) (w.heap.size + 1 + 1) 200 200 _ _ rfl hb4 (by kernel_rfl) (by kernel_rfl) rfl hb6 (by kernel_rfl) (by kernel_rfl)) rfl ?_
    have hsp : splitAt (leafN ps) m = k := HA.out.symm
    have hsplit : splitN (leafN ps) m = (⟨true, ps.take k, [], []⟩, a, ⟨true, ps.drop k, [], []⟩) := by
     unfold splitN
     rw [if_pos (show (leafN ps).leaf = true from rfl), hsp]
     show (_, (ps.getD k ([], [])).1, _) = _
     rw [List.getD_eq_getElem?_getD, List.getElem?_eq_getElem hlt3, HAK.out]
     rfl
    rw [hsplit]
    have hon : Only NoB w _ := only_new (only_new (HO3.out.trans HOR.out) HT4.out fun q hq => by omega) HT6.out fun q hq => by omega
    have hpr : Rd wr N 2 (.slice (some ⟨g, off, none⟩) ps.length pc) ps.length (pairL ps) := HN.out.pairs.only HOR.out fun _ _ => id
    have hpa := hpr.at_
    have hlast : Rd _ (fun q => q = g ∧ N q) 2 (.slice (some ⟨g, off, none⟩) ps.length pc) ps.length (pairL ps) := ((hpa.only HT4.out fun q hq h => (HNW.out q (.inr hq.1)).1 h).only HT6.out fun q hq h => (HNW.out q (.inr hq.1)).2 h).only (Only.refl NoB _).drew fun _ _ => id
    have hpA := (hlast.take_ hki2).mono (G := N) fun q hq _ => hq.2
    have hpB := (hlast.drop_ hki2).mono (G := N) fun q hq _ => hq.2
    rw [← pairL_takeN] at hpA
    rw [← pairL_dropN] at hpB
    refine ⟨_, _, _, _, _, _, rfl, ⟨?_, Rd.nil _ _ _, Rd.nil _ _ _⟩, ⟨?_, Rd.nil _ _ _, Rd.nil _ _ _⟩, hon.drew⟩
    ·show Rd _ N 2 _ (ps.take k).length (pairL (ps.take k))
     rw [List.length_take, Nat.min_eq_left hki2]
     exact hpA
    ·show Rd _ N 2 _ (ps.drop k).length (pairL (ps.drop k))
     rw [List.length_drop]
     exact hpB
end
end Go.Proofs.YtpjfheadolphgaaGreat
namespace Go.Proofs.YtpjfheadolphgaaGreat
open Go.RowKit Go.Proofs
set_option maxRecDepth 20000
section
variable {w W' : World} {N : Nat → Prop} {m g off g2 off2 k kc cc : Nat} {ps : List KV} {a : Str} {ks : List Str} {cs : List Nat}
theorem parts_in (hlk : Rd W' (fun q => q = g ∧ N q) 1 (.slice (some ⟨g, off, none⟩) ks.length kc) ks.length (ks.map strV)) (hlc : Rd W' (fun q => q = g2 ∧ N q) 1 (.slice (some ⟨g2, off2, none⟩) cs.length cc) cs.length (cs.map natV))
  (hk : k < ks.length) (hk4 : k + 1 ≤ cs.length) (hA : k = cut (m / 2) (ks.map szK) 0) (ha : a = ks[k]) (hon : Only NoB w W') (kb : Value) (hkB : Rd W' N 1 kb (ks.length - (k + 1)) ((ks.map strV).drop (k + 1))) :
  PartsOut w N (splitN ⟨false, ps, ks, cs⟩ m).1 (splitN ⟨false, ps, ks, cs⟩ m).2.1 (splitN ⟨false, ps, ks, cs⟩ m).2.2
   (.returned (.tuple #[.agg #[.bool false, .slice none 0 0, .slice (some ⟨g, off, none⟩) k kc, .slice (some ⟨g2, off2, none⟩) (k + 1) cc], .string ⟨a.toArray⟩,
    .agg #[.bool false, .slice none 0 0, kb, .slice (some ⟨g2, off2 + (k + 1), none⟩) (cs.length - (k + 1)) (cc - (k + 1))]])) W' := by
 have hsplit : splitN ⟨false, ps, ks, cs⟩ m = (⟨false, [], ks.take k, cs.take (k + 1)⟩, a, ⟨false, [], ks.drop (k + 1), cs.drop (k + 1)⟩) := by
  have hsp : splitAt ⟨false, ps, ks, cs⟩ m = k := hA.symm
  unfold splitN
  rw [if_neg (by simp), hsp]
  show (_, ks.getD k [], _) = _
  rw [List.getD_eq_getElem?_getD, List.getElem?_eq_getElem hk, ha]
  rfl
 rw [hsplit]
 have hkA := (hlk.take_ (Nat.le_of_lt hk)).mono (G := N) fun q hq _ => hq.2
 have hcA := (hlc.take_ hk4).mono (G := N) fun q hq _ => hq.2
 have hcB := (hlc.drop_ hk4).mono (G := N) fun q hq _ => hq.2
 simp only [Nat.mul_one, ← List.map_take, ← List.map_drop] at hkA hkB hcA hcB
 refine ⟨_, _, _, _, _, _, rfl, ⟨Rd.nil _ _ _, ?_, ?_⟩, ⟨Rd.nil _ _ _, ?_, ?_⟩, hon⟩
 ·show Rd _ N 1 _ (ks.take k).length ((ks.take k).map strV)
  rw [List.length_take, Nat.min_eq_left (Nat.le_of_lt hk)]
  exact hkA
 ·show Rd _ N 1 _ (cs.take (k + 1)).length ((cs.take (k + 1)).map natV)
  rw [List.length_take, Nat.min_eq_left hk4]
  exact hcA
 ·show Rd _ N 1 _ (ks.drop (k + 1)).length ((ks.drop (k + 1)).map strV)
  rw [List.length_drop]
  exact hkB
 ·show Rd _ N 1 _ (cs.drop (k + 1)).length ((cs.drop (k + 1)).map natV)
  rw [List.length_drop]
  exact hcB
end
end Go.Proofs.YtpjfheadolphgaaGreat
namespace Go.Proofs.YtpjfheadolphgaaGreat
open Go.RowKit Go.Proofs
set_option maxRecDepth 20000
section
variable {w w' : World} {F N K : Nat → Prop} {X : XC} {t x p r c h m : Nat} {D D' : PD} {n : NodeD} {v pv kv cv : Value} {M ps : List KV} {key : Str} {ks : List Str} {cs : List Nat}
theorem sum_take_szK (ks : List Str) {k : Nat} (h : k < ks.length) : ((ks.map szK).take (k + 1)).sum = ((ks.map szK).take k).sum + (4 + ks[k].length) := by
 rw [List.take_succ_eq_append_getElem (by simpa using h)]
 simp [szK]
theorem Rd.none_ {e : Option Addr} {c j : Nat} {xs : List Value} (hj : j = 0) (hx : xs.length = 0) : Rd w N 1 (.slice e 0 c) j xs := by
 subst hj
 exact ⟨_, _, rfl, Nat.zero_le _, by simpa using hx, fun h => by omega⟩
theorem sum_take_leK (ks : List Str) (k : Nat) : ((ks.map szK).take k).sum ≤ NodeD.sizeK ks + 3 * ks.length := by
 have h1 := sum_szK ks
 have h2 : ((ks.map szK).take k).sum + ((ks.map szK).drop k).sum = (ks.map szK).sum := by rw [← List.sum_append, List.take_append_drop]
 omega
set_option maxHeartbeats 4000000 in
theorem split_in (hx : Blk w x 212 #[.pointer (some ⟨t, 0, none⟩), .int .i64 m]) (hn : NodeR w N pv kv cv ⟨false, ps, ks, cs⟩) (hne : ks ≠ []) (hcl : cs.length = ks.length + 1) (hl : NodeD.sizeK ks ≤ 10000) (hm : m ≤ 4096) :
  Calls Tryz.prog 298 #[.pointer (some ⟨x, 0, none⟩), nodeV false pv kv cv] w (PartsOut w N (splitN ⟨false, ps, ks, cs⟩ m).1 (splitN ⟨false, ps, ks, cs⟩ m).2.1 (splitN ⟨false, ps, ks, cs⟩ m).2.2) := by
 obtain ⟨pA, pc, kA, kc, cA, cc, rfl, rfl, rfl⟩ := hn.shape
 simp only at hn ⊢
 have hpl := sizeK_ge ks
 have HCLN := Lib.hid hcl
 have hcl2 : ks.length < cs.length := by omega
 have hcl3 : cs.length ≤ ks.length + 1 := by omega
 clear hcl
 have hlen : 0 < ks.length := List.length_pos_iff.2 hne
 obtain ⟨W3, hW3⟩ : ∃ W3, W3 = ((w.alloc (.cells #[.bool false, .slice pA ps.length pc, .slice kA ks.length kc, .slice cA cs.length cc] 200)).alloc (.cells #[.bool false, .slice none 0 0, .slice none 0 0, .slice none 0 0] 200)).alloc (.cells #[.bool false, .slice none 0 0, .slice none 0 0, .slice none 0 0] 200) := ⟨_, rfl⟩
 have ho3 : Only NoB w W3 := by rw [hW3]; exact (((Only.refl NoB w).alloc _).alloc _).alloc _
 have c1 : W3.cell? ⟨x, 1, none⟩ = some (.int .i64 m) := (hx.only ho3 id).cell 1
 rw [hW3] at c1
 have hB : Blk W3 w.heap.size 200 #[.bool false, .slice pA ps.length pc, .slice kA ks.length kc, .slice cA cs.length cc] := by rw [hW3]; exact ((Blk.new w _ _).alloc _).alloc _
 obtain ⟨g0, off0, c0', hve0, _, _, hcell0⟩ := hn.keys.open_ (by show 0 < ks.length * 1; omega)
 have hgc0 := hcell0 0 _ (List.getElem?_eq_getElem (by rw [List.length_map]; exact hlen))
 obtain ⟨g, off, c', hve, _, _, hcell⟩ := (hn.keys.only ho3 fun _ _ => id).open_ (by show 0 < ks.length * 1; omega)
 obtain ⟨g3, off3, c3', hve3, _, _, hcell3⟩ := hn.kids.open_ (by show 0 < cs.length * 1; omega)
 have hg3 : g3 < w.heap.size := World.block_lt_of_cell? _ _ (hcell3 0 _ (List.getElem?_eq_getElem (by rw [List.length_map]; show 0 < cs.length; omega)))
 obtain ⟨g2, off2, c2', hve2, _, _, _⟩ := (hn.kids.only ho3 fun _ _ => id).open_ (by show 0 < cs.length * 1; omega)
 have hg2 : g2 < w.heap.size := by
  rw [hve3] at hve2
  injection hve2 with a1
  injection a1 with a1
  injection a1 with a1
  rw [← a1]; exact hg3
 clear hcell3 hg3 hve3
 injection hve0 with r1 r2 r3
 injection hve with q1 q2 q3
 injection hve2 with s1 s2 s3
 have hgg : g0 = g := by rw [r1] at q1; injection q1 with q1; injection q1
 subst q1; subst q3
 subst s1; subst s3
 rw [hgg] at hgc0
 have hgc := hgc0
 clear hcell0 r1 r2 r3 hgg hgc0
 have HC : Hid (∀ k (hk : k < ks.length), W3.cell? ⟨g, off + k, none⟩ = some (strV ks[k])) := Lib.hid fun k hk => hcell k _ (by rw [List.getElem?_map, List.getElem?_eq_getElem hk]; rfl)
 have hB4 : Blk W3 (w.heap.size + 1) 200 #[.bool false, .slice none 0 0, .slice none 0 0, .slice none 0 0] := by
  rw [hW3]
  have := Blk.new (w.alloc (.cells #[.bool false, .slice pA ps.length pc, .slice (some ⟨g, off, none⟩) ks.length kc, .slice (some ⟨g2, off2, none⟩) cs.length cc] 200)) 200 #[.bool false, .slice none 0 0, .slice none 0 0, .slice none 0 0]
  rw [show (w.alloc (.cells #[.bool false, .slice pA ps.length pc, .slice (some ⟨g, off, none⟩) ks.length kc, .slice (some ⟨g2, off2, none⟩) cs.length cc] 200)).heap.size = w.heap.size + 1 by simp] at this
  exact this.alloc _
 have hB6 : Blk W3 (w.heap.size + 1 + 1) 200 #[.bool false, .slice none 0 0, .slice none 0 0, .slice none 0 0] := by
  rw [hW3]
  have := Blk.new ((w.alloc (.cells #[.bool false, .slice pA ps.length pc, .slice (some ⟨g, off, none⟩) ks.length kc, .slice (some ⟨g2, off2, none⟩) cs.length cc] 200)).alloc (.cells #[.bool false, .slice none 0 0, .slice none 0 0, .slice none 0 0] 200)) 200 #[.bool false, .slice none 0 0, .slice none 0 0, .slice none 0 0]
  rwa [show ((w.alloc (.cells #[.bool false, .slice pA ps.length pc, .slice (some ⟨g, off, none⟩) ks.length kc, .slice (some ⟨g2, off2, none⟩) cs.length cc] 200)).alloc (.cells #[.bool false, .slice none 0 0, .slice none 0 0, .slice none 0 0] 200)).heap.size = w.heap.size + 1 + 1 by simp] at this
 have hgw : g < w.heap.size := World.block_lt_of_cell? _ _ hgc
 have HNG : Hid (∀ q, q = w.heap.size ∨ q = g → q ≠ w.heap.size + 1 ∧ q ≠ w.heap.size + 1 + 1) := Lib.hid fun q hq => by omega
 have HB4 := Lib.hid hB4
 have HB6 := Lib.hid hB6
 have HN := Lib.hid (hn.quit ho3)
 have HB := Lib.hid hB
 have HO3 := Lib.hid ho3
 have HW3 := Lib.hid hW3
 obtain ⟨A, hA⟩ : ∃ A, A = cut (m / 2) (ks.map szK) 0 := ⟨_, rfl⟩
 have HA := Lib.hid hA
 have hAlt : A < ks.length := by
  have := cut_lt (m / 2) (ks.map szK) 0 (by simpa using hne)
  rw [← hA] at this
  simpa using this
 have HNE := Lib.hid hne
 have hkc : ks.length ≤ kc := by obtain ⟨_, _, hv, hc, _⟩ := hn.keys; injection hv
 have hcc : cs.length ≤ cc := by obtain ⟨_, _, hv, hc, _⟩ := hn.kids; injection hv
 have hdv : (m : Int).tdiv 2 = ((m / 2 : Nat) : Int) := by rw [Int.tdiv_eq_ediv_of_nonneg (by omega)]; omega
 clear hn hB hB4 hB6 ho3 hW3 hcell q2 s2 hA hne hx hgc
 unfold nodeV
 go_enter Tryz.func298, Tryz.ntmps298
 go_wp2_with fail
 rw [← HW3.out]
 go_loopw [8, 10] (fun s8 s9 wr => ∃ k : Nat, k ≤ A ∧ s9 = .int .i64 k ∧ s8 = .int .i64 ((((ks.map szK).take k).sum : Nat) : Int) ∧ Only NoB W3 wr) (fun _ s9 _ => A - (intOf s9).toNat)
 case atStart => exact ⟨0, Nat.zero_le _, rfl, by simp, Only.refl _ _⟩
 case round =>
  obtain ⟨k, hk, rfl, rfl, hor⟩ := hrel
  have hst := cut_step (m / 2) (ks.map szK) 0 k (by rw [← HA.out]; exact hk)
  rw [← HA.out, List.length_map, Nat.zero_add] at hst
  have hsl := sum_take_leK ks k
  have hb := HB.out.only hor id
  have n2 : wr.cell? _ = some _ := hb.cell 2
  have n3 : wr.cell? _ = some _ := hb.cell 3
  have HOR := Lib.hid hor
  have HBR := Lib.hid hb
  obtain ⟨S, hS⟩ : ∃ S, S = ((ks.map szK).take k).sum := ⟨_, rfl⟩
  rw [← hS] at hst hsl ⊢
  have HS := Lib.hid hS
  clear hb hor hS
  by_cases hlt : k < A
  ·obtain ⟨h1, h2⟩ := hst.1 hlt
   have hsz := sum_take_szK ks (k := k) (by omega)
   have e1 := HOR.out.cell (HC.out k (by omega)) id
   obtain ⟨a, hab⟩ : ∃ q, q = ks[k] := ⟨_, rfl⟩
   rw [← hab] at e1 hsz
   unfold strV at e1
   rw [← HS.out] at hsz
   have hsz2 := sum_take_leK ks (k + 1)
   rw [hsz] at hsz2
   have HSZ := Lib.hid hsz
   have h3 : (k : Int) < (ks.length : Int) - 1 := by omega
   have h4 : (S : Int) < ((m / 2 : Nat) : Int) := by omega
   have h5 : (k : Int) < (ks.length : Int) := by omega
   have hki2 : k < ks.length := by omega
   clear hst hsz hab
   go_wp2_with fail
   go_roundw
   case rel => exact ⟨k + 1, by omega, by go_num, by rw [HSZ.out]; go_num, HOR.out⟩
   case measure => simp only [intOf]; omega
  ·obtain rfl : k = A := by omega
   have e1 := HOR.out.cell (HC.out k hAlt) id
   obtain ⟨a, ha⟩ : ∃ a, a = ks[k] := ⟨_, rfl⟩
   rw [← ha] at e1
   unfold strV at e1
   have HAK := Lib.hid ha
   have hki2 : k ≤ ks.length := by omega
   have hpk : ¬ (kc = k) := by omega
   have hlt3 : k < ks.length := by omega
   have hki3 : (k : Int) < (ks.length : Int) := by omega
   have hki4 : (k : Int) ≤ (ks.length : Int) := by omega
   have hki5 : (k : Int) ≤ (kc : Int) := by omega
   have hki6 : k ≤ kc := by omega
   have hki7 : (k : Int) ≤ (k : Int) + 1 := by omega
   have hcc1 : ¬ (cc = k + 1) := by omega
   have hcl4 : k + 1 ≤ cs.length := by omega
   have hcc2 : k + 1 ≤ cc := by omega
   have hcc3 : (k : Int) + 1 ≤ (cc : Int) := by omega
   have hcc4 : (k : Int) + 1 ≤ (cs.length : Int) := by omega
   have hcc5 : (k : Int) + 1 ≤ (ks.length : Int) := by omega
   have hcc6 : (0 : Int) ≤ (k : Int) + 1 := by omega
   have htn : ((k : Int) + 1).toNat = k + 1 := by omega
   have hw1 : IntKind.i64.wrap ((k : Int) + 1) = (k : Int) + 1 := by rw [IntKind.wrap_i64]; omega
   have hcase : (¬ (k : Int) < (ks.length : Int) - 1) ∨ ((k : Int) < (ks.length : Int) - 1 ∧ ¬ (S : Int) < ((m / 2 : Nat) : Int)) := by
    by_cases h : k + 1 < ks.length
    ·exact .inr ⟨by omega, fun h2 => hlt (hst.2 ⟨h, by omega⟩)⟩
    ·exact .inl (by omega)
   clear hst ha hlt
   by_cases hkk : kc = k + 1
   ·subst hkk
    have h1 : ¬ (k : Int) < (ks.length : Int) - 1 := by omega
    have HKC := Lib.hid hkc
    clear hcase hkc
    ·
     go_wp2_with fail
     have hb4 := HB4.out.only HOR.out id
     have hb6 := HB6.out.only HOR.out id
     obtain ⟨hs4, hst4⟩ := set4 hb4 (.bool false) (.slice none 0 0) (.slice (some ⟨g, off, none⟩) k (k + 1)) (.slice (some ⟨g2, off2, none⟩) (k + 1) cc)
     have hb6' := hb6.only hst4 (by show ¬ (w.heap.size + 1 + 1 = w.heap.size + 1); omega)
     obtain ⟨hs6, hst6⟩ := set4 hb6' (.bool false) (.slice none 0 0) (.slice (some ⟨g, off, none⟩) 0 0) (.slice (some ⟨g2, off2 + (k + 1), none⟩) (cs.length - (k + 1)) (cc - (k + 1)))
     have x0 := hb4.cell 0
     have x1 := hb4.cell 1
     have x2 := hb4.cell 2
     have x3 := hb4.cell 3
     have y0 := hb4.frozen 0
     have y1 := hb4.frozen 1
     have y2 := hb4.frozen 2
     have y3 := hb4.frozen 3
     have z0 := hb6'.cell 0
     have z1 := hb6'.cell 1
     have z2 := hb6'.cell 2
     have z3 := hb6'.cell 3
     have v0 := hb6'.frozen 0
     have v1 := hb6'.frozen 1
     have v2 := hb6'.frozen 2
     have v3 := hb6'.frozen 3
     have HS4 := Lib.hid hs4
     have HT4 := Lib.hid hst4
     have HS6 := Lib.hid hs6
     have HT6 := Lib.hid hst6
     have HNW : Hid (∀ q, q = w.heap.size ∨ q = g → q ≠ w.heap.size + 1 ∧ q ≠ w.heap.size + 1 + 1) := Lib.hid HNG.out
     clear hb4 hb6 hb6' hs4 hst4 hs6 hst6
     refine _root_.Go.Proofs.YtpjfheadolphgaaGreat.hB _ 29 (fun w' => w'.cell? ⟨w.heap.size, 2, none⟩ = some (.slice (some ⟨g, off, none⟩) ks.length (k + 1)) ∧ w'.cell? ⟨w.heap.size, 3, none⟩ = some (.slice (some ⟨g2, off2, none⟩) cs.length cc) ∧ w'.cell? ⟨g, off + k, none⟩ = some (.string ⟨a.toArray⟩)) (⟨n2, n3, e1⟩) (fun hHeld => ?_)
     refine hT 0 87 ?_
     refine hT 1 88 ?_
     refine hT 2 89 ?_
     refine hT 3 90 ?_
     refine hT 4 91 ?_
     refine hT 5 92 ?_
     refine hT 6 93 ?_
     refine hT 7 94 ?_
     refine hT 8 95 ?_
     refine hT 9 96 ?_
     refine hT 10 97 ?_
     refine hT 11 98 ?_
     refine hT 12 99 ?_
     refine hT 13 100 ?_
     refine hT 14 101 ?_
     refine hT 15 102 ?_
     refine hT 16 103 ?_
     refine hT 17 104 ?_
     refine hT 18 105 ?_
     refine hT 19 106 ?_
     refine hT 20 107 ?_
     refine hT 21 108 ?_
     refine hT 22 109 ?_
     refine hT 23 110 ?_
     refine hT 24 111 ?_
     refine hT 25 112 ?_
     refine hE 26 (fun o ho K hK => ?_)
     cases ho
     go_simp
     skip
     refine hK.out _ _ (⟨HT4.out.drew.cell n2 (HNW.out _ (.inl rfl)).1, HT4.out.drew.cell n3 (HNW.out _ (.inl rfl)).1, HT4.out.drew.cell e1 (HNW.out _ (.inr rfl)).1⟩) (fun hHeld => ?_)
     clear hK K
     try simp only [Act.put, List.setIfInBounds_toArray, List.set_cons_zero, List.set_cons_succ]
     refine hT 27 5 ?_
     refine hE 28 (fun o ho K hK => ?_)
     cases ho
     go_simp
     skip
     refine hK.out _ _ (⟨HT6.out.drew.cell (HT4.out.cell n2 (HNW.out _ (.inl rfl)).1) (HNW.out _ (.inl rfl)).2, HT6.out.drew.cell (HT4.out.cell n3 (HNW.out _ (.inl rfl)).1) (HNW.out _ (.inl rfl)).2, HT6.out.drew.cell (HT4.out.cell e1 (HNW.out _ (.inr rfl)).1) (HNW.out _ (.inr rfl)).2⟩) (fun hHeld => ?_)
     clear hK K
     try simp only [Act.put, List.setIfInBounds_toArray, List.set_cons_zero, List.set_cons_succ]
     refine wpAnyH_done (by kernel_rfl) ?_ _
     refine NoPanic.normal ?_
     go_wp2_with fail
     (try simp only [Exit.inBlock, Exit.then])
     have hb4 := (HS4.out.only HT6.out (by show ¬ (w.heap.size + 1 = w.heap.size + 1 + 1); omega)).drew
     have hb6 := HS6.out.drew
     refine bodyPost_ret (results_row_tmp_row rfl _ _ (w.heap.size + 1) (w.heap.size + 1 + 1) 200 200 _ _ rfl hb4 (by kernel_rfl) (by kernel_rfl) rfl hb6 (by kernel_rfl) (by kernel_rfl)) rfl ?_
     have hon : Only NoB w _ := (only_new (only_new (HO3.out.trans HOR.out) HT4.out fun q hq => by omega) HT6.out fun q hq => by omega).drew
     have hpk := (HN.out.keys.only HOR.out fun _ _ => id).at_
     have hpc := (HN.out.kids.only HOR.out fun _ _ => id).at_
     have hlk := ((hpk.only HT4.out fun q hq h => (HNW.out q (.inr hq.1)).1 h).only HT6.out fun q hq h => (HNW.out q (.inr hq.1)).2 h).only (Only.refl NoB _).drew fun _ _ => id
     have hlc := ((hpc.only HT4.out fun q hq h => by have h1 : q = w.heap.size + 1 := h; have := hq.1; omega).only HT6.out fun q hq h => by have h1 : q = w.heap.size + 1 + 1 := h; have := hq.1; omega).only (Only.refl NoB _).drew fun _ _ => id
     exact parts_in hlk hlc hlt3 hcl4 HA.out HAK.out hon (.slice (some ⟨g, off, none⟩) 0 0) (Rd.none_ (by have h0 := HKC.out; omega) (by have h0 := HKC.out; simp; omega))
   ·rcases hcase with h1 | ⟨h1, h2⟩
    all_goals
     go_wp2_with fail
     have hb4 := HB4.out.only HOR.out id
     have hb6 := HB6.out.only HOR.out id
     obtain ⟨hs4, hst4⟩ := set4 hb4 (.bool false) (.slice none 0 0) (.slice (some ⟨g, off, none⟩) k kc) (.slice (some ⟨g2, off2, none⟩) (k + 1) cc)
     have hb6' := hb6.only hst4 (by show ¬ (w.heap.size + 1 + 1 = w.heap.size + 1); omega)
     obtain ⟨hs6, hst6⟩ := set4 hb6' (.bool false) (.slice none 0 0) (.slice (some ⟨g, off + (k + 1), none⟩) (ks.length - (k + 1)) (kc - (k + 1))) (.slice (some ⟨g2, off2 + (k + 1), none⟩) (cs.length - (k + 1)) (cc - (k + 1)))
     have x0 := hb4.cell 0
     have x1 := hb4.cell 1
     have x2 := hb4.cell 2
     have x3 := hb4.cell 3
     have y0 := hb4.frozen 0
     have y1 := hb4.frozen 1
     have y2 := hb4.frozen 2
     have y3 := hb4.frozen 3
     have z0 := hb6'.cell 0
     have z1 := hb6'.cell 1
     have z2 := hb6'.cell 2
     have z3 := hb6'.cell 3
     have v0 := hb6'.frozen 0
     have v1 := hb6'.frozen 1
     have v2 := hb6'.frozen 2
     have v3 := hb6'.frozen 3
     have HS4 := Lib.hid hs4
     have HT4 := Lib.hid hst4
     have HS6 := Lib.hid hs6
     have HT6 := Lib.hid hst6
     have HNW : Hid (∀ q, q = w.heap.size ∨ q = g → q ≠ w.heap.size + 1 ∧ q ≠ w.heap.size + 1 + 1) := Lib.hid HNG.out
     clear hb4 hb6 hb6' hs4 hst4 hs6 hst6
     refine _root_.Go.Proofs.YtpjfheadolphgaaGreat.hB _ 29 (fun w' => w'.cell? ⟨w.heap.size, 2, none⟩ = some (.slice (some ⟨g, off, none⟩) ks.length kc) ∧ w'.cell? ⟨w.heap.size, 3, none⟩ = some (.slice (some ⟨g2, off2, none⟩) cs.length cc) ∧ w'.cell? ⟨g, off + k, none⟩ = some (.string ⟨a.toArray⟩)) (⟨n2, n3, e1⟩) (fun hHeld => ?_)
     refine hT 0 87 ?_
     refine hT 1 88 ?_
     refine hT 2 89 ?_
     refine hT 3 90 ?_
     refine hT 4 91 ?_
     refine hT 5 92 ?_
     refine hT 6 93 ?_
     refine hT 7 94 ?_
     refine hT 8 95 ?_
     refine hT 9 96 ?_
     refine hT 10 97 ?_
     refine hT 11 98 ?_
     refine hT 12 99 ?_
     refine hT 13 100 ?_
     refine hT 14 101 ?_
     refine hT 15 102 ?_
     refine hT 16 103 ?_
     refine hT 17 104 ?_
     refine hT 18 105 ?_
     refine hT 19 106 ?_
     refine hT 20 107 ?_
     refine hT 21 108 ?_
     refine hT 22 109 ?_
     refine hT 23 110 ?_
     refine hT 24 111 ?_
     refine hT 25 112 ?_
     refine hE 26 (fun o ho K hK => ?_)
     cases ho
     go_simp
     skip
     refine hK.out _ _ (⟨HT4.out.drew.cell n2 (HNW.out _ (.inl rfl)).1, HT4.out.drew.cell n3 (HNW.out _ (.inl rfl)).1, HT4.out.drew.cell e1 (HNW.out _ (.inr rfl)).1⟩) (fun hHeld => ?_)
     clear hK K
     try simp only [Act.put, List.setIfInBounds_toArray, List.set_cons_zero, List.set_cons_succ]
     refine hT 27 5 ?_
     refine hE 28 (fun o ho K hK => ?_)
     cases ho
     go_simp
     skip
     refine hK.out _ _ (⟨HT6.out.drew.cell (HT4.out.cell n2 (HNW.out _ (.inl rfl)).1) (HNW.out _ (.inl rfl)).2, HT6.out.drew.cell (HT4.out.cell n3 (HNW.out _ (.inl rfl)).1) (HNW.out _ (.inl rfl)).2, HT6.out.drew.cell (HT4.out.cell e1 (HNW.out _ (.inr rfl)).1) (HNW.out _ (.inr rfl)).2⟩) (fun hHeld => ?_)
     clear hK K
     try simp only [Act.put, List.setIfInBounds_toArray, List.set_cons_zero, List.set_cons_succ]
     refine wpAnyH_done (by kernel_rfl) ?_ _
     refine NoPanic.normal ?_
     go_wp2_with fail
     (try simp only [Exit.inBlock, Exit.then])
     have hb4 := (HS4.out.only HT6.out (by show ¬ (w.heap.size + 1 = w.heap.size + 1 + 1); omega)).drew
     have hb6 := HS6.out.drew
     refine bodyPost_ret (results_row_tmp_row rfl _ _ (w.heap.size + 1) (w.heap.size + 1 + 1) 200 200 _ _ rfl hb4 (by kernel_rfl) (by kernel_rfl) rfl hb6 (by kernel_rfl) (by kernel_rfl)) rfl ?_
     have hon : Only NoB w _ := (only_new (only_new (HO3.out.trans HOR.out) HT4.out fun q hq => by omega) HT6.out fun q hq => by omega).drew
     have hpk := (HN.out.keys.only HOR.out fun _ _ => id).at_
     have hpc := (HN.out.kids.only HOR.out fun _ _ => id).at_
     have hlk := ((hpk.only HT4.out fun q hq h => (HNW.out q (.inr hq.1)).1 h).only HT6.out fun q hq h => (HNW.out q (.inr hq.1)).2 h).only (Only.refl NoB _).drew fun _ _ => id
     have hlc := ((hpc.only HT4.out fun q hq h => by have h1 : q = w.heap.size + 1 := h; have := hq.1; omega).only HT6.out fun q hq h => by have h1 : q = w.heap.size + 1 + 1 := h; have := hq.1; omega).only (Only.refl NoB _).drew fun _ _ => id
     exact parts_in hlk hlc hlt3 hcl4 HA.out HAK.out hon (.slice (some ⟨g, off + (k + 1), none⟩) (ks.length - (k + 1)) (kc - (k + 1))) (by have h1 := (hlk.drop_ (k := k + 1) hlt3).mono (G := N) fun q hq _ => hq.2; simp only [Nat.mul_one] at h1; exact h1)
end
end Go.Proofs.YtpjfheadolphgaaGreat
namespace Go.Proofs.YtpjfheadolphgaaGreat
open Go.RowKit Go.Proofs
set_option maxRecDepth 20000
section
variable {w w' : World} {F N K : Nat → Prop} {X : XC} {t x p r c h m : Nat} {D D' : PD} {n : NodeD} {v pv kv cv : Value} {M ps : List KV} {key : Str} {ks : List Str} {cs : List Nat}
theorem split_ok (hx : Blk w x 212 #[.pointer (some ⟨t, 0, none⟩), .int .i64 m]) (hn : NodeR w N pv kv cv n) (hs : Parts n) (hm : m ≤ 4096) :
  Calls Tryz.prog 298 #[.pointer (some ⟨x, 0, none⟩), nodeV n.leaf pv kv cv] w (PartsOut w N (splitN n m).1 (splitN n m).2.1 (splitN n m).2.2) := by
 obtain ⟨l, ps, ks, cs⟩ := n
 rcases hs with ⟨h1, h2, h3, h4, h5⟩ | ⟨h1, h2, h3, h4⟩
 ·simp only at h1 h2 h3 h4 h5
  subst h1; subst h4; subst h5
  exact split_lf hx hn h2 h3 hm
 ·simp only at h1 h2 h3 h4
  subst h1
  exact split_in hx hn h2 h3 h4 hm
def partV (q : Str × Nat) : Value := .agg #[strV q.1, natV q.2]
theorem take_of {r : Nat} (hr : D.free (D.own + 1) (D.n - (D.own + 1)) = some r) : D.take = (takeD r D, (r, 0)) := by unfold PD.take; rw [hr]; rfl
theorem set2 {w : World} {o : Nat} {ty : TypeId} {z0 z1 : Value} (hB : Blk w o ty #[z0, z1]) (a b : Value) :
  Blk ((w.setCell ⟨o, 0, none⟩ a).setCell ⟨o, 1, none⟩ b) o ty #[a, b] ∧ Only (fun k => k = o) w ((w.setCell ⟨o, 0, none⟩ a).setCell ⟨o, 1, none⟩ b) :=
 ⟨(hB.set_ 0 a).set_ 1 b, ((Only.refl (fun k => k = o) w).setCell (p := ⟨o, 0, none⟩) (.inl rfl) a).setCell (p := ⟨o, 1, none⟩) (.inl rfl) b⟩
theorem TreeAt.beside {o : Nat} (h : TreeAt w F X x t D) (ho : Only (fun k => k = o) w w') (hF : ¬ F o) (hx : x ≠ o) : TreeAt w' F X x t D :=
 ⟨TxQ.only h.tx ho fun k hk e => hF (e ▸ hk), h.blk.only ho hx, h.out, h.m⟩
theorem only_at {w0 : World} {o : Nat} (h : Only F w0 w) (h6 : Only (fun k => k = o) w w') (ho : w0.heap.size ≤ o) : Only F w0 w' := h.trans' h6 fun i hi hk => by omega
set_option maxHeartbeats 2000000 in
theorem settle_ok (h : TreeAt w F X x t D) (hp : D.is p = true) (hu : D.used p = true) (hn : NodeR w N pv kv cv n) (hf : FitsD D n) (hN : ∀ k, N k → ¬ F k) :
  Calls Tryz.prog 245 #[.pointer (some ⟨x, 0, none⟩), .int .i64 p, nodeV n.leaf pv kv cv] w (DeedX w F X x t (.tuple #[partV (settleD p n D).2, .int .i64 0]) (settleD p n D).1) := by
 obtain ⟨pA, pc, kA, kc, cA, cc, rfl, rfl, rfl⟩ := hn.shape
 obtain ⟨W2, hW2⟩ : ∃ W2, W2 = (w.alloc (.cells #[.bool n.leaf, .slice pA n.pairs.length pc, .slice kA n.keys.length kc, .slice cA n.children.length cc] 200)).alloc (.cells #[.string ⟨#[]⟩, .int .i64 0] 215) := ⟨_, rfl⟩
 have ho2 : Only NoB w W2 := by rw [hW2]; exact ((Only.refl NoB w).alloc _).alloc _
 have hs2 : W2.heap.size = w.heap.size + 1 + 1 := by rw [hW2]; simp
 have hB : Blk W2 w.heap.size 200 #[.bool n.leaf, .slice pA n.pairs.length pc, .slice kA n.keys.length kc, .slice cA n.children.length cc] := by rw [hW2]; exact (Blk.new w _ _).alloc _
 have hP : Blk W2 (w.heap.size + 1) 215 #[.string ⟨#[]⟩, .int .i64 0] := by
  rw [hW2]
  have := Blk.new (w.alloc (.cells #[.bool n.leaf, .slice pA n.pairs.length pc, .slice kA n.keys.length kc, .slice cA n.children.length cc] 200)) 215 #[.string ⟨#[]⟩, .int .i64 0]
  rwa [show (w.alloc (.cells #[.bool n.leaf, .slice pA n.pairs.length pc, .slice kA n.keys.length kc, .slice cA n.children.length cc] 200)).heap.size = w.heap.size + 1 by simp] at this
 have h2 := h.quit ho2
 have hsl : n.size ≤ 100000 := by rcases hf with hf | hf; (· have := hf.1.size; have := h.mle; omega); (· exact hf.2.1)
 have hFw : ∀ k, w.heap.size ≤ k → ¬ F k := fun k hk hf => by have := h.tx.1 _ hf; omega
 have HFW := Lib.hid hFw
 have HND := Lib.hid hN
 have HSZ := Lib.hid (nsize_any ((hn.quit ho2).quit (Only.refl NoB W2).drew) (by omega))
 have c1 : W2.cell? ⟨x, 1, none⟩ = some (.int .i64 D.m) := h2.blk.cell 1
 have b0 : W2.cell? _ = some _ := hB.cell 0
 have b1 : W2.cell? _ = some _ := hB.cell 1
 have b2 : W2.cell? _ = some _ := hB.cell 2
 have b3 : W2.cell? _ = some _ := hB.cell 3
 have hxl : x ≠ w.heap.size + 1 := fun e => by have := h.blk.lt; omega
 have HXL := Lib.hid hxl
 have H2 := Lib.hid h2
 have HB := Lib.hid hB
 have HPB := Lib.hid hP
 have HO2 := Lib.hid ho2
 have HS2 := Lib.hid hs2
 have HN := Lib.hid (hn.quit ho2)
 have HW2 := Lib.hid hW2
 have HF := Lib.hid hf
 have HM := Lib.hid h.mle
 have HPI := Lib.hid hp
 have HPU := Lib.hid hu
 clear h h2 hB hP ho2 hs2 hn hW2 hf hp hu hFw hxl hN
 unfold nodeV
 go_enter Tryz.func245, Tryz.ntmps245
 go_wp2_with fail
 rw [← HW2.out]
 refine _root_.Go.Proofs.YtpjfheadolphgaaGreat.hB _ 7 (fun w' => (w'.cell? ⟨w.heap.size, 0, none⟩ = some (.bool n.leaf) ∧ w'.cell? ⟨w.heap.size, 1, none⟩ = some (.slice pA n.pairs.length pc) ∧ w'.cell? ⟨w.heap.size, 2, none⟩ = some (.slice kA n.keys.length kc) ∧ w'.cell? ⟨w.heap.size, 3, none⟩ = some (.slice cA n.children.length cc)) ∧ w'.cell? ⟨x, 1, none⟩ = some (.int .i64 D.m)) (⟨⟨b0, b1, b2, b3⟩, c1⟩) (fun hHeld => ?_)
 refine hT 0 13 ?_
 refine hT 2 15 ?_
 refine hT 3 16 ?_
 refine hT 4 17 ?_
 refine hT 5 18 ?_
 refine hE 1 (fun o ho K hK => ?_)
 cases ho
 go_simp
 refine HSZ.out.mono ?_
 rintro e w3 ⟨rfl, ho3⟩
 have ho : Only NoB W2 w3 := (Only.refl NoB W2).drew.trans ho3
 clear ho3
 refine hK.out _ _ (⟨⟨ho.cell b0 id, ho.cell b1 id, ho.cell b2 id, ho.cell b3 id⟩, ho.cell c1 id⟩) (fun hHeld => ?_)
 clear hK K
 try simp only [Act.put, List.setIfInBounds_toArray, List.set_cons_zero, List.set_cons_succ]
 refine hT 6 19 ?_
 refine wpAnyH_done (by kernel_rfl) ?_ _
 refine NoPanic.normal ?_
 have H3 := Lib.hid (H2.out.quit ho)
 have HO3 := Lib.hid ho
 have HN3 := Lib.hid (HN.out.quit ho)
 have b0 := ho.cell b0 id
 have b1 := ho.cell b1 id
 have b2 := ho.cell b2 id
 have b3 := ho.cell b3 id
 have HP3 := Lib.hid (HPB.out.only ho id)
 clear c1 ho
 rcases HF.out with ⟨hok, hne⟩ | hsp
 ·have hle : n.size ≤ D.m := hok.size
  have HS := Lib.hid (save_ok H3.out HPI.out HPU.out HN3.out hok hne)
  have HLE := Lib.hid hle
  unfold nodeV at HS
  clear hok hne
  go_wp2_with fail
  refine HS.out.mono ?_
  rintro e w4 ⟨rfl, F4, hx4, ho4, hg4⟩
  have hF4 : ∀ k, w.heap.size ≤ k → k < w3.heap.size → ¬ F4 k := fun k hk hk2 hf => by
   rcases hg4 k hf with h1 | h1
   ·exact HFW.out k hk h1
   ·omega
  have hpb := HP3.out.only ho4 (HFW.out _ (by omega))
  have o0 := hpb.cell 0
  have o1 := hpb.cell 1
  have p0 := hpb.frozen 0
  have p1 := hpb.frozen 1
  have HPB4 := Lib.hid hpb
  have HX4 := Lib.hid hx4
  have HO4 := Lib.hid ho4
  have HG4 := Lib.hid hg4
  have HF4 := Lib.hid hF4
  clear hpb hx4 ho4 hg4 hF4 b0 b1 b2 b3
  go_wp2_with fail
  (try simp only [Exit.inBlock, Exit.then])
  obtain ⟨hbf, hst⟩ := set2 HPB4.out (.string ⟨#[]⟩) (.int .i64 0)
  refine bodyPost_ret (results_row_tmp rfl _ _ (w.heap.size + 1) 215 _ rfl hbf (by kernel_rfl) (by kernel_rfl)) rfl ?_
  clear o0 o1 p0 p1
  rw [settle_le HLE.out]
  have hsz := (HO3.out).size
  have hs2 := HS2.out
  refine ⟨rfl, F4, HX4.out.beside hst (HF4.out _ (by omega) (by omega)) HXL.out, only_at (((HO2.out.trans HO3.out).mono fun _ _ h => h.elim).trans HO4.out) hst (by omega), fun k hk => (HG4.out k hk).imp id fun h => by omega⟩
 ·obtain ⟨hgt, _, hprt, ⟨r, hr⟩, oka, nea, okb, neb⟩ := hsp
  have hle : ¬ n.size ≤ D.m := by omega
  have hso := split_ok H3.out.blk HN3.out hprt HM.out
  have hset := settle_gt (c := p) hle (take_of hr)
  obtain ⟨⟨na, ky, nb⟩, hq⟩ : ∃ q, q = splitN n D.m := ⟨_, rfl⟩
  rw [← hq] at hso hset oka nea okb neb
  simp only at hso hset oka nea okb neb
  have HSET := Lib.hid hset
  have HSP := Lib.hid hso
  clear hso hset hq
  have HLE := Lib.hid hle
  have HHR := Lib.hid hr
  have HOA := Lib.hid oka
  have HNA := Lib.hid nea
  have HOB := Lib.hid okb
  have HNB := Lib.hid neb
  have hgt2 : D.m < n.size := hgt
  unfold nodeV at HSP
  clear hgt hprt hr oka nea okb neb hle
  go_wp2_with fail
  refine HSP.out.mono ?_
  rintro e w4 ⟨pa, ka, ca, pb, kb, cb, rfl, hna, hnb, ho4⟩
  obtain ⟨pAa, pca, kAa, kca, cAa, cca, rfl, rfl, rfl⟩ := hna.shape
  obtain ⟨pAb, pcb, kAb, kcb, cAb, ccb, rfl, rfl, rfl⟩ := hnb.shape
  have HAR := Lib.hid hna
  have HBR := Lib.hid hnb
  have HO4 := Lib.hid ho4
  clear hna hnb ho4 b0 b1 b2 b3
  unfold nodeV strV
  go_wp2_with fail
  obtain ⟨W6, hW6⟩ : ∃ W6, W6 = (w4.alloc (.cells #[.bool na.leaf, .slice pAa na.pairs.length pca, .slice kAa na.keys.length kca, .slice cAa na.children.length cca] 200)).alloc (.cells #[.bool nb.leaf, .slice pAb nb.pairs.length pcb, .slice kAb nb.keys.length kcb, .slice cAb nb.children.length ccb] 200) := ⟨_, rfl⟩
  rw [← hW6]
  have ho6 : Only NoB w4 W6 := by rw [hW6]; exact ((Only.refl NoB w4).alloc _).alloc _
  have hs6 : W6.heap.size = w4.heap.size + 1 + 1 := by rw [hW6]; simp
  have hA6 : Blk W6 w4.heap.size 200 #[.bool na.leaf, .slice pAa na.pairs.length pca, .slice kAa na.keys.length kca, .slice cAa na.children.length cca] := by rw [hW6]; exact (Blk.new w4 _ _).alloc _
  have h46 : Only NoB w3 W6 := HO4.out.trans ho6
  have hsz3 := HO3.out.size
  have hsz4 := HO4.out.size
  have hs2 := HS2.out
  have hF3 : ∀ k, w.heap.size ≤ k → ¬ F k := HFW.out
  have hfr := fresh_ok (H3.out.quit h46) HHR.out HND.out (HBR.out.quit ho6) HOB.out HNB.out
  unfold nodeV at hfr
  refine hfr.mono ?_
  clear hfr
  rintro e w7 ⟨rfl, F7, hx7, ho7, hg7⟩
  have hFo : ∀ k, w.heap.size ≤ k → k < W6.heap.size → ¬ F7 k := fun k hk hk2 hf => by
   rcases hg7 k hf with h1 | h1
   ·exact hF3 k hk h1
   ·omega
  obtain ⟨r1, r2, r3, r4⟩ := PD.free_some HHR.out
  have hpi7 : (PD.putPage r (nb.bytes D.m) (takeD r D)).is p = true := HPI.out
  have hpu7 : (PD.putPage r (nb.bytes D.m) (takeD r D)).used p = true := by
   show (if p = r then true else D.used p) = true
   rw [HPU.out]; simp
  have hsv := save_ok hx7 hpi7 hpu7 ((HAR.out.quit ho6).only ho7 HND.out) HOA.out HNA.out
  have hA7 := hA6.only ho7 (hF3 _ (by omega))
  have hP7 := (HP3.out.only h46 id).only ho7 (hF3 _ (by omega))
  have d0 : w7.cell? _ = some _ := hA7.cell 0
  have d1 : w7.cell? _ = some _ := hA7.cell 1
  have d2 : w7.cell? _ = some _ := hA7.cell 2
  have d3 : w7.cell? _ = some _ := hA7.cell 3
  unfold nodeV at hsv
  have HSV := Lib.hid hsv
  have HP7 := Lib.hid hP7
  have HO7 := Lib.hid ho7
  have HG7 := Lib.hid hg7
  have HFO := Lib.hid hFo
  have H46 := Lib.hid h46
  have HS6 := Lib.hid hs6
  clear hsv hP7 hA7 ho7 hg7 hFo h46 hs6 hx7 hpi7 hpu7 r1 r2 r3 r4 hF3 hA6 ho6 hW6 hs2 hsz3 hsz4
  go_wp2_with fail
  refine HSV.out.mono ?_
  rintro e w8 ⟨rfl, F8, hx8, ho8, hg8⟩
  have hsz3 := HO3.out.size
  have hsz4 := HO4.out.size
  have hs2 := HS2.out
  have hs6 := HS6.out
  have hsz7 := HO7.out.size
  have hF7 := HFO.out _ (show w.heap.size ≤ w.heap.size + 1 by omega) (by omega)
  have hF8 : ¬ F8 (w.heap.size + 1) := fun hf => by
   rcases hg8 _ hf with h1 | h1
   ·exact hF7 h1
   ·omega
  have hpb := HP7.out.only ho8 hF7
  have o0 := hpb.cell 0
  have o1 := hpb.cell 1
  have p0 := hpb.frozen 0
  have p1 := hpb.frozen 1
  have HPB8 := Lib.hid hpb
  have HE : Hid (TreeAt w8 F8 X x t (settleD p n D).1 ∧ ¬ F8 (w.heap.size + 1) ∧ Only F w w8 ∧ Grows F F8 w) := Lib.hid ⟨by rw [HSET.out]; exact hx8, hF8,
   (((HO2.out.trans (HO3.out.trans H46.out)).mono fun _ _ h => h.elim).trans HO7.out).trans' ho8 fun i hi hk => (HG7.out i hk).elim id fun h => by omega,
   fun k hk => by
    rcases hg8 k hk with h1 | h1
    ·rcases HG7.out k h1 with h2 | h2
     ·exact .inl h2
     ·exact .inr (by omega)
    ·exact .inr (by omega)⟩
  clear hpb hx8 ho8 hg8 hF8 hF7 hsz3 hsz4 hs2 hs6 hsz7 d0 d1 d2 d3
  go_wp2_with fail
  (try simp only [Exit.inBlock, Exit.then])
  obtain ⟨hbf, hst⟩ := set2 HPB8.out (.string ⟨ky.toArray⟩) (.int .i64 r)
  refine bodyPost_ret (results_row_tmp rfl _ _ (w.heap.size + 1) 215 _ rfl hbf (by kernel_rfl) (by kernel_rfl)) rfl ?_
  clear o0 o1 p0 p1
  obtain ⟨e1, e2, e3, e4⟩ := HE.out
  refine ⟨by rw [HSET.out]; rfl, F8, e1.beside hst e2 HXL.out, only_at e3 hst (by omega), e4⟩
end
end Go.Proofs.YtpjfheadolphgaaGreat
namespace Go.Proofs.YtpjfheadolphgaaGreat
open Go.RowKit Go.Proofs
set_option maxRecDepth 20000
theorem results_tmp_row_tmp {P : Program} {fn : Func} {p u q : Tmp} {ty : TypeId} (h : fn.results = #[.tmp q, .cell p ty, .tmp u]) (tmps : Array Value) (w : World) (g : Nat) (t : TypeId) (cs : Array Value)
  (hp : tmps.getD p undef = .pointer (some ⟨g, 0, none⟩)) (hg : Blk w g t cs) (hu : (match P.underlying ty with | some (.struct _) | some (.array _ _) => true | _ => false) = true) (hi : (P.info? ty).map (·.size) = some cs.size) :
  (results fn tmps).run P w = .ok (.tuple #[tmps.getD q undef, .agg cs, tmps.getD u undef]) w := by
 have h1 := run_loadVar_blk (P := P) w g t cs hg hu hi
 have hp' : tmps[p]?.getD undef = .pointer (some ⟨g, 0, none⟩) := by simpa using hp
 simp [results, h, hp', asAddr, Result.andThen, h1]
section
variable {w w' : World} {F G N K : Nat → Prop} {X : XC} {t x p r c h m k n : Nat} {D D' : PD} {v pv kv cv : Value} {M ps : List KV} {key va : Str} {ks : List Str} {cs : List Nat} {hi : Option Str} {e : Ent}
theorem Rd.zero {size : Nat} (h : Rd w F size v 0 []) : Rd w' G size v 0 [] := by
 obtain ⟨A, c, hv, hc, hl, hx⟩ := h
 exact ⟨A, c, hv, hc, hl, fun h => by omega⟩
theorem pairL_set : ∀ (ps : List KV) (i : Nat) (p : KV), pairL (ps.set i p) = ((pairL ps).set (i * 2) (strV p.1)).set (i * 2 + 1) (strV p.2)
 | [], i, p => by simp [pairL]
 | q :: ps, 0, p => by simp [pairL]
 | q :: ps, i + 1, p => by rw [List.set_cons_succ, show (i + 1) * 2 = i * 2 + 1 + 1 by omega]; simp [pairL, pairL_set ps i p]
theorem pairL_ins (ps : List KV) (i : Nat) (p : KV) : pairL (insAt ps i p) = (pairL ps).take (i * 2) ++ [strV p.1, strV p.2] ++ (pairL ps).drop (i * 2) := by
 unfold insAt
 rw [pairL_append, pairL, ← pairL_takeN, ← pairL_dropN]
 simp
theorem own_set_pair {ty : TypeId} {i : Nat} (h : Own w F ty 2 v n (pairL ps)) (hi : i < ps.length) (hn : n = ps.length) :
  ∃ g c, v = .slice (some ⟨g, 0, none⟩) n c ∧ F g ∧ n ≤ c ∧ (∃ u, w.cell? ⟨g, i * 2, none⟩ = some u) ∧ (∃ u, w.cell? ⟨g, i * 2 + 1, none⟩ = some u) ∧ w.frozen? ⟨g, i * 2, none⟩ = false ∧ w.frozen? ⟨g, i * 2 + 1, none⟩ = false ∧
   ∀ a b : Str, Own ((w.setCell ⟨g, i * 2, none⟩ (.string ⟨a.toArray⟩)).setCell ⟨g, i * 2 + 1, none⟩ (.string ⟨b.toArray⟩)) F ty 2 v n (pairL (ps.set i (a, b))) ∧ Only (fun k => k = g) w ((w.setCell ⟨g, i * 2, none⟩ (.string ⟨a.toArray⟩)).setCell ⟨g, i * 2 + 1, none⟩ (.string ⟨b.toArray⟩)) := by
 obtain ⟨g, c, cs, rfl, hnc, hF, hB, hcs, hx, hcell, hset⟩ := h.open_ (by omega)
 obtain ⟨p1, p2⟩ := pairL_get (List.getElem?_eq_getElem hi)
 refine ⟨g, c, rfl, hF, hnc, ⟨_, hcell _ _ p1⟩, ⟨_, hcell _ _ p2⟩, hB.frozen _, hB.frozen _, fun a b => ⟨?_, ?_⟩⟩
 ·have h1 := hset (i * 2) (strV a)
  obtain ⟨g', c', cs', hv, _, _, _, _, _, _, hset2⟩ := h1.open_ (by omega)
  injection hv with q1 q2 q3
  injection q1 with q1
  injection q1 with q1
  subst q1
  rw [pairL_set]
  exact hset2 _ _
 ·exact ((Only.refl (fun k => k = g) w).setCell (p := ⟨g, i * 2, none⟩) (.inl rfl) _).setCell (p := ⟨g, i * 2 + 1, none⟩) (.inl rfl) _
def PutOut (w : World) (F : Nat → Prop) (X : XC) (x t : Nat) (D : PD) (h : Nat) (e : Ent) (hi : Option Str) (key va : Str) (k : Nat) (en : Ending) (w' : World) : Prop :=
 ∃ L part D' F', en = .returned (.tuple #[.bool (get key e.M).isSome, partV part, .int .i64 0]) ∧ MadeT D D' h e.lo e.c hi (ins key va e.M) e.P (e.wt + 2) k L part ∧ TreeAt w' F' X x t D' ∧ Only F w w' ∧ Grows F F' w
structure PutMid (w : World) (F : Nat → Prop) (X : XC) (x t : Nat) (D : PD) (ps : List KV) (o : Nat) (pv kv cv : Value) (W : World) : Prop where
 tree : TreeAt W F X x t D
 rd : Rd W (From (w.heap.size + 1 + 1)) 2 pv ps.length (pairL ps)
 node : Blk W o 200 #[.bool true, pv, kv, cv]
 part : Blk W (w.heap.size + 1) 215 #[.string ⟨#[]⟩, .int .i64 0]
 only : Only F w W
 out : o < W.heap.size ∧ w.heap.size + 1 < o
theorem TreeAt.far {S : Nat → Prop} (h : TreeAt w F X x t D) (ho : Only S w w') (hF : ∀ k, F k → ¬ S k) (hx : ¬ S x) : TreeAt w' F X x t D := ⟨TxQ.only h.tx ho hF, h.blk.only ho hx, h.out, h.m⟩
set_option maxHeartbeats 2000000 in
theorem put_lf (h : TreeAt w F X x t D) (hg : Good D) (hs : Sub D 0 e hi) (hp : PairOk D.m (key, va)) (hlo : les e.lo key) (hb : bel key hi) (hh : Held D e.P) (hf : FreeGE D (k + e.f)) :
  Calls Tryz.prog 147 #[.pointer (some ⟨x, 0, none⟩), .int .i64 e.c, .agg #[strV key, strV va]] w (PutOut w F X x t D 0 e hi key va k) := by
 have HPL := Lib.hid (put_leaf hg hs hp hlo hb hh hf)
 have hsrt := (sub_facts hs).srt
 obtain ⟨o1, o2, o3, o4, o5, o6⟩ := hs
 have his := hh.is e.c (by rw [o5]; simp)
 have hus := hh.used e.c (by rw [o5]; simp)
 obtain ⟨W2, hW2⟩ : ∃ W2, W2 = (w.alloc (.cells #[.string ⟨key.toArray⟩, .string ⟨va.toArray⟩] 83)).alloc (.cells #[.string ⟨#[]⟩, .int .i64 0] 215) := ⟨_, rfl⟩
 have ho2 : Only NoB w W2 := by rw [hW2]; exact ((Only.refl NoB w).alloc _).alloc _
 have hs2 : W2.heap.size = w.heap.size + 1 + 1 := by rw [hW2]; simp
 have hBp : Blk W2 w.heap.size 83 #[.string ⟨key.toArray⟩, .string ⟨va.toArray⟩] := by rw [hW2]; exact (Blk.new w _ _).alloc _
 have hBt : Blk W2 (w.heap.size + 1) 215 #[.string ⟨#[]⟩, .int .i64 0] := by
  rw [hW2]
  have := Blk.new (w.alloc (.cells #[.string ⟨key.toArray⟩, .string ⟨va.toArray⟩] 83)) 215 #[.string ⟨#[]⟩, .int .i64 0]
  rwa [show (w.alloc (.cells #[.string ⟨key.toArray⟩, .string ⟨va.toArray⟩] 83)).heap.size = w.heap.size + 1 by simp] at this
 have h2 := h.quit ho2
 have hld := load_ok h2 his hus o4 o1 (fun _ => o2)
 have hFw : ∀ k, w.heap.size ≤ k → ¬ F k := fun k hk hf => by have := h.tx.1 _ hf; omega
 have hpl : e.M.length ≤ 4096 := by
  have h1 := o1.size
  have h2 := sizeP_ge e.M
  have h3 : (leafN e.M).size = 3 + 3 * 0 + NodeD.sizeP e.M + 0 := rfl
  have := h.mle
  omega
 have HFW := Lib.hid hFw
 have HLD := Lib.hid hld
 have HBP := Lib.hid hBp
 have HBT := Lib.hid hBt
 have HO2 := Lib.hid ho2
 have HS2 := Lib.hid hs2
 have HW2 := Lib.hid hW2
 have HIS := Lib.hid his
 have HUS := Lib.hid hus
 have HSR := Lib.hid hsrt
 have HXL := Lib.hid h.blk.lt
 clear h hg hp hlo hb hh hf o1 o2 o3 o4 o5 o6 his hus hFw hld hBp hBt ho2 hs2 hW2 h2 hsrt
 unfold strV
 go_enter Tryz.func147, Tryz.ntmps147
 go_wp2_with fail
 rw [← HW2.out]
 refine HLD.out.mono ?_
 rintro e3 w3 ⟨pv, kv, cv, rfl, hnd, hx3, ho3⟩
 obtain ⟨pA, pc, kA, kc, cA, cc, rfl, rfl, rfl⟩ := hnd.r.shape
 have hnd : NodeO w3 (From W2.heap.size) (.slice pA e.M.length pc) (.slice kA 0 kc) (.slice cA 0 cc) (leafN e.M) := hnd
 obtain ⟨W4, hW4⟩ : ∃ W4, W4 = w3.alloc (.cells #[.bool true, .slice pA e.M.length pc, .slice kA 0 kc, .slice cA 0 cc] 200) := ⟨_, rfl⟩
 have ho4 : Only NoB w3 W4 := by rw [hW4]; exact (Only.refl NoB w3).alloc _
 have hs4 : W4.heap.size = w3.heap.size + 1 := by rw [hW4]; simp
 have hB4 : Blk W4 w3.heap.size 200 #[.bool true, .slice pA e.M.length pc, .slice kA 0 kc, .slice cA 0 cc] := by rw [hW4]; exact Blk.new w3 _ _
 have hP4 := (HBP.out.only ho3 (HFW.out _ (Nat.le_refl _))).only ho4 id
 have hpl2 : Calls Tryz.prog 139 #[nodeV true (.slice pA e.M.length pc) (.slice kA 0 kc) (.slice cA 0 cc), .string ⟨key.toArray⟩] W4 (PlaceOut ⟨true, e.M, [], []⟩ key W4) := (place_leaf (key := key) (ps := e.M) (ks := []) (cs := []) (hnd.quit ho4).r HSR.out (by omega))
 have HPC := Lib.hid hpl2
 have HND := Lib.hid hnd
 have HX3 := Lib.hid hx3
 have HO3 := Lib.hid ho3
 have HO4 := Lib.hid ho4
 have HS4 := Lib.hid hs4
 have HB4 := Lib.hid hB4
 have HP4 := Lib.hid hP4
 have HW4 := Lib.hid hW4
 rw [hW4] at hP4
 have k0 := hP4.cell 0
 clear hpl2 hnd hx3 ho3 ho4 hs4 hB4 hP4 hW4
 unfold nodeV leafN
 go_wp2_with fail
 rw [← HW4.out]
 refine HPC.out.mono ?_
 rintro e5 w5 ⟨i, is, hpp, _, rfl, ho5⟩
 have hpp : PlaceP e.M key i is := hpp rfl
 have HGT := Lib.hid (placeP_get hpp)
 have hins := ins_place (v := va) hpp
 have hil : i ≤ e.M.length ∧ (is = true → i < e.M.length) := by
  obtain ⟨a, b, hab, rfl, _, hb⟩ := hpp
  rw [hab, List.length_append]
  refine ⟨by omega, fun ht => ?_⟩
  rw [ht, if_pos rfl] at hb
  obtain ⟨v, c, rfl, _⟩ := hb
  simp
 have hown : Own w5 (From W2.heap.size) 83 2 (.slice pA e.M.length pc) e.M.length (pairL e.M) := (HND.out.pairs.only HO4.out fun _ _ => id).only ho5 fun _ _ => id
 have hsz3 := HO3.out.size
 have hs2 := HS2.out
 have hs4 := HS4.out
 have hsz5 := ho5.size
 have hb9 := HB4.out.only ho5 id
 have hbp := HP4.out.only ho5 id
 have hbt := ((HBT.out.only HO3.out (HFW.out _ (by omega))).only HO4.out id).only ho5 id
 have hx5 := (HX3.out.quit HO4.out).quit ho5
 have hon5 : Only F w w5 := ((HO2.out.mono fun _ _ h => h.elim).trans HO3.out).trans ((HO4.out.trans ho5).mono fun _ _ h => h.elim)
 have hkz : Rd w3 (From W2.heap.size) 1 (.slice kA 0 kc) 0 [] := HND.out.keys.rd
 have hcz : Rd w3 (From W2.heap.size) 1 (.slice cA 0 cc) 0 [] := HND.out.kids.rd
 have HKZ := Lib.hid hkz
 have HCZ := Lib.hid hcz
 have HINS := Lib.hid hins
 have HX5 := Lib.hid hx5
 have HON5 := Lib.hid hon5
 have HBT5 := Lib.hid hbt
 have HXL2 := HXL.out
 clear hkz hcz hins hpp hx5 hon5 hbt
 cases is with
 | true =>
  have hi := hil.2 rfl
  obtain ⟨g, c, hv, hFg, hnc, ⟨u0, hu0⟩, ⟨u1, hu1⟩, z0, z1, hset⟩ := own_set_pair hown hi rfl
  obtain ⟨hown', hst⟩ := hset key va
  injection hv with q1 q2 q3
  subst q1; subst q3
  have hg3 : g < w3.heap.size := HND.out.pairs.lt rfl
  have hFg : W2.heap.size ≤ g := hFg
  have hb9' := hb9.only hst (by show ¬ (w3.heap.size = g); omega)
  have HM : Hid (PutMid w F X x t D (ins key va e.M) w3.heap.size (.slice (some ⟨g, 0, none⟩) e.M.length pc) (.slice kA 0 kc) (.slice cA 0 cc) _) := Lib.hid
   ⟨HX5.out.beside hst (HFW.out _ (by omega)) (by omega), by rw [HINS.out, if_pos rfl, List.length_set, ← hs2]; exact hown'.rd, hb9', HBT5.out.only hst (by show ¬ (w.heap.size + 1 = g); omega), only_at HON5.out hst (by omega), by have := hst.size; omega, by omega⟩
  have m1 : w5.cell? _ = some _ := hb9.cell 1
  have m0 : w5.cell? _ = some _ := hb9.cell 0
  have j0 : w5.cell? _ = some _ := hbp.cell 0
  have j1 : w5.cell? _ = some _ := hbp.cell 1
  have n0 := hb9'.cell 0
  have n1 := hb9'.cell 1
  have n2 := hb9'.cell 2
  have n3 := hb9'.cell 3
  have hii : (i : Int) < (e.M.length : Int) := by omega
  have hi0 : (0 : Int) ≤ (i : Int) := by omega
  clear hset hown' hst hb9' hown hb9 hbp hil q2 hsz3 hs2 hs4 hsz5 hg3 hFg
  go_wp2_with fail
  obtain ⟨W, hW⟩ : ∃ W, W = (w5.setCell ⟨g, i * 2, none⟩ (.string ⟨key.toArray⟩)).setCell ⟨g, i * 2 + 1, none⟩ (.string ⟨va.toArray⟩) := ⟨_, rfl⟩
  rw [← hW] at HM ⊢
  clear hW n0 n1 n2 n3 m0 m1 j0 j1 hu0 hu1 z0 z1 k0 hii hi0
  have hm := HM.out
  have hfit := HPL.out.1
  obtain ⟨L, hL⟩ := HPL.out.2
  have hnr : NodeR W (From (w.heap.size + 1 + 1)) (.slice (some ⟨g, 0, none⟩) e.M.length pc) (.slice kA 0 kc) (.slice cA 0 cc) (leafN (ins key va e.M)) := ⟨hm.rd, HKZ.out.zero, HCZ.out.zero⟩
  have hse := settle_ok (n := leafN (ins key va e.M)) (p := e.c) hm.tree HIS.out HUS.out hnr hfit (fun k hk hf => HFW.out k (by unfold From at hk; omega) hf)
  obtain ⟨⟨D', pk, pg⟩, hq⟩ : ∃ q, q = settleD e.c (leafN (ins key va e.M)) D := ⟨_, rfl⟩
  rw [← hq] at hse hL
  simp only at hse hL
  unfold nodeV partV strV natV at hse
  simp only [leafN] at hse
  have HSE := Lib.hid hse
  have HL := Lib.hid hL
  have HM2 := Lib.hid hm
  clear hse hL hm hfit hnr hq
  refine HSE.out.mono ?_
  rintro e8 w8 ⟨rfl, F8, hx8, ho8, hg8⟩
  have hm := HM2.out
  have hout := hm.out
  have hsz8 := ho8.size
  have hF8 : ¬ F8 (w.heap.size + 1) := fun hf => by
   rcases hg8 _ hf with h1 | h1
   ·exact HFW.out _ (by omega) h1
   ·omega
  obtain ⟨W9, hW9⟩ : ∃ W9, W9 = w8.alloc (.cells #[.string ⟨pk.toArray⟩, .int .i64 pg] 215) := ⟨_, rfl⟩
  have ho9 : Only NoB w8 W9 := by rw [hW9]; exact (Only.refl NoB w8).alloc _
  have hB13 : Blk W9 w8.heap.size 215 #[.string ⟨pk.toArray⟩, .int .i64 pg] := by rw [hW9]; exact Blk.new w8 _ _
  have hb7 := (hm.part.only ho8 (HFW.out _ (by omega))).only ho9 id
  obtain ⟨hs7, hst7⟩ := set2 hb7 (.string ⟨pk.toArray⟩) (.int .i64 pg)
  have HE : Hid (TreeAt W9 F8 X x t D' ∧ ¬ F8 (w.heap.size + 1) ∧ Only F w W9 ∧ Grows F F8 w) := Lib.hid
   ⟨hx8.quit ho9, hF8, (hm.only.trans ho8).trans (ho9.mono fun _ _ h => h.elim), fun k hk => (hg8 k hk).imp id fun h => by omega⟩
  have HNE : Hid (¬ (w8.heap.size = w.heap.size + 1)) := Lib.hid (by omega)
  have n0 : W9.cell? _ = some _ := hB13.cell 0
  have n1 : W9.cell? _ = some _ := hB13.cell 1
  have x0 := hb7.cell 0
  have x1 := hb7.cell 1
  have y0 := hb7.frozen 0
  have y1 := hb7.frozen 1
  have HS7 := Lib.hid hs7
  have HT7 := Lib.hid hst7
  have HW9 := Lib.hid hW9
  clear hm hout hsz8 hF8 ho9 hB13 hb7 hs7 hst7 hW9 hx8 ho8 hg8
  go_wp2_with fail
  rw [← HW9.out]
  refine _root_.Go.Proofs.YtpjfheadolphgaaGreat.hB _ 6 (fun w' => w'.cell? ⟨w8.heap.size, 0, none⟩ = some (.string ⟨pk.toArray⟩) ∧ w'.cell? ⟨w8.heap.size, 1, none⟩ = some (.int .i64 pg)) (⟨n0, n1⟩) (fun hHeld => ?_)
  refine hT 0 57 ?_
  refine hT 1 58 ?_
  refine hT 2 59 ?_
  refine hT 3 6 ?_
  refine hE 4 (fun o ho K hK => ?_)
  cases ho
  go_simp
  skip
  refine hK.out _ _ (⟨HT7.out.drew.cell n0 HNE.out, HT7.out.drew.cell n1 HNE.out⟩) (fun hHeld => ?_)
  clear hK K
  try simp only [Act.put, List.setIfInBounds_toArray, List.set_cons_zero, List.set_cons_succ]
  refine hT 5 8 ?_
  refine wpAnyH_done (by kernel_rfl) ?_ _
  refine NoPanic.normal ?_
  go_wp2_with fail
  (try simp only [Exit.inBlock, Exit.then])
  refine bodyPost_ret (results_tmp_row_tmp rfl _ _ (w.heap.size + 1) 215 _ rfl HS7.out.drew (by kernel_rfl) (by kernel_rfl)) rfl ?_
  obtain ⟨e1, e2, e3, e4⟩ := HE.out
  refine ⟨L, (pk, pg), D', F8, ?_, HL.out, e1.beside HT7.out.drew e2 (by have := HXL.out; omega), only_at e3 HT7.out.drew (by omega), e4⟩
  rw [HGT.out]; rfl
 | false =>
  obtain ⟨W6, hW6⟩ : ∃ W6, W6 = w5.alloc (.cells #[.string ⟨key.toArray⟩, .string ⟨va.toArray⟩] 83) := ⟨_, rfl⟩
  have ho6 : Only NoB w5 W6 := by rw [hW6]; exact (Only.refl NoB w5).alloc _
  have hs6 : W6.heap.size = w5.heap.size + 1 := by rw [hW6]; simp
  have hB6 : Blk W6 w5.heap.size 83 #[.string ⟨key.toArray⟩, .string ⟨va.toArray⟩] := by rw [hW6]; exact Blk.new w5 _ _
  have hgl : ∀ g, (Value.slice pA e.M.length pc).ownBlock = some g → W2.heap.size ≤ g ∧ g < w3.heap.size := fun g hg => ⟨HND.out.pairs.2 g hg, HND.out.pairs.lt hg⟩
  have hic := ins_pair (i := i) (hown.only ho6 fun _ _ => id) (by omega) hil.1 (news := [.string ⟨key.toArray⟩, .string ⟨va.toArray⟩]) hB6 (fun he => by have := hgl _ he; omega) rfl (by simp [Value.oneCell']) (oneCell_pairs e.M)
  have HIC := Lib.hid hic
  have HW6 := Lib.hid hW6
  have HO6 := Lib.hid ho6
  have HS6 := Lib.hid hs6
  have HGL := Lib.hid hgl
  have HB9 := Lib.hid hb9
  have m1 : w5.cell? _ = some _ := hb9.cell 1
  have m0 : w5.cell? _ = some _ := hb9.cell 0
  have j0 : w5.cell? _ = some _ := hbp.cell 0
  have j1 : w5.cell? _ = some _ := hbp.cell 1
  clear hic hW6 ho6 hs6 hB6 hgl hown hb9 hbp hil hsz3 hs2 hs4 hsz5
  go_wp2_with fail
  rw [← HW6.out]
  refine HIC.out.mono ?_
  rintro e7 w7 ⟨v', rfl, hown7, ho7⟩
  obtain ⟨A', c', rfl, _⟩ := hown7.shape
  have hsz3 := HO3.out.size
  have hs2 := HS2.out
  have hs4 := HS4.out
  have hs6 := HS6.out
  have hgl := HGL.out
  have hsz5 : w3.heap.size < w5.heap.size := HB9.out.lt
  have hsz7 := ho7.size
  have hb9 := (HB9.out.only HO6.out id).only ho7 fun he => by have := hgl _ he; omega
  have hb9' := hb9.set_ 1 (.slice A' (e.M.length + 1) c')
  have hst : Only (fun k => k = w3.heap.size) w7 (w7.setCell ⟨w3.heap.size, 1, none⟩ (.slice A' (e.M.length + 1) c')) := (Only.refl (fun k => k = w3.heap.size) w7).setCell (p := ⟨w3.heap.size, 1, none⟩) (.inl rfl) (.slice A' (e.M.length + 1) c')
  have hrd : Rd (w7.setCell ⟨w3.heap.size, 1, none⟩ (.slice A' (e.M.length + 1) c')) (From (w.heap.size + 1 + 1)) 2 (.slice A' (e.M.length + 1) c') (ins key va e.M).length (pairL (ins key va e.M)) := by
   have h1 := hown7.rd.only hst fun k hk he => by
    have he : k = w3.heap.size := he
    rcases hk with hk | hk
    ·have := hgl _ hk; omega
    ·omega
   rw [HINS.out, if_neg (by simp), pairL_ins]
   have h2 : (insAt e.M i (key, va)).length = e.M.length + 1 := by simp [insAt]; omega
   rw [h2]
   exact h1.mono fun k hk _ => by
    rcases hk with hk | hk
    ·have := hgl _ hk; unfold From; omega
    ·unfold From; omega
  have hF9 := HFW.out w3.heap.size (by omega)
  have HM : Hid (PutMid w F X x t D (ins key va e.M) w3.heap.size (.slice A' (e.M.length + 1) c') (.slice kA 0 kc) (.slice cA 0 cc) _) := Lib.hid
   ⟨(((HX5.out.quit HO6.out).far ho7 (fun k hk he => by have := hgl _ he; exact HFW.out k (by omega) hk) (fun he => by have := hgl _ he; omega)).beside hst hF9 (by omega)),
    hrd, hb9', ((HBT5.out.only HO6.out id).only ho7 fun he => by have := hgl _ he; omega).only hst (by show ¬ (w.heap.size + 1 = w3.heap.size); omega),
    only_at ((HON5.out.trans (HO6.out.mono fun _ _ h => h.elim)).trans' ho7 fun k hk he => by have := hgl _ he; omega) hst (by omega), by have := hst.size; omega, by omega⟩
  have m1 : w7.cell? _ = some _ := hb9.cell 1
  have p1 := hb9.frozen 1
  have n0 := hb9'.cell 0
  have n1 := hb9'.cell 1
  have n2 := hb9'.cell 2
  have n3 := hb9'.cell 3
  clear m0 j0 j1 k0 hsz3 hs2 hs4 hs6 hgl hsz5 hsz7 hb9 hb9' hst hrd hF9 hown7 ho7
  go_wp2_with fail
  obtain ⟨W, hW⟩ : ∃ W, W = w7.setCell ⟨w3.heap.size, 1, none⟩ (.slice A' (e.M.length + 1) c') := ⟨_, rfl⟩
  rw [← hW] at HM ⊢
  clear hW n0 n1 n2 n3 m1 p1
  have hm := HM.out
  have hfit := HPL.out.1
  obtain ⟨L, hL⟩ := HPL.out.2
  have hnr : NodeR W (From (w.heap.size + 1 + 1)) (.slice A' (e.M.length + 1) c') (.slice kA 0 kc) (.slice cA 0 cc) (leafN (ins key va e.M)) := ⟨hm.rd, HKZ.out.zero, HCZ.out.zero⟩
  have hse := settle_ok (n := leafN (ins key va e.M)) (p := e.c) hm.tree HIS.out HUS.out hnr hfit (fun k hk hf => HFW.out k (by unfold From at hk; omega) hf)
  obtain ⟨⟨D', pk, pg⟩, hq⟩ : ∃ q, q = settleD e.c (leafN (ins key va e.M)) D := ⟨_, rfl⟩
  rw [← hq] at hse hL
  simp only at hse hL
  unfold nodeV partV strV natV at hse
  simp only [leafN] at hse
  have HSE := Lib.hid hse
  have HL := Lib.hid hL
  have HM2 := Lib.hid hm
  clear hse hL hm hfit hnr hq
  refine HSE.out.mono ?_
  rintro e8 w8 ⟨rfl, F8, hx8, ho8, hg8⟩
  have hm := HM2.out
  have hout := hm.out
  have hsz8 := ho8.size
  have hF8 : ¬ F8 (w.heap.size + 1) := fun hf => by
   rcases hg8 _ hf with h1 | h1
   ·exact HFW.out _ (by omega) h1
   ·omega
  obtain ⟨W9, hW9⟩ : ∃ W9, W9 = w8.alloc (.cells #[.string ⟨pk.toArray⟩, .int .i64 pg] 215) := ⟨_, rfl⟩
  have ho9 : Only NoB w8 W9 := by rw [hW9]; exact (Only.refl NoB w8).alloc _
  have hB13 : Blk W9 w8.heap.size 215 #[.string ⟨pk.toArray⟩, .int .i64 pg] := by rw [hW9]; exact Blk.new w8 _ _
  have hb7 := (hm.part.only ho8 (HFW.out _ (by omega))).only ho9 id
  obtain ⟨hs7, hst7⟩ := set2 hb7 (.string ⟨pk.toArray⟩) (.int .i64 pg)
  have HE : Hid (TreeAt W9 F8 X x t D' ∧ ¬ F8 (w.heap.size + 1) ∧ Only F w W9 ∧ Grows F F8 w) := Lib.hid
   ⟨hx8.quit ho9, hF8, (hm.only.trans ho8).trans (ho9.mono fun _ _ h => h.elim), fun k hk => (hg8 k hk).imp id fun h => by omega⟩
  have HNE : Hid (¬ (w8.heap.size = w.heap.size + 1)) := Lib.hid (by omega)
  have n0 : W9.cell? _ = some _ := hB13.cell 0
  have n1 : W9.cell? _ = some _ := hB13.cell 1
  have x0 := hb7.cell 0
  have x1 := hb7.cell 1
  have y0 := hb7.frozen 0
  have y1 := hb7.frozen 1
  have HS7 := Lib.hid hs7
  have HT7 := Lib.hid hst7
  have HW9 := Lib.hid hW9
  clear hm hout hsz8 hF8 ho9 hB13 hb7 hs7 hst7 hW9 hx8 ho8 hg8
  go_wp2_with fail
  rw [← HW9.out]
  refine _root_.Go.Proofs.YtpjfheadolphgaaGreat.hB _ 6 (fun w' => w'.cell? ⟨w8.heap.size, 0, none⟩ = some (.string ⟨pk.toArray⟩) ∧ w'.cell? ⟨w8.heap.size, 1, none⟩ = some (.int .i64 pg)) (⟨n0, n1⟩) (fun hHeld => ?_)
  refine hT 0 57 ?_
  refine hT 1 58 ?_
  refine hT 2 59 ?_
  refine hT 3 6 ?_
  refine hE 4 (fun o ho K hK => ?_)
  cases ho
  go_simp
  skip
  refine hK.out _ _ (⟨HT7.out.drew.cell n0 HNE.out, HT7.out.drew.cell n1 HNE.out⟩) (fun hHeld => ?_)
  clear hK K
  try simp only [Act.put, List.setIfInBounds_toArray, List.set_cons_zero, List.set_cons_succ]
  refine hT 5 8 ?_
  refine wpAnyH_done (by kernel_rfl) ?_ _
  refine NoPanic.normal ?_
  go_wp2_with fail
  (try simp only [Exit.inBlock, Exit.then])
  refine bodyPost_ret (results_tmp_row_tmp rfl _ _ (w.heap.size + 1) 215 _ rfl HS7.out.drew (by kernel_rfl) (by kernel_rfl)) rfl ?_
  obtain ⟨e1, e2, e3, e4⟩ := HE.out
  refine ⟨L, (pk, pg), D', F8, ?_, HL.out, e1.beside HT7.out.drew e2 (by have := HXL.out; omega), only_at e3 HT7.out.drew (by omega), e4⟩
  rw [HGT.out]; rfl
end
end Go.Proofs.YtpjfheadolphgaaGreat
namespace Go.Proofs.YtpjfheadolphgaaGreat
open Go.RowKit Go.Proofs
set_option maxRecDepth 20000
section
variable {w w' : World} {F G N K : Nat → Prop} {X : XC} {t x p r c h m k n : Nat} {D D' : PD} {v pv kv cv : Value} {M ps : List KV} {key va : Str} {ks : List Str} {cs : List Nat} {hi : Option Str} {e : Ent}
def PutHyp (X : XC) (x t : Nat) (key va : Str) (h : Nat) : Prop := ∀ (w : World) (F : Nat → Prop) (D : PD) (e : Ent) (hi : Option Str) (k : Nat), TreeAt w F X x t D → Good D → Sub D h e hi → PairOk D.m (key, va) → les e.lo key → bel key hi → Held D e.P → FreeGE D (k + e.f) →
  Calls Tryz.prog 147 #[.pointer (some ⟨x, 0, none⟩), .int .i64 e.c, .agg #[strV key, strV va]] w (PutOut w F X x t D h e hi key va k)
theorem strs_ins (ks : List Str) (i : Nat) (s : Str) : (insAt ks i s).map strV = (ks.map strV).take i ++ [strV s] ++ (ks.map strV).drop i := by
 unfold insAt; simp
theorem nats_ins (cs : List Nat) (i : Nat) (c : Nat) : (insAt cs i c).map natV = (cs.map natV).take i ++ [natV c] ++ (cs.map natV).drop i := by
 unfold insAt; simp
def PutCall (w5 : World) (F : Nat → Prop) (X : XC) (x t : Nat) (D : PD) (h : Nat) (xx : Ent) (hi : Option Str) (key va : Str) (k : Nat) (s15 s16 s10 : Value) (wc : World) : Prop :=
 ∃ L pk pg D1 F6 o, s15 = .bool (get key xx.M).isSome ∧ s16 = .pointer (some ⟨o, 0, none⟩) ∧ s10 = .int .i64 0 ∧ MadeT D D1 h xx.lo xx.c hi (ins key va xx.M) xx.P (xx.wt + 2) k L (pk, pg) ∧ TreeAt wc F6 X x t D1 ∧ Only F w5 wc ∧ Grows F F6 w5 ∧
  Blk wc o 215 #[.string ⟨pk.toArray⟩, .int .i64 pg] ∧ ¬ F6 o ∧ w5.heap.size ≤ o
set_option maxHeartbeats 2000000 in
theorem put_in (ih : PutHyp X x t key va h) (htr : TreeAt w F X x t D) (hg : Good D) (hs : Sub D (h + 1) e hi) (hp : PairOk D.m (key, va)) (hlo : les e.lo key) (hb : bel key hi) (hh : Held D e.P) (hf : FreeGE D (k + e.f)) :
  Calls Tryz.prog 147 #[.pointer (some ⟨x, 0, none⟩), .int .i64 e.c, .agg #[strV key, strV va]] w (PutOut w F X x t D (h + 1) e hi key va k) := by
 obtain ⟨x0, es, hI⟩ := sub_in hs
 obtain ⟨P, hP⟩ := sub_c hs
 have his := hh.is e.c (by rw [hP]; simp)
 have hus := hh.used e.c (by rw [hP]; simp)
 obtain ⟨W2, hW2⟩ : ∃ W2, W2 = (w.alloc (.cells #[.string ⟨key.toArray⟩, .string ⟨va.toArray⟩] 83)).alloc (.cells #[.string ⟨#[]⟩, .int .i64 0] 215) := ⟨_, rfl⟩
 have ho2 : Only NoB w W2 := by rw [hW2]; exact ((Only.refl NoB w).alloc _).alloc _
 have hs2 : W2.heap.size = w.heap.size + 1 + 1 := by rw [hW2]; simp
 have hBp : Blk W2 w.heap.size 83 #[.string ⟨key.toArray⟩, .string ⟨va.toArray⟩] := by rw [hW2]; exact (Blk.new w _ _).alloc _
 have hBt : Blk W2 (w.heap.size + 1) 215 #[.string ⟨#[]⟩, .int .i64 0] := by
  rw [hW2]
  have := Blk.new (w.alloc (.cells #[.string ⟨key.toArray⟩, .string ⟨va.toArray⟩] 83)) 215 #[.string ⟨#[]⟩, .int .i64 0]
  rwa [show (w.alloc (.cells #[.string ⟨key.toArray⟩, .string ⟨va.toArray⟩] 83)).heap.size = w.heap.size + 1 by simp] at this
 have h2 := htr.quit ho2
 have hld := load_ok (n := innerN (x0 :: es)) h2 his hus hI.page hI.ok (fun h => by cases h)
 have hFw : ∀ k, w.heap.size ≤ k → ¬ F k := fun k hk hf => by have := htr.tx.1 _ hf; omega
 have hkl := ok_keys hI.ok htr.mle
 have HKL := Lib.hid hkl
 have HFW := Lib.hid hFw
 have HLD := Lib.hid hld
 have HBP := Lib.hid hBp
 have HBT := Lib.hid hBt
 have HO2 := Lib.hid ho2
 have HS2 := Lib.hid hs2
 have HW2 := Lib.hid hW2
 have HIS := Lib.hid his
 have HUS := Lib.hid hus
 have HII := Lib.hid hI
 have HXL := Lib.hid htr.blk.lt
 have HGD := Lib.hid hg
 have HPK := Lib.hid hp
 have HLO := Lib.hid hlo
 have HBL := Lib.hid hb
 have HHD := Lib.hid hh
 have HFR := Lib.hid hf
 have HIH := Lib.hid ih
 have HML := Lib.hid htr.mle
 clear htr hg hp hlo hb hh hf his hus hFw hld hBp hBt ho2 hs2 hW2 h2 hI hP hs ih hkl
 unfold strV
 go_enter Tryz.func147, Tryz.ntmps147
 go_wp2_with fail
 rw [← HW2.out]
 refine HLD.out.mono ?_
 rintro e3 w3 ⟨pv, kv, cv, rfl, hnd, hx3, ho3⟩
 obtain ⟨pA, pc, kA, kc, cA, cc, rfl, rfl, rfl⟩ := hnd.r.shape
 obtain ⟨nks, hnks⟩ : ∃ l, l = (innerN (x0 :: es)).keys := ⟨_, rfl⟩
 obtain ⟨ncs, hncs⟩ : ∃ l, l = (innerN (x0 :: es)).children := ⟨_, rfl⟩
 have hnd : NodeO w3 (From W2.heap.size) (.slice pA 0 pc) (.slice kA nks.length kc) (.slice cA ncs.length cc) ⟨false, [], nks, ncs⟩ := by rw [hnks, hncs]; exact hnd
 obtain ⟨W4, hW4⟩ : ∃ W4, W4 = w3.alloc (.cells #[.bool false, .slice pA 0 pc, .slice kA nks.length kc, .slice cA ncs.length cc] 200) := ⟨_, rfl⟩
 have ho4 : Only NoB w3 W4 := by rw [hW4]; exact (Only.refl NoB w3).alloc _
 have hs4 : W4.heap.size = w3.heap.size + 1 := by rw [hW4]; simp
 have hB4 : Blk W4 w3.heap.size 200 #[.bool false, .slice pA 0 pc, .slice kA nks.length kc, .slice cA ncs.length cc] := by rw [hW4]; exact Blk.new w3 _ _
 have hP4 := (HBP.out.only ho3 (HFW.out _ (Nat.le_refl _))).only ho4 id
 have hpl2 : Calls Tryz.prog 139 #[nodeV false (.slice pA 0 pc) (.slice kA nks.length kc) (.slice cA ncs.length cc), .string ⟨key.toArray⟩] W4 (PlaceOut ⟨false, [], nks, ncs⟩ key W4) := place_inner (key := key) (hnd.quit ho4).r (by rw [hnks]; exact HII.out.ok.rise) (by rw [hnks]; have := HKL.out.1; omega)
 have HPC := Lib.hid hpl2
 have HND := Lib.hid hnd
 have HX3 := Lib.hid hx3
 have HO3 := Lib.hid ho3
 have HO4 := Lib.hid ho4
 have HS4 := Lib.hid hs4
 have HB4 := Lib.hid hB4
 have HP4 := Lib.hid hP4
 have HW4 := Lib.hid hW4
 have HNKS := Lib.hid hnks
 have HNCS := Lib.hid hncs
 rw [hW4] at hP4
 have k0 := hP4.cell 0
 have hnl : (innerN (x0 :: es)).keys.length = nks.length := by rw [hnks]
 have hncl : (innerN (x0 :: es)).children.length = ncs.length := by rw [hncs]
 unfold nodeV
 rw [hnl, hncl]
 clear hpl2 hnd hx3 ho3 ho4 hs4 hB4 hP4 hW4 hnks hncs hnl hncl
 rw [show (innerN (x0 :: es)).leaf = false from rfl, show (innerN (x0 :: es)).pairs.length = 0 from rfl]
 go_wp2_with fail
 rw [← HW4.out]
 refine HPC.out.mono ?_
 rintro e5 w5 ⟨i, is, _, hpp, rfl, ho5⟩
 have hpp : PlaceK nks key i := hpp rfl
 obtain ⟨e1, xx, e2, har, hi1⟩ := around HII.out.chain (by rw [HII.out.lo]; exact HLO.out) HBL.out (by rw [HNKS.out] at hpp; simpa [innerN] using hpp)
 have hch := HII.out.chain
 rw [har.eq, chain_append] at hch
 have hxs : Sub D h xx (nxt hi e2) := hch.2.1
 have hnci : ncs[i]? = some xx.c := by
  rw [HNCS.out]
  show ((x0 :: es).map Ent.c)[i]? = _
  rw [har.eq, ← hi1]; simp
 have hheld : Held D xx.P := by
  have h1 := HHD.out
  rw [HII.out.P] at h1
  exact (mid_held har.eq h1).1.mid
 have hfull : e.f = full (innerN (x0 :: es)) D.m + (sumF e1 + (xx.f + sumF e2)) := by rw [HII.out.f, har.eq, sumF_append, sumF_cons]
 have hown := (HND.out.kids.only HO4.out fun _ _ => id).only ho5 fun _ _ => id
 have hx5 := (HX3.out.quit HO4.out).quit ho5
 have hcall : ∀ w', Only NoB w5 w' → _ := fun w' (ho : Only NoB w5 w') => HIH.out w' F D xx (nxt hi e2) (k + full (innerN (x0 :: es)) D.m + sumF e1 + sumF e2) (hx5.quit ho) HGD.out hxs HPK.out har.lo har.bel hheld (HFR.out.mono (by omega))
 have hil := (List.getElem?_eq_some_iff.1 hnci).1
 obtain ⟨g, off, c', hve, _, hFg, hcell⟩ := hown.rd.open_ (by show 0 < ncs.length * 1; omega)
 injection hve with q1 q2 q3
 subst q1; subst q3
 have c1 := hcell i (natV xx.c) (by rw [List.getElem?_map, hnci]; rfl)
 have hb9 := HB4.out.only ho5 id
 have hbp := HP4.out.only ho5 id
 have n3 : w5.cell? _ = some _ := hb9.cell 3
 have m0 : w5.cell? _ = some _ := hb9.cell 0
 have hsz3 := HO3.out.size
 have hs2 := HS2.out
 have hFg2 : W2.heap.size ≤ g := hFg
 have HLE : Hid (w.heap.size ≤ w3.heap.size ∧ w.heap.size ≤ g) := Lib.hid ⟨by omega, by omega⟩
 clear hFg2 hs2 hsz3
 have k0 : w5.cell? _ = some _ := hbp.cell 0
 have k1 : w5.cell? _ = some _ := hbp.cell 1
 have hii : (i : Int) < (ncs.length : Int) := by omega
 have hi0 : (0 : Int) ≤ (i : Int) := by omega
 unfold natV at c1
 have HCALL := Lib.hid hcall
 have HB9 := Lib.hid hb9
 have HX5 := Lib.hid hx5
 have HO5 := Lib.hid ho5
 have HAR := Lib.hid har
 have HI1 := Lib.hid hi1
 have HIL := Lib.hid hil
 have HNG : Hid (W2.heap.size ≤ g) := Lib.hid hFg
 clear hpp hch hxs hnci hheld hfull hown hx5 hcall hcell hb9 hbp ho5 har hi1 hFg q2
 have hFn : ¬ F w5.heap.size := HFW.out _ (by have := HB9.out.lt; have := HLE.out.1; omega)
 have HFN := Lib.hid hFn
 clear hFn
 go_upto_region 11 with fail
 go_cut [15, 16, 10] (fun s15 s16 s10 wc => PutCall w5 F X x t D h xx (nxt hi e2) key va (k + full (innerN (x0 :: es)) D.m + sumF e1 + sumF e2) s15 s16 s10 wc)
 case first =>
  refine hB _ 16 (fun w' => w'.cell? ⟨w3.heap.size, 3, none⟩ = some (.slice (some ⟨g, off, none⟩) ncs.length cc) ∧ w'.cell? ⟨g, off + i, none⟩ = some (.int .i64 xx.c) ∧ w'.cell? ⟨w.heap.size, 0, none⟩ = some (.string ⟨key.toArray⟩) ∧ w'.cell? ⟨w.heap.size, 1, none⟩ = some (.string ⟨va.toArray⟩)) (⟨n3, c1, k0, k1⟩) (fun hHeld => ?_)
  refine _root_.Go.Proofs.YtpjfheadolphgaaGreat.hT 0 61 ?_
  refine _root_.Go.Proofs.YtpjfheadolphgaaGreat.hT 1 62 ?_
  refine _root_.Go.Proofs.YtpjfheadolphgaaGreat.hT 2 63 ?_
  refine _root_.Go.Proofs.YtpjfheadolphgaaGreat.hT 3 64 ?_
  refine _root_.Go.Proofs.YtpjfheadolphgaaGreat.hT 4 65 ?_
  refine _root_.Go.Proofs.YtpjfheadolphgaaGreat.hT 5 66 ?_
  refine _root_.Go.Proofs.YtpjfheadolphgaaGreat.hT 6 67 ?_
  refine hE2 7 12 (fun o ho K hK => ?_) (fun o ho K hK => ?_)
  ·cases ho
   go_simp
   refine (HCALL.out _ (Only.refl NoB w5).drew).mono ?_
   rintro e6 w6 ⟨L, ⟨pk, pg⟩, D1, F6, rfl, hL, hx6, ho6, hg6⟩
   have ho6 : Only F w5 w6 := ((Only.refl NoB w5).drew.mono fun _ _ h => h.elim).trans ho6
   have HL := Lib.hid hL
   clear hL
   unfold partV strV natV
   refine hK.out _ _ (⟨ho6.cell n3 (HFW.out _ HLE.out.1), ho6.cell c1 (HFW.out _ HLE.out.2), ho6.cell k0 (HFW.out _ (Nat.le_refl _)), ho6.cell k1 (HFW.out _ (Nat.le_refl _))⟩) (fun hHeld => ?_)
   clear hK K
   try simp only [Act.put, List.setIfInBounds_toArray, List.set_cons_zero, List.set_cons_succ]
   refine _root_.Go.Proofs.YtpjfheadolphgaaGreat.hT 8 60 ?_
   refine _root_.Go.Proofs.YtpjfheadolphgaaGreat.hT 9 69 ?_
   refine _root_.Go.Proofs.YtpjfheadolphgaaGreat.hT 10 70 ?_
   refine _root_.Go.Proofs.YtpjfheadolphgaaGreat.hT 11 71 ?_
   refine hE 12 (fun o ho K hK => ?_)
   cases ho
   go_simp
   refine hK.out _ _ (⟨(ho6.alloc _).cell n3 (HFW.out _ HLE.out.1), (ho6.alloc _).cell c1 (HFW.out _ HLE.out.2), (ho6.alloc _).cell k0 (HFW.out _ (Nat.le_refl _)), (ho6.alloc _).cell k1 (HFW.out _ (Nat.le_refl _))⟩) (fun hHeld => ?_)
   clear hK K
   try dsimp only
   refine _root_.Go.Proofs.YtpjfheadolphgaaGreat.hT 13 15 ?_
   refine hE 14 (fun o ho K hK => ?_)
   cases ho
   go_simp
   refine hK.out _ _ (⟨(ho6.alloc _).cell n3 (HFW.out _ HLE.out.1), (ho6.alloc _).cell c1 (HFW.out _ HLE.out.2), (ho6.alloc _).cell k0 (HFW.out _ (Nat.le_refl _)), (ho6.alloc _).cell k1 (HFW.out _ (Nat.le_refl _))⟩) (fun hHeld => ?_)
   clear hK K
   try dsimp only
   refine _root_.Go.Proofs.YtpjfheadolphgaaGreat.hT 15 10 ?_
   refine wpAnyH_done (by kernel_rfl) ?_ _
   refine NoPanic.normal ?_
   go_wp2_with fail
   go_meet
   exact ⟨L, pk, pg, D1, F6, w6.heap.size, rfl, rfl, rfl, HL.out, hx6.quit ((Only.refl NoB w6).alloc _), ho6.alloc _, hg6, Blk.new w6 _ _, fun hf => Nat.lt_irrefl _ (hx6.tx.1 _ hf), ho6.size⟩
  ·cases ho
   go_simp
   have hoa : Only NoB w5 (w5.alloc (.cells #[.string ⟨#[]⟩, .int .i64 0] 215)).drew := ((Only.refl NoB w5).alloc _).drew
   have HOA := Lib.hid hoa
   have HBN : Hid (Blk (w5.alloc (.cells #[.string ⟨#[]⟩, .int .i64 0] 215)).drew w5.heap.size 215 #[.string ⟨#[]⟩, .int .i64 0]) := Lib.hid (Blk.new w5 _ _).drew
   have HSA : Hid ((w5.alloc (.cells #[.string ⟨#[]⟩, .int .i64 0] 215)).drew.heap.size = w5.heap.size + 1) := Lib.hid (by simp)
   clear hoa
   refine hK.out _ _ (⟨HOA.out.cell n3 id, HOA.out.cell c1 id, HOA.out.cell k0 id, HOA.out.cell k1 id⟩) (fun hHeld => ?_)
   clear hK K
   try simp only [Act.put, List.setIfInBounds_toArray, List.set_cons_zero, List.set_cons_succ]
   refine hE 7 (fun o ho K hK => ?_)
   cases ho
   go_simp
   refine (HCALL.out _ HOA.out).mono ?_
   rintro e6 w6 ⟨L, ⟨pk, pg⟩, D1, F6, rfl, hL, hx6, ho6, hg6⟩
   have ho6' := ho6
   have ho6 : Only F w5 w6 := (HOA.out.mono fun _ _ h => h.elim).trans ho6
   have HL := Lib.hid hL
   have hF6 : ¬ F6 w5.heap.size := fun hf => by (rcases hg6 _ hf with h1 | h1); (· exact HFN.out h1); (· have := HSA.out; omega)
   have HF6 := Lib.hid hF6
   have hbn := HBN.out.only ho6' HFN.out
   obtain ⟨hs16, hst16⟩ := set2 hbn (.string ⟨pk.toArray⟩) (.int .i64 pg)
   have ho8 := only_at ho6 hst16 (Nat.le_refl _)
   have x0 := hbn.cell 0
   have x1 := hbn.cell 1
   have y0 := hbn.frozen 0
   have y1 := hbn.frozen 1
   have HS16 := Lib.hid hs16
   have HT16 := Lib.hid hst16
   have HO8 := Lib.hid ho8
   clear hL hF6 hbn hs16 hst16 ho8
   unfold partV strV natV
   refine hK.out _ _ (⟨ho6.cell n3 (HFW.out _ HLE.out.1), ho6.cell c1 (HFW.out _ HLE.out.2), ho6.cell k0 (HFW.out _ (Nat.le_refl _)), ho6.cell k1 (HFW.out _ (Nat.le_refl _))⟩) (fun hHeld => ?_)
   clear hK K
   try simp only [Act.put, List.setIfInBounds_toArray, List.set_cons_zero, List.set_cons_succ]
   refine _root_.Go.Proofs.YtpjfheadolphgaaGreat.hT 8 60 ?_
   refine _root_.Go.Proofs.YtpjfheadolphgaaGreat.hT 9 69 ?_
   refine _root_.Go.Proofs.YtpjfheadolphgaaGreat.hT 10 70 ?_
   refine _root_.Go.Proofs.YtpjfheadolphgaaGreat.hT 11 71 ?_
   refine _root_.Go.Proofs.YtpjfheadolphgaaGreat.hT 13 15 ?_
   refine hE 14 (fun o ho K hK => ?_)
   cases ho
   go_simp
   refine hK.out _ _ (⟨HO8.out.cell n3 (HFW.out _ HLE.out.1), HO8.out.cell c1 (HFW.out _ HLE.out.2), HO8.out.cell k0 (HFW.out _ (Nat.le_refl _)), HO8.out.cell k1 (HFW.out _ (Nat.le_refl _))⟩) (fun hHeld => ?_)
   clear hK K
   try dsimp only
   refine _root_.Go.Proofs.YtpjfheadolphgaaGreat.hT 15 10 ?_
   refine wpAnyH_done (by kernel_rfl) ?_ _
   refine NoPanic.normal ?_
   go_wp2_with fail
   go_meet
   exact ⟨L, pk, pg, D1, F6, w5.heap.size, rfl, rfl, rfl, HL.out, hx6.beside HT16.out HF6.out (by have := HX5.out.blk.lt; omega), HO8.out, fun k hk => (hg6 k hk).imp id fun h => by have := HSA.out; omega, HS16.out, HF6.out, Nat.le_refl _⟩
 case rest =>
  obtain ⟨L, pk, pg, D1, F6, o, rfl, rfl, rfl, hL, hx6, ho6, hg6, hbo, hFo, hol⟩ := hcut
  have hsz3 := HO3.out.size
  have hs2 := HS2.out
  have hsz5 : w3.heap.size < w5.heap.size := HB9.out.lt
  have ho35 : Only NoB w3 w5 := HO4.out.trans HO5.out
  have honly : Only F w wc := (((HO2.out.mono fun _ _ h => h.elim).trans HO3.out).trans (ho35.mono fun _ _ h => h.elim)).trans ho6
  have hgrow : Grows F F6 w := fun q hq => (hg6 q hq).imp id fun h => by omega
  have hF6 : ∀ q, w.heap.size ≤ q → q < w5.heap.size → ¬ F6 q := fun q h1 h2 hf => by
   rcases hg6 q hf with h3 | h3
   ·exact HFW.out q h1 h3
   ·omega
  have hbt := (((HBT.out.only HO3.out (HFW.out _ (by omega))).only ho35 id)).only ho6 (HFW.out _ (by omega))
  have hb9 := HB9.out.only ho6 (HFW.out _ (by omega))
  have hget : (get key e.M).isSome = (get key xx.M).isSome := by rw [HII.out.M, HAR.out.get]
  have HGT := Lib.hid hget
  have o0 : wc.cell? _ = some _ := hbo.cell 0
  have o1 : wc.cell? _ = some _ := hbo.cell 1
  have HX6 := Lib.hid hx6
  have HON := Lib.hid honly
  have HGR := Lib.hid hgrow
  have HF6 := Lib.hid hF6
  have HBTC := Lib.hid hbt
  have HB9C := Lib.hid hb9
  have HBO := Lib.hid hbo
  have HO35 := Lib.hid ho35
  have HO6 := Lib.hid ho6
  have HOL := Lib.hid hol
  clear hsz3 hs2 hsz5 ho35 honly hgrow hF6 hbt hb9 hget hx6 ho6 hg6 hbo hFo hol n3 m0 k0 k1 c1 hii hi0
  rcases hL.shape with ⟨a, rfl, hpq⟩ | ⟨a, b, rfl, hpq⟩
  ·injection hpq with q1 q2
   subst q1; subst q2
   have HPO := Lib.hid (put_one HII.out.lo HII.out.ok HII.out.chain HII.out.page HII.out.M HII.out.P HII.out.f HAR.out HHD.out hL)
   obtain ⟨hs7, hst7⟩ := set2 HBTC.out (.string ⟨#[]⟩) (.int .i64 0)
   have x0 := HBTC.out.cell 0
   have x1 := HBTC.out.cell 1
   have y0 := HBTC.out.frozen 0
   have y1 := HBTC.out.frozen 1
   have HS7 := Lib.hid hs7
   have HT7 := Lib.hid hst7
   clear hs7 hst7 hL
   go_wp2_with fail
   (try simp only [Exit.inBlock, Exit.then])
   refine bodyPost_ret (results_tmp_row_tmp rfl _ _ (w.heap.size + 1) 215 _ rfl HS7.out (by kernel_rfl) (by kernel_rfl)) rfl ?_
   obtain ⟨L, hL⟩ := HPO.out
   have hsz3 := HO3.out.size
   have hs2 := HS2.out
   have hsz5 : w3.heap.size < w5.heap.size := HB9.out.lt
   refine ⟨L, ([], 0), D1, F6, ?_, hL, HX6.out.beside HT7.out (HF6.out _ (by omega) (by omega)) (by have := HXL.out; omega), only_at HON.out HT7.out (by omega), HGR.out⟩
   rw [HGT.out]; rfl
  ·injection hpq with q1 q2
   subst q1; subst q2
   have hbc : 1 ≤ b.c := by
    have hT := hL.T
    obtain ⟨Pb, hPb⟩ := sub_c hL.chain.2.1
    exact ((HGD.out.same hT.m hT.n).kid (hT.held.is b.c (by simp [flatP, hPb]))).1
   have hpt := put_two HGD.out HII.out.lo HII.out.ok HII.out.chain HII.out.M HII.out.P HII.out.f HAR.out HHD.out hL (n := ⟨false, [], insAt nks i b.lo, insAt ncs (i + 1) b.c⟩) (by rw [HNKS.out, HNCS.out, HI1.out])
   have hmid : D1.is e.c = true ∧ D1.used e.c = true := by
    obtain ⟨z, zs, hz, z1, z2, z3, z4, z5, z6, z7⟩ := put_mid HII.out.ok HII.out.chain HAR.out (by rw [← HII.out.P]; exact HHD.out) hL
    exact ⟨z4.is _ (by simp), z4.used _ (by simp)⟩
   have hb0 : ((b.c : Int) == 0) = false := by simp; omega
   have hb1 : ¬ ((b.c : Int) = 0) := by omega
   have hsz3 := HO3.out.size
   have hs2 := HS2.out
   have hsz5 : w3.heap.size < w5.heap.size := HB9.out.lt
   have hszc := HO6.out.size
   have HMID := Lib.hid hmid
   have HPT := Lib.hid hpt
   have HKC := HKL.out
   rw [← HNKS.out, ← HNCS.out] at HKC
   have hin : i ≤ nks.length := by
    have h1 := HII.out.ok.inner rfl
    rw [← HNKS.out, ← HNCS.out] at h1
    have := HIL.out
    omega
   have hkown : Own wc (fun q => W2.heap.size ≤ q ∧ q < w3.heap.size) 9 1 (.slice kA nks.length kc) nks.length (nks.map strV) :=
    ((HND.out.keys.mono fun q h1 h2 => ⟨h1, h2⟩).only HO35.out fun _ _ => id).only HO6.out fun q hq hf => HFW.out q (by omega) hf
   have hcown : Own wc (fun q => W2.heap.size ≤ q ∧ q < w3.heap.size) 3 1 (.slice (some ⟨g, off, none⟩) ncs.length cc) ncs.length (ncs.map natV) :=
    ((HND.out.kids.mono fun q h1 h2 => ⟨h1, h2⟩).only HO35.out fun _ _ => id).only HO6.out fun q hq hf => HFW.out q (by omega) hf
   obtain ⟨W7, hW7⟩ : ∃ W7, W7 = wc.alloc (.cells #[.string ⟨b.lo.toArray⟩] 9) := ⟨_, rfl⟩
   have ho7 : Only NoB wc W7 := by rw [hW7]; exact (Only.refl NoB wc).alloc _
   have hs7 : W7.heap.size = wc.heap.size + 1 := by rw [hW7]; simp
   have hB7 : Blk W7 wc.heap.size 9 #[.string ⟨b.lo.toArray⟩] := by rw [hW7]; exact Blk.new wc _ _
   have hgl : ∀ q, (Value.slice kA nks.length kc).ownBlock = some q → W2.heap.size ≤ q ∧ q < w3.heap.size := fun q hq => hkown.2 q hq
   have hic := ins_str (i := i) (hkown.only ho7 fun _ _ => id) (by omega) hin (news := [.string ⟨b.lo.toArray⟩]) hB7 (fun he => by have := hgl _ he; omega) rfl (by simp [Value.oneCell']) (oneCell_strs nks)
   have HIC := Lib.hid hic
   have HW7 := Lib.hid hW7
   have HO7 := Lib.hid ho7
   have HS7 := Lib.hid hs7
   have HGL := Lib.hid hgl
   have HCO := Lib.hid hcown
   have HL := Lib.hid hL
   have HBC := Lib.hid hbc
   have n2 : wc.cell? _ = some _ := HB9C.out.cell 2
   clear hic hW7 ho7 hs7 hB7 hgl hkown hcown hL hbc hpt hmid hsz3 hs2 hsz5 hszc HKC hin
   go_wp2_with fail
   rw [← HW7.out]
   refine HIC.out.mono ?_
   rintro e8 w8 ⟨v8, rfl, hown8, ho8⟩
   obtain ⟨A8, c8, rfl, _⟩ := hown8.shape
   have hsz3 := HO3.out.size
   have hs2 := HS2.out
   have hsz5 : w3.heap.size < w5.heap.size := HB9.out.lt
   have hszc := HO6.out.size
   have hs7 := HS7.out
   have hgl := HGL.out
   have hsz8 := ho8.size
   have hb9 := (HB9C.out.only HO7.out id).only ho8 fun he => by have := hgl _ he; omega
   have hb9' := hb9.set_ 2 (.slice A8 (nks.length + 1) c8)
   have hst : Only (fun k => k = w3.heap.size) w8 (w8.setCell ⟨w3.heap.size, 2, none⟩ (.slice A8 (nks.length + 1) c8)) := (Only.refl (fun k => k = w3.heap.size) w8).setCell (p := ⟨w3.heap.size, 2, none⟩) (.inl rfl) (.slice A8 (nks.length + 1) c8)
   have hbo9 := ((HBO.out.only HO7.out id).only ho8 fun he => by have := hgl _ he; have := HOL.out; omega).only hst (by show ¬ (o = w3.heap.size); have := HOL.out; omega)
   have hap := HND.out.apart
   have hco8 : Own w8 (fun q => W2.heap.size ≤ q ∧ q < w3.heap.size) 3 1 (.slice (some ⟨g, off, none⟩) ncs.length cc) ncs.length (ncs.map natV) :=
    (HCO.out.only HO7.out fun _ _ => id).keep fun q hq => ho8.block q ((HCO.out.only HO7.out fun _ _ => id).lt hq) fun he => hap q he hq
   have hco9 := hco8.only hst fun q hq he => by have he : q = w3.heap.size := he; omega
   have hko9 := hown8.only hst fun q hq he => by
    have he : q = w3.heap.size := he
    rcases hq with hq | hq
    ·have := hgl _ hq; omega
    ·omega
   obtain ⟨W10, hW10⟩ : ∃ W10, W10 = (w8.setCell ⟨w3.heap.size, 2, none⟩ (.slice A8 (nks.length + 1) c8)).alloc (.cells #[.int .i64 b.c] 3) := ⟨_, rfl⟩
   have ho10 : Only NoB (w8.setCell ⟨w3.heap.size, 2, none⟩ (.slice A8 (nks.length + 1) c8)) W10 := by rw [hW10]; exact (Only.refl NoB _).alloc _
   have hs10 : W10.heap.size = w8.heap.size + 1 := by rw [hW10]; simp
   have hB10 : Blk W10 w8.heap.size 3 #[.int .i64 b.c] := by
    rw [hW10]
    have := Blk.new (w8.setCell ⟨w3.heap.size, 2, none⟩ (.slice A8 (nks.length + 1) c8)) 3 #[.int .i64 b.c]
    rwa [show (w8.setCell ⟨w3.heap.size, 2, none⟩ (.slice A8 (nks.length + 1) c8)).heap.size = w8.heap.size by simp] at this
   have hcg : W2.heap.size ≤ g ∧ g < w3.heap.size := HCO.out.2 g rfl
   have hicc := ins_nat (i := i + 1) (hco9.only ho10 fun _ _ => id) (by have := HKL.out.2.2; rw [← HNCS.out] at this; omega) (by have := HIL.out; omega) (news := [.int .i64 b.c]) hB10 (fun he => by injection he with he; have he : g = w8.heap.size := he; omega) rfl (by simp [Value.oneCell']) (oneCell_nats ncs)
   rw [show ((i + 1 : Nat) : Int) = (i : Int) + 1 by omega] at hicc
   have HICC := Lib.hid hicc
   have HW10 := Lib.hid hW10
   have HS10 := Lib.hid hs10
   have HKO := Lib.hid (hko9.only ho10 fun _ _ => id)
   have HB10 := Lib.hid (hb9'.only ho10 id)
   have HCG := Lib.hid hcg
   have hall : Only (fun q => W2.heap.size ≤ q ∧ q ≤ w3.heap.size) wc W10 :=
    (((HO7.out.mono fun _ _ h => h.elim).trans (ho8.mono fun q _ hq => by have := hgl q hq; omega)).trans (hst.mono fun q _ hq => by have hq : q = w3.heap.size := hq; omega)).trans (ho10.mono fun _ _ h => h.elim)
   have HALL := Lib.hid hall
   have m2 : w8.cell? _ = some _ := hb9.cell 2
   have p2 := hb9.frozen 2
   have n3 := hb9'.cell 3
   have o0 := hbo9.cell 0
   have o1 := hbo9.cell 1
   have HV8 : Hid (∀ q, (Value.slice A8 (nks.length + 1) c8).ownBlock = some q → (Value.slice kA nks.length kc).ownBlock = some q ∨ W7.heap.size ≤ q) := Lib.hid hown8.2
   have HAP := Lib.hid hap
   have hii1 : IntKind.i64.wrap ((i : Int) + 1) = (i : Int) + 1 := by rw [IntKind.wrap_i64]; have := HIL.out; have := HKL.out.2.2; rw [← HNCS.out] at this; omega
   clear hicc hW10 ho10 hs10 hB10 hcg hall hco8 hco9 hko9 hap hbo9 hst hb9 hb9' hsz8 hgl hs7 hszc hsz5 hs2 hsz3 hown8 ho8
   go_wp2_with fail
   rw [← HW10.out]
   refine HICC.out.mono ?_
   rintro e11 w11 ⟨v11, rfl, hown11, ho11⟩
   obtain ⟨A11, c11, rfl, _⟩ := hown11.shape
   have hsz3 := HO3.out.size
   have hs2 := HS2.out
   have hsz5 : w3.heap.size < w5.heap.size := HB9.out.lt
   have hszc := HO6.out.size
   have hs7 := HS7.out
   have hsz10 := HALL.out.size
   have hgl := HGL.out
   have hcg := HCG.out
   have hcw : ∀ q, (Value.slice (some ⟨g, off, none⟩) ncs.length cc).ownBlock = some q → W2.heap.size ≤ q ∧ q < w3.heap.size := fun q hq => HCO.out.2 q hq
   have hb9 := HB10.out.only ho11 fun he => by have := hcw _ he; omega
   have hb9' := hb9.set_ 3 (.slice A11 (ncs.length + 1) c11)
   have hst : Only (fun k => k = w3.heap.size) w11 (w11.setCell ⟨w3.heap.size, 3, none⟩ (.slice A11 (ncs.length + 1) c11)) := (Only.refl (fun k => k = w3.heap.size) w11).setCell (p := ⟨w3.heap.size, 3, none⟩) (.inl rfl) (.slice A11 (ncs.length + 1) c11)
   have hall : Only (fun q => W2.heap.size ≤ q ∧ q ≤ w3.heap.size) wc _ :=
    (HALL.out.trans (ho11.mono fun q _ hq => by have := hcw q hq; omega)).trans (hst.mono fun q _ hq => by have hq : q = w3.heap.size := hq; omega)
   have hkr : Rd (w11.setCell ⟨w3.heap.size, 3, none⟩ (.slice A11 (ncs.length + 1) c11)) (fun q => (W2.heap.size ≤ q ∧ q < w3.heap.size) ∨ wc.heap.size ≤ q) 1 (.slice A8 (nks.length + 1) c8) (nks.length + 1) ((insAt nks i b.lo).map strV) := by
    rw [strs_ins]
    have h1 := HKO.out.keep (w' := w11) fun q hq => ho11.block q (HKO.out.lt hq) fun he => by
     rcases HV8.out q hq with h2 | h2
     ·exact HAP.out q h2 he
     ·have := hcw _ he; omega
    refine ((h1.only hst fun q hq he => ?_).rd).mono fun q hq _ => ?_
    ·have he : q = w3.heap.size := he
     rcases hq with hq | hq
     ·have := hgl _ hq; omega
     ·omega
    ·rcases hq with hq | hq
     ·exact .inl (hgl _ hq)
     ·exact .inr (by omega)
   have hcr : Rd (w11.setCell ⟨w3.heap.size, 3, none⟩ (.slice A11 (ncs.length + 1) c11)) (fun q => (W2.heap.size ≤ q ∧ q < w3.heap.size) ∨ wc.heap.size ≤ q) 1 (.slice A11 (ncs.length + 1) c11) (ncs.length + 1) ((insAt ncs (i + 1) b.c).map natV) := by
    rw [nats_ins]
    refine ((hown11.only hst fun q hq he => ?_).rd).mono fun q hq _ => ?_
    ·have he : q = w3.heap.size := he
     rcases hq with hq | hq
     ·have := hcw _ hq; omega
     ·omega
    ·rcases hq with hq | hq
     ·exact .inl (hcw _ hq)
     ·exact .inr (by omega)
   obtain ⟨hfit, LL, hLL⟩ := HPT.out
   have hl1 : (insAt nks i b.lo).length = nks.length + 1 := by
    have h1 := (HII.out.ok.inner rfl).2
    rw [← HNKS.out, ← HNCS.out] at h1
    have h2 := HIL.out
    have h3 : i < ncs.length := h2
    unfold insAt
    rw [List.length_append, List.length_cons, List.length_take, List.length_drop]
    omega
   have hl2 : (insAt ncs (i + 1) b.c).length = ncs.length + 1 := by simp [insAt]; have := HIL.out; omega
   have hpz : Rd w3 (From W2.heap.size) 2 (.slice pA 0 pc) 0 [] := HND.out.pairs.rd
   have hnr : NodeR (w11.setCell ⟨w3.heap.size, 3, none⟩ (.slice A11 (ncs.length + 1) c11)) (fun q => (W2.heap.size ≤ q ∧ q < w3.heap.size) ∨ wc.heap.size ≤ q) (.slice pA 0 pc) (.slice A8 (nks.length + 1) c8) (.slice A11 (ncs.length + 1) c11) ⟨false, [], insAt nks i b.lo, insAt ncs (i + 1) b.c⟩ :=
    ⟨hpz.zero, by show Rd _ _ 1 _ (insAt nks i b.lo).length _; rw [hl1]; exact hkr, by show Rd _ _ 1 _ (insAt ncs (i + 1) b.c).length _; rw [hl2]; exact hcr⟩
   have htw := HX6.out.far hall (fun q h6 hq => HF6.out q (by omega) (by omega) h6) (by have := HXL.out; omega)
   have hse := settle_ok (n := ⟨false, [], insAt nks i b.lo, insAt ncs (i + 1) b.c⟩) (p := e.c) htw HMID.out.1 HMID.out.2 hnr hfit (fun q hq h6 => by
    rcases hq with hq | hq
    ·exact HF6.out q (by omega) (by omega) h6
    ·have := HX6.out.tx.1 q h6; omega)
   obtain ⟨⟨D', pk, pg⟩, hq⟩ : ∃ q, q = settleD e.c ⟨false, [], insAt nks i b.lo, insAt ncs (i + 1) b.c⟩ D1 := ⟨_, rfl⟩
   rw [← hq] at hse hLL
   simp only at hse hLL
   unfold nodeV partV strV natV at hse
   simp only at hse
   have HSE := Lib.hid hse
   have HLL := Lib.hid hLL
   have HBTW := Lib.hid (HBTC.out.only hall (by omega))
   have HONW : Hid (Only F w _) := Lib.hid (HON.out.trans' hall fun q hq hd => by omega)
   have hszw := hall.size
   have m3 : w11.cell? _ = some _ := hb9.cell 3
   have p3 := hb9.frozen 3
   have n0 := hb9'.cell 0
   have n1 := hb9'.cell 1
   have n2 := hb9'.cell 2
   have n3' := hb9'.cell 3
   obtain ⟨W12, hW12⟩ : ∃ W12, W12 = w11.setCell ⟨w3.heap.size, 3, none⟩ (.slice A11 (ncs.length + 1) c11) := ⟨_, rfl⟩
   have HSO : Hid (w.heap.size + 1 < W12.heap.size ∧ w.heap.size + 1 < w5.heap.size) := Lib.hid (by rw [hW12]; omega)
   have HW12 := Lib.hid hW12
   rw [← hW12] at HSE HBTW HONW
   clear hse hLL hfit hnr hkr hcr hall hst hb9 hb9' hl1 hl2 hpz htw hszw hq hcw hcg hgl hsz10 hs7 hszc hsz5 hs2 hsz3 hown11 ho11 hW12 hii1 m2 p2 n3 o0 o1
   go_wp2_with fail
   rw [← HW12.out]
   refine HSE.out.mono ?_
   rintro e8 w8 ⟨rfl, F8, hx8, ho8, hg8⟩
   have hout := HSO.out
   have hsz8 := ho8.size
   have hF8 : ¬ F8 (w.heap.size + 1) := fun hf => by
    rcases hg8 _ hf with h1 | h1
    ·exact HF6.out _ (by omega) (by omega) h1
    ·omega
   obtain ⟨W9, hW9⟩ : ∃ W9, W9 = w8.alloc (.cells #[.string ⟨pk.toArray⟩, .int .i64 pg] 215) := ⟨_, rfl⟩
   have ho9 : Only NoB w8 W9 := by rw [hW9]; exact (Only.refl NoB w8).alloc _
   have hB13 : Blk W9 w8.heap.size 215 #[.string ⟨pk.toArray⟩, .int .i64 pg] := by rw [hW9]; exact Blk.new w8 _ _
   have hb7 := (HBTW.out.only ho8 (HF6.out _ (by omega) (by omega))).only ho9 id
   obtain ⟨hs7, hst7⟩ := set2 hb7 (.string ⟨pk.toArray⟩) (.int .i64 pg)
   have HE : Hid (TreeAt W9 F8 X x t D' ∧ ¬ F8 (w.heap.size + 1) ∧ Only F w W9 ∧ Grows F F8 w) := Lib.hid
    ⟨hx8.quit ho9, hF8, (HONW.out.trans' ho8 fun q hq hf => (HGR.out q hf).elim id fun h => by omega).trans (ho9.mono fun _ _ h => h.elim), fun q hq => by
     rcases hg8 q hq with h1 | h1
     ·exact HGR.out q h1
     ·exact .inr (by omega)⟩
   have HNE : Hid (¬ (w8.heap.size = w.heap.size + 1)) := Lib.hid (by omega)
   have n0 : W9.cell? _ = some _ := hB13.cell 0
   have n1 : W9.cell? _ = some _ := hB13.cell 1
   have x0 := hb7.cell 0
   have x1 := hb7.cell 1
   have y0 := hb7.frozen 0
   have y1 := hb7.frozen 1
   have HS7 := Lib.hid hs7
   have HT7 := Lib.hid hst7
   have HW9 := Lib.hid hW9
   clear hout hsz8 hF8 ho9 hB13 hb7 hs7 hst7 hW9 hx8 ho8 hg8
   go_wp2_with fail
   rw [← HW9.out]
   refine hB _ 6 (fun w' => w'.cell? ⟨w8.heap.size, 0, none⟩ = some (.string ⟨pk.toArray⟩) ∧ w'.cell? ⟨w8.heap.size, 1, none⟩ = some (.int .i64 pg)) (⟨n0, n1⟩) (fun hHeld => ?_)
   refine _root_.Go.Proofs.YtpjfheadolphgaaGreat.hT 0 106 ?_
   refine _root_.Go.Proofs.YtpjfheadolphgaaGreat.hT 1 107 ?_
   refine _root_.Go.Proofs.YtpjfheadolphgaaGreat.hT 2 108 ?_
   refine _root_.Go.Proofs.YtpjfheadolphgaaGreat.hT 3 6 ?_
   refine hE 4 (fun o ho K hK => ?_)
   cases ho
   go_simp
   skip
   refine hK.out _ _ (⟨HT7.out.drew.cell n0 HNE.out, HT7.out.drew.cell n1 HNE.out⟩) (fun hHeld => ?_)
   clear hK K
   try simp only [Act.put, List.setIfInBounds_toArray, List.set_cons_zero, List.set_cons_succ]
   refine _root_.Go.Proofs.YtpjfheadolphgaaGreat.hT 5 8 ?_
   refine wpAnyH_done (by kernel_rfl) ?_ _
   refine NoPanic.normal ?_
   go_wp2_with fail
   (try simp only [Exit.inBlock, Exit.then])
   refine bodyPost_ret (results_tmp_row_tmp rfl _ _ (w.heap.size + 1) 215 _ rfl HS7.out.drew (by kernel_rfl) (by kernel_rfl)) rfl ?_
   obtain ⟨e1, e2, e3, e4⟩ := HE.out
   refine ⟨LL, (pk, pg), D', F8, ?_, HLL.out, e1.beside HT7.out.drew e2 (by have := HXL.out; omega), only_at e3 HT7.out.drew (by omega), e4⟩
   rw [HGT.out]; rfl
end
end Go.Proofs.YtpjfheadolphgaaGreat
namespace Go.Proofs.YtpjfheadolphgaaGreat
open Go.RowKit Go.Proofs
set_option maxRecDepth 20000
section
variable {w w' : World} {F G N K : Nat → Prop} {X : XC} {t x p r c h m k : Nat} {D D' : PD} {v pv kv cv : Value} {M ps : List KV} {key va : Str} {ks : List Str} {cs : List Nat} {hi : Option Str} {e : Ent} {n : NodeD}
theorem put_ok : ∀ h, PutHyp X x t key va h
 | 0 => fun _ _ _ _ _ _ h1 h2 h3 h4 h5 h6 h7 h8 => put_lf h1 h2 h3 h4 h5 h6 h7 h8
 | h + 1 => fun _ _ _ _ _ _ h1 h2 h3 h4 h5 h6 h7 h8 => put_in (put_ok h) h1 h2 h3 h4 h5 h6 h7 h8
set_option maxHeartbeats 1000000 in
theorem root_ok (h : TreeAt w F X x t D) (hr : D.free (D.own + 1) (D.n - (D.own + 1)) = some r) (hN : ∀ k, N k → ¬ F k) (hn : NodeR w N pv kv cv n) (hok : n.Ok D.m) (hne : n.leaf = true → n.pairs ≠ []) :
  Calls Tryz.prog 146 #[.pointer (some ⟨x, 0, none⟩), nodeV n.leaf pv kv cv] w (DeedX w F X x t (.int .i64 0) (rootD r n D)) := by
 obtain ⟨r1, r2, r3, r4⟩ := PD.free_some hr
 obtain ⟨pA, pc, kA, kc, cA, cc, rfl, rfl, rfl⟩ := hn.shape
 obtain ⟨W1, hW1⟩ : ∃ W1, W1 = w.alloc (.cells #[.bool n.leaf, .slice pA n.pairs.length pc, .slice kA n.keys.length kc, .slice cA n.children.length cc] 200) := ⟨_, rfl⟩
 have ho1 : Only NoB w W1 := by rw [hW1]; exact (Only.refl NoB w).alloc _
 have hfr := fresh_ok (h.quit ho1) hr hN (hn.quit ho1) hok hne
 have hri : (PD.putPage r (n.bytes D.m) (takeD r D)).is r = true := by show D.is r = true; unfold PD.is; simp; omega
 have hru : (PD.putPage r (n.bytes D.m) (takeD r D)).used r = true := by simp [takeD, PD.putPage, PD.turn]
 unfold nodeV at hfr
 have HFR := Lib.hid hfr
 have HO1 := Lib.hid ho1
 have HW1 := Lib.hid hW1
 have HRI := Lib.hid hri
 have HRU := Lib.hid hru
 clear hfr ho1 hW1 hri hru h hr hN hn hok hne r1 r2 r3 r4
 unfold nodeV
 go_enter Tryz.func146, Tryz.ntmps146
 go_wp2_with fail
 rw [← HW1.out]
 refine HFR.out.mono ?_
 rintro e w2 ⟨rfl, F2, hx2, ho2, hg2⟩
 have c0 : w2.cell? ⟨x, 0, none⟩ = some (.pointer (some ⟨t, 0, none⟩)) := hx2.blk.cell 0
 have HSR := Lib.hid (setRoot_any hx2.tx (.inr ⟨HRI.out, HRU.out⟩))
 have HX2 := Lib.hid hx2
 have HO2 := Lib.hid ho2
 have HG2 := Lib.hid hg2
 clear hx2 ho2 hg2
 go_wp2_with fail
 refine HSR.out.mono ?_
 rintro e w3 ⟨rfl, F3, ht3, ho3, hg3⟩
 have HE : Hid (TreeAt w3 F3 X x t (rootD r n D) ∧ Only F w w3 ∧ Grows F F3 w) := Lib.hid
  ⟨HX2.out.deed (D' := rootD r n D) rfl ht3 ho3 hg3, ((HO1.out.mono fun _ _ h => h.elim).trans HO2.out).trans' ho3 fun i hi hk => by
   rcases HG2.out i hk with h1 | h1
   ·exact h1
   ·have := HO1.out.size; omega, fun k hk => by
   rcases hg3 k hk with h1 | h1
   ·rcases HG2.out k h1 with h2 | h2
    ·exact .inl h2
    ·exact .inr (Nat.le_trans HO1.out.size h2)
   ·exact .inr (Nat.le_trans (Nat.le_trans HO1.out.size HO2.out.size) h1)⟩
 clear ht3 ho3 hg3 c0
 go_wp2_with fail
 go_ret
 exact ⟨rfl, F3, HE.out⟩
def TurnDone (w : World) (F : Nat → Prop) (X : XC) (t : Nat) (D : PD) (v : Value) (M' : List KV) (c' : Nat) (en : Ending) (w' : World) : Prop :=
 en = .returned v ∧ ∃ D' F', TxLd w' F' X t D' ∧ Bt D' M' c' ∧ D'.m = D.m ∧ D'.n = D.n ∧ D'.own = D.own ∧ Only F w w' ∧ Grows F F' w
set_option maxHeartbeats 2000000 in
theorem bput_ok (h : TxAt w F X t D) (hb : Bt D M c) (hc : c + 1 ≤ D.cap) (hp : PairOk D.m (key, va)) :
  Calls Tryz.prog 53 #[.pointer (some ⟨t, 0, none⟩), .string ⟨key.toArray⟩, .string ⟨va.toArray⟩] w (TurnDone w F X t D (.tuple #[.bool (get key M).isSome, .int .i64 0]) (ins key va M) (c + 1)) := by
 have HG := Lib.hid hb.1
 have HOF := Lib.hid (of_ok h hb.1.m1 hb.1.m2)
 have hlt : ∀ k, F k → k < w.heap.size := h.lt
 have HLT := Lib.hid hlt
 have HB := Lib.hid hb
 have HC := Lib.hid hc
 have HP := Lib.hid hp
 have hone : (leafN [(key, va)]).Ok D.m := by
  have hmost := most_le D.m hb.1.m1
  have hkv := hp.2.2.2
  simp only at hkv
  exact leaf_ok.2 ⟨by simp [NodeD.sizeP]; omega, fun p hp' => by simp at hp'; subst hp'; exact hp, by simp [Srt]⟩
 have HONE := Lib.hid hone
 clear h hlt hb hc hp hone
 go_enter Tryz.func53, Tryz.ntmps53
 go_wp2_with fail
 refine HOF.out.mono ?_
 rintro e w1 ⟨x, rfl, ht1, hx1, ho1, hxl⟩
 have HT1 := Lib.hid ht1
 have HX1 := Lib.hid hx1
 have HO1 := Lib.hid ho1
 have HXL := Lib.hid hxl
 have c1 : w1.cell? _ = some _ := hx1.cell 1
 clear ht1 hx1 ho1 hxl
 go_wp2_with fail
 obtain ⟨W4, hW4⟩ : ∃ W4, W4 = ((w1.alloc (.cells #[.string ⟨key.toArray⟩, .string ⟨va.toArray⟩] 83)).alloc (.cells #[.string ⟨key.toArray⟩, .string ⟨va.toArray⟩] 83)).alloc (.cells #[.bool true, .slice (some ⟨w1.heap.size + 1, 0, none⟩) 1 1, .slice none 0 0, .slice none 0 0] 200) := ⟨_, rfl⟩
 rw [← hW4]
 have ho4 : Only NoB w1 W4 := by rw [hW4]; exact (((Only.refl NoB w1).alloc _).alloc _).alloc _
 have hs4 : W4.heap.size = w1.heap.size + 1 + 1 + 1 := by rw [hW4]; simp
 have hBp : Blk W4 w1.heap.size 83 #[.string ⟨key.toArray⟩, .string ⟨va.toArray⟩] := by rw [hW4]; exact ((Blk.new w1 _ _).alloc _).alloc _
 have hBq : Blk W4 (w1.heap.size + 1) 83 #[.string ⟨key.toArray⟩, .string ⟨va.toArray⟩] := by
  rw [hW4]
  have := Blk.new (w1.alloc (.cells #[.string ⟨key.toArray⟩, .string ⟨va.toArray⟩] 83)) 83 #[.string ⟨key.toArray⟩, .string ⟨va.toArray⟩]
  rw [show (w1.alloc (.cells #[.string ⟨key.toArray⟩, .string ⟨va.toArray⟩] 83)).heap.size = w1.heap.size + 1 by simp] at this
  exact this.alloc _
 have hBn : Blk W4 (w1.heap.size + 1 + 1) 200 #[.bool true, .slice (some ⟨w1.heap.size + 1, 0, none⟩) 1 1, .slice none 0 0, .slice none 0 0] := by
  rw [hW4]
  have := Blk.new ((w1.alloc (.cells #[.string ⟨key.toArray⟩, .string ⟨va.toArray⟩] 83)).alloc (.cells #[.string ⟨key.toArray⟩, .string ⟨va.toArray⟩] 83)) 200 #[.bool true, .slice (some ⟨w1.heap.size + 1, 0, none⟩) 1 1, .slice none 0 0, .slice none 0 0]
  rwa [show ((w1.alloc (.cells #[.string ⟨key.toArray⟩, .string ⟨va.toArray⟩] 83)).alloc (.cells #[.string ⟨key.toArray⟩, .string ⟨va.toArray⟩] 83)).heap.size = w1.heap.size + 1 + 1 by simp] at this
 have hrd : Rd W4 (fun k => k = w1.heap.size + 1) 2 (.slice (some ⟨w1.heap.size + 1, 0, none⟩) 1 1) 1 (pairL [(key, va)]) :=
  (own_mk (F := fun k => k = w1.heap.size + 1) (size := 2) (cur := [.string ⟨key.toArray⟩, .string ⟨va.toArray⟩]) (ys := pairL [(key, va)]) hBq rfl (Nat.le_refl _) (by unfold maxLen; omega) rfl rfl).rd
 have hnr : NodeR W4 (fun k => k = w1.heap.size + 1) (.slice (some ⟨w1.heap.size + 1, 0, none⟩) 1 1) (.slice none 0 0) (.slice none 0 0) (leafN [(key, va)]) := ⟨hrd, Rd.nil _ _ _, Rd.nil _ _ _⟩
 have hck := check_ok (hnr.quit (Only.refl NoB W4).drew) HONE.out (fun _ => by simp [leafN]) HG.out.m1 HG.out.m2
 have HCK := Lib.hid hck
 unfold nodeV leafN at HCK
 have HX4 := Lib.hid (HX1.out.only ho4 id)
 have HT4 := Lib.hid (HT1.out.quit ho4)
 have b0 : W4.cell? _ = some _ := hBn.cell 0
 have b1 : W4.cell? _ = some _ := hBn.cell 1
 have b2 : W4.cell? _ = some _ := hBn.cell 2
 have b3 : W4.cell? _ = some _ := hBn.cell 3
 have c1 : W4.cell? _ = some _ := HX4.out.cell 1
 have HBP := Lib.hid hBp
 have HBN := Lib.hid hBn
 have HNR := Lib.hid hnr
 have HO4 := Lib.hid ho4
 have HS4 := Lib.hid hs4
 clear hBp hBq hBn hrd hnr hck ho4 hs4 hW4
 refine hB _ 7 (fun w' => (w'.cell? ⟨w1.heap.size + 1 + 1, 0, none⟩ = some (.bool true) ∧ w'.cell? ⟨w1.heap.size + 1 + 1, 1, none⟩ = some (.slice (some ⟨w1.heap.size + 1, 0, none⟩) 1 1) ∧ w'.cell? ⟨w1.heap.size + 1 + 1, 2, none⟩ = some (.slice none 0 0) ∧ w'.cell? ⟨w1.heap.size + 1 + 1, 3, none⟩ = some (.slice none 0 0)) ∧ w'.cell? ⟨x, 1, none⟩ = some (.int .i64 D.m)) (⟨⟨b0, b1, b2, b3⟩, c1⟩) (fun hHeld => ?_)
 refine _root_.Go.Proofs.YtpjfheadolphgaaGreat.hT 0 30 ?_
 refine _root_.Go.Proofs.YtpjfheadolphgaaGreat.hT 1 31 ?_
 refine _root_.Go.Proofs.YtpjfheadolphgaaGreat.hT 2 32 ?_
 refine _root_.Go.Proofs.YtpjfheadolphgaaGreat.hT 3 33 ?_
 refine _root_.Go.Proofs.YtpjfheadolphgaaGreat.hT 4 34 ?_
 refine hE 5 (fun o ho K hK => ?_)
 cases ho
 go_simp
 refine HCK.out.mono ?_
 rintro e5 w5 ⟨rfl, ho5⟩
 have ho : Only NoB W4 w5 := (Only.refl NoB W4).drew.trans ho5
 clear ho5
 refine hK.out _ _ (⟨⟨ho.cell b0 id, ho.cell b1 id, ho.cell b2 id, ho.cell b3 id⟩, ho.cell c1 id⟩) (fun hHeld => ?_)
 clear hK K
 try simp only [Act.put, List.setIfInBounds_toArray, List.set_cons_zero, List.set_cons_succ]
 refine _root_.Go.Proofs.YtpjfheadolphgaaGreat.hT 6 12 ?_
 refine wpAnyH_done (by kernel_rfl) ?_ _
 refine NoPanic.normal ?_
 have HO5 := Lib.hid ho
 have HRT := Lib.hid (root_any (HT4.out.quit ho))
 clear b0 b1 b2 b3 c1 ho
 go_wp2_with fail
 refine HRT.out.mono ?_
 rintro e6 w6 ⟨rfl, F6, ht6, ho6, hg6⟩
 have hs4 := HS4.out
 have hs5 := HO5.out.size
 have hs1 := HO1.out.size
 have hFn : ∀ k, w.heap.size ≤ k → ¬ F k := fun k hk hf => by have := HLT.out k hf; omega
 have hxl := HXL.out
 have hx1l := HX1.out.lt
 have htr : TreeAt w6 F6 X x t D := ⟨ht6, (HX4.out.only HO5.out id).only ho6 (hFn x hxl), fun hk => by rcases hg6 x hk with h1 | h1; (· exact hFn x hxl h1); (· omega), HG.out.m1⟩
 have hon6 : Only F w w6 := ((HO1.out.trans (HO4.out.trans HO5.out)).mono fun _ _ h => h.elim).trans ho6
 have hgr6 : Grows F F6 w := fun k hk => (hg6 k hk).imp id fun h => by omega
 have hF6 : ∀ k, w.heap.size ≤ k → k < W4.heap.size → ¬ F6 k := fun k h1 h2 hf => by
  rcases hg6 k hf with h3 | h3
  ·exact hFn k h1 h3
  ·omega
 have hbp6 := (HBP.out.only HO5.out id).only ho6 (hFn _ (by omega))
 have hbn6 := (HBN.out.only HO5.out id).only ho6 (hFn _ (by omega))
 have hnr6 := (HNR.out.quit HO5.out).only ho6 (fun k hk hf => by have hk : k = w1.heap.size + 1 := hk; exact hFn k (by omega) hf)
 have b0 : w6.cell? _ = some _ := hbn6.cell 0
 have b1 : w6.cell? _ = some _ := hbn6.cell 1
 have b2 : w6.cell? _ = some _ := hbn6.cell 2
 have b3 : w6.cell? _ = some _ := hbn6.cell 3
 have k0 : w6.cell? _ = some _ := hbp6.cell 0
 have k1 : w6.cell? _ = some _ := hbp6.cell 1
 have HTR := Lib.hid htr
 have HON := Lib.hid hon6
 have HGR := Lib.hid hgr6
 have HF6 := Lib.hid hF6
 have HNR6 := Lib.hid hnr6
 have HLE : Hid (w.heap.size ≤ w1.heap.size ∧ w1.heap.size + 1 + 1 < W4.heap.size) := Lib.hid ⟨hs1, by omega⟩
 clear hs4 hs5 hs1 hFn hxl hx1l htr hon6 hgr6 hF6 hbp6 hbn6 hnr6 ht6 ho6 hg6
 rcases HB.out.2 with ⟨hr0, hM, hu⟩ | ⟨h, e, hroot⟩
 ·obtain ⟨r, hr⟩ := free_of (k := 0) (free_held (D := D) (P := []) (fun q hq => by rw [hu q] at hq; cases hq) (k := 1) (by have := HC.out; simp; omega))
  obtain ⟨r1, r2, r3, r4⟩ := PD.free_some hr
  obtain ⟨hbt, _⟩ := bt_first HG.out hu (r := r) (by unfold PD.is; simp; omega) HP.out c
  have hrk := root_ok HTR.out hr (fun k hk hf => by have hk : k = w1.heap.size + 1 := hk; have := HLE.out; exact HF6.out k (by omega) (by omega) hf) HNR6.out HONE.out (fun _ => by simp [leafN])
  have HRK := Lib.hid hrk
  unfold nodeV leafN at HRK
  have HBT := Lib.hid hbt
  have HM := Lib.hid hM
  rw [hr0]
  clear hr r1 r2 r3 r4 hbt hrk hM hu hr0
  go_wp2_with fail
  refine HRK.out.mono ?_
  rintro e7 w7 ⟨rfl, F7, hx7, ho7, hg7⟩
  have HE : Hid (∃ D' F', TxLd w7 F' X t D' ∧ Bt D' (ins key va M) (c + 1) ∧ D'.m = D.m ∧ D'.n = D.n ∧ D'.own = D.own ∧ Only F w w7 ∧ Grows F F' w) := Lib.hid
   ⟨_, F7, hx7.tx, by rw [HM.out]; exact HBT.out, rfl, rfl, rfl, HON.out.trans' ho7 fun k hk hf => (HGR.out k hf).elim id fun h => by omega, fun k hk => by
    rcases hg7 k hk with h1 | h1
    ·exact HGR.out k h1
    ·have := HON.out.size; exact .inr (by omega)⟩
  clear hx7 ho7 hg7
  go_wp2_with fail
  go_ret2
  exact ⟨by rw [HM.out]; rfl, HE.out⟩
 ·obtain rfl := hroot.M
  have hpo := put_ok h w6 F6 D e none 1 HTR.out HG.out hroot.sub HP.out (by rw [hroot.lo]; exact nil_les _) trivial hroot.held (hroot.free HC.out)
  rw [hroot.at_] at hpo
  have hbq : ((D.root : Int) == 0) = false := by simp; exact hroot.ne0
  have hbr : ¬ ((D.root : Int) = 0) := by have := hroot.ne0; omega
  have HPO := Lib.hid hpo
  have HROOT := Lib.hid hroot
  unfold strV at HPO
  clear hpo hroot b0 b1 b2 b3
  go_wp2_with fail
  refine HPO.out.mono ?_
  rintro e7 w7 ⟨L, ⟨pk, pg⟩, D1, F7, rfl, hL, hx7, ho7, hg7⟩
  unfold partV strV natV
  obtain ⟨W8, hW8⟩ : ∃ W8, W8 = w7.alloc (.cells #[.string ⟨pk.toArray⟩, .int .i64 pg] 215) := ⟨_, rfl⟩
  have ho8 : Only NoB w7 W8 := by rw [hW8]; exact (Only.refl NoB w7).alloc _
  have hB8 : Blk W8 w7.heap.size 215 #[.string ⟨pk.toArray⟩, .int .i64 pg] := by rw [hW8]; exact Blk.new w7 _ _
  have hon8 : Only F w W8 := (HON.out.trans' ho7 fun k hk hf => (HGR.out k hf).elim id fun h => by omega).trans (ho8.mono fun _ _ h => h.elim)
  have hgr8 : Grows F F7 w := fun k hk => by
   rcases hg7 k hk with h1 | h1
   ·exact HGR.out k h1
   ·have := HON.out.size; exact .inr (by omega)
  have hx8 := hx7.quit ho8
  have HW8 := Lib.hid hW8
  have HSB : Hid (W8.heap.size = w7.heap.size + 1) := Lib.hid (by rw [hW8]; simp)
  have HON8 := Lib.hid hon8
  have HGR8 := Lib.hid hgr8
  have HX8 := Lib.hid hx8
  have HS8 : Hid (w.heap.size ≤ W8.heap.size) := Lib.hid hon8.size
  have hF7 : ∀ q, W8.heap.size ≤ q → ¬ F7 q := fun q hq hf => by have := hx7.tx.1 q hf; have := ho8.size; omega
  have HF7 := Lib.hid hF7
  have o0 := hB8.cell 0
  have o1 := hB8.cell 1
  rw [hW8] at o0 o1
  clear hW8 ho8 hon8 hgr8 hx8 hF7 hx7 ho7 hg7 hB8 k0 k1
  rcases hL.shape with ⟨a, rfl, hpq⟩ | ⟨a, b, rfl, hpq⟩
  ·injection hpq with q1 q2
   subst q1; subst q2
   have HBT := Lib.hid (HROOT.out.made_one HG.out hL)
   have HW8' : Hid (W8 = w7.alloc (.cells #[.string ⟨#[]⟩, .int .i64 0] 215)) := Lib.hid HW8.out
   have HLT := Lib.hid hL.T
   obtain ⟨bb, hbb⟩ : ∃ bb, bb = (get key e.M).isSome := ⟨_, rfl⟩
   rw [← hbb]
   have HBB := Lib.hid hbb
   clear hL hbb
   cases bb
   all_goals
    go_wp2_with fail
    rw [← HW8'.out]
    go_ret2
    exact ⟨by rw [← HBB.out]; rfl, D1, F7, HX8.out.tx, HBT.out, HLT.out.m, HLT.out.n, HLT.out.own, HON8.out, HGR8.out⟩
  ·injection hpq with q1 q2
   subst q1; subst q2
   have hbc : 1 ≤ b.c := by
    have hT := hL.T
    obtain ⟨Pb, hPb⟩ := sub_c hL.chain.2.1
    exact ((HG.out.same hT.m hT.n).kid (hT.held.is b.c (by simp [flatP, hPb]))).1
   have hb0 : ((b.c : Int) != 0) = true := by simp; omega
   have hb1 : ¬ ((b.c : Int) = 0) := by omega
   obtain ⟨r, hr⟩ := free_of (k := 0) hL.free
   obtain ⟨r1, r2, r3, r4⟩ := PD.free_some hr
   obtain ⟨hbt, hok⟩ := HROOT.out.made_two HG.out hL (r := r) (by unfold PD.is; simp; omega) r3 (n := ⟨false, [], [b.lo], [e.c, b.c]⟩) rfl
   have HLT := Lib.hid hL.T
   obtain ⟨bb, hbb⟩ : ∃ bb, bb = (get key e.M).isSome := ⟨_, rfl⟩
   rw [← hbb]
   have HBB := Lib.hid hbb
   have HBT := Lib.hid hbt
   have HOK := Lib.hid hok
   have HR := Lib.hid hr
   obtain ⟨W10, hW10⟩ : ∃ W10, W10 = (W8.alloc (.cells #[.string ⟨b.lo.toArray⟩] 9)).alloc (.cells #[.int .i64 D.root, .int .i64 b.c] 3) := ⟨_, rfl⟩
   have ho10 : Only NoB W8 W10 := by rw [hW10]; exact ((Only.refl NoB W8).alloc _).alloc _
   have hB9 : Blk W10 W8.heap.size 9 #[.string ⟨b.lo.toArray⟩] := by rw [hW10]; exact (Blk.new W8 _ _).alloc _
   have hB10 : Blk W10 (W8.heap.size + 1) 3 #[.int .i64 D.root, .int .i64 b.c] := by
    rw [hW10]
    have := Blk.new (W8.alloc (.cells #[.string ⟨b.lo.toArray⟩] 9)) 3 #[.int .i64 D.root, .int .i64 b.c]
    rwa [show (W8.alloc (.cells #[.string ⟨b.lo.toArray⟩] 9)).heap.size = W8.heap.size + 1 by simp] at this
   have hk : Rd W10 (fun k => W8.heap.size ≤ k) 1 (.slice (some ⟨W8.heap.size, 0, none⟩) 1 1) 1 ([b.lo].map strV) :=
    (own_mk (F := fun k => W8.heap.size ≤ k) (size := 1) (cur := [.string ⟨b.lo.toArray⟩]) (ys := [b.lo].map strV) hB9 rfl (Nat.le_refl _) (by unfold maxLen; omega) rfl (Nat.le_refl _)).rd
   have hc : Rd W10 (fun k => W8.heap.size ≤ k) 1 (.slice (some ⟨W8.heap.size + 1, 0, none⟩) 2 2) 2 ([e.c, b.c].map natV) :=
    (own_mk (F := fun k => W8.heap.size ≤ k) (size := 1) (cur := [.int .i64 D.root, .int .i64 b.c]) (ys := [e.c, b.c].map natV) hB10 rfl (Nat.le_refl _) (by unfold maxLen; omega) (by rw [HROOT.out.at_]; rfl) (Nat.le_succ _)).rd
   have hnr : NodeR W10 (fun k => W8.heap.size ≤ k) (.slice none 0 0) (.slice (some ⟨W8.heap.size, 0, none⟩) 1 1) (.slice (some ⟨W8.heap.size + 1, 0, none⟩) 2 2) ⟨false, [], [b.lo], [e.c, b.c]⟩ := ⟨Rd.nil _ _ _, hk, hc⟩
   have hrk := root_ok (HX8.out.quit ho10) hr HF7.out hnr hok (fun h => by cases h)
   unfold nodeV at hrk
   rw [HSB.out] at hrk
   have HRK := Lib.hid hrk
   have HO10 := Lib.hid ho10
   clear hL hbb hbt hok hr ho10 hB9 hB10 hk hc hnr hrk r1 r2 r3 r4
   rw [HW8.out] at hW10
   have HW10 := Lib.hid hW10
   clear hW10
   go_upto_region 19 with fail
   rw [← HW10.out]
   refine HRK.out.mono ?_
   rintro e11 w11 ⟨rfl, F11, hx11, ho11, hg11⟩
   have HE : Hid (∃ D' F', TxLd w11 F' X t D' ∧ Bt D' (ins key va e.M) (c + 1) ∧ D'.m = D.m ∧ D'.n = D.n ∧ D'.own = D.own ∧ Only F w w11 ∧ Grows F F' w) := Lib.hid
    ⟨_, F11, hx11.tx, HBT.out, HLT.out.m, HLT.out.n, HLT.out.own, (HON8.out.trans (HO10.out.mono fun _ _ h => h.elim)).trans' ho11 fun k hk hf => (HGR8.out k hf).elim id fun h => by omega, fun k hk => by
     rcases hg11 k hk with h1 | h1
     ·exact HGR8.out k h1
     ·have := HON8.out.size; have := HO10.out.size; exact .inr (by omega)⟩
   clear hx11 ho11 hg11
   cases bb
   all_goals
    go_wp2_with fail
    go_ret2
    exact ⟨by rw [← HBB.out]; rfl, HE.out⟩
end
end Go.Proofs.YtpjfheadolphgaaGreat
namespace Go.Proofs.YtpjfheadolphgaaGreat
open Go.RowKit Go.Proofs
set_option maxRecDepth 20000
theorem results_row {P : Program} {fn : Func} {p : Tmp} {ty : TypeId} (h : fn.results = #[.cell p ty]) (tmps : Array Value) (w : World) (g : Nat) (t : TypeId) (cs : Array Value)
  (hp : tmps.getD p undef = .pointer (some ⟨g, 0, none⟩)) (hg : Blk w g t cs) (hu : (match P.underlying ty with | some (.struct _) | some (.array _ _) => true | _ => false) = true) (hi : (P.info? ty).map (·.size) = some cs.size) :
  (results fn tmps).run P w = .ok (.agg cs) w := by
 have h1 := run_loadVar_blk (P := P) w g t cs hg hu hi
 have hp' : tmps[p]?.getD undef = .pointer (some ⟨g, 0, none⟩) := by simpa using hp
 simp [results, h, hp', asAddr, Result.andThen, h1]
section
variable {w w' : World} {F G N K : Nat → Prop} {X : XC} {t x p r c h m k : Nat} {D D' : PD} {v pv kv cv pv' kv' cv' : Value} {M ps ps' : List KV} {key va : Str} {ks ks' : List Str} {cs cs' : List Nat} {hi : Option Str} {e : Ent} {n a b : NodeD}
def JoinOut (w : World) (n : NodeD) (e : Ending) (w' : World) : Prop := ∃ pv kv cv, e = .returned (nodeV n.leaf pv kv cv) ∧ NodeR w' (From w.heap.size) pv kv cv n ∧ Only NoB w w'
theorem two_box (w : World) (T1 T2 T3 : TypeId) (A B C : Array Value) (W : World) (hW : W = ((w.alloc (.cells A T1)).alloc (.cells B T2)).alloc (.cells C T3)) :
  Only NoB w W ∧ W.heap.size = w.heap.size + 1 + 1 + 1 ∧ Blk W w.heap.size T1 A ∧ Blk W (w.heap.size + 1) T2 B ∧ Blk W (w.heap.size + 1 + 1) T3 C := by
 subst hW
 have h1 := Blk.new w T1 A
 have h2 := Blk.new (w.alloc (.cells A T1)) T2 B
 have h3 := Blk.new ((w.alloc (.cells A T1)).alloc (.cells B T2)) T3 C
 rw [show (w.alloc (.cells A T1)).heap.size = w.heap.size + 1 by simp] at h2
 rw [show ((w.alloc (.cells A T1)).alloc (.cells B T2)).heap.size = w.heap.size + 1 + 1 by simp] at h3
 exact ⟨(((Only.refl NoB w).alloc _).alloc _).alloc _, by simp, (h1.alloc _).alloc _, h2.alloc _, h3⟩
set_option maxHeartbeats 2000000 in
theorem join_lf (h1 : NodeR w F pv kv cv ⟨true, ps, ks, cs⟩) (h2 : NodeR w F pv' kv' cv' ⟨true, ps', ks', cs'⟩) (hl : ps.length ≤ 10000) (hl' : ps'.length ≤ 10000) :
  Calls Tryz.prog 328 #[nodeV true pv kv cv, .string ⟨key.toArray⟩, nodeV true pv' kv' cv'] w (JoinOut w ⟨true, ps ++ ps', [], []⟩) := by
 obtain ⟨pA, pc, kA, kc, cA, cc, rfl, rfl, rfl⟩ := h1.shape
 obtain ⟨pA', pc', kA', kc', cA', cc', rfl, rfl, rfl⟩ := h2.shape
 simp only at h1 h2 ⊢
 obtain ⟨W3, hW3⟩ : ∃ W3, W3 = ((w.alloc (.cells #[.bool true, .slice pA ps.length pc, .slice kA ks.length kc, .slice cA cs.length cc] 200)).alloc (.cells #[.bool true, .slice pA' ps'.length pc', .slice kA' ks'.length kc', .slice cA' cs'.length cc'] 200)).alloc (.cells #[.bool false, .slice none 0 0, .slice none 0 0, .slice none 0 0] 200) := ⟨_, rfl⟩
 obtain ⟨ho3, hs3, hB1, hB2, hB3⟩ := two_box _ _ _ _ _ _ _ _ hW3
 obtain ⟨W4, hW4⟩ : ∃ W4, W4 = W3.alloc (.cells #[.slice pA ps.length pc, .slice pA' ps'.length pc'] 145) := ⟨_, rfl⟩
 have ho4 : Only NoB W3 W4 := by rw [hW4]; exact (Only.refl NoB W3).alloc _
 have hB4 : Blk W4 W3.heap.size 145 #[.slice pA ps.length pc, .slice pA' ps'.length pc'] := by rw [hW4]; exact Blk.new W3 _ _
 have hcc := concat_pair (c := 2) [⟨.slice pA ps.length pc, ps.length, pairL ps⟩, ⟨.slice pA' ps'.length pc', ps'.length, pairL ps'⟩] hB4 (fun p hp => by
  simp only [List.mem_cons, List.not_mem_nil, or_false] at hp
  rcases hp with rfl | rfl
  ·exact ⟨h1.pairs.only (ho3.trans ho4) fun _ _ => id, oneCell_pairs ps⟩
  ·exact ⟨h2.pairs.only (ho3.trans ho4) fun _ _ => id, oneCell_pairs ps'⟩) (by simp) (by simp [tot]; omega)
 rw [show tot [⟨.slice pA ps.length pc, ps.length, pairL ps⟩, ⟨.slice pA' ps'.length pc', ps'.length, pairL ps'⟩] = (ps ++ ps').length by simp [tot], show cat [⟨.slice pA ps.length pc, ps.length, pairL ps⟩, ⟨.slice pA' ps'.length pc', ps'.length, pairL ps'⟩] = pairL (ps ++ ps') by simp [cat, pairL_append], hs3] at hcc
 obtain ⟨ln, hln⟩ : ∃ ln, ln = (ps ++ ps').length := ⟨_, rfl⟩
 rw [← hln] at hcc
 have HLN := Lib.hid hln
 clear hln
 have HCC := Lib.hid hcc
 have n1 := hB1.cell 1
 have n0 := hB1.cell 0
 have m1 := hB2.cell 1
 rw [hW3] at n0 n1 m1
 have HB3 := Lib.hid (hB3.only ho4 id)
 have HO := Lib.hid (ho3.trans ho4)
 have HO4 := Lib.hid ho4
 rw [hW3] at hW4
 have HW4 := Lib.hid hW4
 clear h1 h2 hW3 ho3 hs3 hB1 hB2 hB3 hW4 ho4 hB4 hcc
 unfold nodeV
 go_enter Tryz.func328, Tryz.ntmps328
 go_wp2_with fail
 rw [← HW4.out]
 refine HCC.out.mono ?_
 rintro e5 w5 ⟨v5, rfl, hown, ho5⟩
 obtain ⟨A5, c5, rfl, _⟩ := hown.shape
 have hb5 := HB3.out.only ho5 id
 have x0 := hb5.cell 0
 have x1 := hb5.cell 1
 have x2 := hb5.cell 2
 have x3 := hb5.cell 3
 have y0 := hb5.frozen 0
 have y1 := hb5.frozen 1
 have y2 := hb5.frozen 2
 have y3 := hb5.frozen 3
 have HB5 := Lib.hid hb5
 have HOW := Lib.hid hown
 have HO5 := Lib.hid ho5
 clear hb5 hown ho5
 go_wp2_with fail
 (try simp only [Exit.inBlock, Exit.then])
 obtain ⟨hbf, hst⟩ := set4 HB5.out (.bool true) (.slice A5 ln c5) (.slice none 0 0) (.slice none 0 0)
 refine bodyPost_ret (results_row rfl _ _ (w.heap.size + 1 + 1) 200 _ rfl hbf (by kernel_rfl) (by kernel_rfl)) rfl ?_
 have hsz := HO.out.size
 have hsz4 := HO4.out.size
 refine ⟨_, _, _, rfl, ⟨by show Rd _ _ 2 _ (ps ++ ps').length _; rw [← HLN.out]; exact (HOW.out.rd.only hst fun k hk e => (by have h1 : W4.heap.size ≤ k := hk; have h2 : k = w.heap.size + 1 + 1 := e; have := HB3.out.lt; omega)).mono fun k hk _ => (by have h1 : W4.heap.size ≤ k := hk; show w.heap.size ≤ k; omega), Rd.nil _ _ _, Rd.nil _ _ _⟩, only_at (HO.out.trans HO5.out) hst (by omega)⟩
theorem join_parts {a b c : Part} (h1 : Rd w F 1 a.v a.n a.xs) (h2 : Rd w F 1 b.v b.n b.xs) (h3 : Rd w F 1 c.v c.n c.xs) (o1 : ∀ u ∈ a.xs, u.oneCell' = true) (o2 : ∀ u ∈ b.xs, u.oneCell' = true) (o3 : ∀ u ∈ c.xs, u.oneCell' = true) :
  ∀ p ∈ [a, b, c], Rd w F 1 p.v p.n p.xs ∧ ∀ u ∈ p.xs, u.oneCell' = true := by
 intro p hp
 simp only [List.mem_cons, List.not_mem_nil, or_false] at hp
 rcases hp with rfl | rfl | rfl
 ·exact ⟨h1, o1⟩
 ·exact ⟨h2, o2⟩
 ·exact ⟨h3, o3⟩
theorem join_parts2 {a b : Part} (h1 : Rd w F 1 a.v a.n a.xs) (h2 : Rd w F 1 b.v b.n b.xs) (o1 : ∀ u ∈ a.xs, u.oneCell' = true) (o2 : ∀ u ∈ b.xs, u.oneCell' = true) :
  ∀ p ∈ [a, b], Rd w F 1 p.v p.n p.xs ∧ ∀ u ∈ p.xs, u.oneCell' = true := by
 intro p hp
 simp only [List.mem_cons, List.not_mem_nil, or_false] at hp
 rcases hp with rfl | rfl
 ·exact ⟨h1, o1⟩
 ·exact ⟨h2, o2⟩
theorem join_end {l7 l13 : Nat} {W3 p7 z7 p13 z13 zf : World} {v7 v13 : Value} (ho : Only NoB w z13) (hst : Only (fun q => q = w.heap.size + 1 + 1) z13 zf) (hs3 : W3.heap.size = w.heap.size + 1 + 1 + 1) (h7 : Only NoB W3 p7) (h13 : Only NoB W3 p13) (h713 : Only NoB z7 z13)
  (o7 : Own z7 (From p7.heap.size) 9 1 v7 l7 ((ks ++ key :: ks').map strV)) (o13 : Own z13 (From p13.heap.size) 3 1 v13 l13 ((cs ++ cs').map natV))
  (hl7 : l7 = (ks ++ key :: ks').length) (hl13 : l13 = (cs ++ cs').length) : JoinOut w ⟨false, [], ks ++ key :: ks', cs ++ cs'⟩ (.returned (.agg #[.bool false, .slice none 0 0, v7, v13])) zf := by
 subst hl7; subst hl13
 have e7 := h7.size
 have e13 := h13.size
 refine ⟨_, _, _, rfl, ⟨Rd.nil _ _ _, ((o7.only h713 fun _ _ => id).rd.only hst fun k hk e => ?_).mono fun k hk _ => ?_, (o13.rd.only hst fun k hk e => ?_).mono fun k hk _ => ?_⟩, only_at ho hst (by omega)⟩
 ·have h1 : p7.heap.size ≤ k := hk
  have h2 : k = w.heap.size + 1 + 1 := e
  omega
 ·have h1 : p7.heap.size ≤ k := hk
  show w.heap.size ≤ k
  omega
 ·have h1 : p13.heap.size ≤ k := hk
  have h2 : k = w.heap.size + 1 + 1 := e
  omega
 ·have h1 : p13.heap.size ≤ k := hk
  show w.heap.size ≤ k
  omega
set_option maxHeartbeats 4000000 in
theorem join_in (h1 : NodeR w F pv kv cv ⟨false, ps, ks, cs⟩) (h2 : NodeR w F pv' kv' cv' ⟨false, ps', ks', cs'⟩) (hl : ks.length ≤ 10000) (hl' : ks'.length ≤ 10000) (hc : cs.length ≤ 10000) (hc' : cs'.length ≤ 10000) :
  Calls Tryz.prog 328 #[nodeV false pv kv cv, .string ⟨key.toArray⟩, nodeV false pv' kv' cv'] w (JoinOut w ⟨false, [], ks ++ key :: ks', cs ++ cs'⟩) := by
 obtain ⟨pA, pc, kA, kc, cA, cc, rfl, rfl, rfl⟩ := h1.shape
 obtain ⟨pA', pc', kA', kc', cA', cc', rfl, rfl, rfl⟩ := h2.shape
 simp only at h1 h2 ⊢
 obtain ⟨W3, hW3⟩ : ∃ W3, W3 = ((w.alloc (.cells #[.bool false, .slice pA ps.length pc, .slice kA ks.length kc, .slice cA cs.length cc] 200)).alloc (.cells #[.bool false, .slice pA' ps'.length pc', .slice kA' ks'.length kc', .slice cA' cs'.length cc'] 200)).alloc (.cells #[.bool false, .slice none 0 0, .slice none 0 0, .slice none 0 0] 200) := ⟨_, rfl⟩
 obtain ⟨ho3, hs3, hB1, hB2, hB3⟩ := two_box _ _ _ _ _ _ _ _ hW3
 have n0 := hB1.cell 0
 have n2 : W3.cell? _ = some _ := hB1.cell 2
 have n3 : W3.cell? _ = some _ := hB1.cell 3
 have m2 : W3.cell? _ = some _ := hB2.cell 2
 have m3 : W3.cell? _ = some _ := hB2.cell 3
 rw [hW3] at n0
 have HB3 := Lib.hid hB3
 have HO3 := Lib.hid ho3
 have HW3 := Lib.hid hW3
 have H1 := Lib.hid h1
 have H2 := Lib.hid h2
 have HS3 := Lib.hid hs3
 clear h1 h2 hW3 ho3 hs3 hB1 hB2 hB3
 obtain ⟨l7, hl7⟩ : ∃ l, l = (ks ++ key :: ks').length := ⟨_, rfl⟩
 obtain ⟨l13, hl13⟩ : ∃ l, l = (cs ++ cs').length := ⟨_, rfl⟩
 have HL7 := Lib.hid hl7
 have HL13 := Lib.hid hl13
 have HLS : Hid (ks.length ≤ 10000 ∧ ks'.length ≤ 10000 ∧ cs.length ≤ 10000 ∧ cs'.length ≤ 10000) := Lib.hid ⟨hl, hl', hc, hc'⟩
 clear hl7 hl13 hl hl' hc hc'
 unfold nodeV
 go_enter Tryz.func328, Tryz.ntmps328
 go_wp2_with fail
 rw [← HW3.out]
 refine hB _ 16 (fun w' => w'.cell? ⟨w.heap.size, 2, none⟩ = some (.slice kA ks.length kc) ∧ w'.cell? ⟨w.heap.size, 3, none⟩ = some (.slice cA cs.length cc) ∧ w'.cell? ⟨w.heap.size + 1, 2, none⟩ = some (.slice kA' ks'.length kc') ∧ w'.cell? ⟨w.heap.size + 1, 3, none⟩ = some (.slice cA' cs'.length cc')) (⟨n2, n3, m2, m3⟩) (fun hHeld => ?_)
 have HBR := HB3
 clear HB3
 obtain ⟨z0, hz0⟩ : ∃ z, z = W3.drew := ⟨_, rfl⟩
 rw [← hz0] at hHeld ⊢
 have ha0 : Only NoB W3 z0 := by rw [hz0]; exact (Only.refl NoB W3).drew
 clear hz0
 have HN2 : Hid (¬ (w.heap.size = w.heap.size + 1 + 1) ∧ ¬ (w.heap.size + 1 = w.heap.size + 1 + 1)) := Lib.hid ⟨by omega, by omega⟩
 refine hT 0 16 ?_
 refine hT 1 17 ?_
 refine hT 2 18 ?_
 refine hT 4 20 ?_
 refine hT 5 21 ?_
 refine hT 8 24 ?_
 refine hT 9 25 ?_
 refine hT 10 26 ?_
 refine hT 11 27 ?_
 refine hE2 3 12 (fun o ho K hK => ?_) (fun o ho K hK => ?_)
 ·cases ho
  go_simp
  obtain ⟨z3, hz3⟩ : ∃ z, z = z0.alloc (.cells #[.string ⟨key.toArray⟩] 9) := ⟨_, rfl⟩
  rw [← hz3]
  have hq3 : Only NoB z0 z3 := by rw [hz3]; exact (Only.refl NoB z0).alloc _
  have HB3 : Hid (Blk z3 z0.heap.size 9 #[.string ⟨key.toArray⟩]) := Lib.hid (by rw [hz3]; exact Blk.new z0 _ _)
  clear hz3
  have ha3 : Only NoB W3 z3 := ha0.trans hq3
  refine hK.out _ _ (⟨ha3.cell n2 id, ha3.cell n3 id, ha3.cell m2 id, ha3.cell m3 id⟩) (fun hHeld => ?_)
  clear hK K
  try simp only [Act.put, List.setIfInBounds_toArray, List.set_cons_zero, List.set_cons_succ]
  refine hE2 6 12 (fun o ho K hK => ?_) (fun o ho K hK => ?_)
  ·cases ho
   go_simp
   obtain ⟨z6, hz6⟩ : ∃ z, z = z3.alloc (.cells #[.slice kA ks.length kc, .slice (some ⟨z0.heap.size, 0, none⟩) 1 1, .slice kA' ks'.length kc'] 43) := ⟨_, rfl⟩
   rw [← hz6]
   have hq6 : Only NoB z3 z6 := by rw [hz6]; exact (Only.refl NoB z3).alloc _
   have HB6 : Hid (Blk z6 z3.heap.size 43 #[.slice kA ks.length kc, .slice (some ⟨z0.heap.size, 0, none⟩) 1 1, .slice kA' ks'.length kc']) := Lib.hid (by rw [hz6]; exact Blk.new z3 _ _)
   clear hz6
   have ha6 : Only NoB W3 z6 := ha3.trans hq6
   refine hK.out _ _ (⟨ha6.cell n2 id, ha6.cell n3 id, ha6.cell m2 id, ha6.cell m3 id⟩) (fun hHeld => ?_)
   clear hK K
   try simp only [Act.put, List.setIfInBounds_toArray, List.set_cons_zero, List.set_cons_succ]
   refine hE2 7 12 (fun o ho K hK => ?_) (fun o ho K hK => ?_)
   ·cases ho
    go_simp
    have hk1 := (H1.out.keys.only (HO3.out.trans ha6) fun _ _ => id).mono (G := fun _ => True) fun _ _ _ => trivial
    have hk2 := (H2.out.keys.only (HO3.out.trans ha6) fun _ _ => id).mono (G := fun _ => True) fun _ _ _ => trivial
    have hk3 : Rd z6 (fun _ => True) 1 (.slice (some ⟨z0.heap.size, 0, none⟩) 1 1) 1 [strV key] := (own_mk (F := fun _ => True) (size := 1) (cur := [.string ⟨key.toArray⟩]) (HB3.out.only ((Only.refl NoB z3).trans hq6) id) rfl (Nat.le_refl _) (by unfold maxLen; omega) rfl trivial).rd
    have hcc := concat_str (F := fun _ => True) (c := 3) [⟨.slice kA ks.length kc, ks.length, ks.map strV⟩, ⟨.slice (some ⟨z0.heap.size, 0, none⟩) 1 1, 1, [strV key]⟩, ⟨.slice kA' ks'.length kc', ks'.length, ks'.map strV⟩] (HB6.out.only (Only.refl NoB z6) id) (join_parts hk1 hk3 hk2 (oneCell_strs ks) (by simp [strV, Value.oneCell']) (oneCell_strs ks')) (by simp) (by have := HLS.out; simp [tot]; omega)
    rw [show tot [⟨.slice kA ks.length kc, ks.length, ks.map strV⟩, ⟨.slice (some ⟨z0.heap.size, 0, none⟩) 1 1, 1, [strV key]⟩, ⟨.slice kA' ks'.length kc', ks'.length, ks'.map strV⟩] = l7 by rw [HL7.out]; simp [tot]; omega, show cat [⟨.slice kA ks.length kc, ks.length, ks.map strV⟩, ⟨.slice (some ⟨z0.heap.size, 0, none⟩) 1 1, 1, [strV key]⟩, ⟨.slice kA' ks'.length kc', ks'.length, ks'.map strV⟩] = (ks ++ key :: ks').map strV by simp [cat]] at hcc
    refine hcc.mono ?_
    clear hcc hk1 hk2 hk3
    rintro e7 z7 ⟨v7, rfl, hown7, hq7⟩
    obtain ⟨A7, c7, rfl, _⟩ := hown7.shape
    have HOW7 := Lib.hid hown7
    clear hown7
    have ha7 : Only NoB W3 z7 := ha6.trans hq7
    refine hK.out _ _ (⟨ha7.cell n2 id, ha7.cell n3 id, ha7.cell m2 id, ha7.cell m3 id⟩) (fun hHeld => ?_)
    clear hK K
    try simp only [Act.put, List.setIfInBounds_toArray, List.set_cons_zero, List.set_cons_succ]
    refine hE 12 (fun o ho K hK => ?_)
    cases ho
    go_simp
    obtain ⟨z12, hz12⟩ : ∃ z, z = z7.alloc (.cells #[.slice cA cs.length cc, .slice cA' cs'.length cc'] 198) := ⟨_, rfl⟩
    rw [← hz12]
    have hq12 : Only NoB z7 z12 := by rw [hz12]; exact (Only.refl NoB z7).alloc _
    have HB12 : Hid (Blk z12 z7.heap.size 198 #[.slice cA cs.length cc, .slice cA' cs'.length cc']) := Lib.hid (by rw [hz12]; exact Blk.new z7 _ _)
    clear hz12
    have ha12 : Only NoB W3 z12 := ha7.trans hq12
    refine hK.out _ _ (⟨ha12.cell n2 id, ha12.cell n3 id, ha12.cell m2 id, ha12.cell m3 id⟩) (fun hHeld => ?_)
    clear hK K
    try simp only [Act.put, List.setIfInBounds_toArray, List.set_cons_zero, List.set_cons_succ]
    refine hE 13 (fun o ho K hK => ?_)
    cases ho
    go_simp
    have hk1 := (H1.out.kids.only (HO3.out.trans ha12) fun _ _ => id).mono (G := fun _ => True) fun _ _ _ => trivial
    have hk2 := (H2.out.kids.only (HO3.out.trans ha12) fun _ _ => id).mono (G := fun _ => True) fun _ _ _ => trivial
    have hcc := concat_nat (F := fun _ => True) (c := 2) [⟨.slice cA cs.length cc, cs.length, cs.map natV⟩, ⟨.slice cA' cs'.length cc', cs'.length, cs'.map natV⟩] (HB12.out.only (Only.refl NoB z12) id) (join_parts2 hk1 hk2 (oneCell_nats cs) (oneCell_nats cs')) (by simp) (by have := HLS.out; simp [tot]; omega)
    rw [show tot [⟨.slice cA cs.length cc, cs.length, cs.map natV⟩, ⟨.slice cA' cs'.length cc', cs'.length, cs'.map natV⟩] = l13 by rw [HL13.out]; simp [tot], show cat [⟨.slice cA cs.length cc, cs.length, cs.map natV⟩, ⟨.slice cA' cs'.length cc', cs'.length, cs'.map natV⟩] = (cs ++ cs').map natV by simp [cat]] at hcc
    refine hcc.mono ?_
    clear hcc hk1 hk2
    rintro e13 z13 ⟨v13, rfl, hown13, hq13⟩
    obtain ⟨A13, c13, rfl, _⟩ := hown13.shape
    have HOW13 := Lib.hid hown13
    clear hown13
    have ha13 : Only NoB W3 z13 := ha12.trans hq13
    have hb13 := HBR.out.only ha13 id
    obtain ⟨hbf, hst⟩ := set4 hb13 (.bool false) (.slice none 0 0) (.slice A7 l7 c7) (.slice A13 l13 c13)
    have x0 := hb13.cell 0
    have x1 := hb13.cell 1
    have x2 := hb13.cell 2
    have x3 := hb13.cell 3
    have y0 := hb13.frozen 0
    have y1 := hb13.frozen 1
    have y2 := hb13.frozen 2
    have y3 := hb13.frozen 3
    have HBF := Lib.hid hbf
    have HST := Lib.hid hst
    clear hbf hst hb13
    refine hK.out _ _ (⟨ha13.cell n2 id, ha13.cell n3 id, ha13.cell m2 id, ha13.cell m3 id⟩) (fun hHeld => ?_)
    clear hK K
    try simp only [Act.put, List.setIfInBounds_toArray, List.set_cons_zero, List.set_cons_succ]
    refine hT 14 30 ?_
    refine hE 15 (fun o ho K hK => ?_)
    cases ho
    go_simp
    skip
    refine hK.out _ _ (⟨HST.out.cell (ha13.cell n2 id) HN2.out.1, HST.out.cell (ha13.cell n3 id) HN2.out.1, HST.out.cell (ha13.cell m2 id) HN2.out.2, HST.out.cell (ha13.cell m3 id) HN2.out.2⟩) (fun hHeld => ?_)
    clear hK K
    try simp only [Act.put, List.setIfInBounds_toArray, List.set_cons_zero, List.set_cons_succ]
    refine wpAnyH_done (by kernel_rfl) ?_ _
    refine NoPanic.normal ?_
    go_wp2_with fail
    (try simp only [Exit.inBlock, Exit.then])
    refine bodyPost_ret (results_row rfl _ _ (w.heap.size + 1 + 1) 200 _ rfl HBF.out (by kernel_rfl) (by kernel_rfl)) rfl ?_
    exact join_end (HO3.out.trans ha13) HST.out HS3.out ha6 ha12 (((Only.refl NoB z7).trans hq12).trans hq13) HOW7.out HOW13.out HL7.out HL13.out
   ·cases ho
    go_simp
    obtain ⟨z12, hz12⟩ : ∃ z, z = z6.alloc (.cells #[.slice cA cs.length cc, .slice cA' cs'.length cc'] 198) := ⟨_, rfl⟩
    rw [← hz12]
    have hq12 : Only NoB z6 z12 := by rw [hz12]; exact (Only.refl NoB z6).alloc _
    have HB12 : Hid (Blk z12 z6.heap.size 198 #[.slice cA cs.length cc, .slice cA' cs'.length cc']) := Lib.hid (by rw [hz12]; exact Blk.new z6 _ _)
    clear hz12
    have ha12 : Only NoB W3 z12 := ha6.trans hq12
    refine hK.out _ _ (⟨ha12.cell n2 id, ha12.cell n3 id, ha12.cell m2 id, ha12.cell m3 id⟩) (fun hHeld => ?_)
    clear hK K
    try simp only [Act.put, List.setIfInBounds_toArray, List.set_cons_zero, List.set_cons_succ]
    refine hE 7 (fun o ho K hK => ?_)
    cases ho
    go_simp
    have hk1 := (H1.out.keys.only (HO3.out.trans ha12) fun _ _ => id).mono (G := fun _ => True) fun _ _ _ => trivial
    have hk2 := (H2.out.keys.only (HO3.out.trans ha12) fun _ _ => id).mono (G := fun _ => True) fun _ _ _ => trivial
    have hk3 : Rd z12 (fun _ => True) 1 (.slice (some ⟨z0.heap.size, 0, none⟩) 1 1) 1 [strV key] := (own_mk (F := fun _ => True) (size := 1) (cur := [.string ⟨key.toArray⟩]) (HB3.out.only (((Only.refl NoB z3).trans hq6).trans hq12) id) rfl (Nat.le_refl _) (by unfold maxLen; omega) rfl trivial).rd
    have hcc := concat_str (F := fun _ => True) (c := 3) [⟨.slice kA ks.length kc, ks.length, ks.map strV⟩, ⟨.slice (some ⟨z0.heap.size, 0, none⟩) 1 1, 1, [strV key]⟩, ⟨.slice kA' ks'.length kc', ks'.length, ks'.map strV⟩] (HB6.out.only ((Only.refl NoB z6).trans hq12) id) (join_parts hk1 hk3 hk2 (oneCell_strs ks) (by simp [strV, Value.oneCell']) (oneCell_strs ks')) (by simp) (by have := HLS.out; simp [tot]; omega)
    rw [show tot [⟨.slice kA ks.length kc, ks.length, ks.map strV⟩, ⟨.slice (some ⟨z0.heap.size, 0, none⟩) 1 1, 1, [strV key]⟩, ⟨.slice kA' ks'.length kc', ks'.length, ks'.map strV⟩] = l7 by rw [HL7.out]; simp [tot]; omega, show cat [⟨.slice kA ks.length kc, ks.length, ks.map strV⟩, ⟨.slice (some ⟨z0.heap.size, 0, none⟩) 1 1, 1, [strV key]⟩, ⟨.slice kA' ks'.length kc', ks'.length, ks'.map strV⟩] = (ks ++ key :: ks').map strV by simp [cat]] at hcc
    refine hcc.mono ?_
    clear hcc hk1 hk2 hk3
    rintro e7 z7 ⟨v7, rfl, hown7, hq7⟩
    obtain ⟨A7, c7, rfl, _⟩ := hown7.shape
    have HOW7 := Lib.hid hown7
    clear hown7
    have ha7 : Only NoB W3 z7 := ha12.trans hq7
    refine hK.out _ _ (⟨ha7.cell n2 id, ha7.cell n3 id, ha7.cell m2 id, ha7.cell m3 id⟩) (fun hHeld => ?_)
    clear hK K
    try simp only [Act.put, List.setIfInBounds_toArray, List.set_cons_zero, List.set_cons_succ]
    refine hE 13 (fun o ho K hK => ?_)
    cases ho
    go_simp
    have hk1 := (H1.out.kids.only (HO3.out.trans ha7) fun _ _ => id).mono (G := fun _ => True) fun _ _ _ => trivial
    have hk2 := (H2.out.kids.only (HO3.out.trans ha7) fun _ _ => id).mono (G := fun _ => True) fun _ _ _ => trivial
    have hcc := concat_nat (F := fun _ => True) (c := 2) [⟨.slice cA cs.length cc, cs.length, cs.map natV⟩, ⟨.slice cA' cs'.length cc', cs'.length, cs'.map natV⟩] (HB12.out.only ((Only.refl NoB z12).trans hq7) id) (join_parts2 hk1 hk2 (oneCell_nats cs) (oneCell_nats cs')) (by simp) (by have := HLS.out; simp [tot]; omega)
    rw [show tot [⟨.slice cA cs.length cc, cs.length, cs.map natV⟩, ⟨.slice cA' cs'.length cc', cs'.length, cs'.map natV⟩] = l13 by rw [HL13.out]; simp [tot], show cat [⟨.slice cA cs.length cc, cs.length, cs.map natV⟩, ⟨.slice cA' cs'.length cc', cs'.length, cs'.map natV⟩] = (cs ++ cs').map natV by simp [cat]] at hcc
    refine hcc.mono ?_
    clear hcc hk1 hk2
    rintro e13 z13 ⟨v13, rfl, hown13, hq13⟩
    obtain ⟨A13, c13, rfl, _⟩ := hown13.shape
    have HOW13 := Lib.hid hown13
    clear hown13
    have ha13 : Only NoB W3 z13 := ha7.trans hq13
    have hb13 := HBR.out.only ha13 id
    obtain ⟨hbf, hst⟩ := set4 hb13 (.bool false) (.slice none 0 0) (.slice A7 l7 c7) (.slice A13 l13 c13)
    have x0 := hb13.cell 0
    have x1 := hb13.cell 1
    have x2 := hb13.cell 2
    have x3 := hb13.cell 3
    have y0 := hb13.frozen 0
    have y1 := hb13.frozen 1
    have y2 := hb13.frozen 2
    have y3 := hb13.frozen 3
    have HBF := Lib.hid hbf
    have HST := Lib.hid hst
    clear hbf hst hb13
    refine hK.out _ _ (⟨ha13.cell n2 id, ha13.cell n3 id, ha13.cell m2 id, ha13.cell m3 id⟩) (fun hHeld => ?_)
    clear hK K
    try simp only [Act.put, List.setIfInBounds_toArray, List.set_cons_zero, List.set_cons_succ]
    refine hT 14 30 ?_
    refine hE 15 (fun o ho K hK => ?_)
    cases ho
    go_simp
    skip
    refine hK.out _ _ (⟨HST.out.cell (ha13.cell n2 id) HN2.out.1, HST.out.cell (ha13.cell n3 id) HN2.out.1, HST.out.cell (ha13.cell m2 id) HN2.out.2, HST.out.cell (ha13.cell m3 id) HN2.out.2⟩) (fun hHeld => ?_)
    clear hK K
    try simp only [Act.put, List.setIfInBounds_toArray, List.set_cons_zero, List.set_cons_succ]
    refine wpAnyH_done (by kernel_rfl) ?_ _
    refine NoPanic.normal ?_
    go_wp2_with fail
    (try simp only [Exit.inBlock, Exit.then])
    refine bodyPost_ret (results_row rfl _ _ (w.heap.size + 1 + 1) 200 _ rfl HBF.out (by kernel_rfl) (by kernel_rfl)) rfl ?_
    exact join_end (HO3.out.trans ha13) HST.out HS3.out ha12 ha7 ((Only.refl NoB z7).trans hq13) HOW7.out HOW13.out HL7.out HL13.out
  ·cases ho
   go_simp
   obtain ⟨z12, hz12⟩ : ∃ z, z = z3.alloc (.cells #[.slice cA cs.length cc, .slice cA' cs'.length cc'] 198) := ⟨_, rfl⟩
   rw [← hz12]
   have hq12 : Only NoB z3 z12 := by rw [hz12]; exact (Only.refl NoB z3).alloc _
   have HB12 : Hid (Blk z12 z3.heap.size 198 #[.slice cA cs.length cc, .slice cA' cs'.length cc']) := Lib.hid (by rw [hz12]; exact Blk.new z3 _ _)
   clear hz12
   have ha12 : Only NoB W3 z12 := ha3.trans hq12
   refine hK.out _ _ (⟨ha12.cell n2 id, ha12.cell n3 id, ha12.cell m2 id, ha12.cell m3 id⟩) (fun hHeld => ?_)
   clear hK K
   try simp only [Act.put, List.setIfInBounds_toArray, List.set_cons_zero, List.set_cons_succ]
   refine hE 6 (fun o ho K hK => ?_)
   cases ho
   go_simp
   obtain ⟨z6, hz6⟩ : ∃ z, z = z12.alloc (.cells #[.slice kA ks.length kc, .slice (some ⟨z0.heap.size, 0, none⟩) 1 1, .slice kA' ks'.length kc'] 43) := ⟨_, rfl⟩
   rw [← hz6]
   have hq6 : Only NoB z12 z6 := by rw [hz6]; exact (Only.refl NoB z12).alloc _
   have HB6 : Hid (Blk z6 z12.heap.size 43 #[.slice kA ks.length kc, .slice (some ⟨z0.heap.size, 0, none⟩) 1 1, .slice kA' ks'.length kc']) := Lib.hid (by rw [hz6]; exact Blk.new z12 _ _)
   clear hz6
   have ha6 : Only NoB W3 z6 := ha12.trans hq6
   refine hK.out _ _ (⟨ha6.cell n2 id, ha6.cell n3 id, ha6.cell m2 id, ha6.cell m3 id⟩) (fun hHeld => ?_)
   clear hK K
   try simp only [Act.put, List.setIfInBounds_toArray, List.set_cons_zero, List.set_cons_succ]
   refine hE 7 (fun o ho K hK => ?_)
   cases ho
   go_simp
   have hk1 := (H1.out.keys.only (HO3.out.trans ha6) fun _ _ => id).mono (G := fun _ => True) fun _ _ _ => trivial
   have hk2 := (H2.out.keys.only (HO3.out.trans ha6) fun _ _ => id).mono (G := fun _ => True) fun _ _ _ => trivial
   have hk3 : Rd z6 (fun _ => True) 1 (.slice (some ⟨z0.heap.size, 0, none⟩) 1 1) 1 [strV key] := (own_mk (F := fun _ => True) (size := 1) (cur := [.string ⟨key.toArray⟩]) (HB3.out.only (((Only.refl NoB z3).trans hq12).trans hq6) id) rfl (Nat.le_refl _) (by unfold maxLen; omega) rfl trivial).rd
   have hcc := concat_str (F := fun _ => True) (c := 3) [⟨.slice kA ks.length kc, ks.length, ks.map strV⟩, ⟨.slice (some ⟨z0.heap.size, 0, none⟩) 1 1, 1, [strV key]⟩, ⟨.slice kA' ks'.length kc', ks'.length, ks'.map strV⟩] (HB6.out.only (Only.refl NoB z6) id) (join_parts hk1 hk3 hk2 (oneCell_strs ks) (by simp [strV, Value.oneCell']) (oneCell_strs ks')) (by simp) (by have := HLS.out; simp [tot]; omega)
   rw [show tot [⟨.slice kA ks.length kc, ks.length, ks.map strV⟩, ⟨.slice (some ⟨z0.heap.size, 0, none⟩) 1 1, 1, [strV key]⟩, ⟨.slice kA' ks'.length kc', ks'.length, ks'.map strV⟩] = l7 by rw [HL7.out]; simp [tot]; omega, show cat [⟨.slice kA ks.length kc, ks.length, ks.map strV⟩, ⟨.slice (some ⟨z0.heap.size, 0, none⟩) 1 1, 1, [strV key]⟩, ⟨.slice kA' ks'.length kc', ks'.length, ks'.map strV⟩] = (ks ++ key :: ks').map strV by simp [cat]] at hcc
   refine hcc.mono ?_
   clear hcc hk1 hk2 hk3
   rintro e7 z7 ⟨v7, rfl, hown7, hq7⟩
   obtain ⟨A7, c7, rfl, _⟩ := hown7.shape
   have HOW7 := Lib.hid hown7
   clear hown7
   have ha7 : Only NoB W3 z7 := ha6.trans hq7
   refine hK.out _ _ (⟨ha7.cell n2 id, ha7.cell n3 id, ha7.cell m2 id, ha7.cell m3 id⟩) (fun hHeld => ?_)
   clear hK K
   try simp only [Act.put, List.setIfInBounds_toArray, List.set_cons_zero, List.set_cons_succ]
   refine hE 13 (fun o ho K hK => ?_)
   cases ho
   go_simp
   have hk1 := (H1.out.kids.only (HO3.out.trans ha7) fun _ _ => id).mono (G := fun _ => True) fun _ _ _ => trivial
   have hk2 := (H2.out.kids.only (HO3.out.trans ha7) fun _ _ => id).mono (G := fun _ => True) fun _ _ _ => trivial
   have hcc := concat_nat (F := fun _ => True) (c := 2) [⟨.slice cA cs.length cc, cs.length, cs.map natV⟩, ⟨.slice cA' cs'.length cc', cs'.length, cs'.map natV⟩] (HB12.out.only (((Only.refl NoB z12).trans hq6).trans hq7) id) (join_parts2 hk1 hk2 (oneCell_nats cs) (oneCell_nats cs')) (by simp) (by have := HLS.out; simp [tot]; omega)
   rw [show tot [⟨.slice cA cs.length cc, cs.length, cs.map natV⟩, ⟨.slice cA' cs'.length cc', cs'.length, cs'.map natV⟩] = l13 by rw [HL13.out]; simp [tot], show cat [⟨.slice cA cs.length cc, cs.length, cs.map natV⟩, ⟨.slice cA' cs'.length cc', cs'.length, cs'.map natV⟩] = (cs ++ cs').map natV by simp [cat]] at hcc
   refine hcc.mono ?_
   clear hcc hk1 hk2
   rintro e13 z13 ⟨v13, rfl, hown13, hq13⟩
   obtain ⟨A13, c13, rfl, _⟩ := hown13.shape
   have HOW13 := Lib.hid hown13
   clear hown13
   have ha13 : Only NoB W3 z13 := ha7.trans hq13
   have hb13 := HBR.out.only ha13 id
   obtain ⟨hbf, hst⟩ := set4 hb13 (.bool false) (.slice none 0 0) (.slice A7 l7 c7) (.slice A13 l13 c13)
   have x0 := hb13.cell 0
   have x1 := hb13.cell 1
   have x2 := hb13.cell 2
   have x3 := hb13.cell 3
   have y0 := hb13.frozen 0
   have y1 := hb13.frozen 1
   have y2 := hb13.frozen 2
   have y3 := hb13.frozen 3
   have HBF := Lib.hid hbf
   have HST := Lib.hid hst
   clear hbf hst hb13
   refine hK.out _ _ (⟨ha13.cell n2 id, ha13.cell n3 id, ha13.cell m2 id, ha13.cell m3 id⟩) (fun hHeld => ?_)
   clear hK K
   try simp only [Act.put, List.setIfInBounds_toArray, List.set_cons_zero, List.set_cons_succ]
   refine hT 14 30 ?_
   refine hE 15 (fun o ho K hK => ?_)
   cases ho
   go_simp
   skip
   refine hK.out _ _ (⟨HST.out.cell (ha13.cell n2 id) HN2.out.1, HST.out.cell (ha13.cell n3 id) HN2.out.1, HST.out.cell (ha13.cell m2 id) HN2.out.2, HST.out.cell (ha13.cell m3 id) HN2.out.2⟩) (fun hHeld => ?_)
   clear hK K
   try simp only [Act.put, List.setIfInBounds_toArray, List.set_cons_zero, List.set_cons_succ]
   refine wpAnyH_done (by kernel_rfl) ?_ _
   refine NoPanic.normal ?_
   go_wp2_with fail
   (try simp only [Exit.inBlock, Exit.then])
   refine bodyPost_ret (results_row rfl _ _ (w.heap.size + 1 + 1) 200 _ rfl HBF.out (by kernel_rfl) (by kernel_rfl)) rfl ?_
   exact join_end (HO3.out.trans ha13) HST.out HS3.out ha6 ha7 ((Only.refl NoB z7).trans hq13) HOW7.out HOW13.out HL7.out HL13.out
 ·cases ho
  go_simp
  obtain ⟨z12, hz12⟩ : ∃ z, z = z0.alloc (.cells #[.slice cA cs.length cc, .slice cA' cs'.length cc'] 198) := ⟨_, rfl⟩
  rw [← hz12]
  have hq12 : Only NoB z0 z12 := by rw [hz12]; exact (Only.refl NoB z0).alloc _
  have HB12 : Hid (Blk z12 z0.heap.size 198 #[.slice cA cs.length cc, .slice cA' cs'.length cc']) := Lib.hid (by rw [hz12]; exact Blk.new z0 _ _)
  clear hz12
  have ha12 : Only NoB W3 z12 := ha0.trans hq12
  refine hK.out _ _ (⟨ha12.cell n2 id, ha12.cell n3 id, ha12.cell m2 id, ha12.cell m3 id⟩) (fun hHeld => ?_)
  clear hK K
  try simp only [Act.put, List.setIfInBounds_toArray, List.set_cons_zero, List.set_cons_succ]
  refine hE 3 (fun o ho K hK => ?_)
  cases ho
  go_simp
  obtain ⟨z3, hz3⟩ : ∃ z, z = z12.alloc (.cells #[.string ⟨key.toArray⟩] 9) := ⟨_, rfl⟩
  rw [← hz3]
  have hq3 : Only NoB z12 z3 := by rw [hz3]; exact (Only.refl NoB z12).alloc _
  have HB3 : Hid (Blk z3 z12.heap.size 9 #[.string ⟨key.toArray⟩]) := Lib.hid (by rw [hz3]; exact Blk.new z12 _ _)
  clear hz3
  have ha3 : Only NoB W3 z3 := ha12.trans hq3
  refine hK.out _ _ (⟨ha3.cell n2 id, ha3.cell n3 id, ha3.cell m2 id, ha3.cell m3 id⟩) (fun hHeld => ?_)
  clear hK K
  try simp only [Act.put, List.setIfInBounds_toArray, List.set_cons_zero, List.set_cons_succ]
  refine hE 6 (fun o ho K hK => ?_)
  cases ho
  go_simp
  obtain ⟨z6, hz6⟩ : ∃ z, z = z3.alloc (.cells #[.slice kA ks.length kc, .slice (some ⟨z12.heap.size, 0, none⟩) 1 1, .slice kA' ks'.length kc'] 43) := ⟨_, rfl⟩
  rw [← hz6]
  have hq6 : Only NoB z3 z6 := by rw [hz6]; exact (Only.refl NoB z3).alloc _
  have HB6 : Hid (Blk z6 z3.heap.size 43 #[.slice kA ks.length kc, .slice (some ⟨z12.heap.size, 0, none⟩) 1 1, .slice kA' ks'.length kc']) := Lib.hid (by rw [hz6]; exact Blk.new z3 _ _)
  clear hz6
  have ha6 : Only NoB W3 z6 := ha3.trans hq6
  refine hK.out _ _ (⟨ha6.cell n2 id, ha6.cell n3 id, ha6.cell m2 id, ha6.cell m3 id⟩) (fun hHeld => ?_)
  clear hK K
  try simp only [Act.put, List.setIfInBounds_toArray, List.set_cons_zero, List.set_cons_succ]
  refine hE 7 (fun o ho K hK => ?_)
  cases ho
  go_simp
  have hk1 := (H1.out.keys.only (HO3.out.trans ha6) fun _ _ => id).mono (G := fun _ => True) fun _ _ _ => trivial
  have hk2 := (H2.out.keys.only (HO3.out.trans ha6) fun _ _ => id).mono (G := fun _ => True) fun _ _ _ => trivial
  have hk3 : Rd z6 (fun _ => True) 1 (.slice (some ⟨z12.heap.size, 0, none⟩) 1 1) 1 [strV key] := (own_mk (F := fun _ => True) (size := 1) (cur := [.string ⟨key.toArray⟩]) (HB3.out.only ((Only.refl NoB z3).trans hq6) id) rfl (Nat.le_refl _) (by unfold maxLen; omega) rfl trivial).rd
  have hcc := concat_str (F := fun _ => True) (c := 3) [⟨.slice kA ks.length kc, ks.length, ks.map strV⟩, ⟨.slice (some ⟨z12.heap.size, 0, none⟩) 1 1, 1, [strV key]⟩, ⟨.slice kA' ks'.length kc', ks'.length, ks'.map strV⟩] (HB6.out.only (Only.refl NoB z6) id) (join_parts hk1 hk3 hk2 (oneCell_strs ks) (by simp [strV, Value.oneCell']) (oneCell_strs ks')) (by simp) (by have := HLS.out; simp [tot]; omega)
  rw [show tot [⟨.slice kA ks.length kc, ks.length, ks.map strV⟩, ⟨.slice (some ⟨z12.heap.size, 0, none⟩) 1 1, 1, [strV key]⟩, ⟨.slice kA' ks'.length kc', ks'.length, ks'.map strV⟩] = l7 by rw [HL7.out]; simp [tot]; omega, show cat [⟨.slice kA ks.length kc, ks.length, ks.map strV⟩, ⟨.slice (some ⟨z12.heap.size, 0, none⟩) 1 1, 1, [strV key]⟩, ⟨.slice kA' ks'.length kc', ks'.length, ks'.map strV⟩] = (ks ++ key :: ks').map strV by simp [cat]] at hcc
  refine hcc.mono ?_
  clear hcc hk1 hk2 hk3
  rintro e7 z7 ⟨v7, rfl, hown7, hq7⟩
  obtain ⟨A7, c7, rfl, _⟩ := hown7.shape
  have HOW7 := Lib.hid hown7
  clear hown7
  have ha7 : Only NoB W3 z7 := ha6.trans hq7
  refine hK.out _ _ (⟨ha7.cell n2 id, ha7.cell n3 id, ha7.cell m2 id, ha7.cell m3 id⟩) (fun hHeld => ?_)
  clear hK K
  try simp only [Act.put, List.setIfInBounds_toArray, List.set_cons_zero, List.set_cons_succ]
  refine hE 13 (fun o ho K hK => ?_)
  cases ho
  go_simp
  have hk1 := (H1.out.kids.only (HO3.out.trans ha7) fun _ _ => id).mono (G := fun _ => True) fun _ _ _ => trivial
  have hk2 := (H2.out.kids.only (HO3.out.trans ha7) fun _ _ => id).mono (G := fun _ => True) fun _ _ _ => trivial
  have hcc := concat_nat (F := fun _ => True) (c := 2) [⟨.slice cA cs.length cc, cs.length, cs.map natV⟩, ⟨.slice cA' cs'.length cc', cs'.length, cs'.map natV⟩] (HB12.out.only ((((Only.refl NoB z12).trans hq3).trans hq6).trans hq7) id) (join_parts2 hk1 hk2 (oneCell_nats cs) (oneCell_nats cs')) (by simp) (by have := HLS.out; simp [tot]; omega)
  rw [show tot [⟨.slice cA cs.length cc, cs.length, cs.map natV⟩, ⟨.slice cA' cs'.length cc', cs'.length, cs'.map natV⟩] = l13 by rw [HL13.out]; simp [tot], show cat [⟨.slice cA cs.length cc, cs.length, cs.map natV⟩, ⟨.slice cA' cs'.length cc', cs'.length, cs'.map natV⟩] = (cs ++ cs').map natV by simp [cat]] at hcc
  refine hcc.mono ?_
  clear hcc hk1 hk2
  rintro e13 z13 ⟨v13, rfl, hown13, hq13⟩
  obtain ⟨A13, c13, rfl, _⟩ := hown13.shape
  have HOW13 := Lib.hid hown13
  clear hown13
  have ha13 : Only NoB W3 z13 := ha7.trans hq13
  have hb13 := HBR.out.only ha13 id
  obtain ⟨hbf, hst⟩ := set4 hb13 (.bool false) (.slice none 0 0) (.slice A7 l7 c7) (.slice A13 l13 c13)
  have x0 := hb13.cell 0
  have x1 := hb13.cell 1
  have x2 := hb13.cell 2
  have x3 := hb13.cell 3
  have y0 := hb13.frozen 0
  have y1 := hb13.frozen 1
  have y2 := hb13.frozen 2
  have y3 := hb13.frozen 3
  have HBF := Lib.hid hbf
  have HST := Lib.hid hst
  clear hbf hst hb13
  refine hK.out _ _ (⟨ha13.cell n2 id, ha13.cell n3 id, ha13.cell m2 id, ha13.cell m3 id⟩) (fun hHeld => ?_)
  clear hK K
  try simp only [Act.put, List.setIfInBounds_toArray, List.set_cons_zero, List.set_cons_succ]
  refine hT 14 30 ?_
  refine hE 15 (fun o ho K hK => ?_)
  cases ho
  go_simp
  skip
  refine hK.out _ _ (⟨HST.out.cell (ha13.cell n2 id) HN2.out.1, HST.out.cell (ha13.cell n3 id) HN2.out.1, HST.out.cell (ha13.cell m2 id) HN2.out.2, HST.out.cell (ha13.cell m3 id) HN2.out.2⟩) (fun hHeld => ?_)
  clear hK K
  try simp only [Act.put, List.setIfInBounds_toArray, List.set_cons_zero, List.set_cons_succ]
  refine wpAnyH_done (by kernel_rfl) ?_ _
  refine NoPanic.normal ?_
  go_wp2_with fail
  (try simp only [Exit.inBlock, Exit.then])
  refine bodyPost_ret (results_row rfl _ _ (w.heap.size + 1 + 1) 200 _ rfl HBF.out (by kernel_rfl) (by kernel_rfl)) rfl ?_
  exact join_end (HO3.out.trans ha13) HST.out HS3.out ha6 ha7 ((Only.refl NoB z7).trans hq13) HOW7.out HOW13.out HL7.out HL13.out
end
end Go.Proofs.YtpjfheadolphgaaGreat
namespace Go.Proofs.YtpjfheadolphgaaGreat
open Go.RowKit Go.Proofs
set_option maxRecDepth 20000
section
variable {w w' : World} {F G N K : Nat → Prop} {X : XC} {t x p r c h m k i o : Nat} {D D' : PD} {v pv kv cv pv' kv' cv' : Value} {M ps ps' : List KV} {key va : Str} {ks ks' : List Str} {cs cs' : List Nat} {hi : Option Str} {e y z : Ent} {n a b : NodeD} {ys zs f1 f2 : List Ent}
def EditOut (w : World) (F N : Nat → Prop) (X : XC) (x t o : Nat) (D' : PD) (n' : NodeD) (en : Ending) (w' : World) : Prop :=
 en = .returned (.int .i64 0) ∧ ∃ F' N' pv kv cv, TreeAt w' F' X x t D' ∧ Blk w' o 200 #[.bool n'.leaf, pv, kv, cv] ∧ NodeR w' N' pv kv cv n' ∧ (∀ k, N' k → ¬ F' k ∧ (N k ∨ w.heap.size ≤ k)) ∧ ¬ F' o ∧ Only (fun k => F k ∨ k = o ∨ N k) w w' ∧ Grows F F' w
theorem join_ok (h1 : NodeR w F pv kv cv a) (h2 : NodeR w F pv' kv' cv' b) (hl : a.leaf = b.leaf) (s1 : a.keys.length ≤ 10000 ∧ a.pairs.length ≤ 10000 ∧ a.children.length ≤ 10000) (s2 : b.keys.length ≤ 10000 ∧ b.pairs.length ≤ 10000 ∧ b.children.length ≤ 10000) :
  Calls Tryz.prog 328 #[nodeV a.leaf pv kv cv, .string ⟨key.toArray⟩, nodeV b.leaf pv' kv' cv'] w (JoinOut w (joinN a key b)) := by
 obtain ⟨l1, ps, ks, cs⟩ := a
 obtain ⟨l2, ps', ks', cs'⟩ := b
 simp only at hl s1 s2 ⊢
 subst hl
 cases l1 with
 | true => exact join_lf h1 h2 s1.2.1 s2.2.1
 | false => exact join_in h1 h2 s1.1 s2.1 s1.2.2 s2.2.2
structure MendAt (D : PD) (n : NodeD) (j : Nat) (p q : Nat) (key : Str) (na nb : NodeD) : Prop where
 leaf : n.leaf = false
 pq : n.children[j]? = some p ∧ n.children[j + 1]? = some q
 fk : n.keys[j]? = some key
 fp : D.is p = true ∧ D.used p = true ∧ D.page p = na.bytes D.m ∧ na.Ok D.m ∧ (na.leaf = true → na.pairs ≠ [])
 fq : D.is q = true ∧ D.used q = true ∧ D.page q = nb.bytes D.m ∧ nb.Ok D.m ∧ (nb.leaf = true → nb.pairs ≠ [])
 alike : na.leaf = nb.leaf
 kl : key.length ≤ 255
 ok : (joinN na key nb).size ≤ D.m → (joinN na key nb).Ok D.m
 ne : p ≠ q
 root : q ≠ D.root
 np : n.pairs = []
 lens : n.children.length = n.keys.length + 1 ∧ n.children.length ≤ 4096 ∧ j < n.keys.length
def mendD (D : PD) (p q : Nat) (key : Str) (na nb : NodeD) : PD := if (joinN na key nb).size ≤ D.m then PD.turn q false (PD.putPage p ((joinN na key nb).bytes D.m) D) else D
def mendN (D : PD) (n : NodeD) (j : Nat) (key : Str) (na nb : NodeD) : NodeD := if (joinN na key nb).size ≤ D.m then ⟨false, n.pairs, delAt n.keys j, delAt n.children (j + 1)⟩ else n
theorem pairL_del (ps : List KV) (i : Nat) : pairL (delAt ps i) = (pairL ps).take (i * 2) ++ (pairL ps).drop ((i + 1) * 2) := by
 unfold delAt; rw [pairL_append, pairL_takeN, pairL_dropN]
theorem del_pair' (hv : Own w F 83 2 v ps.length (pairL ps)) (hi : i < ps.length) (hl : ps.length ≤ 1000000) :
  Calls Tryz.prog 230 #[v, .int .i64 i, .int .i64 ((i : Int) + 1)] w (SlOut w 83 2 v (ps.length - 1) (pairL (delAt ps i))) := by
 obtain ⟨l, hl2⟩ : ∃ l, ps.length = l + 1 := ⟨ps.length - 1, by omega⟩
 rw [hl2] at hv hi hl
 rw [pairL_del, hl2]
 exact del_pair hv (by omega) (by omega) (oneCell_pairs ps)
theorem del_str' (hv : Own w F 9 1 v ks.length (ks.map strV)) (hi : i < ks.length) (hl : ks.length ≤ 1000000) :
  Calls Tryz.prog 121 #[v, .int .i64 i, .int .i64 ((i : Int) + 1)] w (SlOut w 9 1 v (ks.length - 1) ((delAt ks i).map strV)) := by
 obtain ⟨l, hl2⟩ : ∃ l, ks.length = l + 1 := ⟨ks.length - 1, by omega⟩
 rw [hl2] at hv hi hl
 unfold delAt
 rw [hl2, List.map_append, List.map_take, List.map_drop]
 exact del_str hv (by omega) (by omega) (oneCell_strs ks)
theorem del_nat' (hv : Own w F 3 1 v cs.length (cs.map natV)) (hi : i < cs.length) (hl : cs.length ≤ 1000000) :
  Calls Tryz.prog 290 #[v, .int .i64 i, .int .i64 ((i : Int) + 1)] w (SlOut w 3 1 v (cs.length - 1) ((delAt cs i).map natV)) := by
 obtain ⟨l, hl2⟩ : ∃ l, cs.length = l + 1 := ⟨cs.length - 1, by omega⟩
 rw [hl2] at hv hi hl
 unfold delAt
 rw [hl2, List.map_append, List.map_take, List.map_drop]
 exact del_nat hv (by omega) (by omega) (oneCell_nats cs)
def MendMid (W : World) (n : NodeD) (s12 : Value) (wc : World) : Prop :=
 ∃ o12 pv kv cv, s12 = .pointer (some ⟨o12, 0, none⟩) ∧ Blk wc o12 200 #[.bool n.leaf, pv, kv, cv] ∧ NodeR wc (From W.heap.size) pv kv cv n ∧ Only NoB W wc ∧ W.heap.size ≤ o12
theorem ok_keys3 (hok : n.Ok m) (hm : m ≤ 4096) : n.keys.length ≤ 10000 ∧ n.pairs.length ≤ 10000 ∧ n.children.length ≤ 10000 := by
 have := ok_keys hok hm
 omega
theorem delAt_len {α : Type} {l : List α} {i : Nat} (h : i < l.length) : (delAt l i).length = l.length - 1 := by unfold delAt; rw [List.length_append, List.length_take, List.length_drop]; omega
theorem join_size (a b : NodeD) (key : Str) : (joinN a key b).size ≤ a.size + b.size + key.length + 1 := by
 unfold joinN
 split
 ·simp only [NodeD.size, NodeD.sizeP_append, NodeD.sizeK, List.length_nil]; omega
 ·simp only [NodeD.size, NodeD.sizeK_append, NodeD.sizeP, NodeD.sizeK, List.length_append]; omega
theorem mend_keep {W z zf : World} {g1 g2 g3 g4 o4 z0 : Nat} {v0 v1 v2 v3 u0 u1 u2 u3 s t' : Value} (hst : Only (fun k => k = z0) z zf) (ha : Only NoB W z) (hne : g1 ≠ z0 ∧ g2 ≠ z0 ∧ g3 ≠ z0 ∧ g4 ≠ z0)
  (a0 : W.cell? ⟨g1, 0, none⟩ = some v0) (a1 : W.cell? ⟨g1, 1, none⟩ = some v1) (a2 : W.cell? ⟨g1, 2, none⟩ = some v2) (a3 : W.cell? ⟨g1, 3, none⟩ = some v3)
  (b0 : W.cell? ⟨g2, 0, none⟩ = some u0) (b1 : W.cell? ⟨g2, 1, none⟩ = some u1) (b2 : W.cell? ⟨g2, 2, none⟩ = some u2) (b3 : W.cell? ⟨g2, 3, none⟩ = some u3) (k2 : W.cell? ⟨g3, 2, none⟩ = some s) (ek : W.cell? ⟨g4, o4, none⟩ = some t') :
  (zf.cell? ⟨g1, 0, none⟩ = some v0 ∧ zf.cell? ⟨g1, 1, none⟩ = some v1 ∧ zf.cell? ⟨g1, 2, none⟩ = some v2 ∧ zf.cell? ⟨g1, 3, none⟩ = some v3) ∧ (zf.cell? ⟨g2, 0, none⟩ = some u0 ∧ zf.cell? ⟨g2, 1, none⟩ = some u1 ∧ zf.cell? ⟨g2, 2, none⟩ = some u2 ∧ zf.cell? ⟨g2, 3, none⟩ = some u3) ∧
   zf.cell? ⟨g3, 2, none⟩ = some s ∧ zf.cell? ⟨g4, o4, none⟩ = some t' :=
 ⟨⟨hst.cell (ha.cell a0 id) hne.1, hst.cell (ha.cell a1 id) hne.1, hst.cell (ha.cell a2 id) hne.1, hst.cell (ha.cell a3 id) hne.1⟩, ⟨hst.cell (ha.cell b0 id) hne.2.1, hst.cell (ha.cell b1 id) hne.2.1, hst.cell (ha.cell b2 id) hne.2.1, hst.cell (ha.cell b3 id) hne.2.1⟩, hst.cell (ha.cell k2 id) hne.2.2.1, hst.cell (ha.cell ek id) hne.2.2.2⟩
set_option maxHeartbeats 4000000 in
theorem mend_ok {q j : Nat} {na nb : NodeD} (h : TreeAt w F X x t D) (hB : Blk w o 200 #[.bool n.leaf, pv, kv, cv]) (hn : NodeO w N pv kv cv n) (hN : ∀ k, N k → ¬ F k ∧ k ≠ o ∧ k ≠ x) (ho : ¬ F o) (hox : x ≠ o) (hM : MendAt D n j p q key na nb) (hj : j = if i + 2 ≤ n.children.length then i else n.children.length - 2) :
  Calls Tryz.prog 291 #[.pointer (some ⟨x, 0, none⟩), .pointer (some ⟨o, 0, none⟩), .int .i64 i] w (EditOut w F N X x t o (mendD D p q key na nb) (mendN D n j key na nb)) := by
 obtain ⟨l, ps, ks, cs⟩ := n
 obtain ⟨hl, ⟨hp, hq⟩, hkj, hpo, hqo, hal, hkln, hjok, hne, hrt, hnp, hlen⟩ := hM
 simp only at hl hp hq hkj hlen hj hB hnp
 subst hl; subst hnp
 obtain ⟨pA, pc, kA, kc, cA, cc, rfl, rfl, rfl⟩ := hn.r.shape
 simp only at hn hB
 have hjl := (List.getElem?_eq_some_iff.1 hp).1
 have hjl2 := (List.getElem?_eq_some_iff.1 hq).1
 have hkl := (List.getElem?_eq_some_iff.1 hkj).1
 have c3 : w.cell? _ = some _ := hB.cell 3
 have c2 : w.cell? _ = some _ := hB.cell 2
 have hlt : ¬ ((cs.length : Int) < 2) := by omega
 obtain ⟨g, off, c', hve, _, _, hcell⟩ := hn.kids.rd.open_ (by show 0 < cs.length * 1; omega)
 injection hve with q1 q2 q3
 subst q1; subst q3
 have e1 := hcell j (natV p) (by rw [List.getElem?_map, hp]; rfl)
 have e2 := hcell (j + 1) (natV q) (by rw [List.getElem?_map, hq]; rfl)
 unfold natV at e1 e2
 have H := Lib.hid h
 have HB := Lib.hid hB
 have HN := Lib.hid hn
 have HNF := Lib.hid hN
 have HOF := Lib.hid ho
 have HOX := Lib.hid hox
 have HP := Lib.hid hp
 have HQ := Lib.hid hq
 have HK := Lib.hid hkj
 have HPO := Lib.hid hpo
 have HQO := Lib.hid hqo
 have HAL := Lib.hid hal
 have HKLN := Lib.hid hkln
 have HJO := Lib.hid hjok
 have HNE := Lib.hid hne
 have HRT := Lib.hid hrt
 have HLEN := Lib.hid hlen
 have HJ := Lib.hid hj
 clear h hB hn hN ho hox hp hq hkj hpo hqo hal hkln hjok hne hrt hlen hj hcell q2
 have hcb : cs.length ≤ 4096 := HLEN.out.2.1
 have hi0 : (0 : Int) ≤ (i : Int) := by omega
 go_enter Tryz.func291, Tryz.ntmps291
 go_upto_region 3 with fail
 go_cut [2] (fun s2 wc => s2 = .int .i64 j ∧ w = wc)
 case first =>
  by_cases hc : i + 2 ≤ cs.length
  ·have hji : j = i := by rw [HJ.out, if_pos hc]
   have hle : (i : Int) ≤ (cs.length : Int) - 2 := by omega
   subst hji
   go_wp2_with fail
   go_meet
   exact ⟨rfl, rfl⟩
  ·have hji : (cs.length : Int) - 2 = (j : Int) := by have := HJ.out; rw [if_neg hc] at this; omega
   have hle : ¬ (i : Int) ≤ (cs.length : Int) - 2 := by omega
   have HJI := Lib.hid hji
   clear hji
   go_wp2_with fail
   go_meet
   exact ⟨by rw [HJI.out], rfl⟩
 case rest =>
  obtain ⟨rfl, hwc⟩ := hcut
  subst hwc
  have hw1 : IntKind.i64.wrap ((j : Int) + 1) = (j : Int) + 1 := by rw [IntKind.wrap_i64]; omega
  have htn : ((j : Int) + 1).toNat = j + 1 := by omega
  have hj0 : (0 : Int) ≤ (j : Int) + 1 := by omega
  have hj1 : (j : Int) + 1 < (cs.length : Int) := by omega
  have hj2 : (j : Int) < (cs.length : Int) := by omega
  go_upto_region 4 with fail
  refine _root_.Go.Proofs.YtpjfheadolphgaaGreat.hB _ 17 (fun w' => w'.cell? ⟨o, 3, none⟩ = some (.slice (some ⟨g, off, none⟩) cs.length cc) ∧ w'.cell? ⟨g, off + j, none⟩ = some (.int .i64 p) ∧ w'.cell? ⟨g, off + (j + 1), none⟩ = some (.int .i64 q)) (⟨c3, e1, e2⟩) (fun hHeld => ?_)
  obtain ⟨z0, hz0⟩ : ∃ z, z = w.drew := ⟨_, rfl⟩
  rw [← hz0] at hHeld ⊢
  have hq0 : Only NoB w z0 := by rw [hz0]; exact (Only.refl NoB w).drew
  clear hz0
  refine hT 0 28 ?_
  refine hT 1 29 ?_
  refine hT 2 30 ?_
  refine hT 3 31 ?_
  refine hT 4 32 ?_
  refine hT 5 33 ?_
  refine hT 6 34 ?_
  refine hT 7 35 ?_
  refine hT 8 36 ?_
  refine hT 9 37 ?_
  refine hT 10 38 ?_
  refine hT 11 39 ?_
  refine hT 12 40 ?_
  refine hT 13 41 ?_
  refine hT 14 42 ?_
  refine hT 15 7 ?_
  refine hT 16 8 ?_
  refine wpAnyH_done (by kernel_rfl) ?_ _
  refine NoPanic.normal ?_
  have h0 := H.out.quit hq0
  have HL1 := Lib.hid (load_ok h0 HPO.out.1 HPO.out.2.1 HPO.out.2.2.1 HPO.out.2.2.2.1 HPO.out.2.2.2.2)
  have HQ0 := Lib.hid hq0
  have HW1 := Lib.hid hw1
  clear h0 hq0 hw1 htn hj0 hj1 hj2 hHeld hi0 e1 e2 hlt
  go_wp2_with fail
  refine HL1.out.mono ?_
  rintro ee w5 ⟨pv1, kv1, cv1, rfl, hn1, hx5, ho5⟩
  obtain ⟨pA1, pc1, kA1, kc1, cA1, cc1, rfl, rfl, rfl⟩ := hn1.r.shape
  obtain ⟨W5, hW5⟩ : ∃ W5, W5 = w5.alloc (.cells #[.bool na.leaf, .slice pA1 na.pairs.length pc1, .slice kA1 na.keys.length kc1, .slice cA1 na.children.length cc1] 200) := ⟨_, rfl⟩
  have hq5 : Only NoB w5 W5 := by rw [hW5]; exact (Only.refl NoB w5).alloc _
  have hB5 : Blk W5 w5.heap.size 200 #[.bool na.leaf, .slice pA1 na.pairs.length pc1, .slice kA1 na.keys.length kc1, .slice cA1 na.children.length cc1] := by rw [hW5]; exact Blk.new w5 _ _
  have HL2 := Lib.hid (load_ok (hx5.quit hq5) HQO.out.1 HQO.out.2.1 HQO.out.2.2.1 HQO.out.2.2.2.1 HQO.out.2.2.2.2)
  have HN1 := Lib.hid hn1
  have HB5 := Lib.hid hB5
  have HW5 := Lib.hid hW5
  have HO5 := Lib.hid ho5
  have HQ5 := Lib.hid hq5
  clear hn1 hB5 hW5 ho5 hq5 hx5
  unfold nodeV
  go_wp2_with fail
  rw [← HW5.out]
  refine HL2.out.mono ?_
  rintro ee2 w6 ⟨pv2, kv2, cv2, rfl, hn2, hx6, ho6⟩
  obtain ⟨pA2, pc2, kA2, kc2, cA2, cc2, rfl, rfl, rfl⟩ := hn2.r.shape
  obtain ⟨W6, hW6⟩ : ∃ W6, W6 = w6.alloc (.cells #[.bool nb.leaf, .slice pA2 nb.pairs.length pc2, .slice kA2 nb.keys.length kc2, .slice cA2 nb.children.length cc2] 200) := ⟨_, rfl⟩
  have hq6 : Only NoB w6 W6 := by rw [hW6]; exact (Only.refl NoB w6).alloc _
  have hB6 : Blk W6 w6.heap.size 200 #[.bool nb.leaf, .slice pA2 nb.pairs.length pc2, .slice kA2 nb.keys.length kc2, .slice cA2 nb.children.length cc2] := by rw [hW6]; exact Blk.new w6 _ _
  have hFw : ∀ k, w.heap.size ≤ k → ¬ F k := fun k hk hf => by have := H.out.tx.1 _ hf; omega
  have hs0 := HQ0.out.size
  have hs5 := HO5.out.size
  have hs5' := HQ5.out.size
  have hs6 := ho6.size
  have hb5 := (HB5.out.only ho6 (hFw _ (by omega))).only hq6 id
  have hn1' := (HN1.out.only HQ5.out fun _ _ => id).only ho6 fun k hk hf => by unfold From at hk; exact hFw k (by omega) hf
  have hall : Only F w W6 := (((HQ0.out.mono fun _ _ h => h.elim).trans HO5.out).trans (HQ5.out.mono fun _ _ h => h.elim)).trans (ho6.trans (hq6.mono fun _ _ h => h.elim))
  have hbo := HB.out.only hall HOF.out
  have hkown := HN.out.keys.only hall fun k hk => (HNF.out k hk).1
  obtain ⟨gk, offk, ck, hvek, _, _, hcellk⟩ := hkown.rd.open_ (by show 0 < ks.length * 1; omega)
  injection hvek with q1 q2 q3
  subst q1; subst q3
  have ek := hcellk j (strV key) (by rw [List.getElem?_map, HK.out]; rfl)
  unfold strV at ek
  have a0 : W6.cell? _ = some _ := hb5.cell 0
  have a1 : W6.cell? _ = some _ := hb5.cell 1
  have a2 : W6.cell? _ = some _ := hb5.cell 2
  have a3 : W6.cell? _ = some _ := hb5.cell 3
  have b0 : W6.cell? _ = some _ := hB6.cell 0
  have b1 : W6.cell? _ = some _ := hB6.cell 1
  have b2 : W6.cell? _ = some _ := hB6.cell 2
  have b3 : W6.cell? _ = some _ := hB6.cell 3
  have k2 : W6.cell? _ = some _ := hbo.cell 2
  have HX6 := Lib.hid (hx6.quit hq6)
  have HALL := Lib.hid hall
  have HBO := Lib.hid hbo
  have HN1 := Lib.hid ((hn1'.quit hq6).r.mono (G := fun _ => True) fun _ _ _ => trivial)
  have HN2 := Lib.hid ((hn2.quit hq6).r.mono (G := fun _ => True) fun _ _ _ => trivial)
  have HW6 := Lib.hid hW6
  have hjk : (j : Int) < (ks.length : Int) := by omega
  have hj0 : (0 : Int) ≤ (j : Int) := by omega
  clear hn2 hB6 hW6 ho6 hq6 hx6 hFw hs0 hs5 hs5' hs6 hb5 hn1' hall hbo hkown hcellk q2
  unfold nodeV
  go_upto_region 11 with fail
  rw [← HW6.out]
  go_cut [12] (fun s12 wc => MendMid W6 (joinN na key nb) s12 wc)
  case first =>
   refine _root_.Go.Proofs.YtpjfheadolphgaaGreat.hB _ 12 (fun w' => (w'.cell? ⟨w5.heap.size, 0, none⟩ = some (.bool na.leaf) ∧ w'.cell? ⟨w5.heap.size, 1, none⟩ = some (.slice pA1 na.pairs.length pc1) ∧ w'.cell? ⟨w5.heap.size, 2, none⟩ = some (.slice kA1 na.keys.length kc1) ∧ w'.cell? ⟨w5.heap.size, 3, none⟩ = some (.slice cA1 na.children.length cc1)) ∧ (w'.cell? ⟨w6.heap.size, 0, none⟩ = some (.bool nb.leaf) ∧ w'.cell? ⟨w6.heap.size, 1, none⟩ = some (.slice pA2 nb.pairs.length pc2) ∧ w'.cell? ⟨w6.heap.size, 2, none⟩ = some (.slice kA2 nb.keys.length kc2) ∧ w'.cell? ⟨w6.heap.size, 3, none⟩ = some (.slice cA2 nb.children.length cc2)) ∧ w'.cell? ⟨o, 2, none⟩ = some (.slice (some ⟨gk, offk, none⟩) ks.length kc) ∧ w'.cell? ⟨gk, offk + j, none⟩ = some (.string ⟨key.toArray⟩)) (⟨⟨a0, a1, a2, a3⟩, ⟨b0, b1, b2, b3⟩, k2, ek⟩) (fun hHeld => ?_)
   obtain ⟨z0, hz0⟩ : ∃ z, z = W6.drew := ⟨_, rfl⟩
   rw [← hz0] at hHeld ⊢
   have ha0 : Only NoB W6 z0 := by rw [hz0]; exact (Only.refl NoB W6).drew
   clear hz0
   have HNE6 : Hid (w5.heap.size ≠ z0.heap.size ∧ w6.heap.size ≠ z0.heap.size ∧ o ≠ z0.heap.size ∧ gk ≠ z0.heap.size) := Lib.hid ⟨Nat.ne_of_lt (Nat.lt_of_lt_of_le (World.block_lt_of_cell? _ _ a0) ha0.size), Nat.ne_of_lt (Nat.lt_of_lt_of_le (World.block_lt_of_cell? _ _ b0) ha0.size), Nat.ne_of_lt (Nat.lt_of_lt_of_le (World.block_lt_of_cell? _ _ k2) ha0.size), Nat.ne_of_lt (Nat.lt_of_lt_of_le (World.block_lt_of_cell? _ _ ek) ha0.size)⟩
   refine hT 0 61 ?_
   refine hT 1 62 ?_
   refine hT 2 63 ?_
   refine hT 3 64 ?_
   refine hT 4 65 ?_
   refine hT 5 66 ?_
   refine hT 6 67 ?_
   refine hT 7 68 ?_
   refine hT 8 69 ?_
   refine hE2 9 10 (fun o ho K hK => ?_) (fun o ho K hK => ?_)
   ·cases ho
    go_simp
    have hjn := join_ok (key := key) (HN1.out.quit ha0) (HN2.out.quit ha0) HAL.out (ok_keys3 HPO.out.2.2.2.1 HX6.out.mle) (ok_keys3 HQO.out.2.2.2.1 HX6.out.mle)
    unfold nodeV at hjn
    refine hjn.mono ?_
    clear hjn
    rintro e9 z9 ⟨pv9, kv9, cv9, rfl, hn9, hq9⟩
    obtain ⟨pA9, pc9, kA9, kc9, cA9, cc9, rfl, rfl, rfl⟩ := hn9.shape
    have ha9 := ha0.trans hq9
    have HN9 := Lib.hid hn9
    clear hn9
    unfold nodeV
    refine hK.out _ _ (⟨⟨ha9.cell a0 id, ha9.cell a1 id, ha9.cell a2 id, ha9.cell a3 id⟩, ⟨ha9.cell b0 id, ha9.cell b1 id, ha9.cell b2 id, ha9.cell b3 id⟩, ha9.cell k2 id, ha9.cell ek id⟩) (fun hHeld => ?_)
    clear hK K
    try simp only [Act.put, List.setIfInBounds_toArray, List.set_cons_zero, List.set_cons_succ]
    refine hE 10 (fun o ho K hK => ?_)
    cases ho
    go_simp
    refine hK.out _ _ (⟨⟨(ha9.alloc _).cell a0 id, (ha9.alloc _).cell a1 id, (ha9.alloc _).cell a2 id, (ha9.alloc _).cell a3 id⟩, ⟨(ha9.alloc _).cell b0 id, (ha9.alloc _).cell b1 id, (ha9.alloc _).cell b2 id, (ha9.alloc _).cell b3 id⟩, (ha9.alloc _).cell k2 id, (ha9.alloc _).cell ek id⟩) (fun hHeld => ?_)
    clear hK K
    try dsimp only
    refine hE 11 (fun o ho K hK => ?_)
    cases ho
    go_simp
    refine hK.out _ _ (⟨⟨(ha9.alloc _).cell a0 id, (ha9.alloc _).cell a1 id, (ha9.alloc _).cell a2 id, (ha9.alloc _).cell a3 id⟩, ⟨(ha9.alloc _).cell b0 id, (ha9.alloc _).cell b1 id, (ha9.alloc _).cell b2 id, (ha9.alloc _).cell b3 id⟩, (ha9.alloc _).cell k2 id, (ha9.alloc _).cell ek id⟩) (fun hHeld => ?_)
    clear hK K
    try dsimp only
    refine wpAnyH_done (by kernel_rfl) ?_ _
    refine NoPanic.normal ?_
    go_wp2_with fail
    go_meet
    exact ⟨z9.heap.size, _, _, _, rfl, Blk.new z9 _ _, (HN9.out.quit ((Only.refl NoB z9).alloc _)).mono fun k hk _ => Nat.le_trans ha0.size hk, ha9.alloc _, ha9.size⟩
   ·cases ho
    go_simp
    obtain ⟨z10, hz10⟩ : ∃ z, z = z0.alloc (.cells #[.bool false, .slice none 0 0, .slice none 0 0, .slice none 0 0] 200) := ⟨_, rfl⟩
    rw [← hz10]
    have ha10 : Only NoB W6 z10 := by rw [hz10]; exact ha0.alloc _
    have HB10 : Hid (Blk z10 z0.heap.size 200 #[.bool false, .slice none 0 0, .slice none 0 0, .slice none 0 0]) := Lib.hid (by rw [hz10]; exact Blk.new z0 _ _)
    clear hz10
    refine hK.out _ _ (⟨⟨ha10.cell a0 id, ha10.cell a1 id, ha10.cell a2 id, ha10.cell a3 id⟩, ⟨ha10.cell b0 id, ha10.cell b1 id, ha10.cell b2 id, ha10.cell b3 id⟩, ha10.cell k2 id, ha10.cell ek id⟩) (fun hHeld => ?_)
    clear hK K
    try simp only [Act.put, List.setIfInBounds_toArray, List.set_cons_zero, List.set_cons_succ]
    refine hE 9 (fun o ho K hK => ?_)
    cases ho
    go_simp
    have hjn := join_ok (key := key) (HN1.out.quit ha10) (HN2.out.quit ha10) HAL.out (ok_keys3 HPO.out.2.2.2.1 HX6.out.mle) (ok_keys3 HQO.out.2.2.2.1 HX6.out.mle)
    unfold nodeV at hjn
    refine hjn.mono ?_
    clear hjn
    rintro e9 z9 ⟨pv9, kv9, cv9, rfl, hn9, hq9⟩
    obtain ⟨pA9, pc9, kA9, kc9, cA9, cc9, rfl, rfl, rfl⟩ := hn9.shape
    have ha9 := ha10.trans hq9
    have HN9 := Lib.hid hn9
    clear hn9
    unfold nodeV
    have hb9 := HB10.out.only hq9 id
    obtain ⟨hbf, hst⟩ := set4 hb9 (.bool (joinN na key nb).leaf) (.slice pA9 (joinN na key nb).pairs.length pc9) (.slice kA9 (joinN na key nb).keys.length kc9) (.slice cA9 (joinN na key nb).children.length cc9)
    have x0 := hb9.cell 0
    have x1 := hb9.cell 1
    have x2 := hb9.cell 2
    have x3 := hb9.cell 3
    have y0 := hb9.frozen 0
    have y1 := hb9.frozen 1
    have y2 := hb9.frozen 2
    have y3 := hb9.frozen 3
    have HBF := Lib.hid hbf
    have HST := Lib.hid hst
    clear hbf hst hb9
    refine hK.out _ _ (⟨⟨ha9.cell a0 id, ha9.cell a1 id, ha9.cell a2 id, ha9.cell a3 id⟩, ⟨ha9.cell b0 id, ha9.cell b1 id, ha9.cell b2 id, ha9.cell b3 id⟩, ha9.cell k2 id, ha9.cell ek id⟩) (fun hHeld => ?_)
    clear hK K
    try simp only [Act.put, List.setIfInBounds_toArray, List.set_cons_zero, List.set_cons_succ]
    refine hE 11 (fun o ho K hK => ?_)
    cases ho
    go_simp
    skip
    refine hK.out _ _ (mend_keep HST.out ha9 HNE6.out a0 a1 a2 a3 b0 b1 b2 b3 k2 ek) (fun hHeld => ?_)
    clear hK K
    try simp only [Act.put, List.setIfInBounds_toArray, List.set_cons_zero, List.set_cons_succ]
    refine wpAnyH_done (by kernel_rfl) ?_ _
    refine NoPanic.normal ?_
    go_wp2_with fail
    go_meet
    exact ⟨z0.heap.size, _, _, _, rfl, HBF.out, (HN9.out.only HST.out fun k hk e => by have h1 : z10.heap.size ≤ k := hk; have h2 : k = z0.heap.size := e; have := HB10.out.lt; omega).mono fun k hk _ => Nat.le_trans ha10.size hk, only_at (ha10.trans hq9) HST.out ha0.size, ha0.size⟩
  case rest =>
   obtain ⟨o12, pv9, kv9, cv9, rfl, hbj, hnj, hoj, hol⟩ := hcut
   obtain ⟨pA9, pc9, kA9, kc9, cA9, cc9, rfl, rfl, rfl⟩ := hnj.shape
   have hxc := HX6.out.quit hoj
   have j0 : wc.cell? _ = some _ := hbj.cell 0
   have j1 : wc.cell? _ = some _ := hbj.cell 1
   have j2 : wc.cell? _ = some _ := hbj.cell 2
   have j3 : wc.cell? _ = some _ := hbj.cell 3
   have x1 : wc.cell? _ = some _ := hxc.blk.cell 1
   have hsb : (joinN na key nb).size ≤ 1000000000 := by
    have h1 := join_size na nb key
    have h2 := HPO.out.2.2.2.1.size
    have h3 := HQO.out.2.2.2.1.size
    have h4 := HKLN.out
    have h5 := hxc.mle
    omega
   have HSZ := Lib.hid (nsize_any (hnj.quit (Only.refl NoB wc).drew) hsb)
   have HXC := Lib.hid hxc
   have HBJ := Lib.hid hbj
   have HNJ := Lib.hid hnj
   have HOJ := Lib.hid hoj
   have HOL := Lib.hid hol
   unfold nodeV at HSZ
   clear hbj hnj hoj hol hxc hsb a0 a1 a2 a3 b0 b1 b2 b3 k2 ek hjk hj0
   go_upto_region 12 with fail
   refine _root_.Go.Proofs.YtpjfheadolphgaaGreat.hB _ 7 (fun w' => (w'.cell? ⟨o12, 0, none⟩ = some (.bool (joinN na key nb).leaf) ∧ w'.cell? ⟨o12, 1, none⟩ = some (.slice pA9 (joinN na key nb).pairs.length pc9) ∧ w'.cell? ⟨o12, 2, none⟩ = some (.slice kA9 (joinN na key nb).keys.length kc9) ∧ w'.cell? ⟨o12, 3, none⟩ = some (.slice cA9 (joinN na key nb).children.length cc9)) ∧ w'.cell? ⟨x, 1, none⟩ = some (.int .i64 D.m)) (⟨⟨j0, j1, j2, j3⟩, x1⟩) (fun hHeld => ?_)
   refine hT 0 71 ?_
   refine hT 2 73 ?_
   refine hT 3 74 ?_
   refine hT 4 75 ?_
   refine hT 5 76 ?_
   refine hE 1 (fun o ho K hK => ?_)
   cases ho
   go_simp
   refine HSZ.out.mono ?_
   rintro e12 z12 ⟨rfl, hq12⟩
   have hq12 : Only NoB wc z12 := (Only.refl NoB wc).drew.trans hq12
   refine hK.out _ _ (⟨⟨hq12.cell j0 id, hq12.cell j1 id, hq12.cell j2 id, hq12.cell j3 id⟩, hq12.cell x1 id⟩) (fun hHeld => ?_)
   clear hK K
   try simp only [Act.put, List.setIfInBounds_toArray, List.set_cons_zero, List.set_cons_succ]
   refine hT 6 77 ?_
   refine wpAnyH_done (by kernel_rfl) ?_ _
   refine NoPanic.normal ?_
   have hsw := HALL.out.size
   have hsj := HOJ.out.size
   have hsz := hq12.size
   have hallz : Only F w z12 := HALL.out.trans ((HOJ.out.trans hq12).mono fun _ _ h => h.elim)
   have hbo := HBO.out.only (HOJ.out.trans hq12) id
   have hno := HN.out.only hallz fun k hk => (HNF.out k hk).1
   have hFn : ∀ k, w.heap.size ≤ k → ¬ F k := fun k hk hf => by have := H.out.tx.1 _ hf; omega
   have hol : o < w.heap.size := HB.out.lt
   have HALZ := Lib.hid hallz
   have HBOZ := Lib.hid hbo
   have HNOZ := Lib.hid hno
   have HXZ := Lib.hid (HXC.out.quit hq12)
   have j0 := hq12.cell j0 id
   have j1 := hq12.cell j1 id
   have j2 := hq12.cell j2 id
   have j3 := hq12.cell j3 id
   have x0 := HXZ.out.blk.cell 0
   have HNJZ := Lib.hid (HNJ.out.quit hq12)
   have HFN := Lib.hid hFn
   clear hallz hbo hno x1 hHeld
   by_cases hfit : (joinN na key nb).size ≤ D.m
   ·have HD : Hid (mendD D p q key na nb = PD.turn q false (PD.putPage p ((joinN na key nb).bytes D.m) D)) := Lib.hid (if_pos hfit)
    have HNN : Hid (mendN D ⟨false, [], ks, cs⟩ j key na nb = ⟨false, [], delAt ks j, delAt cs (j + 1)⟩) := Lib.hid (if_pos hfit)
    have hsv := save_ok HXZ.out HPO.out.1 HPO.out.2.1 HNJZ.out (HJO.out hfit) (fun hlf => by
     unfold joinN at hlf ⊢
     split at hlf
     ·rename_i h1
      rw [if_pos h1]
      have := HPO.out.2.2.2.2 h1
      simp [this]
     ·cases hlf)
    unfold nodeV at hsv
    have HSV := Lib.hid hsv
    have HSS : Hid (w.heap.size ≤ z12.heap.size) := Lib.hid (by omega)
    have hle : (joinN na key nb).size ≤ D.m := hfit
    clear hsv hsw hsj hsz hq12 hFn hfit
    go_wp2_with fail
    refine HSV.out.mono ?_
    rintro e13 z13 ⟨rfl, F13, hx13, ho13, hg13⟩
    have hss := HSS.out
    have hsz13 := ho13.size
    have hF13 : ∀ k, k < z12.heap.size → (k < w.heap.size → ¬ F k) → ¬ F13 k := fun k h1 h2 hf => by
     rcases hg13 k hf with h3 | h3
     ·by_cases h4 : k < w.heap.size
      ·exact h2 h4 h3
      ·exact HFN.out k (by omega) h3
     ·omega
    have hNf : ∀ k, N k → k < z12.heap.size → ¬ F13 k := fun k hk h1 => hF13 k h1 fun _ => (HNF.out k hk).1
    have hbo13 := HBOZ.out.only ho13 HOF.out
    have hk13 : Own z13 (fun k => N k ∧ k < z12.heap.size) 9 1 (.slice (some ⟨gk, offk, none⟩) ks.length kc) ks.length (ks.map strV) := (HNOZ.out.keys.mono fun k h1 h2 => ⟨h1, h2⟩).only ho13 fun k hk => (HNF.out k hk.1).1
    have hc13 : Own z13 (fun k => N k ∧ k < z12.heap.size) 3 1 (.slice (some ⟨g, off, none⟩) cs.length cc) cs.length (cs.map natV) := (HNOZ.out.kids.mono fun k h1 h2 => ⟨h1, h2⟩).only ho13 fun k hk => (HNF.out k hk.1).1
    have hdk := del_str' hk13 hkl (by have := HLEN.out.1; omega)
    have k2 : z13.cell? _ = some _ := hbo13.cell 2
    have HDK := Lib.hid hdk
    have HX13 := Lib.hid hx13
    have HO13 := Lib.hid ho13
    have HG13 := Lib.hid hg13
    have HF13 := Lib.hid hF13
    have HNF13 := Lib.hid hNf
    have HBO13 := Lib.hid hbo13
    have HK13 := Lib.hid hk13
    have HC13 := Lib.hid hc13
    have hw1 := HW1.out
    have hw2 : IntKind.i64.wrap ((j : Int) + 2) = (j : Int) + 2 := by rw [IntKind.wrap_i64]; omega
    clear hdk hx13 ho13 hg13 hF13 hNf hbo13 hk13 hc13 hss hsz13 hol j0 j1 j2 j3 x0
    go_wp2_with fail
    refine HDK.out.mono ?_
    rintro e14 z14 ⟨v14, rfl, hown14, ho14⟩
    obtain ⟨A14, c14, rfl, _⟩ := hown14.shape
    have hkg : ∀ k, (Value.slice (some ⟨gk, offk, none⟩) ks.length kc).ownBlock = some k → N k ∧ k < z12.heap.size := HK13.out.2
    have hcg : ∀ k, (Value.slice (some ⟨g, off, none⟩) cs.length cc).ownBlock = some k → N k ∧ k < z12.heap.size := HC13.out.2
    have hNo : ∀ k, N k → k ≠ o := fun k hk => (HNF.out k hk).2.1
    have hol : o < z13.heap.size := HBO13.out.lt
    have hsz14 := ho14.size
    have hsz13 := HO13.out.size
    have hb14 := HBO13.out.only ho14 fun he => hNo o (hkg o he).1 rfl
    have hb15 := hb14.set_ 2 (.slice A14 (ks.length - 1) c14)
    have hst : Only (fun k => k = o) z14 (z14.setCell ⟨o, 2, none⟩ (.slice A14 (ks.length - 1) c14)) := (Only.refl (fun k => k = o) z14).setCell (p := ⟨o, 2, none⟩) (.inl rfl) (.slice A14 (ks.length - 1) c14)
    have hap := HN.out.apart
    have hc14 := HC13.out.keep (w' := z14) fun k hk => ho14.block k (HC13.out.lt hk) fun he => hap k he hk
    have hc15 := hc14.only hst fun k hk he => hNo k hk.1 he
    have hk15 := hown14.only hst fun k hk he => by
     have he : k = o := he
     rcases hk with hk | hk
     ·exact hNo k (hkg k hk).1 he
     ·omega
    have hdc := del_nat' (i := j + 1) hc15 hjl2 (by omega)
    rw [show (((j + 1 : Nat) : Int) + 1) = (j : Int) + 2 by omega, show ((j + 1 : Nat) : Int) = (j : Int) + 1 by omega] at hdc
    have k2 : z14.cell? _ = some _ := hb14.cell 2
    have p2 := hb14.frozen 2
    have k3 := hb15.cell 3
    have HDC := Lib.hid hdc
    have HK15 := Lib.hid hk15
    have HB15 := Lib.hid hb15
    have HS15 : Hid (Only (fun k => k = o ∨ (N k ∧ k < z12.heap.size)) z13 _) := Lib.hid ((ho14.mono fun k _ hk => .inr (hkg k hk)).trans (hst.mono fun k _ hk => .inl hk))
    have HV14 : Hid (∀ k, (Value.slice A14 (ks.length - 1) c14).ownBlock = some k → (Value.slice (some ⟨gk, offk, none⟩) ks.length kc).ownBlock = some k ∨ z13.heap.size ≤ k) := Lib.hid hown14.2
    clear hdc hk15 hb15 hb14 hst hap hc14 hc15 hkg hcg hNo hol hsz14 hsz13 hown14 ho14 hkl
    go_wp2_with fail
    refine HDC.out.mono ?_
    rintro e16 z16 ⟨v16, rfl, hown16, ho16⟩
    obtain ⟨A16, c16, rfl, _⟩ := hown16.shape
    have hkg : ∀ k, (Value.slice (some ⟨gk, offk, none⟩) ks.length kc).ownBlock = some k → N k ∧ k < z12.heap.size := HK13.out.2
    have hcg : ∀ k, (Value.slice (some ⟨g, off, none⟩) cs.length cc).ownBlock = some k → N k ∧ k < z12.heap.size := HC13.out.2
    have hNo : ∀ k, N k → k ≠ o := fun k hk => (HNF.out k hk).2.1
    have hol : o < w.heap.size := HB.out.lt
    have hss := HSS.out
    have hsz13 := HO13.out.size
    have hsz15 := HS15.out.size
    have hsz16 := ho16.size
    have hb16 := HB15.out.only ho16 fun he => hNo o (hcg o he).1 rfl
    have hb17 := hb16.set_ 3 (.slice A16 (cs.length - 1) c16)
    have hst : Only (fun k => k = o) z16 (z16.setCell ⟨o, 3, none⟩ (.slice A16 (cs.length - 1) c16)) := (Only.refl (fun k => k = o) z16).setCell (p := ⟨o, 3, none⟩) (.inl rfl) (.slice A16 (cs.length - 1) c16)
    have hap := HN.out.apart
    have hk16 := HK15.out.keep (w' := z16) fun k hk => ho16.block k (HK15.out.lt hk) fun he => by
     rcases HV14.out k hk with h2 | h2
     ·exact hap k h2 he
     ·have := (hcg k he).2; omega
    have hk17 := hk16.only hst fun k hk he => by
     have he : k = o := he
     rcases hk with hk | hk
     ·exact hNo k (hkg k hk).1 he
     ·omega
    have hc17 := hown16.only hst fun k hk he => by
     have he : k = o := he
     rcases hk with hk | hk
     ·exact hNo k (hcg k hk).1 he
     ·omega
    have hs17 : Only (fun k => k = o ∨ (N k ∧ k < z12.heap.size)) z13 _ := HS15.out.trans ((ho16.mono fun k _ hk => .inr (hcg k hk)).trans (hst.mono fun k _ hk => .inl hk))
    have hFS : ∀ k, F13 k → ¬ (k = o ∨ (N k ∧ k < z12.heap.size)) := fun k hf hk => by
     rcases hk with rfl | hk
     ·exact HF13.out k (by omega) (fun _ => HOF.out) hf
     ·exact HNF13.out k hk.1 hk.2 hf
    have hx17 := HX13.out.far hs17 hFS fun hx => by
     rcases hx with hx | hx
     ·exact HOX.out hx
     ·exact (HNF.out x hx.1).2.2 rfl
    have hgv := give_any hx17.tx (p := q) (by exact HQO.out.1) (by exact HQO.out.2.1) (by exact HRT.out)
    obtain ⟨Z, hZ⟩ : ∃ Z, Z = z16.setCell ⟨o, 3, none⟩ (.slice A16 (cs.length - 1) c16) := ⟨_, rfl⟩
    have k3 : z16.cell? _ = some _ := hb16.cell 3
    have p3 := hb16.frozen 3
    have x0 := hx17.blk.cell 0
    have hsZ := hst.size
    have HSZ : Hid (z13.heap.size ≤ Z.heap.size) := Lib.hid (by rw [hZ]; omega)
    have HZ := Lib.hid hZ
    rw [← hZ] at hb17 hk17 hc17 hs17 hx17 hgv
    have HB17 := Lib.hid hb17
    have HK17 := Lib.hid hk17
    have HC17 := Lib.hid hc17
    have HS17 := Lib.hid hs17
    have HX17 := Lib.hid hx17
    have HGV := Lib.hid hgv
    have HFS := Lib.hid hFS
    clear hgv hb17 hk17 hc17 hs17 hx17 hZ hFS hk16 hb16 hst hap hkg hcg hNo hol hss hsz13 hsz15 hsz16 hsZ hown16 ho16
    go_wp2_with fail
    rw [← HZ.out]
    refine HGV.out.mono ?_
    rintro e18 z18 ⟨rfl, F18, ht18, ho18, hg18⟩
    have hss := HSS.out
    have hsz13 := HO13.out.size
    have hsZ := HSZ.out
    have hol : o < w.heap.size := HB.out.lt
    have hkg : ∀ k, (Value.slice (some ⟨gk, offk, none⟩) ks.length kc).ownBlock = some k → N k ∧ k < z12.heap.size := HK13.out.2
    have hcg : ∀ k, (Value.slice (some ⟨g, off, none⟩) cs.length cc).ownBlock = some k → N k ∧ k < z12.heap.size := HC13.out.2
    have hN' : ∀ k, ((N k ∧ k < z12.heap.size) ∨ (z13.heap.size ≤ k ∧ k < Z.heap.size)) → ¬ F13 k := fun k hk hf => by
     rcases hk with hk | hk
     ·exact HFS.out k hf (.inr hk)
     ·have := HX13.out.tx.1 k hf; omega
    have hpz : Rd w N 2 (.slice pA 0 pc) 0 [] := HN.out.pairs.rd
    have hkr : Rd Z (fun k => (N k ∧ k < z12.heap.size) ∨ (z13.heap.size ≤ k ∧ k < Z.heap.size)) 1 _ _ _ := HK17.out.rd.mono fun k hk hl => hk.imp (fun hk => hkg k hk) fun hk => ⟨hk, hl⟩
    have hcr : Rd Z (fun k => (N k ∧ k < z12.heap.size) ∨ (z13.heap.size ≤ k ∧ k < Z.heap.size)) 1 _ _ _ := HC17.out.rd.mono fun k hk hl => hk.imp (fun hk => hcg k hk) fun hk => ⟨Nat.le_trans HS15.out.size hk, hl⟩
    have HE : Hid (EditOut w F N X x t o (PD.turn q false (PD.putPage p ((joinN na key nb).bytes D.m) D)) ⟨false, [], delAt ks j, delAt cs (j + 1)⟩ (.returned (.int .i64 0)) z18) := Lib.hid
     ⟨rfl, F18, (fun k => (N k ∧ k < z12.heap.size) ∨ (z13.heap.size ≤ k ∧ k < Z.heap.size)), _, _, _, HX17.out.deed (D' := PD.turn q false (PD.putPage p ((joinN na key nb).bytes D.m) D)) rfl ht18 ho18 hg18, HB17.out.only ho18 (HF13.out o (by omega) fun _ => HOF.out),
      ⟨hpz.zero, by show Rd _ _ 1 _ (delAt ks j).length _; rw [delAt_len HLEN.out.2.2]; exact hkr.only ho18 hN', by show Rd _ _ 1 _ (delAt cs (j + 1)).length _; rw [delAt_len hjl2]; exact hcr.only ho18 hN'⟩,
      fun k hk => ⟨fun hf => (hg18 k hf).elim (hN' k hk) fun h => by rcases hk with hk | hk <;> omega, hk.imp (·.1) fun hk => by omega⟩,
      fun hf => (hg18 o hf).elim (HF13.out o (by omega) fun _ => HOF.out) fun h => by omega,
      ((((HALZ.out.trans HO13.out).mono fun k _ hk => .inl hk).trans (HS17.out.mono fun k _ hk => hk.elim (fun h => .inr (.inl h)) fun h => .inr (.inr h.1))).trans' ho18 fun k hk hf => .inl ((HG13.out k hf).elim id fun h => by omega)),
      fun k hk => by
       rcases hg18 k hk with h1 | h1
       ·rcases HG13.out k h1 with h2 | h2
        ·exact .inl h2
        ·exact .inr (by omega)
       ·exact .inr (by omega)⟩
    clear hkr hcr hpz hN' ht18 ho18 hg18 hss hsz13 hsZ hol hkg hcg
    go_wp2_with fail
    go_ret
    rw [HD.out, HNN.out]
    exact HE.out
   ·have HD : Hid (mendD D p q key na nb = D) := Lib.hid (if_neg hfit)
    have HNN : Hid (mendN D ⟨false, [], ks, cs⟩ j key na nb = ⟨false, [], ks, cs⟩) := Lib.hid (if_neg hfit)
    have hgt : D.m < (joinN na key nb).size := by omega
    clear hsw hsj hsz hq12 hFn hol hfit
    go_wp2_with fail
    go_ret
    rw [HD.out, HNN.out]
    exact ⟨rfl, F, N, _, _, _, HXZ.out, HBOZ.out, HNOZ.out.r, fun k hk => ⟨(HNF.out k hk).1, .inl hk⟩, HOF.out, HALZ.out.mono fun k _ hk => .inl hk, Grows.refl F w⟩
end
end Go.Proofs.YtpjfheadolphgaaGreat
