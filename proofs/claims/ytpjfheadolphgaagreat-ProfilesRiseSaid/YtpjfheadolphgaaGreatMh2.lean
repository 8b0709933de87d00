import Derived.Test.YtpjfheadolphgaaGreatMh1
import Derived.Laws.BitsAllLaws
import Derived.RowKit
import Derived.Lib.BufferRead
import Derived.Deep.RegionLaw
import Derived.Lib.Overlaps
import Derived.Laws.Externs
set_option linter.unusedVariables false
set_option linter.unusedSimpArgs false
namespace Go.Proofs.YtpjfheadolphgaaGreat
open Go.RowKit Go.Proofs
set_option maxRecDepth 20000
section
variable {w w' : World} {F G : Nat → Prop} {pv kv cv : Value} {n : NodeD} {m B : Nat} {ks : List Str} {cs : List Nat} {ps : List KV}
theorem check_ok (h : NodeR w F pv kv cv n) (hok : n.Ok m) (hne : n.leaf = true → n.pairs ≠ []) (h1 : 64 ≤ m) (h2 : m ≤ 4096) : Calls Tryz.prog 145 #[nodeV n.leaf pv kv cv, .int .i64 m] w (Quit w (.int .i64 0)) := by
 obtain ⟨lf, ps, ks, cs⟩ := n
 cases lf with
 | true =>
  obtain ⟨rfl, rfl⟩ := hok.leaf rfl
  exact check_leaf h hok (hne rfl) h1 h2
 | false =>
  obtain ⟨rfl, _⟩ := hok.inner rfl
  exact check_inner h hok h1 h2
def BytesOutN (w : World) (l : Str) (e : Ending) (w' : World) : Prop := ∃ v, e = .returned (.tuple #[v, .int .i64 0]) ∧ Bytes w' (From w.heap.size) v l ∧ Only NoB w w'
theorem textsP_take (ps : List KV) {k : Nat} (h : k < ps.length) : NodeD.textsP (ps.take (k + 1)) = NodeD.textsP (ps.take k) ++ (NodeD.text ps[k].1 ++ NodeD.text ps[k].2) := by
 have : ∀ a b : List KV, NodeD.textsP (a ++ b) = NodeD.textsP a ++ NodeD.textsP b := by
  intro a b
  induction a with
  | nil => rfl
  | cons p a ih => rw [List.cons_append, NodeD.textsP, NodeD.textsP, ih]; simp
 rw [List.take_succ_eq_append_getElem h, this]
 simp [NodeD.textsP]
theorem textsK_take (ks : List Str) {k : Nat} (h : k < ks.length) : NodeD.textsK (ks.take (k + 1)) = NodeD.textsK (ks.take k) ++ NodeD.text ks[k] := by
 have : ∀ a b : List Str, NodeD.textsK (a ++ b) = NodeD.textsK a ++ NodeD.textsK b := by
  intro a b
  induction a with
  | nil => rfl
  | cons p a ih => rw [List.cons_append, NodeD.textsK, NodeD.textsK, ih]; simp
 rw [List.take_succ_eq_append_getElem h, this]
 simp [NodeD.textsK]
theorem kids_take (cs : List Nat) {k : Nat} (h : k < cs.length) : NodeD.kids (cs.take (k + 1)) = NodeD.kids (cs.take k) ++ NodeD.child cs[k] := by
 have : ∀ a b : List Nat, NodeD.kids (a ++ b) = NodeD.kids a ++ NodeD.kids b := by
  intro a b
  induction a with
  | nil => rfl
  | cons p a ih => rw [List.cons_append, NodeD.kids, NodeD.kids, ih]; simp
 rw [List.take_succ_eq_append_getElem h, this]
 simp [NodeD.kids]
theorem bytes_take {c : List KV} {k : Nat} : (NodeD.textsP (c.take k)).length ≤ (NodeD.textsP c).length := by
 rw [NodeD.textsP_len, NodeD.textsP_len]; exact sizeP_le _ _
theorem byteV_zero : byteV 0 = .int .u8 0 := rfl
theorem Ty.intU : Tryz.prog.underlying 3 = some (.int .i64) := by kernel_rfl
theorem Ty.byteZ (w : World) : (zeroValue 5).run Tryz.prog w = .ok (.int .u8 0) w := by kernel_rfl
theorem Ty.byteC : ∀ u ∈ (Value.int .u8 0).cells, u.oneCell' = true := by simp [Value.cells, Value.oneCell']
def OutL (W0 w : World) (v : Value) (L : List UInt8) : Prop := Own w (From W0.heap.size) 5 1 v L.length (L.map byteV) ∧ Only NoB W0 w
set_option maxHeartbeats 4000000 in
theorem bytes_inner (h : NodeR w F pv kv cv ⟨false, ps, ks, cs⟩) (hok : NodeD.Ok ⟨false, ps, ks, cs⟩ m) (hne : false = true → ps ≠ []) (h1 : 64 ≤ m) (h2 : m ≤ 4096) : Calls Tryz.prog 288 #[nodeV false pv kv cv, .int .i64 m] w (BytesOutN w (NodeD.bytes ⟨false, ps, ks, cs⟩ m)) := by
 have hl := ok_keys hok h2
 obtain ⟨pA, pc, kA, kc, cA, cc, rfl, rfl, rfl⟩ := h.shape
 simp only at hl
 obtain ⟨W0, hW0⟩ : ∃ W0, W0 = w.alloc (.cells #[.bool false, .slice pA ps.length pc, .slice kA ks.length kc, .slice cA cs.length cc] 200) := ⟨_, rfl⟩
 have ho : Only NoB w W0 := by rw [hW0]; exact (Only.refl NoB w).alloc _
 have hcb : Blk W0 w.heap.size 200 #[.bool false, .slice pA ps.length pc, .slice kA ks.length kc, .slice cA cs.length cc] := by rw [hW0]; exact Blk.new w _ _
 have hch := check_ok (h.quit ho) hok hne h1 h2
 simp only at hch
 have HCH := Lib.hid hch
 have HP := Lib.hid (h.pairs.only ho fun _ _ => id)
 have HK := Lib.hid (h.keys.only ho fun _ _ => id)
 have HC := Lib.hid (h.kids.only ho fun _ _ => id)
 have HOK := Lib.hid hok
 have HPL := Lib.hid (NodeD.textsP_len ps)
 have HKL := Lib.hid (NodeD.textsK_len ks)
 have HCL := Lib.hid (NodeD.kids_len cs)
 have hsz : 3 + 3 * cs.length + NodeD.sizeP ps + NodeD.sizeK ks ≤ m := hok.size
 have HW0 := Lib.hid hW0
 have HO := Lib.hid ho
 have HCB := Lib.hid hcb
 have HHD : Hid (NodeD.head ⟨false, ps, ks, cs⟩ = [2, UInt8.ofNat (ks.length / 256), UInt8.ofNat ks.length]) := Lib.hid rfl
 have HHV : Hid ([Value.int .u8 2, .int .u8 ((ks.length : Int) / 256), .int .u8 ((ks.length : Int) % 256)] = [2, UInt8.ofNat (ks.length / 256), UInt8.ofNat ks.length].map byteV) := Lib.hid (by
  have e1 : ((UInt8.ofNat (ks.length / 256)).toNat : Int) = (ks.length : Int) / 256 := by rw [UInt8.toNat_ofNat']; omega
  have e2 : ((UInt8.ofNat ks.length).toNat : Int) = (ks.length : Int) % 256 := by rw [UInt8.toNat_ofNat']; omega
  simp only [List.map_cons, List.map_nil, byteV, e1, e2]
  rfl)
 clear h hok hW0 ho hcb hch hne
 unfold nodeV
 go_enter Tryz.func288, Tryz.ntmps288
 go_wp2_with fail
 rw [← HW0.out]
 refine HCH.out.mono ?_
 rintro e w1 ⟨rfl, ho1⟩
 have hcb := HCB.out.only ho1 id
 have b0 := hcb.cell 0
 have b1 := hcb.cell 1
 have b2 := hcb.cell 2
 have b3 := hcb.cell 3
 have HO1 := Lib.hid ho1
 clear ho1 hcb
 go_wp2_with fail
 go_quiet (fail)
 go_wp2_with (first
  | (at_make; refine wpList_mk0 (by rfl) _ _ _ (by rfl) (by kernel_rfl) Ty.byte .i64 .i64 m (by rfl) (by rfl) (by omega) ?_; intro w5 hown5 ho5; have HW5 := Lib.hid hown5; have HO5 : Hid (Only NoB W0 w5) := Lib.hid (by first | exact (HO1.out.drewN _).trans ho5 | exact ((HO1.out.drewN _).drewN _).trans ho5); clear hown5 ho5; have hcb := HCB.out.only HO5.out id; have bb1 := hcb.cell 1; clear hcb)
  | (at_builtin; refine wpList_app rfl _ _ _ rfl (by kernel_rfl) Ty.byte rfl rfl (HW5.out.alloc _) (rd_new w5 5 1 3 [Value.int .u8 2, .int .u8 ((ks.length : Int) / 256), .int .u8 ((ks.length : Int) % 256)] rfl) (by simp [Value.oneCell']) (by omega) ?_; intro v6 w6 ha6; obtain ⟨A6, c6, rfl, _⟩ := id ha6.shape; have HA6 := Lib.hid ha6; have hob := only_new (HO5.out.alloc _) ha6.only (fun q hq => Nat.le_trans HO1.out.size (HW5.out.2 q hq)); have HO6 := Lib.hid hob; have hcb := HCB.out.only hob id; have c61 := hcb.cell 1; clear ha6 hob hcb bb1))
 have HOU : Hid (OutL W0 w6 (.slice A6 (0 + 3) c6) [2, UInt8.ofNat (ks.length / 256), UInt8.ofNat ks.length]) := Lib.hid (by
  have h1 : Own w6 _ 5 1 (.slice A6 (0 + 3) c6) (0 + 3) _ := HA6.out.own
  rw [List.nil_append, HHV.out] at h1
  refine ⟨h1.mono fun q hq _ => ?_, HO6.out⟩
  have s1 := HO1.out.size
  have s5 := HO5.out.size
  rcases hq with hq | hq
  ·exact Nat.le_trans s1 hq
  ·rw [hq]; unfold From; simp; omega)
 obtain ⟨L0, hL0⟩ : ∃ L0, L0 = [2, UInt8.ofNat (ks.length / 256), UInt8.ofNat ks.length] := ⟨_, rfl⟩
 have hl0 : L0.length = 3 := by rw [hL0]; rfl
 rw [← hL0] at HOU HHD
 have HL0 := Lib.hid hl0
 clear HA6 HW5 HHV hL0 hl0 b0 b1 b2 b3
 go_loopw [9, 44] (fun o i wr => ∃ (k : Nat) (oA : Option Addr) (oc : Nat), k ≤ ps.length ∧ i = .int .i64 k ∧ o = .slice oA (L0 ++ NodeD.textsP (ps.take k)).length oc ∧ OutL W0 wr (.slice oA (L0 ++ NodeD.textsP (ps.take k)).length oc) (L0 ++ NodeD.textsP (ps.take k))) (fun _ i _ => ps.length - (intOf i).toNat)
 case atStart =>
  have h1 : L0 ++ NodeD.textsP (ps.take 0) = L0 := by simp [NodeD.textsP]
  have h2 : L0.length = 0 + 3 := by rw [HL0.out]
  exact ⟨0, A6, c6, Nat.zero_le _, rfl, by rw [h1, h2], by rw [h1, h2]; exact HOU.out⟩
 case round =>
  obtain ⟨k, oA, oc, hk, rfl, rfl, hout⟩ := hrel
  have HT := Lib.hid hout
  have hcb := HCB.out.only hout.2 id
  have b2 := hcb.cell 2
  have b3 := hcb.cell 3
  clear hout c61 hcb
  by_cases hlt : k < ps.length
  ·obtain ⟨g, off, c', hve, _, _, hcell⟩ := HP.out.open_ (by omega)
   injection hve with q1 q2 q3
   subst q1; subst q3
   obtain ⟨p1, p2⟩ := pairL_get (List.getElem?_eq_getElem hlt)
   have c1 := HT.out.2.cell (hcell _ _ p1) id
   have c2 := HT.out.2.cell (hcell _ _ p2) id
   have hpo := HOK.out.pair _ (List.getElem_mem hlt)
   have htk := textsP_take ps hlt
   have hlen := bytes_take (c := ps) (k := k + 1)
   rw [HPL.out] at hlen
   obtain ⟨⟨a, b⟩, hab⟩ : ∃ q, q = ps[k] := ⟨_, rfl⟩
   rw [← hab] at c1 c2 hpo htk
   simp only at hpo htk
   obtain ⟨o1, o2, o3, o4⟩ := hpo
   rw [htk] at hlen
   have hlen2 : (L0 ++ NodeD.textsP (ps.take k)).length + (1 + a.length) + (1 + b.length) ≤ 1000000 := by
    have h1 := NodeD.text_len a
    have h2 := NodeD.text_len b
    rw [List.length_append, List.length_append] at hlen
    rw [List.length_append, HL0.out]
    omega
   have HTK : Hid (L0 ++ NodeD.textsP (ps.take (k + 1)) = L0 ++ NodeD.textsP (ps.take k) ++ NodeD.text a ++ NodeD.text b) := Lib.hid (by rw [htk]; simp)
   unfold strV at c1 c2
   rw [← Nat.add_assoc] at c2
   obtain ⟨L, hL⟩ : ∃ L, L = L0 ++ NodeD.textsP (ps.take k) := ⟨_, rfl⟩
   rw [← hL] at HT HTK hlen2 ⊢
   have HWX : Hid (Own ((wr.alloc (.cells #[.string ⟨a.toArray⟩, .string ⟨b.toArray⟩] 83)).drew) (From W0.heap.size) 5 1 (.slice oA L.length oc) L.length (L.map byteV)) := Lib.hid ((HT.out.1.alloc (.cells #[.string ⟨a.toArray⟩, .string ⟨b.toArray⟩] 83)).keep fun _ _ => rfl)
   have HBX : Hid (Blk ((wr.alloc (.cells #[.string ⟨a.toArray⟩, .string ⟨b.toArray⟩] 83)).drew) wr.heap.size 83 #[.string ⟨a.toArray⟩, .string ⟨b.toArray⟩]) := Lib.hid (Blk.new wr _ _).drew
   have HLE : Hid (W0.heap.size ≤ ((wr.alloc (.cells #[.string ⟨a.toArray⟩, .string ⟨b.toArray⟩] 83)).drew).heap.size) := Lib.hid (by have := HT.out.2.size; simp; omega)
   clear hcell p1 p2 q2 hab htk hlen hL
   go_wp2_with fail
   refine hB _ 8 (fun w' => w'.cell? ⟨wr.heap.size, 0, none⟩ = some (.string ⟨a.toArray⟩) ∧ w'.cell? ⟨wr.heap.size, 1, none⟩ = some (.string ⟨b.toArray⟩)) (⟨HBX.out.cell 0, HBX.out.cell 1⟩) (fun hHeld => ?_)
   refine hT 0 48 ?_
   refine hT 1 49 ?_
   refine hT 2 50 ?_
   refine hT 4 52 ?_
   refine hT 5 53 ?_
   refine hE 3 (fun o ho K hK => ?_)
   cases ho
   go_simp
   refine (text_any _ _ _ HWX.out HLE.out a (by omega) (by omega)).mono ?_
   rintro e w7 ⟨v7, rfl, hown7, hon7⟩
   have hB7 := HBX.out.only hon7 (HBX.out.ne_own HWX.out.1 (by decide))
   have hle7 := Nat.le_trans HLE.out hon7.size
   refine hK.out _ _ (⟨hB7.cell 0, hB7.cell 1⟩) (fun hHeld => ?_)
   clear hK K
   try simp only [Act.put, List.setIfInBounds_toArray, List.set_cons_zero, List.set_cons_succ]
   refine hE 6 (fun o ho K hK => ?_)
   cases ho
   go_simp
   refine (text_any _ _ _ hown7 hle7 b (by omega) (by omega)).mono ?_
   rintro e w8 ⟨v8, rfl, hown8, hon8⟩
   have hB8 := hB7.only hon8 (hB7.ne_own hown7.1 (by decide))
   refine hK.out _ _ (⟨hB8.cell 0, hB8.cell 1⟩) (fun hHeld => ?_)
   clear hK K
   try simp only [Act.put, List.setIfInBounds_toArray, List.set_cons_zero, List.set_cons_succ]
   refine hT 7 9 ?_
   refine wpAnyH_done (by kernel_rfl) ?_ _
   refine NoPanic.normal ?_
   go_wp2_with fail
   obtain ⟨A8, c8, rfl, _⟩ := hown8.shape
   have e1 : (L ++ NodeD.text a ++ NodeD.text b).length = L.length + (1 + a.length) + (1 + b.length) := by
    rw [List.length_append, List.length_append, NodeD.text_len, NodeD.text_len]
   refine ⟨⟨k + 1, A8, c8, by omega, by go_num, by rw [HTK.out, e1], ?_⟩, by simp [intOf]; omega⟩
   rw [HTK.out]
   refine ⟨?_, ?_⟩
   ·have h1 := hown8
    rw [e1, List.map_append, List.map_append]
    exact h1
   ·exact only_new (only_new ((HT.out.2.alloc _).drew) hon7 fun q hq => HWX.out.2 q hq) hon8 fun q hq => hown7.2 q hq
  ·obtain rfl : k = ps.length := by omega
   rw [List.take_length] at HT ⊢
   obtain ⟨L1, hL1⟩ : ∃ L1, L1 = L0 ++ NodeD.textsP ps := ⟨_, rfl⟩
   have HL1 : Hid (L1.length = 3 + NodeD.sizeP ps) := Lib.hid (by rw [hL1, List.length_append, HL0.out, HPL.out])
   have HQ1 := Lib.hid hL1
   rw [← hL1] at HT ⊢
   clear hL1
   go_wp2_with fail
   clear b2 b3
   go_loopw [9, 59] (fun o i wr => ∃ (k : Nat) (oA : Option Addr) (oc : Nat), k ≤ cs.length ∧ i = .int .i64 k ∧ o = .slice oA (L1 ++ NodeD.kids (cs.take k)).length oc ∧ OutL W0 wr (.slice oA (L1 ++ NodeD.kids (cs.take k)).length oc) (L1 ++ NodeD.kids (cs.take k))) (fun _ i _ => cs.length - (intOf i).toNat)
   case atStart =>
    have h1 : L1 ++ NodeD.kids (cs.take 0) = L1 := by simp [NodeD.kids]
    exact ⟨0, oA, oc, Nat.zero_le _, rfl, by rw [h1], by rw [h1]; exact HT.out⟩
   case round =>
    obtain ⟨k, oA, oc, hk, rfl, rfl, hout⟩ := hrel
    have HT := Lib.hid hout
    have hcb := HCB.out.only hout.2 id
    have b2 := hcb.cell 2
    clear hout hcb
    by_cases hlt : k < cs.length
    ·obtain ⟨g, off, c', hve, _, _, hcell⟩ := HC.out.open_ (by omega)
     injection hve with q1 q2 q3
     subst q1; subst q3
     have c1 := HT.out.2.cell (hcell k (natV cs[k]) (by rw [List.getElem?_map, List.getElem?_eq_getElem hlt]; rfl)) id
     have hkd := HOK.out.kid _ (List.getElem_mem hlt)
     have htk := kids_take cs hlt
     have hlen := NodeD.kids_len (cs.take k)
     obtain ⟨a, hab⟩ : ∃ q, q = cs[k] := ⟨_, rfl⟩
     rw [← hab] at c1 hkd htk
     have hlen2 : (L1 ++ NodeD.kids (cs.take k)).length + 3 ≤ 1000000 := by
      rw [List.length_append, hlen, HL1.out, List.length_take]
      omega
     have HTK : Hid (L1 ++ NodeD.kids (cs.take (k + 1)) = L1 ++ NodeD.kids (cs.take k) ++ NodeD.child a) := Lib.hid (by rw [htk]; simp)
     unfold natV at c1
     obtain ⟨L, hL⟩ : ∃ L, L = L1 ++ NodeD.kids (cs.take k) := ⟨_, rfl⟩
     rw [← hL] at HT HTK hlen2 ⊢
     obtain ⟨kd1, kd2⟩ := hkd
     have HCV : Hid ([Value.int .u8 ((a : Int) / 65536), .int .u8 ((a : Int) / 256 % 256), .int .u8 ((a : Int) % 256)] = (NodeD.child a).map byteV) := Lib.hid (by
      have e1 : ((UInt8.ofNat (a / 65536)).toNat : Int) = (a : Int) / 65536 := by rw [UInt8.toNat_ofNat']; omega
      have e2 : ((UInt8.ofNat (a / 256)).toNat : Int) = (a : Int) / 256 % 256 := by rw [UInt8.toNat_ofNat']; omega
      have e3 : ((UInt8.ofNat a).toNat : Int) = (a : Int) % 256 := by rw [UInt8.toNat_ofNat']; omega
      simp only [NodeD.child, List.map_cons, List.map_nil, byteV, e1, e2, e3])
     clear hcell q2 hab htk hlen hL
     go_wp2_with (at_builtin; refine wpList_app rfl _ _ _ rfl (by kernel_rfl) Ty.byte rfl rfl (HT.out.1.alloc _) (rd_new wr 5 1 3 [Value.int .u8 ((a : Int) / 65536), .int .u8 ((a : Int) / 256 % 256), .int .u8 ((a : Int) % 256)] rfl) (by simp [Value.oneCell']) (by omega) ?_; intro v6 w6 ha6; obtain ⟨A6, c6, rfl, _⟩ := id ha6.shape; have HA6 := Lib.hid ha6; clear ha6)
     have e1 : (L ++ NodeD.child a).length = L.length + 3 := by rw [List.length_append]; rfl
     refine ⟨⟨k + 1, A6, c6, by omega, by go_num, by rw [HTK.out, e1], ?_⟩, by simp [intOf]; omega⟩
     rw [HTK.out, e1]
     have h1 : Own w6 _ 5 1 (.slice A6 (L.length + 3) c6) (L.length + 3) _ := HA6.out.own
     rw [HCV.out, ← List.map_append, ← e1] at h1
     have s1 := HT.out.2.size
     refine ⟨?_, only_new (HT.out.2.alloc _) HA6.out.only fun q hq => HT.out.1.2 q hq⟩
     rw [e1] at h1 ⊢
     refine h1.mono fun q hq _ => ?_
     rcases hq with hq | hq
     ·exact hq
     ·rw [hq]; unfold From; simp; omega
    ·obtain rfl : k = cs.length := by omega
     rw [List.take_length] at HT ⊢
     obtain ⟨L2, hL2⟩ : ∃ L2, L2 = L1 ++ NodeD.kids cs := ⟨_, rfl⟩
     have HL2 : Hid (L2.length = 3 + NodeD.sizeP ps + 3 * cs.length) := Lib.hid (by rw [hL2, List.length_append, HL1.out, HCL.out])
     have HQ2 := Lib.hid hL2
     rw [← hL2] at HT ⊢
     clear hL2
     go_wp2_with fail
     clear b2
     go_loopw [9, 78] (fun o i wr => ∃ (k : Nat) (oA : Option Addr) (oc : Nat), k ≤ ks.length ∧ i = .int .i64 k ∧ o = .slice oA (L2 ++ NodeD.textsK (ks.take k)).length oc ∧ OutL W0 wr (.slice oA (L2 ++ NodeD.textsK (ks.take k)).length oc) (L2 ++ NodeD.textsK (ks.take k))) (fun _ i _ => ks.length - (intOf i).toNat)
     case atStart =>
      have h1 : L2 ++ NodeD.textsK (ks.take 0) = L2 := by simp [NodeD.textsK]
      exact ⟨0, oA, oc, Nat.zero_le _, rfl, by rw [h1], by rw [h1]; exact HT.out⟩
     case round =>
      obtain ⟨k, oA, oc, hk, rfl, rfl, hout⟩ := hrel
      have HT := Lib.hid hout
      clear hout
      by_cases hlt : k < ks.length
      ·obtain ⟨g, off, c', hve, _, _, hcell⟩ := HK.out.open_ (by omega)
       injection hve with q1 q2 q3
       subst q1; subst q3
       have c1 := HT.out.2.cell (hcell k (strV ks[k]) (by rw [List.getElem?_map, List.getElem?_eq_getElem hlt]; rfl)) id
       have hkd := HOK.out.key _ (List.getElem_mem hlt)
       have htk := textsK_take ks hlt
       have hlen := NodeD.textsK_len (ks.take k)
       have hle := sizeK_le ks k
       obtain ⟨a, hab⟩ : ∃ q, q = ks[k] := ⟨_, rfl⟩
       rw [← hab] at c1 hkd htk
       have hlen2 : (L2 ++ NodeD.textsK (ks.take k)).length ≤ 1000000 := by
        rw [List.length_append, hlen, HL2.out]
        omega
       have HTK : Hid (L2 ++ NodeD.textsK (ks.take (k + 1)) = L2 ++ NodeD.textsK (ks.take k) ++ NodeD.text a) := Lib.hid (by rw [htk]; simp)
       unfold strV at c1
       obtain ⟨L, hL⟩ : ∃ L, L = L2 ++ NodeD.textsK (ks.take k) := ⟨_, rfl⟩
       rw [← hL] at HT HTK hlen2 ⊢
       obtain ⟨kd1, kd2, kd3⟩ := hkd
       have HX := Lib.hid (text_any _ _ _ HT.out.1 HT.out.2.size a (by omega) (by omega))
       clear hcell q2 hab htk hlen hL hle
       go_wp2_with fail
       refine HX.out.mono ?_
       rintro e w8 ⟨v8, rfl, hown8, hon8⟩
       have HW8 := Lib.hid hown8
       have HO8 := Lib.hid hon8
       obtain ⟨A8, c8, rfl, _⟩ := hown8.shape
       clear hown8 hon8
       go_wp2_with fail
       have e1 : (L ++ NodeD.text a).length = L.length + (1 + a.length) := by rw [List.length_append, NodeD.text_len]
       refine ⟨⟨k + 1, A8, c8, by omega, by go_num, by rw [HTK.out, e1], ?_⟩, by simp [intOf]; omega⟩
       rw [HTK.out, e1]
       refine ⟨?_, only_new HT.out.2 HO8.out fun q hq => HT.out.1.2 q hq⟩
       rw [e1, List.map_append]
       exact HW8.out
      ·obtain rfl : k = ks.length := by omega
       rw [List.take_length] at HT ⊢
       obtain ⟨L3, hL3⟩ : ∃ L3, L3 = L2 ++ NodeD.textsK ks := ⟨_, rfl⟩
       have HL3 : Hid (L3.length = NodeD.size ⟨false, ps, ks, cs⟩) := Lib.hid (by rw [hL3, List.length_append, HL2.out, HKL.out]; simp only [NodeD.size]; omega)
       have HQ3 : Hid (NodeD.bytes ⟨false, ps, ks, cs⟩ m = L3 ++ List.replicate (m - L3.length) 0) := Lib.hid (by
        rw [HL3.out, hL3, HQ2.out, HQ1.out]
        unfold NodeD.bytes NodeD.body
        rw [HHD.out]
        simp)
       have hl3 : L3.length ≤ m := by rw [HL3.out]; exact HOK.out.size
       rw [← hL3] at HT ⊢
       have e9 : (m : Int) - (L3.length : Int) = ((m - L3.length : Nat) : Int) := by omega
       clear hL3
       go_wp2_with (at_builtin; refine wpList_app_zeros (k := m - L3.length) (kq := .i64) (kn := .i64) rfl _ _ _ _ rfl Ty.bytesU Ty.intU Ty.byte Ty.byteZ Ty.byteC rfl (by first | rfl | exact vint e9) HT.out.1 (by omega) ?_; intro v6 w6 ha6; obtain ⟨A6, c6, rfl, _⟩ := id ha6.shape; have HA6 := Lib.hid ha6; clear ha6)
       go_ret2
       have h1 : Own w6 _ 5 1 (.slice A6 (L3.length + (m - L3.length)) c6) (L3.length + (m - L3.length)) _ := HA6.out.own
       have e10 : L3.length + (m - L3.length) = m := by omega
       rw [e10] at h1
       have s0 := HO.out.size
       have s1 := HT.out.2.size
       refine ⟨_, rfl, ?_, HO.out.trans (only_new HT.out.2 HA6.out.only fun q hq => HT.out.1.2 q hq)⟩
       rw [HQ3.out]
       have hlr : (L3 ++ List.replicate (m - L3.length) (0 : UInt8)).length = L3.length + (m - L3.length) := by simp
       unfold Bytes
       rw [hlr, e10]
       have h2 := h1.rd.mono (G := From w.heap.size) fun q hq _ => by
        unfold From at hq ⊢
        rcases hq with hq | hq
        ·omega
        ·rw [hq]; omega
       rw [zerosL_one rfl] at h2
       rw [List.map_append, List.map_replicate, byteV_zero]
       exact h2
set_option maxHeartbeats 4000000 in
theorem bytes_leaf (h : NodeR w F pv kv cv ⟨true, ps, ks, cs⟩) (hok : NodeD.Ok ⟨true, ps, ks, cs⟩ m) (hne : true = true → ps ≠ []) (h1 : 64 ≤ m) (h2 : m ≤ 4096) : Calls Tryz.prog 288 #[nodeV true pv kv cv, .int .i64 m] w (BytesOutN w (NodeD.bytes ⟨true, ps, ks, cs⟩ m)) := by
 have hl := ok_keys hok h2
 obtain ⟨pA, pc, kA, kc, cA, cc, rfl, rfl, rfl⟩ := h.shape
 simp only at hl
 obtain ⟨W0, hW0⟩ : ∃ W0, W0 = w.alloc (.cells #[.bool true, .slice pA ps.length pc, .slice kA ks.length kc, .slice cA cs.length cc] 200) := ⟨_, rfl⟩
 have ho : Only NoB w W0 := by rw [hW0]; exact (Only.refl NoB w).alloc _
 have hcb : Blk W0 w.heap.size 200 #[.bool true, .slice pA ps.length pc, .slice kA ks.length kc, .slice cA cs.length cc] := by rw [hW0]; exact Blk.new w _ _
 have hch := check_ok (h.quit ho) hok hne h1 h2
 simp only at hch
 have HCH := Lib.hid hch
 have HP := Lib.hid (h.pairs.only ho fun _ _ => id)
 have HK := Lib.hid (h.keys.only ho fun _ _ => id)
 have HC := Lib.hid (h.kids.only ho fun _ _ => id)
 have HOK := Lib.hid hok
 have HPL := Lib.hid (NodeD.textsP_len ps)
 have HKL := Lib.hid (NodeD.textsK_len ks)
 have HCL := Lib.hid (NodeD.kids_len cs)
 have hsz : 3 + 3 * cs.length + NodeD.sizeP ps + NodeD.sizeK ks ≤ m := hok.size
 have HW0 := Lib.hid hW0
 have HO := Lib.hid ho
 have HCB := Lib.hid hcb
 have HHD : Hid (NodeD.head ⟨true, ps, ks, cs⟩ = [1, UInt8.ofNat (ps.length / 256), UInt8.ofNat ps.length]) := Lib.hid rfl
 have HHV : Hid ([Value.int .u8 1, .int .u8 ((ps.length : Int) / 256), .int .u8 ((ps.length : Int) % 256)] = [1, UInt8.ofNat (ps.length / 256), UInt8.ofNat ps.length].map byteV) := Lib.hid (by
  have e1 : ((UInt8.ofNat (ps.length / 256)).toNat : Int) = (ps.length : Int) / 256 := by rw [UInt8.toNat_ofNat']; omega
  have e2 : ((UInt8.ofNat ps.length).toNat : Int) = (ps.length : Int) % 256 := by rw [UInt8.toNat_ofNat']; omega
  simp only [List.map_cons, List.map_nil, byteV, e1, e2]
  rfl)
 clear h hok hW0 ho hcb hch hne
 unfold nodeV
 go_enter Tryz.func288, Tryz.ntmps288
 go_wp2_with fail
 rw [← HW0.out]
 refine HCH.out.mono ?_
 rintro e w1 ⟨rfl, ho1⟩
 have hcb := HCB.out.only ho1 id
 have b0 := hcb.cell 0
 have b1 := hcb.cell 1
 have b2 := hcb.cell 2
 have b3 := hcb.cell 3
 have HO1 := Lib.hid ho1
 clear ho1 hcb
 go_wp2_with fail
 go_quiet (fail)
 go_wp2_with fail
 go_quiet (fail)
 go_wp2_with (first
  | (at_make; refine wpList_mk0 (by rfl) _ _ _ (by rfl) (by kernel_rfl) Ty.byte .i64 .i64 m (by rfl) (by rfl) (by omega) ?_; intro w5 hown5 ho5; have HW5 := Lib.hid hown5; have HO5 : Hid (Only NoB W0 w5) := Lib.hid (by first | exact (HO1.out.drewN _).trans ho5 | exact ((HO1.out.drewN _).drewN _).trans ho5); clear hown5 ho5; have hcb := HCB.out.only HO5.out id; have bb1 := hcb.cell 1; clear hcb)
  | (at_builtin; refine wpList_app rfl _ _ _ rfl (by kernel_rfl) Ty.byte rfl rfl (HW5.out.alloc _) (rd_new w5 5 1 3 [Value.int .u8 1, .int .u8 ((ps.length : Int) / 256), .int .u8 ((ps.length : Int) % 256)] rfl) (by simp [Value.oneCell']) (by omega) ?_; intro v6 w6 ha6; obtain ⟨A6, c6, rfl, _⟩ := id ha6.shape; have HA6 := Lib.hid ha6; have hob := only_new (HO5.out.alloc _) ha6.only (fun q hq => Nat.le_trans HO1.out.size (HW5.out.2 q hq)); have HO6 := Lib.hid hob; have hcb := HCB.out.only hob id; have c61 := hcb.cell 1; clear ha6 hob hcb bb1))
 have HOU : Hid (OutL W0 w6 (.slice A6 (0 + 3) c6) [1, UInt8.ofNat (ps.length / 256), UInt8.ofNat ps.length]) := Lib.hid (by
  have h1 : Own w6 _ 5 1 (.slice A6 (0 + 3) c6) (0 + 3) _ := HA6.out.own
  rw [List.nil_append, HHV.out] at h1
  refine ⟨h1.mono fun q hq _ => ?_, HO6.out⟩
  have s1 := HO1.out.size
  have s5 := HO5.out.size
  rcases hq with hq | hq
  ·exact Nat.le_trans s1 hq
  ·rw [hq]; unfold From; simp; omega)
 obtain ⟨L0, hL0⟩ : ∃ L0, L0 = [1, UInt8.ofNat (ps.length / 256), UInt8.ofNat ps.length] := ⟨_, rfl⟩
 have hl0 : L0.length = 3 := by rw [hL0]; rfl
 rw [← hL0] at HOU HHD
 have HL0 := Lib.hid hl0
 clear HA6 HW5 HHV hL0 hl0 b0 b1 b2 b3
 go_loopw [9, 44] (fun o i wr => ∃ (k : Nat) (oA : Option Addr) (oc : Nat), k ≤ ps.length ∧ i = .int .i64 k ∧ o = .slice oA (L0 ++ NodeD.textsP (ps.take k)).length oc ∧ OutL W0 wr (.slice oA (L0 ++ NodeD.textsP (ps.take k)).length oc) (L0 ++ NodeD.textsP (ps.take k))) (fun _ i _ => ps.length - (intOf i).toNat)
 case atStart =>
  have h1 : L0 ++ NodeD.textsP (ps.take 0) = L0 := by simp [NodeD.textsP]
  have h2 : L0.length = 0 + 3 := by rw [HL0.out]
  exact ⟨0, A6, c6, Nat.zero_le _, rfl, by rw [h1, h2], by rw [h1, h2]; exact HOU.out⟩
 case round =>
  obtain ⟨k, oA, oc, hk, rfl, rfl, hout⟩ := hrel
  have HT := Lib.hid hout
  have hcb := HCB.out.only hout.2 id
  have b2 := hcb.cell 2
  have b3 := hcb.cell 3
  clear hout c61 hcb
  by_cases hlt : k < ps.length
  ·obtain ⟨g, off, c', hve, _, _, hcell⟩ := HP.out.open_ (by omega)
   injection hve with q1 q2 q3
   subst q1; subst q3
   obtain ⟨p1, p2⟩ := pairL_get (List.getElem?_eq_getElem hlt)
   have c1 := HT.out.2.cell (hcell _ _ p1) id
   have c2 := HT.out.2.cell (hcell _ _ p2) id
   have hpo := HOK.out.pair _ (List.getElem_mem hlt)
   have htk := textsP_take ps hlt
   have hlen := bytes_take (c := ps) (k := k + 1)
   rw [HPL.out] at hlen
   obtain ⟨⟨a, b⟩, hab⟩ : ∃ q, q = ps[k] := ⟨_, rfl⟩
   rw [← hab] at c1 c2 hpo htk
   simp only at hpo htk
   obtain ⟨o1, o2, o3, o4⟩ := hpo
   rw [htk] at hlen
   have hlen2 : (L0 ++ NodeD.textsP (ps.take k)).length + (1 + a.length) + (1 + b.length) ≤ 1000000 := by
    have h1 := NodeD.text_len a
    have h2 := NodeD.text_len b
    rw [List.length_append, List.length_append] at hlen
    rw [List.length_append, HL0.out]
    omega
   have HTK : Hid (L0 ++ NodeD.textsP (ps.take (k + 1)) = L0 ++ NodeD.textsP (ps.take k) ++ NodeD.text a ++ NodeD.text b) := Lib.hid (by rw [htk]; simp)
   unfold strV at c1 c2
   rw [← Nat.add_assoc] at c2
   obtain ⟨L, hL⟩ : ∃ L, L = L0 ++ NodeD.textsP (ps.take k) := ⟨_, rfl⟩
   rw [← hL] at HT HTK hlen2 ⊢
   have HWX : Hid (Own ((wr.alloc (.cells #[.string ⟨a.toArray⟩, .string ⟨b.toArray⟩] 83)).drew) (From W0.heap.size) 5 1 (.slice oA L.length oc) L.length (L.map byteV)) := Lib.hid ((HT.out.1.alloc (.cells #[.string ⟨a.toArray⟩, .string ⟨b.toArray⟩] 83)).keep fun _ _ => rfl)
   have HBX : Hid (Blk ((wr.alloc (.cells #[.string ⟨a.toArray⟩, .string ⟨b.toArray⟩] 83)).drew) wr.heap.size 83 #[.string ⟨a.toArray⟩, .string ⟨b.toArray⟩]) := Lib.hid (Blk.new wr _ _).drew
   have HLE : Hid (W0.heap.size ≤ ((wr.alloc (.cells #[.string ⟨a.toArray⟩, .string ⟨b.toArray⟩] 83)).drew).heap.size) := Lib.hid (by have := HT.out.2.size; simp; omega)
   clear hcell p1 p2 q2 hab htk hlen hL
   go_wp2_with fail
   refine hB _ 8 (fun w' => w'.cell? ⟨wr.heap.size, 0, none⟩ = some (.string ⟨a.toArray⟩) ∧ w'.cell? ⟨wr.heap.size, 1, none⟩ = some (.string ⟨b.toArray⟩)) (⟨HBX.out.cell 0, HBX.out.cell 1⟩) (fun hHeld => ?_)
   refine hT 0 48 ?_
   refine hT 1 49 ?_
   refine hT 2 50 ?_
   refine hT 4 52 ?_
   refine hT 5 53 ?_
   refine hE 3 (fun o ho K hK => ?_)
   cases ho
   go_simp
   refine (text_any _ _ _ HWX.out HLE.out a (by omega) (by omega)).mono ?_
   rintro e w7 ⟨v7, rfl, hown7, hon7⟩
   have hB7 := HBX.out.only hon7 (HBX.out.ne_own HWX.out.1 (by decide))
   have hle7 := Nat.le_trans HLE.out hon7.size
   refine hK.out _ _ (⟨hB7.cell 0, hB7.cell 1⟩) (fun hHeld => ?_)
   clear hK K
   try simp only [Act.put, List.setIfInBounds_toArray, List.set_cons_zero, List.set_cons_succ]
   refine hE 6 (fun o ho K hK => ?_)
   cases ho
   go_simp
   refine (text_any _ _ _ hown7 hle7 b (by omega) (by omega)).mono ?_
   rintro e w8 ⟨v8, rfl, hown8, hon8⟩
   have hB8 := hB7.only hon8 (hB7.ne_own hown7.1 (by decide))
   refine hK.out _ _ (⟨hB8.cell 0, hB8.cell 1⟩) (fun hHeld => ?_)
   clear hK K
   try simp only [Act.put, List.setIfInBounds_toArray, List.set_cons_zero, List.set_cons_succ]
   refine hT 7 9 ?_
   refine wpAnyH_done (by kernel_rfl) ?_ _
   refine NoPanic.normal ?_
   go_wp2_with fail
   obtain ⟨A8, c8, rfl, _⟩ := hown8.shape
   have e1 : (L ++ NodeD.text a ++ NodeD.text b).length = L.length + (1 + a.length) + (1 + b.length) := by
    rw [List.length_append, List.length_append, NodeD.text_len, NodeD.text_len]
   refine ⟨⟨k + 1, A8, c8, by omega, by go_num, by rw [HTK.out, e1], ?_⟩, by simp [intOf]; omega⟩
   rw [HTK.out]
   refine ⟨?_, ?_⟩
   ·have h1 := hown8
    rw [e1, List.map_append, List.map_append]
    exact h1
   ·exact only_new (only_new ((HT.out.2.alloc _).drew) hon7 fun q hq => HWX.out.2 q hq) hon8 fun q hq => hown7.2 q hq
  ·obtain rfl : k = ps.length := by omega
   rw [List.take_length] at HT ⊢
   obtain ⟨L1, hL1⟩ : ∃ L1, L1 = L0 ++ NodeD.textsP ps := ⟨_, rfl⟩
   have HL1 : Hid (L1.length = 3 + NodeD.sizeP ps) := Lib.hid (by rw [hL1, List.length_append, HL0.out, HPL.out])
   have HQ1 := Lib.hid hL1
   rw [← hL1] at HT ⊢
   clear hL1
   go_wp2_with fail
   clear b2 b3
   go_loopw [9, 59] (fun o i wr => ∃ (k : Nat) (oA : Option Addr) (oc : Nat), k ≤ cs.length ∧ i = .int .i64 k ∧ o = .slice oA (L1 ++ NodeD.kids (cs.take k)).length oc ∧ OutL W0 wr (.slice oA (L1 ++ NodeD.kids (cs.take k)).length oc) (L1 ++ NodeD.kids (cs.take k))) (fun _ i _ => cs.length - (intOf i).toNat)
   case atStart =>
    have h1 : L1 ++ NodeD.kids (cs.take 0) = L1 := by simp [NodeD.kids]
    exact ⟨0, oA, oc, Nat.zero_le _, rfl, by rw [h1], by rw [h1]; exact HT.out⟩
   case round =>
    obtain ⟨k, oA, oc, hk, rfl, rfl, hout⟩ := hrel
    have HT := Lib.hid hout
    have hcb := HCB.out.only hout.2 id
    have b2 := hcb.cell 2
    clear hout hcb
    by_cases hlt : k < cs.length
    ·obtain ⟨g, off, c', hve, _, _, hcell⟩ := HC.out.open_ (by omega)
     injection hve with q1 q2 q3
     subst q1; subst q3
     have c1 := HT.out.2.cell (hcell k (natV cs[k]) (by rw [List.getElem?_map, List.getElem?_eq_getElem hlt]; rfl)) id
     have hkd := HOK.out.kid _ (List.getElem_mem hlt)
     have htk := kids_take cs hlt
     have hlen := NodeD.kids_len (cs.take k)
     obtain ⟨a, hab⟩ : ∃ q, q = cs[k] := ⟨_, rfl⟩
     rw [← hab] at c1 hkd htk
     have hlen2 : (L1 ++ NodeD.kids (cs.take k)).length + 3 ≤ 1000000 := by
      rw [List.length_append, hlen, HL1.out, List.length_take]
      omega
     have HTK : Hid (L1 ++ NodeD.kids (cs.take (k + 1)) = L1 ++ NodeD.kids (cs.take k) ++ NodeD.child a) := Lib.hid (by rw [htk]; simp)
     unfold natV at c1
     obtain ⟨L, hL⟩ : ∃ L, L = L1 ++ NodeD.kids (cs.take k) := ⟨_, rfl⟩
     rw [← hL] at HT HTK hlen2 ⊢
     obtain ⟨kd1, kd2⟩ := hkd
     have HCV : Hid ([Value.int .u8 ((a : Int) / 65536), .int .u8 ((a : Int) / 256 % 256), .int .u8 ((a : Int) % 256)] = (NodeD.child a).map byteV) := Lib.hid (by
      have e1 : ((UInt8.ofNat (a / 65536)).toNat : Int) = (a : Int) / 65536 := by rw [UInt8.toNat_ofNat']; omega
      have e2 : ((UInt8.ofNat (a / 256)).toNat : Int) = (a : Int) / 256 % 256 := by rw [UInt8.toNat_ofNat']; omega
      have e3 : ((UInt8.ofNat a).toNat : Int) = (a : Int) % 256 := by rw [UInt8.toNat_ofNat']; omega
      simp only [NodeD.child, List.map_cons, List.map_nil, byteV, e1, e2, e3])
     clear hcell q2 hab htk hlen hL
     go_wp2_with (at_builtin; refine wpList_app rfl _ _ _ rfl (by kernel_rfl) Ty.byte rfl rfl (HT.out.1.alloc _) (rd_new wr 5 1 3 [Value.int .u8 ((a : Int) / 65536), .int .u8 ((a : Int) / 256 % 256), .int .u8 ((a : Int) % 256)] rfl) (by simp [Value.oneCell']) (by omega) ?_; intro v6 w6 ha6; obtain ⟨A6, c6, rfl, _⟩ := id ha6.shape; have HA6 := Lib.hid ha6; clear ha6)
     have e1 : (L ++ NodeD.child a).length = L.length + 3 := by rw [List.length_append]; rfl
     refine ⟨⟨k + 1, A6, c6, by omega, by go_num, by rw [HTK.out, e1], ?_⟩, by simp [intOf]; omega⟩
     rw [HTK.out, e1]
     have h1 : Own w6 _ 5 1 (.slice A6 (L.length + 3) c6) (L.length + 3) _ := HA6.out.own
     rw [HCV.out, ← List.map_append, ← e1] at h1
     have s1 := HT.out.2.size
     refine ⟨?_, only_new (HT.out.2.alloc _) HA6.out.only fun q hq => HT.out.1.2 q hq⟩
     rw [e1] at h1 ⊢
     refine h1.mono fun q hq _ => ?_
     rcases hq with hq | hq
     ·exact hq
     ·rw [hq]; unfold From; simp; omega
    ·obtain rfl : k = cs.length := by omega
     rw [List.take_length] at HT ⊢
     obtain ⟨L2, hL2⟩ : ∃ L2, L2 = L1 ++ NodeD.kids cs := ⟨_, rfl⟩
     have HL2 : Hid (L2.length = 3 + NodeD.sizeP ps + 3 * cs.length) := Lib.hid (by rw [hL2, List.length_append, HL1.out, HCL.out])
     have HQ2 := Lib.hid hL2
     rw [← hL2] at HT ⊢
     clear hL2
     go_wp2_with fail
     clear b2
     go_loopw [9, 78] (fun o i wr => ∃ (k : Nat) (oA : Option Addr) (oc : Nat), k ≤ ks.length ∧ i = .int .i64 k ∧ o = .slice oA (L2 ++ NodeD.textsK (ks.take k)).length oc ∧ OutL W0 wr (.slice oA (L2 ++ NodeD.textsK (ks.take k)).length oc) (L2 ++ NodeD.textsK (ks.take k))) (fun _ i _ => ks.length - (intOf i).toNat)
     case atStart =>
      have h1 : L2 ++ NodeD.textsK (ks.take 0) = L2 := by simp [NodeD.textsK]
      exact ⟨0, oA, oc, Nat.zero_le _, rfl, by rw [h1], by rw [h1]; exact HT.out⟩
     case round =>
      obtain ⟨k, oA, oc, hk, rfl, rfl, hout⟩ := hrel
      have HT := Lib.hid hout
      clear hout
      by_cases hlt : k < ks.length
      ·obtain ⟨g, off, c', hve, _, _, hcell⟩ := HK.out.open_ (by omega)
       injection hve with q1 q2 q3
       subst q1; subst q3
       have c1 := HT.out.2.cell (hcell k (strV ks[k]) (by rw [List.getElem?_map, List.getElem?_eq_getElem hlt]; rfl)) id
       have hkd := HOK.out.key _ (List.getElem_mem hlt)
       have htk := textsK_take ks hlt
       have hlen := NodeD.textsK_len (ks.take k)
       have hle := sizeK_le ks k
       obtain ⟨a, hab⟩ : ∃ q, q = ks[k] := ⟨_, rfl⟩
       rw [← hab] at c1 hkd htk
       have hlen2 : (L2 ++ NodeD.textsK (ks.take k)).length ≤ 1000000 := by
        rw [List.length_append, hlen, HL2.out]
        omega
       have HTK : Hid (L2 ++ NodeD.textsK (ks.take (k + 1)) = L2 ++ NodeD.textsK (ks.take k) ++ NodeD.text a) := Lib.hid (by rw [htk]; simp)
       unfold strV at c1
       obtain ⟨L, hL⟩ : ∃ L, L = L2 ++ NodeD.textsK (ks.take k) := ⟨_, rfl⟩
       rw [← hL] at HT HTK hlen2 ⊢
       obtain ⟨kd1, kd2, kd3⟩ := hkd
       have HX := Lib.hid (text_any _ _ _ HT.out.1 HT.out.2.size a (by omega) (by omega))
       clear hcell q2 hab htk hlen hL hle
       go_wp2_with fail
       refine HX.out.mono ?_
       rintro e w8 ⟨v8, rfl, hown8, hon8⟩
       have HW8 := Lib.hid hown8
       have HO8 := Lib.hid hon8
       obtain ⟨A8, c8, rfl, _⟩ := hown8.shape
       clear hown8 hon8
       go_wp2_with fail
       have e1 : (L ++ NodeD.text a).length = L.length + (1 + a.length) := by rw [List.length_append, NodeD.text_len]
       refine ⟨⟨k + 1, A8, c8, by omega, by go_num, by rw [HTK.out, e1], ?_⟩, by simp [intOf]; omega⟩
       rw [HTK.out, e1]
       refine ⟨?_, only_new HT.out.2 HO8.out fun q hq => HT.out.1.2 q hq⟩
       rw [e1, List.map_append]
       exact HW8.out
      ·obtain rfl : k = ks.length := by omega
       rw [List.take_length] at HT ⊢
       obtain ⟨L3, hL3⟩ : ∃ L3, L3 = L2 ++ NodeD.textsK ks := ⟨_, rfl⟩
       have HL3 : Hid (L3.length = NodeD.size ⟨true, ps, ks, cs⟩) := Lib.hid (by rw [hL3, List.length_append, HL2.out, HKL.out]; simp only [NodeD.size]; omega)
       have HQ3 : Hid (NodeD.bytes ⟨true, ps, ks, cs⟩ m = L3 ++ List.replicate (m - L3.length) 0) := Lib.hid (by
        rw [HL3.out, hL3, HQ2.out, HQ1.out]
        unfold NodeD.bytes NodeD.body
        rw [HHD.out]
        simp)
       have hl3 : L3.length ≤ m := by rw [HL3.out]; exact HOK.out.size
       rw [← hL3] at HT ⊢
       have e9 : (m : Int) - (L3.length : Int) = ((m - L3.length : Nat) : Int) := by omega
       clear hL3
       go_wp2_with (at_builtin; refine wpList_app_zeros (k := m - L3.length) (kq := .i64) (kn := .i64) rfl _ _ _ _ rfl Ty.bytesU Ty.intU Ty.byte Ty.byteZ Ty.byteC rfl (by first | rfl | exact vint e9) HT.out.1 (by omega) ?_; intro v6 w6 ha6; obtain ⟨A6, c6, rfl, _⟩ := id ha6.shape; have HA6 := Lib.hid ha6; clear ha6)
       go_ret2
       have h1 : Own w6 _ 5 1 (.slice A6 (L3.length + (m - L3.length)) c6) (L3.length + (m - L3.length)) _ := HA6.out.own
       have e10 : L3.length + (m - L3.length) = m := by omega
       rw [e10] at h1
       have s0 := HO.out.size
       have s1 := HT.out.2.size
       refine ⟨_, rfl, ?_, HO.out.trans (only_new HT.out.2 HA6.out.only fun q hq => HT.out.1.2 q hq)⟩
       rw [HQ3.out]
       have hlr : (L3 ++ List.replicate (m - L3.length) (0 : UInt8)).length = L3.length + (m - L3.length) := by simp
       unfold Bytes
       rw [hlr, e10]
       have h2 := h1.rd.mono (G := From w.heap.size) fun q hq _ => by
        unfold From at hq ⊢
        rcases hq with hq | hq
        ·omega
        ·rw [hq]; omega
       rw [zerosL_one rfl] at h2
       rw [List.map_append, List.map_replicate, byteV_zero]
       exact h2
theorem bytes_ok (h : NodeR w F pv kv cv n) (hok : n.Ok m) (hne : n.leaf = true → n.pairs ≠ []) (h1 : 64 ≤ m) (h2 : m ≤ 4096) : Calls Tryz.prog 288 #[nodeV n.leaf pv kv cv, .int .i64 m] w (BytesOutN w (n.bytes m)) := by
 obtain ⟨lf, ps, ks, cs⟩ := n
 cases lf with
 | true => exact bytes_leaf h hok hne h1 h2
 | false => exact bytes_inner h hok hne h1 h2
end
end Go.Proofs.YtpjfheadolphgaaGreat
namespace Go.Proofs.YtpjfheadolphgaaGreat
open Go.RowKit
set_option maxRecDepth 20000
theorem ofInt_i64 (a : Nat) (ha : a < 9223372036854775808) : (BitVec.ofInt 64 (a : Int)).toNat = a := by
 rw [BitVec.ofInt_natCast, BitVec.toNat_ofNat]; exact Nat.mod_eq_of_lt (by omega)
theorem i64_or_nat (a b : Nat) (ha : a < 9223372036854775808) (hb : b < 9223372036854775808) : bits .or .i64 (a : Int) (b : Int) = ((a ||| b : Nat) : Int) := by
 have hx : a ||| b < 2 ^ 63 := Nat.or_lt_two_pow (by omega) (by omega)
 show IntKind.i64.wrap ((BitVec.ofInt 64 (a : Int) ||| BitVec.ofInt 64 (b : Int)).toNat : Int) = _
 rw [BitVec.toNat_or, ofInt_i64 a ha, ofInt_i64 b hb]
 simp only [IntKind.wrap, IntKind.signed, IntKind.bits]
 simp
 omega
def bit (bl : List UInt8) (q : Nat) : Bool := (bl.getD (q / 8) 0).toNat.testBit (q % 8)
def flip (bl : List UInt8) (q : Nat) : List UInt8 := bl.set (q / 8) (bl.getD (q / 8) 0 ^^^ UInt8.ofNat (2 ^ (q % 8)))
def le4 (rb : List UInt8) : Nat := (rb.getD 0 0).toNat + 256 * (rb.getD 1 0).toNat + 65536 * (rb.getD 2 0).toNat + 16777216 * (rb.getD 3 0).toNat
theorem flip_len (bl : List UInt8) (q : Nat) : (flip bl q).length = bl.length := by simp [flip]
theorem bit_flip {bl : List UInt8} {q : Nat} (hq : q / 8 < bl.length) (r : Nat) : bit (flip bl q) r = if r = q then !bit bl r else bit bl r := by
 unfold bit flip
 by_cases h8 : r / 8 = q / 8
 ·rw [h8, List.getD_eq_getElem?_getD, List.getElem?_set_self hq]
  simp only [Option.getD_some, UInt8.toNat_xor, Nat.testBit_xor, UInt8.toNat_ofNat']
  have h256 : (2 : Nat) ^ (q % 8) % 2 ^ 8 = 2 ^ (q % 8) := Nat.mod_eq_of_lt (Nat.pow_lt_pow_right (by decide) (Nat.mod_lt _ (by decide)))
  rw [h256, Nat.testBit_two_pow]
  by_cases e : r = q
  ·subst e; simp
  ·have : ¬ q % 8 = r % 8 := by omega
   simp [e, this]
 ·rw [List.getD_eq_getElem?_getD, List.getElem?_set_ne (fun e => h8 e.symm), ← List.getD_eq_getElem?_getD]
  rw [if_neg (fun e => h8 (by rw [e]))]
def le4B (n : Nat) : List UInt8 := [UInt8.ofNat n, UInt8.ofNat (n / 256), UInt8.ofNat (n / 65536), UInt8.ofNat (n / 16777216)]
theorem le4_le4B {n : Nat} (h : n < 4294967296) (rest : List UInt8) : le4 (le4B n ++ rest) = n := by
 simp only [le4, le4B, List.cons_append, List.nil_append, List.getD_cons_zero, List.getD_cons_succ, UInt8.toNat_ofNat']
 omega
end Go.Proofs.YtpjfheadolphgaaGreat
namespace Go.Proofs.YtpjfheadolphgaaGreat
open Go.RowKit Go.Proofs
set_option maxRecDepth 20000
section
variable {w w' : World} {r g off cap : Nat} {rest s : Str} {c : Nat}
theorem conv_b {w : World} {K : Nat → Prop} {v : Value} {l : List UInt8} (h : Bytes w K v l) : (convert 162 9 v).run Tryz.prog w = .ok (.string ⟨l.toArray⟩) w := by
 obtain ⟨A, c, rfl, hc, hl, hx⟩ := h
 cases A with
 | none =>
  have h0 : l = [] := by
   rcases Nat.eq_zero_or_pos l.length with h | h
   ·exact List.eq_nil_of_length_eq_zero h
   ·obtain ⟨ad, h, _⟩ := hx (by omega); cases h
  subst h0
  exact Lib.run_convert_nil_bytes w 162 9 5 c (by kernel_rfl) (by kernel_rfl) (by kernel_rfl)
 | some ad =>
  refine run_convert_bytes_back w 162 9 5 ad c l (by kernel_rfl) (by kernel_rfl) (by kernel_rfl) fun j hj => ?_
  obtain ⟨ad', h1, _, h2⟩ := hx (by omega)
  injection h1 with h1
  subst h1
  exact h2 j _ (by rw [List.getElem?_map, List.getElem?_eq_getElem hj]; rfl)
structure RdrIn (w : World) (r g off cap : Nat) (rest : Str) : Prop where
 blk : Blk w r 356 #[.slice (some ⟨g, off, none⟩) rest.length cap, .bool false]
 cap : rest.length ≤ cap
 cell : ∀ (j : Nat) (u : UInt8), rest[j]? = some u → w.cell? ⟨g, off + j, none⟩ = some (byteV u)
 ne : g ≠ r
def TakeOut (w : World) (r g off cap n : Nat) (rest : Str) (e : Ending) (w' : World) : Prop :=
 e = .returned (.slice (some ⟨g, off, none⟩) n cap) ∧ (∃ off' cap', RdrIn w' r g off' cap' (rest.drop n)) ∧ Only (fun k => k = r) w w'
theorem RdrIn.drop (h : RdrIn w r g off cap rest) {n : Nat} {off' cap' : Nat} (hc : (off' = off + n ∧ cap' = cap - n) ∨ rest.length = n) (hcap : rest.length - n ≤ cap') :
  RdrIn (w.setCell ⟨r, 0, none⟩ (.slice (some ⟨g, off', none⟩) (rest.length - n) cap')) r g off' cap' (rest.drop n) := by
 have hb := h.blk.set_ 0 (.slice (some ⟨g, off', none⟩) (rest.length - n) cap')
 refine ⟨by rw [List.length_drop]; exact hb, by rw [List.length_drop]; exact hcap, fun j u hu => ?_, h.ne⟩
 rw [List.getElem?_drop] at hu
 have hlt := (List.getElem?_eq_some_iff.1 hu).1
 rcases hc with ⟨rfl, rfl⟩ | hc
 ·rw [World.cell?_of_block (Below.heap_setCell _ _ _ _ (by exact h.ne))]
  rw [Nat.add_assoc]
  exact h.cell _ u hu
 ·omega
set_option maxHeartbeats 1000000 in
theorem take_rd (h : RdrIn w r g off cap rest) (n : Nat) (hn : n ≤ rest.length) : Calls Tryz.prog 359 #[.pointer (some ⟨r, 0, none⟩), .int .i64 n] w (TakeOut w r g off cap n rest) := by
 have c0 : w.cell? ⟨r, 0, none⟩ = some (.slice (some ⟨g, off, none⟩) rest.length cap) := h.blk.cell 0
 have f0 := h.blk.frozen 0
 have hcap := h.cap
 have H := Lib.hid h
 have e1 : decide (rest.length < n) = false := by simp; omega
 by_cases hnc : n = cap
 ·obtain rfl : cap = n := hnc.symm
  have hrl : rest.length = cap := by omega
  have HRL := Lib.hid hrl
  clear h hnc hrl
  go_enter Tryz.func359, Tryz.ntmps359
  go_wp2_with fail
  go_ret
  refine ⟨rfl, ⟨off, 0, ?_⟩, (Only.refl (fun k => k = r) w).setCell (p := ⟨r, 0, none⟩) (.inl rfl) _⟩
  have := H.out.drop (n := cap) (off' := off) (cap' := 0) (.inr HRL.out) (by have := HRL.out; omega)
  have e0 : rest.length - cap = 0 := by have := HRL.out; omega
  rw [e0] at this
  exact this
 ·clear h
  go_enter Tryz.func359, Tryz.ntmps359
  go_wp2_with fail
  go_ret
  refine ⟨rfl, ⟨off + n, cap - n, ?_⟩, (Only.refl (fun k => k = r) w).setCell (p := ⟨r, 0, none⟩) (.inl rfl) _⟩
  exact H.out.drop (.inl ⟨rfl, rfl⟩) (by omega)
theorem RdrIn.only {F : Nat → Prop} (h : RdrIn w r g off cap rest) (ho : Only F w w') (h1 : ¬ F r) (h2 : ¬ F g) : RdrIn w' r g off cap rest :=
 ⟨h.blk.only ho h1, h.cap, fun j u hu => ho.cell (h.cell j u hu) h2, h.ne⟩
def ReadR (w : World) (r g : Nat) (v : Value) (rest : Str) (e : Ending) (w' : World) : Prop :=
 e = .returned v ∧ (∃ off cap, RdrIn w' r g off cap rest) ∧ Only (fun k => k = r) w w'
set_option maxHeartbeats 1000000 in
theorem text_rd (h : RdrIn w r g off cap (NodeD.text s ++ rest)) (hs : s.length ≤ 255) : Calls Tryz.prog 347 #[.pointer (some ⟨r, 0, none⟩)] w (ReadR w r g (strV s) rest) := by
 have HT := Lib.hid (take_rd h 1 (by simp [NodeD.text]))
 have c1 := h.cell 0 (UInt8.ofNat s.length) (by simp [NodeD.text])
 rw [Nat.add_zero] at c1
 have hne := h.ne
 have H := Lib.hid h
 have hz : ((UInt8.ofNat s.length).toNat : Int) = (s.length : Int) := by rw [UInt8.toNat_ofNat']; omega
 unfold byteV at c1
 rw [hz] at c1
 have C1 := Lib.hid c1
 clear h c1 hz
 go_enter Tryz.func347, Tryz.ntmps347
 go_wp2_with fail
 refine HT.out.mono ?_
 rintro e w1 ⟨rfl, ⟨off1, cap1, h1⟩, ho1⟩
 have hd1 : (NodeD.text s ++ rest).drop 1 = s ++ rest := by simp [NodeD.text]
 rw [hd1] at h1
 have c1 := ho1.cell C1.out hne
 have HT2 := Lib.hid (take_rd h1 s.length (by simp))
 have hb : Bytes w1 (fun k => k = g) (.slice (some ⟨g, off1, none⟩) s.length cap1) s := by
  refine ⟨_, _, rfl, ?_, by simp, fun _ => ⟨_, rfl, rfl, fun j u hu => ?_⟩⟩
  ·have := h1.cap; simp at this; omega
  ·rw [List.getElem?_map] at hu
   obtain ⟨x, hx, rfl⟩ := Option.map_eq_some_iff.1 hu
   have hlt := (List.getElem?_eq_some_iff.1 hx).1
   rw [Addr.add_lit]
   exact h1.cell j x (by rw [List.getElem?_append_left hlt]; exact hx)
 have HB := Lib.hid hb
 have HO1 := Lib.hid ho1
 clear h1 ho1 hd1 hb
 go_wp2_with fail
 refine HT2.out.mono ?_
 rintro e w2 ⟨rfl, ⟨off2, cap2, h2⟩, ho2⟩
 have hcv := conv_b (Rd.only HB.out ho2 fun k hk e => hne (hk.symm.trans e))
 have H2 := Lib.hid h2
 have HO2 := Lib.hid ho2
 clear h2 ho2
 go_wp2_with fail
 go_ret
 refine ⟨rfl, ⟨off2, cap2, ?_⟩, HO1.out.trans HO2.out⟩
 have := H2.out
 rwa [List.drop_left] at this
theorem or3 (a b c : Nat) (ha : a < 256) (hb : b < 256) (hc : c < 256) : bits .or .i64 (bits .or .i64 ((a : Int) * 65536) ((b : Int) * 256)) (c : Int) = ((a * 65536 + b * 256 + c : Nat) : Int) := by
 have e1 : (a : Int) * 65536 = ((a * 65536 : Nat) : Int) := by omega
 have e2 : (b : Int) * 256 = ((b * 256 : Nat) : Int) := by omega
 rw [e1, e2, i64_or_nat _ _ (by omega) (by omega), nat_join 16 (a * 65536) (b * 256) (by omega) (by omega), i64_or_nat _ _ (by omega) (by omega), nat_join 8 _ c (by omega) (by omega)]
set_option maxHeartbeats 1000000 in
theorem child_rd (h : RdrIn w r g off cap (NodeD.child c ++ rest)) (hcl : c < 16777216) : Calls Tryz.prog 349 #[.pointer (some ⟨r, 0, none⟩)] w (ReadR w r g (.int .i64 c) rest) := by
 have HT := Lib.hid (take_rd h 3 (by simp [NodeD.child]))
 have c0 := h.cell 0 (UInt8.ofNat (c / 65536)) (by simp [NodeD.child])
 have c1 := h.cell 1 (UInt8.ofNat (c / 256)) (by simp [NodeD.child])
 have c2 := h.cell 2 (UInt8.ofNat c) (by simp [NodeD.child])
 rw [Nat.add_zero] at c0
 have hne := h.ne
 have hcap : 3 ≤ cap := by have := h.cap; simp [NodeD.child] at this; omega
 obtain ⟨x, hx⟩ : ∃ x, x = (UInt8.ofNat (c / 65536)).toNat := ⟨_, rfl⟩
 obtain ⟨y, hy⟩ : ∃ y, y = (UInt8.ofNat (c / 256)).toNat := ⟨_, rfl⟩
 obtain ⟨z, hz⟩ : ∃ z, z = (UInt8.ofNat c).toNat := ⟨_, rfl⟩
 unfold byteV at c0 c1 c2
 rw [← hx] at c0
 rw [← hy] at c1
 rw [← hz] at c2
 have hxl : x < 256 := by rw [hx]; exact UInt8.toNat_lt _
 have hyl : y < 256 := by rw [hy]; exact UInt8.toNat_lt _
 have hzl : z < 256 := by rw [hz]; exact UInt8.toNat_lt _
 have HV : Hid (x * 65536 + y * 256 + z = c) := Lib.hid (by rw [hx, hy, hz]; exact NodeD.child_val hcl)
 have C0 := Lib.hid c0
 have C1 := Lib.hid c1
 have C2 := Lib.hid c2
 clear h c0 c1 c2 hx hy hz
 go_enter Tryz.func349, Tryz.ntmps349
 go_wp2_with fail
 refine HT.out.mono ?_
 rintro e w1 ⟨rfl, ⟨off1, cap1, h1⟩, ho1⟩
 have hd1 : (NodeD.child c ++ rest).drop 3 = rest := by simp [NodeD.child]
 rw [hd1] at h1
 have c0 := ho1.cell C0.out hne
 have c1 := ho1.cell C1.out hne
 have c2 := ho1.cell C2.out hne
 have H1 := Lib.hid h1
 have HO1 := Lib.hid ho1
 clear h1 ho1 hd1
 go_wp2_with fail
 go_quiet (fail)
 go_wp2_with fail
 go_ret
 rw [or3 x y z hxl hyl hzl, HV.out]
 exact ⟨rfl, ⟨off1, cap1, H1.out.only ((Only.refl NoB w1).drewN nq) id id⟩, HO1.out.drewN nq⟩
end
end Go.Proofs.YtpjfheadolphgaaGreat
namespace Go.Proofs.YtpjfheadolphgaaGreat
open Go.RowKit Go.Proofs
set_option maxRecDepth 20000
section
variable {w w' : World} {r g nb off cap : Nat} {rest s : Str} {c : Nat} {ps : List KV} {ks : List Str} {cs : List Nat} {l0 : Bool} {pv kv cv : Value}
structure LeafRd (w : World) (r g nb : Nat) (kv cv : Value) (ps : List KV) (rest : Str) (pv : Value) (w' : World) : Prop where
 rdr : ∃ off cap, RdrIn w' r g off cap rest
 blk : Blk w' nb 200 #[.bool true, pv, kv, cv]
 own : Own w' (From w.heap.size) 83 2 pv ps.length (pairL ps)
 only : Only (fun q => q = r ∨ q = nb) w w'
def LeafOut (w : World) (r g nb : Nat) (kv cv : Value) (ps : List KV) (rest : Str) (e : Ending) (w' : World) : Prop := e = .returned (.tuple #[]) ∧ ∃ pv, LeafRd w r g nb kv cv ps rest pv w'
theorem textsP_drop (ps : List KV) {k : Nat} (h : k < ps.length) : NodeD.textsP (ps.drop k) = NodeD.text ps[k].1 ++ (NodeD.text ps[k].2 ++ NodeD.textsP (ps.drop (k + 1))) := by
 rw [List.drop_eq_getElem_cons h]; rfl
theorem pairL_take (ps : List KV) {k : Nat} (h : k < ps.length) : pairL (ps.take (k + 1)) = pairL (ps.take k) ++ [strV ps[k].1, strV ps[k].2] := by
 rw [List.take_succ_eq_append_getElem h, pairL_append]; rfl
theorem LeafRd.step {w1 w2 w4 : World} {a b : Str} {off2 cap2 n : Nat} {v4 : Value} (hn : ps.length = n) (h : LeafRd w r g nb kv cv ps (NodeD.text a ++ (NodeD.text b ++ rest)) pv w1) (hnr : nb ≠ r) (hng : nb ≠ g) (hnw : nb < w.heap.size) (hrw : r < w.heap.size) (hgw : g < w.heap.size)
  (h2 : RdrIn w2 r g off2 cap2 rest) (ho2 : Only (fun k => k = r) w1 w2)
  (ha : App (w2.alloc (.cells #[strV a, strV b] 83)) (From w.heap.size) 83 2 pv n 1 (pairL ps) [strV a, strV b] v4 w4) :
  LeafRd w r g nb kv cv (ps ++ [(a, b)]) rest v4 (w4.setCell ⟨nb, 1, none⟩ v4) := by
 subst hn
 have ho : Only (fun q => q = r ∨ q = nb ∨ pv.ownBlock = some q) w w4 :=
  ((h.only.mono fun _ _ hk => by rcases hk with hk | hk; (· exact .inl hk); (· exact .inr (.inl hk))).trans ((ho2.mono fun _ _ hk => .inl hk).alloc _)).trans (ha.only.mono fun _ _ hk => .inr (.inr hk))
 have hown : ∀ q, pv.ownBlock = some q → w.heap.size ≤ q := fun q hq => h.own.2 q hq
 have hb4 : Blk w4 nb 200 #[.bool true, pv, kv, cv] := ((h.blk.only ho2 (fun e => hnr e)).alloc _).only ha.only fun hq => by have := hown _ hq; omega
 have hr4 : RdrIn w4 r g off2 cap2 rest := (h2.only ((Only.refl NoB w2).alloc _) id id).only ha.only (fun hq => by have := hown _ hq; omega) (fun hq => by have := hown _ hq; omega)
 have hset : Only (fun q => q = nb) w4 (w4.setCell ⟨nb, 1, none⟩ v4) := (Only.refl (fun q => q = nb) w4).setCell (p := ⟨nb, 1, none⟩) (.inl rfl) v4
 refine ⟨⟨_, _, hr4.only hset (fun e => hnr e.symm) (fun e => hng e.symm)⟩, hb4.set_ 1 v4, ?_, ?_⟩
 ·have h5 := ha.own
  have h6 : Own w4 (From w.heap.size) 83 2 v4 (ps ++ [(a, b)]).length (pairL (ps ++ [(a, b)])) := by
   rw [List.length_append, pairL_append]
   refine h5.mono fun q hq _ => ?_
   rcases hq with hq | hq
   ·exact hq
   ·rw [hq]; unfold From; have := h.only.size; have := ho2.size; simp; omega
  exact h6.only hset fun q hq e => by unfold From at hq; omega
 ·refine (ho.mono fun q hq hk => ?_).setCell (p := ⟨nb, 1, none⟩) (.inl (.inr rfl)) _
  rcases hk with hk | hk | hk
  ·exact .inl hk
  ·exact .inr hk
  ·have := hown _ hk; omega
set_option maxHeartbeats 2000000 in
theorem leaf_rd (h : RdrIn w r g off cap (NodeD.textsP ps ++ rest)) (hb : Blk w nb 200 #[.bool l0, .slice none 0 0, kv, cv]) (hnr : nb ≠ r) (hng : nb ≠ g) (hnw : nb < w.heap.size) (hrw : r < w.heap.size) (hgw : g < w.heap.size)
  (hp : ∀ p ∈ ps, p.1.length ≤ 255 ∧ p.2.length ≤ 255) (hl : ps.length ≤ 4096) : Calls Tryz.prog 346 #[.pointer (some ⟨r, 0, none⟩), .pointer (some ⟨nb, 0, none⟩), .int .i64 ps.length] w (LeafOut w r g nb kv cv ps rest) := by
 have f0 := hb.frozen 0
 have c0 := hb.cell 0
 have hset : Only (fun q => q = nb) w (w.setCell ⟨nb, 0, none⟩ (.bool true)) := (Only.refl (fun q => q = nb) w).setCell (p := ⟨nb, 0, none⟩) (.inl rfl) (.bool true)
 have HS : Hid (LeafRd w r g nb kv cv [] (NodeD.textsP ps ++ rest) (.slice none 0 0) (w.setCell ⟨nb, 0, none⟩ (.bool true))) := Lib.hid
  ⟨⟨_, _, h.only hset (fun e => hnr e.symm) (fun e => hng e.symm)⟩, hb.set_ 0 (.bool true), Own.nil _ _ _ _, hset.mono fun _ _ hk => .inr hk⟩
 have HP := Lib.hid hp
 clear h hb hset hp
 go_enter Tryz.func346, Tryz.ntmps346
 go_wp2_with fail
 go_loopw [6] (fun i wr => ∃ (k : Nat) (pv : Value), k ≤ ps.length ∧ i = .int .i64 k ∧ LeafRd w r g nb kv cv (ps.take k) (NodeD.textsP (ps.drop k) ++ rest) pv wr) (fun i _ => ps.length - (intOf i).toNat)
 case atStart => exact ⟨0, .slice none 0 0, Nat.zero_le _, rfl, by simpa using HS.out⟩
 case round =>
  obtain ⟨k, pv, hk, rfl, hrd⟩ := hrel
  obtain ⟨off1, cap1, hr1⟩ := hrd.rdr
  have c1 : wr.cell? ⟨r, 1, none⟩ = some (.bool false) := hr1.blk.cell 1
  by_cases hlt : k < ps.length
  ·have hd := textsP_drop ps hlt
   have ht := pairL_take ps hlt
   have hpo := HP.out _ (List.getElem_mem hlt)
   have HTK : Hid (ps.take (k + 1) = ps.take k ++ [(ps[k].1, ps[k].2)]) := Lib.hid (List.take_succ_eq_append_getElem hlt)
   obtain ⟨a, ha⟩ : ∃ a, a = ps[k].1 := ⟨_, rfl⟩
   obtain ⟨b, hb⟩ : ∃ b, b = ps[k].2 := ⟨_, rfl⟩
   rw [← ha, ← hb] at hd ht hpo HTK
   obtain ⟨hp1, hp2⟩ := hpo
   rw [hd, List.append_assoc, List.append_assoc] at hrd hr1
   have HT1 := Lib.hid (text_rd hr1 hp1)
   have HRD := Lib.hid hrd
   have HTL : Hid ((ps.take k).length = k) := Lib.hid (by rw [List.length_take]; omega)
   clear hd ht hrd hr1 ha hb
   go_wp2_with fail
   refine HT1.out.mono ?_
   rintro e w1 ⟨rfl, ⟨off2, cap2, h2⟩, ho2⟩
   have HT2 : Hid (Calls Tryz.prog 347 #[.pointer (some ⟨r, 0, none⟩)] w1.drew (ReadR w1.drew r g (.string ⟨b.toArray⟩) _)) := Lib.hid (text_rd (h2.only (Only.refl NoB w1).drew id id) hp2)
   have hb2 := HRD.out.blk.only ho2.drew (fun e => hnr e)
   have HOW := Lib.hid (HRD.out.own.only ho2.drew fun q hq e => by unfold From at hq; omega)
   have HB2 := Lib.hid hb2
   have HO2 := Lib.hid ho2.drew
   obtain ⟨pA, pc, rfl, _⟩ := HRD.out.own.shape
   rw [HTL.out] at HOW HRD HB2
   have c2 : w1.drew.cell? ⟨nb, 1, none⟩ = some (.slice pA k pc) := HB2.out.cell 1
   clear h2 hb2 ho2 c1
   unfold strV
   go_wp2_with fail
   go_region_law
    (first
     | (refine step_app (by rfl) _ _ _ (by rfl) (by kernel_rfl) Ty.pair (by rfl) (by rfl) (v := .slice pA k pc) (F := From w.heap.size) (xs := pairL (ps.take k)) (n := k) (m := 1) (sv := .slice (some ⟨w2.heap.size, 0, none⟩) 1 1) (news := [.string ⟨a.toArray⟩, .string ⟨b.toArray⟩]) ((HOW.out.only HO3.out fun q hq e => by unfold From at hq; omega).alloc _) (rd_new w2 83 2 1 [.string ⟨a.toArray⟩, .string ⟨b.toArray⟩] rfl) (by simp [Value.oneCell']) (by omega) ?_; intro v4 w4 ha; obtain ⟨A4, c4, rfl, _⟩ := id ha.shape; have hb4 := ((HB2.out.only HO3.out (fun e => hnr e)).alloc (Obj.cells #[Value.string ⟨a.toArray⟩, .string ⟨b.toArray⟩] 83)).only ha.only (fun hq => by have := HOW.out.2 _ hq; unfold From at this; omega); have c4' : w4.cell? ⟨nb, 1, none⟩ = some (.slice pA k pc) := hb4.cell 1; have f4 := hb4.frozen 1)
     | (refine step_go (by rfl) 347 _ _ (by rfl) _ (by rfl) (fun _ => rfl) HT2.out (fun _ _ h => ⟨_, h.1⟩) ?_; rintro vv w2 ⟨he, ⟨off3, cap3, h3⟩, ho3⟩; cases he; have HO3 := Lib.hid ho3; have H3 := Lib.hid h3; have c3 : w2.cell? ⟨nb, 1, none⟩ = some (.slice pA k pc) := (HB2.out.only ho3 (fun e => hnr e)).cell 1; have c3' : (w2.alloc (Obj.cells #[.string ⟨a.toArray⟩, .string ⟨b.toArray⟩] 83)).cell? ⟨nb, 1, none⟩ = some (.slice pA k pc) := ((HB2.out.only ho3 (fun e => hnr e)).alloc _).cell 1; clear ho3 h3))
   all_goals
    have HF := Lib.hid (HRD.out.step HTL.out hnr hng hnw hrw hgw H3.out (HO2.out.trans HO3.out) ha)
    clear ha hb4 c4' f4 c3 c3' c2
    go_wp2_with fail
    go_roundw
    case rel => exact ⟨k + 1, _, by omega, rfl, by rw [HTK.out]; exact HF.out⟩
    case measure => simp only [intOf]; omega
  ·obtain rfl : k = ps.length := by omega
   clear hr1
   rw [List.take_length] at hrd
   rw [List.drop_length] at hrd
   have HRD := Lib.hid hrd
   clear hrd
   go_wp2_with fail
   go_end0
   exact ⟨rfl, _, HRD.out⟩
end
end Go.Proofs.YtpjfheadolphgaaGreat
namespace Go.Proofs.YtpjfheadolphgaaGreat
open Go.RowKit Go.Proofs
set_option maxRecDepth 20000
section
variable {w w' : World} {r g nb off cap : Nat} {rest s : Str} {c : Nat} {ks : List Str} {cs : List Nat} {l0 : Bool} {pv kv cv : Value}
structure InRd (w : World) (r g nb : Nat) (pv : Value) (ks : List Str) (cs : List Nat) (rest : Str) (kv cv : Value) (w' : World) : Prop where
 rdr : ∃ off cap, RdrIn w' r g off cap rest
 blk : Blk w' nb 200 #[.bool false, pv, kv, cv]
 keys : Own w' (From w.heap.size) 9 1 kv ks.length (ks.map strV)
 kids : Own w' (From w.heap.size) 3 1 cv cs.length (cs.map natV)
 apart : ∀ q, kv.ownBlock = some q → cv.ownBlock ≠ some q
 only : Only (fun q => q = r ∨ q = nb) w w'
def InOut (w : World) (r g nb : Nat) (pv : Value) (ks : List Str) (cs : List Nat) (rest : Str) (e : Ending) (w' : World) : Prop := e = .returned (.tuple #[]) ∧ ∃ kv cv, InRd w r g nb pv ks cs rest kv cv w'
theorem kids_drop (cs : List Nat) {k : Nat} (h : k < cs.length) : NodeD.kids (cs.drop k) = NodeD.child cs[k] ++ NodeD.kids (cs.drop (k + 1)) := by
 rw [List.drop_eq_getElem_cons h]; rfl
theorem textsK_drop (ks : List Str) {k : Nat} (h : k < ks.length) : NodeD.textsK (ks.drop k) = NodeD.text ks[k] ++ NodeD.textsK (ks.drop (k + 1)) := by
 rw [List.drop_eq_getElem_cons h]; rfl
theorem InRd.kid {w1 w2 w4 : World} {c off2 cap2 n : Nat} {v4 : Value} (hn : cs.length = n) (h : InRd w r g nb pv [] cs (NodeD.child c ++ rest) (.slice none 0 0) cv w1) (hnr : nb ≠ r) (hng : nb ≠ g) (hnw : nb < w.heap.size) (hrw : r < w.heap.size) (hgw : g < w.heap.size)
  (h2 : RdrIn w2 r g off2 cap2 rest) (ho2 : Only (fun k => k = r) w1 w2)
  (ha : App (w2.alloc (.cells #[natV c] 3)) (From w.heap.size) 3 1 cv n 1 (cs.map natV) [natV c] v4 w4) :
  InRd w r g nb pv [] (cs ++ [c]) rest (.slice none 0 0) v4 (w4.setCell ⟨nb, 3, none⟩ v4) := by
 subst hn
 have ho : Only (fun q => q = r ∨ q = nb ∨ cv.ownBlock = some q) w w4 :=
  ((h.only.mono fun _ _ hk => by rcases hk with hk | hk; (· exact .inl hk); (· exact .inr (.inl hk))).trans ((ho2.mono fun _ _ hk => .inl hk).alloc _)).trans (ha.only.mono fun _ _ hk => .inr (.inr hk))
 have hown : ∀ q, cv.ownBlock = some q → w.heap.size ≤ q := fun q hq => h.kids.2 q hq
 have hb4 : Blk w4 nb 200 #[.bool false, pv, .slice none 0 0, cv] := ((h.blk.only ho2 (fun e => hnr e)).alloc _).only ha.only fun hq => by have := hown _ hq; omega
 have hr4 : RdrIn w4 r g off2 cap2 rest := (h2.only ((Only.refl NoB w2).alloc _) id id).only ha.only (fun hq => by have := hown _ hq; omega) (fun hq => by have := hown _ hq; omega)
 have hset : Only (fun q => q = nb) w4 (w4.setCell ⟨nb, 3, none⟩ v4) := (Only.refl (fun q => q = nb) w4).setCell (p := ⟨nb, 3, none⟩) (.inl rfl) v4
 refine ⟨⟨_, _, hr4.only hset (fun e => hnr e.symm) (fun e => hng e.symm)⟩, hb4.set_ 3 v4, Own.nil _ _ _ _, ?_, fun q hq => by simp [Value.ownBlock] at hq, ?_⟩
 ·have h5 := ha.own
  have h6 : Own w4 (From w.heap.size) 3 1 v4 (cs ++ [c]).length ((cs ++ [c]).map natV) := by
   rw [List.length_append, List.map_append]
   refine h5.mono fun q hq _ => ?_
   rcases hq with hq | hq
   ·exact hq
   ·rw [hq]; unfold From; have := h.only.size; have := ho2.size; simp; omega
  exact h6.only hset fun q hq e => by unfold From at hq; omega
 ·refine (ho.mono fun q hq hk => ?_).setCell (p := ⟨nb, 3, none⟩) (.inl (.inr rfl)) _
  rcases hk with hk | hk | hk
  ·exact .inl hk
  ·exact .inr hk
  ·have := hown _ hk; omega
theorem InRd.key {w1 w2 w4 : World} {a : Str} {off2 cap2 n : Nat} {v4 : Value} (hn : ks.length = n) (h : InRd w r g nb pv ks cs (NodeD.text a ++ rest) kv cv w1) (hnr : nb ≠ r) (hng : nb ≠ g) (hnw : nb < w.heap.size) (hrw : r < w.heap.size) (hgw : g < w.heap.size)
  (h2 : RdrIn w2 r g off2 cap2 rest) (ho2 : Only (fun k => k = r) w1 w2)
  (ha : App (w2.alloc (.cells #[strV a] 9)) (From w.heap.size) 9 1 kv n 1 (ks.map strV) [strV a] v4 w4) :
  InRd w r g nb pv (ks ++ [a]) cs rest v4 cv (w4.setCell ⟨nb, 2, none⟩ v4) := by
 subst hn
 have ho : Only (fun q => q = r ∨ q = nb ∨ kv.ownBlock = some q) w w4 :=
  ((h.only.mono fun _ _ hk => by rcases hk with hk | hk; (· exact .inl hk); (· exact .inr (.inl hk))).trans ((ho2.mono fun _ _ hk => .inl hk).alloc _)).trans (ha.only.mono fun _ _ hk => .inr (.inr hk))
 have hown : ∀ q, kv.ownBlock = some q → w.heap.size ≤ q := fun q hq => h.keys.2 q hq
 have hownc : ∀ q, cv.ownBlock = some q → w.heap.size ≤ q := fun q hq => h.kids.2 q hq
 have hb4 : Blk w4 nb 200 #[.bool false, pv, kv, cv] := ((h.blk.only ho2 (fun e => hnr e)).alloc _).only ha.only fun hq => by have := hown _ hq; omega
 have hr4 : RdrIn w4 r g off2 cap2 rest := (h2.only ((Only.refl NoB w2).alloc _) id id).only ha.only (fun hq => by have := hown _ hq; omega) (fun hq => by have := hown _ hq; omega)
 have hset : Only (fun q => q = nb) w4 (w4.setCell ⟨nb, 2, none⟩ v4) := (Only.refl (fun q => q = nb) w4).setCell (p := ⟨nb, 2, none⟩) (.inl rfl) v4
 have hk1 : Own (w2.alloc (.cells #[strV a] 9)) (fun q => cv.ownBlock = some q) 3 1 cv cs.length (cs.map natV) := (Own.only ⟨h.kids.1, fun q hq => hq⟩ ho2 fun q hq e => by have := hownc _ hq; omega).alloc _
 have hk4 : Own w4 (fun q => cv.ownBlock = some q) 3 1 cv cs.length (cs.map natV) := hk1.only ha.only fun q hq e => h.apart q e hq
 refine ⟨⟨_, _, hr4.only hset (fun e => hnr e.symm) (fun e => hng e.symm)⟩, hb4.set_ 2 v4, ?_, ?_, ?_, ?_⟩
 ·have h5 := ha.own
  have h6 : Own w4 (From w.heap.size) 9 1 v4 (ks ++ [a]).length ((ks ++ [a]).map strV) := by
   rw [List.length_append, List.map_append]
   refine h5.mono fun q hq _ => ?_
   rcases hq with hq | hq
   ·exact hq
   ·rw [hq]; unfold From; have := h.only.size; have := ho2.size; simp; omega
  exact h6.only hset fun q hq e => by unfold From at hq; omega
 ·exact (hk4.mono fun q hq _ => hownc q hq).only hset fun q hq e => by have : w.heap.size ≤ q := hq; omega
 ·intro q hq hc
  rcases ha.lies with e1 | e1
  ·rw [e1] at hq; exact h.apart q hq hc
  ·rw [e1] at hq
   injection hq with hq
   have := hk1.lt hc
   omega
 ·refine (ho.mono fun q hq hk => ?_).setCell (p := ⟨nb, 2, none⟩) (.inl (.inr rfl)) _
  rcases hk with hk | hk | hk
  ·exact .inl hk
  ·exact .inr hk
  ·have := hown _ hk; omega
set_option maxHeartbeats 4000000 in
theorem inner_rd (h : RdrIn w r g off cap (NodeD.kids cs ++ (NodeD.textsK ks ++ rest))) (hb : Blk w nb 200 #[.bool false, pv, .slice none 0 0, .slice none 0 0]) (hnr : nb ≠ r) (hng : nb ≠ g) (hnw : nb < w.heap.size) (hrw : r < w.heap.size) (hgw : g < w.heap.size)
  (hk : ∀ p ∈ ks, p.length ≤ 255) (hc : ∀ c ∈ cs, c < 16777216) (hcl : cs.length = ks.length + 1) (hl : ks.length ≤ 4096) : Calls Tryz.prog 348 #[.pointer (some ⟨r, 0, none⟩), .pointer (some ⟨nb, 0, none⟩), .int .i64 ks.length] w (InOut w r g nb pv ks cs rest) := by
 have HS : Hid (InRd w r g nb pv [] [] (NodeD.kids cs ++ (NodeD.textsK ks ++ rest)) (.slice none 0 0) (.slice none 0 0) w) := Lib.hid
  ⟨⟨_, _, h⟩, hb, Own.nil _ _ _ _, Own.nil _ _ _ _, fun q hq => by simp [Value.ownBlock] at hq, Only.refl _ _⟩
 have HK := Lib.hid hk
 have HC := Lib.hid hc
 clear h hb hk hc
 go_enter Tryz.func348, Tryz.ntmps348
 go_wp2_with fail
 go_loopw [6] (fun i wr => ∃ (k : Nat) (cv : Value), k ≤ cs.length ∧ i = .int .i64 k ∧ InRd w r g nb pv [] (cs.take k) (NodeD.kids (cs.drop k) ++ (NodeD.textsK ks ++ rest)) (.slice none 0 0) cv wr) (fun i _ => cs.length - (intOf i).toNat)
 case atStart => exact ⟨0, .slice none 0 0, Nat.zero_le _, rfl, by simpa using HS.out⟩
 case round =>
  obtain ⟨k, cv, hk, rfl, hrd⟩ := hrel
  obtain ⟨off1, cap1, hr1⟩ := hrd.rdr
  have c1 : wr.cell? ⟨r, 1, none⟩ = some (.bool false) := hr1.blk.cell 1
  by_cases hlt : k < cs.length
  ·have hd := kids_drop cs hlt
   have hpo := HC.out _ (List.getElem_mem hlt)
   have HTK : Hid (cs.take (k + 1) = cs.take k ++ [cs[k]]) := Lib.hid (List.take_succ_eq_append_getElem hlt)
   obtain ⟨a, ha⟩ : ∃ a, a = cs[k] := ⟨_, rfl⟩
   rw [← ha] at hd hpo HTK
   rw [hd, List.append_assoc] at hrd hr1
   have HT2 : Hid (Calls Tryz.prog 349 #[.pointer (some ⟨r, 0, none⟩)] wr.drew (ReadR wr.drew r g (.int .i64 a) _)) := Lib.hid (child_rd (hr1.only (Only.refl NoB wr).drew id id) hpo)
   have HRD := Lib.hid hrd
   have HTL : Hid ((cs.take k).length = k) := Lib.hid (by rw [List.length_take]; omega)
   have HOW : Hid (Own wr.drew (From w.heap.size) 3 1 cv _ _) := Lib.hid (hrd.kids.only (Only.refl NoB wr).drew fun _ _ => id)
   have HB2 := Lib.hid (hrd.blk.drew)
   obtain ⟨pA, pc, rfl, _⟩ := HRD.out.kids.shape
   rw [HTL.out] at HOW HRD HB2
   have c2 : wr.drew.cell? ⟨nb, 3, none⟩ = some (.slice pA k pc) := HB2.out.cell 3
   have hle : (k : Int) ≤ (ks.length : Int) := by omega
   clear hd hrd hr1 ha hpo
   go_wp2_with fail
   go_region_law
    (first
     | (refine step_app (by rfl) _ _ _ (by rfl) (by kernel_rfl) Ty.nat (by rfl) (by rfl) (v := .slice pA k pc) (F := From w.heap.size) (xs := (cs.take k).map natV) (n := k) (m := 1) (sv := .slice (some ⟨w2.heap.size, 0, none⟩) 1 1) (news := [.int .i64 (a : Int)]) ((HOW.out.only HO3.out fun q hq e => by unfold From at hq; omega).alloc _) (rd_new w2 3 1 1 [.int .i64 (a : Int)] rfl) (by simp [Value.oneCell']) (by omega) ?_; intro v4 w4 ha; obtain ⟨A4, c4, rfl, _⟩ := id ha.shape; have hb4 := ((HB2.out.only HO3.out (fun e => hnr e)).alloc (Obj.cells #[.int .i64 (a : Int)] 3)).only ha.only (fun hq => by have := HOW.out.2 _ hq; unfold From at this; omega); have c4' : w4.cell? ⟨nb, 3, none⟩ = some (.slice pA k pc) := hb4.cell 3; have f4 := hb4.frozen 3)
     | (refine step_go (by rfl) 349 _ _ (by rfl) _ (by rfl) (fun _ => rfl) HT2.out (fun _ _ h => ⟨_, h.1⟩) ?_; rintro vv w2 ⟨he, ⟨off3, cap3, h3⟩, ho3⟩; cases he; have HO3 := Lib.hid ho3; have H3 := Lib.hid h3; have c3 : w2.cell? ⟨nb, 3, none⟩ = some (.slice pA k pc) := (HB2.out.only ho3 (fun e => hnr e)).cell 3; have c3' : (w2.alloc (Obj.cells #[.int .i64 (a : Int)] 3)).cell? ⟨nb, 3, none⟩ = some (.slice pA k pc) := ((HB2.out.only ho3 (fun e => hnr e)).alloc _).cell 3; clear ho3 h3))
   all_goals
    have HF := Lib.hid (HRD.out.kid HTL.out hnr hng hnw hrw hgw H3.out (((Only.refl (fun k => k = r) wr).drew).trans HO3.out) ha)
    clear ha hb4 c4' f4 c3 c3' c2
    go_wp2_with fail
    go_roundw
    case rel => exact ⟨k + 1, _, by omega, rfl, by rw [HTK.out]; exact HF.out⟩
    case measure => simp only [intOf]; omega
  ·obtain rfl : k = cs.length := by omega
   clear hr1
   rw [List.take_length, List.drop_length] at hrd
   have HRD : Hid (InRd w r g nb pv [] cs (NodeD.textsK ks ++ rest) (.slice none 0 0) cv wr) := Lib.hid hrd
   have hle : ¬ ((cs.length : Int) ≤ (ks.length : Int)) := by omega
   clear hrd c1
   go_wp2_with fail
   go_loopw [7] (fun i wr => ∃ (k : Nat) (kv : Value), k ≤ ks.length ∧ i = .int .i64 k ∧ InRd w r g nb pv (ks.take k) cs (NodeD.textsK (ks.drop k) ++ rest) kv cv wr) (fun i _ => ks.length - (intOf i).toNat)
   case atStart => exact ⟨0, .slice none 0 0, Nat.zero_le _, rfl, by simpa using HRD.out⟩
   case round =>
    clear HRD
    obtain ⟨k, kv, hk, rfl, hrd⟩ := hrel
    obtain ⟨off1, cap1, hr1⟩ := hrd.rdr
    have c1 : wr.cell? ⟨r, 1, none⟩ = some (.bool false) := hr1.blk.cell 1
    by_cases hlt : k < ks.length
    ·have hd := textsK_drop ks hlt
     have hpo := HK.out _ (List.getElem_mem hlt)
     have HTK : Hid (ks.take (k + 1) = ks.take k ++ [ks[k]]) := Lib.hid (List.take_succ_eq_append_getElem hlt)
     obtain ⟨a, ha⟩ : ∃ a, a = ks[k] := ⟨_, rfl⟩
     rw [← ha] at hd hpo HTK
     rw [hd, List.append_assoc] at hrd hr1
     have HT2 : Hid (Calls Tryz.prog 347 #[.pointer (some ⟨r, 0, none⟩)] wr.drew (ReadR wr.drew r g (.string ⟨a.toArray⟩) _)) := Lib.hid (text_rd (hr1.only (Only.refl NoB wr).drew id id) hpo)
     have HRD := Lib.hid hrd
     have HTL : Hid ((ks.take k).length = k) := Lib.hid (by rw [List.length_take]; omega)
     have HOW : Hid (Own wr.drew (From w.heap.size) 9 1 kv _ _) := Lib.hid (hrd.keys.only (Only.refl NoB wr).drew fun _ _ => id)
     have HB2 := Lib.hid (hrd.blk.drew)
     obtain ⟨pA, pc, rfl, _⟩ := HRD.out.keys.shape
     obtain ⟨qA, qc, rfl, _⟩ := HRD.out.kids.shape
     rw [HTL.out] at HOW HRD HB2
     have c2 : wr.drew.cell? ⟨nb, 2, none⟩ = some (.slice pA k pc) := HB2.out.cell 2
     clear hd hrd hr1 ha hpo
     go_wp2_with fail
     go_region_law
      (first
       | (refine step_app (by rfl) _ _ _ (by rfl) (by kernel_rfl) Ty.str (by rfl) (by rfl) (v := .slice pA k pc) (F := From w.heap.size) (xs := (ks.take k).map strV) (n := k) (m := 1) (sv := .slice (some ⟨w2.heap.size, 0, none⟩) 1 1) (news := [.string ⟨a.toArray⟩]) ((HOW.out.only HO3.out fun q hq e => by unfold From at hq; omega).alloc _) (rd_new w2 9 1 1 [.string ⟨a.toArray⟩] rfl) (by simp [Value.oneCell']) (by omega) ?_; intro v4 w4 ha; obtain ⟨A4, c4, rfl, _⟩ := id ha.shape; have hb4 := ((HB2.out.only HO3.out (fun e => hnr e)).alloc (Obj.cells #[.string ⟨a.toArray⟩] 9)).only ha.only (fun hq => by have := HOW.out.2 _ hq; unfold From at this; omega); have c4' : w4.cell? ⟨nb, 2, none⟩ = some (.slice pA k pc) := hb4.cell 2; have f4 := hb4.frozen 2)
       | (refine step_go (by rfl) 347 _ _ (by rfl) _ (by rfl) (fun _ => rfl) HT2.out (fun _ _ h => ⟨_, h.1⟩) ?_; rintro vv w2 ⟨he, ⟨off3, cap3, h3⟩, ho3⟩; cases he; have HO3 := Lib.hid ho3; have H3 := Lib.hid h3; have c3 : w2.cell? ⟨nb, 2, none⟩ = some (.slice pA k pc) := (HB2.out.only ho3 (fun e => hnr e)).cell 2; have c3' : (w2.alloc (Obj.cells #[.string ⟨a.toArray⟩] 9)).cell? ⟨nb, 2, none⟩ = some (.slice pA k pc) := ((HB2.out.only ho3 (fun e => hnr e)).alloc _).cell 2; clear ho3 h3))
     all_goals
      have HF := Lib.hid (HRD.out.key HTL.out hnr hng hnw hrw hgw H3.out (((Only.refl (fun k => k = r) wr).drew).trans HO3.out) ha)
      clear ha hb4 c4' f4 c3 c3' c2
      go_wp2_with fail
      go_roundw
      case rel => exact ⟨k + 1, _, by omega, rfl, by rw [HTK.out]; exact HF.out⟩
      case measure => simp only [intOf]; omega
    ·obtain rfl : k = ks.length := by omega
     clear hr1
     rw [List.take_length, List.drop_length] at hrd
     have HRD : Hid (InRd w r g nb pv ks cs rest kv cv wr) := Lib.hid hrd
     clear hrd
     go_wp2_with fail
     go_end0
     exact ⟨rfl, _, _, HRD.out⟩
end
end Go.Proofs.YtpjfheadolphgaaGreat
namespace Go.Proofs.YtpjfheadolphgaaGreat
open Go.RowKit
set_option maxRecDepth 20000
theorem results_row_tmp {P : Program} {fn : Func} {p u : Tmp} {ty : TypeId} (h : fn.results = #[.cell p ty, .tmp u]) (tmps : Array Value) (w : World) (g : Nat) (t : TypeId) (cs : Array Value)
  (hp : tmps.getD p undef = .pointer (some ⟨g, 0, none⟩)) (hg : Blk w g t cs) (hu : (match P.underlying ty with | some (.struct _) | some (.array _ _) => true | _ => false) = true) (hi : (P.info? ty).map (·.size) = some cs.size) :
  (results fn tmps).run P w = .ok (.tuple #[.agg cs, tmps.getD u undef]) w := by
 rw [results_cell_tmp h, hp]
 split at hu
 ·rename_i fs h1
  simp [asAddr, Result.andThen, run_loadVar_row w g t ty cs (0, 0) _ hg h1 rfl hi]
 ·rename_i a b h1
  simp [asAddr, Result.andThen, run_loadVar_row w g t ty cs (0, 0) _ hg h1 rfl hi]
 ·cases hu
theorem run_loadVar_blk {P : Program} {ty : TypeId} (w : World) (g : Nat) (t : TypeId) (cs : Array Value) (hg : Blk w g t cs) (hu : (match P.underlying ty with | some (.struct _) | some (.array _ _) => true | _ => false) = true) (hi : (P.info? ty).map (·.size) = some cs.size) :
  (loadVar ty ⟨g, 0, none⟩).run P w = .ok (.agg cs) w := by
 split at hu
 ·rename_i fs h1
  exact run_loadVar_row w g t ty cs (0, 0) _ hg h1 rfl hi
 ·rename_i a b h1
  exact run_loadVar_row w g t ty cs (0, 0) _ hg h1 rfl hi
 ·cases hu
theorem results_row_tmp_row {P : Program} {fn : Func} {p u q : Tmp} {ty ty2 : TypeId} (h : fn.results = #[.cell p ty, .tmp u, .cell q ty2]) (tmps : Array Value) (w : World) (g g2 : Nat) (t t2 : TypeId) (cs cs2 : Array Value)
  (hp : tmps.getD p undef = .pointer (some ⟨g, 0, none⟩)) (hg : Blk w g t cs) (hu : (match P.underlying ty with | some (.struct _) | some (.array _ _) => true | _ => false) = true) (hi : (P.info? ty).map (·.size) = some cs.size)
  (hq : tmps.getD q undef = .pointer (some ⟨g2, 0, none⟩)) (hg2 : Blk w g2 t2 cs2) (hu2 : (match P.underlying ty2 with | some (.struct _) | some (.array _ _) => true | _ => false) = true) (hi2 : (P.info? ty2).map (·.size) = some cs2.size) :
  (results fn tmps).run P w = .ok (.tuple #[.agg cs, tmps.getD u undef, .agg cs2]) w := by
 have h1 := run_loadVar_blk (P := P) w g t cs hg hu hi
 have h2 := run_loadVar_blk (P := P) w g2 t2 cs2 hg2 hu2 hi2
 have hp' : tmps[p]?.getD undef = .pointer (some ⟨g, 0, none⟩) := by simpa using hp
 have hq' : tmps[q]?.getD undef = .pointer (some ⟨g2, 0, none⟩) := by simpa using hq
 simp [results, h, hp', hq', asAddr, Result.andThen, h1, h2]
end Go.Proofs.YtpjfheadolphgaaGreat
namespace Go.Proofs.YtpjfheadolphgaaGreat
open Go.RowKit Go.Proofs
set_option maxRecDepth 20000
section
variable {P : Program} {w w' : World} {b : Nat}
theorem run_checkKey_u8 {kt : TypeId} (c : Bool) (n : Nat) (hk : P.underlying kt = some (.int .u8)) (v : Value) (w : World) : (Instr.checkKey c (n + 1) kt v).run P w = .ok () w := by
 unfold Instr.checkKey
 simp [run_underlying hk, Result.andThen]
theorem run_put8 {t kt e : TypeId} {es : Array MapEntry} {ck : Nat} (hb : w.heap[b]? = some (.map es ck)) (ht : P.underlying t = some (.map kt e)) (hk : P.underlying kt = some (.int .u8)) (k : Int) (v : Value) (h : Instr.findNow (.int .u8) (.int .u8 k) es.toList 0 = some none) :
  (Instr.mapUpdate t (.map (some b)) (.int .u8 k) v).run P w = .ok () (Go.ChangeMaps.setBlock w b (.map (es.push ⟨.int .u8 k, v, ck⟩) (ck + 1))) := by
 simp [Instr.mapUpdate, run_underlying ht, MapKept.run_getObj_map hb, run_checkKey_u8 _ 9999 hk, Instr.findKey, run_underlying hk, h, MapKept.run_setObj_map _ hb, Result.andThen, Go.ChangeMaps.setBlock]
theorem run_get8 {t kt e : TypeId} {es : Array MapEntry} {ck : Nat} (hb : w.heap[b]? = some (.map es ck)) (ht : P.underlying t = some (.map kt e)) (hk : P.underlying kt = some (.int .u8)) (k : Int) {j : Nat} {v : Value} (h : Instr.findNow (.int .u8) (.int .u8 k) es.toList 0 = some (some (j, v))) :
  (Instr.lookup t (.map (some b)) (.int .u8 k) false).run P w = .ok v w := by
 unfold Instr.lookup
 simp [run_underlying ht, Sem.run_bind, Sem.run_pure, Result.andThen_ok, MapKept.run_getObj_map hb, run_checkKey_u8 _ 9999 hk, Instr.findKey, run_underlying hk, h]
def leafF : Value := .func (.func 346) #[] #[]
def innerF : Value := .func (.func 348) #[] #[]
def kindsM (w : World) (b : Nat) : Prop := w.heap[b]? = some (.map #[⟨.int .u8 1, leafF, 0⟩, ⟨.int .u8 2, innerF, 1⟩] 2)
def KindsOut (w : World) (e : Ending) (w' : World) : Prop := e = .returned (.map (some w.heap.size)) ∧ kindsM w' w.heap.size ∧ Only NoB w w'
theorem kinds_ok (w : World) : Calls Tryz.prog 325 #[] w (KindsOut w) := by
 have hmm := fun w => @run_makeMap Tryz.prog w
 obtain ⟨W1, hW1⟩ : ∃ W1, W1 = w.alloc (.map #[] 0) := ⟨_, rfl⟩
 have hb1 : W1.heap[w.heap.size]? = some (.map #[] 0) := by rw [hW1]; exact heap_alloc_new w _
 have hp1 := run_put8 (P := Tryz.prog) (t := 358) (kt := 5) (e := 357) hb1 (by kernel_rfl) (by kernel_rfl) 1 leafF rfl
 obtain ⟨W2, hW2⟩ : ∃ W2, W2 = Go.ChangeMaps.setBlock W1 w.heap.size (.map (#[].push ⟨.int .u8 1, leafF, 0⟩) (0 + 1)) := ⟨_, rfl⟩
 have hb2 : W2.heap[w.heap.size]? = some (.map (#[].push ⟨.int .u8 1, leafF, 0⟩) (0 + 1)) := by rw [hW2]; exact Go.ChangeMaps.heap_setBlock_same hb1 _
 have hp2 := run_put8 (P := Tryz.prog) (t := 358) (kt := 5) (e := 357) hb2 (by kernel_rfl) (by kernel_rfl) 2 innerF rfl
 obtain ⟨W3, hW3⟩ : ∃ W3, W3 = Go.ChangeMaps.setBlock W2 w.heap.size (.map ((#[].push ⟨.int .u8 1, leafF, 0⟩).push ⟨.int .u8 2, innerF, 0 + 1⟩) (0 + 1 + 1)) := ⟨_, rfl⟩
 have hb3 : kindsM W3 w.heap.size := by rw [hW3]; exact Go.ChangeMaps.heap_setBlock_same hb2 _
 have ho : Only NoB w W3 := by
  have honly : ∀ w b o, Only (fun i => i = b) w (Go.ChangeMaps.setBlock w b o) := fun w b o =>
   ⟨rfl, rfl, rfl, by simp [Go.ChangeMaps.setBlock], fun i _ hi => by simp [Go.ChangeMaps.setBlock, Ne.symm hi]⟩
  rw [hW3, hW2, hW1]
  exact only_new (only_new ((Only.refl NoB w).alloc _) (honly _ _ _) fun k hk => Nat.le_of_eq hk.symm) (honly _ _ _) fun k hk => Nat.le_of_eq hk.symm
 rw [← hW2] at hp1
 rw [← hW3] at hp2
 rw [hW1] at hp1
 unfold leafF at hp1
 unfold innerF at hp2
 have H := Lib.hid hb3
 have HO := Lib.hid ho
 clear hb1 hb2 hb3 hW1 hW2 hW3 ho
 go_enter Tryz.func325, Tryz.ntmps325
 go_wp2_with fail
 go_ret
 exact ⟨rfl, H.out, HO.out⟩
variable {K : Nat → Prop} {n : NodeD} {m : Nat} {v : Value}
theorem equal_ok {a b : Value} {l : List UInt8} {K1 K2 : Nat → Prop} (ha : Bytes w K1 a l) (hb : Bytes w K2 b l) : Calls Tryz.prog 326 #[a, b] w fun e w' => e = .returned (.bool true) ∧ w = w' := by
 have h1 := conv_b ha
 have h2 := conv_b hb
 clear ha hb
 go_enter Tryz.func326, Tryz.ntmps326
 go_wp2_with fail
 go_ret
 exact ⟨rfl, rfl⟩
def ParseOut (w : World) (n : NodeD) (e : Ending) (w' : World) : Prop := ∃ pv kv cv, e = .returned (.tuple #[nodeV n.leaf pv kv cv, .int .i64 0]) ∧ NodeO w' (From w.heap.size) pv kv cv n ∧ Only NoB w w'
structure KindRd (w : World) (r nb : Nat) (n : NodeD) (pv kv cv : Value) (w' : World) : Prop where
 bad : w'.cell? ⟨r, 1, none⟩ = some (.bool false)
 blk : Blk w' nb 200 #[.bool n.leaf, pv, kv, cv]
 node : NodeO w' (From w.heap.size) pv kv cv n
 only : Only (fun q => q = r ∨ q = nb) w w'
theorem count_lt (h : n.Ok m) (h2 : m ≤ 4096) : n.count < 65536 := by
 have h3 := h.size
 have h4 := sizeP_ge n.pairs
 have h5 := sizeK_ge n.keys
 unfold NodeD.size at h3
 unfold NodeD.count
 split <;> omega
theorem Bytes.open_ {L : List UInt8} (h : Bytes w K v L) (h0 : 0 < L.length) : ∃ g off c, v = .slice (some ⟨g, off, none⟩) L.length c ∧ L.length ≤ c ∧ K g ∧ ∀ (j : Nat) (u : UInt8), L[j]? = some u → w.cell? ⟨g, off + j, none⟩ = some (byteV u) := by
 obtain ⟨A, c, rfl, hcap, hll, hx⟩ := h
 obtain ⟨⟨g, off, sub⟩, rfl, hK, hcell⟩ := hx (by omega)
 have h2 := hcell 0 (byteV L[0]) (by rw [List.getElem?_map, List.getElem?_eq_getElem h0]; rfl)
 have h3 := World.cell?_spot h2
 have : sub = none := by simpa [Addr.add] using h3
 subst this
 refine ⟨g, off, c, rfl, hcap, hK, fun j u hu => ?_⟩
 have := hcell j (byteV u) (by rw [List.getElem?_map, hu]; rfl)
 rwa [Addr.add_lit] at this
set_option maxHeartbeats 2000000 in
theorem parse_leaf {ps : List KV} {ks : List Str} {cs : List Nat} (hv : Bytes w K v (NodeD.bytes ⟨true, ps, ks, cs⟩ m)) (hok : NodeD.Ok ⟨true, ps, ks, cs⟩ m) (hne : true = true → ps ≠ []) (h1 : 64 ≤ m) (h2 : m ≤ 4096)
  (hkind : ∀ (W : World) (r g off cap : Nat) (rest : Str) (nb : Nat), RdrIn W r g off cap (NodeD.body ⟨true, ps, ks, cs⟩ ++ rest) → Blk W nb 200 #[.bool false, .slice none 0 0, .slice none 0 0, .slice none 0 0] → nb ≠ r → nb ≠ g → nb < W.heap.size → r < W.heap.size → g < W.heap.size →
   Calls Tryz.prog 346 #[.pointer (some ⟨r, 0, none⟩), .pointer (some ⟨nb, 0, none⟩), .int .i64 (NodeD.count ⟨true, ps, ks, cs⟩)] W fun e w' => e = .returned (.tuple #[]) ∧ ∃ pv kv cv, KindRd W r nb ⟨true, ps, ks, cs⟩ pv kv cv w') : Calls Tryz.prog 284 #[v] w (ParseOut w ⟨true, ps, ks, cs⟩) := by
 obtain ⟨n, hn⟩ : ∃ n, n = NodeD.mk true ps ks cs := ⟨_, rfl⟩
 have hlf : n.leaf = true := by rw [hn]
 have hne' : n.leaf = true → n.pairs ≠ [] := by rw [hn]; exact hne
 rw [← hn] at hv hok hkind ⊢
 clear hn hne
 have hbl := n.bytes_len hok.size
 obtain ⟨L, hL⟩ : ∃ L, L = n.bytes m := ⟨_, rfl⟩
 rw [← hL] at hv hbl
 obtain ⟨g, off, c, rfl, hcap, hKg, hcell⟩ := hv.open_ (by omega)
 have hgl : g < w.heap.size := World.block_lt_of_cell? _ _ (hcell 0 L[0] (List.getElem?_eq_getElem (by omega)))
 rw [hbl] at hcap
 have hhd : L = n.head ++ (n.body ++ List.replicate (m - n.size) 0) := hL
 obtain ⟨cnt, hcnt⟩ : ∃ cnt, cnt = n.count := ⟨_, rfl⟩
 have hh : n.head = [1, UInt8.ofNat (cnt / 256), UInt8.ofNat cnt] := by rw [hcnt]; simp [NodeD.head, hlf]
 have hcl2 : cnt < 65536 := by rw [hcnt]; exact count_lt hok h2
 obtain ⟨rest, hrest⟩ : ∃ rest, rest = List.replicate (m - n.size) (0 : UInt8) := ⟨_, rfl⟩
 rw [hh, ← hrest] at hhd
 have hbody : L.length = 3 + (n.body ++ rest).length := by rw [hhd]; simp; omega
 obtain ⟨W3, hW3⟩ : ∃ W3, W3 = ((w.alloc (.cells #[.bool false, .slice none 0 0, .slice none 0 0, .slice none 0 0] 200)).alloc (.cells #[.slice (some ⟨g, off + 3, none⟩) (m - 3) (c - 3), .bool false] 356)).alloc (.cells #[.bool false, .slice none 0 0, .slice none 0 0, .slice none 0 0] 200) := ⟨_, rfl⟩
 have ho3 : Only NoB w W3 := by rw [hW3]; exact (((Only.refl NoB w).alloc _).alloc _).alloc _
 have hs3 : W3.heap.size = w.heap.size + 3 := by rw [hW3]; simp
 have hcl : ∀ (j : Nat) (u : UInt8), L[j]? = some u → ∀ w', Only NoB W3 w' → w'.cell? ⟨g, off + j, none⟩ = some (byteV u) := fun j u hu w' ho => (ho3.trans ho).cell (hcell j u hu) id
 have HC0 : Hid (∀ w', Only NoB W3 w' → w'.cell? ⟨g, off, none⟩ = some (.int .u8 1)) := Lib.hid (hcl 0 1 (by rw [hhd]; rfl))
 have hBo : Blk W3 w.heap.size 200 #[.bool false, .slice none 0 0, .slice none 0 0, .slice none 0 0] := by rw [hW3]; exact ((Blk.new w _ _).alloc _).alloc _
 have hBr : Blk W3 (w.heap.size + 1) 356 #[.slice (some ⟨g, off + 3, none⟩) (m - 3) (c - 3), .bool false] := by
  rw [hW3]
  have := Blk.new (w.alloc (.cells #[.bool false, .slice none 0 0, .slice none 0 0, .slice none 0 0] 200)) 356 #[.slice (some ⟨g, off + 3, none⟩) (m - 3) (c - 3), .bool false]
  rw [show (w.alloc (.cells #[.bool false, .slice none 0 0, .slice none 0 0, .slice none 0 0] 200)).heap.size = w.heap.size + 1 by simp] at this
  exact this.alloc _
 have hBn : Blk W3 (w.heap.size + 1 + 1) 200 #[.bool false, .slice none 0 0, .slice none 0 0, .slice none 0 0] := by
  rw [hW3]
  have := Blk.new ((w.alloc (.cells #[.bool false, .slice none 0 0, .slice none 0 0, .slice none 0 0] 200)).alloc (.cells #[.slice (some ⟨g, off + 3, none⟩) (m - 3) (c - 3), .bool false] 356)) 200 #[.bool false, .slice none 0 0, .slice none 0 0, .slice none 0 0]
  rwa [show ((w.alloc (.cells #[.bool false, .slice none 0 0, .slice none 0 0, .slice none 0 0] 200)).alloc (.cells #[.slice (some ⟨g, off + 3, none⟩) (m - 3) (c - 3), .bool false] 356)).heap.size = w.heap.size + 1 + 1 by simp] at this
 have hrd3 : RdrIn W3 (w.heap.size + 1) g (off + 3) (c - 3) (n.body ++ rest) := by
  refine ⟨by rw [show (n.body ++ rest).length = m - 3 by omega]; exact hBr, by omega, fun j u hu => ?_, by omega⟩
  rw [Nat.add_assoc]
  refine hcl (3 + j) u ?_ W3 (Only.refl _ _)
  rw [hhd, show 3 + j = j + 1 + 1 + 1 by omega]
  exact hu
 have HCALL : Hid (∀ W, Only NoB W3 W → Calls Tryz.prog 346 #[.pointer (some ⟨w.heap.size + 1, 0, none⟩), .pointer (some ⟨w.heap.size + 1 + 1, 0, none⟩), .int .i64 cnt] W fun e w' => e = .returned (.tuple #[]) ∧ ∃ pv kv cv, KindRd W (w.heap.size + 1) (w.heap.size + 1 + 1) n pv kv cv w') := Lib.hid (fun W ho => by
  have hs := ho.size
  rw [hcnt]
  exact hkind W _ g (off + 3) (c - 3) rest _ (hrd3.only ho id id) (hBn.only ho id) (by omega) (by omega) (by omega) (by omega) (by omega))
 obtain ⟨x, hx⟩ : ∃ x, x = (UInt8.ofNat (cnt / 256)).toNat := ⟨_, rfl⟩
 obtain ⟨y, hy⟩ : ∃ y, y = (UInt8.ofNat cnt).toNat := ⟨_, rfl⟩
 have hc1 := hcl 1 _ (by rw [hhd]; rfl)
 have hc2 := hcl 2 _ (by rw [hhd]; rfl)
 unfold byteV at hc1 hc2
 rw [← hx] at hc1
 rw [← hy] at hc2
 have hxl : x < 256 := by rw [hx]; exact UInt8.toNat_lt _
 have hyl : y < 256 := by rw [hy]; exact UInt8.toNat_lt _
 have hxy : x * 256 + y = cnt := by rw [hx, hy, UInt8.toNat_ofNat', UInt8.toNat_ofNat']; omega
 have HOR : Hid (bits .or .i64 ((x : Int) * 256) (y : Int) = (cnt : Int)) := Lib.hid (by
  have e1 : (x : Int) * 256 = ((x * 256 : Nat) : Int) := by omega
  rw [e1, i64_or_nat _ _ (by omega) (by omega), nat_join 8 _ y (by omega) (by omega), hxy])
 have HWX : Hid (IntKind.i64.wrap (x : Int) = x) := Lib.hid (by rw [IntKind.wrap_i64]; omega)
 have HWX2 : Hid (IntKind.i64.wrap ((x : Int) * 256) = (x : Int) * 256) := Lib.hid (by rw [IntKind.wrap_i64]; omega)
 have HWY : Hid (IntKind.i64.wrap (y : Int) = y) := Lib.hid (by rw [IntKind.wrap_i64]; omega)
 have HC1 := Lib.hid hc1
 have HC2 := Lib.hid hc2
 have hv2 : Bytes w K (.slice (some ⟨g, off, none⟩) m c) L := by rw [← hbl]; exact hv
 have HV := Lib.hid (hv2.mono (G := fun q => q < w.heap.size) fun q _ hq => hq)
 have HOK := Lib.hid hok
 have HLF := Lib.hid hlf
 have HL := Lib.hid hL
 have HO3 := Lib.hid ho3
 have HW3 := Lib.hid hW3
 have HNE := Lib.hid hne'
 have HBO := Lib.hid hBo
 have HS3 := Lib.hid hs3
 have HW := Lib.hid (within_yes (a := m) (b := 64) (c := 4096) (by omega) (w.alloc (.cells #[.bool false, .slice none 0 0, .slice none 0 0, .slice none 0 0] 200)))
 have hneq : ∀ w, (binOp .neq 357 leafF .nilFunc).run Tryz.prog w = .ok (.bool true) w := by intro w; kernel_rfl
 unfold leafF at hneq
 have hn0 : 0 < m := by omega
 have hn1 : 1 < m := by omega
 have hn2 : 2 < m := by omega
 have hm0 : (0 : Int) < (m : Int) := by omega
 have hm1 : (1 : Int) < (m : Int) := by omega
 have hm2 : (2 : Int) < (m : Int) := by omega
 rw [hbl]
 clear hv hv2 hok hlf hL hcell hbl hne' hW3 ho3 hhd hcl hcnt hh hc1 hc2 hx hy hxy hrd3 hBo hBr hBn hkind hrest hbody hs3
 go_enter Tryz.func284, Tryz.ntmps284
 go_wp2_with fail
 refine HW.out.mono ?_
 rintro e w1 ⟨rfl, rfl⟩
 clear HW
 go_wp2_with fail
 rw [← HW3.out]
 refine hB _ 6 (fun w' => w'.cell? ⟨g, off, none⟩ = some (.int .u8 1)) (HC0.out W3.drew ((Only.refl NoB W3).drew)) (fun hHeld => ?_)
 refine hT 1 19 ?_
 refine hT 2 20 ?_
 refine hT 3 21 ?_
 refine hE 0 (fun o ho K hK => ?_)
 cases ho
 go_simp
 refine (kinds_ok _).mono ?_
 rintro e w4 ⟨rfl, hk4, ho4⟩
 have hk4 : kindsM w4 W3.heap.size := hk4
 have hlk := run_get8 (P := Tryz.prog) (t := 358) (kt := 5) (e := 357) hk4 (by kernel_rfl) (by kernel_rfl) 1 (j := 0) (v := leafF) rfl
 unfold leafF at hlk
 have HO4 := Lib.hid ho4
 have HK4 := Lib.hid hk4
 clear hk4 ho4
 refine hK.out _ _ (HC0.out w4 ((Only.refl NoB W3).drew.trans HO4.out)) (fun hHeld => ?_)
 clear hK K
 try simp only [Act.put, List.setIfInBounds_toArray, List.set_cons_zero, List.set_cons_succ]
 refine hE 4 (fun o ho K hK => ?_)
 cases ho
 go_simp
 skip
 refine hK.out _ _ (HC0.out w4 ((Only.refl NoB W3).drew.trans HO4.out)) (fun hHeld => ?_)
 clear hK K
 try simp only [Act.put, List.setIfInBounds_toArray, List.set_cons_zero, List.set_cons_succ]
 refine hT 5 6 ?_
 refine wpAnyH_done (by kernel_rfl) ?_ _
 refine NoPanic.normal ?_
 go_wp2_with fail
 have HO5 : Hid (Only NoB W3 w4.drew) := Lib.hid ((Only.refl NoB W3).drew.trans HO4.out).drew
 clear hlk hk4
 refine hB _ 13 (fun w' => w'.cell? ⟨g, off + 1, none⟩ = some (.int .u8 x) ∧ w'.cell? ⟨g, off + 2, none⟩ = some (.int .u8 y)) (⟨HC1.out w4.drew HO5.out, HC2.out w4.drew HO5.out⟩) (fun hHeld => ?_)
 refine hT 0 25 ?_
 refine hT 1 26 ?_
 refine hT 2 27 ?_
 refine hT 3 28 ?_
 refine hT 4 29 ?_
 refine hT 5 30 ?_
 refine hT 6 31 ?_
 refine hT 7 32 ?_
 refine hT 8 33 ?_
 refine hT 9 34 ?_
 refine hT 10 35 ?_
 refine hT 11 36 ?_
 refine hE 12 (fun o ho K hK => ?_)
 cases ho
 go_simp
 rw [HWX.out, HWX2.out, HWY.out, HOR.out]
 refine (HCALL.out _ HO5.out).mono ?_
 rintro e w5 ⟨rfl, pv, kv, cv, hrd⟩
 have HO6 : Hid (Only NoB w w5) := Lib.hid (only_new (HO3.out.trans HO5.out) hrd.only fun q hq => by omega)
 have HRD := Lib.hid hrd
 clear hrd
 refine hK.out _ _ (⟨HRD.out.only.cell (HC1.out w4.drew HO5.out) (fun hq => by have : g = _ ∨ g = _ := hq; omega), HRD.out.only.cell (HC2.out w4.drew HO5.out) (fun hq => by have : g = _ ∨ g = _ := hq; omega)⟩) (fun hHeld => ?_)
 clear hK K
 try simp only [Act.put, List.setIfInBounds_toArray, List.set_cons_zero, List.set_cons_succ]
 refine wpAnyH_done (by kernel_rfl) ?_ _
 refine NoPanic.normal ?_
 obtain ⟨pA, pc, kA, kc, cA, cc, rfl, rfl, rfl⟩ := HRD.out.node.r.shape
 have b0 := HRD.out.blk.cell 0
 have b1 := HRD.out.blk.cell 1
 have b2 := HRD.out.blk.cell 2
 have b3 := HRD.out.blk.cell 3
 have hbz := bytes_ok HRD.out.node.r HOK.out HNE.out h1 h2
 rw [HLF.out] at hbz
 have HBZ := Lib.hid hbz
 rw [HLF.out] at b0
 clear hbz HCALL HOR HWX HWX2 HWY HC0 HC1 HC2
 go_wp2_with fail
 refine HBZ.out.mono ?_
 rintro e w6 ⟨v6, rfl, hb6, ho6⟩
 have k1 := ho6.cell HRD.out.bad id
 have ho7 : Only NoB w w6 := HO6.out.trans ho6
 have HEQ := Lib.hid (equal_ok hb6 (by rw [← HL.out]; exact Rd.only HV.out ho7 fun _ _ => id))
 have hbn := HRD.out.blk.only ho6 id
 have d0 := hbn.cell 0
 have d1 := hbn.cell 1
 have d2 := hbn.cell 2
 have d3 := hbn.cell 3
 rw [HLF.out] at d0
 have HO7 := Lib.hid ho7
 have HO6' := Lib.hid ho6
 have HND := Lib.hid (HRD.out.node.quit ho6)
 have hbo : Blk w6 w.heap.size _ _ := ((HBO.out.only HO5.out id).only HRD.out.only (fun hq => by have : w.heap.size = w.heap.size + 1 ∨ w.heap.size = w.heap.size + 1 + 1 := hq; omega)).only ho6 id
 have o0 := hbo.cell 0
 have o1 := hbo.cell 1
 have o2 := hbo.cell 2
 have o3 := hbo.cell 3
 have p0 := hbo.frozen 0
 have p1 := hbo.frozen 1
 have p2 := hbo.frozen 2
 have p3 := hbo.frozen 3
 have HBO6 := Lib.hid hbo
 clear hbo
 clear hb6 ho6 ho7 hbn b0 b1 b2 b3 HBZ
 go_wp2_with fail
 refine HEQ.out.mono ?_
 rintro e w7 ⟨rfl, rfl⟩
 clear k1
 go_wp2_with fail
 (try simp only [Exit.inBlock, Exit.then])
 have hbf : Blk _ w.heap.size 200 _ := (((HBO6.out.set_ 0 (.bool true)).set_ 1 (.slice pA n.pairs.length pc)).set_ 2 (.slice kA n.keys.length kc)).set_ 3 (.slice cA n.children.length cc)
 refine bodyPost_ret (results_row_tmp rfl _ _ w.heap.size 200 _ rfl hbf (by kernel_rfl) (by kernel_rfl)) rfl ?_
 clear d0 d1 d2 d3 o0 o1 o2 o3 p0 p1 p2 p3 hHeld
 have hs4 : W3.heap.size ≤ w4.drew.heap.size := HO5.out.size
 have hs3 := HS3.out
 have hst : Only (fun k => k = w.heap.size) w6 _ := ((((Only.refl (fun k => k = w.heap.size) w6).setCell (p := ⟨w.heap.size, 0, none⟩) (.inl rfl) (.bool true)).setCell (p := ⟨w.heap.size, 1, none⟩) (.inl rfl) (.slice pA n.pairs.length pc)).setCell (p := ⟨w.heap.size, 2, none⟩) (.inl rfl) (.slice kA n.keys.length kc)).setCell (p := ⟨w.heap.size, 3, none⟩) (.inl rfl) (.slice cA n.children.length cc)
 refine ⟨_, _, _, ?_, (HND.out.only hst fun k hk e => ?_).mono fun k hk _ => ?_, only_new HO7.out hst fun k hk => Nat.le_of_eq hk.symm⟩
 ·rw [HLF.out]
  rfl
 ·unfold From at hk; omega
 ·unfold From at hk ⊢; omega
set_option maxHeartbeats 2000000 in
theorem parse_inner {ps : List KV} {ks : List Str} {cs : List Nat} (hv : Bytes w K v (NodeD.bytes ⟨false, ps, ks, cs⟩ m)) (hok : NodeD.Ok ⟨false, ps, ks, cs⟩ m) (hne : false = true → ps ≠ []) (h1 : 64 ≤ m) (h2 : m ≤ 4096)
  (hkind : ∀ (W : World) (r g off cap : Nat) (rest : Str) (nb : Nat), RdrIn W r g off cap (NodeD.body ⟨false, ps, ks, cs⟩ ++ rest) → Blk W nb 200 #[.bool false, .slice none 0 0, .slice none 0 0, .slice none 0 0] → nb ≠ r → nb ≠ g → nb < W.heap.size → r < W.heap.size → g < W.heap.size →
   Calls Tryz.prog 348 #[.pointer (some ⟨r, 0, none⟩), .pointer (some ⟨nb, 0, none⟩), .int .i64 (NodeD.count ⟨false, ps, ks, cs⟩)] W fun e w' => e = .returned (.tuple #[]) ∧ ∃ pv kv cv, KindRd W r nb ⟨false, ps, ks, cs⟩ pv kv cv w') : Calls Tryz.prog 284 #[v] w (ParseOut w ⟨false, ps, ks, cs⟩) := by
 obtain ⟨n, hn⟩ : ∃ n, n = NodeD.mk false ps ks cs := ⟨_, rfl⟩
 have hlf : n.leaf = false := by rw [hn]
 have hne' : n.leaf = true → n.pairs ≠ [] := by rw [hn]; exact hne
 rw [← hn] at hv hok hkind ⊢
 clear hn hne
 have hbl := n.bytes_len hok.size
 obtain ⟨L, hL⟩ : ∃ L, L = n.bytes m := ⟨_, rfl⟩
 rw [← hL] at hv hbl
 obtain ⟨g, off, c, rfl, hcap, hKg, hcell⟩ := hv.open_ (by omega)
 have hgl : g < w.heap.size := World.block_lt_of_cell? _ _ (hcell 0 L[0] (List.getElem?_eq_getElem (by omega)))
 rw [hbl] at hcap
 have hhd : L = n.head ++ (n.body ++ List.replicate (m - n.size) 0) := hL
 obtain ⟨cnt, hcnt⟩ : ∃ cnt, cnt = n.count := ⟨_, rfl⟩
 have hh : n.head = [2, UInt8.ofNat (cnt / 256), UInt8.ofNat cnt] := by rw [hcnt]; simp [NodeD.head, hlf]
 have hcl2 : cnt < 65536 := by rw [hcnt]; exact count_lt hok h2
 obtain ⟨rest, hrest⟩ : ∃ rest, rest = List.replicate (m - n.size) (0 : UInt8) := ⟨_, rfl⟩
 rw [hh, ← hrest] at hhd
 have hbody : L.length = 3 + (n.body ++ rest).length := by rw [hhd]; simp; omega
 obtain ⟨W3, hW3⟩ : ∃ W3, W3 = ((w.alloc (.cells #[.bool false, .slice none 0 0, .slice none 0 0, .slice none 0 0] 200)).alloc (.cells #[.slice (some ⟨g, off + 3, none⟩) (m - 3) (c - 3), .bool false] 356)).alloc (.cells #[.bool false, .slice none 0 0, .slice none 0 0, .slice none 0 0] 200) := ⟨_, rfl⟩
 have ho3 : Only NoB w W3 := by rw [hW3]; exact (((Only.refl NoB w).alloc _).alloc _).alloc _
 have hs3 : W3.heap.size = w.heap.size + 3 := by rw [hW3]; simp
 have hcl : ∀ (j : Nat) (u : UInt8), L[j]? = some u → ∀ w', Only NoB W3 w' → w'.cell? ⟨g, off + j, none⟩ = some (byteV u) := fun j u hu w' ho => (ho3.trans ho).cell (hcell j u hu) id
 have HC0 : Hid (∀ w', Only NoB W3 w' → w'.cell? ⟨g, off, none⟩ = some (.int .u8 2)) := Lib.hid (hcl 0 2 (by rw [hhd]; rfl))
 have hBo : Blk W3 w.heap.size 200 #[.bool false, .slice none 0 0, .slice none 0 0, .slice none 0 0] := by rw [hW3]; exact ((Blk.new w _ _).alloc _).alloc _
 have hBr : Blk W3 (w.heap.size + 1) 356 #[.slice (some ⟨g, off + 3, none⟩) (m - 3) (c - 3), .bool false] := by
  rw [hW3]
  have := Blk.new (w.alloc (.cells #[.bool false, .slice none 0 0, .slice none 0 0, .slice none 0 0] 200)) 356 #[.slice (some ⟨g, off + 3, none⟩) (m - 3) (c - 3), .bool false]
  rw [show (w.alloc (.cells #[.bool false, .slice none 0 0, .slice none 0 0, .slice none 0 0] 200)).heap.size = w.heap.size + 1 by simp] at this
  exact this.alloc _
 have hBn : Blk W3 (w.heap.size + 1 + 1) 200 #[.bool false, .slice none 0 0, .slice none 0 0, .slice none 0 0] := by
  rw [hW3]
  have := Blk.new ((w.alloc (.cells #[.bool false, .slice none 0 0, .slice none 0 0, .slice none 0 0] 200)).alloc (.cells #[.slice (some ⟨g, off + 3, none⟩) (m - 3) (c - 3), .bool false] 356)) 200 #[.bool false, .slice none 0 0, .slice none 0 0, .slice none 0 0]
  rwa [show ((w.alloc (.cells #[.bool false, .slice none 0 0, .slice none 0 0, .slice none 0 0] 200)).alloc (.cells #[.slice (some ⟨g, off + 3, none⟩) (m - 3) (c - 3), .bool false] 356)).heap.size = w.heap.size + 1 + 1 by simp] at this
 have hrd3 : RdrIn W3 (w.heap.size + 1) g (off + 3) (c - 3) (n.body ++ rest) := by
  refine ⟨by rw [show (n.body ++ rest).length = m - 3 by omega]; exact hBr, by omega, fun j u hu => ?_, by omega⟩
  rw [Nat.add_assoc]
  refine hcl (3 + j) u ?_ W3 (Only.refl _ _)
  rw [hhd, show 3 + j = j + 1 + 1 + 1 by omega]
  exact hu
 have HCALL : Hid (∀ W, Only NoB W3 W → Calls Tryz.prog 348 #[.pointer (some ⟨w.heap.size + 1, 0, none⟩), .pointer (some ⟨w.heap.size + 1 + 1, 0, none⟩), .int .i64 cnt] W fun e w' => e = .returned (.tuple #[]) ∧ ∃ pv kv cv, KindRd W (w.heap.size + 1) (w.heap.size + 1 + 1) n pv kv cv w') := Lib.hid (fun W ho => by
  have hs := ho.size
  rw [hcnt]
  exact hkind W _ g (off + 3) (c - 3) rest _ (hrd3.only ho id id) (hBn.only ho id) (by omega) (by omega) (by omega) (by omega) (by omega))
 obtain ⟨x, hx⟩ : ∃ x, x = (UInt8.ofNat (cnt / 256)).toNat := ⟨_, rfl⟩
 obtain ⟨y, hy⟩ : ∃ y, y = (UInt8.ofNat cnt).toNat := ⟨_, rfl⟩
 have hc1 := hcl 1 _ (by rw [hhd]; rfl)
 have hc2 := hcl 2 _ (by rw [hhd]; rfl)
 unfold byteV at hc1 hc2
 rw [← hx] at hc1
 rw [← hy] at hc2
 have hxl : x < 256 := by rw [hx]; exact UInt8.toNat_lt _
 have hyl : y < 256 := by rw [hy]; exact UInt8.toNat_lt _
 have hxy : x * 256 + y = cnt := by rw [hx, hy, UInt8.toNat_ofNat', UInt8.toNat_ofNat']; omega
 have HOR : Hid (bits .or .i64 ((x : Int) * 256) (y : Int) = (cnt : Int)) := Lib.hid (by
  have e1 : (x : Int) * 256 = ((x * 256 : Nat) : Int) := by omega
  rw [e1, i64_or_nat _ _ (by omega) (by omega), nat_join 8 _ y (by omega) (by omega), hxy])
 have HWX : Hid (IntKind.i64.wrap (x : Int) = x) := Lib.hid (by rw [IntKind.wrap_i64]; omega)
 have HWX2 : Hid (IntKind.i64.wrap ((x : Int) * 256) = (x : Int) * 256) := Lib.hid (by rw [IntKind.wrap_i64]; omega)
 have HWY : Hid (IntKind.i64.wrap (y : Int) = y) := Lib.hid (by rw [IntKind.wrap_i64]; omega)
 have HC1 := Lib.hid hc1
 have HC2 := Lib.hid hc2
 have hv2 : Bytes w K (.slice (some ⟨g, off, none⟩) m c) L := by rw [← hbl]; exact hv
 have HV := Lib.hid (hv2.mono (G := fun q => q < w.heap.size) fun q _ hq => hq)
 have HOK := Lib.hid hok
 have HLF := Lib.hid hlf
 have HL := Lib.hid hL
 have HO3 := Lib.hid ho3
 have HW3 := Lib.hid hW3
 have HNE := Lib.hid hne'
 have HBO := Lib.hid hBo
 have HS3 := Lib.hid hs3
 have HW := Lib.hid (within_yes (a := m) (b := 64) (c := 4096) (by omega) (w.alloc (.cells #[.bool false, .slice none 0 0, .slice none 0 0, .slice none 0 0] 200)))
 have hneq : ∀ w, (binOp .neq 357 innerF .nilFunc).run Tryz.prog w = .ok (.bool true) w := by intro w; kernel_rfl
 unfold innerF at hneq
 have hn0 : 0 < m := by omega
 have hn1 : 1 < m := by omega
 have hn2 : 2 < m := by omega
 have hm0 : (0 : Int) < (m : Int) := by omega
 have hm1 : (1 : Int) < (m : Int) := by omega
 have hm2 : (2 : Int) < (m : Int) := by omega
 rw [hbl]
 clear hv hv2 hok hlf hL hcell hbl hne' hW3 ho3 hhd hcl hcnt hh hc1 hc2 hx hy hxy hrd3 hBo hBr hBn hkind hrest hbody hs3
 go_enter Tryz.func284, Tryz.ntmps284
 go_wp2_with fail
 refine HW.out.mono ?_
 rintro e w1 ⟨rfl, rfl⟩
 clear HW
 go_wp2_with fail
 rw [← HW3.out]
 refine hB _ 6 (fun w' => w'.cell? ⟨g, off, none⟩ = some (.int .u8 2)) (HC0.out W3.drew ((Only.refl NoB W3).drew)) (fun hHeld => ?_)
 refine hT 1 19 ?_
 refine hT 2 20 ?_
 refine hT 3 21 ?_
 refine hE 0 (fun o ho K hK => ?_)
 cases ho
 go_simp
 refine (kinds_ok _).mono ?_
 rintro e w4 ⟨rfl, hk4, ho4⟩
 have hk4 : kindsM w4 W3.heap.size := hk4
 have hlk := run_get8 (P := Tryz.prog) (t := 358) (kt := 5) (e := 357) hk4 (by kernel_rfl) (by kernel_rfl) 2 (j := 1) (v := innerF) rfl
 unfold innerF at hlk
 have HO4 := Lib.hid ho4
 have HK4 := Lib.hid hk4
 clear hk4 ho4
 refine hK.out _ _ (HC0.out w4 ((Only.refl NoB W3).drew.trans HO4.out)) (fun hHeld => ?_)
 clear hK K
 try simp only [Act.put, List.setIfInBounds_toArray, List.set_cons_zero, List.set_cons_succ]
 refine hE 4 (fun o ho K hK => ?_)
 cases ho
 go_simp
 skip
 refine hK.out _ _ (HC0.out w4 ((Only.refl NoB W3).drew.trans HO4.out)) (fun hHeld => ?_)
 clear hK K
 try simp only [Act.put, List.setIfInBounds_toArray, List.set_cons_zero, List.set_cons_succ]
 refine hT 5 6 ?_
 refine wpAnyH_done (by kernel_rfl) ?_ _
 refine NoPanic.normal ?_
 go_wp2_with fail
 have HO5 : Hid (Only NoB W3 w4.drew) := Lib.hid ((Only.refl NoB W3).drew.trans HO4.out).drew
 clear hlk hk4
 refine hB _ 13 (fun w' => w'.cell? ⟨g, off + 1, none⟩ = some (.int .u8 x) ∧ w'.cell? ⟨g, off + 2, none⟩ = some (.int .u8 y)) (⟨HC1.out w4.drew HO5.out, HC2.out w4.drew HO5.out⟩) (fun hHeld => ?_)
 refine hT 0 25 ?_
 refine hT 1 26 ?_
 refine hT 2 27 ?_
 refine hT 3 28 ?_
 refine hT 4 29 ?_
 refine hT 5 30 ?_
 refine hT 6 31 ?_
 refine hT 7 32 ?_
 refine hT 8 33 ?_
 refine hT 9 34 ?_
 refine hT 10 35 ?_
 refine hT 11 36 ?_
 refine hE 12 (fun o ho K hK => ?_)
 cases ho
 go_simp
 rw [HWX.out, HWX2.out, HWY.out, HOR.out]
 refine (HCALL.out _ HO5.out).mono ?_
 rintro e w5 ⟨rfl, pv, kv, cv, hrd⟩
 have HO6 : Hid (Only NoB w w5) := Lib.hid (only_new (HO3.out.trans HO5.out) hrd.only fun q hq => by omega)
 have HRD := Lib.hid hrd
 clear hrd
 refine hK.out _ _ (⟨HRD.out.only.cell (HC1.out w4.drew HO5.out) (fun hq => by have : g = _ ∨ g = _ := hq; omega), HRD.out.only.cell (HC2.out w4.drew HO5.out) (fun hq => by have : g = _ ∨ g = _ := hq; omega)⟩) (fun hHeld => ?_)
 clear hK K
 try simp only [Act.put, List.setIfInBounds_toArray, List.set_cons_zero, List.set_cons_succ]
 refine wpAnyH_done (by kernel_rfl) ?_ _
 refine NoPanic.normal ?_
 obtain ⟨pA, pc, kA, kc, cA, cc, rfl, rfl, rfl⟩ := HRD.out.node.r.shape
 have b0 := HRD.out.blk.cell 0
 have b1 := HRD.out.blk.cell 1
 have b2 := HRD.out.blk.cell 2
 have b3 := HRD.out.blk.cell 3
 have hbz := bytes_ok HRD.out.node.r HOK.out HNE.out h1 h2
 rw [HLF.out] at hbz
 have HBZ := Lib.hid hbz
 rw [HLF.out] at b0
 clear hbz HCALL HOR HWX HWX2 HWY HC0 HC1 HC2
 go_wp2_with fail
 refine HBZ.out.mono ?_
 rintro e w6 ⟨v6, rfl, hb6, ho6⟩
 have k1 := ho6.cell HRD.out.bad id
 have ho7 : Only NoB w w6 := HO6.out.trans ho6
 have HEQ := Lib.hid (equal_ok hb6 (by rw [← HL.out]; exact Rd.only HV.out ho7 fun _ _ => id))
 have hbn := HRD.out.blk.only ho6 id
 have d0 := hbn.cell 0
 have d1 := hbn.cell 1
 have d2 := hbn.cell 2
 have d3 := hbn.cell 3
 rw [HLF.out] at d0
 have HO7 := Lib.hid ho7
 have HO6' := Lib.hid ho6
 have HND := Lib.hid (HRD.out.node.quit ho6)
 have hbo : Blk w6 w.heap.size _ _ := ((HBO.out.only HO5.out id).only HRD.out.only (fun hq => by have : w.heap.size = w.heap.size + 1 ∨ w.heap.size = w.heap.size + 1 + 1 := hq; omega)).only ho6 id
 have o0 := hbo.cell 0
 have o1 := hbo.cell 1
 have o2 := hbo.cell 2
 have o3 := hbo.cell 3
 have p0 := hbo.frozen 0
 have p1 := hbo.frozen 1
 have p2 := hbo.frozen 2
 have p3 := hbo.frozen 3
 have HBO6 := Lib.hid hbo
 clear hbo
 clear hb6 ho6 ho7 hbn b0 b1 b2 b3 HBZ
 go_wp2_with fail
 refine HEQ.out.mono ?_
 rintro e w7 ⟨rfl, rfl⟩
 clear k1
 go_wp2_with fail
 (try simp only [Exit.inBlock, Exit.then])
 have hbf : Blk _ w.heap.size 200 _ := (((HBO6.out.set_ 0 (.bool false)).set_ 1 (.slice pA n.pairs.length pc)).set_ 2 (.slice kA n.keys.length kc)).set_ 3 (.slice cA n.children.length cc)
 refine bodyPost_ret (results_row_tmp rfl _ _ w.heap.size 200 _ rfl hbf (by kernel_rfl) (by kernel_rfl)) rfl ?_
 clear d0 d1 d2 d3 o0 o1 o2 o3 p0 p1 p2 p3 hHeld
 have hs4 : W3.heap.size ≤ w4.drew.heap.size := HO5.out.size
 have hs3 := HS3.out
 have hst : Only (fun k => k = w.heap.size) w6 _ := ((((Only.refl (fun k => k = w.heap.size) w6).setCell (p := ⟨w.heap.size, 0, none⟩) (.inl rfl) (.bool false)).setCell (p := ⟨w.heap.size, 1, none⟩) (.inl rfl) (.slice pA n.pairs.length pc)).setCell (p := ⟨w.heap.size, 2, none⟩) (.inl rfl) (.slice kA n.keys.length kc)).setCell (p := ⟨w.heap.size, 3, none⟩) (.inl rfl) (.slice cA n.children.length cc)
 refine ⟨_, _, _, ?_, (HND.out.only hst fun k hk e => ?_).mono fun k hk _ => ?_, only_new HO7.out hst fun k hk => Nat.le_of_eq hk.symm⟩
 ·rw [HLF.out]
  rfl
 ·unfold From at hk; omega
 ·unfold From at hk ⊢; omega
end
end Go.Proofs.YtpjfheadolphgaaGreat
namespace Go.Proofs.YtpjfheadolphgaaGreat
open Go.RowKit Go.Proofs
set_option maxRecDepth 20000
section
variable {w w' : World} {K : Nat → Prop} {n : NodeD} {m : Nat} {v : Value}
theorem parse_ok (hv : Bytes w K v (n.bytes m)) (hok : n.Ok m) (hne : n.leaf = true → n.pairs ≠ []) (h1 : 64 ≤ m) (h2 : m ≤ 4096) : Calls Tryz.prog 284 #[v] w (ParseOut w n) := by
 obtain ⟨lf, ps, ks, cs⟩ := n
 cases lf with
 | true =>
  obtain ⟨hc, hk⟩ := hok.leaf rfl
  simp only at hc hk
  subst hc; subst hk
  refine parse_leaf hv hok hne h1 h2 fun W r g off cap rest nb hr hb h3 h4 h5 h6 h7 => ?_
  have hbd : NodeD.body ⟨true, ps, [], []⟩ ++ rest = NodeD.textsP ps ++ rest := by simp [NodeD.body, NodeD.kids, NodeD.textsK]
  rw [hbd] at hr
  have hsz := hok.size
  have hge := sizeP_ge ps
  simp only [NodeD.size, List.length_nil, NodeD.sizeK] at hsz
  refine (leaf_rd hr hb h3 h4 h5 h6 h7 (fun p hp => ⟨(hok.pair p hp).2.1, (hok.pair p hp).2.2.1⟩) (by omega)).mono ?_
  rintro e w1 ⟨rfl, pv, h⟩
  obtain ⟨_, _, hr1⟩ := h.rdr
  exact ⟨rfl, pv, _, _, hr1.blk.cell 1, h.blk, ⟨h.own, Own.nil _ _ _ _, Own.nil _ _ _ _, fun q hq => by simp [Value.ownBlock] at hq⟩, h.only⟩
 | false =>
  obtain ⟨hp, hcl⟩ := hok.inner rfl
  simp only at hp hcl
  subst hp
  refine parse_inner hv hok (fun h => by cases h) h1 h2 fun W r g off cap rest nb hr hb h3 h4 h5 h6 h7 => ?_
  have hbd : NodeD.body ⟨false, [], ks, cs⟩ ++ rest = NodeD.kids cs ++ (NodeD.textsK ks ++ rest) := by simp [NodeD.body, NodeD.textsP]
  rw [hbd] at hr
  have hsz := hok.size
  have hge := sizeK_ge ks
  simp only [NodeD.size, NodeD.sizeP] at hsz
  refine (inner_rd hr hb h3 h4 h5 h6 h7 (fun p hp => (hok.key p hp).2.1) (fun c hc => (hok.kid c hc).2) hcl (by omega)).mono ?_
  rintro e w1 ⟨rfl, kv, cv, h⟩
  obtain ⟨_, _, hr1⟩ := h.rdr
  exact ⟨rfl, _, kv, cv, hr1.blk.cell 1, h.blk, ⟨Own.nil _ _ _ _, h.keys, h.kids, h.apart⟩, h.only⟩
end
end Go.Proofs.YtpjfheadolphgaaGreat
namespace Go.Proofs.YtpjfheadolphgaaGreat
open Go.RowKit Go.Proofs
set_option maxRecDepth 20000
section
variable {w w' : World} {F G : Nat → Prop} {ks : List Str} {ps : List KV} {key : Str}
theorem nan_cmp (x : ByteArray) (w : World) : Calls Tryz.prog 285 #[.string x] w fun e w' => e = .returned (.bool false) ∧ w = w' := by
 go_enter Tryz.func285, Tryz.ntmps285
 go_wp2_with fail
 go_ret
 exact ⟨by simp, rfl⟩
theorem nan_slices (x : ByteArray) (w : World) : Calls Tryz.prog 287 #[.string x] w fun e w' => e = .returned (.bool false) ∧ w = w' := by
 go_enter Tryz.func287, Tryz.ntmps287
 go_wp2_with fail
 go_ret
 exact ⟨by simp, rfl⟩
theorem less_str (a b : Str) (w : World) : Calls Tryz.prog 286 #[.string ⟨a.toArray⟩, .string ⟨b.toArray⟩] w fun e w' => e = .returned (.bool (Go.Op.bytesLess a b)) ∧ w = w' := by
 go_enter Tryz.func286, Tryz.ntmps286
 go_wp2_with fail
 refine (nan_cmp _ _).mono ?_
 rintro e w1 ⟨rfl, rfl⟩
 go_wp2_with fail
 go_ret
 exact ⟨rfl, rfl⟩
structure Cut (ks : List Str) (key : Str) (i : Nat) : Prop where
 le : i ≤ ks.length
 lo : ∀ j (h : j < ks.length), j < i → lts ks[j] key
 hi : ∀ j (h : j < ks.length), i ≤ j → les key ks[j]
def SearchOut (ks : List Str) (key : Str) (w : World) (e : Ending) (w' : World) : Prop := ∃ i, Cut ks key i ∧ e = .returned (.tuple #[.int .i64 (i : Nat), .bool (decide (ks[i]? = some key))]) ∧ w = w'
set_option maxHeartbeats 1000000 in
theorem search_str (v : Value) (hv : Rd w F 1 v ks.length (ks.map strV)) (hs : ks.Pairwise lts) (hl : ks.length ≤ 1000000) :
  Calls Tryz.prog 229 #[v, .string ⟨key.toArray⟩] w (SearchOut ks key w) := by
 obtain ⟨A, c, rfl, _⟩ := id hv
 have HV := Lib.hid hv
 have HS : Hid (∀ i j (h1 : i < ks.length) (h2 : j < ks.length), i < j → lts ks[i] ks[j]) := Lib.hid (fun i j h1 h2 h3 => List.pairwise_iff_getElem.1 hs i j h1 h2 h3)
 clear hv hs
 go_enter Tryz.func229, Tryz.ntmps229
 go_wp2_with fail
 go_loop [7, 8] (fun s7 s8 => ∃ lo hi : Nat, s7 = .int .i64 lo ∧ s8 = .int .i64 hi ∧ lo ≤ hi ∧ hi ≤ ks.length ∧ Hid (∀ j (h : j < ks.length), j < lo → lts ks[j] key) ∧ Hid (∀ j (h : j < ks.length), hi ≤ j → les key ks[j])) (fun s7 s8 => (intOf s8).toNat - (intOf s7).toNat)
 case atStart => exact ⟨0, ks.length, rfl, rfl, Nat.zero_le _, Nat.le_refl _, Lib.hid (fun j h hj => by omega), Lib.hid (fun j h hj => by omega)⟩
 case round =>
  obtain ⟨lo, hi, rfl, rfl, hlh, hin, hlo, hhi⟩ := hrel
  by_cases hlt : lo < hi
  ·obtain ⟨g, off, c', hve, _, _, hcell⟩ := HV.out.open_ (by omega)
   injection hve with q1 q2 q3
   subst q1; subst q3
   obtain ⟨h, hh⟩ : ∃ h, h = (lo + hi) / 2 := ⟨_, rfl⟩
   have hhl : h < ks.length := by omega
   have cm := hcell h (strV ks[h]) (by rw [List.getElem?_map, List.getElem?_eq_getElem hhl]; rfl)
   obtain ⟨y, hy⟩ : ∃ y, y = ks[h] := ⟨_, rfl⟩
   rw [← hy] at cm
   unfold strV at cm
   have HY := Lib.hid hy
   rw [hh] at cm
   clear hcell q2 hy
   cases hyx : Go.Op.bytesLess y key
   ·go_wp2_with fail
    refine (less_str _ _ _).mono ?_
    rintro e w1 ⟨rfl, rfl⟩
    rw [hyx]
    go_wp2_with fail
    refine ⟨⟨lo, h, rfl, by rw [hh]; go_num, by omega, by omega, hlo, Lib.hid fun j hj h1 => ?_⟩, by simp only [intOf]; omega⟩
    have hle : les key ks[h] := by rw [← HY.out]; show ¬ (Go.Op.bytesLess y key = true); simp [hyx]
    rcases Nat.lt_or_eq_of_le h1 with h2 | h2
    ·exact lts_les (les_lts hle (HS.out h j hhl hj h2))
    ·subst h2; exact hle
   ·go_wp2_with fail
    refine (less_str _ _ _).mono ?_
    rintro e w1 ⟨rfl, rfl⟩
    rw [hyx]
    go_wp2_with fail
    refine ⟨⟨h + 1, hi, by rw [hh]; go_num, rfl, by omega, hin, Lib.hid fun j hj h1 => ?_, hhi⟩, by simp only [intOf]; omega⟩
    have hle : lts ks[h] key := by rw [← HY.out]; exact hyx
    rcases Nat.lt_or_eq_of_le (Nat.le_of_lt_succ h1) with h2 | h2
    ·exact lts_trans (HS.out j h hj hhl h2) hle
    ·subst h2; exact hle
  ·obtain rfl : hi = lo := by omega
   have HCUT : Hid (Cut ks key hi) := Lib.hid ⟨hin, hlo.out, hhi.out⟩
   clear hlo hhi HS
   by_cases hn : hi < ks.length
   ·obtain ⟨g, off, c', hve, _, _, hcell⟩ := HV.out.open_ (by omega)
    injection hve with q1 q2 q3
    subst q1; subst q3
    have cm := hcell hi (strV ks[hi]) (by rw [List.getElem?_map, List.getElem?_eq_getElem hn]; rfl)
    obtain ⟨y, hy⟩ : ∃ y, y = ks[hi] := ⟨_, rfl⟩
    have HG : Hid (ks[hi]? = some y) := Lib.hid (by rw [List.getElem?_eq_getElem hn, hy])
    rw [← hy] at cm
    unfold strV at cm
    clear hcell q2 hy
    by_cases hyx : y = key
    ·have hbe : (y == key) = true := by simp [hyx]
     go_wp2_with fail
     go_ret2
     exact ⟨hi, HCUT.out, by rw [HG.out]; simp [hyx], rfl⟩
    ·have hbe : (y == key) = false := by simp [hyx]
     go_wp2_with fail
     refine (nan_slices _ _).mono ?_
     rintro e w1 ⟨rfl, rfl⟩
     go_wp2_with fail
     go_ret2
     exact ⟨hi, HCUT.out, by rw [HG.out]; simp [hyx], rfl⟩
   ·go_wp2_with fail
    go_ret2
    exact ⟨hi, HCUT.out, by rw [List.getElem?_eq_none (by omega)]; rfl, rfl⟩
end
end Go.Proofs.YtpjfheadolphgaaGreat
namespace Go.Proofs.YtpjfheadolphgaaGreat
open Go.RowKit Go.Proofs
set_option maxRecDepth 20000
section
variable {w w' : World} {F G : Nat → Prop} {ks : List Str} {ps : List KV} {key : Str}
theorem Cut.placeK {i : Nat} (h : Cut ks key i) (hs : ks.Pairwise lts) : PlaceK ks key (if ks[i]? = some key then i + 1 else i) := by
 by_cases he : ks[i]? = some key
 ·rw [if_pos he]
  have hi := (List.getElem?_eq_some_iff.1 he).1
  have hk : ks[i] = key := (List.getElem?_eq_some_iff.1 he).2
  refine ⟨ks.take (i + 1), ks.drop (i + 1), (List.take_append_drop _ _).symm, by rw [List.length_take]; omega, fun k hk' => ?_, fun k hk' => ?_⟩
  ·obtain ⟨j, hj, rfl⟩ := List.mem_take_iff_getElem.1 hk'
   rcases Nat.lt_or_eq_of_le (show j ≤ i by omega) with h1 | h1
   ·exact lts_les (h.lo j _ h1)
   ·subst h1; rw [hk]; exact les_refl _
  ·obtain ⟨j, hj, rfl⟩ := List.mem_drop_iff_getElem.1 hk'
   rw [← hk]
   exact List.pairwise_iff_getElem.1 hs i _ hi _ (by omega)
 ·rw [if_neg he]
  refine ⟨ks.take i, ks.drop i, (List.take_append_drop _ _).symm, by rw [List.length_take]; have := h.le; omega, fun k hk' => ?_, fun k hk' => ?_⟩
  ·obtain ⟨j, hj, rfl⟩ := List.mem_take_iff_getElem.1 hk'
   exact lts_les (h.lo j _ (by omega))
  ·obtain ⟨j, hj, rfl⟩ := List.mem_drop_iff_getElem.1 hk'
   have h1 := h.hi (i + j) (by omega) (by omega)
   rcases les_iff.1 h1 with h2 | h2
   ·exact h2
   ·exfalso
    rcases Nat.eq_zero_or_pos j with rfl | hj0
    ·exact he (by rw [List.getElem?_eq_getElem (by omega)]; exact congrArg some h2.symm)
    ·have h3 := List.pairwise_iff_getElem.1 hs i (i + j) (by omega) (by omega) (by omega)
     rw [← h2] at h3
     exact h.hi i (by omega) (Nat.le_refl _) h3
theorem Cut.placeP {i : Nat} (h : Cut (ps.map (·.1)) key i) (hs : Srt ps) : PlaceP ps key i (decide ((ps.map (·.1))[i]? = some key)) := by
 have hle : i ≤ ps.length := by have := h.le; rwa [List.length_map] at this
 refine ⟨ps.take i, ps.drop i, (List.take_append_drop _ _).symm, by rw [List.length_take]; omega, fun x hx => ?_, ?_⟩
 ·obtain ⟨j, hj, rfl⟩ := List.mem_take_iff_getElem.1 hx
  have := h.lo j (by simp; omega) (by omega)
  simpa using this
 ·have hss : ∀ a b (ha : a < ps.length) (hb : b < ps.length), a < b → lts ps[a].1 ps[b].1 := fun a b ha hb hab => List.pairwise_iff_getElem.1 hs a b ha hb hab
  by_cases he : (ps.map (·.1))[i]? = some key
  ·rw [if_pos (by simpa using he)]
   have hi : i < ps.length := by have := (List.getElem?_eq_some_iff.1 he).1; simpa using this
   have hk : ps[i].1 = key := by have := (List.getElem?_eq_some_iff.1 he).2; simpa using this
   refine ⟨ps[i].2, ps.drop (i + 1), ?_, fun x hx => ?_⟩
   ·rw [List.drop_eq_getElem_cons hi, ← hk]
   ·obtain ⟨j, hj, rfl⟩ := List.mem_drop_iff_getElem.1 hx
    rw [← hk]
    exact hss i _ hi (by omega) (by omega)
  ·rw [if_neg (by simpa using he)]
   intro x hx
   obtain ⟨j, hj, rfl⟩ := List.mem_drop_iff_getElem.1 hx
   have h1 := h.hi (i + j) (by simp; omega) (by omega)
   simp only [List.getElem_map] at h1
   rcases les_iff.1 h1 with h2 | h2
   ·exact h2
   ·exfalso
    rcases Nat.eq_zero_or_pos j with rfl | hj0
    ·exact he (by rw [List.getElem?_map, List.getElem?_eq_getElem (by omega)]; exact congrArg some h2.symm)
    ·have h3 := hss i (i + j) (by omega) (by omega) (by omega)
     rw [← h2] at h3
     have h4 := h.hi i (by simp; omega) (Nat.le_refl _)
     simp only [List.getElem_map] at h4
     exact h4 h3
def cmpI (a b : Str) : Int := if Go.Op.bytesLess a b then -1 else if Go.Op.bytesLess b a then 1 else 0
theorem cmpI_neg {a b : Str} : cmpI a b < 0 ↔ lts a b := by
 unfold cmpI lts
 split
 ·rename_i h; simp [h]
 ·rename_i h
  split
  ·simp [h]
  ·simp [h]
theorem cmpI_zero {a b : Str} : cmpI a b = 0 ↔ a = b := by
 unfold cmpI
 rcases lts_total a b with h | h | h
 ·have h1 : Go.Op.bytesLess a b = true := h
  simp [h1, lts_ne h]
 ·subst h
  have h1 : Go.Op.bytesLess a a = false := by have := lts_irrefl a; unfold lts at this; simpa using this
  simp [h1]
 ·have h1 : Go.Op.bytesLess b a = true := h
  have h2 : Go.Op.bytesLess a b = false := by have := lts_asymm h; unfold lts at this; simpa using this
  simp [h1, h2, (lts_ne h).symm]
set_option maxHeartbeats 1000000 in
theorem compare_str (a b : Str) (w : World) : Calls Tryz.prog 228 #[.string ⟨a.toArray⟩, .string ⟨b.toArray⟩] w fun e w' => e = .returned (.int .i64 (cmpI a b)) ∧ w = w' := by
 rcases lts_total a b with h | h | h
 ·have h1 : Go.Op.bytesLess a b = true := h
  have hz : cmpI a b = -1 := by unfold cmpI; simp [h1]
  rw [hz]
  clear h hz
  go_enter Tryz.func228, Tryz.ntmps228
  go_wp2_with fail
  refine (nan_cmp _ _).mono ?_
  rintro e w1 ⟨rfl, rfl⟩
  go_wp2_with fail
  refine (nan_cmp _ _).mono ?_
  rintro e w1 ⟨rfl, rfl⟩
  go_wp2_with fail
  go_ret
  exact ⟨rfl, rfl⟩
 ·subst h
  have hz : cmpI a a = 0 := cmpI_zero.2 rfl
  rw [hz]
  have h1 : Go.Op.bytesLess a a = false := by have := lts_irrefl a; unfold lts at this; simpa using this
  have h2 : (a == a) = true := by simp
  clear hz
  go_enter Tryz.func228, Tryz.ntmps228
  go_wp2_with fail
  refine (nan_cmp _ _).mono ?_
  rintro e w1 ⟨rfl, rfl⟩
  go_wp2_with fail
  refine (nan_cmp _ _).mono ?_
  rintro e w1 ⟨rfl, rfl⟩
  go_wp2_with fail
  go_ret
  exact ⟨rfl, rfl⟩
 ·have h1 : Go.Op.bytesLess b a = true := h
  have h2 : Go.Op.bytesLess a b = false := by have := lts_asymm h; unfold lts at this; simpa using this
  have h3 : (a == b) = false := by simp [(lts_ne h).symm]
  have hz : cmpI a b = 1 := by unfold cmpI; simp [h1, h2]
  rw [hz]
  clear h hz
  go_enter Tryz.func228, Tryz.ntmps228
  go_wp2_with fail
  refine (nan_cmp _ _).mono ?_
  rintro e w1 ⟨rfl, rfl⟩
  go_wp2_with fail
  refine (nan_cmp _ _).mono ?_
  rintro e w1 ⟨rfl, rfl⟩
  go_wp2_with fail
  go_ret
  exact ⟨rfl, rfl⟩
theorem place_clo (a b key : Str) (w : World) : Calls Tryz.prog 227 #[.agg #[.string ⟨a.toArray⟩, .string ⟨b.toArray⟩], .string ⟨key.toArray⟩] w fun e w' => e = .returned (.int .i64 (cmpI a key)) ∧ Only NoB w w' := by
 have ho : Only NoB w (w.alloc (.cells #[.string ⟨a.toArray⟩, .string ⟨b.toArray⟩] 83)) := (Only.refl NoB w).alloc _
 have c0 := (Blk.new w 83 #[.string ⟨a.toArray⟩, .string ⟨b.toArray⟩]).cell 0
 go_enter Tryz.func227, Tryz.ntmps227
 go_wp2_with fail
 refine (compare_str _ _ _).mono ?_
 rintro e w1 ⟨rfl, rfl⟩
 go_wp2_with fail
 go_ret
 exact ⟨rfl, ho⟩
def SearchPOut (ps : List KV) (key : Str) (w : World) (e : Ending) (w' : World) : Prop := ∃ i is, PlaceP ps key i is ∧ e = .returned (.tuple #[.int .i64 (i : Nat), .bool is]) ∧ Only NoB w w'
set_option maxHeartbeats 1000000 in
theorem search_pair (v : Value) (hv : Rd w F 2 v ps.length (pairL ps)) (hs : Srt ps) (hl : ps.length ≤ 1000000) :
  Calls Tryz.prog 226 #[v, .string ⟨key.toArray⟩, .func (.func 227) #[] #[]] w (SearchPOut ps key w) := by
 obtain ⟨A, c, rfl, _⟩ := id hv
 have HV := Lib.hid hv
 have HSRT := Lib.hid hs
 have HS : Hid (∀ i j (h1 : i < ps.length) (h2 : j < ps.length), i < j → lts ps[i].1 ps[j].1) := Lib.hid (fun i j h1 h2 h3 => List.pairwise_iff_getElem.1 hs i j h1 h2 h3)
 clear hv hs
 go_enter Tryz.func226, Tryz.ntmps226
 go_wp2_with fail
 go_loopw [9, 10] (fun s9 s10 wr => ∃ lo hi : Nat, s9 = .int .i64 lo ∧ s10 = .int .i64 hi ∧ lo ≤ hi ∧ hi ≤ ps.length ∧ Hid (∀ j (h : j < ps.length), j < lo → lts ps[j].1 key) ∧ Hid (∀ j (h : j < ps.length), hi ≤ j → les key ps[j].1) ∧ Only NoB w wr) (fun s9 s10 _ => (intOf s10).toNat - (intOf s9).toNat)
 case atStart => exact ⟨0, ps.length, rfl, rfl, Nat.zero_le _, Nat.le_refl _, Lib.hid (fun j h hj => by omega), Lib.hid (fun j h hj => by omega), Only.refl _ _⟩
 case round =>
  obtain ⟨lo, hi, rfl, rfl, hlh, hin, hlo, hhi, hor⟩ := hrel
  have HOR := Lib.hid hor
  by_cases hlt : lo < hi
  ·obtain ⟨g, off, c', hve, _, _, hcell⟩ := HV.out.open_ (by omega)
   injection hve with q1 q2 q3
   subst q1; subst q3
   obtain ⟨h, hh⟩ : ∃ h, h = (lo + hi) / 2 := ⟨_, rfl⟩
   have hhl : h < ps.length := by omega
   obtain ⟨p1, p2⟩ := pairL_get (List.getElem?_eq_getElem hhl)
   have c1 := hor.cell (hcell _ _ p1) id
   have c2 := hor.cell (hcell _ _ p2) id
   obtain ⟨⟨y, z⟩, hy⟩ : ∃ y, y = ps[h] := ⟨_, rfl⟩
   have HY : Hid (y = ps[h].1) := Lib.hid (by rw [← hy])
   rw [← hy] at c1 c2
   unfold strV at c1 c2
   rw [← Nat.add_assoc] at c2
   rw [hh] at c1 c2
   clear hcell q2 hy hor p1 p2
   by_cases hyx : cmpI y key < 0
   ·have hle := cmpI_neg.1 hyx
    have HLE := Lib.hid hle
    have hd : decide (cmpI y key < 0) = true := by simp [hyx]
    clear hle
    go_wp2_with fail
    refine (place_clo _ _ _ _).mono ?_
    rintro e w1 ⟨rfl, ho1⟩
    have HO1 := Lib.hid ho1
    clear ho1
    go_wp2_with fail
    go_roundw
    case rel =>
     refine ⟨h + 1, hi, by rw [hh]; go_num, rfl, by omega, hin, Lib.hid fun j hj h1 => ?_, hhi, HOR.out.trans HO1.out⟩
     have hle := HLE.out
     rw [HY.out] at hle
     rcases Nat.lt_or_eq_of_le (Nat.le_of_lt_succ h1) with h2 | h2
     ·exact lts_trans (HS.out j h hj hhl h2) hle
     ·subst h2; exact hle
    case measure => simp only [intOf]; omega
   ·have HLE : Hid (les key y) := Lib.hid fun hl => hyx (cmpI_neg.2 hl)
    have hd : decide (cmpI y key < 0) = false := by simp [hyx]
    go_wp2_with fail
    refine (place_clo _ _ _ _).mono ?_
    rintro e w1 ⟨rfl, ho1⟩
    have HO1 := Lib.hid ho1
    clear ho1
    go_wp2_with fail
    go_roundw
    case rel =>
     refine ⟨lo, h, rfl, by rw [hh]; go_num, by omega, by omega, hlo, Lib.hid fun j hj h1 => ?_, HOR.out.trans HO1.out⟩
     have hle := HLE.out
     rw [HY.out] at hle
     rcases Nat.lt_or_eq_of_le h1 with h2 | h2
     ·exact lts_les (les_lts hle (HS.out h j hhl hj h2))
     ·subst h2; exact hle
    case measure => simp only [intOf]; omega
  ·obtain rfl : hi = lo := by omega
   have HCUT : Hid (Cut (ps.map (·.1)) key hi) := Lib.hid ⟨by simpa using hin, fun j h h1 => by have := hlo.out j (by simpa using h) h1; simpa using this, fun j h h1 => by have := hhi.out j (by simpa using h) h1; simpa using this⟩
   clear hlo hhi HS
   by_cases hn : hi < ps.length
   ·obtain ⟨g, off, c', hve, _, _, hcell⟩ := HV.out.open_ (by omega)
    injection hve with q1 q2 q3
    subst q1; subst q3
    obtain ⟨p1, p2⟩ := pairL_get (List.getElem?_eq_getElem hn)
    have c1 := hor.cell (hcell _ _ p1) id
    have c2 := hor.cell (hcell _ _ p2) id
    obtain ⟨⟨y, z⟩, hy⟩ : ∃ y, y = ps[hi] := ⟨_, rfl⟩
    have HG : Hid ((ps.map (·.1))[hi]? = some y) := Lib.hid (by rw [List.getElem?_map, List.getElem?_eq_getElem hn, ← hy]; rfl)
    rw [← hy] at c1 c2
    unfold strV at c1 c2
    rw [← Nat.add_assoc] at c2
    clear hcell q2 hy hor p1 p2
    by_cases hyx : cmpI y key = 0
    ·have hbe : (cmpI y key == 0) = true := by simp [hyx]
     have HK := Lib.hid (cmpI_zero.1 hyx)
     clear hyx
     go_wp2_with fail
     refine (place_clo _ _ _ _).mono ?_
     rintro e w1 ⟨rfl, ho1⟩
     have HO1 := Lib.hid ho1
     clear ho1
     go_wp2_with fail
     go_ret2
     refine ⟨hi, _, HCUT.out.placeP HSRT.out, ?_, HOR.out.trans HO1.out⟩
     rw [HG.out, HK.out]; simp
    ·have hbe : (cmpI y key == 0) = false := by simp [hyx]
     have HK : Hid (y ≠ key) := Lib.hid fun h => hyx (cmpI_zero.2 h)
     clear hyx
     go_wp2_with fail
     refine (place_clo _ _ _ _).mono ?_
     rintro e w1 ⟨rfl, ho1⟩
     have HO1 := Lib.hid ho1
     clear ho1
     go_wp2_with fail
     go_ret2
     refine ⟨hi, _, HCUT.out.placeP HSRT.out, ?_, HOR.out.trans HO1.out⟩
     rw [HG.out]; simp [HK.out]
   ·clear hor
    go_wp2_with fail
    go_ret2
    exact ⟨hi, _, HCUT.out.placeP HSRT.out, by rw [List.getElem?_eq_none (by simp; omega)]; rfl, HOR.out⟩
end
end Go.Proofs.YtpjfheadolphgaaGreat
namespace Go.Proofs.YtpjfheadolphgaaGreat
open Go.RowKit Go.Proofs
set_option maxRecDepth 20000
section
variable {w w' : World} {F G : Nat → Prop} {ks : List Str} {ps : List KV} {cs : List Nat} {key : Str} {pv kv cv : Value}
def PlaceOut (n : NodeD) (key : Str) (w : World) (e : Ending) (w' : World) : Prop :=
 ∃ i is, (n.leaf = true → PlaceP n.pairs key i is) ∧ (n.leaf = false → PlaceK n.keys key i) ∧ e = .returned (.tuple #[.int .i64 (i : Nat), .bool is]) ∧ Only NoB w w'
set_option maxHeartbeats 1000000 in
theorem place_leaf (h : NodeR w F pv kv cv ⟨true, ps, ks, cs⟩) (hs : Srt ps) (hl : ps.length ≤ 1000000) : Calls Tryz.prog 139 #[nodeV true pv kv cv, .string ⟨key.toArray⟩] w (PlaceOut ⟨true, ps, ks, cs⟩ key w) := by
 obtain ⟨pA, pc, kA, kc, cA, cc, rfl, rfl, rfl⟩ := h.shape
 have ho : Only NoB w (w.alloc (.cells #[.bool true, .slice pA ps.length pc, .slice kA ks.length kc, .slice cA cs.length cc] 200)) := (Only.refl NoB w).alloc _
 have hcb : Blk (w.alloc (.cells #[.bool true, .slice pA ps.length pc, .slice kA ks.length kc, .slice cA cs.length cc] 200)) w.heap.size 200 #[.bool true, .slice pA ps.length pc, .slice kA ks.length kc, .slice cA cs.length cc] := Blk.new w _ _
 have b0 := hcb.cell 0
 have b1 := hcb.cell 1
 have HP := Lib.hid (search_pair (key := key) _ (h.pairs.only ho fun _ _ => id) hs hl)
 have HO := Lib.hid ho
 clear h hs ho hcb
 unfold nodeV
 go_enter Tryz.func139, Tryz.ntmps139
 go_wp2_with fail
 refine HP.out.mono ?_
 rintro e w1 ⟨i, is, hp, rfl, ho1⟩
 have HPL := Lib.hid hp
 have HO1 := Lib.hid ho1
 clear hp ho1
 go_wp2_with fail
 go_ret2
 exact ⟨i, is, fun _ => HPL.out, (fun h => by cases h), rfl, HO.out.trans HO1.out⟩
set_option maxHeartbeats 1000000 in
theorem place_inner (h : NodeR w F pv kv cv ⟨false, ps, ks, cs⟩) (hs : ks.Pairwise lts) (hl : ks.length ≤ 1000000) : Calls Tryz.prog 139 #[nodeV false pv kv cv, .string ⟨key.toArray⟩] w (PlaceOut ⟨false, ps, ks, cs⟩ key w) := by
 obtain ⟨pA, pc, kA, kc, cA, cc, rfl, rfl, rfl⟩ := h.shape
 have ho : Only NoB w (w.alloc (.cells #[.bool false, .slice pA ps.length pc, .slice kA ks.length kc, .slice cA cs.length cc] 200)) := (Only.refl NoB w).alloc _
 have hcb : Blk (w.alloc (.cells #[.bool false, .slice pA ps.length pc, .slice kA ks.length kc, .slice cA cs.length cc] 200)) w.heap.size 200 #[.bool false, .slice pA ps.length pc, .slice kA ks.length kc, .slice cA cs.length cc] := Blk.new w _ _
 have b0 := hcb.cell 0
 have b2 := hcb.cell 2
 have HP := Lib.hid (search_str (key := key) _ (h.keys.only ho fun _ _ => id) hs hl)
 have HO := Lib.hid ho
 have HS := Lib.hid hs
 clear h hs ho hcb
 unfold nodeV
 go_enter Tryz.func139, Tryz.ntmps139
 go_wp2_with fail
 refine HP.out.mono ?_
 rintro e w1 ⟨i, hc, rfl, rfl⟩
 have HPL := Lib.hid (hc.placeK HS.out)
 have hil : i ≤ ks.length := hc.le
 by_cases hk : ks[i]? = some key
 ·have hd : decide (ks[i]? = some key) = true := by simp [hk]
  rw [if_pos hk] at HPL
  rw [hd]
  clear hd hk hc
  go_wp2_with fail
  go_ret2
  exact ⟨i + 1, true, (fun h => by cases h), fun _ => HPL.out, rfl, HO.out⟩
 ·have hd : decide (ks[i]? = some key) = false := by simp [hk]
  rw [if_neg hk] at HPL
  rw [hd]
  clear hd hk hc
  go_wp2_with fail
  go_ret2
  exact ⟨i, false, (fun h => by cases h), fun _ => HPL.out, rfl, HO.out⟩
theorem place_ok {n : NodeD} {m : Nat} (h : NodeR w F pv kv cv n) (hok : n.Ok m) (h2 : m ≤ 4096) : Calls Tryz.prog 139 #[nodeV n.leaf pv kv cv, .string ⟨key.toArray⟩] w (PlaceOut n key w) := by
 obtain ⟨lf, ps, ks, cs⟩ := n
 have hsz := hok.size
 have h4 := sizeP_ge ps
 have h5 := sizeK_ge ks
 simp only [NodeD.size] at hsz
 cases lf with
 | true => exact place_leaf h hok.riseP (by omega)
 | false => exact place_inner h hok.rise (by omega)
end
end Go.Proofs.YtpjfheadolphgaaGreat
namespace Go.Proofs.YtpjfheadolphgaaGreat
open Go.RowKit Go.Lib
set_option maxRecDepth 20000
section
variable {P : Program} {w : World}
theorem run_copy_sz {dT sT ty e : TypeId} {z : Value} {size bytes : Nat} (hu : P.underlying dT = some (.slice e)) (he : Elt P e z size bytes) {G : Nat → Prop} {g off dLen dCap : Nat} {t : TypeId} {cur : List Value}
  (hg : Blk w g t cur.toArray) (hfit : off + dLen * size ≤ cur.length) {s : Value} {m : Nat} {news : List Value} (hr : Rd w G size s m news) (h1 : ∀ u ∈ news.take (Nat.min m dLen * size), u.oneCell' = true) :
  ∃ w', (Builtin.copy_ #[dT, sT] ty #[.slice (some ⟨g, off, none⟩) dLen dCap, s]).run P w = .ok (.int .i64 (Nat.min m dLen)) w' ∧ Cpy w g off t cur (news.take (Nat.min m dLen * size)) w' := by
 obtain ⟨i, hi, _, hs, _⟩ := he.parts
 obtain ⟨A, c, rfl, hc, hl, hcell⟩ := hr
 have hm1 : Nat.min m dLen ≤ m := Nat.min_le_left _ _
 have hm2 : Nat.min m dLen ≤ dLen := Nat.min_le_right _ _
 have hk1 := Nat.mul_le_mul_right size hm1
 have hk2 := Nat.mul_le_mul_right size hm2
 have hlen : (news.take (Nat.min m dLen * size)).length = Nat.min m dLen * size := by rw [List.length_take, hl]; omega
 rcases Nat.eq_zero_or_pos (Nat.min m dLen) with h0 | h0
 ·refine ⟨w, ?_, ?_, Only.refl _ _⟩
  ·have hl0 : ∀ (x : Addr), (loadCells x 0).run P w = .ok #[] w := fun x => by simpa using run_loadCells_list (P := P) w x [] (by simp)
   cases A <;> simp [Builtin.copy_, run_underlying hu, Builtin.lenOf, Builtin.firstCells, sizeOf, typeInfo, hi, h0, storeCells, hl0] <;> rfl
  ·rw [h0]; simpa [splice] using hg
 ·obtain ⟨ad, rfl, _, hx⟩ := hcell (Nat.lt_of_lt_of_le (Nat.mul_pos h0 he.2.2.1) hk1)
  have hld := run_loadCells_list (P := P) w ad (news.take (Nat.min m dLen * size)) (fun j v hv => hx j v (by rw [List.getElem?_take] at hv; split at hv; (· exact hv); (· cases hv)))
  have hst := run_storeCells_at P g off t (news.take (Nat.min m dLen * size)) 0 cur.toArray w hg (by rw [hlen]; simp; omega) h1
  rw [hlen] at hld
  refine ⟨w.setRow g (cur.take off ++ news.take (Nat.min m dLen * size) ++ cur.drop (off + Nat.min m dLen * size)).toArray, ?_, ?_, only_setRow w g _⟩
  ·rw [hlen] at hst
   simp only [Nat.add_zero] at hst
   simp [Builtin.copy_, run_underlying hu, Builtin.lenOf, Builtin.firstCells, sizeOf, typeInfo, hi, hs, hld, hst]
   rfl
  ·have hb := setRow_heap w g cur.toArray ((news.take (Nat.min m dLen * size)) |> fun cs => (cur.take off ++ cs ++ cur.drop (off + Nat.min m dLen * size)).toArray) t (0, 0) hg
   unfold Blk splice
   rw [hlen]
   simpa using hb
theorem step_copy_sz {ops : Array Oper} {o : Oper} {a : Act} {K : Act → World → Prop} {Q : Exit → Act → World → Prop} {E : Prop} (hgd : o.guard = none) (d s : Operand) (dT sT : TypeId)
  (ho : o.op = .call { callee := .builtin .copy, args := #[d, s], argTypes := #[dT, sT] }) {e : TypeId} {z : Value} {size bytes : Nat} (hu : P.underlying dT = some (.slice e)) (he : Elt P e z size bytes) {G : Nat → Prop} {g off dLen dCap : Nat} {t : TypeId} {cur : List Value}
  (hd : a.eval d = .slice (some ⟨g, off, none⟩) dLen dCap) {sv : Value} (hs : a.eval s = sv) (hg : Blk w g t cur.toArray) (hfit : off + dLen * size ≤ cur.length) {m : Nat} {news : List Value} (hr : Rd w G size sv m news) (h1 : ∀ u ∈ news.take (Nat.min m dLen * size), u.oneCell' = true)
  (hK : ∀ w', Cpy w g off t cur (news.take (Nat.min m dLen * size)) w' → K (a.put o.dst (.int .i64 (Nat.min m dLen))) w') : if Region.wanted o (yielded ops a.tmps) = true then Oper.wp P o a w K Q else E := by
 subst hs
 have hw : Region.wanted o (yielded ops a.tmps) = true := by simp [Region.wanted, hgd]
 rw [if_pos hw]
 obtain ⟨w', hrun, h2⟩ := run_copy_sz (P := P) (sT := sT) (ty := o.type) hu he hg hfit (dCap := dCap) hr h1
 unfold Oper.wp execOp
 simp only [ho, resolve, invoke, builtin, Sem.run_bind, Sem.run_pure, Result.andThen_ok, List.map_toArray, List.map_cons, List.map_nil, hd, hrun]
 exact hK w' h2
theorem wpList_copy_sz {ops : Array Oper} {rest : List Oper} {o : Oper} {a : Act} {Q : Exit → Act → World → Prop} (hgd : o.guard = none) (d s : Operand) (dT sT : TypeId)
  (ho : o.op = .call { callee := .builtin .copy, args := #[d, s], argTypes := #[dT, sT] }) {e : TypeId} {z : Value} {size bytes : Nat} (hu : P.underlying dT = some (.slice e)) (he : Elt P e z size bytes) {G : Nat → Prop} {g off dLen dCap : Nat} {t : TypeId} {cur : List Value}
  (hd : a.eval d = .slice (some ⟨g, off, none⟩) dLen dCap) {sv : Value} (hs : a.eval s = sv) (hg : Blk w g t cur.toArray) (hfit : off + dLen * size ≤ cur.length) {m : Nat} {news : List Value} (hr : Rd w G size sv m news) (h1 : ∀ u ∈ news.take (Nat.min m dLen * size), u.oneCell' = true)
  (hK : ∀ w', Cpy w g off t cur (news.take (Nat.min m dLen * size)) w' → wpList P ops Q rest (a.put o.dst (.int .i64 (Nat.min m dLen))) w') : wpList P ops Q (o :: rest) a w := by
 subst hs
 refine wpList_plain hgd fun _ hK' => ?_
 obtain ⟨w', hrun, h2⟩ := run_copy_sz (P := P) (sT := sT) (ty := o.type) hu he hg hfit (dCap := dCap) hr h1
 unfold Oper.wp execOp
 simp only [ho, resolve, invoke, builtin, Sem.run_bind, Sem.run_pure, Result.andThen_ok, List.map_toArray, List.map_cons, List.map_nil, hd, hrun]
 exact hK' _ _ (hK w' h2)
theorem run_app_room {t ty e : TypeId} {z : Value} {size bytes : Nat} (ht : P.underlying t = some (.slice e)) (he : Elt P e z size bytes) {G : Nat → Prop} {g n cap : Nat} {tr : TypeId} {cur : List Value}
  (hg : Blk w g tr cur.toArray) (hcs : cur.length = cap * size) {s : Value} {m : Nat} {news : List Value} (hr : Rd w G size s m news) (hroom : n + m ≤ cap) (h1 : ∀ u ∈ news, u.oneCell' = true) :
  ∃ w', (Builtin.append_ #[t, t] ty #[.slice (some ⟨g, 0, none⟩) n cap, s]).run P w = .ok (.slice (some ⟨g, 0, none⟩) (n + m) cap) w' ∧ Cpy w g (n * size) tr cur news w' := by
 obtain ⟨i, hi, _, hs, _⟩ := he.parts
 obtain ⟨A, c, rfl, hc, hl, hcell⟩ := hr
 have hle : (n + m) * size ≤ cap * size := Nat.mul_le_mul_right _ hroom
 rw [Nat.add_mul] at hle
 have hst := run_storeCells_at P g (n * size) tr news 0 cur.toArray w hg (by simp; omega) h1
 simp only [Nat.add_zero] at hst
 have hblk : Cpy w g (n * size) tr cur news (w.setRow g (cur.take (n * size) ++ news ++ cur.drop (n * size + news.length)).toArray) := by
  refine ⟨?_, only_setRow w g _⟩
  have hb := setRow_heap w g cur.toArray (cur.take (n * size) ++ news ++ cur.drop (n * size + news.length)).toArray tr (0, 0) hg
  unfold Blk splice
  simpa using hb
 rcases Nat.eq_zero_or_pos m with h0 | h0
 ·subst h0
  have hn : news = [] := List.eq_nil_of_length_eq_zero (by simpa using hl)
  subst hn
  have hl0 : ∀ (x : Addr), (loadCells x 0).run P w = .ok #[] w := fun x => by simpa using run_loadCells_list (P := P) w x [] (by simp)
  refine ⟨w, ?_, by simpa [splice] using hg, Only.refl _ _⟩
  simp only [Nat.add_zero] at hroom
  cases A <;> simp [Builtin.append_, run_underlying ht, sizeOf, typeInfo, hi, Builtin.lenOf, Builtin.firstCells, hroom, storeCells, hl0]
 ·obtain ⟨ad, rfl, _, hx⟩ := hcell (Nat.mul_pos h0 he.2.2.1)
  have hld := run_loadCells_list (P := P) w ad news hx
  rw [hl] at hld
  have hm0 : ¬ (m * size = 0) := by have := Nat.mul_pos h0 he.2.2.1; omega
  refine ⟨_, ?_, hblk⟩
  simp [Builtin.append_, run_underlying ht, sizeOf, typeInfo, hi, hs, Builtin.lenOf, Builtin.firstCells, hroom, hld, Addr.add_lit, hst]
theorem step_app_room {ops : Array Oper} {o : Oper} {a : Act} {K : Act → World → Prop} {Q : Exit → Act → World → Prop} {E : Prop} (hgd : o.guard = none) (s x : Operand) (t : TypeId)
  (ho : o.op = .call { callee := .builtin .append, args := #[s, x], argTypes := #[t, t] }) {e : TypeId} {z : Value} {size bytes : Nat} (ht : P.underlying t = some (.slice e)) (he : Elt P e z size bytes) {G : Nat → Prop} {g n cap : Nat} {tr : TypeId} {cur : List Value}
  (hs : a.eval s = .slice (some ⟨g, 0, none⟩) n cap) {sv : Value} (hx : a.eval x = sv) (hg : Blk w g tr cur.toArray) (hcs : cur.length = cap * size) {m : Nat} {news : List Value} (hr : Rd w G size sv m news) (hroom : n + m ≤ cap) (h1 : ∀ u ∈ news, u.oneCell' = true)
  (hK : ∀ w', Cpy w g (n * size) tr cur news w' → K (a.put o.dst (.slice (some ⟨g, 0, none⟩) (n + m) cap)) w') : if Region.wanted o (yielded ops a.tmps) = true then Oper.wp P o a w K Q else E := by
 subst hx
 have hw : Region.wanted o (yielded ops a.tmps) = true := by simp [Region.wanted, hgd]
 rw [if_pos hw]
 obtain ⟨w', hrun, h2⟩ := run_app_room (P := P) (ty := o.type) ht he hg hcs hr hroom h1
 unfold Oper.wp execOp
 simp only [ho, resolve, invoke, builtin, Sem.run_bind, Sem.run_pure, Result.andThen_ok, List.map_toArray, List.map_cons, List.map_nil, hs, hrun]
 exact hK w' h2
theorem run_app_new {t tn ty e : TypeId} {z : Value} {size bytes : Nat} {kq kn : IntKind} (ht : P.underlying t = some (.slice e)) (htn : P.underlying tn = some (.int kn)) (he : Elt P e z size bytes)
  {g n cap : Nat} {xs : List Value} (hxl : xs.length = n * size) (hcell : ∀ j u, xs[j]? = some u → w.cell? ⟨g, j, none⟩ = some u) (hnc : n ≤ cap) (k : Nat) (hroom : cap < n + k) (hb : (n + k) * bytes ≤ 140737488355328) :
  ∃ c w', (Builtin.append_ #[t, tn] ty #[.slice (some ⟨g, 0, none⟩) n cap, .int kq k]).run P w = .ok (.slice (some ⟨w.heap.size, 0, none⟩) (n + k) c) w' ∧ n + k ≤ c ∧ c ≤ maxLen ∧ Only NoB w w' ∧ ∃ cur : List Value, Blk w' w.heap.size e cur.toArray ∧ cur.length = c * size ∧ cur.take (n * size) = xs := by
 obtain ⟨i, hi, hz, hs, hby⟩ := he.parts
 have hsz := he.2.2.1
 have hbp := he.2.2.2
 have hnk : n + k ≤ 140737488355328 := Nat.le_trans (Nat.le_mul_of_pos_right (n + k) hbp) hb
 have h63 : n + k ≤ maxLen := by simp only [maxLen]; omega
 have hkb : k * bytes ≤ 140737488355328 := Nat.le_trans (Nat.mul_le_mul_right _ (by omega)) hb
 have holds : ∀ j u, xs[j]? = some u → w.drew.cell? ((⟨g, 0, none⟩ : Addr).add j) = some u := fun j u hu => by rw [Addr.add_lit, Nat.zero_add]; exact hcell j u hu
 have hold := run_firstCells_some (P := P) w.drew i.size n ⟨g, 0, none⟩ n cap xs (by rw [hs]; exact hxl) holds
 have hr := run_append_grow_zeros (P := P) w t tn ty e i z kq kn ht htn hi hz (some ⟨g, 0, none⟩) n cap xs hold k (by omega) (by rw [hs]; exact hsz) (by omega) (by omega) (by rw [hby]; omega) (by rw [hby]; exact growslice_fits (by omega) hb)
 have hge := grownCap_ge w (n + k) cap e
 have hcm : grownCap w (n + k) cap e ≤ maxLen := grownCap_le_maxLen w (n + k) cap e h63
 obtain ⟨A, hA⟩ : ∃ A, A = xs.toArray ++ Builtin.zeroCells z.cells k ++ Builtin.zeroCells z.cells (grownCap w (n + k) cap e - (n + k)) := ⟨_, rfl⟩
 rw [← hA] at hr
 refine ⟨_, _, hr, hge, hcm, ((Only.refl NoB w).drew).alloc _, A.toList, ?_, ?_, ?_⟩
 ·unfold Blk
  rw [Array.toArray_toList]
  exact heap_alloc_new w.drew _
 ·rw [Array.length_toList, hA]
  simp only [Array.size_append, List.size_toArray, size_zeroCells, he.2.1, hxl, ← Nat.add_mul]
  congr 1
  omega
 ·rw [hA]
  simp only [Array.toList_append, List.append_assoc]
  rw [← hxl]
  exact List.take_left
theorem wpList_app_new {ops : Array Oper} {rest : List Oper} {o : Oper} {a : Act} {Q : Exit → Act → World → Prop} (hgd : o.guard = none) (s x : Operand) (t tn : TypeId)
  (ho : o.op = .call { callee := .builtin .append, args := #[s, x], argTypes := #[t, tn] }) {e : TypeId} {z : Value} {size bytes : Nat} {kq kn : IntKind} (ht : P.underlying t = some (.slice e)) (htn : P.underlying tn = some (.int kn)) (he : Elt P e z size bytes)
  {g n cap : Nat} {xs : List Value} (hs : a.eval s = .slice (some ⟨g, 0, none⟩) n cap) (hxl : xs.length = n * size) (hcell : ∀ j u, xs[j]? = some u → w.cell? ⟨g, j, none⟩ = some u) (hnc : n ≤ cap) (k : Nat) (hx : a.eval x = .int kq k) (hroom : cap < n + k) (hb : (n + k) * bytes ≤ 140737488355328)
  (hK : ∀ c w' (cur : List Value), n + k ≤ c → c ≤ maxLen → Only NoB w w' → Blk w' w.heap.size e cur.toArray → cur.length = c * size → cur.take (n * size) = xs → wpList P ops Q rest (a.put o.dst (.slice (some ⟨w.heap.size, 0, none⟩) (n + k) c)) w') : wpList P ops Q (o :: rest) a w := by
 obtain ⟨c, w', hrun, h1, h2, h3, cur, h4, h5, h6⟩ := run_app_new (ty := o.type) (kq := kq) ht htn he hxl hcell hnc k hroom hb
 exact wpList_append_run w hgd s x t tn ho _ _ hs hx _ w' hrun (hK c w' cur h1 h2 h3 h4 h5 h6)
theorem run_clear_sz {t ty e : TypeId} {z : Value} {size bytes : Nat} (ht : P.underlying t = some (.slice e)) (he : Elt P e z size bytes) (hzr : ∀ w, (zeroValue e).run P w = .ok z w) (hz1 : ∀ u ∈ z.cells, u.oneCell' = true)
  {g off k c : Nat} {tr : TypeId} {cur : List Value} (hg : Blk w g tr cur.toArray) (hfit : off + k * size ≤ cur.length) (hk : 0 < k) :
  ∃ w', (Builtin.clear_ #[t] ty #[.slice (some ⟨g, off, none⟩) k c]).run P w = .ok (.tuple #[]) w' ∧ Cpy w g off tr cur (zerosL z k) w' := by
 have hzl := zerosL_len he.2.1 k
 have hst := run_storeCells_at P g off tr (zerosL z k) 0 cur.toArray w hg (by rw [hzl]; simp; omega) (zerosL_cell hz1 (by rw [he.2.1]; exact he.2.2.1) k)
 simp only [Nat.add_zero] at hst
 refine ⟨w.setRow g (cur.take off ++ zerosL z k ++ cur.drop (off + (zerosL z k).length)).toArray, ?_, ?_, only_setRow w g _⟩
 ·obtain ⟨m, rfl⟩ : ∃ m, k = m + 1 := ⟨k - 1, by omega⟩
  have hzd : (Builtin.zeroCells z.cells (m + 1)).toList = zerosL z (m + 1) := rfl
  simp [Builtin.clear_, run_underlying ht, hzr, hzd, hst]
 ·have hb := setRow_heap w g cur.toArray (cur.take off ++ zerosL z k ++ cur.drop (off + (zerosL z k).length)).toArray tr (0, 0) hg
  unfold Blk splice
  simpa using hb
theorem wpList_clear_sz {ops : Array Oper} {rest : List Oper} {o : Oper} {a : Act} {Q : Exit → Act → World → Prop} (hgd : o.guard = none) (s : Operand) (t : TypeId)
  (ho : o.op = .call { callee := .builtin .clear, args := #[s], argTypes := #[t] }) {e : TypeId} {z : Value} {size bytes : Nat} (ht : P.underlying t = some (.slice e)) (he : Elt P e z size bytes) (hzr : ∀ w, (zeroValue e).run P w = .ok z w) (hz1 : ∀ u ∈ z.cells, u.oneCell' = true)
  {g off k c : Nat} {tr : TypeId} {cur : List Value} (hs : a.eval s = .slice (some ⟨g, off, none⟩) k c) (hg : Blk w g tr cur.toArray) (hfit : off + k * size ≤ cur.length) (hk : 0 < k)
  (hK : ∀ w', Cpy w g off tr cur (zerosL z k) w' → wpList P ops Q rest (a.put o.dst (.tuple #[])) w') : wpList P ops Q (o :: rest) a w := by
 refine wpList_plain hgd fun _ hK' => ?_
 obtain ⟨w', hrun, h2⟩ := run_clear_sz (P := P) (ty := o.type) (c := c) ht he hzr hz1 hg hfit hk
 unfold Oper.wp execOp
 simp only [ho, resolve, invoke, builtin, Sem.run_bind, Sem.run_pure, Result.andThen_ok, List.map_toArray, List.map_cons, List.map_nil, hs, hrun]
 exact hK' _ _ (hK w' h2)
end
end Go.Proofs.YtpjfheadolphgaaGreat
namespace Go.Proofs.YtpjfheadolphgaaGreat
open Go.RowKit Go.Proofs
set_option maxRecDepth 20000
section
variable {w w' : World} {F G : Nat → Prop} {v : Value} {n i vb : Nat} {xs news : List Value}
def SlOut (w : World) (e size : Nat) (v : Value) (n : Nat) (xs : List Value) (en : Ending) (w' : World) : Prop :=
 ∃ v', en = .returned v' ∧ Own w' (fun k => v.ownBlock = some k ∨ w.heap.size ≤ k) e size v' n xs ∧ Only (fun k => v.ownBlock = some k) w w'
theorem Own.row {e : TypeId} {size g c : Nat} (h : Own w F e size (.slice (some ⟨g, 0, none⟩) n c) n xs) : ∃ cur : List Value, Blk w g e cur.toArray ∧ cur.length = c * size ∧ cur.take (n * size) = xs ∧ c ≤ maxLen := by
 rcases h.1.2 with ⟨h0, _⟩ | ⟨g', cap, cur, hv, _, hg, hnc, hcm, hcs, htake⟩
 ·cases h0
 ·injection hv with q1 q2 q3
  injection q1 with q1
  injection q1 with q1
  subst q1; subst q3
  exact ⟨cur.toList, by unfold Blk; rw [Array.toArray_toList]; exact hg, by rw [Array.length_toList]; exact hcs, htake, hcm⟩
theorem shape_blk {g : Nat} {e : TypeId} {cs : Array Value} (h : Blk w g e cs) : w.shape? g = some (e, cs.size) := by
 unfold Blk at h
 simp [World.shape?, h]
theorem own_mk {e : TypeId} {size g c : Nat} {cur ys : List Value} (hB : Blk w g e cur.toArray) (hl : cur.length = c * size) (hn : n ≤ c) (hc : c ≤ maxLen) (ht : cur.take (n * size) = ys) (hF : F g) : Own w F e size (.slice (some ⟨g, 0, none⟩) n c) n ys := by
 have hle : n * size ≤ c * size := Nat.mul_le_mul_right _ hn
 refine ⟨⟨by rw [← ht, List.length_take]; omega, .inr ⟨g, c, cur.toArray, rfl, Nat.zero_le _, hB, hn, hc, by simpa using hl, by simpa using ht⟩⟩, fun q hq => by injection hq with hq; subst hq; exact hF⟩
theorem ins_row {cur xs news : List Value} {a k : Nat} (ha : a ≤ xs.length) (ht : cur.take a = xs.take a) (hk : k = xs.length + news.length) :
  (splice (splice cur a news) (a + news.length) (xs.drop a)).take k = xs.take a ++ news ++ xs.drop a := by
 have h1 : (splice cur a news).take (a + news.length) = xs.take a ++ news := by
  unfold splice
  rw [ht, ← List.append_assoc]
  exact List.take_left' (by rw [List.length_append, List.length_take]; omega)
 rw [splice, h1, ← List.append_assoc]
 exact List.take_left' (by rw [List.length_append, List.length_append, List.length_take, List.length_drop]; omega)
theorem shift_row {cur xs news : List Value} {a k : Nat} (ha : a ≤ xs.length) (hc : xs.length + news.length ≤ cur.length) (ht : cur.take xs.length = xs) (hk : k = xs.length + news.length) :
  (splice (splice cur (a + news.length) (xs.drop a)) a news).take k = xs.take a ++ news ++ xs.drop a := by
 have hta : cur.take a = xs.take a := by rw [← congrArg (List.take a) ht, List.take_take, Nat.min_eq_left ha]
 have h1 : (splice cur (a + news.length) (xs.drop a)).take a = xs.take a := by
  unfold splice
  rw [List.take_append_of_le_length (by rw [List.length_take]; omega), List.take_take, Nat.min_eq_left (by omega), hta]
 have h2 : (splice cur (a + news.length) (xs.drop a)).drop (a + news.length) = xs.drop a ++ cur.drop (a + news.length + (xs.drop a).length) := by
  unfold splice
  exact List.drop_left' (by rw [List.length_take]; omega)
 rw [splice, h1, h2, ← List.append_assoc, ← List.append_assoc]
 exact List.take_left' (by rw [List.length_append, List.length_append, List.length_take, List.length_drop]; omega)
theorem only_new' {w5 w6 : World} (h5 : Only (fun k => w.heap.size ≤ k) w w5) (h6 : Only (fun k => k = w.heap.size) w5 w6) : Only F w w6 :=
 h5.trans' h6 (fun i hi hk => by omega) |>.mono fun i hi hk => by omega
theorem ins_end_pair (hv : Own w F 83 2 v n xs) (hn : n ≤ 1000000) (hb : Blk w vb 83 news.toArray) (hl : news.length = 2) (h1 : ∀ u ∈ news, u.oneCell' = true) :
  Calls Tryz.prog 244 #[v, .int .i64 n, .slice (some ⟨vb, 0, none⟩) 1 1] w (SlOut w 83 2 v (n + 1) (xs ++ news)) := by
 obtain ⟨A, c, rfl, hc⟩ := hv.shape
 have HO : Hid (Own w (fun k => (Value.slice A n c).ownBlock = some k) 83 2 (.slice A n c) n xs) := Lib.hid ⟨hv.1, fun _ h => h⟩
 have HR : Hid (Rd w (fun k => k = vb) 2 (.slice (some ⟨vb, 0, none⟩) 1 1) 1 news) := Lib.hid ⟨_, _, rfl, Nat.le_refl _, by omega, fun _ => ⟨_, rfl, rfl, fun j u hu => by rw [Addr.add_lit, Nat.zero_add, hb.cell]; simpa using hu⟩⟩
 have H1 := Lib.hid h1
 clear hv hb hl h1
 go_enter Tryz.func244, Tryz.ntmps244
 go_wp2_with (at_builtin; refine wpList_app rfl _ _ _ rfl (by kernel_rfl) Ty.pair (v := .slice A n c) rfl rfl HO.out HR.out H1.out (by omega) ?_; intro v7 w7 ha7; have HA := Lib.hid ha7; clear ha7)
 all_goals
  try subst_vars
  go_ret
  refine ⟨v7, rfl, HA.out.own.mono fun k hk _ => ?_, HA.out.only⟩
  rcases hk with hk | hk
  ·exact .inl hk
  ·exact .inr (Nat.le_of_eq hk.symm)
set_option maxHeartbeats 1000000 in
theorem ins_grow_pair {g : Nat} (hv : Own w F 83 2 (.slice (some ⟨g, 0, none⟩) n n) n xs) (hn : n ≤ 1000000) (hi : i < n) (hb : Blk w vb 83 news.toArray) (hl : news.length = 2) (h1 : ∀ u ∈ news, u.oneCell' = true) (hx : ∀ u ∈ xs, u.oneCell' = true) :
  Calls Tryz.prog 244 #[.slice (some ⟨g, 0, none⟩) n n, .int .i64 i, .slice (some ⟨vb, 0, none⟩) 1 1] w (SlOut w 83 2 (.slice (some ⟨g, 0, none⟩) n n) (n + 1) (xs.take (i * 2) ++ news ++ xs.drop (i * 2))) := by
 have hxl := hv.len
 obtain ⟨g', cap, cur, hve, hnc, _, hB, hcs, hcell, hcl, _⟩ := hv.open_ (by omega)
 injection hve with q1 q2 q3
 injection q1 with q1
 injection q1 with q1
 subst q1; subst q3
 have hgw : g < w.heap.size := hB.lt
 have hvw : vb < w.heap.size := hb.lt
 have HB := Lib.hid hb
 have HCL := Lib.hid hcl
 have HXL := Lib.hid hxl
 have HNL := Lib.hid hl
 have H1 := Lib.hid h1
 have HX := Lib.hid hx
 have hc1 : ¬ ((i : Int) = (n : Int)) := by omega
 have hc2 : ¬ (n = i) := by omega
 have hgr : (n : Int) < (n : Int) + 1 := by omega
 have HK : Hid ((n : Int) + 1 - (i : Int) = ((n + 1 - i : Nat) : Int)) := Lib.hid (by omega)
 have HE : Hid (i + (n + 1 - i) = n + 1) := Lib.hid (by omega)
 have HT : Hid ((xs.take (i * 2)).length = i * 2) := Lib.hid (by rw [List.length_take, hxl]; omega)
 have HTC : Hid (∀ j u, (xs.take (i * 2))[j]? = some u → w.cell? ⟨g, j, none⟩ = some u) := Lib.hid fun j u hu => hcl j u (by rw [List.getElem?_take] at hu; split at hu; (· exact hu); (· cases hu))
 clear hv hxl hnc hB hcs hcell hcl hb hl h1 hx q2
 have HR : Hid (∀ w', Only (fun k => w.heap.size ≤ k) w w' → Rd w' (fun k => k = vb) 2 (.slice (some ⟨vb, 0, none⟩) 1 1) 1 news) := Lib.hid fun w' ho => ⟨_, _, rfl, Nat.le_refl _, by have := HNL.out; omega, fun _ => ⟨_, rfl, rfl, fun j u hu => by rw [Addr.add_lit, Nat.zero_add, (HB.out.only ho (by omega)).cell]; simpa using hu⟩⟩
 have HR2 : Hid (∀ w', Only (fun k => w.heap.size ≤ k) w w' → Rd w' (fun k => k = g) 2 (.slice (some ⟨g, i * 2, none⟩) (n - i) (n - i)) (n - i) (xs.drop (i * 2))) := Lib.hid fun w' ho => ⟨_, _, rfl, Nat.le_refl _, by rw [List.length_drop, HXL.out]; omega, fun _ => ⟨_, rfl, rfl, fun j u hu => by rw [Addr.add_lit]; rw [List.getElem?_drop] at hu; exact ho.cell (HCL.out _ u hu) (by show ¬ (w.heap.size ≤ g); omega)⟩⟩
 have htn : ((i : Int) + 1).toNat = i + 1 := by omega
 have hw1 : IntKind.i64.wrap ((i : Int) + 1) = (i : Int) + 1 := by rw [IntKind.wrap_i64]; omega
 have hb1 : (0 : Int) ≤ (i : Int) + 1 := by omega
 have hb2 : (i : Int) ≤ (n : Int) := by omega
 have hb3 : (i : Int) + 1 ≤ (n : Int) + 1 := by omega
 have hb4 : (i : Int) ≤ (n : Int) + 1 := by omega
 have HX2 : Hid (∀ u ∈ xs.drop (i * 2), u.oneCell' = true) := Lib.hid fun u hu => HX.out u (List.mem_of_mem_drop hu)
 go_enter Tryz.func244, Tryz.ntmps244
 go_wp2_with (first
  | (at_builtin; refine wpList_app_new rfl _ _ _ _ rfl (by kernel_rfl) (by kernel_rfl) Ty.pair (kq := .i64) (kn := .i64) rfl HT.out HTC.out (by omega) (n + 1 - i) (congrArg (Value.int .i64) HK.out) (by omega) (by omega) ?_; rw [HE.out]; intro c4 w4 cur4 h41 h42 ho4 hb4 hcl4 htk4; have HO4 := Lib.hid ho4; have HB4 := Lib.hid hb4; have HCL4 := Lib.hid hcl4; have HTK4 := Lib.hid htk4; have hc4 : ¬ (c4 = i) := (by omega); have hc5 : ¬ (c4 = i + 1) := (by omega); clear ho4 hb4 hcl4 htk4)
  | (refine wpList_copy_sz rfl _ _ _ _ rfl (by kernel_rfl) Ty.pair (g := w.heap.size) (off := i * 2) (dLen := n + 1 - i) rfl rfl HB4.out (by rw [HCL4.out]; omega) (HR.out w4 (HO4.out.mono fun _ _ h => h.elim)) (fun u hu => H1.out u (List.mem_of_mem_take hu)) ?_; intro w5 hcp5; have HC5 := Lib.hid hcp5; clear hcp5))
 have HO5 : Hid (Only (fun k => w.heap.size ≤ k) w w5.drew) := Lib.hid (((HO4.out.mono fun _ _ h => h.elim).trans (HC5.out.only.mono fun k _ hk => Nat.le_of_eq hk.symm)).drew)
 have hm5 : Nat.min 1 (n + 1 - i) * 2 = 2 := by rw [show Nat.min 1 (n + 1 - i) = 1 from Nat.min_eq_left (by omega)]
 have htk5 : news.take (Nat.min 1 (n + 1 - i) * 2) = news := by rw [hm5]; exact List.take_of_length_le (by rw [HNL.out]; omega)
 have hb5 : Blk w5.drew w.heap.size 83 (splice cur4 (i * 2) news).toArray := by have := HC5.out.blk; rw [htk5] at this; exact this.drew
 have HB5 := Lib.hid hb5
 have HFT : Hid ((i + 1) * 2 + (n - i) * 2 ≤ (splice cur4 (i * 2) news).length) := Lib.hid (by rw [length_splice _ _ _ (by rw [HNL.out, HCL4.out]; omega), HCL4.out]; omega)
 clear htk5 hm5 hb5 HC5 HB4 HR HTC
 go_region_law
  (refine step_copy_sz (by rfl) _ _ _ _ (by rfl) (by kernel_rfl) Ty.pair (g := w.heap.size) (off := (i + 1) * 2) (dLen := n - i) (dCap := c4 - (i + 1)) (sv := .slice (some ⟨g, i * 2, none⟩) (n - i) (n - i)) (by simp [Act.eval, Act.put]) (by simp [Act.eval, Act.put]) HB5.out HFT.out (HR2.out w5.drew HO5.out) (fun u hu => HX2.out u (List.mem_of_mem_take hu)) ?_; intro w6 hcp6; have HC6 := Lib.hid hcp6; clear hcp6)
 all_goals
  go_wp2_with fail
  go_ret
  have hxl := HXL.out
  have hnl := HNL.out
  have hcl4 := HCL4.out
  have hmn : Nat.min (n - i) (n - i) = n - i := Nat.min_self _
  have hB6 := HC6.out.blk
  rw [hmn, List.take_of_length_le (by rw [List.length_drop, hxl]; omega)] at hB6
  have hrow := ins_row (cur := cur4) (xs := xs) (news := news) (a := i * 2) (k := (n + 1) * 2) (by omega) (by first | exact HTK4.out | simpa using HTK4.out) (by omega)
  rw [hnl, show i * 2 + 2 = (i + 1) * 2 by omega] at hrow
  have hlen : (splice (splice cur4 (i * 2) news) ((i + 1) * 2) (xs.drop (i * 2))).length = c4 * 2 := by
   rw [length_splice _ _ _ (by rw [length_splice _ _ _ (by omega), List.length_drop]; omega), length_splice _ _ _ (by omega), hcl4]
  refine ⟨_, rfl, own_mk hB6 hlen h41 h42 hrow (.inr (Nat.le_refl _)), ?_⟩
  exact only_new' HO5.out HC6.out.only
theorem ov_pair {g off : Nat} {cs : Array Value} (hb : Blk w vb 83 news.toArray) (hB : Blk w g 83 cs) (hc : cs.size ≠ 0) (hne : vb ≠ g) (lb cb : Nat) :
  (callFunc 296 #[.slice (some ⟨vb, 0, none⟩) 1 1, .slice (some ⟨g, off, none⟩) lb cb]).run Tryz.prog w = .ok (.value (.bool false)) w := by
 rw [run_callFunc_extern Tryz.func296 (by kernel_rfl) (by kernel_rfl) (by kernel_rfl) (e := Extern.SlicesOverlaps.overlaps #[145, 145] #[4]) (by kernel_rfl),
  Lib.run_overlaps_apart w 145 4 83 (by kernel_rfl) 2 (fun w => by kernel_rfl) ⟨vb, 0, none⟩ ⟨g, off, none⟩ 1 1 lb cb hne 83 83 news.toArray.size cs.size (shape_blk hb) (shape_blk hB) hc (hb.frozen 0) (hb.frozen _)]
 rfl
set_option maxHeartbeats 1000000 in
theorem ins_shift_pair {g c : Nat} (hv : Own w F 83 2 (.slice (some ⟨g, 0, none⟩) n c) n xs) (hn : n ≤ 1000000) (hi : i < n) (hroom : n + 1 ≤ c) (hb : Blk w vb 83 news.toArray) (hne : vb ≠ g) (hl : news.length = 2) (h1 : ∀ u ∈ news, u.oneCell' = true) (hx : ∀ u ∈ xs, u.oneCell' = true) :
  Calls Tryz.prog 244 #[.slice (some ⟨g, 0, none⟩) n c, .int .i64 i, .slice (some ⟨vb, 0, none⟩) 1 1] w (SlOut w 83 2 (.slice (some ⟨g, 0, none⟩) n c) (n + 1) (xs.take (i * 2) ++ news ++ xs.drop (i * 2))) := by
 have hxl := hv.len
 obtain ⟨cur, hB, hcs, htk, hcm⟩ := hv.row
 have hgw : g < w.heap.size := hB.lt
 have hvw : vb < w.heap.size := hb.lt
 have hov := ov_pair (off := (i + 1) * 2) hb hB (by rw [List.size_toArray, hcs]; omega) hne
 have HB := Lib.hid hb
 have HBG := Lib.hid hB
 have HXL := Lib.hid hxl
 have HNL := Lib.hid hl
 have H1 := Lib.hid h1
 have HX := Lib.hid hx
 have HTK := Lib.hid htk
 have HCS := Lib.hid hcs
 have hc1 : ¬ ((i : Int) = (n : Int)) := by omega
 have hc2 : ¬ (n = i) := by omega
 have hc3 : ¬ (c = i) := by omega
 have hc4 : ¬ (c = i + 1) := by omega
 have hgr : ¬ ((c : Int) < (n : Int) + 1) := by omega
 have htn : ((i : Int) + 1).toNat = i + 1 := by omega
 have hw1 : IntKind.i64.wrap ((i : Int) + 1) = (i : Int) + 1 := by rw [IntKind.wrap_i64]; omega
 have hb1 : (0 : Int) ≤ (i : Int) + 1 := by omega
 have hb2 : (i : Int) ≤ (n : Int) := by omega
 have hb3 : (i : Int) + 1 ≤ (n : Int) + 1 := by omega
 have hb4 : (i : Int) ≤ (n : Int) + 1 := by omega
 clear hv hxl hB hcs htk hb hl h1 hx
 go_enter Tryz.func244, Tryz.ntmps244
 go_wp2_with (simp only [hov])
 clear hov
 have hxl := HXL.out
 have hcs := HCS.out
 have hnl := HNL.out
 have hmin : Nat.min (n + 1 - i) (n - i) = n - i := Nat.min_eq_right (by omega)
 have hsrc : ((cur.drop (i * 2)).take ((n + 1 - i) * 2)).take (Nat.min (n + 1 - i) (n - i) * 2) = xs.drop (i * 2) := by
  rw [hmin, List.take_take, Nat.min_eq_left (by omega), ← HTK.out, List.drop_take]
  congr 1
  omega
 have HSRC := Lib.hid hsrc
 have HR2 : Hid (Rd w.drew (fun k => k = g) 2 (.slice (some ⟨g, i * 2, none⟩) (n + 1 - i) (c - i)) (n + 1 - i) ((cur.drop (i * 2)).take ((n + 1 - i) * 2))) := Lib.hid ⟨_, _, rfl, by omega, by rw [List.length_take, List.length_drop, hcs]; omega, fun _ => ⟨_, rfl, rfl, fun j u hu => by
  rw [List.getElem?_take] at hu
  split at hu
  ·rw [List.getElem?_drop] at hu
   rw [Addr.add_lit, HBG.out.drew.cell]
   simpa using hu
  ·cases hu⟩⟩
 have HX2 : Hid (∀ u ∈ ((cur.drop (i * 2)).take ((n + 1 - i) * 2)).take (Nat.min (n + 1 - i) (n - i) * 2), u.oneCell' = true) := Lib.hid fun u hu => by rw [hsrc] at hu; exact HX.out u (List.mem_of_mem_drop hu)
 have HFT : Hid ((i + 1) * 2 + (n - i) * 2 ≤ cur.length) := Lib.hid (by rw [hcs]; omega)
 have HBD := Lib.hid HBG.out.drew
 clear hxl hcs hnl hmin hsrc
 go_region_law
  (refine step_copy_sz (by rfl) _ _ _ _ (by rfl) (by kernel_rfl) Ty.pair (g := g) (off := (i + 1) * 2) (dLen := n - i) (dCap := c - (i + 1)) (sv := .slice (some ⟨g, i * 2, none⟩) (n + 1 - i) (c - i)) (by simp [Act.eval, Act.put]) (by simp [Act.eval, Act.put]) HBD.out HFT.out HR2.out HX2.out ?_; intro w6 hcp6; have HC6 := Lib.hid hcp6; clear hcp6)
 all_goals
  have hxl := HXL.out
  have hcs := HCS.out
  have hnl := HNL.out
  have ho6 := HC6.out.only
  have hb6 := HC6.out.blk
  rw [HSRC.out] at hb6
  have hl6 : (splice cur ((i + 1) * 2) (xs.drop (i * 2))).length = c * 2 := by rw [length_splice _ _ _ (by rw [List.length_drop]; omega), hcs]
  have HB6 := Lib.hid hb6
  have HO6 : Hid (Only (fun k => k = g) w w6) := Lib.hid ((Only.refl _ w).drew.trans ho6)
  have HL6 := Lib.hid hl6
  have HR : Hid (Rd w6 (fun k => k = vb) 2 (.slice (some ⟨vb, 0, none⟩) 1 1) 1 news) := Lib.hid ⟨_, _, rfl, Nat.le_refl _, by omega, fun _ => ⟨_, rfl, rfl, fun j u hu => by rw [Addr.add_lit, Nat.zero_add, (HB.out.only HO6.out hne).cell]; simpa using hu⟩⟩
  clear hxl hcs hnl ho6 hb6 hl6 HC6
  go_wp2_with (refine wpList_copy_sz rfl _ _ _ _ rfl (by kernel_rfl) Ty.pair (g := g) (off := i * 2) (dLen := n + 1 - i) rfl rfl HB6.out (by rw [HL6.out]; omega) HR.out (fun u hu => H1.out u (List.mem_of_mem_take hu)) ?_; intro w7 hcp7; have HC7 := Lib.hid hcp7; clear hcp7)
  go_ret
  have hxl := HXL.out
  have hcs := HCS.out
  have hnl := HNL.out
  have hl6 := HL6.out
  have hB7 := HC7.out.blk
  have hmn : Nat.min 1 (n + 1 - i) = 1 := Nat.min_eq_left (by omega)
  rw [hmn, List.take_of_length_le (by omega)] at hB7
  have hrow := shift_row (cur := cur) (xs := xs) (news := news) (a := i * 2) (k := (n + 1) * 2) (by omega) (by omega) (by rw [hxl]; exact HTK.out) (by omega)
  rw [hnl, show i * 2 + 2 = (i + 1) * 2 by omega] at hrow
  refine ⟨_, rfl, own_mk hB7 (by rw [length_splice _ _ _ (by omega), hl6]) hroom hcm hrow (.inl rfl), ?_⟩
  exact (HO6.out.trans HC7.out.only).mono fun k _ hk => by rw [hk]; rfl
theorem ins_pair (hv : Own w F 83 2 v n xs) (hn : n ≤ 1000000) (hi : i ≤ n) (hb : Blk w vb 83 news.toArray) (hne : v.ownBlock ≠ some vb) (hl : news.length = 2) (h1 : ∀ u ∈ news, u.oneCell' = true) (hx : ∀ u ∈ xs, u.oneCell' = true) :
  Calls Tryz.prog 244 #[v, .int .i64 i, .slice (some ⟨vb, 0, none⟩) 1 1] w (SlOut w 83 2 v (n + 1) (xs.take (i * 2) ++ news ++ xs.drop (i * 2))) := by
 have hxl := hv.len
 by_cases hin : i = n
 ·subst hin
  rw [List.take_of_length_le (by omega), List.drop_of_length_le (by omega), List.append_nil]
  exact ins_end_pair hv hn hb hl h1
 ·obtain ⟨g, c, cs, rfl, hnc, _⟩ := hv.open_ (by omega)
  have hg : vb ≠ g := fun e => hne (by rw [e]; rfl)
  by_cases hc : c = n
  ·subst hc
   exact ins_grow_pair hv hn (by omega) hb hl h1 hx
  ·exact ins_shift_pair hv hn (by omega) (by omega) hb hg hl h1 hx
theorem ins_end_str (hv : Own w F 9 1 v n xs) (hn : n ≤ 1000000) (hb : Blk w vb 9 news.toArray) (hl : news.length = 1) (h1 : ∀ u ∈ news, u.oneCell' = true) :
  Calls Tryz.prog 246 #[v, .int .i64 n, .slice (some ⟨vb, 0, none⟩) 1 1] w (SlOut w 9 1 v (n + 1) (xs ++ news)) := by
 obtain ⟨A, c, rfl, hc⟩ := hv.shape
 have HO : Hid (Own w (fun k => (Value.slice A n c).ownBlock = some k) 9 1 (.slice A n c) n xs) := Lib.hid ⟨hv.1, fun _ h => h⟩
 have HR : Hid (Rd w (fun k => k = vb) 1 (.slice (some ⟨vb, 0, none⟩) 1 1) 1 news) := Lib.hid ⟨_, _, rfl, Nat.le_refl _, by omega, fun _ => ⟨_, rfl, rfl, fun j u hu => by rw [Addr.add_lit, Nat.zero_add, hb.cell]; simpa using hu⟩⟩
 have H1 := Lib.hid h1
 clear hv hb hl h1
 go_enter Tryz.func246, Tryz.ntmps246
 go_wp2_with (at_builtin; refine wpList_app rfl _ _ _ rfl (by kernel_rfl) Ty.str (v := .slice A n c) rfl rfl HO.out HR.out H1.out (by omega) ?_; intro v7 w7 ha7; have HA := Lib.hid ha7; clear ha7)
 all_goals
  try subst_vars
  go_ret
  refine ⟨v7, rfl, HA.out.own.mono fun k hk _ => ?_, HA.out.only⟩
  rcases hk with hk | hk
  ·exact .inl hk
  ·exact .inr (Nat.le_of_eq hk.symm)
set_option maxHeartbeats 1000000 in
theorem ins_grow_str {g : Nat} (hv : Own w F 9 1 (.slice (some ⟨g, 0, none⟩) n n) n xs) (hn : n ≤ 1000000) (hi : i < n) (hb : Blk w vb 9 news.toArray) (hl : news.length = 1) (h1 : ∀ u ∈ news, u.oneCell' = true) (hx : ∀ u ∈ xs, u.oneCell' = true) :
  Calls Tryz.prog 246 #[.slice (some ⟨g, 0, none⟩) n n, .int .i64 i, .slice (some ⟨vb, 0, none⟩) 1 1] w (SlOut w 9 1 (.slice (some ⟨g, 0, none⟩) n n) (n + 1) (xs.take (i) ++ news ++ xs.drop (i))) := by
 have hxl := hv.len
 obtain ⟨g', cap, cur, hve, hnc, _, hB, hcs, hcell, hcl, _⟩ := hv.open_ (by omega)
 injection hve with q1 q2 q3
 injection q1 with q1
 injection q1 with q1
 subst q1; subst q3
 have hgw : g < w.heap.size := hB.lt
 have hvw : vb < w.heap.size := hb.lt
 have HB := Lib.hid hb
 have HCL := Lib.hid hcl
 have HXL := Lib.hid hxl
 have HNL := Lib.hid hl
 have H1 := Lib.hid h1
 have HX := Lib.hid hx
 have hc1 : ¬ ((i : Int) = (n : Int)) := by omega
 have hc2 : ¬ (n = i) := by omega
 have hgr : (n : Int) < (n : Int) + 1 := by omega
 have HK : Hid ((n : Int) + 1 - (i : Int) = ((n + 1 - i : Nat) : Int)) := Lib.hid (by omega)
 have HE : Hid (i + (n + 1 - i) = n + 1) := Lib.hid (by omega)
 have HT : Hid ((xs.take (i)).length = i * 1) := Lib.hid (by rw [List.length_take, hxl]; omega)
 have HTC : Hid (∀ j u, (xs.take (i))[j]? = some u → w.cell? ⟨g, j, none⟩ = some u) := Lib.hid fun j u hu => hcl j u (by rw [List.getElem?_take] at hu; split at hu; (· exact hu); (· cases hu))
 clear hv hxl hnc hB hcs hcell hcl hb hl h1 hx q2
 have HR : Hid (∀ w', Only (fun k => w.heap.size ≤ k) w w' → Rd w' (fun k => k = vb) 1 (.slice (some ⟨vb, 0, none⟩) 1 1) 1 news) := Lib.hid fun w' ho => ⟨_, _, rfl, Nat.le_refl _, by have := HNL.out; omega, fun _ => ⟨_, rfl, rfl, fun j u hu => by rw [Addr.add_lit, Nat.zero_add, (HB.out.only ho (by omega)).cell]; simpa using hu⟩⟩
 have HR2 : Hid (∀ w', Only (fun k => w.heap.size ≤ k) w w' → Rd w' (fun k => k = g) 1 (.slice (some ⟨g, i, none⟩) (n - i) (n - i)) (n - i) (xs.drop (i))) := Lib.hid fun w' ho => ⟨_, _, rfl, Nat.le_refl _, by rw [List.length_drop, HXL.out]; omega, fun _ => ⟨_, rfl, rfl, fun j u hu => by rw [Addr.add_lit]; rw [List.getElem?_drop] at hu; exact ho.cell (HCL.out _ u hu) (by show ¬ (w.heap.size ≤ g); omega)⟩⟩
 have htn : ((i : Int) + 1).toNat = i + 1 := by omega
 have hw1 : IntKind.i64.wrap ((i : Int) + 1) = (i : Int) + 1 := by rw [IntKind.wrap_i64]; omega
 have hb1 : (0 : Int) ≤ (i : Int) + 1 := by omega
 have hb2 : (i : Int) ≤ (n : Int) := by omega
 have hb3 : (i : Int) + 1 ≤ (n : Int) + 1 := by omega
 have hb4 : (i : Int) ≤ (n : Int) + 1 := by omega
 have HX2 : Hid (∀ u ∈ xs.drop (i), u.oneCell' = true) := Lib.hid fun u hu => HX.out u (List.mem_of_mem_drop hu)
 go_enter Tryz.func246, Tryz.ntmps246
 go_wp2_with (first
  | (at_builtin; refine wpList_app_new rfl _ _ _ _ rfl (by kernel_rfl) (by kernel_rfl) Ty.str (kq := .i64) (kn := .i64) rfl HT.out HTC.out (by omega) (n + 1 - i) (congrArg (Value.int .i64) HK.out) (by omega) (by omega) ?_; rw [HE.out]; intro c4 w4 cur4 h41 h42 ho4 hb4 hcl4 htk4; have HO4 := Lib.hid ho4; have HB4 := Lib.hid hb4; have HCL4 := Lib.hid hcl4; have HTK4 := Lib.hid htk4; have hc4 : ¬ (c4 = i) := (by omega); have hc5 : ¬ (c4 = i + 1) := (by omega); clear ho4 hb4 hcl4 htk4)
  | (refine wpList_copy_sz rfl _ _ _ _ rfl (by kernel_rfl) Ty.str (g := w.heap.size) (off := i) (dLen := n + 1 - i) rfl rfl HB4.out (by rw [HCL4.out]; omega) (HR.out w4 (HO4.out.mono fun _ _ h => h.elim)) (fun u hu => H1.out u (List.mem_of_mem_take hu)) ?_; intro w5 hcp5; have HC5 := Lib.hid hcp5; clear hcp5))
 have HO5 : Hid (Only (fun k => w.heap.size ≤ k) w w5.drew) := Lib.hid (((HO4.out.mono fun _ _ h => h.elim).trans (HC5.out.only.mono fun k _ hk => Nat.le_of_eq hk.symm)).drew)
 have hm5 : Nat.min 1 (n + 1 - i) * 1 = 1 := by rw [show Nat.min 1 (n + 1 - i) = 1 from Nat.min_eq_left (by omega)]
 have htk5 : news.take (Nat.min 1 (n + 1 - i) * 1) = news := by rw [hm5]; exact List.take_of_length_le (by rw [HNL.out]; omega)
 have hb5 : Blk w5.drew w.heap.size 9 (splice cur4 (i) news).toArray := by have := HC5.out.blk; rw [htk5] at this; exact this.drew
 have HB5 := Lib.hid hb5
 have HFT : Hid (i + 1 + (n - i) * 1 ≤ (splice cur4 (i) news).length) := Lib.hid (by rw [length_splice _ _ _ (by rw [HNL.out, HCL4.out]; omega), HCL4.out]; omega)
 clear htk5 hm5 hb5 HC5 HB4 HR HTC
 go_region_law
  (refine step_copy_sz (by rfl) _ _ _ _ (by rfl) (by kernel_rfl) Ty.str (g := w.heap.size) (off := i + 1) (dLen := n - i) (dCap := c4 - (i + 1)) (sv := .slice (some ⟨g, i, none⟩) (n - i) (n - i)) (by simp [Act.eval, Act.put]) (by simp [Act.eval, Act.put]) HB5.out HFT.out (HR2.out w5.drew HO5.out) (fun u hu => HX2.out u (List.mem_of_mem_take hu)) ?_; intro w6 hcp6; have HC6 := Lib.hid hcp6; clear hcp6)
 all_goals
  go_wp2_with fail
  go_ret
  have hxl := HXL.out
  have hnl := HNL.out
  have hcl4 := HCL4.out
  have hmn : Nat.min (n - i) (n - i) = n - i := Nat.min_self _
  have hB6 := HC6.out.blk
  rw [hmn, List.take_of_length_le (by rw [List.length_drop, hxl]; omega)] at hB6
  have hrow := ins_row (cur := cur4) (xs := xs) (news := news) (a := i) (k := (n + 1) * 1) (by omega) (by first | exact HTK4.out | simpa using HTK4.out) (by omega)
  rw [hnl, show i + 1 = i + 1 by omega] at hrow
  have hlen : (splice (splice cur4 (i) news) (i + 1) (xs.drop (i))).length = c4 * 1 := by
   rw [length_splice _ _ _ (by rw [length_splice _ _ _ (by omega), List.length_drop]; omega), length_splice _ _ _ (by omega), hcl4]
  refine ⟨_, rfl, own_mk hB6 hlen h41 h42 hrow (.inr (Nat.le_refl _)), ?_⟩
  exact only_new' HO5.out HC6.out.only
theorem ov_str {g off : Nat} {cs : Array Value} (hb : Blk w vb 9 news.toArray) (hB : Blk w g 9 cs) (hc : cs.size ≠ 0) (hne : vb ≠ g) (lb cb : Nat) :
  (callFunc 299 #[.slice (some ⟨vb, 0, none⟩) 1 1, .slice (some ⟨g, off, none⟩) lb cb]).run Tryz.prog w = .ok (.value (.bool false)) w := by
 rw [run_callFunc_extern Tryz.func299 (by kernel_rfl) (by kernel_rfl) (by kernel_rfl) (e := Extern.SlicesOverlaps.overlaps #[43, 43] #[4]) (by kernel_rfl),
  Lib.run_overlaps_apart w 43 4 9 (by kernel_rfl) 1 (fun w => by kernel_rfl) ⟨vb, 0, none⟩ ⟨g, off, none⟩ 1 1 lb cb hne 9 9 news.toArray.size cs.size (shape_blk hb) (shape_blk hB) hc (hb.frozen 0) (hb.frozen _)]
 rfl
set_option maxHeartbeats 1000000 in
theorem ins_shift_str {g c : Nat} (hv : Own w F 9 1 (.slice (some ⟨g, 0, none⟩) n c) n xs) (hn : n ≤ 1000000) (hi : i < n) (hroom : n + 1 ≤ c) (hb : Blk w vb 9 news.toArray) (hne : vb ≠ g) (hl : news.length = 1) (h1 : ∀ u ∈ news, u.oneCell' = true) (hx : ∀ u ∈ xs, u.oneCell' = true) :
  Calls Tryz.prog 246 #[.slice (some ⟨g, 0, none⟩) n c, .int .i64 i, .slice (some ⟨vb, 0, none⟩) 1 1] w (SlOut w 9 1 (.slice (some ⟨g, 0, none⟩) n c) (n + 1) (xs.take (i) ++ news ++ xs.drop (i))) := by
 have hxl := hv.len
 obtain ⟨cur, hB, hcs, htk, hcm⟩ := hv.row
 have hgw : g < w.heap.size := hB.lt
 have hvw : vb < w.heap.size := hb.lt
 have hov := ov_str (off := i + 1) hb hB (by rw [List.size_toArray, hcs]; omega) hne
 have HB := Lib.hid hb
 have HBG := Lib.hid hB
 have HXL := Lib.hid hxl
 have HNL := Lib.hid hl
 have H1 := Lib.hid h1
 have HX := Lib.hid hx
 have HTK := Lib.hid htk
 have HCS := Lib.hid hcs
 have hc1 : ¬ ((i : Int) = (n : Int)) := by omega
 have hc2 : ¬ (n = i) := by omega
 have hc3 : ¬ (c = i) := by omega
 have hc4 : ¬ (c = i + 1) := by omega
 have hgr : ¬ ((c : Int) < (n : Int) + 1) := by omega
 have htn : ((i : Int) + 1).toNat = i + 1 := by omega
 have hw1 : IntKind.i64.wrap ((i : Int) + 1) = (i : Int) + 1 := by rw [IntKind.wrap_i64]; omega
 have hb1 : (0 : Int) ≤ (i : Int) + 1 := by omega
 have hb2 : (i : Int) ≤ (n : Int) := by omega
 have hb3 : (i : Int) + 1 ≤ (n : Int) + 1 := by omega
 have hb4 : (i : Int) ≤ (n : Int) + 1 := by omega
 clear hv hxl hB hcs htk hb hl h1 hx
 go_enter Tryz.func246, Tryz.ntmps246
 go_wp2_with (simp only [hov])
 clear hov
 have hxl := HXL.out
 have hcs := HCS.out
 have hnl := HNL.out
 have hmin : Nat.min (n + 1 - i) (n - i) = n - i := Nat.min_eq_right (by omega)
 have hsrc : ((cur.drop (i)).take ((n + 1 - i) * 1)).take (Nat.min (n + 1 - i) (n - i) * 1) = xs.drop (i) := by
  rw [hmin, List.take_take, Nat.min_eq_left (by omega), ← HTK.out, List.drop_take]
  congr 1
  omega
 have HSRC := Lib.hid hsrc
 have HR2 : Hid (Rd w.drew (fun k => k = g) 1 (.slice (some ⟨g, i, none⟩) (n + 1 - i) (c - i)) (n + 1 - i) ((cur.drop (i)).take ((n + 1 - i) * 1))) := Lib.hid ⟨_, _, rfl, by omega, by rw [List.length_take, List.length_drop, hcs]; omega, fun _ => ⟨_, rfl, rfl, fun j u hu => by
  rw [List.getElem?_take] at hu
  split at hu
  ·rw [List.getElem?_drop] at hu
   rw [Addr.add_lit, HBG.out.drew.cell]
   simpa using hu
  ·cases hu⟩⟩
 have HX2 : Hid (∀ u ∈ ((cur.drop (i)).take ((n + 1 - i) * 1)).take (Nat.min (n + 1 - i) (n - i) * 1), u.oneCell' = true) := Lib.hid fun u hu => by rw [hsrc] at hu; exact HX.out u (List.mem_of_mem_drop hu)
 have HFT : Hid (i + 1 + (n - i) * 1 ≤ cur.length) := Lib.hid (by rw [hcs]; omega)
 have HBD := Lib.hid HBG.out.drew
 clear hxl hcs hnl hmin hsrc
 go_region_law
  (refine step_copy_sz (by rfl) _ _ _ _ (by rfl) (by kernel_rfl) Ty.str (g := g) (off := i + 1) (dLen := n - i) (dCap := c - (i + 1)) (sv := .slice (some ⟨g, i, none⟩) (n + 1 - i) (c - i)) (by simp [Act.eval, Act.put]) (by simp [Act.eval, Act.put]) HBD.out HFT.out HR2.out HX2.out ?_; intro w6 hcp6; have HC6 := Lib.hid hcp6; clear hcp6)
 all_goals
  have hxl := HXL.out
  have hcs := HCS.out
  have hnl := HNL.out
  have ho6 := HC6.out.only
  have hb6 := HC6.out.blk
  rw [HSRC.out] at hb6
  have hl6 : (splice cur (i + 1) (xs.drop (i))).length = c * 1 := by rw [length_splice _ _ _ (by rw [List.length_drop]; omega), hcs]
  have HB6 := Lib.hid hb6
  have HO6 : Hid (Only (fun k => k = g) w w6) := Lib.hid ((Only.refl _ w).drew.trans ho6)
  have HL6 := Lib.hid hl6
  have HR : Hid (Rd w6 (fun k => k = vb) 1 (.slice (some ⟨vb, 0, none⟩) 1 1) 1 news) := Lib.hid ⟨_, _, rfl, Nat.le_refl _, by omega, fun _ => ⟨_, rfl, rfl, fun j u hu => by rw [Addr.add_lit, Nat.zero_add, (HB.out.only HO6.out hne).cell]; simpa using hu⟩⟩
  clear hxl hcs hnl ho6 hb6 hl6 HC6
  go_wp2_with (refine wpList_copy_sz rfl _ _ _ _ rfl (by kernel_rfl) Ty.str (g := g) (off := i) (dLen := n + 1 - i) rfl rfl HB6.out (by rw [HL6.out]; omega) HR.out (fun u hu => H1.out u (List.mem_of_mem_take hu)) ?_; intro w7 hcp7; have HC7 := Lib.hid hcp7; clear hcp7)
  go_ret
  have hxl := HXL.out
  have hcs := HCS.out
  have hnl := HNL.out
  have hl6 := HL6.out
  have hB7 := HC7.out.blk
  have hmn : Nat.min 1 (n + 1 - i) = 1 := Nat.min_eq_left (by omega)
  rw [hmn, List.take_of_length_le (by omega)] at hB7
  have hrow := shift_row (cur := cur) (xs := xs) (news := news) (a := i) (k := (n + 1) * 1) (by omega) (by omega) (by rw [hxl]; exact HTK.out) (by omega)
  rw [hnl, show i + 1 = i + 1 by omega] at hrow
  refine ⟨_, rfl, own_mk hB7 (by rw [length_splice _ _ _ (by omega), hl6]) hroom hcm hrow (.inl rfl), ?_⟩
  exact (HO6.out.trans HC7.out.only).mono fun k _ hk => by rw [hk]; rfl
theorem ins_str (hv : Own w F 9 1 v n xs) (hn : n ≤ 1000000) (hi : i ≤ n) (hb : Blk w vb 9 news.toArray) (hne : v.ownBlock ≠ some vb) (hl : news.length = 1) (h1 : ∀ u ∈ news, u.oneCell' = true) (hx : ∀ u ∈ xs, u.oneCell' = true) :
  Calls Tryz.prog 246 #[v, .int .i64 i, .slice (some ⟨vb, 0, none⟩) 1 1] w (SlOut w 9 1 v (n + 1) (xs.take (i) ++ news ++ xs.drop (i))) := by
 have hxl := hv.len
 by_cases hin : i = n
 ·subst hin
  rw [List.take_of_length_le (by omega), List.drop_of_length_le (by omega), List.append_nil]
  exact ins_end_str hv hn hb hl h1
 ·obtain ⟨g, c, cs, rfl, hnc, _⟩ := hv.open_ (by omega)
  have hg : vb ≠ g := fun e => hne (by rw [e]; rfl)
  by_cases hc : c = n
  ·subst hc
   exact ins_grow_str hv hn (by omega) hb hl h1 hx
  ·exact ins_shift_str hv hn (by omega) (by omega) hb hg hl h1 hx
theorem ins_end_nat (hv : Own w F 3 1 v n xs) (hn : n ≤ 1000000) (hb : Blk w vb 3 news.toArray) (hl : news.length = 1) (h1 : ∀ u ∈ news, u.oneCell' = true) :
  Calls Tryz.prog 247 #[v, .int .i64 n, .slice (some ⟨vb, 0, none⟩) 1 1] w (SlOut w 3 1 v (n + 1) (xs ++ news)) := by
 obtain ⟨A, c, rfl, hc⟩ := hv.shape
 have HO : Hid (Own w (fun k => (Value.slice A n c).ownBlock = some k) 3 1 (.slice A n c) n xs) := Lib.hid ⟨hv.1, fun _ h => h⟩
 have HR : Hid (Rd w (fun k => k = vb) 1 (.slice (some ⟨vb, 0, none⟩) 1 1) 1 news) := Lib.hid ⟨_, _, rfl, Nat.le_refl _, by omega, fun _ => ⟨_, rfl, rfl, fun j u hu => by rw [Addr.add_lit, Nat.zero_add, hb.cell]; simpa using hu⟩⟩
 have H1 := Lib.hid h1
 clear hv hb hl h1
 go_enter Tryz.func247, Tryz.ntmps247
 go_wp2_with (at_builtin; refine wpList_app rfl _ _ _ rfl (by kernel_rfl) Ty.nat (v := .slice A n c) rfl rfl HO.out HR.out H1.out (by omega) ?_; intro v7 w7 ha7; have HA := Lib.hid ha7; clear ha7)
 all_goals
  try subst_vars
  go_ret
  refine ⟨v7, rfl, HA.out.own.mono fun k hk _ => ?_, HA.out.only⟩
  rcases hk with hk | hk
  ·exact .inl hk
  ·exact .inr (Nat.le_of_eq hk.symm)
set_option maxHeartbeats 1000000 in
theorem ins_grow_nat {g : Nat} (hv : Own w F 3 1 (.slice (some ⟨g, 0, none⟩) n n) n xs) (hn : n ≤ 1000000) (hi : i < n) (hb : Blk w vb 3 news.toArray) (hl : news.length = 1) (h1 : ∀ u ∈ news, u.oneCell' = true) (hx : ∀ u ∈ xs, u.oneCell' = true) :
  Calls Tryz.prog 247 #[.slice (some ⟨g, 0, none⟩) n n, .int .i64 i, .slice (some ⟨vb, 0, none⟩) 1 1] w (SlOut w 3 1 (.slice (some ⟨g, 0, none⟩) n n) (n + 1) (xs.take (i) ++ news ++ xs.drop (i))) := by
 have hxl := hv.len
 obtain ⟨g', cap, cur, hve, hnc, _, hB, hcs, hcell, hcl, _⟩ := hv.open_ (by omega)
 injection hve with q1 q2 q3
 injection q1 with q1
 injection q1 with q1
 subst q1; subst q3
 have hgw : g < w.heap.size := hB.lt
 have hvw : vb < w.heap.size := hb.lt
 have HB := Lib.hid hb
 have HCL := Lib.hid hcl
 have HXL := Lib.hid hxl
 have HNL := Lib.hid hl
 have H1 := Lib.hid h1
 have HX := Lib.hid hx
 have hc1 : ¬ ((i : Int) = (n : Int)) := by omega
 have hc2 : ¬ (n = i) := by omega
 have hgr : (n : Int) < (n : Int) + 1 := by omega
 have HK : Hid ((n : Int) + 1 - (i : Int) = ((n + 1 - i : Nat) : Int)) := Lib.hid (by omega)
 have HE : Hid (i + (n + 1 - i) = n + 1) := Lib.hid (by omega)
 have HT : Hid ((xs.take (i)).length = i * 1) := Lib.hid (by rw [List.length_take, hxl]; omega)
 have HTC : Hid (∀ j u, (xs.take (i))[j]? = some u → w.cell? ⟨g, j, none⟩ = some u) := Lib.hid fun j u hu => hcl j u (by rw [List.getElem?_take] at hu; split at hu; (· exact hu); (· cases hu))
 clear hv hxl hnc hB hcs hcell hcl hb hl h1 hx q2
 have HR : Hid (∀ w', Only (fun k => w.heap.size ≤ k) w w' → Rd w' (fun k => k = vb) 1 (.slice (some ⟨vb, 0, none⟩) 1 1) 1 news) := Lib.hid fun w' ho => ⟨_, _, rfl, Nat.le_refl _, by have := HNL.out; omega, fun _ => ⟨_, rfl, rfl, fun j u hu => by rw [Addr.add_lit, Nat.zero_add, (HB.out.only ho (by omega)).cell]; simpa using hu⟩⟩
 have HR2 : Hid (∀ w', Only (fun k => w.heap.size ≤ k) w w' → Rd w' (fun k => k = g) 1 (.slice (some ⟨g, i, none⟩) (n - i) (n - i)) (n - i) (xs.drop (i))) := Lib.hid fun w' ho => ⟨_, _, rfl, Nat.le_refl _, by rw [List.length_drop, HXL.out]; omega, fun _ => ⟨_, rfl, rfl, fun j u hu => by rw [Addr.add_lit]; rw [List.getElem?_drop] at hu; exact ho.cell (HCL.out _ u hu) (by show ¬ (w.heap.size ≤ g); omega)⟩⟩
 have htn : ((i : Int) + 1).toNat = i + 1 := by omega
 have hw1 : IntKind.i64.wrap ((i : Int) + 1) = (i : Int) + 1 := by rw [IntKind.wrap_i64]; omega
 have hb1 : (0 : Int) ≤ (i : Int) + 1 := by omega
 have hb2 : (i : Int) ≤ (n : Int) := by omega
 have hb3 : (i : Int) + 1 ≤ (n : Int) + 1 := by omega
 have hb4 : (i : Int) ≤ (n : Int) + 1 := by omega
 have HX2 : Hid (∀ u ∈ xs.drop (i), u.oneCell' = true) := Lib.hid fun u hu => HX.out u (List.mem_of_mem_drop hu)
 go_enter Tryz.func247, Tryz.ntmps247
 go_wp2_with (first
  | (at_builtin; refine wpList_app_new rfl _ _ _ _ rfl (by kernel_rfl) (by kernel_rfl) Ty.nat (kq := .i64) (kn := .i64) rfl HT.out HTC.out (by omega) (n + 1 - i) (congrArg (Value.int .i64) HK.out) (by omega) (by omega) ?_; rw [HE.out]; intro c4 w4 cur4 h41 h42 ho4 hb4 hcl4 htk4; have HO4 := Lib.hid ho4; have HB4 := Lib.hid hb4; have HCL4 := Lib.hid hcl4; have HTK4 := Lib.hid htk4; have hc4 : ¬ (c4 = i) := (by omega); have hc5 : ¬ (c4 = i + 1) := (by omega); clear ho4 hb4 hcl4 htk4)
  | (refine wpList_copy_sz rfl _ _ _ _ rfl (by kernel_rfl) Ty.nat (g := w.heap.size) (off := i) (dLen := n + 1 - i) rfl rfl HB4.out (by rw [HCL4.out]; omega) (HR.out w4 (HO4.out.mono fun _ _ h => h.elim)) (fun u hu => H1.out u (List.mem_of_mem_take hu)) ?_; intro w5 hcp5; have HC5 := Lib.hid hcp5; clear hcp5))
 have HO5 : Hid (Only (fun k => w.heap.size ≤ k) w w5.drew) := Lib.hid (((HO4.out.mono fun _ _ h => h.elim).trans (HC5.out.only.mono fun k _ hk => Nat.le_of_eq hk.symm)).drew)
 have hm5 : Nat.min 1 (n + 1 - i) * 1 = 1 := by rw [show Nat.min 1 (n + 1 - i) = 1 from Nat.min_eq_left (by omega)]
 have htk5 : news.take (Nat.min 1 (n + 1 - i) * 1) = news := by rw [hm5]; exact List.take_of_length_le (by rw [HNL.out]; omega)
 have hb5 : Blk w5.drew w.heap.size 3 (splice cur4 (i) news).toArray := by have := HC5.out.blk; rw [htk5] at this; exact this.drew
 have HB5 := Lib.hid hb5
 have HFT : Hid (i + 1 + (n - i) * 1 ≤ (splice cur4 (i) news).length) := Lib.hid (by rw [length_splice _ _ _ (by rw [HNL.out, HCL4.out]; omega), HCL4.out]; omega)
 clear htk5 hm5 hb5 HC5 HB4 HR HTC
 go_region_law
  (refine step_copy_sz (by rfl) _ _ _ _ (by rfl) (by kernel_rfl) Ty.nat (g := w.heap.size) (off := i + 1) (dLen := n - i) (dCap := c4 - (i + 1)) (sv := .slice (some ⟨g, i, none⟩) (n - i) (n - i)) (by simp [Act.eval, Act.put]) (by simp [Act.eval, Act.put]) HB5.out HFT.out (HR2.out w5.drew HO5.out) (fun u hu => HX2.out u (List.mem_of_mem_take hu)) ?_; intro w6 hcp6; have HC6 := Lib.hid hcp6; clear hcp6)
 all_goals
  go_wp2_with fail
  go_ret
  have hxl := HXL.out
  have hnl := HNL.out
  have hcl4 := HCL4.out
  have hmn : Nat.min (n - i) (n - i) = n - i := Nat.min_self _
  have hB6 := HC6.out.blk
  rw [hmn, List.take_of_length_le (by rw [List.length_drop, hxl]; omega)] at hB6
  have hrow := ins_row (cur := cur4) (xs := xs) (news := news) (a := i) (k := (n + 1) * 1) (by omega) (by first | exact HTK4.out | simpa using HTK4.out) (by omega)
  rw [hnl, show i + 1 = i + 1 by omega] at hrow
  have hlen : (splice (splice cur4 (i) news) (i + 1) (xs.drop (i))).length = c4 * 1 := by
   rw [length_splice _ _ _ (by rw [length_splice _ _ _ (by omega), List.length_drop]; omega), length_splice _ _ _ (by omega), hcl4]
  refine ⟨_, rfl, own_mk hB6 hlen h41 h42 hrow (.inr (Nat.le_refl _)), ?_⟩
  exact only_new' HO5.out HC6.out.only
theorem ov_nat {g off : Nat} {cs : Array Value} (hb : Blk w vb 3 news.toArray) (hB : Blk w g 3 cs) (hc : cs.size ≠ 0) (hne : vb ≠ g) (lb cb : Nat) :
  (callFunc 301 #[.slice (some ⟨vb, 0, none⟩) 1 1, .slice (some ⟨g, off, none⟩) lb cb]).run Tryz.prog w = .ok (.value (.bool false)) w := by
 rw [run_callFunc_extern Tryz.func301 (by kernel_rfl) (by kernel_rfl) (by kernel_rfl) (e := Extern.SlicesOverlaps.overlaps #[198, 198] #[4]) (by kernel_rfl),
  Lib.run_overlaps_apart w 198 4 3 (by kernel_rfl) 1 (fun w => by kernel_rfl) ⟨vb, 0, none⟩ ⟨g, off, none⟩ 1 1 lb cb hne 3 3 news.toArray.size cs.size (shape_blk hb) (shape_blk hB) hc (hb.frozen 0) (hb.frozen _)]
 rfl
set_option maxHeartbeats 1000000 in
theorem ins_shift_nat {g c : Nat} (hv : Own w F 3 1 (.slice (some ⟨g, 0, none⟩) n c) n xs) (hn : n ≤ 1000000) (hi : i < n) (hroom : n + 1 ≤ c) (hb : Blk w vb 3 news.toArray) (hne : vb ≠ g) (hl : news.length = 1) (h1 : ∀ u ∈ news, u.oneCell' = true) (hx : ∀ u ∈ xs, u.oneCell' = true) :
  Calls Tryz.prog 247 #[.slice (some ⟨g, 0, none⟩) n c, .int .i64 i, .slice (some ⟨vb, 0, none⟩) 1 1] w (SlOut w 3 1 (.slice (some ⟨g, 0, none⟩) n c) (n + 1) (xs.take (i) ++ news ++ xs.drop (i))) := by
 have hxl := hv.len
 obtain ⟨cur, hB, hcs, htk, hcm⟩ := hv.row
 have hgw : g < w.heap.size := hB.lt
 have hvw : vb < w.heap.size := hb.lt
 have hov := ov_nat (off := i + 1) hb hB (by rw [List.size_toArray, hcs]; omega) hne
 have HB := Lib.hid hb
 have HBG := Lib.hid hB
 have HXL := Lib.hid hxl
 have HNL := Lib.hid hl
 have H1 := Lib.hid h1
 have HX := Lib.hid hx
 have HTK := Lib.hid htk
 have HCS := Lib.hid hcs
 have hc1 : ¬ ((i : Int) = (n : Int)) := by omega
 have hc2 : ¬ (n = i) := by omega
 have hc3 : ¬ (c = i) := by omega
 have hc4 : ¬ (c = i + 1) := by omega
 have hgr : ¬ ((c : Int) < (n : Int) + 1) := by omega
 have htn : ((i : Int) + 1).toNat = i + 1 := by omega
 have hw1 : IntKind.i64.wrap ((i : Int) + 1) = (i : Int) + 1 := by rw [IntKind.wrap_i64]; omega
 have hb1 : (0 : Int) ≤ (i : Int) + 1 := by omega
 have hb2 : (i : Int) ≤ (n : Int) := by omega
 have hb3 : (i : Int) + 1 ≤ (n : Int) + 1 := by omega
 have hb4 : (i : Int) ≤ (n : Int) + 1 := by omega
 clear hv hxl hB hcs htk hb hl h1 hx
 go_enter Tryz.func247, Tryz.ntmps247
 go_wp2_with (simp only [hov])
 clear hov
 have hxl := HXL.out
 have hcs := HCS.out
 have hnl := HNL.out
 have hmin : Nat.min (n + 1 - i) (n - i) = n - i := Nat.min_eq_right (by omega)
 have hsrc : ((cur.drop (i)).take ((n + 1 - i) * 1)).take (Nat.min (n + 1 - i) (n - i) * 1) = xs.drop (i) := by
  rw [hmin, List.take_take, Nat.min_eq_left (by omega), ← HTK.out, List.drop_take]
  congr 1
  omega
 have HSRC := Lib.hid hsrc
 have HR2 : Hid (Rd w.drew (fun k => k = g) 1 (.slice (some ⟨g, i, none⟩) (n + 1 - i) (c - i)) (n + 1 - i) ((cur.drop (i)).take ((n + 1 - i) * 1))) := Lib.hid ⟨_, _, rfl, by omega, by rw [List.length_take, List.length_drop, hcs]; omega, fun _ => ⟨_, rfl, rfl, fun j u hu => by
  rw [List.getElem?_take] at hu
  split at hu
  ·rw [List.getElem?_drop] at hu
   rw [Addr.add_lit, HBG.out.drew.cell]
   simpa using hu
  ·cases hu⟩⟩
 have HX2 : Hid (∀ u ∈ ((cur.drop (i)).take ((n + 1 - i) * 1)).take (Nat.min (n + 1 - i) (n - i) * 1), u.oneCell' = true) := Lib.hid fun u hu => by rw [hsrc] at hu; exact HX.out u (List.mem_of_mem_drop hu)
 have HFT : Hid (i + 1 + (n - i) * 1 ≤ cur.length) := Lib.hid (by rw [hcs]; omega)
 have HBD := Lib.hid HBG.out.drew
 clear hxl hcs hnl hmin hsrc
 go_region_law
  (refine step_copy_sz (by rfl) _ _ _ _ (by rfl) (by kernel_rfl) Ty.nat (g := g) (off := i + 1) (dLen := n - i) (dCap := c - (i + 1)) (sv := .slice (some ⟨g, i, none⟩) (n + 1 - i) (c - i)) (by simp [Act.eval, Act.put]) (by simp [Act.eval, Act.put]) HBD.out HFT.out HR2.out HX2.out ?_; intro w6 hcp6; have HC6 := Lib.hid hcp6; clear hcp6)
 all_goals
  have hxl := HXL.out
  have hcs := HCS.out
  have hnl := HNL.out
  have ho6 := HC6.out.only
  have hb6 := HC6.out.blk
  rw [HSRC.out] at hb6
  have hl6 : (splice cur (i + 1) (xs.drop (i))).length = c * 1 := by rw [length_splice _ _ _ (by rw [List.length_drop]; omega), hcs]
  have HB6 := Lib.hid hb6
  have HO6 : Hid (Only (fun k => k = g) w w6) := Lib.hid ((Only.refl _ w).drew.trans ho6)
  have HL6 := Lib.hid hl6
  have HR : Hid (Rd w6 (fun k => k = vb) 1 (.slice (some ⟨vb, 0, none⟩) 1 1) 1 news) := Lib.hid ⟨_, _, rfl, Nat.le_refl _, by omega, fun _ => ⟨_, rfl, rfl, fun j u hu => by rw [Addr.add_lit, Nat.zero_add, (HB.out.only HO6.out hne).cell]; simpa using hu⟩⟩
  clear hxl hcs hnl ho6 hb6 hl6 HC6
  go_wp2_with (refine wpList_copy_sz rfl _ _ _ _ rfl (by kernel_rfl) Ty.nat (g := g) (off := i) (dLen := n + 1 - i) rfl rfl HB6.out (by rw [HL6.out]; omega) HR.out (fun u hu => H1.out u (List.mem_of_mem_take hu)) ?_; intro w7 hcp7; have HC7 := Lib.hid hcp7; clear hcp7)
  go_ret
  have hxl := HXL.out
  have hcs := HCS.out
  have hnl := HNL.out
  have hl6 := HL6.out
  have hB7 := HC7.out.blk
  have hmn : Nat.min 1 (n + 1 - i) = 1 := Nat.min_eq_left (by omega)
  rw [hmn, List.take_of_length_le (by omega)] at hB7
  have hrow := shift_row (cur := cur) (xs := xs) (news := news) (a := i) (k := (n + 1) * 1) (by omega) (by omega) (by rw [hxl]; exact HTK.out) (by omega)
  rw [hnl, show i + 1 = i + 1 by omega] at hrow
  refine ⟨_, rfl, own_mk hB7 (by rw [length_splice _ _ _ (by omega), hl6]) hroom hcm hrow (.inl rfl), ?_⟩
  exact (HO6.out.trans HC7.out.only).mono fun k _ hk => by rw [hk]; rfl
theorem ins_nat (hv : Own w F 3 1 v n xs) (hn : n ≤ 1000000) (hi : i ≤ n) (hb : Blk w vb 3 news.toArray) (hne : v.ownBlock ≠ some vb) (hl : news.length = 1) (h1 : ∀ u ∈ news, u.oneCell' = true) (hx : ∀ u ∈ xs, u.oneCell' = true) :
  Calls Tryz.prog 247 #[v, .int .i64 i, .slice (some ⟨vb, 0, none⟩) 1 1] w (SlOut w 3 1 v (n + 1) (xs.take (i) ++ news ++ xs.drop (i))) := by
 have hxl := hv.len
 by_cases hin : i = n
 ·subst hin
  rw [List.take_of_length_le (by omega), List.drop_of_length_le (by omega), List.append_nil]
  exact ins_end_nat hv hn hb hl h1
 ·obtain ⟨g, c, cs, rfl, hnc, _⟩ := hv.open_ (by omega)
  have hg : vb ≠ g := fun e => hne (by rw [e]; rfl)
  by_cases hc : c = n
  ·subst hc
   exact ins_grow_nat hv hn (by omega) hb hl h1 hx
  ·exact ins_shift_nat hv hn (by omega) (by omega) hb hg hl h1 hx
end
end Go.Proofs.YtpjfheadolphgaaGreat
namespace Go.Proofs.YtpjfheadolphgaaGreat
open Go.RowKit Go.Proofs
set_option maxRecDepth 20000
section
variable {w w' : World} {F G : Nat → Prop} {v : Value} {n i k vb : Nat} {xs news : List Value}
theorem Ty.pairZ (w : World) : (zeroValue 83).run Tryz.prog w = .ok (.agg #[.string ⟨#[]⟩, .string ⟨#[]⟩]) w := by kernel_rfl
theorem Ty.strZ (w : World) : (zeroValue 9).run Tryz.prog w = .ok (.string ⟨#[]⟩) w := by kernel_rfl
theorem Ty.natZ (w : World) : (zeroValue 3).run Tryz.prog w = .ok (.int .i64 0) w := by kernel_rfl
theorem Ty.pairC : ∀ u ∈ (Value.agg #[.string ⟨#[]⟩, .string ⟨#[]⟩]).cells, u.oneCell' = true := by simp [Value.cells, Value.oneCell']
theorem Ty.strC : ∀ u ∈ (Value.string ⟨#[]⟩).cells, u.oneCell' = true := by simp [Value.cells, Value.oneCell']
theorem Ty.natC : ∀ u ∈ (Value.int .i64 0).cells, u.oneCell' = true := by simp [Value.cells, Value.oneCell']
theorem del_row {cur xs z : List Value} {a b k : Nat} (hab : a ≤ b) (hb : b ≤ xs.length) (ht : cur.take xs.length = xs) (hk : k = a + (xs.length - b)) :
  (splice (splice cur a (xs.drop b)) k z).take k = xs.take a ++ xs.drop b := by
 have hl : xs.length ≤ cur.length := by rw [← ht, List.length_take]; omega
 have hta : cur.take a = xs.take a := by rw [← congrArg (List.take a) ht, List.take_take, Nat.min_eq_left (by omega)]
 have h1 : (splice cur a (xs.drop b)).take k = xs.take a ++ xs.drop b := by
  unfold splice
  rw [hta, ← List.append_assoc]
  exact List.take_left' (by rw [List.length_append, List.length_take, List.length_drop]; omega)
 have h2 : k ≤ (splice cur a (xs.drop b)).length := by rw [length_splice _ _ _ (by rw [List.length_drop]; omega)]; omega
 rw [splice, List.take_append_of_le_length (by rw [List.length_take]; omega), List.take_take, Nat.min_self, h1]
set_option maxHeartbeats 1000000 in
theorem del_mid_pair {g c : Nat} (hv : Own w F 83 2 (.slice (some ⟨g, 0, none⟩) (k + 1) c) (k + 1) xs) (hn : k ≤ 1000000) (hi : i ≤ k) (hkc : k + 1 ≤ c) (hc4 : ¬ (c = i + 1)) (hx : ∀ u ∈ xs, u.oneCell' = true) :
  Calls Tryz.prog 230 #[.slice (some ⟨g, 0, none⟩) (k + 1) c, .int .i64 i, .int .i64 ((i : Int) + 1)] w (SlOut w 83 2 (.slice (some ⟨g, 0, none⟩) (k + 1) c) k (xs.take (i * 2) ++ xs.drop ((i + 1) * 2))) := by
 have hxl := hv.len
 obtain ⟨cur, hB, hcs, htk, hcm⟩ := hv.row
 have hgw : g < w.heap.size := hB.lt
 have HBG := Lib.hid hB.drew
 have HXL := Lib.hid hxl
 have HX2 : Hid (∀ u ∈ xs.drop ((i + 1) * 2), u.oneCell' = true) := Lib.hid fun u hu => hx u (List.mem_of_mem_drop hu)
 have HTK := Lib.hid htk
 have HCS := Lib.hid hcs
 have HR2 : Hid (Rd w.drew (fun k => k = g) 2 (.slice (some ⟨g, (i + 1) * 2, none⟩) (k - i) (c - (i + 1))) (k - i) (xs.drop ((i + 1) * 2))) := Lib.hid ⟨_, _, rfl, by omega, by rw [List.length_drop, hxl]; omega, fun _ => ⟨_, rfl, rfl, fun j u hu => by
  rw [List.getElem?_drop, ← htk, List.getElem?_take] at hu
  split at hu
  ·rw [Addr.add_lit, hB.drew.cell]
   simpa using hu
  ·cases hu⟩⟩
 have HE : Hid (i + (k - i) = k) := Lib.hid (by omega)
 have hc1 : ¬ ((i : Int) = (i : Int) + 1) := by omega
 have hc3 : ¬ (c = i) := by omega
 have hck : ¬ (c = k) := by omega
 have hic : i ≤ c := by omega
 have htn : ((i : Int) + 1).toNat = i + 1 := by omega
 have hw1 : IntKind.i64.wrap ((i : Int) + 1) = (i : Int) + 1 := by rw [IntKind.wrap_i64]; omega
 have hb1 : (0 : Int) ≤ (i : Int) + 1 := by omega
 have hb2 : (i : Int) ≤ (k : Int) := by omega
 have hb3 : (i : Int) + 1 ≤ (k : Int) + 1 := by omega
 have hb4 : (i : Int) ≤ (k : Int) + 1 := by omega
 have hb5 : (k : Int) + 1 ≤ (c : Int) := by omega
 clear hv hxl hB hcs htk hx
 go_enter Tryz.func230, Tryz.ntmps230
 go_wp2_with fail
 go_region_law
  (refine step_app_room (by rfl) _ _ _ (by rfl) (by kernel_rfl) Ty.pair (g := g) (n := i) (cap := c) (m := k - i) (sv := .slice (some ⟨g, (i + 1) * 2, none⟩) (k - i) (c - (i + 1))) (by simp [Act.eval, Act.put]) (by simp [Act.eval, Act.put]) HBG.out HCS.out HR2.out (by omega) HX2.out ?_; rw [HE.out]; intro w6 hcp6; have HC6 := Lib.hid hcp6; clear hcp6)
 all_goals
  have hxl := HXL.out
  have hcs := HCS.out
  have HB6 := Lib.hid HC6.out.blk
  have HO6 : Hid (Only (fun k => k = g) w w6) := Lib.hid ((Only.refl _ w).drew.trans HC6.out.only)
  have HL6 : Hid ((splice cur (i * 2) (xs.drop ((i + 1) * 2))).length = c * 2) := Lib.hid (by rw [length_splice _ _ _ (by rw [List.length_drop]; omega), hcs])
  clear hxl hcs HC6
  go_wp2_with (refine wpList_clear_sz rfl _ _ rfl (by kernel_rfl) Ty.pair Ty.pairZ Ty.pairC (g := g) (off := k * 2) (k := 1) rfl HB6.out (by rw [HL6.out]; omega) (by decide) ?_; intro w7 hcp7; have HC7 := Lib.hid hcp7; clear hcp7)
  go_ret
  have hxl := HXL.out
  have hcs := HCS.out
  have hl6 := HL6.out
  have hB7 := HC7.out.blk
  have hrow := del_row (cur := cur) (xs := xs) (z := zerosL (.agg #[.string ⟨#[]⟩, .string ⟨#[]⟩]) 1) (a := i * 2) (b := (i + 1) * 2) (k := k * 2) (by omega) (by omega) (by rw [hxl]; exact HTK.out) (by omega)
  refine ⟨_, rfl, own_mk hB7 (by rw [length_splice _ _ _ (by rw [zerosL_len Ty.pair.2.1]; omega), hl6]) (by omega) hcm (by simpa using hrow) (.inl rfl), ?_⟩
  exact (HO6.out.trans HC7.out.only).mono fun k _ hk => by rw [hk]; rfl
set_option maxHeartbeats 1000000 in
theorem del_last_pair {g : Nat} (hv : Own w F 83 2 (.slice (some ⟨g, 0, none⟩) (k + 1) (k + 1)) (k + 1) xs) (hn : k ≤ 1000000) :
  Calls Tryz.prog 230 #[.slice (some ⟨g, 0, none⟩) (k + 1) (k + 1), .int .i64 k, .int .i64 ((k : Int) + 1)] w (SlOut w 83 2 (.slice (some ⟨g, 0, none⟩) (k + 1) (k + 1)) k (xs.take (k * 2))) := by
 have hxl := hv.len
 obtain ⟨cur, hB, hcs, htk, hcm⟩ := hv.row
 have hgw : g < w.heap.size := hB.lt
 have HBG := Lib.hid hB.drew
 have HXL := Lib.hid hxl
 have HTK := Lib.hid htk
 have HCS := Lib.hid hcs
 have HR2 : Hid (Rd w.drew (fun k => k = g) 2 (.slice (some ⟨g, 0, none⟩) 0 0) 0 []) := Lib.hid ⟨_, _, rfl, by omega, by simp, fun h => by omega⟩
 have hc1 : ¬ ((k : Int) = (k : Int) + 1) := by omega
 have hck : ¬ (k + 1 = k) := by omega
 have hic : k ≤ k + 1 := by omega
 have htn : ((k : Int) + 1).toNat = k + 1 := by omega
 have hw1 : IntKind.i64.wrap ((k : Int) + 1) = (k : Int) + 1 := by rw [IntKind.wrap_i64]; omega
 have hb1 : (0 : Int) ≤ (k : Int) + 1 := by omega
 have hb4 : (k : Int) ≤ (k : Int) + 1 := by omega
 clear hv hxl hB hcs htk
 go_enter Tryz.func230, Tryz.ntmps230
 go_wp2_with fail
 go_region_law
  (refine step_app_room (by rfl) _ _ _ (by rfl) (by kernel_rfl) Ty.pair (g := g) (n := k) (cap := k + 1) (m := 0) (sv := .slice (some ⟨g, 0, none⟩) 0 0) (by simp [Act.eval, Act.put]) (by simp [Act.eval, Act.put]) HBG.out HCS.out HR2.out (by omega) (fun u hu => by cases hu) ?_; rw [Nat.add_zero]; intro w6 hcp6; have HC6 := Lib.hid hcp6; clear hcp6)
 all_goals
  have hxl := HXL.out
  have hcs := HCS.out
  have HB6 : Hid (Blk w6 g _ cur.toArray) := Lib.hid (by have := HC6.out.blk; simpa [splice] using this)
  have HO6 : Hid (Only (fun k => k = g) w w6) := Lib.hid ((Only.refl _ w).drew.trans HC6.out.only)
  clear hxl hcs HC6
  go_wp2_with (refine wpList_clear_sz rfl _ _ rfl (by kernel_rfl) Ty.pair Ty.pairZ Ty.pairC (g := g) (off := k * 2) (k := 1) rfl HB6.out (by rw [HCS.out]; omega) (by decide) ?_; intro w7 hcp7; have HC7 := Lib.hid hcp7; clear hcp7)
  go_ret
  have hxl := HXL.out
  have hcs := HCS.out
  have hB7 := HC7.out.blk
  have hrow : (splice cur (k * 2) (zerosL (.agg #[.string ⟨#[]⟩, .string ⟨#[]⟩]) 1)).take (k * 2) = xs.take (k * 2) := by
   rw [splice, List.take_append_of_le_length (by rw [List.length_take]; omega), List.take_take, Nat.min_eq_left (by omega), ← HTK.out, List.take_take, Nat.min_eq_left (by omega)]
  refine ⟨_, rfl, own_mk hB7 (by rw [length_splice _ _ _ (by rw [zerosL_len Ty.pair.2.1]; omega), hcs]) (by omega) hcm (by simpa using hrow) (.inl rfl), ?_⟩
  exact (HO6.out.trans HC7.out.only).mono fun k _ hk => by rw [hk]; rfl
theorem del_pair (hv : Own w F 83 2 v (k + 1) xs) (hn : k ≤ 1000000) (hi : i ≤ k) (hx : ∀ u ∈ xs, u.oneCell' = true) :
  Calls Tryz.prog 230 #[v, .int .i64 i, .int .i64 ((i : Int) + 1)] w (SlOut w 83 2 v k (xs.take (i * 2) ++ xs.drop ((i + 1) * 2))) := by
 have hxl := hv.len
 obtain ⟨g, c, cs, rfl, hnc, _⟩ := hv.open_ (by omega)
 by_cases hc : c = i + 1
 ·obtain rfl : i = k := by omega
  subst hc
  rw [List.drop_of_length_le (by omega), List.append_nil]
  exact del_last_pair hv hn
 ·exact del_mid_pair hv hn hi hnc hc hx
set_option maxHeartbeats 1000000 in
theorem del_mid_str {g c : Nat} (hv : Own w F 9 1 (.slice (some ⟨g, 0, none⟩) (k + 1) c) (k + 1) xs) (hn : k ≤ 1000000) (hi : i ≤ k) (hkc : k + 1 ≤ c) (hc4 : ¬ (c = i + 1)) (hx : ∀ u ∈ xs, u.oneCell' = true) :
  Calls Tryz.prog 121 #[.slice (some ⟨g, 0, none⟩) (k + 1) c, .int .i64 i, .int .i64 ((i : Int) + 1)] w (SlOut w 9 1 (.slice (some ⟨g, 0, none⟩) (k + 1) c) k (xs.take (i) ++ xs.drop (i + 1))) := by
 have hxl := hv.len
 obtain ⟨cur, hB, hcs, htk, hcm⟩ := hv.row
 have hgw : g < w.heap.size := hB.lt
 have HBG := Lib.hid hB.drew
 have HXL := Lib.hid hxl
 have HX2 : Hid (∀ u ∈ xs.drop (i + 1), u.oneCell' = true) := Lib.hid fun u hu => hx u (List.mem_of_mem_drop hu)
 have HTK := Lib.hid htk
 have HCS := Lib.hid hcs
 have HR2 : Hid (Rd w.drew (fun k => k = g) 1 (.slice (some ⟨g, i + 1, none⟩) (k - i) (c - (i + 1))) (k - i) (xs.drop (i + 1))) := Lib.hid ⟨_, _, rfl, by omega, by rw [List.length_drop, hxl]; omega, fun _ => ⟨_, rfl, rfl, fun j u hu => by
  rw [List.getElem?_drop, ← htk, List.getElem?_take] at hu
  split at hu
  ·rw [Addr.add_lit, hB.drew.cell]
   simpa using hu
  ·cases hu⟩⟩
 have HE : Hid (i + (k - i) = k) := Lib.hid (by omega)
 have hc1 : ¬ ((i : Int) = (i : Int) + 1) := by omega
 have hc3 : ¬ (c = i) := by omega
 have hck : ¬ (c = k) := by omega
 have hic : i ≤ c := by omega
 have htn : ((i : Int) + 1).toNat = i + 1 := by omega
 have hw1 : IntKind.i64.wrap ((i : Int) + 1) = (i : Int) + 1 := by rw [IntKind.wrap_i64]; omega
 have hb1 : (0 : Int) ≤ (i : Int) + 1 := by omega
 have hb2 : (i : Int) ≤ (k : Int) := by omega
 have hb3 : (i : Int) + 1 ≤ (k : Int) + 1 := by omega
 have hb4 : (i : Int) ≤ (k : Int) + 1 := by omega
 have hb5 : (k : Int) + 1 ≤ (c : Int) := by omega
 clear hv hxl hB hcs htk hx
 go_enter Tryz.func121, Tryz.ntmps121
 go_wp2_with fail
 go_region_law
  (refine step_app_room (by rfl) _ _ _ (by rfl) (by kernel_rfl) Ty.str (g := g) (n := i) (cap := c) (m := k - i) (sv := .slice (some ⟨g, i + 1, none⟩) (k - i) (c - (i + 1))) (by simp [Act.eval, Act.put]) (by simp [Act.eval, Act.put]) HBG.out HCS.out HR2.out (by omega) HX2.out ?_; rw [HE.out]; intro w6 hcp6; have HC6 := Lib.hid hcp6; clear hcp6)
 all_goals
  have hxl := HXL.out
  have hcs := HCS.out
  have HB6 := Lib.hid HC6.out.blk
  have HO6 : Hid (Only (fun k => k = g) w w6) := Lib.hid ((Only.refl _ w).drew.trans HC6.out.only)
  have HL6 : Hid ((splice cur (i * 1) (xs.drop (i + 1))).length = c * 1) := Lib.hid (by rw [length_splice _ _ _ (by rw [List.length_drop]; omega), hcs])
  clear hxl hcs HC6
  go_wp2_with (refine wpList_clear_sz rfl _ _ rfl (by kernel_rfl) Ty.str Ty.strZ Ty.strC (g := g) (off := k) (k := 1) rfl HB6.out (by rw [HL6.out]; omega) (by decide) ?_; intro w7 hcp7; have HC7 := Lib.hid hcp7; clear hcp7)
  go_ret
  have hxl := HXL.out
  have hcs := HCS.out
  have hl6 := HL6.out
  have hB7 := HC7.out.blk
  have hrow := del_row (cur := cur) (xs := xs) (z := zerosL (.string ⟨#[]⟩) 1) (a := i * 1) (b := i + 1) (k := k * 1) (by omega) (by omega) (by rw [hxl]; exact HTK.out) (by omega)
  refine ⟨_, rfl, own_mk hB7 (by rw [length_splice _ _ _ (by rw [zerosL_len Ty.str.2.1]; omega), hl6]) (by omega) hcm (by simpa using hrow) (.inl rfl), ?_⟩
  exact (HO6.out.trans HC7.out.only).mono fun k _ hk => by rw [hk]; rfl
set_option maxHeartbeats 1000000 in
theorem del_last_str {g : Nat} (hv : Own w F 9 1 (.slice (some ⟨g, 0, none⟩) (k + 1) (k + 1)) (k + 1) xs) (hn : k ≤ 1000000) :
  Calls Tryz.prog 121 #[.slice (some ⟨g, 0, none⟩) (k + 1) (k + 1), .int .i64 k, .int .i64 ((k : Int) + 1)] w (SlOut w 9 1 (.slice (some ⟨g, 0, none⟩) (k + 1) (k + 1)) k (xs.take (k))) := by
 have hxl := hv.len
 obtain ⟨cur, hB, hcs, htk, hcm⟩ := hv.row
 have hgw : g < w.heap.size := hB.lt
 have HBG := Lib.hid hB.drew
 have HXL := Lib.hid hxl
 have HTK := Lib.hid htk
 have HCS := Lib.hid hcs
 have HR2 : Hid (Rd w.drew (fun k => k = g) 1 (.slice (some ⟨g, 0, none⟩) 0 0) 0 []) := Lib.hid ⟨_, _, rfl, by omega, by simp, fun h => by omega⟩
 have hc1 : ¬ ((k : Int) = (k : Int) + 1) := by omega
 have hck : ¬ (k + 1 = k) := by omega
 have hic : k ≤ k + 1 := by omega
 have htn : ((k : Int) + 1).toNat = k + 1 := by omega
 have hw1 : IntKind.i64.wrap ((k : Int) + 1) = (k : Int) + 1 := by rw [IntKind.wrap_i64]; omega
 have hb1 : (0 : Int) ≤ (k : Int) + 1 := by omega
 have hb4 : (k : Int) ≤ (k : Int) + 1 := by omega
 clear hv hxl hB hcs htk
 go_enter Tryz.func121, Tryz.ntmps121
 go_wp2_with fail
 go_region_law
  (refine step_app_room (by rfl) _ _ _ (by rfl) (by kernel_rfl) Ty.str (g := g) (n := k) (cap := k + 1) (m := 0) (sv := .slice (some ⟨g, 0, none⟩) 0 0) (by simp [Act.eval, Act.put]) (by simp [Act.eval, Act.put]) HBG.out HCS.out HR2.out (by omega) (fun u hu => by cases hu) ?_; rw [Nat.add_zero]; intro w6 hcp6; have HC6 := Lib.hid hcp6; clear hcp6)
 all_goals
  have hxl := HXL.out
  have hcs := HCS.out
  have HB6 : Hid (Blk w6 g _ cur.toArray) := Lib.hid (by have := HC6.out.blk; simpa [splice] using this)
  have HO6 : Hid (Only (fun k => k = g) w w6) := Lib.hid ((Only.refl _ w).drew.trans HC6.out.only)
  clear hxl hcs HC6
  go_wp2_with (refine wpList_clear_sz rfl _ _ rfl (by kernel_rfl) Ty.str Ty.strZ Ty.strC (g := g) (off := k) (k := 1) rfl HB6.out (by rw [HCS.out]; omega) (by decide) ?_; intro w7 hcp7; have HC7 := Lib.hid hcp7; clear hcp7)
  go_ret
  have hxl := HXL.out
  have hcs := HCS.out
  have hB7 := HC7.out.blk
  have hrow : (splice cur (k) (zerosL (.string ⟨#[]⟩) 1)).take (k * 1) = xs.take (k * 1) := by
   rw [splice, List.take_append_of_le_length (by rw [List.length_take]; omega), List.take_take, Nat.min_eq_left (by omega), ← HTK.out, List.take_take, Nat.min_eq_left (by omega)]
  refine ⟨_, rfl, own_mk hB7 (by rw [length_splice _ _ _ (by rw [zerosL_len Ty.str.2.1]; omega), hcs]) (by omega) hcm (by simpa using hrow) (.inl rfl), ?_⟩
  exact (HO6.out.trans HC7.out.only).mono fun k _ hk => by rw [hk]; rfl
theorem del_str (hv : Own w F 9 1 v (k + 1) xs) (hn : k ≤ 1000000) (hi : i ≤ k) (hx : ∀ u ∈ xs, u.oneCell' = true) :
  Calls Tryz.prog 121 #[v, .int .i64 i, .int .i64 ((i : Int) + 1)] w (SlOut w 9 1 v k (xs.take (i) ++ xs.drop (i + 1))) := by
 have hxl := hv.len
 obtain ⟨g, c, cs, rfl, hnc, _⟩ := hv.open_ (by omega)
 by_cases hc : c = i + 1
 ·obtain rfl : i = k := by omega
  subst hc
  rw [List.drop_of_length_le (by omega), List.append_nil]
  exact del_last_str hv hn
 ·exact del_mid_str hv hn hi hnc hc hx
set_option maxHeartbeats 1000000 in
theorem del_mid_nat {g c : Nat} (hv : Own w F 3 1 (.slice (some ⟨g, 0, none⟩) (k + 1) c) (k + 1) xs) (hn : k ≤ 1000000) (hi : i ≤ k) (hkc : k + 1 ≤ c) (hc4 : ¬ (c = i + 1)) (hx : ∀ u ∈ xs, u.oneCell' = true) :
  Calls Tryz.prog 290 #[.slice (some ⟨g, 0, none⟩) (k + 1) c, .int .i64 i, .int .i64 ((i : Int) + 1)] w (SlOut w 3 1 (.slice (some ⟨g, 0, none⟩) (k + 1) c) k (xs.take (i) ++ xs.drop (i + 1))) := by
 have hxl := hv.len
 obtain ⟨cur, hB, hcs, htk, hcm⟩ := hv.row
 have hgw : g < w.heap.size := hB.lt
 have HBG := Lib.hid hB.drew
 have HXL := Lib.hid hxl
 have HX2 : Hid (∀ u ∈ xs.drop (i + 1), u.oneCell' = true) := Lib.hid fun u hu => hx u (List.mem_of_mem_drop hu)
 have HTK := Lib.hid htk
 have HCS := Lib.hid hcs
 have HR2 : Hid (Rd w.drew (fun k => k = g) 1 (.slice (some ⟨g, i + 1, none⟩) (k - i) (c - (i + 1))) (k - i) (xs.drop (i + 1))) := Lib.hid ⟨_, _, rfl, by omega, by rw [List.length_drop, hxl]; omega, fun _ => ⟨_, rfl, rfl, fun j u hu => by
  rw [List.getElem?_drop, ← htk, List.getElem?_take] at hu
  split at hu
  ·rw [Addr.add_lit, hB.drew.cell]
   simpa using hu
  ·cases hu⟩⟩
 have HE : Hid (i + (k - i) = k) := Lib.hid (by omega)
 have hc1 : ¬ ((i : Int) = (i : Int) + 1) := by omega
 have hc3 : ¬ (c = i) := by omega
 have hck : ¬ (c = k) := by omega
 have hic : i ≤ c := by omega
 have htn : ((i : Int) + 1).toNat = i + 1 := by omega
 have hw1 : IntKind.i64.wrap ((i : Int) + 1) = (i : Int) + 1 := by rw [IntKind.wrap_i64]; omega
 have hb1 : (0 : Int) ≤ (i : Int) + 1 := by omega
 have hb2 : (i : Int) ≤ (k : Int) := by omega
 have hb3 : (i : Int) + 1 ≤ (k : Int) + 1 := by omega
 have hb4 : (i : Int) ≤ (k : Int) + 1 := by omega
 have hb5 : (k : Int) + 1 ≤ (c : Int) := by omega
 clear hv hxl hB hcs htk hx
 go_enter Tryz.func290, Tryz.ntmps290
 go_wp2_with fail
 go_region_law
  (refine step_app_room (by rfl) _ _ _ (by rfl) (by kernel_rfl) Ty.nat (g := g) (n := i) (cap := c) (m := k - i) (sv := .slice (some ⟨g, i + 1, none⟩) (k - i) (c - (i + 1))) (by simp [Act.eval, Act.put]) (by simp [Act.eval, Act.put]) HBG.out HCS.out HR2.out (by omega) HX2.out ?_; rw [HE.out]; intro w6 hcp6; have HC6 := Lib.hid hcp6; clear hcp6)
 all_goals
  have hxl := HXL.out
  have hcs := HCS.out
  have HB6 := Lib.hid HC6.out.blk
  have HO6 : Hid (Only (fun k => k = g) w w6) := Lib.hid ((Only.refl _ w).drew.trans HC6.out.only)
  have HL6 : Hid ((splice cur (i * 1) (xs.drop (i + 1))).length = c * 1) := Lib.hid (by rw [length_splice _ _ _ (by rw [List.length_drop]; omega), hcs])
  clear hxl hcs HC6
  go_wp2_with (refine wpList_clear_sz rfl _ _ rfl (by kernel_rfl) Ty.nat Ty.natZ Ty.natC (g := g) (off := k) (k := 1) rfl HB6.out (by rw [HL6.out]; omega) (by decide) ?_; intro w7 hcp7; have HC7 := Lib.hid hcp7; clear hcp7)
  go_ret
  have hxl := HXL.out
  have hcs := HCS.out
  have hl6 := HL6.out
  have hB7 := HC7.out.blk
  have hrow := del_row (cur := cur) (xs := xs) (z := zerosL (.int .i64 0) 1) (a := i * 1) (b := i + 1) (k := k * 1) (by omega) (by omega) (by rw [hxl]; exact HTK.out) (by omega)
  refine ⟨_, rfl, own_mk hB7 (by rw [length_splice _ _ _ (by rw [zerosL_len Ty.nat.2.1]; omega), hl6]) (by omega) hcm (by simpa using hrow) (.inl rfl), ?_⟩
  exact (HO6.out.trans HC7.out.only).mono fun k _ hk => by rw [hk]; rfl
set_option maxHeartbeats 1000000 in
theorem del_last_nat {g : Nat} (hv : Own w F 3 1 (.slice (some ⟨g, 0, none⟩) (k + 1) (k + 1)) (k + 1) xs) (hn : k ≤ 1000000) :
  Calls Tryz.prog 290 #[.slice (some ⟨g, 0, none⟩) (k + 1) (k + 1), .int .i64 k, .int .i64 ((k : Int) + 1)] w (SlOut w 3 1 (.slice (some ⟨g, 0, none⟩) (k + 1) (k + 1)) k (xs.take (k))) := by
 have hxl := hv.len
 obtain ⟨cur, hB, hcs, htk, hcm⟩ := hv.row
 have hgw : g < w.heap.size := hB.lt
 have HBG := Lib.hid hB.drew
 have HXL := Lib.hid hxl
 have HTK := Lib.hid htk
 have HCS := Lib.hid hcs
 have HR2 : Hid (Rd w.drew (fun k => k = g) 1 (.slice (some ⟨g, 0, none⟩) 0 0) 0 []) := Lib.hid ⟨_, _, rfl, by omega, by simp, fun h => by omega⟩
 have hc1 : ¬ ((k : Int) = (k : Int) + 1) := by omega
 have hck : ¬ (k + 1 = k) := by omega
 have hic : k ≤ k + 1 := by omega
 have htn : ((k : Int) + 1).toNat = k + 1 := by omega
 have hw1 : IntKind.i64.wrap ((k : Int) + 1) = (k : Int) + 1 := by rw [IntKind.wrap_i64]; omega
 have hb1 : (0 : Int) ≤ (k : Int) + 1 := by omega
 have hb4 : (k : Int) ≤ (k : Int) + 1 := by omega
 clear hv hxl hB hcs htk
 go_enter Tryz.func290, Tryz.ntmps290
 go_wp2_with fail
 go_region_law
  (refine step_app_room (by rfl) _ _ _ (by rfl) (by kernel_rfl) Ty.nat (g := g) (n := k) (cap := k + 1) (m := 0) (sv := .slice (some ⟨g, 0, none⟩) 0 0) (by simp [Act.eval, Act.put]) (by simp [Act.eval, Act.put]) HBG.out HCS.out HR2.out (by omega) (fun u hu => by cases hu) ?_; rw [Nat.add_zero]; intro w6 hcp6; have HC6 := Lib.hid hcp6; clear hcp6)
 all_goals
  have hxl := HXL.out
  have hcs := HCS.out
  have HB6 : Hid (Blk w6 g _ cur.toArray) := Lib.hid (by have := HC6.out.blk; simpa [splice] using this)
  have HO6 : Hid (Only (fun k => k = g) w w6) := Lib.hid ((Only.refl _ w).drew.trans HC6.out.only)
  clear hxl hcs HC6
  go_wp2_with (refine wpList_clear_sz rfl _ _ rfl (by kernel_rfl) Ty.nat Ty.natZ Ty.natC (g := g) (off := k) (k := 1) rfl HB6.out (by rw [HCS.out]; omega) (by decide) ?_; intro w7 hcp7; have HC7 := Lib.hid hcp7; clear hcp7)
  go_ret
  have hxl := HXL.out
  have hcs := HCS.out
  have hB7 := HC7.out.blk
  have hrow : (splice cur (k) (zerosL (.int .i64 0) 1)).take (k * 1) = xs.take (k * 1) := by
   rw [splice, List.take_append_of_le_length (by rw [List.length_take]; omega), List.take_take, Nat.min_eq_left (by omega), ← HTK.out, List.take_take, Nat.min_eq_left (by omega)]
  refine ⟨_, rfl, own_mk hB7 (by rw [length_splice _ _ _ (by rw [zerosL_len Ty.nat.2.1]; omega), hcs]) (by omega) hcm (by simpa using hrow) (.inl rfl), ?_⟩
  exact (HO6.out.trans HC7.out.only).mono fun k _ hk => by rw [hk]; rfl
theorem del_nat (hv : Own w F 3 1 v (k + 1) xs) (hn : k ≤ 1000000) (hi : i ≤ k) (hx : ∀ u ∈ xs, u.oneCell' = true) :
  Calls Tryz.prog 290 #[v, .int .i64 i, .int .i64 ((i : Int) + 1)] w (SlOut w 3 1 v k (xs.take (i) ++ xs.drop (i + 1))) := by
 have hxl := hv.len
 obtain ⟨g, c, cs, rfl, hnc, _⟩ := hv.open_ (by omega)
 by_cases hc : c = i + 1
 ·obtain rfl : i = k := by omega
  subst hc
  rw [List.drop_of_length_le (by omega), List.append_nil]
  exact del_last_nat hv hn
 ·exact del_mid_nat hv hn hi hnc hc hx
end
end Go.Proofs.YtpjfheadolphgaaGreat
