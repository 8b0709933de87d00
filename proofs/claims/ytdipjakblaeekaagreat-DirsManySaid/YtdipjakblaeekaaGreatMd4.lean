import Derived.Test.YtdipjakblaeekaaGreatMd3
import Derived.Deep.LoopGhost
import Derived.OwnWalk
set_option linter.unusedVariables false
set_option linter.unusedSimpArgs false
namespace Go.Proofs.YtdipjakblaeekaaGreat
def insAt {α : Type} (l : List α) (i : Nat) (x : α) : List α := l.take i ++ x :: l.drop i
def delAt {α : Type} (l : List α) (i : Nat) : List α := l.take i ++ l.drop (i + 1)
theorem insAt_mid {α : Type} (a b : List α) (x : α) : insAt (a ++ b) a.length x = a ++ x :: b := by simp [insAt]
theorem delAt_mid {α : Type} (a b : List α) (x : α) : delAt (a ++ x :: b) a.length = a ++ b := by
  unfold delAt
  rw [List.take_left' rfl, show a ++ x :: b = (a ++ [x]) ++ b by simp, List.drop_left' (by simp)]
structure Good (D : PD) : Prop where
  m1 : 64 ≤ D.m
  m2 : D.m ≤ 4096
  n : D.n ≤ 65536
theorem Good.same {D D' : PD} (h : Good D) (hm : D'.m = D.m) (hn : D'.n = D.n) : Good D' := ⟨by rw [hm]; exact h.m1, by rw [hm]; exact h.m2, by rw [hn]; exact h.n⟩
theorem Good.kid {D : PD} (h : Good D) {c : Nat} (hc : D.is c = true) : 1 ≤ c ∧ c < 16777216 := by
  have := h.n
  unfold PD.is at hc
  simp at hc
  omega
structure MadeT (D D' : PD) (h : Nat) (lo : Str) (c : Nat) (hi : Option Str) (M : List KV) (P : List Nat) (W k : Nat) (L : List Ent) (part : Str × Nat) : Prop where
  shape : (∃ a, L = [a] ∧ part = ([], 0)) ∨ ∃ a b, L = [a, b] ∧ part = (b.lo, b.c)
  head : ∃ a L', L = a :: L' ∧ a.lo = lo ∧ a.c = c
  chain : ChainW (Sub D' h) hi L
  M : flatM L = M
  T : Turned D D' P (flatP L)
  wt : sumW L + L.length ≤ W
  key : ∀ e ∈ L.tail, KeyOk D.m e.lo
  free : FreeGE D' k
theorem settle_le {c : Nat} {n : NodeD} {D : PD} (h : n.size ≤ D.m) : settleD c n D = (PD.putPage c (n.bytes D.m) D, [], 0) := by unfold settleD; rw [if_pos h]
theorem settle_gt {c : Nat} {n : NodeD} {D : PD} (h : ¬ n.size ≤ D.m) {r : Nat} (ht : D.take = (PD.putPage r (DD.zero D.m) (PD.turn r true D), (r, 0))) :
    settleD c n D = (PD.putPage c ((splitN n D.m).1.bytes D.m) (PD.putPage r ((splitN n D.m).2.2.bytes D.m) (PD.putPage r (DD.zero D.m) (PD.turn r true D))), (splitN n D.m).2.1, r) := by
  unfold settleD; rw [if_neg h, ht]
theorem full_le (n : NodeD) (m : Nat) : full n m ≤ 1 := by unfold full; split <;> omega
section
variable {D : PD} {c k : Nat} {lo : Str} {hi : Option Str}
theorem turned_fresh {P : List Nat} (hh : Held D P) {r : Nat} (hr : D.is r = true) (hu : D.used r = false) (hc : c ∈ P) (l0 l1 l2 : List UInt8) :
    Turned D (PD.putPage c l1 (PD.putPage r l2 (PD.putPage r l0 (PD.turn r true D)))) P (r :: P) := by
  have h1 := turned_take hh hr hu l0
  have h2 := turned_put h1.held (c := r) (by simp) l2
  have h3 := turned_put (h1.trans h2).held (c := c) (by simp [hc]) l1
  exact (h1.trans h2).trans h3
theorem fresh_page {r q : Nat} (h1 : q ≠ c) (h2 : q ≠ r) (l0 l1 l2 : List UInt8) : (PD.putPage c l1 (PD.putPage r l2 (PD.putPage r l0 (PD.turn r true D)))).page q = D.page q := by
  rw [page_put_ne h1, page_put_ne h2, page_put_ne h2]; rfl
theorem settle_leaf (hg : Good D) {ps : List KV} (hh : Held D [c]) (hok : ∀ p ∈ ps, PairOk D.m p) (hs : Srt ps) (hne : ps ≠ []) (hsz : 3 + NodeD.sizeP ps ≤ D.m + NodeD.most D.m + 2)
    (hr : ∀ x ∈ ps, les lo x.1 ∧ bel x.1 hi) (hf : FreeGE D k) (hf1 : D.m < 3 + NodeD.sizeP ps → FreeGE D (k + 1)) :
    ∃ L, MadeT D (settleD c (leafN ps) D).1 0 lo c hi ps [c] (if 3 + NodeD.sizeP ps ≤ D.m then 3 else 4) k L (settleD c (leafN ps) D).2 := by
  have hsize : (leafN ps).size = 3 + NodeD.sizeP ps := by simp [NodeD.size, leafN, NodeD.sizeK]
  by_cases hle : 3 + NodeD.sizeP ps ≤ D.m
  · rw [settle_le (by omega), if_pos hle]
    refine ⟨[⟨lo, c, ps, [c], full (leafN ps) D.m⟩], .inl ⟨_, rfl, rfl⟩, ⟨_, _, rfl, rfl, rfl⟩, ⟨⟨leaf_ok.2 ⟨hle, hok, hs⟩, hne, hr, page_put _ _, rfl, rfl⟩, trivial⟩, by simp [flatM], ?_, ?_, by simp, hf.put _ _⟩
    · exact turned_put hh (by simp) _
    · have := full_le (leafN ps) D.m
      simp [sumW, Ent.wt]; omega
  · obtain ⟨r, ht, hri, hru, hf'⟩ := take_some (hf1 (by omega))
    obtain ⟨a, y, b, rfl, ha, he, fa, fb, sa, sb, _⟩ := split_leaf hg.m1 hok (by omega) hsz
    rw [settle_gt (by omega) ht, if_neg hle, he]
    have hT := turned_fresh hh hri hru (c := c) (by simp) (DD.zero D.m) ((leafN a).bytes D.m) ((leafN (y :: b)).bytes D.m)
    have hrc : c ≠ r := fun e => by have := hh.used c (by simp); rw [e, hru] at this; cases this
    have hsab := List.pairwise_append.1 hs
    refine ⟨[⟨lo, c, a, [c], 0⟩, ⟨y.1, r, y :: b, [r], 0⟩], .inr ⟨_, _, rfl, rfl⟩, ⟨_, _, rfl, rfl, rfl⟩, ⟨⟨leaf_ok.2 ⟨sa, fun p hp => hok p (by simp [hp]), hsab.1⟩, ha, ?_, page_put _ _, rfl, fa.symm⟩, ⟨leaf_ok.2 ⟨sb, fun p hp => hok p (by simp at hp ⊢; exact .inr hp), hsab.2.1⟩, by simp, ?_, ?_, rfl, fb.symm⟩, trivial⟩, by simp [flatM], ?_, by simp [sumW, Ent.wt], ?_, ((hf'.put _ _).put _ _).put _ _⟩
    · intro x hx
      refine ⟨(hr x (by simp [hx])).1, ?_⟩
      exact hsab.2.2 x hx y (by simp)
    · intro x hx
      refine ⟨?_, (hr x (by simp at hx ⊢; exact .inr hx)).2⟩
      rcases List.mem_cons.1 hx with rfl | hx
      · exact les_refl _
      · exact lts_les ((List.pairwise_cons.1 hsab.2.1).1 x hx)
    · rw [page_put_ne hrc.symm, page_put]; rfl
    · exact hT.perm (List.Perm.refl _) (List.Perm.swap _ _ _)
    · intro e he
      simp at he
      subst he
      have := hok y (by simp)
      exact ⟨this.1, this.2.1, by have := this.2.2.2; show y.1.length ≤ _; omega⟩
theorem settle_inner (hg : Good D) {h : Nat} {x : Ent} {es : List Ent} (hlo : x.lo = lo) (hc : ChainW (Sub D h) hi (x :: es)) (hh : Held D (c :: flatP (x :: es))) (hk : ∀ e ∈ es, KeyOk D.m e.lo)
    (hsz : (innerN (x :: es)).size ≤ D.m + NodeD.most D.m + 4) (hf : FreeGE D k) (hf1 : D.m < (innerN (x :: es)).size → FreeGE D (k + 1)) :
    ∃ L, MadeT D (settleD c (innerN (x :: es)) D).1 (h + 1) lo c hi (flatM (x :: es)) (c :: flatP (x :: es)) ((if (innerN (x :: es)).size ≤ D.m then 3 else 4) + sumW (x :: es)) k L (settleD c (innerN (x :: es)) D).2 := by
  have F := hc.facts
  have hcP : ∀ e ∈ x :: es, e.c ∈ flatP (x :: es) := fun e he => by
    obtain ⟨S, hS⟩ : ∃ P, e.P = e.c :: P := by
      obtain ⟨a, b, hab⟩ := List.append_of_mem he
      rw [hab, chain_append] at hc
      exact sub_c hc.2.1
    exact List.mem_flatMap.2 ⟨e, he, by rw [hS]; simp⟩
  have hkid : ∀ e ∈ x :: es, 1 ≤ e.c ∧ e.c < 16777216 := fun e he => hg.kid (hh.is _ (List.mem_cons_of_mem _ (hcP e he)))
  have hn := List.nodup_cons.1 hh.nodup
  have hlos := (List.pairwise_cons.1 F.los).2
  have hneq : ∀ q ∈ flatP (x :: es), q ≠ c := fun q hq e => hn.1 (e ▸ hq)
  by_cases hle : (innerN (x :: es)).size ≤ D.m
  · rw [settle_le hle, if_pos hle]
    refine ⟨[⟨lo, c, flatM (x :: es), c :: flatP (x :: es), full (innerN (x :: es)) D.m + sumF (x :: es)⟩], .inl ⟨_, rfl, rfl⟩, ⟨_, _, rfl, rfl, rfl⟩, ⟨⟨x, es, hlo, inner_ok.2 ⟨hle, hk, hkid, hlos⟩, ?_, page_put _ _, rfl, rfl, rfl⟩, trivial⟩, by simp [flatM], ?_, ?_, by simp, hf.put _ _⟩
    · exact hc.imp fun e he hi hs => sub_frame (D := D) (D' := PD.putPage c ((innerN (x :: es)).bytes D.m) D) rfl (fun q hq => page_put_ne (hneq q (List.mem_flatMap.2 ⟨e, he, hq⟩)) _) hs
    · have := turned_put hh (c := c) (by simp) ((innerN (x :: es)).bytes D.m)
      simpa [flatP] using this
    · have := full_le (innerN (x :: es)) D.m
      rw [sumW_eq (x :: es)]
      simp [sumW, Ent.wt]; omega
  · obtain ⟨r, ht, hri, hru, hf'⟩ := take_some (hf1 (by omega))
    obtain ⟨a, y, b, rfl, he, fa, fb, sa, sb, _⟩ := split_inner hg.m1 hk (by omega) hsz
    rw [settle_gt hle ht, if_neg hle, he]
    have hT := turned_fresh hh hri hru (c := c) (by simp) (DD.zero D.m) ((innerN (x :: a)).bytes D.m) ((innerN (y :: b)).bytes D.m)
    have hrc : c ≠ r := fun e => by have := hh.used c (by simp); rw [e, hru] at this; cases this
    have hneqr : ∀ q ∈ flatP (x :: (a ++ y :: b)), q ≠ r := fun q hq e => by have := hh.used q (List.mem_cons_of_mem _ hq); rw [e, hru] at this; cases this
    obtain ⟨D', hD'⟩ : ∃ D', D' = PD.putPage c ((innerN (x :: a)).bytes D.m) (PD.putPage r ((innerN (y :: b)).bytes D.m) (PD.putPage r (DD.zero D.m) (PD.turn r true D))) := ⟨_, rfl⟩
    have hch : ChainW (Sub D' h) hi (x :: (a ++ y :: b)) := hc.imp fun e he hi hs => sub_frame (by rw [hD']; rfl) (fun q hq => by
      rw [hD']; exact fresh_page (hneq q (List.mem_flatMap.2 ⟨e, he, hq⟩)) (hneqr q (List.mem_flatMap.2 ⟨e, he, hq⟩)) _ _ _) hs
    rw [← List.cons_append, chain_append] at hch
    have hpa := List.pairwise_append.1 (by simpa using hlos : (a.map Ent.lo ++ y.lo :: b.map Ent.lo).Pairwise lts)
    refine ⟨[⟨lo, c, flatM (x :: a), c :: flatP (x :: a), sumF (x :: a)⟩, ⟨y.lo, r, flatM (y :: b), r :: flatP (y :: b), sumF (y :: b)⟩], .inr ⟨_, _, rfl, rfl⟩, ⟨_, _, rfl, rfl, rfl⟩,
      ⟨⟨x, a, hlo, inner_ok.2 ⟨sa, fun e he => hk e (by simp [he]), fun e he => hkid e (by simp at he ⊢; rcases he with he | he <;> simp [he]), hpa.1⟩, ?_, ?_, rfl, rfl, by show _ = full _ D.m + _; rw [fa]; simp⟩,
       ⟨y, b, rfl, inner_ok.2 ⟨sb, fun e he => hk e (by simp [he]), fun e he => hkid e (by simp at he ⊢; rcases he with he | he <;> simp [he]), (List.pairwise_cons.1 hpa.2.1).2⟩, ?_, ?_, rfl, rfl, by show _ = full _ D.m + _; rw [fb]; simp⟩, trivial⟩, ?_, ?_, ?_, ?_, ((hf'.put _ _).put _ _).put _ _⟩
    · rw [← hD']; exact hch.1
    · exact page_put _ _
    · rw [← hD']; exact hch.2
    · show (PD.putPage c _ _).page r = _
      rw [page_put_ne hrc.symm, page_put]; rfl
    · simp [flatM]
    · refine hT.perm (List.Perm.refl _) ?_
      have e1 : flatP [⟨lo, c, flatM (x :: a), c :: flatP (x :: a), sumF (x :: a)⟩, ⟨y.lo, r, flatM (y :: b), r :: flatP (y :: b), sumF (y :: b)⟩] = (c :: flatP (x :: a)) ++ r :: flatP (y :: b) := by simp [flatP]
      have e2 : c :: flatP (x :: (a ++ y :: b)) = (c :: flatP (x :: a)) ++ flatP (y :: b) := by rw [← List.cons_append, flatP_append]; rfl
      rw [e1, e2]
      exact List.perm_middle.symm
    · rw [← List.cons_append, sumW_append, sumW_eq (x :: a), sumW_eq (y :: b)]
      simp [sumW, Ent.wt]; omega
    · intro e he
      simp at he
      subst he
      exact hk y (by simp)
end
def Parts (n : NodeD) : Prop := (n.leaf = true ∧ n.pairs ≠ [] ∧ NodeD.sizeP n.pairs ≤ 100000 ∧ n.keys = [] ∧ n.children = []) ∨ (n.leaf = false ∧ n.keys ≠ [] ∧ n.children.length = n.keys.length + 1 ∧ NodeD.sizeK n.keys ≤ 10000)
def FitsD (D : PD) (n : NodeD) : Prop :=
  (n.Ok D.m ∧ (n.leaf = true → n.pairs ≠ [])) ∨
  (D.m < n.size ∧ n.size ≤ 100000 ∧ Parts n ∧ (∃ r, D.free (D.own + 1) (D.n - (D.own + 1)) = some r) ∧
    (splitN n D.m).1.Ok D.m ∧ ((splitN n D.m).1.leaf = true → (splitN n D.m).1.pairs ≠ []) ∧ (splitN n D.m).2.2.Ok D.m ∧ ((splitN n D.m).2.2.leaf = true → (splitN n D.m).2.2.pairs ≠ []))
theorem free_of {D : PD} {k : Nat} (h : FreeGE D (k + 1)) : ∃ r, D.free (D.own + 1) (D.n - (D.own + 1)) = some r := by
  obtain ⟨r, ht, _⟩ := take_some h
  cases hf : D.free (D.own + 1) (D.n - (D.own + 1)) with
  | some r => exact ⟨r, rfl⟩
  | none =>
    unfold PD.take at ht
    rw [hf] at ht
    injection ht with _ h2
    injection h2 with _ h3
    cases h3
theorem fits_leaf {D : PD} {k : Nat} (hg : Good D) {ps : List KV} (hok : ∀ p ∈ ps, PairOk D.m p) (hs : Srt ps) (hne : ps ≠ []) (hsz : 3 + NodeD.sizeP ps ≤ D.m + NodeD.most D.m + 2)
    (hf1 : D.m < 3 + NodeD.sizeP ps → FreeGE D (k + 1)) : FitsD D (leafN ps) := by
  have hsize : (leafN ps).size = 3 + NodeD.sizeP ps := by simp [NodeD.size, leafN, NodeD.sizeK]
  have hm2 := hg.m2
  have hmost := most_le D.m hg.m1
  by_cases hle : 3 + NodeD.sizeP ps ≤ D.m
  · exact .inl ⟨leaf_ok.2 ⟨hle, hok, hs⟩, fun _ => hne⟩
  · obtain ⟨a, y, b, rfl, ha, he, fa, fb, sa, sb, _⟩ := split_leaf hg.m1 hok (by omega) hsz
    have hs2 := List.pairwise_append.1 hs
    refine .inr ⟨by omega, by omega, .inl ⟨rfl, hne, by show NodeD.sizeP (a ++ y :: b) ≤ _; omega, rfl, rfl⟩, free_of (hf1 (by omega)), ?_⟩
    rw [he]
    exact ⟨leaf_ok.2 ⟨sa, fun p hp => hok p (by simp [hp]), hs2.1⟩, fun _ => ha, leaf_ok.2 ⟨sb, fun p hp => hok p (List.mem_append_right _ hp), hs2.2.1⟩, fun _ => by simp [leafN]⟩
theorem fits_inner {D : PD} {k c : Nat} {hi : Option Str} (hg : Good D) {h : Nat} {x : Ent} {es : List Ent} (hc : ChainW (Sub D h) hi (x :: es)) (hh : Held D (c :: flatP (x :: es))) (hk : ∀ e ∈ es, KeyOk D.m e.lo)
    (hsz : (innerN (x :: es)).size ≤ D.m + NodeD.most D.m + 4) (hf1 : D.m < (innerN (x :: es)).size → FreeGE D (k + 1)) : FitsD D (innerN (x :: es)) := by
  have F := hc.facts
  have hm2 := hg.m2
  have hmost := most_le D.m hg.m1
  have hcP : ∀ e ∈ x :: es, e.c ∈ flatP (x :: es) := fun e he => by
    obtain ⟨S, hS⟩ : ∃ P, e.P = e.c :: P := by
      obtain ⟨a, b, hab⟩ := List.append_of_mem he
      rw [hab, chain_append] at hc
      exact sub_c hc.2.1
    exact List.mem_flatMap.2 ⟨e, he, by rw [hS]; simp⟩
  have hkid : ∀ e ∈ x :: es, 1 ≤ e.c ∧ e.c < 16777216 := fun e he => hg.kid (hh.is _ (List.mem_cons_of_mem _ (hcP e he)))
  have hlos := (List.pairwise_cons.1 F.los).2
  by_cases hle : (innerN (x :: es)).size ≤ D.m
  · exact .inl ⟨inner_ok.2 ⟨hle, hk, hkid, hlos⟩, fun h => by cases h⟩
  · obtain ⟨a, y, b, rfl, he, fa, fb, sa, sb, _⟩ := split_inner hg.m1 hk (by omega) hsz
    rw [List.map_append, List.map_cons] at hlos
    have hl2 := List.pairwise_append.1 hlos
    have hsk : NodeD.sizeK (innerN (x :: (a ++ y :: b))).keys ≤ (innerN (x :: (a ++ y :: b))).size := by unfold NodeD.size; omega
    refine .inr ⟨by omega, by omega, .inr ⟨rfl, by simp [innerN], by simp [innerN], by omega⟩, free_of (hf1 (by omega)), ?_⟩
    rw [he]
    refine ⟨inner_ok.2 ⟨sa, fun e he => hk e (by simp [he]), fun e he => hkid e ?_, hl2.1⟩, (fun h => by cases h), inner_ok.2 ⟨sb, fun e he => hk e (by simp [he]), fun e he => hkid e (List.mem_cons_of_mem _ (List.mem_append_right _ he)), (List.pairwise_cons.1 hl2.2.1).2⟩, (fun h => by cases h)⟩
    rcases List.mem_cons.1 he with rfl | he
    · simp
    · simp [he]
section
variable {D D1 : PD} {h : Nat} {e : Ent} {hi : Option Str} {key v : Str} {k : Nat}
theorem ins_place {ps : List KV} {i : Nat} {is : Bool} (hp : PlaceP ps key i is) : ins key v ps = if is then ps.set i (key, v) else insAt ps i (key, v) := by
  obtain ⟨a, b, rfl, rfl, ha, hb⟩ := hp
  rw [ins_left ha]
  cases is with
  | true =>
    obtain ⟨u, c, rfl, hc⟩ := hb
    rw [ins, if_neg (lts_irrefl key), if_pos rfl]
    simp
  | false =>
    rw [if_neg (by simp)] at hb ⊢
    rw [insAt_mid]
    cases b with
    | nil => rfl
    | cons y b => rw [ins, if_pos (hb y (by simp))]
theorem sizeP_ins : ∀ (ps : List KV), NodeD.sizeP (ins key v ps) ≤ NodeD.sizeP ps + (2 + key.length + v.length)
  | [] => by simp [ins, NodeD.sizeP]
  | x :: ps => by
    have := sizeP_ins ps
    rw [ins]
    split
    · simp only [NodeD.sizeP]; omega
    · split
      · simp only [NodeD.sizeP]; omega
      · simp only [NodeD.sizeP]; omega
theorem put_leaf (hg : Good D) (hs : Sub D 0 e hi) (hp : PairOk D.m (key, v)) (hlo : les e.lo key) (hb : bel key hi) (hh : Held D e.P) (hf : FreeGE D (k + e.f)) :
    FitsD D (leafN (ins key v e.M)) ∧ ∃ L, MadeT D (settleD e.c (leafN (ins key v e.M)) D).1 0 e.lo e.c hi (ins key v e.M) e.P (e.wt + 2) k L (settleD e.c (leafN (ins key v e.M)) D).2 := by
  obtain ⟨h1, h2, h3, h4, h5, h6⟩ := hs
  obtain ⟨o1, o2, o3⟩ := leaf_ok.1 h1
  have hsz := sizeP_ins (key := key) (v := v) e.M
  have hkv := hp.2.2.2
  simp only at hkv
  have hsize : (leafN e.M).size = 3 + NodeD.sizeP e.M := by simp [NodeD.size, leafN, NodeD.sizeK]
  rw [h5] at hh
  have hfull : D.m < 3 + NodeD.sizeP (ins key v e.M) → e.f = 1 := fun hlt => by
    rw [h6]; unfold full; rw [if_pos (by rw [hsize]; omega)]
  obtain ⟨L, hL⟩ := settle_leaf (c := e.c) (k := k) (lo := e.lo) (hi := hi) hg (ps := ins key v e.M) hh
    (fun p hp' => by rcases mem_ins hp' with rfl | ⟨h, _⟩; (· exact hp); (· exact o2 p h)) o3.ins (fun e0 => by have := mem_ins_self key v e.M; rw [e0] at this; cases this) (by omega)
    (fun x hx => by rcases mem_ins hx with rfl | ⟨h, _⟩; (· exact ⟨hlo, hb⟩); (· exact h3 x h)) (hf.mono (by omega)) (fun hlt => hf.mono (by rw [hfull hlt]; omega))
  refine ⟨fits_leaf (k := k) hg (ps := ins key v e.M) (fun p hp' => by rcases mem_ins hp' with rfl | ⟨h, _⟩; (· exact hp); (· exact o2 p h)) o3.ins (fun e0 => by have := mem_ins_self key v e.M; rw [e0] at this; cases this) (by omega) (fun hlt => hf.mono (by rw [hfull hlt]; omega)), ?_⟩
  refine ⟨L, hL.shape, hL.head, hL.chain, hL.M, by rw [h5]; exact hL.T, Nat.le_trans hL.wt ?_, hL.key, hL.free⟩
  unfold Ent.wt
  rw [h5]
  split
  · simp
  · rename_i hn
    rw [hfull (by omega)]; simp
theorem put_mid {x0 : Ent} {es e1 e2 : List Ent} {x : Ent} (hok : (innerN (x0 :: es)).Ok D.m) (hc : ChainW (Sub D h) hi (x0 :: es)) (har : Around (x0 :: es) hi key e1 x e2) {c : Nat} (hh : Held D (c :: flatP (x0 :: es)))
    {W k' : Nat} {L : List Ent} {part : Str × Nat} (hL : MadeT D D1 h x.lo x.c (nxt hi e2) (ins key v x.M) x.P W k' L part) :
    ∃ z zs, e1 ++ (L ++ e2) = z :: zs ∧ z.lo = x0.lo ∧ ChainW (Sub D1 h) hi (z :: zs) ∧ flatM (z :: zs) = ins key v (flatM (x0 :: es)) ∧ Held D1 (c :: flatP (z :: zs)) ∧ Turned D D1 (c :: flatP (x0 :: es)) (c :: flatP (z :: zs)) ∧
      (∀ e ∈ zs, KeyOk D1.m e.lo) ∧ D1.page c = D.page c := by
  obtain ⟨z, zs, hz⟩ : ∃ z zs, e1 ++ (L ++ e2) = z :: zs := by
    obtain ⟨a, L', hL', _⟩ := hL.head
    cases e1 with
    | nil => exact ⟨a, L' ++ e2, by rw [hL']; rfl⟩
    | cons y e1 => exact ⟨y, e1 ++ (L ++ e2), rfl⟩
  obtain ⟨a, L', hL', hal, hac⟩ := hL.head
  have heq := har.eq
  have hPold : flatP (x0 :: es) = flatP e1 ++ (x.P ++ flatP e2) := by rw [heq, flatP_append, flatP_cons]
  have hPnew : flatP (z :: zs) = flatP e1 ++ (flatP L ++ flatP e2) := by rw [← hz, flatP_append, flatP_append]
  have hh' : Held D ((c :: flatP e1) ++ x.P ++ flatP e2) := by rw [hPold] at hh; simpa using hh
  have hT := hL.T.ctx hh'
  have hT' : Turned D D1 (c :: flatP (x0 :: es)) (c :: flatP (z :: zs)) := by rw [hPold, hPnew]; simpa using hT
  have hnd := hh'.nodup
  have hdis : ∀ q, (q ∈ c :: flatP e1 ∨ q ∈ flatP e2) → q ∉ x.P := by
    rw [List.append_assoc, List.nodup_append] at hnd
    intro q hq hx
    rcases hq with hq | hq
    · exact hnd.2.2 q hq q (by simp [hx]) rfl
    · exact (List.nodup_append.1 hnd.2.1).2.2 q hx q hq rfl
  have hus : ∀ q, (q ∈ c :: flatP e1 ∨ q ∈ flatP e2) → D.used q = true := by
    intro q hq
    apply hh'.used q
    simp at hq ⊢
    rcases hq with (hq | hq) | hq <;> simp [hq]
  rw [heq, chain_append] at hc
  obtain ⟨hc1, hc2⟩ := hc
  have hnx : nxt hi (x :: e2) = nxt hi (L ++ e2) := by rw [hL']; simp [nxt, hal]
  refine ⟨z, zs, hz, ?_, ?_, ?_, hT'.held, hT', ?_, ?_⟩
  · cases e1 with
    | nil =>
      rw [hL'] at hz
      injection hz with hz1 hz2
      injection heq with h1 h2
      rw [← hz1, hal, h1]
    | cons y e1 =>
      injection hz with hz1 hz2
      injection heq with h1 h2
      rw [← hz1, h1]
  · rw [← hz, chain_append, chain_append]
    refine ⟨?_, hL.chain, ?_⟩
    · rw [← hnx]
      exact hL.T.chain (fun q hq => hdis q (.inl (List.mem_cons_of_mem _ hq))) (fun q hq => hus q (.inl (List.mem_cons_of_mem _ hq))) hc1
    · exact hL.T.chain (fun q hq => hdis q (.inr hq)) (fun q hq => hus q (.inr hq)) hc2.2
  · rw [har.ins, ← hz, flatM_append, flatM_append, hL.M]
  · intro e he
    have hkey := (inner_ok.1 hok).2.1
    have hm : D1.m = D.m := hL.T.m
    rw [hm]
    have hLt : ∀ e ∈ L', KeyOk D.m e.lo := fun e he => hL.key e (by rw [hL']; exact he)
    cases e1 with
    | nil =>
      rw [hL'] at hz
      injection hz with hz1 hz2
      injection heq with h1 h2
      rw [← hz2] at he
      rcases List.mem_append.1 he with he | he
      · exact hLt e he
      · exact hkey e (by rw [h2]; exact he)
    | cons y e1 =>
      injection hz with hz1 hz2
      injection heq with h1 h2
      rw [← hz2] at he
      rcases List.mem_append.1 he with he | he
      · exact hkey e (by rw [h2]; simp [he])
      · rcases List.mem_append.1 he with he | he
        · rw [hL'] at he
          rcases List.mem_cons.1 he with rfl | he
          · rw [hal]
            exact hkey x (by rw [h2]; simp)
          · exact hLt e he
        · exact hkey e (by rw [h2]; simp [he])
  · exact hL.T.page c (hdis c (.inl (by simp))) (hus c (.inl (by simp)))
theorem put_one {x0 : Ent} {es e1 e2 : List Ent} {x : Ent} (hx0 : x0.lo = e.lo) (hok : (innerN (x0 :: es)).Ok D.m) (hc : ChainW (Sub D h) hi (x0 :: es)) (hpg : D.page e.c = (innerN (x0 :: es)).bytes D.m)
    (hM : e.M = flatM (x0 :: es)) (hP : e.P = e.c :: flatP (x0 :: es)) (hf : e.f = full (innerN (x0 :: es)) D.m + sumF (x0 :: es)) (har : Around (x0 :: es) hi key e1 x e2) (hh : Held D e.P)
    {a : Ent} {part : Str × Nat} (hL : MadeT D D1 h x.lo x.c (nxt hi e2) (ins key v x.M) x.P (x.wt + 2) (k + full (innerN (x0 :: es)) D.m + sumF e1 + sumF e2) [a] part) :
    ∃ L, MadeT D D1 (h + 1) e.lo e.c hi (ins key v e.M) e.P (e.wt + 2) k L ([], 0) := by
  rw [hP] at hh
  obtain ⟨z, zs, hz, z1, z2, z3, z4, z5, z6, z7⟩ := put_mid hok hc har hh hL
  obtain ⟨a', L', hL', hal, hac⟩ := hL.head
  injection hL' with e1' e2'
  subst e1'
  have heq := har.eq
  have hsame : innerN (z :: zs) = innerN (x0 :: es) := by
    rw [← hz, heq]
    cases e1 with
    | nil => simp [innerN, hac]
    | cons y e1 => simp [innerN, hac, hal]
  have hWz : sumW (z :: zs) = sumW e1 + (a.wt + sumW e2) := by rw [← hz, sumW_append]; simp [sumW]
  have hWo : sumW (x0 :: es) = sumW e1 + (x.wt + sumW e2) := by rw [heq, sumW_append, sumW_cons]
  have hw := hL.wt
  simp [sumW] at hw
  refine ⟨[⟨e.lo, e.c, flatM (z :: zs), e.c :: flatP (z :: zs), full (innerN (x0 :: es)) D.m + sumF (z :: zs)⟩], .inl ⟨_, rfl, rfl⟩, ⟨_, _, rfl, rfl, rfl⟩, ⟨⟨z, zs, z1.trans hx0, ?_, z2, ?_, rfl, rfl, ?_⟩, trivial⟩, ?_, ?_, ?_, by simp, hL.free.mono (by omega)⟩
  · rw [hsame, hL.T.m]; exact hok
  · show D1.page e.c = _
    rw [z7, hpg, hsame, hL.T.m]
  · show _ = full (innerN (z :: zs)) D1.m + _
    rw [hsame, hL.T.m]
  · rw [hM, ← z3]; simp [flatM]
  · rw [hP]; simpa [flatP] using z5
  · have hwe : e.wt = 1 + full (innerN (x0 :: es)) D.m + sumW (x0 :: es) := by unfold Ent.wt; rw [hP, hf, sumW_eq]; simp; omega
    have hwz : sumW [(⟨e.lo, e.c, flatM (z :: zs), e.c :: flatP (z :: zs), full (innerN (x0 :: es)) D.m + sumF (z :: zs)⟩ : Ent)] = 1 + full (innerN (x0 :: es)) D.m + sumW (z :: zs) := by
      rw [sumW_eq (z :: zs)]; simp [sumW, Ent.wt]; omega
    rw [hwz, hwe, hWz, hWo]
    simp only [List.length_singleton]
    omega
theorem put_two (hg : Good D) {x0 : Ent} {es e1 e2 : List Ent} {x : Ent} (hx0 : x0.lo = e.lo) (hok : (innerN (x0 :: es)).Ok D.m) (hc : ChainW (Sub D h) hi (x0 :: es))
    (hM : e.M = flatM (x0 :: es)) (hP : e.P = e.c :: flatP (x0 :: es)) (hf : e.f = full (innerN (x0 :: es)) D.m + sumF (x0 :: es)) (har : Around (x0 :: es) hi key e1 x e2) (hh : Held D e.P)
    {a b : Ent} {part : Str × Nat} (hL : MadeT D D1 h x.lo x.c (nxt hi e2) (ins key v x.M) x.P (x.wt + 2) (k + full (innerN (x0 :: es)) D.m + sumF e1 + sumF e2) [a, b] part) {n : NodeD}
    (hn : n = ⟨false, [], insAt (innerN (x0 :: es)).keys e1.length b.lo, insAt (innerN (x0 :: es)).children (e1.length + 1) b.c⟩) :
    FitsD D1 n ∧ ∃ L, MadeT D (settleD e.c n D1).1 (h + 1) e.lo e.c hi (ins key v e.M) e.P (e.wt + 2) k L (settleD e.c n D1).2 := by
  rw [hP] at hh
  obtain ⟨z, zs, hz, z1, z2, z3, z4, z5, z6, z7⟩ := put_mid hok hc har hh hL
  obtain ⟨a', L', hL', hal, hac⟩ := hL.head
  injection hL' with e1' e2'
  subst e1'
  have heq := har.eq
  have hmm : D1.m = D.m := hL.T.m
  have hn' : n = innerN (z :: zs) := by
    rw [hn, ← hz, heq]
    cases e1 with
    | nil => simp [innerN, insAt, hac]
    | cons y e1 =>
      simp only [innerN, List.cons_append, List.tail_cons, List.map_cons, List.map_append, List.length_cons, List.nil_append]
      have i1 : insAt (e1.map Ent.lo ++ x.lo :: e2.map Ent.lo) (e1.length + 1) b.lo = e1.map Ent.lo ++ a.lo :: b.lo :: e2.map Ent.lo := by
        have := insAt_mid (e1.map Ent.lo ++ [x.lo]) (e2.map Ent.lo) b.lo
        simp at this
        rw [this, hal]
      have i2 : insAt (y.c :: (e1.map Ent.c ++ x.c :: e2.map Ent.c)) (e1.length + 1 + 1) b.c = y.c :: (e1.map Ent.c ++ a.c :: b.c :: e2.map Ent.c) := by
        have := insAt_mid (y.c :: e1.map Ent.c ++ [x.c]) (e2.map Ent.c) b.c
        simp at this
        rw [this, hac]
      rw [i1, i2]
  have hkb : KeyOk D.m b.lo := hL.key b (by simp)
  have hsz : (innerN (z :: zs)).size = (innerN (x0 :: es)).size + (4 + b.lo.length) := by
    rw [← hn', hn]
    simp only [NodeD.size, innerN, insAt, NodeD.sizeP, NodeD.sizeK_append, NodeD.sizeK, List.length_append, List.length_cons, List.length_take, List.length_drop, List.length_map]
    have := NodeD.sizeK_append ((List.map Ent.lo (x0 :: es).tail).take e1.length) ((List.map Ent.lo (x0 :: es).tail).drop e1.length)
    rw [List.take_append_drop] at this
    rw [this]
    have hl : (x0 :: es).length = e1.length + (1 + e2.length) := by rw [heq]; simp; omega
    simp at hl
    omega
  rw [hn']
  have hz1 := (inner_ok.1 hok).1
  have hb1 := hkb.2.2
  have hfull : D1.m < (innerN (z :: zs)).size → full (innerN (x0 :: es)) D.m = 1 := fun hlt => by
    unfold full; rw [if_pos (by omega)]
  have hwold : sumF (x0 :: es) = sumF e1 + (x.f + sumF e2) := by rw [heq, sumF_append, sumF_cons]
  obtain ⟨L, hL2⟩ := settle_inner (c := e.c) (k := k) (hg.same hmm hL.T.n) (z1.trans hx0) z2 z4 z6 (by rw [hmm]; omega) (hL.free.mono (by omega)) (fun hlt => hL.free.mono (by have := hfull hlt; omega))
  refine ⟨fits_inner (k := k) (hg.same hmm hL.T.n) z2 z4 z6 (by rw [hmm]; omega) (fun hlt => hL.free.mono (by have := hfull hlt; omega)), ?_⟩
  refine ⟨L, hL2.shape, hL2.head, hL2.chain, by rw [hL2.M, z3, hM], by rw [hP]; exact z5.trans hL2.T, Nat.le_trans hL2.wt ?_, fun e he => by rw [← hmm]; exact hL2.key e he, hL2.free⟩
  have hWz : sumW (z :: zs) = sumW e1 + (a.wt + (b.wt + sumW e2)) := by rw [← hz, sumW_append, sumW_append]; simp [sumW]; omega
  have hWo : sumW (x0 :: es) = sumW e1 + (x.wt + sumW e2) := by rw [heq, sumW_append, sumW_cons]
  have hw := hL.wt
  simp [sumW] at hw
  have hwe : e.wt = 1 + full (innerN (x0 :: es)) D.m + sumW (x0 :: es) := by unfold Ent.wt; rw [hP, hf, sumW_eq]; simp; omega
  rw [hwe, hWz, hWo]
  split
  · omega
  · rename_i hnle
    have := hfull (by omega)
    omega
end
end Go.Proofs.YtdipjakblaeekaaGreat
namespace Go.Proofs.YtdipjakblaeekaaGreat
structure Less (D D' : PD) (h : Nat) (e : Ent) (hi : Option Str) (M : List KV) (a : Ent) : Prop where
  lo : a.lo = e.lo
  c : a.c = e.c
  sub : Sub D' h a hi
  M : a.M = M
  T : Turned D D' e.P a.P
  wt : a.wt ≤ e.wt
def joinN (a : NodeD) (key : Str) (b : NodeD) : NodeD :=
  if a.leaf then ⟨true, a.pairs ++ b.pairs, [], []⟩ else ⟨false, [], a.keys ++ key :: b.keys, a.children ++ b.children⟩
section
variable {D D1 : PD} {h : Nat} {hi : Option Str}
theorem full_mono {a b : NodeD} {m : Nat} (h : a.size ≤ b.size) : full a m ≤ full b m := by unfold full; split <;> split <;> omega
theorem drop_leaf {e : Ent} {key : Str} (hs : Sub D 0 e hi) (hh : Held D e.P) (hne : del key e.M ≠ []) :
    Less D (PD.putPage e.c ((leafN (del key e.M)).bytes D.m) D) 0 e hi (del key e.M) ⟨e.lo, e.c, del key e.M, e.P, full (leafN (del key e.M)) D.m⟩ := by
  obtain ⟨h1, h2, h3, h4, h5, h6⟩ := hs
  obtain ⟨o1, o2, o3⟩ := leaf_ok.1 h1
  have hsz : ∀ ps : List KV, NodeD.sizeP (del key ps) ≤ NodeD.sizeP ps := by
    intro ps
    induction ps with
    | nil => simp [del]
    | cons x ps ih =>
      unfold del at ih ⊢
      rw [List.filter_cons]
      split
      · simp only [NodeD.sizeP]; omega
      · simp only [NodeD.sizeP]; omega
  have hle := hsz e.M
  refine ⟨rfl, rfl, ⟨leaf_ok.2 ⟨by show 3 + NodeD.sizeP (del key e.M) ≤ D.m; omega, fun p hp => o2 p (mem_del.1 hp).1, o3.del _⟩, hne, fun x hx => h3 x (mem_del.1 hx).1, page_put _ _, h5, rfl⟩, rfl, ?_, ?_⟩
  · exact turned_put hh (by rw [h5]; simp) _
  · unfold Ent.wt
    have : full (leafN (del key e.M)) D.m ≤ full (leafN e.M) D.m := full_mono (by simp [NodeD.size, leafN, NodeD.sizeK]; omega)
    rw [h6]
    simp only
    omega
theorem place_del {ps : List KV} {key : Str} {i : Nat} (hp : PlaceP ps key i true) (hs : Srt ps) : del key ps = delAt ps i := by
  obtain ⟨a, b, rfl, rfl, ha, hb⟩ := hp
  obtain ⟨v, c, rfl, hc⟩ := hb
  rw [delAt_mid, del_append, del_none fun x hx => lts_ne (ha x hx)]
  have : del key ((key, v) :: c) = c := by
    unfold del
    rw [List.filter_cons_of_neg (by simp)]
    exact del_none fun x hx e => lts_irrefl key (by have := hc x hx; rwa [e] at this)
  rw [this]
structure In (D : PD) (h : Nat) (e : Ent) (hi : Option Str) (x0 : Ent) (es : List Ent) : Prop where
  lo : x0.lo = e.lo
  ok : (innerN (x0 :: es)).Ok D.m
  chain : ChainW (Sub D h) hi (x0 :: es)
  page : D.page e.c = (innerN (x0 :: es)).bytes D.m
  M : e.M = flatM (x0 :: es)
  P : e.P = e.c :: flatP (x0 :: es)
  f : e.f = full (innerN (x0 :: es)) D.m + sumF (x0 :: es)
theorem sub_in {e : Ent} (hs : Sub D (h + 1) e hi) : ∃ x0 es, In D h e hi x0 es := by
  obtain ⟨x, es, h1, h2, h3, h4, h5, h6, h7⟩ := hs
  exact ⟨x, es, h1, h2, h3, h4, h5, h6, h7⟩
theorem In.wt {e x0 : Ent} {es : List Ent} (h' : In D h e hi x0 es) : e.wt = 1 + full (innerN (x0 :: es)) D.m + sumW (x0 :: es) := by
  unfold Ent.wt; rw [h'.P, h'.f, sumW_eq]; simp; omega
structure MidT (D D1 : PD) (h : Nat) (hi : Option Str) (c : Nat) (es zs : List Ent) : Prop where
  chain : ChainW (Sub D1 h) hi zs
  T : Turned D D1 (c :: flatP es) (c :: flatP zs)
  page : D1.page c = D.page c
theorem In.write {e x0 z : Ent} {es zs : List Ent} (hI : In D h e hi x0 es) (hm : MidT D D1 h hi e.c (x0 :: es) (z :: zs)) (hg : Good D) (hlo : z.lo = x0.lo) (hsz : (innerN (z :: zs)).size ≤ (innerN (x0 :: es)).size)
    (hk : ∀ y ∈ zs, KeyOk D.m y.lo) (hw : sumW (z :: zs) ≤ sumW (x0 :: es)) :
    ∃ a, Less D (PD.putPage e.c ((innerN (z :: zs)).bytes D1.m) D1) (h + 1) e hi (flatM (z :: zs)) a := by
  have hmm := hm.T.m
  have hh := hm.T.held
  have F := hm.chain.facts
  have hn := List.nodup_cons.1 hh.nodup
  have hneq : ∀ q ∈ flatP (z :: zs), q ≠ e.c := fun q hq e' => hn.1 (e' ▸ hq)
  have hcP : ∀ y ∈ z :: zs, y.c ∈ flatP (z :: zs) := fun y hy => by
    obtain ⟨S, hS⟩ : ∃ P, y.P = y.c :: P := by
      have hc := hm.chain
      obtain ⟨a, b, hab⟩ := List.append_of_mem hy
      rw [hab, chain_append] at hc
      exact sub_c hc.2.1
    exact List.mem_flatMap.2 ⟨y, hy, by rw [hS]; simp⟩
  have hg1 := hg.same hmm hm.T.n
  have hsz1 := (inner_ok.1 hI.ok).1
  refine ⟨⟨e.lo, e.c, flatM (z :: zs), e.c :: flatP (z :: zs), full (innerN (z :: zs)) D1.m + sumF (z :: zs)⟩, rfl, rfl, ⟨z, zs, hlo.trans hI.lo, inner_ok.2 ⟨by show _ ≤ D1.m; rw [hmm]; omega, fun y hy => by show KeyOk D1.m _; rw [hmm]; exact hk y hy, fun y hy => hg1.kid (hh.is _ (List.mem_cons_of_mem _ (hcP y hy))), (List.pairwise_cons.1 F.los).2⟩, ?_, page_put _ _, rfl, rfl, rfl⟩, rfl, ?_, ?_⟩
  · exact hm.chain.imp fun y hy hi hs => sub_frame (D := D1) (D' := PD.putPage e.c ((innerN (z :: zs)).bytes D1.m) D1) rfl (fun q hq => page_put_ne (hneq q (List.mem_flatMap.2 ⟨y, hy, hq⟩)) _) hs
  · rw [hI.P]
    exact hm.T.trans (turned_put hh (by simp) _)
  · rw [hI.wt]
    have h1 := sumW_eq (z :: zs)
    have h2 : full (innerN (z :: zs)) D1.m ≤ full (innerN (x0 :: es)) D.m := by rw [hmm]; exact full_mono hsz
    unfold Ent.wt
    simp only [List.length_cons]
    omega
theorem In.stay {e x0 z : Ent} {es zs : List Ent} (hI : In D h e hi x0 es) (hm : MidT D D1 h hi e.c (x0 :: es) (z :: zs)) (hlo : z.lo = x0.lo) (hsame : innerN (z :: zs) = innerN (x0 :: es)) (hw : sumW (z :: zs) ≤ sumW (x0 :: es)) :
    ∃ a, Less D D1 (h + 1) e hi (flatM (z :: zs)) a := by
  have hmm := hm.T.m
  refine ⟨⟨e.lo, e.c, flatM (z :: zs), e.c :: flatP (z :: zs), full (innerN (z :: zs)) D1.m + sumF (z :: zs)⟩, rfl, rfl, ⟨z, zs, hlo.trans hI.lo, ?_, hm.chain, ?_, rfl, rfl, rfl⟩, rfl, ?_, ?_⟩
  · show (innerN (z :: zs)).Ok D1.m
    rw [hmm, hsame]; exact hI.ok
  · show D1.page e.c = _
    rw [hm.page, hI.page, hsame, hmm]
  · rw [hI.P]; exact hm.T
  · rw [hI.wt]
    have h1 := sumW_eq (z :: zs)
    rw [hsame, hmm]
    unfold Ent.wt
    simp only [List.length_cons]
    omega
theorem mid_held {c : Nat} {x : Ent} {e1 e2 es : List Ent} (heq : es = e1 ++ x :: e2) (hh : Held D (c :: flatP es)) :
    Held D ((c :: flatP e1) ++ x.P ++ flatP e2) ∧ (∀ q, (q ∈ c :: flatP e1 ∨ q ∈ flatP e2) → q ∉ x.P) ∧ ∀ q, (q ∈ c :: flatP e1 ∨ q ∈ flatP e2) → D.used q = true := by
  have hP : flatP es = flatP e1 ++ (x.P ++ flatP e2) := by rw [heq, flatP_append, flatP_cons]
  have hh' : Held D ((c :: flatP e1) ++ x.P ++ flatP e2) := by rw [hP] at hh; simpa using hh
  have hnd := hh'.nodup
  refine ⟨hh', ?_, ?_⟩
  · rw [List.append_assoc, List.nodup_append] at hnd
    intro q hq hx
    rcases hq with hq | hq
    · exact hnd.2.2 q hq q (by simp [hx]) rfl
    · exact (List.nodup_append.1 hnd.2.1).2.2 q hx q hq rfl
  · intro q hq
    apply hh'.used q
    simp at hq ⊢
    rcases hq with (hq | hq) | hq <;> simp [hq]
theorem mid_one {c : Nat} {x a : Ent} {e1 e2 es : List Ent} (heq : es = e1 ++ x :: e2) (hh : Held D (c :: flatP es)) (hc : ChainW (Sub D h) hi es) {M : List KV} (hL : Less D D1 h x (nxt hi e2) M a) :
    MidT D D1 h hi c es (e1 ++ a :: e2) := by
  obtain ⟨hh', hdis, hus⟩ := mid_held heq hh
  have hT := hL.T.ctx hh'
  have hPold : flatP es = flatP e1 ++ (x.P ++ flatP e2) := by rw [heq, flatP_append, flatP_cons]
  have hPnew : flatP (e1 ++ a :: e2) = flatP e1 ++ (a.P ++ flatP e2) := by rw [flatP_append, flatP_cons]
  rw [heq, chain_append] at hc
  refine ⟨?_, by rw [hPold, hPnew]; simpa using hT, hL.T.page c (hdis c (.inl (by simp))) (hus c (.inl (by simp)))⟩
  rw [chain_append]
  refine ⟨?_, hL.sub, ?_⟩
  · have : nxt hi (a :: e2) = nxt hi (x :: e2) := by simp [nxt, hL.lo]
    rw [this]
    exact hL.T.chain (fun q hq => hdis q (.inl (List.mem_cons_of_mem _ hq))) (fun q hq => hus q (.inl (List.mem_cons_of_mem _ hq))) hc.1
  · exact hL.T.chain (fun q hq => hdis q (.inr hq)) (fun q hq => hus q (.inr hq)) hc.2.2
theorem MidT.trans {D2 : PD} {c : Nat} {es zs ys : List Ent} (h1 : MidT D D1 h hi c es zs) (h2 : MidT D1 D2 h hi c zs ys) : MidT D D2 h hi c es ys :=
  ⟨h2.chain, h1.T.trans h2.T, h2.page.trans h1.page⟩
theorem MidT.refl {c : Nat} {es : List Ent} (hh : Held D (c :: flatP es)) (hc : ChainW (Sub D h) hi es) : MidT D D h hi c es es := ⟨hc, Turned.refl hh, rfl⟩
theorem mid_gone {c : Nat} {x : Ent} {e1 e2 es : List Ent} (heq : es = e1 ++ x :: e2) (hh : Held D (c :: flatP es)) (hc : ChainW (Sub D h) hi es) (hT : Turned D D1 x.P [x.c]) :
    Turned D (PD.turn x.c false D1) (c :: flatP es) (c :: flatP (e1 ++ e2)) ∧ (PD.turn x.c false D1).page c = D.page c ∧
      ChainW (Sub (PD.turn x.c false D1) h) (nxt hi (x :: e2)) e1 ∧ ChainW (Sub (PD.turn x.c false D1) h) hi e2 := by
  obtain ⟨hh', hdis, hus⟩ := mid_held heq hh
  have hT1 := hT.ctx hh'
  have hPold : flatP es = flatP e1 ++ (x.P ++ flatP e2) := by rw [heq, flatP_append, flatP_cons]
  have hPnew : flatP (e1 ++ e2) = flatP e1 ++ flatP e2 := flatP_append _ _
  have hT2 := turned_give (A := c :: flatP e1) (B := flatP e2) (r := x.c) (by simpa using hT1.held)
  have hT3 : Turned D (PD.turn x.c false D1) ((c :: flatP e1) ++ x.P ++ flatP e2) ((c :: flatP e1) ++ flatP e2) := hT1.trans (by simpa using hT2)
  rw [heq, chain_append] at hc
  have hpg : ∀ q, (q ∈ c :: flatP e1 ∨ q ∈ flatP e2) → (PD.turn x.c false D1).page q = D.page q := fun q hq => hT.page q (hdis q hq) (hus q hq)
  refine ⟨by rw [hPold, hPnew]; simpa using hT3, hpg c (.inl (by simp)), ?_, ?_⟩
  · exact hc.1.imp fun y hy hi hs => sub_frame (D := D) (D' := PD.turn x.c false D1) hT.m (fun q hq => hpg q (.inl (List.mem_cons_of_mem _ (List.mem_flatMap.2 ⟨y, hy, hq⟩)))) hs
  · exact hc.2.2.imp fun y hy hi hs => sub_frame (D := D) (D' := PD.turn x.c false D1) hT.m (fun q hq => hpg q (.inr (List.mem_flatMap.2 ⟨y, hy, hq⟩))) hs
theorem sumW_mid (e1 e2 : List Ent) (x : Ent) : sumW (e1 ++ x :: e2) = sumW e1 + (x.wt + sumW e2) := by rw [sumW_append, sumW_cons]
theorem join_sub {a b : Ent} {hb : Option Str} (ha : Sub D h a (some b.lo)) (hsb : Sub D h b hb) {na nb : NodeD} (hna : D.page a.c = na.bytes D.m ∧ na.Ok D.m) (hnb : D.page b.c = nb.bytes D.m ∧ nb.Ok D.m)
    (ia : (h = 0 ∧ na = leafN a.M ∧ nb = leafN b.M) ∨ ∃ h' x es y ys, h = h' + 1 ∧ In D h' a (some b.lo) x es ∧ In D h' b hb y ys ∧ na = innerN (x :: es) ∧ nb = innerN (y :: ys))
    (hkey : KeyOk D.m b.lo) (hh : Held D (a.P ++ b.P)) (hsz : (joinN na b.lo nb).size ≤ D.m) :
    ∃ j, j.lo = a.lo ∧ j.c = a.c ∧ j.M = a.M ++ b.M ∧ j.wt ≤ a.wt + b.wt ∧ Sub (PD.turn b.c false (PD.putPage a.c ((joinN na b.lo nb).bytes D.m) D)) h j hb ∧
      Turned D (PD.turn b.c false (PD.putPage a.c ((joinN na b.lo nb).bytes D.m) D)) (a.P ++ b.P) j.P ∧ (joinN na b.lo nb).Ok D.m := by
  have fa := sub_facts ha
  have fb := sub_facts hsb
  have hbl : bel a.lo hb := by
    have h1 := fa.lt
    have h2 := fb.lt
    cases hb with
    | none => trivial
    | some q => exact lts_trans h1 h2
  have hrange : ∀ x ∈ a.M ++ b.M, les a.lo x.1 ∧ bel x.1 hb := by
    intro x hx
    rcases List.mem_append.1 hx with hx | hx
    · refine ⟨(fa.rng x hx).1, ?_⟩
      have h1 := (fa.rng x hx).2
      have h2 := fb.lt
      cases hb with
      | none => trivial
      | some q => exact lts_trans h1 h2
    · exact ⟨les_trans (lts_les fa.lt) (fb.rng x hx).1, (fb.rng x hx).2⟩
  have hsrt : Srt (a.M ++ b.M) := List.pairwise_append.2 ⟨fa.srt, fb.srt, fun x hx y hy => lts_of_les (fa.rng x hx).2 (fb.rng y hy).1⟩
  obtain ⟨Pa, hPa⟩ := sub_c ha
  obtain ⟨Pb, hPb⟩ := sub_c hsb
  have hT1 : Turned D (PD.putPage a.c ((joinN na b.lo nb).bytes D.m) D) (a.P ++ b.P) (a.P ++ b.P) := turned_put hh (by rw [hPa]; simp) _
  have hT2 : Turned (PD.putPage a.c ((joinN na b.lo nb).bytes D.m) D) (PD.turn b.c false (PD.putPage a.c ((joinN na b.lo nb).bytes D.m) D)) (a.P ++ b.P) (a.P ++ Pb) := by
    have := turned_give (A := a.P) (B := Pb) (r := b.c) (by rw [← hPb]; exact hT1.held)
    rwa [← hPb] at this
  have hT := hT1.trans hT2
  have hnd := hh.nodup
  rw [hPa, hPb] at hnd
  rcases ia with ⟨rfl, rfl, rfl⟩ | ⟨h', x, es, y, ys, rfl, Ia, Ib, rfl, rfl⟩
  · have hj : joinN (leafN a.M) b.lo (leafN b.M) = leafN (a.M ++ b.M) := rfl
    rw [hj] at hsz hT ⊢
    have oka := leaf_ok.1 hna.2
    have okb := leaf_ok.1 hnb.2
    have hsz' : 3 + NodeD.sizeP (a.M ++ b.M) ≤ D.m := by simpa [NodeD.size, leafN, NodeD.sizeK] using hsz
    have hok : (leafN (a.M ++ b.M)).Ok D.m := leaf_ok.2 ⟨hsz', fun p hp => by rcases List.mem_append.1 hp with hp | hp; (· exact oka.2.1 p hp); (· exact okb.2.1 p hp), hsrt⟩
    have hPa0 : Pa = [] := by
      have := ha.2.2.2.2.1
      rw [hPa] at this; simpa using this
    have hPb0 : Pb = [] := by
      have := hsb.2.2.2.2.1
      rw [hPb] at this; simpa using this
    subst hPa0; subst hPb0
    refine ⟨⟨a.lo, a.c, a.M ++ b.M, [a.c], full (leafN (a.M ++ b.M)) D.m⟩, rfl, rfl, rfl, ?_, ⟨hok, by simp [fa.ne], hrange, page_put _ _, rfl, rfl⟩, ?_, hok⟩
    · unfold Ent.wt
      rw [hPa, hPb]
      have := full_le (leafN (a.M ++ b.M)) D.m
      simp; omega
    · rw [hPa] at hT ⊢; simpa using hT
  · have oka := inner_ok.1 Ia.ok
    have okb := inner_ok.1 Ib.ok
    have hj : joinN (innerN (x :: es)) b.lo (innerN (y :: ys)) = innerN (x :: (es ++ y :: ys)) := by
      simp [joinN, innerN, Ib.lo]
    rw [hj] at hsz hT ⊢
    have hch : ChainW (Sub D h') hb (x :: (es ++ y :: ys)) := by
      rw [← List.cons_append, chain_append]
      refine ⟨?_, Ib.chain⟩
      show ChainW _ (some y.lo) _
      rw [Ib.lo]
      exact Ia.chain
    have hPa' : Pa = flatP (x :: es) := by have := Ia.P; rw [hPa] at this; injection this
    have hPb' : Pb = flatP (y :: ys) := by have := Ib.P; rw [hPb] at this; injection this
    have hfl : flatP (x :: (es ++ y :: ys)) = Pa ++ Pb := by rw [← List.cons_append, flatP_append, hPa', hPb']
    have hflM : flatM (x :: (es ++ y :: ys)) = a.M ++ b.M := by rw [← List.cons_append, flatM_append, Ia.M, Ib.M]
    have hok : (innerN (x :: (es ++ y :: ys))).Ok D.m := inner_ok.2 ⟨hsz, fun z hz => by
        rcases List.mem_append.1 hz with hz | hz
        · exact oka.2.1 z hz
        · rcases List.mem_cons.1 hz with rfl | hz
          · rw [Ib.lo]; exact hkey
          · exact okb.2.1 z hz, fun z hz => by
        rcases List.mem_cons.1 hz with rfl | hz
        · exact oka.2.2.1 z (by simp)
        · rcases List.mem_append.1 hz with hz | hz
          · exact oka.2.2.1 z (by simp [hz])
          · exact okb.2.2.1 z hz, (List.pairwise_cons.1 (hch.facts).los).2⟩
    have hne : ∀ q ∈ flatP (x :: (es ++ y :: ys)), q ≠ a.c := by
      intro q hq e
      subst e
      rw [hfl] at hq
      have hnd' := List.nodup_cons.1 (by simpa using hnd : (a.c :: (Pa ++ b.c :: Pb)).Nodup)
      apply hnd'.1
      rcases List.mem_append.1 hq with hq | hq <;> simp [hq]
    refine ⟨⟨a.lo, a.c, a.M ++ b.M, a.c :: (Pa ++ Pb), full (innerN (x :: (es ++ y :: ys))) D.m + sumF (x :: (es ++ y :: ys))⟩, rfl, rfl, rfl, ?_, ⟨x, es ++ y :: ys, Ia.lo, hok, ?_, page_put _ _, hflM.symm, by rw [hfl], rfl⟩, ?_, hok⟩
    · have h1 := Ia.wt
      have h2 := Ib.wt
      have h3 := sumW_eq (x :: (es ++ y :: ys))
      rw [← List.cons_append, sumW_append] at h3
      have h4 := full_le (innerN (x :: (es ++ y :: ys))) D.m
      have h5 : (a.c :: (Pa ++ Pb)).length = 1 + (flatP (x :: es ++ y :: ys)).length := by rw [List.cons_append, hfl]; simp; omega
      unfold Ent.wt at *
      simp only at *
      rw [h5]
      simp only [List.cons_append] at h3 ⊢
      omega
    · exact hch.imp fun z hz hi hs => sub_frame (D := D) (D' := PD.turn b.c false (PD.putPage a.c ((innerN (x :: (es ++ y :: ys))).bytes D.m) D)) rfl (fun q hq => page_put_ne (hne q (List.mem_flatMap.2 ⟨z, hz, hq⟩)) _) hs
    · rw [hPa] at hT ⊢; simpa using hT
end
end Go.Proofs.YtdipjakblaeekaaGreat
namespace Go.Proofs.YtdipjakblaeekaaGreat
def DropR (D D' : PD) (h : Nat) (e : Ent) (hi : Option Str) (key : Str) (had empty : Bool) : Prop :=
  (get key e.M).isSome = had ∧ if had then (if empty then del key e.M = [] ∧ Turned D D' e.P [e.c] else ∃ a, Less D D' h e hi (del key e.M) a) else empty = false ∧ D' = D
section
variable {D D1 : PD} {h : Nat} {hi : Option Str} {e x0 x : Ent} {es e1 e2 : List Ent} {key : Str}
theorem inner_size_le {z : Ent} {zs : List Ent} (h1 : (zs.map Ent.lo).Sublist (es.map Ent.lo)) : (innerN (z :: zs)).size ≤ (innerN (x0 :: es)).size := by
  rw [inner_size, inner_size]
  have := (h1.map szK)
  have h2 : ∀ {a b : List Nat}, a.Sublist b → a.sum ≤ b.sum := by
    intro a b hs
    induction hs with
    | slnil => exact Nat.le_refl _
    | cons y _ ih => rw [List.sum_cons]; omega
    | cons_cons y _ ih => rw [List.sum_cons, List.sum_cons]; omega
  have := h2 this
  omega
theorem gone_inner (hI : In D h e hi x0 es) (har : Around (x0 :: es) hi key e1 x e2) (hh : Held D e.P) (hT : Turned D D1 x.P [x.c]) (hd : del key x.M = []) :
    del key e.M = flatM (e1 ++ e2) ∧ (innerN (x0 :: es)).children[e1.length]? = some x.c ∧
    (if e1 ++ e2 = [] then Turned D (PD.turn x.c false D1) e.P [e.c] ∧ (innerN (x0 :: es)).children = [x.c] ∧ (innerN (x0 :: es)).keys = []
     else ∃ z zs, MidT D (PD.turn x.c false D1) h hi e.c (x0 :: es) (z :: zs) ∧ z.lo = x0.lo ∧ (innerN (z :: zs)).size ≤ (innerN (x0 :: es)).size ∧ (∀ y ∈ zs, KeyOk D.m y.lo) ∧ sumW (z :: zs) ≤ sumW (x0 :: es) ∧
      flatM (z :: zs) = flatM (e1 ++ e2) ∧ innerN (z :: zs) = ⟨false, [], delAt (innerN (x0 :: es)).keys (e1.length - 1), delAt (innerN (x0 :: es)).children e1.length⟩ ∧ 0 < (innerN (x0 :: es)).keys.length) := by
  have heq := har.eq
  have hP := hI.P
  rw [hP] at hh
  obtain ⟨g1, g2, g3, g4⟩ := mid_gone heq hh hI.chain hT
  have hM : del key e.M = flatM (e1 ++ e2) := by rw [hI.M, har.del, hd, flatM_append]; rfl
  have hchild : (innerN (x0 :: es)).children[e1.length]? = some x.c := by
    show (List.map Ent.c (x0 :: es))[e1.length]? = _
    rw [heq]; simp
  refine ⟨hM, hchild, ?_⟩
  have hW : sumW (x0 :: es) = sumW e1 + (x.wt + sumW e2) := by rw [heq, sumW_mid]
  have hkey := (inner_ok.1 hI.ok).2.1
  split
  · rename_i h0
    obtain ⟨r1, r2⟩ := List.append_eq_nil_iff.1 h0
    subst r1; subst r2
    injection heq with q1 q2
    subst q1; subst q2
    exact ⟨by rw [hP]; simpa [flatP] using g1, rfl, rfl⟩
  · rename_i h0
    cases e1 with
    | nil =>
      injection heq with q1 q2
      subst q1
      cases e2 with
      | nil => exact (h0 rfl).elim
      | cons z zs =>
        subst q2
        have hlow : les x0.lo z.lo := by
          have := (sub_facts hI.chain.1).lt
          exact lts_les this
        refine ⟨z.low x0.lo, zs, ⟨⟨sub_lo hlow g4.1, g4.2⟩, g1, g2⟩, rfl, inner_size_le (by simp), fun y hy => hkey y (by simp [hy]), ?_, rfl, ?_, ?_⟩
        · have hz : (z.low x0.lo).wt = z.wt := rfl
          rw [sumW_cons, hz, hW, sumW_cons]
          simp [sumW]
        · simp [innerN, delAt, Ent.low]
        · simp [innerN]
    | cons z zs =>
      injection heq with q1 q2
      replace q2 : es = zs ++ x :: e2 := q2
      subst q1
      have hles : les' (nxt hi (x :: e2)) (nxt hi e2) := by
        have hc := hI.chain
        rw [har.eq, chain_append] at hc
        have := (sub_facts hc.2.1).lt
        show les' (some x.lo) _
        cases hn : nxt hi e2 with
        | none => trivial
        | some q => rw [hn] at this; exact lts_les this
      refine ⟨x0, zs ++ e2, ⟨?_, g1, g2⟩, rfl, inner_size_le (by rw [q2]; simp), fun y hy => ?_, ?_, rfl, ?_, ?_⟩
      · rw [← List.cons_append, chain_append]
        exact ⟨chain_hi (S := Sub (PD.turn x.c false D1) h) (fun e a b hl hs => sub_hi hl hs) hles g3, g4⟩
      · apply hkey y
        rw [q2]
        rcases List.mem_append.1 hy with hy | hy <;> simp [hy]
      · rw [hW, ← List.cons_append, sumW_append]; omega
      · have i1 := delAt_mid (zs.map Ent.lo) (e2.map Ent.lo) x.lo
        have i2 := delAt_mid (x0.c :: zs.map Ent.c) (e2.map Ent.c) x.c
        simp at i1 i2
        simp only [innerN, q2, List.tail_cons, List.map_cons, List.map_append, List.length_cons, Nat.add_sub_cancel]
        rw [i1, i2]
      · simp [innerN, q2]; omega
theorem stay_inner (hI : In D h e hi x0 es) (har : Around (x0 :: es) hi key e1 x e2) (hh : Held D e.P) {a : Ent} (hL : Less D D1 h x (nxt hi e2) (del key x.M) a) :
    ∃ z zs, e1 ++ a :: e2 = z :: zs ∧ MidT D D1 h hi e.c (x0 :: es) (z :: zs) ∧ z.lo = x0.lo ∧ innerN (z :: zs) = innerN (x0 :: es) ∧ sumW (z :: zs) ≤ sumW (x0 :: es) ∧ flatM (z :: zs) = del key e.M ∧ (∀ y ∈ zs, KeyOk D.m y.lo) := by
  have heq := har.eq
  rw [hI.P] at hh
  have hm := mid_one heq hh hI.chain hL
  have hM : flatM (e1 ++ a :: e2) = del key e.M := by rw [hI.M, har.del, flatM_append, flatM_cons, hL.M]
  have hW : sumW (x0 :: es) = sumW e1 + (x.wt + sumW e2) := by rw [heq, sumW_mid]
  have hW2 := sumW_mid e1 e2 a
  have hw := hL.wt
  have hkey := (inner_ok.1 hI.ok).2.1
  cases e1 with
  | nil =>
    injection heq with q1 q2
    subst q1; subst q2
    exact ⟨a, es, rfl, hm, hL.lo, by simp [innerN, hL.c], by simp at hW2; rw [hW2, hW]; omega, hM, hkey⟩
  | cons z zs =>
    injection heq with q1 q2
    replace q2 : es = zs ++ x :: e2 := q2
    subst q1
    refine ⟨x0, zs ++ a :: e2, rfl, hm, rfl, by simp [innerN, q2, hL.c, hL.lo], by rw [List.cons_append] at hW2; rw [hW2, hW]; omega, hM, fun y hy => ?_⟩
    rcases List.mem_append.1 hy with hy | hy
    · exact hkey y (by rw [q2]; simp [hy])
    · rcases List.mem_cons.1 hy with rfl | hy
      · rw [hL.lo]; exact hkey x (by rw [q2]; simp)
      · exact hkey y (by rw [q2]; simp [hy])
def IsNode (D : PD) (h : Nat) (e : Ent) (hi : Option Str) (n : NodeD) : Prop :=
  D.page e.c = n.bytes D.m ∧ n.Ok D.m ∧ ((h = 0 ∧ n = leafN e.M) ∨ ∃ h' x es, h = h' + 1 ∧ In D h' e hi x es ∧ n = innerN (x :: es))
theorem sub_node (hs : Sub D h e hi) : ∃ n, IsNode D h e hi n := by
  cases h with
  | zero => exact ⟨_, hs.2.2.2.1, hs.1, .inl ⟨rfl, rfl⟩⟩
  | succ h =>
    obtain ⟨x, es, hI⟩ := sub_in hs
    exact ⟨_, hI.page, hI.ok, .inr ⟨h, x, es, rfl, hI, rfl⟩⟩
theorem mend_inner {c : Nat} {p q : Ent} {f1 f2 : List Ent} {z : Ent} {zs : List Ent} (heq : z :: zs = f1 ++ p :: q :: f2) (hc : ChainW (Sub D h) hi (z :: zs)) (hh : Held D (c :: flatP (z :: zs))) (hk : ∀ y ∈ zs, KeyOk D.m y.lo)
    {na nb : NodeD} (hna : IsNode D h p (some q.lo) na) (hnb : IsNode D h q (nxt hi f2) nb) (hsz : (joinN na q.lo nb).size ≤ D.m) :
    ∃ y ys, MidT D (PD.turn q.c false (PD.putPage p.c ((joinN na q.lo nb).bytes D.m) D)) h hi c (z :: zs) (y :: ys) ∧ y.lo = z.lo ∧ (innerN (y :: ys)).size ≤ (innerN (z :: zs)).size ∧ (∀ x ∈ ys, KeyOk D.m x.lo) ∧ sumW (y :: ys) ≤ sumW (z :: zs) ∧
      flatM (y :: ys) = flatM (z :: zs) ∧ innerN (y :: ys) = ⟨false, [], delAt (innerN (z :: zs)).keys f1.length, delAt (innerN (z :: zs)).children (f1.length + 1)⟩ ∧ (joinN na q.lo nb).Ok D.m ∧ (innerN (z :: zs)).keys[f1.length]? = some q.lo := by
  have hc' := hc
  rw [heq, chain_append] at hc'
  obtain ⟨hc1, hp, hq, hc2⟩ := hc'
  have hkq : KeyOk D.m q.lo := by
    apply hk
    cases f1 with
    | nil => injection heq with _ h2; rw [h2]; simp
    | cons y f1 => injection heq with _ h2; rw [h2]; simp
  have hP : flatP (z :: zs) = flatP f1 ++ ((p.P ++ q.P) ++ flatP f2) := by rw [heq, flatP_append, flatP_cons, flatP_cons]; simp
  have hh' : Held D ((c :: flatP f1) ++ (p.P ++ q.P) ++ flatP f2) := by rw [hP] at hh; simpa using hh
  obtain ⟨j, j1, j2, j3, j4, j5, j6, j7⟩ := join_sub hp hq ⟨hna.1, hna.2.1⟩ ⟨hnb.1, hnb.2.1⟩ (by
    rcases hna.2.2 with ⟨rfl, r⟩ | ⟨h', x, es, rfl, I, r⟩
    · rcases hnb.2.2 with ⟨_, r'⟩ | ⟨h', x, es, e, _⟩
      · exact .inl ⟨rfl, r, r'⟩
      · cases e
    · rcases hnb.2.2 with ⟨e, _⟩ | ⟨h2, y, ys, e, I', r'⟩
      · cases e
      · injection e with e; subst e
        exact .inr ⟨_, x, es, y, ys, rfl, I, I', r, r'⟩) hkq hh'.mid hsz
  have hT := j6.ctx hh'
  have hnd := hh'.nodup
  have hdis : ∀ r, (r ∈ c :: flatP f1 ∨ r ∈ flatP f2) → r ∉ p.P ++ q.P := by
    rw [List.append_assoc, List.nodup_append] at hnd
    intro r hr hx
    rcases hr with hr | hr
    · exact hnd.2.2 r hr r (by rw [List.mem_append]; exact .inl hx) rfl
    · exact (List.nodup_append.1 hnd.2.1).2.2 r hx r hr rfl
  have hus : ∀ r, (r ∈ c :: flatP f1 ∨ r ∈ flatP f2) → D.used r = true := by
    intro r hr
    apply hh'.used r
    simp at hr ⊢
    rcases hr with (hr | hr) | hr <;> simp [hr]
  have hPn : flatP (f1 ++ j :: f2) = flatP f1 ++ (j.P ++ flatP f2) := by rw [flatP_append, flatP_cons]
  have hmid : MidT D (PD.turn q.c false (PD.putPage p.c ((joinN na q.lo nb).bytes D.m) D)) h hi c (z :: zs) (f1 ++ j :: f2) := by
    refine ⟨?_, by rw [hP, hPn]; simpa using hT, j6.page c (hdis c (.inl (by simp))) (hus c (.inl (by simp)))⟩
    rw [chain_append]
    refine ⟨?_, j5, ?_⟩
    · have : nxt hi (j :: f2) = nxt hi (p :: q :: f2) := by simp [nxt, j1]
      rw [this]
      exact j6.chain (fun r hr => hdis r (.inl (List.mem_cons_of_mem _ hr))) (fun r hr => hus r (.inl (List.mem_cons_of_mem _ hr))) hc1
    · exact j6.chain (fun r hr => hdis r (.inr hr)) (fun r hr => hus r (.inr hr)) hc2
  have hMM : flatM (f1 ++ j :: f2) = flatM (z :: zs) := by rw [heq, flatM_append, flatM_cons, flatM_append, flatM_cons, flatM_cons, j3]; simp
  have hWW : sumW (f1 ++ j :: f2) ≤ sumW (z :: zs) := by rw [heq, sumW_mid, sumW_mid, sumW_cons]; omega
  cases f1 with
  | nil =>
    injection heq with q1 q2
    subst q1; subst q2
    refine ⟨j, f2, hmid, j1, inner_size_le (by simp), fun x hx => hk x (by simp [hx]), hWW, hMM, ?_, j7, by simp [innerN]⟩
    simp [innerN, delAt, j2]
  | cons y f1 =>
    injection heq with q1 q2
    replace q2 : zs = f1 ++ p :: q :: f2 := q2
    subst q1
    refine ⟨z, f1 ++ j :: f2, hmid, rfl, inner_size_le (by rw [q2]; simp [j1]), fun x hx => ?_, hWW, hMM, ?_, j7, by simp [innerN, q2]⟩
    · rcases List.mem_append.1 hx with hx | hx
      · exact hk x (by rw [q2]; simp [hx])
      · rcases List.mem_cons.1 hx with rfl | hx
        · rw [j1]; exact hk p (by rw [q2]; simp)
        · exact hk x (by rw [q2]; simp [hx])
    · have i1 := delAt_mid (f1.map Ent.lo ++ [p.lo]) (f2.map Ent.lo) q.lo
      have i2 := delAt_mid (z.c :: f1.map Ent.c ++ [p.c]) (f2.map Ent.c) q.c
      simp at i1 i2
      simp only [innerN, q2, List.tail_cons, List.map_cons, List.map_append, List.length_cons]
      rw [i1, i2]
      simp [j1, j2]
end
end Go.Proofs.YtdipjakblaeekaaGreat
namespace Go.Proofs.YtdipjakblaeekaaGreat
structure Root (D : PD) (M : List KV) (c h : Nat) (e : Ent) : Prop where
  at_ : e.c = D.root
  lo : e.lo = []
  sub : Sub D h e none
  M : e.M = M
  held : Held D e.P
  used : ∀ q, D.used q = true → q ∈ e.P
  wt : e.wt ≤ c
def Bt (D : PD) (M : List KV) (c : Nat) : Prop := Good D ∧ ((D.root = 0 ∧ M = [] ∧ ∀ q, D.used q = false) ∨ ∃ h e, Root D M c h e)
def PD.cap (D : PD) : Nat := D.n - (D.own + 1)
theorem nodup_le : ∀ (l P : List Nat), l.Nodup → (∀ q ∈ l, q ∈ P) → l.length ≤ P.length
  | [], P, _, _ => Nat.zero_le _
  | x :: l, P, hn, hs => by
    have hx := hs x (by simp)
    have hn' := List.nodup_cons.1 hn
    have := nodup_le l (P.erase x) hn'.2 fun q hq => (List.mem_erase_of_ne (fun e : q = x => hn'.1 (e ▸ hq))).2 (hs q (by simp [hq]))
    rw [List.length_erase_of_mem hx] at this
    have := List.length_pos_of_mem hx
    simp; omega
theorem free_held {D : PD} {P : List Nat} (hu : ∀ q, D.used q = true → q ∈ P) {k : Nat} (hk : P.length + k ≤ D.cap) : FreeGE D k := by
  obtain ⟨l, hl⟩ : ∃ l, l = List.range' (D.own + 1) D.cap := ⟨_, rfl⟩
  have hln : l.Nodup := by rw [hl]; exact List.nodup_range'
  have hll : l.length = D.cap := by rw [hl]; simp
  have h1 : (l.filter fun q => decide (q ∈ P)).length ≤ P.length := nodup_le _ _ (hln.filter _) fun q hq => by simpa using (List.mem_filter.1 hq).2
  have h2 : l.length = (l.filter fun q => decide (q ∈ P)).length + (l.filter fun q => !decide (q ∈ P)).length := by
    clear hl hln hll h1
    induction l with
    | nil => rfl
    | cons x l ih =>
      rw [List.filter_cons, List.filter_cons]
      by_cases hx : x ∈ P
      · simp [hx]; omega
      · simp [hx]; omega
  refine FreeGE.mono (k := (l.filter fun q => !decide (q ∈ P)).length) ⟨_, hln.filter _, rfl, fun q hq => ?_⟩ (by omega)
  obtain ⟨h3, h4⟩ := List.mem_filter.1 hq
  rw [hl, List.mem_range'_1] at h3
  refine ⟨by unfold PD.is; unfold PD.cap at h3; simp; omega, ?_⟩
  cases h5 : D.used q with
  | false => rfl
  | true => have := hu q h5; simp at h4; exact (h4 this).elim
section
variable {D D1 : PD} {M : List KV} {c h : Nat} {e : Ent} {key v : Str}
theorem Bt.srt (hb : Bt D M c) : Srt M := by
  rcases hb.2 with ⟨_, rfl, _⟩ | ⟨h, e, hr⟩
  · exact List.Pairwise.nil
  · rw [← hr.M]; exact (sub_facts hr.sub).srt
theorem Bt.mono (hb : Bt D M c) {c' : Nat} (hc : c ≤ c') : Bt D M c' := ⟨hb.1, hb.2.imp id fun ⟨h, e, hr⟩ => ⟨h, e, hr.at_, hr.lo, hr.sub, hr.M, hr.held, hr.used, Nat.le_trans hr.wt hc⟩⟩
theorem Root.may (hr : Root D M c h e) : D.is D.root = true ∧ D.used D.root = true := by
  obtain ⟨P, hP⟩ := sub_c hr.sub
  have : D.root ∈ e.P := by rw [hP, hr.at_]; simp
  exact ⟨hr.held.is _ this, hr.held.used _ this⟩
theorem Root.ne0 (hr : Root D M c h e) : D.root ≠ 0 := by
  have := hr.may.1
  unfold PD.is at this
  simp at this; omega
theorem Root.free (hr : Root D M c h e) (hc : c + 1 ≤ D.cap) : FreeGE D (1 + e.f) := by
  have := hr.wt
  unfold Ent.wt at this
  exact free_held hr.used (by omega)
theorem turned_used {D : PD} {P P' : List Nat} (ht : Turned D D1 P P') (hu : ∀ q, D.used q = true → q ∈ P) : ∀ q, D1.used q = true → q ∈ P' := by
  intro q hq
  rcases (ht.used q).1 hq with h1 | ⟨h1, h2⟩
  · exact h1
  · exact (h2 (hu q h1)).elim
theorem Root.made_one (hr : Root D M c h e) (hg : Good D) {k : Nat} {a : Ent} {part : Str × Nat} {M' : List KV} (hL : MadeT D D1 h e.lo e.c none M' e.P (e.wt + 2) k [a] part) : Bt D1 M' (c + 1) := by
  obtain ⟨a', L', hL', hal, hac⟩ := hL.head
  injection hL' with h1 h2
  subst h1
  have hT : Turned D D1 e.P a.P := by simpa [flatP] using hL.T
  have hw := hL.wt
  have hwe := hr.wt
  simp [sumW] at hw
  exact ⟨hg.same hT.m hT.n, .inr ⟨h, a, hac.trans (hr.at_.trans hT.root.symm), hal.trans hr.lo, hL.chain.1, by simpa [flatM] using hL.M, hT.held, turned_used hT hr.used, by omega⟩⟩
def rootD (c : Nat) (n : NodeD) (D : PD) : PD := { PD.putPage c (n.bytes D.m) (PD.putPage c (DD.zero D.m) (PD.turn c true D)) with root := c }
theorem Root.made_two (hr : Root D M c h e) (hg : Good D) {k : Nat} {a b : Ent} {part : Str × Nat} {M' : List KV} (hL : MadeT D D1 h e.lo e.c none M' e.P (e.wt + 2) k [a, b] part) {r : Nat} (h1 : D1.is r = true) (h2 : D1.used r = false)
    {n : NodeD} (hn : n = ⟨false, [], [b.lo], [e.c, b.c]⟩) : Bt (rootD r n D1) M' (c + 1) ∧ n.Ok D1.m := by
  obtain ⟨a', L', hL', hal, hac⟩ := hL.head
  injection hL' with q1 q2
  subst q1
  have hn' : n = innerN [a, b] := by rw [hn, ← hac]; rfl
  have hmm := hL.T.m
  have hg1 := hg.same hmm hL.T.n
  have hh := hL.T.held
  have hT := turned_take hh h1 h2 (n.bytes D1.m)
  have hkb : KeyOk D1.m b.lo := by rw [hmm]; exact hL.key b (by simp)
  have hP : flatP [a, b] = a.P ++ b.P := by simp [flatP]
  obtain ⟨Pa, hPa⟩ := sub_c hL.chain.1
  obtain ⟨Pb, hPb⟩ := sub_c hL.chain.2.1
  have hmost := most_le D1.m hg1.m1
  have hb1 := hkb.2.2
  have hsz : (innerN [a, b]).size = 10 + b.lo.length := by rw [inner_size]; simp [szK]; omega
  have hok : (innerN [a, b]).Ok D1.m := inner_ok.2 ⟨by omega, fun y hy => by simp at hy; subst hy; exact hkb, fun y hy => by
    simp at hy
    rcases hy with rfl | rfl
    · exact hg1.kid (hh.is _ (by rw [hP, hPa]; simp))
    · exact hg1.kid (hh.is _ (by rw [hP, hPb]; simp)), by simp⟩
  have hfull : full (innerN [a, b]) D1.m = 0 := by unfold full; rw [if_neg (by omega)]
  have hur : ∀ q ∈ flatP [a, b], q ≠ r := fun q hq e' => by have := hh.used q hq; rw [e', h2] at this; cases this
  have hw := hL.wt
  have hwe := hr.wt
  have hsw := sumW_eq [a, b]
  simp [sumW] at hw
  simp only [sumW, List.map_cons, List.map_nil, List.sum_cons, List.sum_nil] at hsw
  refine ⟨⟨hg1.same rfl rfl, .inr ⟨h + 1, ⟨[], r, M', r :: flatP [a, b], sumF [a, b]⟩, rfl, rfl, ⟨a, [b], hal.trans hr.lo, hok, ?_, ?_, hL.M.symm, rfl, by show sumF [a, b] = full (innerN [a, b]) D1.m + sumF [a, b]; rw [hfull]; omega⟩, rfl, ?_, ?_, ?_⟩⟩, by rw [hn']; exact hok⟩
  · refine hL.chain.imp fun y hy hi hs => sub_frame (D := D1) (D' := rootD r n D1) rfl (fun q hq => ?_) hs
    have := hur q (List.mem_flatMap.2 ⟨y, hy, hq⟩)
    show (PD.putPage r _ _).page q = _
    rw [page_put_ne this, page_put_ne this]; rfl
  · show (PD.putPage r _ _).page r = _
    rw [page_put, hn']; rfl
  · exact ⟨hT.held.nodup, fun q hq => hT.held.is q hq, fun q hq => hT.held.used q hq⟩
  · intro q hq
    exact turned_used hT (turned_used hL.T hr.used) q hq
  · unfold Ent.wt
    simp only [List.length_cons]
    omega
theorem bt_first (hg : Good D) (hu : ∀ q, D.used q = false) {r : Nat} (h1 : D.is r = true) (hp : PairOk D.m (key, v)) (c : Nat) : Bt (rootD r (leafN [(key, v)]) D) [(key, v)] (c + 1) ∧ (leafN [(key, v)]).Ok D.m := by
  have hmost := most_le D.m hg.m1
  have hkv := hp.2.2.2
  simp only at hkv
  have hok : (leafN [(key, v)]).Ok D.m := leaf_ok.2 ⟨by simp [NodeD.sizeP]; omega, fun p hp' => by simp at hp'; subst hp'; exact hp, by simp [Srt]⟩
  have hfull : full (leafN [(key, v)]) D.m = 0 := by unfold full; rw [if_neg (by simp [NodeD.size, leafN, NodeD.sizeP, NodeD.sizeK]; omega)]
  refine ⟨⟨hg.same rfl rfl, .inr ⟨0, ⟨[], r, [(key, v)], [r], 0⟩, rfl, rfl, ⟨hok, by simp, fun x hx => ?_, ?_, rfl, hfull.symm⟩, rfl, ⟨by simp, fun q hq => ?_, fun q hq => ?_⟩, fun q hq => ?_, by simp [Ent.wt]⟩⟩, hok⟩
  · exact ⟨nil_les _, trivial⟩
  · show (PD.putPage r _ _).page r = _
    rw [page_put]; rfl
  · simp at hq; subst hq; exact h1
  · simp at hq; subst hq; simp [rootD, PD.putPage, PD.turn]
  · simp [rootD, PD.putPage, PD.turn] at hq
    rcases hq with hq | hq
    · simp [hq]
    · rw [hu q] at hq; cases hq
theorem Root.less (hr : Root D M c h e) {a : Ent} (hL : Less D D1 h e none (del key M) a) : Root D1 (del key M) c h a :=
  ⟨hL.c.trans (hr.at_.trans hL.T.root.symm), hL.lo.trans hr.lo, hL.sub, hL.M, hL.T.held, turned_used hL.T hr.used, Nat.le_trans hL.wt hr.wt⟩
theorem Root.emptied (hr : Root D M c h e) (hg : Good D) (hT : Turned D D1 e.P [e.c]) (hd : del key M = []) : Bt (PD.turn e.c false { D1 with root := 0 }) (del key M) c := by
  refine ⟨hg.same hT.m hT.n, .inl ⟨rfl, hd, fun q => ?_⟩⟩
  simp only [PD.turn]
  split
  · rfl
  · rename_i hne
    cases hq : D1.used q with
    | false => rfl
    | true => have := turned_used hT hr.used q hq; simp at this; exact (hne this).elim
theorem Root.lower {x0 : Ent} (hr : Root D M c (h + 1) e) (hI : In D h e none x0 []) : Root (PD.turn e.c false { D with root := x0.c }) M c h x0 ∧ x0.c ≠ e.c ∧ D.is x0.c = true ∧ D.used x0.c = true := by
  have hP : e.P = e.c :: x0.P := by rw [hI.P]; simp [flatP]
  have hh := hr.held
  rw [hP] at hh
  have hn := List.nodup_cons.1 hh.nodup
  obtain ⟨P, hx⟩ := sub_c hI.chain.1
  have hxm : x0.c ∈ x0.P := by rw [hx]; simp
  have hne : x0.c ≠ e.c := fun e' => hn.1 (e' ▸ hxm)
  have hwe := hr.wt
  have hw := hI.wt
  simp [sumW] at hw
  refine ⟨⟨rfl, hI.lo.trans hr.lo, sub_frame (D := D) (D' := PD.turn e.c false { D with root := x0.c }) rfl (fun _ _ => rfl) hI.chain.1, by rw [← hr.M, hI.M]; simp [flatM], ⟨hn.2, fun q hq => hh.is q (by simp [hq]), fun q hq => ?_⟩, fun q hq => ?_, by omega⟩, hne, hh.is _ (by simp [hxm]), hh.used _ (by simp [hxm])⟩
  · simp only [PD.turn]
    rw [if_neg (fun e' : q = e.c => hn.1 (e' ▸ hq))]
    exact hh.used q (by simp [hq])
  · simp only [PD.turn] at hq
    split at hq
    · cases hq
    · rename_i hne'
      have := hr.used q hq
      rw [hP] at this
      rcases List.mem_cons.1 this with h1 | h1
      · exact (hne' h1).elim
      · exact h1
theorem Root.bt (hr : Root D M c h e) (hg : Good D) : Bt D M c := ⟨hg, .inr ⟨h, e, hr⟩⟩
def Mays (D : PD) (P : List Nat) : Prop := ∀ q ∈ P, D.is q = true ∧ D.used q = true
structure Way (D : PD) (M : List KV) (key : Str) (h : Nat) (x : Ent) (hi : Option Str) (right : Nat) : Prop where
  sub : Sub D h x hi
  lo : les x.lo key
  bel : bel key hi
  split : ∃ A B, M = A ++ (x.M ++ B) ∧ (∀ y ∈ A, lts y.1 key) ∧ (∀ y ∈ B, lts key y.1) ∧
    ((right = 0 ∧ B = []) ∨ ∃ h' y hi' B', Sub D h' y hi' ∧ y.c = right ∧ B = y.M ++ B' ∧ right ≠ 0 ∧ Mays D y.P)
theorem next_leaf {ps : List KV} {i : Nat} {is : Bool} (hp : PlaceP ps key i is) : next key ps = ps[i + if is then 1 else 0]? := by
  obtain ⟨a, b, rfl, rfl, ha, hb⟩ := hp
  rw [next_left fun y hy => lts_les (ha y hy)]
  cases is with
  | true =>
    obtain ⟨v, c, rfl, hc⟩ := hb
    rw [next, if_neg (lts_irrefl key)]
    cases c with
    | nil => simp [next]
    | cons y c =>
      rw [next, if_pos (hc y (by simp))]
      simp
  | false =>
    rw [if_neg (by simp)] at hb
    cases b with
    | nil => simp [next]
    | cons y b => rw [next, if_pos (hb y (by simp))]; simp
theorem Way.get {x : Ent} {hi : Option Str} {right : Nat} (hw : Way D M key h x hi right) : get key M = get key x.M := by
  obtain ⟨A, B, rfl, hA, hB, _⟩ := hw.split
  rw [get_append, get_append, get_none fun y hy => lts_ne (hA y hy), get_none (M := B) fun y hy e => lts_irrefl key (by have := hB y hy; rwa [e] at this)]
  cases Go.Proofs.YtdipjakblaeekaaGreat.get key x.M <;> rfl
theorem head_next {B : List KV} (hB : ∀ y ∈ B, lts key y.1) : next key B = B.head? := by
  cases B with
  | nil => rfl
  | cons y B => rw [next, if_pos (hB y (by simp))]; rfl
theorem Way.next0 {x : Ent} {hi : Option Str} (hw : Way D M key h x hi 0) : next key M = next key x.M := by
  obtain ⟨A, B, rfl, hA, hB, ho⟩ := hw.split
  rcases ho with ⟨_, rfl⟩ | ⟨_, _, _, _, _, _, _, h0, _⟩
  · rw [next_left fun y hy => lts_les (hA y hy), List.append_nil]
  · exact (h0 rfl).elim
theorem Way.next1 {x : Ent} {hi : Option Str} {right : Nat} (hw : Way D M key h x hi right) (h0 : right ≠ 0) : ∃ h' y hi', Sub D h' y hi' ∧ y.c = right ∧ Mays D y.P ∧ next key M = (next key x.M).or y.M.head? := by
  obtain ⟨A, B, rfl, hA, hB, ho⟩ := hw.split
  rcases ho with ⟨e, rfl⟩ | ⟨h', y, hi', B', s1, s2, rfl, _, hmy⟩
  · exact (h0 e).elim
  · refine ⟨h', y, hi', s1, s2, hmy, ?_⟩
    rw [next_left fun y hy => lts_les (hA y hy), next_append, head_next hB, List.head?_append]
    have := (sub_facts s1).ne
    cases hy : y.M with
    | nil => exact (this hy).elim
    | cons z l => rfl
theorem Way.down {x x0 : Ent} {es : List Ent} {hi : Option Str} {right i : Nat} (hw : Way D M key (h + 1) x hi right) (hI : In D h x hi x0 es) (hp : PlaceK (innerN (x0 :: es)).keys key i) (h0 : ∀ e ∈ x0 :: es, e.c ≠ 0) (hP : Mays D x.P) :
    ∃ y hi', y ∈ x0 :: es ∧ (innerN (x0 :: es)).children[i]? = some y.c ∧ Way D M key h y hi' ((innerN (x0 :: es)).children.getD (i + 1) right) := by
  obtain ⟨e1, y, e2, har, hl⟩ := around hI.chain (by rw [hI.lo]; exact hw.lo) hw.bel (by simpa [innerN] using hp)
  obtain ⟨A, B, hM, hA, hB, ho⟩ := hw.split
  have heq := har.eq
  have hch : (innerN (x0 :: es)).children = e1.map Ent.c ++ y.c :: e2.map Ent.c := by
    show (List.map Ent.c (x0 :: es)) = _
    rw [heq]; simp
  have hc := hI.chain
  rw [heq, chain_append] at hc
  refine ⟨y, nxt hi e2, by rw [heq]; simp, by rw [hch, ← hl]; simp, hc.2.1, har.lo, har.bel, A ++ flatM e1, flatM e2 ++ B, ?_, fun z hz => ?_, fun z hz => ?_, ?_⟩
  · rw [hM, hI.M, heq, flatM_append, flatM_cons]; simp
  · rcases List.mem_append.1 hz with hz | hz
    · exact hA z hz
    · exact har.ahead z hz
  · rcases List.mem_append.1 hz with hz | hz
    · exact har.behind z hz
    · exact hB z hz
  · have hgd : (innerN (x0 :: es)).children.getD (i + 1) right = (e2.map Ent.c).getD 0 right := by
      rw [hch, ← hl, List.getD_eq_getElem?_getD, List.getD_eq_getElem?_getD, List.getElem?_append_right (by simp)]
      simp
    rw [hgd]
    cases e2 with
    | nil =>
      simp only [flatM_nil, List.nil_append, List.map_nil, List.getD_nil]
      exact ho
    | cons z e2 =>
      right
      refine ⟨h, z, _, flatM e2 ++ B, hc.2.2.1, rfl, by rw [flatM_cons]; simp, ?_⟩
      refine ⟨h0 z (by rw [heq]; simp), fun q hq => hP q ?_⟩
      rw [hI.P]
      exact List.mem_cons_of_mem _ (List.mem_flatMap.2 ⟨z, by rw [heq]; simp, hq⟩)
end
end Go.Proofs.YtdipjakblaeekaaGreat
namespace Go.Proofs.YtdipjakblaeekaaGreat
open Go.RowKit Go.Proofs
set_option maxRecDepth 20000
section
variable {w w' : World} {R G F N S : Nat → Prop} {X : XC} {raw : Bool} {t pg mo : Nat} {bv wv rv rv' : Value} {bl rb bl' rb' : List UInt8} {f f' : Int → Option Value} {D D' : PD}
def beginD (X : XC) (n m own : Nat) : PD := ⟨n, m, own, fun q => decide (own < q ∧ q < n) && bit (X.bits own) q, X.blk, le4 (X.blk own)⟩
structure PgIn (w : World) (G : Nat → Prop) (X : XC) (pg : Nat) (D : PD) : Prop where
  wal : WalIn w G X.a X.b X.W
  blk : Blk w pg 149 #[.pointer (some ⟨X.a, 0, none⟩), .int .i64 (D.n : Int), .int .i64 (D.m : Int), .int .i64 (D.own : Int), .pointer none]
  off : ¬ G pg
  base : Base X D
  eq : D = beginD X D.n D.m D.own
def Opened (w : World) (G : Nat → Prop) (X : XC) (D : PD) (e : Ending) (w' : World) : Prop :=
  ∃ pg, e = .returned (.tuple #[.pointer (some ⟨pg, 0, none⟩), .int .i64 0]) ∧ PgIn w' G X pg D ∧ Only NoB w w' ∧ w.heap.size ≤ pg
set_option maxHeartbeats 1000000 in
theorem popen_ok (h : WalIn w G X.a X.b X.W) (hb : Base X D) (heq : D = beginD X D.n D.m D.own) : Calls Tryz.prog 47 #[.pointer (some ⟨X.a, 0, none⟩)] w (Opened w G X D) := by
  have hS := wsize_any h
  rw [← hb.n, ← hb.m] at hS
  have HS := Lib.hid hS
  have hnl := hb.nle
  have hml := hb.mle
  have hroom := hb.room
  obtain ⟨n, hn⟩ : ∃ n, n = D.n := ⟨_, rfl⟩
  obtain ⟨m, hm⟩ : ∃ m, m = D.m := ⟨_, rfl⟩
  obtain ⟨o, ho⟩ : ∃ o, o = D.own := ⟨_, rfl⟩
  have ho2 : o = (n + 8 * m - 1) / (8 * m) := by rw [ho, hn, hm]; exact hb.own
  have hpos : 0 < 8 * m := by omega
  have hdiv : ((n : Int) + 8 * (m : Int) - 1) / (8 * (m : Int)) = (o : Int) := by
    rw [ho2]
    have : ((n : Int) + 8 * (m : Int) - 1) = ((n + 8 * m - 1 : Nat) : Int) := by omega
    rw [this]
    have : (8 * (m : Int)) = ((8 * m : Nat) : Int) := by omega
    rw [this]
    exact (Int.natCast_ediv _ _).symm
  have hdiv2 : ((n : Int) + 8 * (m : Int) - 1).tdiv (8 * (m : Int)) = (o : Int) := by rw [Int.tdiv_eq_ediv_of_nonneg (by omega)]; exact hdiv
  have hlt : decide ((n : Int) < (o : Int) + 2) = false := by simp; omega
  rw [← hn, ← hm] at HS
  have H := Lib.hid h
  have HB := Lib.hid hb
  have HEQ := Lib.hid heq
  have HN := Lib.hid hn
  have HM := Lib.hid hm
  have HO := Lib.hid ho
  rw [← hn] at hnl hroom
  rw [← hm] at hml
  rw [← ho] at hroom
  clear h hb heq hS ho2 hn hm ho
  go_enter Tryz.func47, Tryz.ntmps47
  go_wp2_with fail
  refine HS.out.mono ?_
  rintro e w1 ⟨rfl, rfl⟩
  go_wp2_with fail
  go_ret2
  have ho1 : Only NoB w (w.drew.alloc (.cells #[.pointer (some ⟨X.a, 0, none⟩), .int .i64 (n : Int), .int .i64 (m : Int), .int .i64 (o : Int), .pointer none] 149)) := ((Only.refl NoB w).drew).alloc _
  refine ⟨w.heap.size, rfl, ⟨H.out.quit ho1, ?_, fun hg => by have := H.out.disk.1 _ hg; omega, HB.out, HEQ.out⟩, ho1, Nat.le_refl _⟩
  rw [← HN.out, ← HM.out, ← HO.out]
  exact Blk.new w.drew _ _
def Begun (w : World) (X : XC) (D : PD) (F0 : Nat → Prop) (e : Ending) (w' : World) : Prop :=
  ∃ t F, e = .returned (.pointer (some ⟨t, 0, none⟩)) ∧ TxQ true w' F X t D ∧ Only F0 w w' ∧ ∀ k, F k → F0 k ∨ w.heap.size ≤ k
set_option maxHeartbeats 1000000 in
theorem begin_ok (h : PgIn w G X pg D) : Calls Tryz.prog 48 #[.pointer (some ⟨pg, 0, none⟩)] w (Begun w X D (fun k => G k ∨ k = X.a ∨ k = pg)) := by
  have c4 : w.cell? ⟨pg, 4, none⟩ = some (.pointer none) := h.blk.cell 4
  have f4 := h.blk.frozen 4
  have hmm := fun w => @run_makeMap Tryz.prog w
  have hpl := h.blk.lt
  have H := Lib.hid h
  clear h
  have k4 : ((w.alloc (.map #[] 0)).alloc (.cells (txCells pg w.heap.size nilS nilS nilS) 151)).cell? ⟨pg, 4, none⟩ = some (.pointer none) := by
    rw [World.cell?_alloc_lt _ _ _ (by show pg < _; simp; omega), World.cell?_alloc_lt _ _ _ (by show pg < _; exact hpl)]; exact c4
  have k4f : ((w.alloc (.map #[] 0)).alloc (.cells (txCells pg w.heap.size nilS nilS nilS) 151)).frozen? ⟨pg, 4, none⟩ = false := by
    have : Blk ((w.alloc (.map #[] 0)).alloc (.cells (txCells pg w.heap.size nilS nilS nilS) 151)) pg _ _ := (H.out.blk.alloc _).alloc _
    exact this.frozen 4
  unfold txCells nilS at k4 k4f
  go_enter Tryz.func48, Tryz.ntmps48
  go_wp2_with fail
  go_ret
  obtain ⟨n, m, own, hD⟩ : ∃ n m own, D = beginD X n m own := ⟨_, _, _, H.out.eq⟩
  have hB := H.out.base
  subst hD
  obtain ⟨W1, hW1⟩ : ∃ W1, W1 = ((w.setCell ⟨pg, 4, none⟩ (.pointer (some ⟨w.heap.size + 1, 0, none⟩))).alloc (.map #[] 0)).alloc (.cells (txCells pg w.heap.size nilS nilS nilS) 151) := ⟨_, rfl⟩
  have ho : Only (fun k => k = pg) w W1 := by
    rw [hW1]
    exact (((Only.refl (fun k => k = pg) w).setCell (p := ⟨pg, 4, none⟩) (.inl rfl) _).alloc _).alloc _
  have hsz : W1.heap.size = w.heap.size + 2 := by rw [hW1]; simp [World.setCell]
  have hGl := H.out.wal.disk.1
  have hal := H.out.wal.blk.lt
  have htb : Blk W1 (w.heap.size + 1) 151 (txCells pg w.heap.size nilS nilS nilS) := by
    rw [hW1]
    have := Blk.new ((w.setCell ⟨pg, 4, none⟩ (.pointer (some ⟨w.heap.size + 1, 0, none⟩))).alloc (.map #[] 0)) 151 (txCells pg w.heap.size nilS nilS nilS)
    rw [World.size_alloc, World.size_setCell] at this
    exact this
  have hpb : Blk W1 pg 149 (pgCells X.a (w.heap.size + 1) (beginD X n m own)) := by
    rw [hW1]
    exact ((H.out.blk.set_ 4 _).alloc _).alloc _
  have hmap : UMap W1 w.heap.size (fun _ => none) := by
    have h1 := UMap.made (w.setCell ⟨pg, 4, none⟩ (.pointer (some ⟨w.heap.size + 1, 0, none⟩)))
    rw [World.size_setCell] at h1
    rw [hW1]
    exact h1.keep (Below.heap_alloc _ _ _ (by simp))
  have hne : X.a ≠ pg := H.out.wal.blk.ne_ H.out.blk (by decide)
  refine ⟨w.heap.size + 1, fun k => (G k ∨ k = X.a ∨ k = pg) ∨ k = w.heap.size ∨ k = w.heap.size + 1, rfl, ?_, ?_, ?_⟩
  · show TxQ true _ _ _ _ _
    change TxQ true (((w.setCell ⟨pg, 4, none⟩ (.pointer (some ⟨w.heap.size + 1, 0, none⟩))).alloc (.map #[] 0)).alloc (.cells (txCells pg w.heap.size nilS nilS nilS) 151)) _ _ _ _
    rw [← hW1]
    refine ⟨?_, fun _ => False, G, pg, w.heap.size, nilS, nilS, nilS, X.bits own, X.blk own, fun _ => none, ⟨hB, ?_, htb, hpb, ⟨hB.bits_len own, fun q hq => ?_, rfl, rfl, rfl⟩, hmap, ⟨(fun q v hq => by cases hq), fun q hq _ => rfl⟩, ⟨hB.blk_len own, rfl, .inl ⟨rfl, rfl⟩⟩, fun _ hk => hk.elim, fun _ hk => hk.elim, ?_⟩, ?_⟩
    · rintro k ((hk | rfl | rfl) | rfl | rfl)
      · have := hGl k hk; omega
      · omega
      · omega
      · omega
      · omega
    · refine H.out.wal.only ho fun k hk e => ?_
      subst e
      rcases hk with hk | hk
      · exact H.out.off hk
      · exact hne hk.symm
    · unfold PD.is beginD at hq
      unfold beginD
      simp only at hq ⊢
      rw [hq, Bool.true_and]
    · refine ⟨fun hg => ?_, H.out.off, fun hg => ?_, fun g hg => by cases hg⟩
      · have := hGl _ hg; omega
      · have := hGl _ hg; omega
    · rintro k (hk | hk | hk | hk | hk | hk | hk)
      · exact hk.elim
      · exact .inl (.inl hk)
      · exact .inl (.inr (.inl hk))
      · exact .inr (.inr hk)
      · exact .inl (.inr (.inr hk))
      · exact .inr (.inl hk)
      · cases hk
  · change Only _ w (((w.setCell ⟨pg, 4, none⟩ (.pointer (some ⟨w.heap.size + 1, 0, none⟩))).alloc (.map #[] 0)).alloc (.cells (txCells pg w.heap.size nilS nilS nilS) 151))
    rw [← hW1]
    exact ho.mono fun k _ hk => .inr (.inr hk)
  · rintro k (hk | hk | hk)
    · exact .inl hk
    · exact .inr (by omega)
    · exact .inr (by omega)
def freshX (a b n m : Nat) : XC := ⟨a, b, ⟨DD.new (n + 2) m, 1, false⟩⟩
def ownOf (n m : Nat) : Nat := (n + 8 * m - 1) / (8 * m)
def freshD (n m : Nat) : PD := ⟨n, m, ownOf n m, fun _ => false, fun _ => DD.zero m, 0⟩
theorem zero_getD (m i : Nat) : (DD.zero m).getD i 0 = 0 := by
  unfold DD.zero
  rw [List.getD_eq_getElem?_getD, List.getElem?_replicate]
  split <;> rfl
theorem fresh_blk (a b n m s : Nat) : (freshX a b n m).blk s = DD.zero m := rfl
theorem fresh_bits (a b n m : Nat) : ∀ k i, ((freshX a b n m).bits k).getD i 0 = 0
  | 0, i => by simp [XC.bits]
  | k + 1, i => by
    rw [XC.bits, List.getD_eq_getElem?_getD, List.getElem?_append]
    split
    · rw [← List.getD_eq_getElem?_getD]; exact fresh_bits a b n m k i
    · rw [← List.getD_eq_getElem?_getD]; exact zero_getD _ _
theorem fresh_begin (a b n m : Nat) : beginD (freshX a b n m) n m (ownOf n m) = freshD n m := by
  unfold beginD freshD
  have h1 : ∀ q, bit ((freshX a b n m).bits (ownOf n m)) q = false := fun q => by
    unfold bit; rw [fresh_bits]; simp
  simp only [h1, Bool.and_false]
  congr 1
  unfold le4
  rw [fresh_blk]
  rw [zero_getD, zero_getD, zero_getD, zero_getD]
  rfl
theorem fresh_base {a b n m : Nat} (h3 : 16 ≤ m) (h4 : m ≤ 4096) (hn : n + 2 ≤ 65536) (hroom : ownOf n m + 2 ≤ n) : Base (freshX a b n m) (freshD n m) :=
  ⟨rfl, rfl, by show n = n + 2 - 1 - 1; omega, rfl, rfl, hroom, DD.Wf.new (by omega) hn h3 h4, (fun _ h => by cases h), (fun _ h => by cases h), by show 0 < 4294967296; decide⟩
theorem fresh_bt {n m : Nat} (h3 : 64 ≤ m) (h4 : m ≤ 4096) (hn : n ≤ 65536) : Bt (freshD n m) [] 0 := ⟨⟨h3, h4, hn⟩, .inl ⟨rfl, rfl, fun _ => rfl⟩⟩
end
end Go.Proofs.YtdipjakblaeekaaGreat
namespace Go.Proofs.YtdipjakblaeekaaGreat
open Go.RowKit Go.Proofs
set_option maxRecDepth 20000
section
variable {w w' : World} {F N K : Nat → Prop} {X : XC} {t x p r : Nat} {D D' : PD} {n : NodeD} {v pv kv cv : Value}
structure TreeAt (w : World) (F : Nat → Prop) (X : XC) (x t : Nat) (D : PD) : Prop where
  tx : TxLd w F X t D
  blk : Blk w x 120 #[.pointer (some ⟨t, 0, none⟩), .int .i64 D.m]
  out : ¬ F x
  m : 64 ≤ D.m
def DeedX (w : World) (F : Nat → Prop) (X : XC) (x t : Nat) (v : Value) (D' : PD) (e : Ending) (w' : World) : Prop :=
  e = .returned v ∧ ∃ F', TreeAt w' F' X x t D' ∧ Only F w w' ∧ Grows F F' w
theorem TxQ.mle {raw : Bool} (h : TxQ raw w F X t D) : 16 ≤ D.m ∧ D.m ≤ 4096 := by obtain ⟨_, R, G, pg, mo, bv, wv, rv, bl, rb, f, h, _⟩ := h; exact h.base.mle
theorem TreeAt.mle (h : TreeAt w F X x t D) : D.m ≤ 4096 := h.tx.mle.2
theorem TreeAt.quit (h : TreeAt w F X x t D) (ho : Only NoB w w') : TreeAt w' F X x t D := ⟨TxQ.only h.tx ho fun _ _ => id, h.blk.only ho id, h.out, h.m⟩
theorem TreeAt.deed (h : TreeAt w F X x t D) (hm : D'.m = D.m) {F' : Nat → Prop} (ht : TxLd w' F' X t D') (ho : Only F w w') (hg : Grows F F' w) : TreeAt w' F' X x t D' :=
  ⟨ht, by rw [hm]; exact h.blk.only ho h.out, fun hx => by rcases hg x hx with h1 | h1; (· exact h.out h1); (· have := h.blk.lt; omega), by rw [hm]; exact h.m⟩
def LoadOut (w : World) (F : Nat → Prop) (X : XC) (x t : Nat) (D : PD) (n : NodeD) (e : Ending) (w' : World) : Prop :=
  ∃ pv kv cv, e = .returned (.tuple #[nodeV n.leaf pv kv cv, .int .i64 0]) ∧ NodeO w' (From w.heap.size) pv kv cv n ∧ TreeAt w' F X x t D ∧ Only F w w'
theorem only_new2 {w0 : World} (h : Only F w0 w) (h6 : Only (fun k => k = w0.heap.size) w w') : Only F w0 w' := h.trans' h6 fun i hi hk => by omega
set_option maxHeartbeats 1000000 in
theorem load_ok (h : TreeAt w F X x t D) (hp : D.is p = true) (hu : D.used p = true) (hpg : D.page p = n.bytes D.m) (hok : n.Ok D.m) (hne : n.leaf = true → n.pairs ≠ []) :
    Calls Tryz.prog 90 #[.pointer (some ⟨x, 0, none⟩), .int .i64 p] w (LoadOut w F X x t D n) := by
  obtain ⟨W1, hW1⟩ : ∃ W1, W1 = w.alloc (.cells #[.bool false, .slice none 0 0, .slice none 0 0, .slice none 0 0] 117) := ⟨_, rfl⟩
  have ho1 : Only NoB w W1 := by rw [hW1]; exact (Only.refl NoB w).alloc _
  have hs1 : W1.heap.size = w.heap.size + 1 := by rw [hW1]; simp
  have hB : Blk W1 w.heap.size 117 #[.bool false, .slice none 0 0, .slice none 0 0, .slice none 0 0] := by rw [hW1]; exact Blk.new w _ _
  have h1 := h.quit ho1
  have hrd := pread_any h1.tx p hp hu
  rw [hpg] at hrd
  have HR := Lib.hid hrd
  have c0 : W1.cell? ⟨x, 0, none⟩ = some (.pointer (some ⟨t, 0, none⟩)) := h1.blk.cell 0
  rw [hW1] at c0
  have hFw : ¬ F w.heap.size := fun hf => by have := h.tx.1 _ hf; omega
  have hxw : x ≠ w.heap.size := fun e => by have := h.blk.lt; omega
  have HX := Lib.hid hxw
  have H1 := Lib.hid h1
  have HB := Lib.hid hB
  have HO1 := Lib.hid ho1
  have HW1 := Lib.hid hW1
  have HS1 := Lib.hid hs1
  have HOK := Lib.hid hok
  have HNE := Lib.hid hne
  have HM := Lib.hid h.m
  have HM2 := Lib.hid h.mle
  clear h h1 hB ho1 hW1 hrd hok hne hs1 hpg hxw
  go_enter Tryz.func90, Tryz.ntmps90
  go_wp2_with fail
  rw [← HW1.out]
  refine HR.out.mono ?_
  rintro e w2 ⟨v2, rfl, hb2, ht2, ho2⟩
  have HP := Lib.hid (parse_ok hb2 HOK.out HNE.out HM.out HM2.out)
  have HT2 := Lib.hid ht2
  have HO2 := Lib.hid ho2
  clear hb2 ht2 ho2 c0
  go_wp2_with fail
  refine HP.out.mono ?_
  rintro e w3 ⟨pv, kv, cv, rfl, hnd, ho3⟩
  obtain ⟨pA, pc, kA, kc, cA, cc, rfl, rfl, rfl⟩ := hnd.r.shape
  have hbo := (HB.out.only HO2.out hFw).only ho3 id
  have o0 := hbo.cell 0
  have o1 := hbo.cell 1
  have o2 := hbo.cell 2
  have o3 := hbo.cell 3
  have p0 := hbo.frozen 0
  have p1 := hbo.frozen 1
  have p2 := hbo.frozen 2
  have p3 := hbo.frozen 3
  have HBO := Lib.hid hbo
  have HND := Lib.hid hnd
  have HO3 := Lib.hid ho3
  clear hbo hnd ho3
  unfold nodeV
  go_wp2_with fail
  (try simp only [Exit.inBlock, Exit.then])
  have hbf : Blk _ w.heap.size 117 _ := (((HBO.out.set_ 0 (.bool n.leaf)).set_ 1 (.slice pA n.pairs.length pc)).set_ 2 (.slice kA n.keys.length kc)).set_ 3 (.slice cA n.children.length cc)
  refine bodyPost_ret (results_row_tmp rfl _ _ w.heap.size 117 _ rfl hbf (by kernel_rfl) (by kernel_rfl)) rfl ?_
  clear o0 o1 o2 o3 p0 p1 p2 p3
  have hs2 := HO2.out.size
  have hs1 := HS1.out
  have hst : Only (fun k => k = w.heap.size) w3 _ := ((((Only.refl (fun k => k = w.heap.size) w3).setCell (p := ⟨w.heap.size, 0, none⟩) (.inl rfl) (.bool n.leaf)).setCell (p := ⟨w.heap.size, 1, none⟩) (.inl rfl) (.slice pA n.pairs.length pc)).setCell (p := ⟨w.heap.size, 2, none⟩) (.inl rfl) (.slice kA n.keys.length kc)).setCell (p := ⟨w.heap.size, 3, none⟩) (.inl rfl) (.slice cA n.children.length cc)
  have ho3 : Only F w w3 := ((HO1.out.mono fun _ _ h => h.elim).trans HO2.out).trans (HO3.out.mono fun _ _ h => h.elim)
  refine ⟨_, _, _, rfl, (HND.out.only hst fun k hk e => ?_).mono fun k hk _ => ?_, ?_, ?_⟩
  · unfold From at hk; omega
  · unfold From at hk ⊢; omega
  · have hx := H1.out
    have hxl := hx.blk.lt
    have ht3 := TxQ.only (TxQ.only HT2.out HO3.out fun _ _ => id) hst fun k hk e => hFw (e ▸ hk)
    exact ⟨ht3, ((hx.blk.only HO2.out hx.out).only HO3.out id).only hst fun e => HX.out e, hx.out, hx.m⟩
  · exact only_new2 ho3 hst
set_option maxHeartbeats 1000000 in
theorem save_ok (h : TreeAt w F X x t D) (hp : D.is p = true) (hu : D.used p = true) (hn : NodeR w N pv kv cv n) (hok : n.Ok D.m) (hne : n.leaf = true → n.pairs ≠ []) :
    Calls Tryz.prog 143 #[.pointer (some ⟨x, 0, none⟩), .int .i64 p, nodeV n.leaf pv kv cv] w (DeedX w F X x t (.int .i64 0) (PD.putPage p (n.bytes D.m) D)) := by
  obtain ⟨pA, pc, kA, kc, cA, cc, rfl, rfl, rfl⟩ := hn.shape
  obtain ⟨W1, hW1⟩ : ∃ W1, W1 = w.alloc (.cells #[.bool n.leaf, .slice pA n.pairs.length pc, .slice kA n.keys.length kc, .slice cA n.children.length cc] 117) := ⟨_, rfl⟩
  have ho1 : Only NoB w W1 := by rw [hW1]; exact (Only.refl NoB w).alloc _
  have hB : Blk W1 w.heap.size 117 #[.bool n.leaf, .slice pA n.pairs.length pc, .slice kA n.keys.length kc, .slice cA n.children.length cc] := by rw [hW1]; exact Blk.new w _ _
  have h1 := h.quit ho1
  have hbz := bytes_ok ((hn.quit ho1).quit (Only.refl NoB W1).drew) hok hne h.m h.mle
  have HBZ := Lib.hid hbz
  have c0 : W1.cell? ⟨x, 0, none⟩ = some (.pointer (some ⟨t, 0, none⟩)) := h1.blk.cell 0
  have c1 : W1.cell? ⟨x, 1, none⟩ = some (.int .i64 D.m) := h1.blk.cell 1
  have b0 : W1.cell? _ = some _ := hB.cell 0
  have b1 : W1.cell? _ = some _ := hB.cell 1
  have b2 : W1.cell? _ = some _ := hB.cell 2
  have b3 : W1.cell? _ = some _ := hB.cell 3
  have H1 := Lib.hid h1
  have HO1 := Lib.hid ho1
  have HW1 := Lib.hid hW1
  have HLN := Lib.hid (n.bytes_len hok.size)
  clear h h1 hB ho1 hW1 hbz hok hne hn
  unfold nodeV
  go_enter Tryz.func143, Tryz.ntmps143
  go_wp2_with fail
  rw [← HW1.out]
  refine wp_region_noPanic ?_
  refine held_start (n := 11) (S := (fun w' => (w'.cell? ⟨w.heap.size, 0, none⟩ = some (.bool n.leaf) ∧ w'.cell? ⟨w.heap.size, 1, none⟩ = some (.slice pA n.pairs.length pc) ∧ w'.cell? ⟨w.heap.size, 2, none⟩ = some (.slice kA n.keys.length kc) ∧ w'.cell? ⟨w.heap.size, 3, none⟩ = some (.slice cA n.children.length cc)) ∧ w'.cell? ⟨x, 1, none⟩ = some (.int .i64 D.m))) (listed := #[false, false, false, false, false, false, false, false, false, false, false]) (by kernel_rfl) (by kernel_rfl) (by kernel_rfl) (⟨⟨b0, b1, b2, b3⟩, c1⟩) (fun hHeld => ?_)
  refine held_take (i := 0) (d := 10) (v := ?_) (listed' := #[true, false, false, false, false, false, false, false, false, false, false]) (by kernel_rfl) (by kernel_rfl) (by kernel_rfl) (by kernel_rfl) (by kernel_rfl) (by kernel_rfl) (fun _ _ _ _ _ h => h) (by assumption) ?_ ?_
  rotate_left
  · (intro o ho w' hSw; cases ho; (try dsimp only at hSw); go_simp; try with_reducible rfl)
  simp only [Act.put, List.setIfInBounds_toArray, List.set_cons_zero, List.set_cons_succ]
  refine held_take (i := 1) (d := 11) (v := ?_) (listed' := #[true, true, false, false, false, false, false, false, false, false, false]) (by kernel_rfl) (by kernel_rfl) (by kernel_rfl) (by kernel_rfl) (by kernel_rfl) (by kernel_rfl) (fun _ _ _ _ _ h => h) (by assumption) ?_ ?_
  rotate_left
  · (intro o ho w' hSw; cases ho; (try dsimp only at hSw); go_simp; try with_reducible rfl)
  simp only [Act.put, List.setIfInBounds_toArray, List.set_cons_zero, List.set_cons_succ]
  refine held_take (i := 2) (d := 12) (v := ?_) (listed' := #[true, true, true, false, false, false, false, false, false, false, false]) (by kernel_rfl) (by kernel_rfl) (by kernel_rfl) (by kernel_rfl) (by kernel_rfl) (by kernel_rfl) (fun _ _ _ _ _ h => h) (by assumption) ?_ ?_
  rotate_left
  · (intro o ho w' hSw; cases ho; (try dsimp only at hSw); go_simp; try with_reducible rfl)
  simp only [Act.put, List.setIfInBounds_toArray, List.set_cons_zero, List.set_cons_succ]
  refine held_take (i := 3) (d := 13) (v := ?_) (listed' := #[true, true, true, true, false, false, false, false, false, false, false]) (by kernel_rfl) (by kernel_rfl) (by kernel_rfl) (by kernel_rfl) (by kernel_rfl) (by kernel_rfl) (fun _ _ _ _ _ h => h) (by assumption) ?_ ?_
  rotate_left
  · (intro o ho w' hSw; cases ho; (try dsimp only at hSw); go_simp; try with_reducible rfl)
  simp only [Act.put, List.setIfInBounds_toArray, List.set_cons_zero, List.set_cons_succ]
  refine held_take (i := 4) (d := 14) (v := ?_) (listed' := #[true, true, true, true, true, false, false, false, false, false, false]) (by kernel_rfl) (by kernel_rfl) (by kernel_rfl) (by kernel_rfl) (by kernel_rfl) (by kernel_rfl) (fun _ _ _ _ _ h => h) (by assumption) ?_ ?_
  rotate_left
  · (intro o ho w' hSw; cases ho; (try dsimp only at hSw); go_simp; try with_reducible rfl)
  simp only [Act.put, List.setIfInBounds_toArray, List.set_cons_zero, List.set_cons_succ]
  refine held_step (i := 5) (listed' := #[true, true, true, true, true, true, false, false, false, false, false]) (by kernel_rfl) (by kernel_rfl) (by kernel_rfl) (fun o ho K hK => ?_)
  cases ho
  go_simp
  refine HBZ.out.mono ?_
  rintro e w2 ⟨v2, rfl, hb2, ho2⟩
  have ho : Only NoB W1 w2 := (Only.refl NoB W1).drew.trans ho2
  have HB2 := Lib.hid hb2
  clear hb2 ho2
  refine hK.out _ _ (⟨⟨ho.cell b0 id, ho.cell b1 id, ho.cell b2 id, ho.cell b3 id⟩, ho.cell c1 id⟩) (fun hHeld => ?_)
  clear hK K
  try simp only [Act.put, List.setIfInBounds_toArray, List.set_cons_zero, List.set_cons_succ]
  refine held_take (i := 6) (d := 9) (v := ?_) (listed' := #[true, true, true, true, true, true, true, false, false, false, false]) (by kernel_rfl) (by kernel_rfl) (by kernel_rfl) (by kernel_rfl) (by kernel_rfl) (by kernel_rfl) (fun _ _ _ _ _ h => h) (by assumption) ?_ ?_
  rotate_left
  · (intro o ho w' hSw; cases ho; (try dsimp only at hSw); go_simp; try with_reducible rfl)
  simp only [Act.put, List.setIfInBounds_toArray, List.set_cons_zero, List.set_cons_succ]
  refine held_take (i := 7) (d := 16) (v := ?_) (listed' := #[true, true, true, true, true, true, true, true, false, false, false]) (by kernel_rfl) (by kernel_rfl) (by kernel_rfl) (by kernel_rfl) (by kernel_rfl) (by kernel_rfl) (fun _ _ _ _ _ h => h) (by assumption) ?_ ?_
  rotate_left
  · (intro o ho w' hSw; cases ho; (try dsimp only at hSw); go_simp; try with_reducible rfl)
  simp only [Act.put, List.setIfInBounds_toArray, List.set_cons_zero, List.set_cons_succ]
  refine held_take (i := 8) (d := 17) (v := ?_) (listed' := #[true, true, true, true, true, true, true, true, true, false, false]) (by kernel_rfl) (by kernel_rfl) (by kernel_rfl) (by kernel_rfl) (by kernel_rfl) (by kernel_rfl) (fun _ _ _ _ _ h => h) (by assumption) ?_ ?_
  rotate_left
  · (intro o ho w' hSw; cases ho; (try dsimp only at hSw); go_simp; try with_reducible rfl)
  simp only [Act.put, List.setIfInBounds_toArray, List.set_cons_zero, List.set_cons_succ]
  refine held_take (i := 9) (d := 7) (v := ?_) (listed' := #[true, true, true, true, true, true, true, true, true, true, false]) (by kernel_rfl) (by kernel_rfl) (by kernel_rfl) (by kernel_rfl) (by kernel_rfl) (by kernel_rfl) (fun _ _ _ _ _ h => h) (by assumption) ?_ ?_
  rotate_left
  · (intro o ho w' hSw; cases ho; (try dsimp only at hSw); go_simp; try with_reducible rfl)
  simp only [Act.put, List.setIfInBounds_toArray, List.set_cons_zero, List.set_cons_succ]
  refine held_take (i := 10) (d := 8) (v := ?_) (listed' := #[true, true, true, true, true, true, true, true, true, true, true]) (by kernel_rfl) (by kernel_rfl) (by kernel_rfl) (by kernel_rfl) (by kernel_rfl) (by kernel_rfl) (fun _ _ _ _ _ h => h) (by assumption) ?_ ?_
  rotate_left
  · (intro o ho w' hSw; cases ho; (try dsimp only at hSw); go_simp; try with_reducible rfl)
  simp only [Act.put, List.setIfInBounds_toArray, List.set_cons_zero, List.set_cons_succ]
  refine wpAnyH_done (by kernel_rfl) ?_ _
  refine NoPanic.normal ?_
  have HO2 := Lib.hid ho
  have ht2 := (H1.out.quit ho)
  have HWR := Lib.hid (pwrite_any ht2.tx p hp hu _ _ _ HB2.out HLN.out)
  have c2 := ho.cell c0 id
  clear ht2 ho c0 c1 b0 b1 b2 b3
  go_wp2_with fail
  refine HWR.out.mono ?_
  rintro e w3 ⟨rfl, F', ht3, ho3, hg3⟩
  have HE : Hid (TreeAt w3 F' X x t (PD.putPage p (n.bytes D.m) D) ∧ Only F w w3 ∧ Grows F F' w) := Lib.hid
    ⟨(H1.out.quit HO2.out).deed (D' := PD.putPage p (n.bytes D.m) D) rfl ht3 ho3 hg3, ((HO1.out.trans HO2.out).mono fun _ _ h => h.elim).trans ho3, fun k hk => (hg3 k hk).imp id fun h => Nat.le_trans (HO1.out.trans HO2.out).size h⟩
  clear ht3 ho3 hg3
  go_wp2_with fail
  go_ret
  exact ⟨rfl, F', HE.out⟩
set_option maxHeartbeats 1000000 in
theorem fresh_ok (h : TreeAt w F X x t D) (hr : D.free (D.own + 1) (D.n - (D.own + 1)) = some r) (hN : ∀ k, N k → ¬ F k) (hn : NodeR w N pv kv cv n) (hok : n.Ok D.m) (hne : n.leaf = true → n.pairs ≠ []) :
    Calls Tryz.prog 110 #[.pointer (some ⟨x, 0, none⟩), nodeV n.leaf pv kv cv] w (DeedX w F X x t (.tuple #[.int .i64 r, .int .i64 0]) (PD.putPage r (n.bytes D.m) (takeD r D))) := by
  obtain ⟨r1, r2, r3, r4⟩ := PD.free_some hr
  have hri : (takeD r D).is r = true := by show D.is r = true; unfold PD.is; simp; omega
  have hru : (takeD r D).used r = true := by simp [takeD, PD.putPage, PD.turn]
  obtain ⟨pA, pc, kA, kc, cA, cc, rfl, rfl, rfl⟩ := hn.shape
  obtain ⟨W1, hW1⟩ : ∃ W1, W1 = w.alloc (.cells #[.bool n.leaf, .slice pA n.pairs.length pc, .slice kA n.keys.length kc, .slice cA n.children.length cc] 117) := ⟨_, rfl⟩
  have ho1 : Only NoB w W1 := by rw [hW1]; exact (Only.refl NoB w).alloc _
  have hB : Blk W1 w.heap.size 117 #[.bool n.leaf, .slice pA n.pairs.length pc, .slice kA n.keys.length kc, .slice cA n.children.length cc] := by rw [hW1]; exact Blk.new w _ _
  have h1 := h.quit ho1
  have HTK := Lib.hid (take_any h1.tx hr)
  have c0 : W1.cell? ⟨x, 0, none⟩ = some (.pointer (some ⟨t, 0, none⟩)) := h1.blk.cell 0
  rw [hW1] at c0
  have hFw : ¬ F w.heap.size := fun hf => by have := h.tx.1 _ hf; omega
  have HF := Lib.hid hFw
  have HB := Lib.hid hB
  have H1 := Lib.hid h1
  have HO1 := Lib.hid ho1
  have HW1 := Lib.hid hW1
  have HN := Lib.hid (hn.quit ho1)
  have HND := Lib.hid hN
  have HOK := Lib.hid hok
  have HNE := Lib.hid hne
  clear h h1 hB ho1 hW1 hok hne hn hN hFw r4
  unfold nodeV
  go_enter Tryz.func110, Tryz.ntmps110
  go_wp2_with fail
  rw [← HW1.out]
  refine HTK.out.mono ?_
  rintro e w2 ⟨rfl, F2, ht2, ho2, hg2⟩
  have hx2 := H1.out.deed (D' := takeD r D) rfl ht2 ho2 hg2
  have HS := Lib.hid (save_ok hx2 hri hru (HN.out.only ho2 HND.out) HOK.out HNE.out)
  have hb2 := HB.out.only ho2 HF.out
  have b0 : w2.cell? _ = some _ := hb2.cell 0
  have b1 : w2.cell? _ = some _ := hb2.cell 1
  have b2 : w2.cell? _ = some _ := hb2.cell 2
  have b3 : w2.cell? _ = some _ := hb2.cell 3
  have HO2 := Lib.hid ho2
  have HG2 := Lib.hid hg2
  clear hx2 hb2 ho2 hg2 ht2 c0
  go_wp2_with fail
  refine HS.out.mono ?_
  rintro e w3 ⟨rfl, F3, hx3, ho3, hg3⟩
  have HE : Hid (TreeAt w3 F3 X x t (PD.putPage r (n.bytes D.m) (takeD r D)) ∧ Only F w w3 ∧ Grows F F3 w) := Lib.hid
    ⟨hx3, ((HO1.out.mono fun _ _ h => h.elim).trans HO2.out).trans' ho3 fun i hi hk => by
      rcases HG2.out i hk with h1 | h1
      · exact h1
      · have := HO1.out.size; omega, fun k hk => by
      rcases hg3 k hk with h1 | h1
      · rcases HG2.out k h1 with h2 | h2
        · exact .inl h2
        · exact .inr (Nat.le_trans HO1.out.size h2)
      · exact .inr (Nat.le_trans (Nat.le_trans HO1.out.size HO2.out.size) h1)⟩
  clear hx3 ho3 hg3 b0 b1 b2 b3
  go_wp2_with fail
  go_ret2
  exact ⟨rfl, F3, HE.out⟩
def OfAt (w : World) (F : Nat → Prop) (X : XC) (t : Nat) (D : PD) (e : Ending) (w' : World) : Prop := ∃ x, e = .returned (.tuple #[.pointer (some ⟨x, 0, none⟩), .int .i64 0]) ∧ TxAt w' F X t D ∧ Blk w' x 120 #[.pointer (some ⟨t, 0, none⟩), .int .i64 D.m] ∧ Only NoB w w' ∧ w.heap.size ≤ x
theorem TxAt.quit (h : TxAt w F X t D) (ho : Only NoB w w') : TxAt w' F X t D := h.imp (fun h => TxQ.only h ho fun _ _ => id) (fun h => TxQ.only h ho fun _ _ => id)
theorem of_ok (h : TxAt w F X t D) (h1 : 64 ≤ D.m) (h2 : D.m ≤ 4096) : Calls Tryz.prog 56 #[.pointer (some ⟨t, 0, none⟩)] w (OfAt w F X t D) := by
  have HBY := Lib.hid h.bytes
  have HMO := Lib.hid (most_ok D.m h1 h2 w)
  have H := Lib.hid h
  clear h
  go_enter Tryz.func56, Tryz.ntmps56
  go_wp2_with fail
  refine HBY.out.mono ?_
  rintro e w1 ⟨rfl, rfl⟩
  go_wp2_with fail
  refine HMO.out.mono ?_
  rintro e w1 ⟨rfl, rfl⟩
  go_wp2_with fail
  refine HBY.out.mono ?_
  rintro e w1 ⟨rfl, rfl⟩
  go_wp2_with fail
  go_ret2
  exact ⟨_, rfl, H.out.quit ((Only.refl NoB w).alloc _), Blk.new w _ _, (Only.refl NoB w).alloc _, Nat.le_refl _⟩
end
end Go.Proofs.YtdipjakblaeekaaGreat
namespace Go.Proofs.YtdipjakblaeekaaGreat
open Go.RowKit Go.Proofs
set_option maxRecDepth 20000
section
variable {w w' : World} {F N K : Nat → Prop} {X : XC} {t x p r c h : Nat} {D D' : PD} {n : NodeD} {v pv kv cv : Value} {M : List KV} {key : Str}
theorem set4 {w : World} {o : Nat} {ty : TypeId} {z0 z1 z2 z3 : Value} (hB : Blk w o ty #[z0, z1, z2, z3]) (a b c d : Value) :
    Blk ((((w.setCell ⟨o, 0, none⟩ a).setCell ⟨o, 1, none⟩ b).setCell ⟨o, 2, none⟩ c).setCell ⟨o, 3, none⟩ d) o ty #[a, b, c, d] ∧ Only (fun k => k = o) w ((((w.setCell ⟨o, 0, none⟩ a).setCell ⟨o, 1, none⟩ b).setCell ⟨o, 2, none⟩ c).setCell ⟨o, 3, none⟩ d) :=
  ⟨(((hB.set_ 0 a).set_ 1 b).set_ 2 c).set_ 3 d, ((((Only.refl (fun k => k = o) w).setCell (p := ⟨o, 0, none⟩) (.inl rfl) a).setCell (p := ⟨o, 1, none⟩) (.inl rfl) b).setCell (p := ⟨o, 2, none⟩) (.inl rfl) c).setCell (p := ⟨o, 3, none⟩) (.inl rfl) d⟩
theorem isNode_leaf {e : Ent} {hi : Option Str} (hs : Sub D h e hi) (hn : IsNode D h e hi n) : n.leaf = decide (h = 0) ∧ (n.leaf = true → n.pairs ≠ []) := by
  rcases hn.2.2 with ⟨rfl, rfl⟩ | ⟨h', x, es, rfl, _, rfl⟩
  · exact ⟨rfl, fun _ => hs.2.1⟩
  · exact ⟨rfl, fun h => by cases h⟩
theorem get_clo (l : Bool) (i : Int) (w : World) : Calls Tryz.prog 98 #[nodeV l pv kv cv, .int .i64 i] w fun e w' => e = .returned (.tuple #[]) ∧ Only NoB w w' := by
  have ho : Only NoB w (w.alloc (.cells #[.bool l, pv, kv, cv] 117)) := (Only.refl NoB w).alloc _
  unfold nodeV
  go_enter Tryz.func98, Tryz.ntmps98
  go_wp2_with fail
  go_end0
  exact ⟨rfl, ho⟩
def DownOut (w : World) (F : Nat → Prop) (X : XC) (x t : Nat) (D : PD) (M : List KV) (key : Str) (e : Ending) (w' : World) : Prop :=
  ∃ ps pv kv cv F', e = .returned (.tuple #[nodeV true pv kv cv, .int .i64 0]) ∧ get key M = get key ps ∧ Srt ps ∧ ps.length ≤ 4096 ∧ NodeO w' (From w.heap.size) pv kv cv (leafN ps) ∧ TreeAt w' F' X x t D ∧ Only F w w' ∧ Grows F F' w
set_option maxHeartbeats 2000000 in
theorem down_get (h : TxAt w F X t D) (hx : Blk w x 120 #[.pointer (some ⟨t, 0, none⟩), .int .i64 D.m]) (hxF : ¬ F x) (hm : 64 ≤ D.m) (hb : Bt D M c) :
    Calls Tryz.prog 97 #[.pointer (some ⟨x, 0, none⟩), .string ⟨key.toArray⟩, .func (.func 98) #[] #[]] w (DownOut w F X x t D M key) := by
  obtain ⟨W1, hW1⟩ : ∃ W1, W1 = w.alloc (.cells #[.bool false, .slice none 0 0, .slice none 0 0, .slice none 0 0] 117) := ⟨_, rfl⟩
  have ho1 : Only NoB w W1 := by rw [hW1]; exact (Only.refl NoB w).alloc _
  have hs1 : W1.heap.size = w.heap.size + 1 := by rw [hW1]; simp
  have hB : Blk W1 w.heap.size 117 #[.bool false, .slice none 0 0, .slice none 0 0, .slice none 0 0] := by rw [hW1]; exact Blk.new w _ _
  have h1 := h.quit ho1
  have HR := Lib.hid (root_any h1)
  have hx1 := hx.only ho1 id
  have c0 : W1.cell? ⟨x, 0, none⟩ = some (.pointer (some ⟨t, 0, none⟩)) := hx1.cell 0
  rw [hW1] at c0
  have hFw : ¬ F w.heap.size := fun hf => by rcases h with h | h <;> (have := h.1 _ hf; omega)
  have hxw : x ≠ w.heap.size := fun e => by have := hx.lt; omega
  have HF := Lib.hid hFw
  have HX := Lib.hid hxw
  have HX1 := Lib.hid hx1
  have HB := Lib.hid hB
  have HO1 := Lib.hid ho1
  have HW1 := Lib.hid hW1
  have HS1 := Lib.hid hs1
  have HBT := Lib.hid hb
  have HXF := Lib.hid hxF
  clear h hx hxF hb hW1 ho1 hs1 hB h1 hx1 hFw hxw
  go_enter Tryz.func97, Tryz.ntmps97
  go_wp2_with fail
  rw [← HW1.out]
  refine HR.out.mono ?_
  rintro e w2 ⟨rfl, F2, ht2, ho2, hg2⟩
  have hx2 : TreeAt w2 F2 X x t D := ⟨ht2, HX1.out.only ho2 HXF.out, fun hk => by rcases hg2 x hk with h1 | h1; (· exact HXF.out h1); (· have := HX1.out.lt; omega), hm⟩
  have hb2 := HB.out.only ho2 HF.out
  have HF2 : Hid (¬ F2 w.heap.size) := Lib.hid fun hk => by rcases hg2 _ hk with h1 | h1; (· exact HF.out h1); (· have := HS1.out; omega)
  have HG2 : Hid (Grows F F2 w) := Lib.hid fun k hk => (hg2 k hk).imp id fun h => Nat.le_trans HO1.out.size h
  have HO2 : Hid (Only F w w2) := Lib.hid ((HO1.out.mono fun _ _ h => h.elim).trans ho2)
  rcases HBT.out.2 with ⟨hr0, hM, _⟩ | ⟨h, e, hroot⟩
  · have o0 : w2.cell? _ = some _ := hb2.cell 0
    have o1 : w2.cell? _ = some _ := hb2.cell 1
    have o2 : w2.cell? _ = some _ := hb2.cell 2
    have o3 : w2.cell? _ = some _ := hb2.cell 3
    have p0 := hb2.frozen 0
    have p1 := hb2.frozen 1
    have p2 := hb2.frozen 2
    have p3 := hb2.frozen 3
    have HB2 := Lib.hid hb2
    have HX2 := Lib.hid hx2
    rw [hr0]
    have HM := Lib.hid hM
    clear hb2 hx2 hM hr0 ho2 hg2 ht2 c0
    go_wp2_with fail
    (try simp only [Exit.inBlock, Exit.then])
    obtain ⟨hbf, hst⟩ := set4 HB2.out (.bool true) (.slice none 0 0) (.slice none 0 0) (.slice none 0 0)
    refine bodyPost_ret (results_row_tmp rfl _ _ w.heap.size 117 _ rfl hbf (by kernel_rfl) (by kernel_rfl)) rfl ?_
    refine ⟨[], _, _, _, F2, rfl, by rw [HM.out], List.Pairwise.nil, by simp, ⟨Own.nil _ _ _ _, Own.nil _ _ _ _, Own.nil _ _ _ _, fun q hq => by simp [Value.ownBlock] at hq⟩, ?_, only_new2 HO2.out hst, HG2.out⟩
    exact ⟨TxQ.only HX2.out.tx hst fun k hk e => HF2.out (e ▸ hk), HX2.out.blk.only hst fun e => HX.out e, HX2.out.out, hm⟩
  · have hne0 : ¬ ((D.root : Int) = 0) := by have := hroot.ne0; omega
    have hbq : ((D.root : Int) == 0) = false := by simp; exact hroot.ne0
    have hway : Way D M key h e none 0 := ⟨hroot.sub, by rw [hroot.lo]; exact nil_les _, trivial, [], [], by simp [hroot.M], by simp, by simp, .inl ⟨rfl, rfl⟩⟩
    have hmay : Mays D e.P := fun q hq => ⟨hroot.held.is q hq, hroot.held.used q hq⟩
    have HI : Hid (Way D M key h e none 0 ∧ Mays D e.P ∧ TreeAt w2 F2 X x t D ∧ Blk w2 w.heap.size 117 #[.bool false, .slice none 0 0, .slice none 0 0, .slice none 0 0] ∧ Only F w w2) := Lib.hid ⟨hway, hmay, hx2, hb2, HO2.out⟩
    have hat := hroot.at_
    clear hway hmay hx2 hb2 hroot ho2 hg2 ht2 c0
    go_wp2_with fail
    go_loopg [8] (h + 1) (fun g s8 wr => ∃ (h : Nat) (e : Ent) (hi : Option Str) (r : Nat), s8 = .int .i64 e.c ∧ h < g ∧ Hid (Way D M key h e hi r ∧ Mays D e.P ∧ TreeAt wr F2 X x t D ∧ Blk wr w.heap.size 117 #[.bool false, .slice none 0 0, .slice none 0 0, .slice none 0 0] ∧ Only F w wr))
    case atStart => exact ⟨h, e, none, 0, by rw [hat], by omega, HI.out⟩
    case round =>
      clear HI hat
      obtain ⟨h, e, hi, r, rfl, hg, hst⟩ := hrel
      obtain ⟨hway, hmay, hxr, hbr, hor⟩ := hst.out
      obtain ⟨n, hnode⟩ := sub_node hway.sub
      obtain ⟨P, hP⟩ := sub_c hway.sub
      obtain ⟨his, hus⟩ := hmay e.c (by rw [hP]; simp)
      obtain ⟨hlf, hne⟩ := isNode_leaf hway.sub hnode
      have HL := Lib.hid (load_ok hxr his hus hnode.1 hnode.2.1 hne)
      have HFW : Hid (¬ F2 w.heap.size) := HF2
      have HND := Lib.hid hnode
      have HWAY := Lib.hid hway
      have HMAY := Lib.hid hmay
      have HBR := Lib.hid hbr
      have HOR := Lib.hid hor
      have HLF := Lib.hid hlf
      have HXR := Lib.hid hxr
      clear hway hmay hxr hbr hor hnode hlf hne hst hP
      go_wp2_with fail
      refine HL.out.mono ?_
      rintro e3 w3 ⟨pv, kv, cv, rfl, hnd3, hx3, ho3⟩
      obtain ⟨pA, pc, kA, kc, cA, cc, rfl, rfl, rfl⟩ := hnd3.r.shape
      have HX3 := Lib.hid hx3
      have HO3 := Lib.hid ho3
      have HN3 := Lib.hid hnd3
      clear hx3 ho3 hnd3
      unfold nodeV
      rcases h with _ | h
      · have hl : n.leaf = true := by rw [HLF.out]; rfl
        have hn : n = leafN e.M := by
          rcases HND.out.2.2 with ⟨_, hn⟩ | ⟨h', _, _, h0, _⟩
          · exact hn
          · cases h0
        have HNL := Lib.hid hn
        obtain ⟨W4, hW4⟩ : ∃ W4, W4 = w3.alloc (.cells #[.bool true, .slice pA n.pairs.length pc, .slice kA n.keys.length kc, .slice cA n.children.length cc] 117) := ⟨_, rfl⟩
        have ho4 : Only NoB w3 W4 := by rw [hW4]; exact (Only.refl NoB w3).alloc _
        have hbo := (HBR.out.only HO3.out HF2.out).only ho4 id
        rw [hW4] at hbo
        have o0 := hbo.cell 0
        have o1 := hbo.cell 1
        have o2 := hbo.cell 2
        have o3 := hbo.cell 3
        have p0 := hbo.frozen 0
        have p1 := hbo.frozen 1
        have p2 := hbo.frozen 2
        have p3 := hbo.frozen 3
        have HBO := Lib.hid hbo
        have HO4 := Lib.hid ho4
        have HW4 := Lib.hid hW4
        rw [hl]
        clear hl hn hbo ho4 hW4
        go_wp2_with fail
        (try simp only [Exit.inBlock, Exit.then])
        obtain ⟨hbf, hst⟩ := set4 HBO.out (.bool true) (.slice pA n.pairs.length pc) (.slice kA n.keys.length kc) (.slice cA n.children.length cc)
        refine bodyPost_ret (results_row_tmp rfl _ _ w.heap.size 117 _ rfl hbf (by kernel_rfl) (by kernel_rfl)) rfl ?_
        clear o0 o1 o2 o3 p0 p1 p2 p3
        have hle : w.heap.size + 1 ≤ wr.heap.size := by have := HBR.out.lt; omega
        rw [← HW4.out] at hst
        have hpl : e.M.length ≤ 4096 := by
          have h1 := HND.out.2.1.size
          rw [HNL.out] at h1
          have h2 := sizeP_ge e.M
          have h3 : (leafN e.M).size = 3 + 3 * 0 + NodeD.sizeP e.M + 0 := rfl
          have := HXR.out.mle
          omega
        have hown : NodeO W4 (From wr.heap.size) (.slice pA n.pairs.length pc) (.slice kA n.keys.length kc) (.slice cA n.children.length cc) n := HN3.out.quit HO4.out
        have hfin : Only F w W4 := (HOR.out.trans' HO3.out fun k hk hf => (HG2.out k hf).elim id fun h => by omega).trans (HO4.out.mono fun _ _ h => h.elim)
        refine ⟨e.M, _, _, _, F2, rfl, HWAY.out.get, (sub_facts HWAY.out.sub).srt, hpl, ?_, ?_, ?_, HG2.out⟩
        · rw [← HNL.out]
          rw [HW4.out] at hst hown
          exact (hown.only hst fun k hk e => by unfold From at hk; omega).mono fun k hk _ => by unfold From at hk ⊢; omega
        · have hx4 := HX3.out.quit HO4.out
          rw [HW4.out] at hst hx4
          exact ⟨TxQ.only hx4.tx hst fun k hk e => HF2.out (e ▸ hk), hx4.blk.only hst fun e => HX.out e, hx4.out, hm⟩
        · rw [HW4.out] at hst hfin
          exact only_new2 hfin hst
      · have hl : n.leaf = false := by rw [HLF.out]; rfl
        obtain ⟨x0, es, hI, hn⟩ : ∃ x0 es, In D h e hi x0 es ∧ n = innerN (x0 :: es) := by
          rcases HND.out.2.2 with ⟨h0, _⟩ | ⟨h', x0, es, h0, hI, hn⟩
          · cases h0
          · injection h0 with h0; subst h0; exact ⟨x0, es, hI, hn⟩
        obtain ⟨W4, hW4⟩ : ∃ W4, W4 = w3.alloc (.cells #[.bool false, .slice pA n.pairs.length pc, .slice kA n.keys.length kc, .slice cA n.children.length cc] 117) := ⟨_, rfl⟩
        have ho4 : Only NoB w3 W4 := by rw [hW4]; exact (Only.refl NoB w3).alloc _
        have hB4 : Blk W4 w3.heap.size 117 #[.bool false, .slice pA n.pairs.length pc, .slice kA n.keys.length kc, .slice cA n.children.length cc] := by rw [hW4]; exact Blk.new w3 _ _
        have hpl := place_ok (key := key) (HN3.out.quit ho4).r HND.out.2.1 HXR.out.mle
        rw [hl] at hpl
        have HPL := Lib.hid hpl
        have HN4 := Lib.hid (HN3.out.quit ho4)
        have HNL := Lib.hid hn
        have HI := Lib.hid hI
        have HO4 := Lib.hid ho4
        have HW4 := Lib.hid hW4
        have HB4 := Lib.hid hB4
        have HLL := Lib.hid hl
        rw [hl]
        clear hl hn hI ho4 hB4 hW4 hpl
        go_wp2_with fail
        rw [← HW4.out]
        refine HPL.out.mono ?_
        rintro e5 w5 ⟨i, is, _, hpk, rfl, ho5⟩
        have hpk := hpk HLL.out
        rw [HNL.out] at hpk
        obtain ⟨y, hi', hmem, hch, hway⟩ := HWAY.out.down HI.out hpk (fun e he => by
          have := (HI.out.ok.kid e.c (by show e.c ∈ (x0 :: es).map Ent.c; exact List.mem_map_of_mem he)).1
          omega) HMAY.out
        have HWY := Lib.hid hway
        have HO5 := Lib.hid ho5
        have hb5 := HB4.out.only ho5 id
        have b0 : w5.cell? _ = some _ := hb5.cell 0
        have b1 : w5.cell? _ = some _ := hb5.cell 1
        have b2 : w5.cell? _ = some _ := hb5.cell 2
        have b3 : w5.cell? _ = some _ := hb5.cell 3
        have HCL := Lib.hid (get_clo (pv := .slice pA n.pairs.length pc) (kv := .slice kA n.keys.length kc) (cv := .slice cA n.children.length cc) false i w5)
        rw [← HNL.out] at hch
        have HCH := Lib.hid hch
        have HMY : Hid (Mays D y.P) := Lib.hid fun q hq => HMAY.out q (by rw [HI.out.P]; exact List.mem_cons_of_mem _ (List.mem_flatMap.2 ⟨y, hmem, hq⟩))
        have HB5 := Lib.hid hb5
        clear hpk hmem hch hway ho5 hb5
        go_wp2_with fail
        refine HCL.out.mono ?_
        rintro e6 w6 ⟨rfl, ho6⟩
        have hb6 := HB5.out.only ho6 id
        have k3 : w6.cell? _ = some _ := hb6.cell 3
        have hil := (List.getElem?_eq_some_iff.1 HCH.out).1
        obtain ⟨g, off, c', hve, _, _, hcell⟩ := (HN4.out.kids.only (HO5.out.trans ho6) fun _ _ => id).rd.open_ (by omega)
        injection hve with q1 q2 q3
        subst q1; subst q3
        have cc1 := hcell i (natV y.c) (by rw [List.getElem?_map, HCH.out]; rfl)
        unfold natV at cc1
        have hii : (i : Int) < (n.children.length : Int) := by omega
        have hi0 : (0 : Int) ≤ (i : Int) := by omega
        have HO6 := Lib.hid ho6
        clear hb6 hcell q2 ho6 b0 b1 b2 b3
        go_wp2_with fail
        go_roundg (h + 1)
        case measure => omega
        case rel =>
          have hon : Only NoB w3 w6 := HO4.out.trans (HO5.out.trans HO6.out)
          refine ⟨h, y, hi', _, rfl, by omega, Lib.hid ⟨HWY.out, HMY.out, HX3.out.quit hon, (HBR.out.only HO3.out HF2.out).only hon id, ?_⟩⟩
          exact (HOR.out.trans' HO3.out fun k hk hf => (HG2.out k hf).elim id fun h => by omega).trans (hon.mono fun _ _ h => h.elim)
end
end Go.Proofs.YtdipjakblaeekaaGreat
namespace Go.Proofs.YtdipjakblaeekaaGreat
open Go.RowKit Go.Proofs
set_option maxRecDepth 20000
section
variable {w w' : World} {F N K : Nat → Prop} {X : XC} {t x p r c h : Nat} {D D' : PD} {n : NodeD} {v pv kv cv : Value} {M : List KV} {key : Str}
theorem placeP_at {ps : List KV} {i : Nat} (h : PlaceP ps key i true) : ∃ v, ps[i]? = some (key, v) ∧ get key ps = some v := by
  obtain ⟨a, b, rfl, rfl, ha, hb⟩ := h
  rw [if_pos rfl] at hb
  obtain ⟨v, c, rfl, hc⟩ := hb
  refine ⟨v, by simp, ?_⟩
  rw [get_append, get_none fun x hx => lts_ne (ha x hx)]
  simp [get]
theorem placeP_no {ps : List KV} {i : Nat} (h : PlaceP ps key i false) : get key ps = none := by
  have := placeP_get h
  cases hg : get key ps with
  | none => rfl
  | some v => rw [hg] at this; cases this
set_option maxHeartbeats 1000000 in
theorem get_ok (h : TxAt w F X t D) (hm : 64 ≤ D.m) (hm2 : D.m ≤ 4096) (hb : Bt D M c) :
    Calls Tryz.prog 63 #[.pointer (some ⟨t, 0, none⟩), .string ⟨key.toArray⟩] w (DeedT w F X t (.tuple #[strV ((get key M).getD []), .bool (get key M).isSome, .int .i64 0]) D) := by
  have HOF := Lib.hid (of_ok h hm hm2)
  have hlt : ∀ k, F k → k < w.heap.size := fun k hk => by rcases h with h | h <;> exact h.1 k hk
  have HLT := Lib.hid hlt
  have HB := Lib.hid hb
  clear h hlt hb
  go_enter Tryz.func63, Tryz.ntmps63
  go_wp2_with fail
  refine HOF.out.mono ?_
  rintro e w1 ⟨x, rfl, ht1, hx1, ho1, hxl⟩
  have HD := Lib.hid (down_get (key := key) ht1 hx1 (fun hk => by have := HLT.out x hk; omega) hm HB.out)
  have HO1 := Lib.hid ho1
  clear ht1 hx1 ho1
  go_wp2_with fail
  refine HD.out.mono ?_
  rintro e w2 ⟨ps, pv, kv, cv, F2, rfl, hget, hsrt, hpl, hnd, hx2, ho2, hg2⟩
  obtain ⟨pA, pc, kA, kc, cA, cc, rfl, rfl, rfl⟩ := hnd.r.shape
  have hnd : NodeO w2 (From w1.heap.size) (.slice pA ps.length pc) (.slice kA 0 kc) (.slice cA 0 cc) (leafN ps) := hnd
  obtain ⟨W3, hW3⟩ : ∃ W3, W3 = w2.alloc (.cells #[.bool true, .slice pA ps.length pc, .slice kA 0 kc, .slice cA 0 cc] 117) := ⟨_, rfl⟩
  have ho3 : Only NoB w2 W3 := by rw [hW3]; exact (Only.refl NoB w2).alloc _
  have hB3 : Blk W3 w2.heap.size 117 #[.bool true, .slice pA ps.length pc, .slice kA 0 kc, .slice cA 0 cc] := by rw [hW3]; exact Blk.new w2 _ _
  have hpl2 : Calls Tryz.prog 99 #[nodeV true (.slice pA ps.length pc) (.slice kA 0 kc) (.slice cA 0 cc), .string ⟨key.toArray⟩] W3 (PlaceOut ⟨true, ps, [], []⟩ key W3) := (place_leaf (key := key) (ps := ps) (ks := []) (cs := []) (hnd.quit ho3).r hsrt (by omega))
  have HPL := Lib.hid hpl2
  have HND := Lib.hid (hnd.quit ho3)
  have HX2 := Lib.hid hx2
  have HO2 := Lib.hid ho2
  have HG2 := Lib.hid hg2
  have HO3 := Lib.hid ho3
  have HW3 := Lib.hid hW3
  have HB3 := Lib.hid hB3
  have HGT := Lib.hid hget
  clear hpl2 hnd hx2 ho2 hg2 ho3 hW3 hB3 hget
  unfold nodeV leafN
  go_wp2_with fail
  rw [← HW3.out]
  refine HPL.out.mono ?_
  rintro e w4 ⟨i, is, hpp, _, rfl, ho4⟩
  have hpp : PlaceP ps key i is := hpp rfl
  have hE : Hid (∃ F', TxLd w4 F' X t D ∧ Only F w w4 ∧ Grows F F' w) := Lib.hid ⟨F2, (HX2.out.quit (HO3.out.trans ho4)).tx, ((HO1.out.mono fun _ _ h => h.elim).trans HO2.out).trans ((HO3.out.trans ho4).mono fun _ _ h => h.elim), fun k hk => (HG2.out k hk).imp id fun h => Nat.le_trans HO1.out.size h⟩
  cases is with
  | true =>
    obtain ⟨v, hv1, hv2⟩ := placeP_at hpp
    have hil := (List.getElem?_eq_some_iff.1 hv1).1
    have hb4 := HB3.out.only ho4 id
    have k1 : w4.cell? _ = some _ := hb4.cell 1
    obtain ⟨g, off, c', hve, _, _, hcell⟩ := (HND.out.pairs.only ho4 fun _ _ => id).rd.open_ (by show 0 < ps.length * 2; omega)
    injection hve with q1 q2 q3
    subst q1; subst q3
    have c2 := hcell _ _ (pairL_get hv1).2
    unfold strV at c2
    rw [← Nat.add_assoc] at c2
    have HV2 := Lib.hid hv2
    have hii : (i : Int) < (ps.length : Int) := by omega
    have hi0 : (0 : Int) ≤ (i : Int) := by omega
    clear hpp hv1 hv2 hb4 hcell q2 ho4
    go_wp2_with fail
    go_ret3
    exact ⟨by rw [HGT.out, HV2.out]; rfl, hE.out⟩
  | false =>
    have HV2 := Lib.hid (placeP_no hpp)
    clear hpp ho4
    go_wp2_with fail
    go_ret3
    exact ⟨by rw [HGT.out, HV2.out]; rfl, hE.out⟩
end
end Go.Proofs.YtdipjakblaeekaaGreat
namespace Go.Proofs.YtdipjakblaeekaaGreat
open Go.RowKit Go.Proofs
set_option maxRecDepth 20000
section
variable {w w' : World} {F N K : Nat → Prop} {X : XC} {t x p r c h m : Nat} {D D' : PD} {n : NodeD} {v pv kv cv : Value} {M ps : List KV} {key : Str} {ks : List Str} {cs : List Nat}
theorem sum_take_szP (ps : List KV) {k : Nat} (h : k < ps.length) : ((ps.map szP).take (k + 1)).sum = ((ps.map szP).take k).sum + (2 + ps[k].1.length + ps[k].2.length) := by
  rw [List.take_succ_eq_append_getElem (by simpa using h)]
  simp [szP]
theorem sum_take_le (ps : List KV) (k : Nat) : ((ps.map szP).take k).sum ≤ NodeD.sizeP ps := by
  have h1 := sum_szP ps
  have h2 : ((ps.map szP).take k).sum + ((ps.map szP).drop k).sum = (ps.map szP).sum := by rw [← List.sum_append, List.take_append_drop]
  omega
theorem Rd.take_ {F : Nat → Prop} {size n k c g off : Nat} {xs : List Value} (h : Rd w F size (.slice (some ⟨g, off, none⟩) n c) n xs) (hk : k ≤ n) : Rd w F size (.slice (some ⟨g, off, none⟩) k c) k (xs.take (k * size)) := by
  obtain ⟨A, c', hv, hc, hl, hx⟩ := h
  injection hv with q1 q2 q3
  subst q3
  have hle : k * size ≤ n * size := Nat.mul_le_mul_right _ hk
  refine ⟨_, _, rfl, by omega, by rw [List.length_take, hl]; omega, fun h0 => ?_⟩
  obtain ⟨ad, h1, h2, h3⟩ := hx (by omega)
  rw [← q1] at h1
  exact ⟨ad, h1, h2, fun j u hu => h3 j u (by rw [List.getElem?_take] at hu; split at hu; (· exact hu); (· cases hu))⟩
theorem Rd.drop_ {F : Nat → Prop} {size n k c g off : Nat} {xs : List Value} (h : Rd w F size (.slice (some ⟨g, off, none⟩) n c) n xs) (hk : k ≤ n) : Rd w F size (.slice (some ⟨g, off + k * size, none⟩) (n - k) (c - k)) (n - k) (xs.drop (k * size)) := by
  obtain ⟨A, c', hv, hc, hl, hx⟩ := h
  injection hv with q1 q2 q3
  subst q3
  have hle : k * size ≤ n * size := Nat.mul_le_mul_right _ hk
  refine ⟨_, _, rfl, by omega, by rw [List.length_drop, hl, Nat.sub_mul], fun h0 => ?_⟩
  rw [Nat.sub_mul] at h0
  obtain ⟨ad, h1, h2, h3⟩ := hx (by omega)
  rw [← q1] at h1
  injection h1 with h1
  subst h1
  exact ⟨_, rfl, h2, fun j u hu => by
    rw [List.getElem?_drop] at hu
    have := h3 _ u hu
    rw [Addr.add_lit] at this ⊢
    rwa [Nat.add_assoc]⟩
theorem Rd.at_ {F : Nat → Prop} {size n c g off : Nat} {xs : List Value} (h : Rd w F size (.slice (some ⟨g, off, none⟩) n c) n xs) : Rd w (fun q => q = g ∧ F q) size (.slice (some ⟨g, off, none⟩) n c) n xs := by
  obtain ⟨A, c', hv, hc, hl, hx⟩ := h
  refine ⟨A, c', hv, hc, hl, fun h0 => ?_⟩
  obtain ⟨ad, h1, h2, h3⟩ := hx h0
  injection hv with q1 q2 q3
  rw [← q1] at h1
  injection h1 with h1
  subst h1
  exact ⟨_, q1.symm, ⟨rfl, h2⟩, h3⟩
theorem pairL_takeN : ∀ (ps : List KV) (k : Nat), pairL (ps.take k) = (pairL ps).take (k * 2)
  | [], k => by simp [pairL]
  | p :: ps, 0 => by simp [pairL]
  | p :: ps, k + 1 => by rw [List.take_succ_cons, show (k + 1) * 2 = k * 2 + 1 + 1 by omega]; simp [pairL, pairL_takeN ps k]
theorem pairL_dropN : ∀ (ps : List KV) (k : Nat), pairL (ps.drop k) = (pairL ps).drop (k * 2)
  | [], k => by simp [pairL]
  | p :: ps, 0 => by simp [pairL]
  | p :: ps, k + 1 => by rw [List.drop_succ_cons, show (k + 1) * 2 = k * 2 + 1 + 1 by omega]; simp [pairL, pairL_dropN ps k]
def PartsOut (w : World) (N : Nat → Prop) (a : NodeD) (key : Str) (b : NodeD) (e : Ending) (w' : World) : Prop :=
  ∃ pa ka ca pb kb cb, e = .returned (.tuple #[nodeV a.leaf pa ka ca, strV key, nodeV b.leaf pb kb cb]) ∧ NodeR w' N pa ka ca a ∧ NodeR w' N pb kb cb b ∧ Only NoB w w'
set_option maxHeartbeats 2000000 in
theorem split_lf (hx : Blk w x 120 #[.pointer (some ⟨t, 0, none⟩), .int .i64 m]) (hn : NodeR w N pv kv cv ⟨true, ps, ks, cs⟩) (hne : ps ≠ []) (hl : NodeD.sizeP ps ≤ 100000) (hm : m ≤ 4096) :
    Calls Tryz.prog 153 #[.pointer (some ⟨x, 0, none⟩), nodeV true pv kv cv] w (PartsOut w N (splitN (leafN ps) m).1 (splitN (leafN ps) m).2.1 (splitN (leafN ps) m).2.2) := by
  obtain ⟨pA, pc, kA, kc, cA, cc, rfl, rfl, rfl⟩ := hn.shape
  simp only at hn ⊢
  have hpl := sizeP_ge ps
  have hlen : 0 < ps.length := List.length_pos_iff.2 hne
  obtain ⟨W3, hW3⟩ : ∃ W3, W3 = ((w.alloc (.cells #[.bool true, .slice pA ps.length pc, .slice kA ks.length kc, .slice cA cs.length cc] 117)).alloc (.cells #[.bool false, .slice none 0 0, .slice none 0 0, .slice none 0 0] 117)).alloc (.cells #[.bool false, .slice none 0 0, .slice none 0 0, .slice none 0 0] 117) := ⟨_, rfl⟩
  have ho3 : Only NoB w W3 := by rw [hW3]; exact (((Only.refl NoB w).alloc _).alloc _).alloc _
  have c1 : W3.cell? ⟨x, 1, none⟩ = some (.int .i64 m) := (hx.only ho3 id).cell 1
  rw [hW3] at c1
  have hB : Blk W3 w.heap.size 117 #[.bool true, .slice pA ps.length pc, .slice kA ks.length kc, .slice cA cs.length cc] := by rw [hW3]; exact ((Blk.new w _ _).alloc _).alloc _
  obtain ⟨g0, off0, c0', hve0, _, _, hcell0⟩ := hn.pairs.open_ (by show 0 < ps.length * 2; omega)
  have hgc0 := hcell0 0 _ (List.getElem?_eq_getElem (by rw [pairL_len]; show 0 < ps.length * 2; omega))
  obtain ⟨g, off, c', hve, _, _, hcell⟩ := (hn.pairs.only ho3 fun _ _ => id).open_ (by show 0 < ps.length * 2; omega)
  injection hve0 with r1 r2 r3
  injection hve with q1 q2 q3
  have hgg : g0 = g := by rw [r1] at q1; injection q1 with q1; injection q1
  subst q1; subst q3
  rw [hgg] at hgc0
  have hgc := hgc0
  clear hcell0 r1 r2 r3 hgg hgc0
  have HC : Hid (∀ k (hk : k < ps.length), W3.cell? ⟨g, off + k * 2, none⟩ = some (strV ps[k].1) ∧ W3.cell? ⟨g, off + k * 2 + 1, none⟩ = some (strV ps[k].2)) := Lib.hid fun k hk => by
    obtain ⟨p1, p2⟩ := pairL_get (List.getElem?_eq_getElem hk)
    have e2 := hcell _ _ p2
    rw [← Nat.add_assoc] at e2
    exact ⟨hcell _ _ p1, e2⟩
  have hB4 : Blk W3 (w.heap.size + 1) 117 #[.bool false, .slice none 0 0, .slice none 0 0, .slice none 0 0] := by
    rw [hW3]
    have := Blk.new (w.alloc (.cells #[.bool true, .slice (some ⟨g, off, none⟩) ps.length pc, .slice kA ks.length kc, .slice cA cs.length cc] 117)) 117 #[.bool false, .slice none 0 0, .slice none 0 0, .slice none 0 0]
    rw [show (w.alloc (.cells #[.bool true, .slice (some ⟨g, off, none⟩) ps.length pc, .slice kA ks.length kc, .slice cA cs.length cc] 117)).heap.size = w.heap.size + 1 by simp] at this
    exact this.alloc _
  have hB6 : Blk W3 (w.heap.size + 1 + 1) 117 #[.bool false, .slice none 0 0, .slice none 0 0, .slice none 0 0] := by
    rw [hW3]
    have := Blk.new ((w.alloc (.cells #[.bool true, .slice (some ⟨g, off, none⟩) ps.length pc, .slice kA ks.length kc, .slice cA cs.length cc] 117)).alloc (.cells #[.bool false, .slice none 0 0, .slice none 0 0, .slice none 0 0] 117)) 117 #[.bool false, .slice none 0 0, .slice none 0 0, .slice none 0 0]
    rwa [show ((w.alloc (.cells #[.bool true, .slice (some ⟨g, off, none⟩) ps.length pc, .slice kA ks.length kc, .slice cA cs.length cc] 117)).alloc (.cells #[.bool false, .slice none 0 0, .slice none 0 0, .slice none 0 0] 117)).heap.size = w.heap.size + 1 + 1 by simp] at this
  have hgw : g < w.heap.size := World.block_lt_of_cell? _ _ hgc
  have HNG : Hid (∀ q, q = w.heap.size ∨ q = g → q ≠ w.heap.size + 1 ∧ q ≠ w.heap.size + 1 + 1) := Lib.hid fun q hq => by omega
  have HB4 := Lib.hid hB4
  have HB6 := Lib.hid hB6
  have HN := Lib.hid (hn.quit ho3)
  have HB := Lib.hid hB
  have HO3 := Lib.hid ho3
  have HW3 := Lib.hid hW3
  obtain ⟨A, hA⟩ : ∃ A, A = cut (m / 2) (ps.map szP) 0 := ⟨_, rfl⟩
  have HA := Lib.hid hA
  have hAlt : A < ps.length := by
    have := cut_lt (m / 2) (ps.map szP) 0 (by simpa using hne)
    rw [← hA] at this
    simpa using this
  have HNE := Lib.hid hne
  have hdv : (m : Int).tdiv 2 = ((m / 2 : Nat) : Int) := by rw [Int.tdiv_eq_ediv_of_nonneg (by omega)]; omega
  clear hn hB hB4 hB6 ho3 hW3 hcell q2 hA hne hx hgc
  unfold nodeV
  go_enter Tryz.func153, Tryz.ntmps153
  go_wp2_with fail
  rw [← HW3.out]
  go_loopw [8, 9] (fun s8 s9 wr => ∃ k : Nat, k ≤ A ∧ s9 = .int .i64 k ∧ s8 = .int .i64 ((((ps.map szP).take k).sum : Nat) : Int) ∧ Only NoB W3 wr) (fun _ s9 _ => A - (intOf s9).toNat)
  case atStart => exact ⟨0, Nat.zero_le _, rfl, by simp, Only.refl _ _⟩
  case round =>
    obtain ⟨k, hk, rfl, rfl, hor⟩ := hrel
    have hst := cut_step (m / 2) (ps.map szP) 0 k (by rw [← HA.out]; exact hk)
    rw [← HA.out, List.length_map, Nat.zero_add] at hst
    have hsl := sum_take_le ps k
    have hb := HB.out.only hor id
    have n1 : wr.cell? _ = some _ := hb.cell 1
    have HOR := Lib.hid hor
    have HBR := Lib.hid hb
    obtain ⟨S, hS⟩ : ∃ S, S = ((ps.map szP).take k).sum := ⟨_, rfl⟩
    rw [← hS] at hst hsl ⊢
    have HS := Lib.hid hS
    clear hb hor hS
    by_cases hlt : k < A
    · obtain ⟨h1, h2⟩ := hst.1 hlt
      have hsz := sum_take_szP ps (k := k) (by omega)
      obtain ⟨e1, e2⟩ := HC.out k (by omega)
      have e1 := HOR.out.cell e1 id
      have e2 := HOR.out.cell e2 id
      obtain ⟨⟨a, b⟩, hab⟩ : ∃ q, q = ps[k] := ⟨_, rfl⟩
      rw [← hab] at e1 e2 hsz
      unfold strV at e1 e2
      simp only at hsz e1 e2
      rw [← HS.out] at hsz
      have hsz2 := sum_take_le ps (k + 1)
      rw [hsz] at hsz2
      have HSZ := Lib.hid hsz
      have h3 : (k : Int) < (ps.length : Int) - 1 := by omega
      have h4 : (S : Int) < ((m / 2 : Nat) : Int) := by omega
      have h5 : (k : Int) < (ps.length : Int) := by omega
      clear hst hsz hab
      have hki : (k : Int) < (ps.length : Int) := by omega
      have hki2 : k < ps.length := by omega
      go_wp2_with fail
      go_quiet (fail)
      go_wp2_with fail
      go_roundw
      case rel => exact ⟨k + 1, by omega, by go_num, by rw [HSZ.out]; go_num, HOR.out.drewN nq⟩
      case measure => simp only [intOf]; omega
    · obtain rfl : k = A := by omega
      obtain ⟨e1, _⟩ := HC.out k hAlt
      have e1 := HOR.out.cell e1 id
      obtain ⟨a, ha⟩ : ∃ a, a = ps[k].1 := ⟨_, rfl⟩
      rw [← ha] at e1
      unfold strV at e1
      have HAK := Lib.hid ha
      have hki2 : k ≤ ps.length := by omega
      have hpk : ¬ (pc = k) := by omega
      have hlt3 : k < ps.length := by omega
      have hki3 : (k : Int) < (ps.length : Int) := by omega
      have hki4 : (k : Int) ≤ (ps.length : Int) := by omega
      have hki5 : (k : Int) ≤ (pc : Int) := by omega
      have hki6 : k ≤ pc := by omega
      have hcase : (¬ (k : Int) < (ps.length : Int) - 1) ∨ ((k : Int) < (ps.length : Int) - 1 ∧ ¬ (S : Int) < ((m / 2 : Nat) : Int)) := by
        by_cases h : k + 1 < ps.length
        · exact .inr ⟨by omega, fun h2 => hlt (hst.2 ⟨h, by omega⟩)⟩
        · exact .inl (by omega)
      clear hst ha hlt
      rcases hcase with h1 | ⟨h1, h2⟩
      all_goals
        go_wp2_with fail
        have hb4 := HB4.out.only HOR.out id
        have hb6 := HB6.out.only HOR.out id
        obtain ⟨hs4, hst4⟩ := set4 hb4 (.bool true) (.slice (some ⟨g, off, none⟩) k pc) (.slice none 0 0) (.slice none 0 0)
        have hb6' := hb6.only hst4 (by show ¬ (w.heap.size + 1 + 1 = w.heap.size + 1); omega)
        obtain ⟨hs6, hst6⟩ := set4 hb6' (.bool true) (.slice (some ⟨g, off + k * 2, none⟩) (ps.length - k) (pc - k)) (.slice none 0 0) (.slice none 0 0)
        have x0 := hb4.cell 0
        have x1 := hb4.cell 1
        have x2 := hb4.cell 2
        have x3 := hb4.cell 3
        have y0 := hb4.frozen 0
        have y1 := hb4.frozen 1
        have y2 := hb4.frozen 2
        have y3 := hb4.frozen 3
        have z0 := hb6'.cell 0
        have z1 := hb6'.cell 1
        have z2 := hb6'.cell 2
        have z3 := hb6'.cell 3
        have v0 := hb6'.frozen 0
        have v1 := hb6'.frozen 1
        have v2 := hb6'.frozen 2
        have v3 := hb6'.frozen 3
        have HS4 := Lib.hid hs4
        have HT4 := Lib.hid hst4
        have HS6 := Lib.hid hs6
        have HT6 := Lib.hid hst6
        have HNW : Hid (∀ q, q = w.heap.size ∨ q = g → q ≠ w.heap.size + 1 ∧ q ≠ w.heap.size + 1 + 1) := Lib.hid HNG.out
        clear hb4 hb6 hb6' hs4 hst4 hs6 hst6
        refine wp_region_noPanic ?_
        refine held_start (n := 19) (S := (fun w' => w'.cell? ⟨w.heap.size, 1, none⟩ = some (.slice (some ⟨g, off, none⟩) ps.length pc) ∧ w'.cell? ⟨g, off + k * 2, none⟩ = some (.string ⟨a.toArray⟩))) (listed := #[false, false, false, false, false, false, false, false, false, false, false, false, false, false, false, false, false, false, false]) (by kernel_rfl) (by kernel_rfl) (by kernel_rfl) (⟨n1, e1⟩) (fun hHeld => ?_)
        refine held_take (i := 0) (d := 49) (v := ?_) (listed' := #[true, false, false, false, false, false, false, false, false, false, false, false, false, false, false, false, false, false, false]) (by kernel_rfl) (by kernel_rfl) (by kernel_rfl) (by kernel_rfl) (by kernel_rfl) (by kernel_rfl) (fun _ _ _ _ _ h => h) (by assumption) ?_ ?_
        rotate_left
        · (intro o ho w' hSw; cases ho; (try dsimp only at hSw); go_simp; try with_reducible rfl)
        simp only [Act.put, List.setIfInBounds_toArray, List.set_cons_zero, List.set_cons_succ]
        refine held_take (i := 1) (d := 50) (v := ?_) (listed' := #[true, true, false, false, false, false, false, false, false, false, false, false, false, false, false, false, false, false, false]) (by kernel_rfl) (by kernel_rfl) (by kernel_rfl) (by kernel_rfl) (by kernel_rfl) (by kernel_rfl) (fun _ _ _ _ _ h => h) (by assumption) ?_ ?_
        rotate_left
        · (intro o ho w' hSw; cases ho; (try dsimp only at hSw); go_simp; try with_reducible rfl)
        simp only [Act.put, List.setIfInBounds_toArray, List.set_cons_zero, List.set_cons_succ]
        refine held_take (i := 2) (d := 51) (v := ?_) (listed' := #[true, true, true, false, false, false, false, false, false, false, false, false, false, false, false, false, false, false, false]) (by kernel_rfl) (by kernel_rfl) (by kernel_rfl) (by kernel_rfl) (by kernel_rfl) (by kernel_rfl) (fun _ _ _ _ _ h => h) (by assumption) ?_ ?_
        rotate_left
        · (intro o ho w' hSw; cases ho; (try dsimp only at hSw); go_simp; try with_reducible rfl)
        simp only [Act.put, List.setIfInBounds_toArray, List.set_cons_zero, List.set_cons_succ]
        refine held_take (i := 3) (d := 52) (v := ?_) (listed' := #[true, true, true, true, false, false, false, false, false, false, false, false, false, false, false, false, false, false, false]) (by kernel_rfl) (by kernel_rfl) (by kernel_rfl) (by kernel_rfl) (by kernel_rfl) (by kernel_rfl) (fun _ _ _ _ _ h => h) (by assumption) ?_ ?_
        rotate_left
        · (intro o ho w' hSw; cases ho; (try dsimp only at hSw); go_simp; try with_reducible rfl)
        simp only [Act.put, List.setIfInBounds_toArray, List.set_cons_zero, List.set_cons_succ]
        refine held_take (i := 4) (d := 53) (v := ?_) (listed' := #[true, true, true, true, true, false, false, false, false, false, false, false, false, false, false, false, false, false, false]) (by kernel_rfl) (by kernel_rfl) (by kernel_rfl) (by kernel_rfl) (by kernel_rfl) (by kernel_rfl) (fun _ _ _ _ _ h => h) (by assumption) ?_ ?_
        rotate_left
        · (intro o ho w' hSw; cases ho; (try dsimp only at hSw); go_simp; try with_reducible rfl)
        simp only [Act.put, List.setIfInBounds_toArray, List.set_cons_zero, List.set_cons_succ]
        refine held_take (i := 5) (d := 54) (v := ?_) (listed' := #[true, true, true, true, true, true, false, false, false, false, false, false, false, false, false, false, false, false, false]) (by kernel_rfl) (by kernel_rfl) (by kernel_rfl) (by kernel_rfl) (by kernel_rfl) (by kernel_rfl) (fun _ _ _ _ _ h => h) (by assumption) ?_ ?_
        rotate_left
        · (intro o ho w' hSw; cases ho; (try dsimp only at hSw); go_simp; try with_reducible rfl)
        simp only [Act.put, List.setIfInBounds_toArray, List.set_cons_zero, List.set_cons_succ]
        refine held_take (i := 6) (d := 55) (v := ?_) (listed' := #[true, true, true, true, true, true, true, false, false, false, false, false, false, false, false, false, false, false, false]) (by kernel_rfl) (by kernel_rfl) (by kernel_rfl) (by kernel_rfl) (by kernel_rfl) (by kernel_rfl) (fun _ _ _ _ _ h => h) (by assumption) ?_ ?_
        rotate_left
        · (intro o ho w' hSw; cases ho; (try dsimp only at hSw); go_simp; try with_reducible rfl)
        simp only [Act.put, List.setIfInBounds_toArray, List.set_cons_zero, List.set_cons_succ]
        refine held_take (i := 7) (d := 56) (v := ?_) (listed' := #[true, true, true, true, true, true, true, true, false, false, false, false, false, false, false, false, false, false, false]) (by kernel_rfl) (by kernel_rfl) (by kernel_rfl) (by kernel_rfl) (by kernel_rfl) (by kernel_rfl) (fun _ _ _ _ _ h => h) (by assumption) ?_ ?_
        rotate_left
        · (intro o ho w' hSw; cases ho; (try dsimp only at hSw); go_simp; try with_reducible rfl)
        simp only [Act.put, List.setIfInBounds_toArray, List.set_cons_zero, List.set_cons_succ]
        refine held_take (i := 8) (d := 57) (v := ?_) (listed' := #[true, true, true, true, true, true, true, true, true, false, false, false, false, false, false, false, false, false, false]) (by kernel_rfl) (by kernel_rfl) (by kernel_rfl) (by kernel_rfl) (by kernel_rfl) (by kernel_rfl) (fun _ _ _ _ _ h => h) (by assumption) ?_ ?_
        rotate_left
        · (intro o ho w' hSw; cases ho; (try dsimp only at hSw); go_simp; try with_reducible rfl)
        simp only [Act.put, List.setIfInBounds_toArray, List.set_cons_zero, List.set_cons_succ]
        refine held_take (i := 9) (d := 58) (v := ?_) (listed' := #[true, true, true, true, true, true, true, true, true, true, false, false, false, false, false, false, false, false, false]) (by kernel_rfl) (by kernel_rfl) (by kernel_rfl) (by kernel_rfl) (by kernel_rfl) (by kernel_rfl) (fun _ _ _ _ _ h => h) (by assumption) ?_ ?_
        rotate_left
        · (intro o ho w' hSw; cases ho; (try dsimp only at hSw); go_simp; try with_reducible rfl)
        simp only [Act.put, List.setIfInBounds_toArray, List.set_cons_zero, List.set_cons_succ]
        refine held_take (i := 10) (d := 59) (v := ?_) (listed' := #[true, true, true, true, true, true, true, true, true, true, true, false, false, false, false, false, false, false, false]) (by kernel_rfl) (by kernel_rfl) (by kernel_rfl) (by kernel_rfl) (by kernel_rfl) (by kernel_rfl) (fun _ _ _ _ _ h => h) (by assumption) ?_ ?_
        rotate_left
        · (intro o ho w' hSw; cases ho; (try dsimp only at hSw); go_simp; try with_reducible rfl)
        simp only [Act.put, List.setIfInBounds_toArray, List.set_cons_zero, List.set_cons_succ]
        refine held_take (i := 11) (d := 60) (v := ?_) (listed' := #[true, true, true, true, true, true, true, true, true, true, true, true, false, false, false, false, false, false, false]) (by kernel_rfl) (by kernel_rfl) (by kernel_rfl) (by kernel_rfl) (by kernel_rfl) (by kernel_rfl) (fun _ _ _ _ _ h => h) (by assumption) ?_ ?_
        rotate_left
        · (intro o ho w' hSw; cases ho; (try dsimp only at hSw); go_simp; try with_reducible rfl)
        simp only [Act.put, List.setIfInBounds_toArray, List.set_cons_zero, List.set_cons_succ]
        refine held_take (i := 12) (d := 61) (v := ?_) (listed' := #[true, true, true, true, true, true, true, true, true, true, true, true, true, false, false, false, false, false, false]) (by kernel_rfl) (by kernel_rfl) (by kernel_rfl) (by kernel_rfl) (by kernel_rfl) (by kernel_rfl) (fun _ _ _ _ _ h => h) (by assumption) ?_ ?_
        rotate_left
        · (intro o ho w' hSw; cases ho; (try dsimp only at hSw); go_simp; try with_reducible rfl)
        simp only [Act.put, List.setIfInBounds_toArray, List.set_cons_zero, List.set_cons_succ]
        refine held_take (i := 13) (d := 62) (v := ?_) (listed' := #[true, true, true, true, true, true, true, true, true, true, true, true, true, true, false, false, false, false, false]) (by kernel_rfl) (by kernel_rfl) (by kernel_rfl) (by kernel_rfl) (by kernel_rfl) (by kernel_rfl) (fun _ _ _ _ _ h => h) (by assumption) ?_ ?_
        rotate_left
        · (intro o ho w' hSw; cases ho; (try dsimp only at hSw); go_simp; try with_reducible rfl)
        simp only [Act.put, List.setIfInBounds_toArray, List.set_cons_zero, List.set_cons_succ]
        refine held_take (i := 14) (d := 63) (v := ?_) (listed' := #[true, true, true, true, true, true, true, true, true, true, true, true, true, true, true, false, false, false, false]) (by kernel_rfl) (by kernel_rfl) (by kernel_rfl) (by kernel_rfl) (by kernel_rfl) (by kernel_rfl) (fun _ _ _ _ _ h => h) (by assumption) ?_ ?_
        rotate_left
        · (intro o ho w' hSw; cases ho; (try dsimp only at hSw); go_simp; try with_reducible rfl)
        simp only [Act.put, List.setIfInBounds_toArray, List.set_cons_zero, List.set_cons_succ]
        refine held_take (i := 15) (d := 64) (v := ?_) (listed' := #[true, true, true, true, true, true, true, true, true, true, true, true, true, true, true, true, false, false, false]) (by kernel_rfl) (by kernel_rfl) (by kernel_rfl) (by kernel_rfl) (by kernel_rfl) (by kernel_rfl) (fun _ _ _ _ _ h => h) (by assumption) ?_ ?_
        rotate_left
        · (intro o ho w' hSw; cases ho; (try dsimp only at hSw); go_simp; try with_reducible rfl)
        simp only [Act.put, List.setIfInBounds_toArray, List.set_cons_zero, List.set_cons_succ]
        refine held_step (i := 16) (listed' := #[true, true, true, true, true, true, true, true, true, true, true, true, true, true, true, true, true, false, false]) (by kernel_rfl) (by kernel_rfl) (by kernel_rfl) (fun o ho K hK => ?_)
        cases ho
        go_simp
        skip
        refine hK.out _ _ (⟨HT4.out.drew.cell n1 (HNW.out _ (.inl rfl)).1, HT4.out.drew.cell e1 (HNW.out _ (.inr rfl)).1⟩) (fun hHeld => ?_)
        clear hK K
        try simp only [Act.put, List.setIfInBounds_toArray, List.set_cons_zero, List.set_cons_succ]
        refine held_take (i := 17) (d := 5) (v := ?_) (listed' := #[true, true, true, true, true, true, true, true, true, true, true, true, true, true, true, true, true, true, false]) (by kernel_rfl) (by kernel_rfl) (by kernel_rfl) (by kernel_rfl) (by kernel_rfl) (by kernel_rfl) (fun _ _ _ _ _ h => h) (by assumption) ?_ ?_
        rotate_left
        · (intro o ho w' hSw; cases ho; (try dsimp only at hSw); go_simp; try with_reducible rfl)
        simp only [Act.put, List.setIfInBounds_toArray, List.set_cons_zero, List.set_cons_succ]
        refine held_step (i := 18) (listed' := #[true, true, true, true, true, true, true, true, true, true, true, true, true, true, true, true, true, true, true]) (by kernel_rfl) (by kernel_rfl) (by kernel_rfl) (fun o ho K hK => ?_)
        cases ho
        go_simp
        skip
        refine hK.out _ _ (⟨HT6.out.drew.cell (HT4.out.cell n1 (HNW.out _ (.inl rfl)).1) (HNW.out _ (.inl rfl)).2, HT6.out.drew.cell (HT4.out.cell e1 (HNW.out _ (.inr rfl)).1) (HNW.out _ (.inr rfl)).2⟩) (fun hHeld => ?_)
        clear hK K
        try simp only [Act.put, List.setIfInBounds_toArray, List.set_cons_zero, List.set_cons_succ]
        refine wpAnyH_done (by kernel_rfl) ?_ _
        refine NoPanic.normal ?_
        go_wp2_with fail
        (try simp only [Exit.inBlock, Exit.then])
        have hb4 := (HS4.out.only HT6.out (by show ¬ (w.heap.size + 1 = w.heap.size + 1 + 1); omega)).drew
        have hb6 := HS6.out.drew
        refine bodyPost_ret (results_row_tmp_row rfl _ _ (w.heap.size + 1) (w.heap.size + 1 + 1) 117 117 _ _ rfl hb4 (by kernel_rfl) (by kernel_rfl) rfl hb6 (by kernel_rfl) (by kernel_rfl)) rfl ?_
        have hsp : splitAt (leafN ps) m = k := HA.out.symm
        have hsplit : splitN (leafN ps) m = (⟨true, ps.take k, [], []⟩, a, ⟨true, ps.drop k, [], []⟩) := by
          unfold splitN
          rw [if_pos (show (leafN ps).leaf = true from rfl), hsp]
          show (_, (ps.getD k ([], [])).1, _) = _
          rw [List.getD_eq_getElem?_getD, List.getElem?_eq_getElem hlt3, HAK.out]
          rfl
        rw [hsplit]
        have hon : Only NoB w _ := only_new (only_new (HO3.out.trans HOR.out) HT4.out fun q hq => by omega) HT6.out fun q hq => by omega
        have hpr : Rd wr N 2 (.slice (some ⟨g, off, none⟩) ps.length pc) ps.length (pairL ps) := HN.out.pairs.only HOR.out fun _ _ => id
        have hpa := hpr.at_
        have hlast : Rd _ (fun q => q = g ∧ N q) 2 (.slice (some ⟨g, off, none⟩) ps.length pc) ps.length (pairL ps) := ((hpa.only HT4.out fun q hq h => (HNW.out q (.inr hq.1)).1 h).only HT6.out fun q hq h => (HNW.out q (.inr hq.1)).2 h).only (Only.refl NoB _).drew fun _ _ => id
        have hpA := (hlast.take_ hki2).mono (G := N) fun q hq _ => hq.2
        have hpB := (hlast.drop_ hki2).mono (G := N) fun q hq _ => hq.2
        rw [← pairL_takeN] at hpA
        rw [← pairL_dropN] at hpB
        refine ⟨_, _, _, _, _, _, rfl, ⟨?_, Rd.nil _ _ _, Rd.nil _ _ _⟩, ⟨?_, Rd.nil _ _ _, Rd.nil _ _ _⟩, hon.drew⟩
        · show Rd _ N 2 _ (ps.take k).length (pairL (ps.take k))
          rw [List.length_take, Nat.min_eq_left hki2]
          exact hpA
        · show Rd _ N 2 _ (ps.drop k).length (pairL (ps.drop k))
          rw [List.length_drop]
          exact hpB
end
end Go.Proofs.YtdipjakblaeekaaGreat
namespace Go.Proofs.YtdipjakblaeekaaGreat
open Go.RowKit Go.Proofs
set_option maxRecDepth 20000
section
variable {w W' : World} {N : Nat → Prop} {m g off g2 off2 k kc cc : Nat} {ps : List KV} {a : Str} {ks : List Str} {cs : List Nat}
theorem parts_in (hlk : Rd W' (fun q => q = g ∧ N q) 1 (.slice (some ⟨g, off, none⟩) ks.length kc) ks.length (ks.map strV)) (hlc : Rd W' (fun q => q = g2 ∧ N q) 1 (.slice (some ⟨g2, off2, none⟩) cs.length cc) cs.length (cs.map natV))
    (hk : k < ks.length) (hk4 : k + 1 ≤ cs.length) (hA : k = cut (m / 2) (ks.map szK) 0) (ha : a = ks[k]) (hon : Only NoB w W') (kb : Value) (hkB : Rd W' N 1 kb (ks.length - (k + 1)) ((ks.map strV).drop (k + 1))) :
    PartsOut w N (splitN ⟨false, ps, ks, cs⟩ m).1 (splitN ⟨false, ps, ks, cs⟩ m).2.1 (splitN ⟨false, ps, ks, cs⟩ m).2.2
      (.returned (.tuple #[.agg #[.bool false, .slice none 0 0, .slice (some ⟨g, off, none⟩) k kc, .slice (some ⟨g2, off2, none⟩) (k + 1) cc], .string ⟨a.toArray⟩,
        .agg #[.bool false, .slice none 0 0, kb, .slice (some ⟨g2, off2 + (k + 1), none⟩) (cs.length - (k + 1)) (cc - (k + 1))]])) W' := by
  have hsplit : splitN ⟨false, ps, ks, cs⟩ m = (⟨false, [], ks.take k, cs.take (k + 1)⟩, a, ⟨false, [], ks.drop (k + 1), cs.drop (k + 1)⟩) := by
    have hsp : splitAt ⟨false, ps, ks, cs⟩ m = k := hA.symm
    unfold splitN
    rw [if_neg (by simp), hsp]
    show (_, ks.getD k [], _) = _
    rw [List.getD_eq_getElem?_getD, List.getElem?_eq_getElem hk, ha]
    rfl
  rw [hsplit]
  have hkA := (hlk.take_ (Nat.le_of_lt hk)).mono (G := N) fun q hq _ => hq.2
  have hcA := (hlc.take_ hk4).mono (G := N) fun q hq _ => hq.2
  have hcB := (hlc.drop_ hk4).mono (G := N) fun q hq _ => hq.2
  simp only [Nat.mul_one, ← List.map_take, ← List.map_drop] at hkA hkB hcA hcB
  refine ⟨_, _, _, _, _, _, rfl, ⟨Rd.nil _ _ _, ?_, ?_⟩, ⟨Rd.nil _ _ _, ?_, ?_⟩, hon⟩
  · show Rd _ N 1 _ (ks.take k).length ((ks.take k).map strV)
    rw [List.length_take, Nat.min_eq_left (Nat.le_of_lt hk)]
    exact hkA
  · show Rd _ N 1 _ (cs.take (k + 1)).length ((cs.take (k + 1)).map natV)
    rw [List.length_take, Nat.min_eq_left hk4]
    exact hcA
  · show Rd _ N 1 _ (ks.drop (k + 1)).length ((ks.drop (k + 1)).map strV)
    rw [List.length_drop]
    exact hkB
  · show Rd _ N 1 _ (cs.drop (k + 1)).length ((cs.drop (k + 1)).map natV)
    rw [List.length_drop]
    exact hcB
end
end Go.Proofs.YtdipjakblaeekaaGreat
namespace Go.Proofs.YtdipjakblaeekaaGreat
open Go.RowKit Go.Proofs
set_option maxRecDepth 20000
section
variable {w w' : World} {F N K : Nat → Prop} {X : XC} {t x p r c h m : Nat} {D D' : PD} {n : NodeD} {v pv kv cv : Value} {M ps : List KV} {key : Str} {ks : List Str} {cs : List Nat}
theorem sum_take_szK (ks : List Str) {k : Nat} (h : k < ks.length) : ((ks.map szK).take (k + 1)).sum = ((ks.map szK).take k).sum + (4 + ks[k].length) := by
  rw [List.take_succ_eq_append_getElem (by simpa using h)]
  simp [szK]
theorem Rd.none_ {e : Option Addr} {c j : Nat} {xs : List Value} (hj : j = 0) (hx : xs.length = 0) : Rd w N 1 (.slice e 0 c) j xs := by
  subst hj
  exact ⟨_, _, rfl, Nat.zero_le _, by simpa using hx, fun h => by omega⟩
theorem sum_take_leK (ks : List Str) (k : Nat) : ((ks.map szK).take k).sum ≤ NodeD.sizeK ks + 3 * ks.length := by
  have h1 := sum_szK ks
  have h2 : ((ks.map szK).take k).sum + ((ks.map szK).drop k).sum = (ks.map szK).sum := by rw [← List.sum_append, List.take_append_drop]
  omega
set_option maxHeartbeats 4000000 in
theorem split_in (hx : Blk w x 120 #[.pointer (some ⟨t, 0, none⟩), .int .i64 m]) (hn : NodeR w N pv kv cv ⟨false, ps, ks, cs⟩) (hne : ks ≠ []) (hcl : cs.length = ks.length + 1) (hl : NodeD.sizeK ks ≤ 10000) (hm : m ≤ 4096) :
    Calls Tryz.prog 153 #[.pointer (some ⟨x, 0, none⟩), nodeV false pv kv cv] w (PartsOut w N (splitN ⟨false, ps, ks, cs⟩ m).1 (splitN ⟨false, ps, ks, cs⟩ m).2.1 (splitN ⟨false, ps, ks, cs⟩ m).2.2) := by
  obtain ⟨pA, pc, kA, kc, cA, cc, rfl, rfl, rfl⟩ := hn.shape
  simp only at hn ⊢
  have hpl := sizeK_ge ks
  have HCLN := Lib.hid hcl
  have hcl2 : ks.length < cs.length := by omega
  have hcl3 : cs.length ≤ ks.length + 1 := by omega
  clear hcl
  have hlen : 0 < ks.length := List.length_pos_iff.2 hne
  obtain ⟨W3, hW3⟩ : ∃ W3, W3 = ((w.alloc (.cells #[.bool false, .slice pA ps.length pc, .slice kA ks.length kc, .slice cA cs.length cc] 117)).alloc (.cells #[.bool false, .slice none 0 0, .slice none 0 0, .slice none 0 0] 117)).alloc (.cells #[.bool false, .slice none 0 0, .slice none 0 0, .slice none 0 0] 117) := ⟨_, rfl⟩
  have ho3 : Only NoB w W3 := by rw [hW3]; exact (((Only.refl NoB w).alloc _).alloc _).alloc _
  have c1 : W3.cell? ⟨x, 1, none⟩ = some (.int .i64 m) := (hx.only ho3 id).cell 1
  rw [hW3] at c1
  have hB : Blk W3 w.heap.size 117 #[.bool false, .slice pA ps.length pc, .slice kA ks.length kc, .slice cA cs.length cc] := by rw [hW3]; exact ((Blk.new w _ _).alloc _).alloc _
  obtain ⟨g0, off0, c0', hve0, _, _, hcell0⟩ := hn.keys.open_ (by show 0 < ks.length * 1; omega)
  have hgc0 := hcell0 0 _ (List.getElem?_eq_getElem (by rw [List.length_map]; exact hlen))
  obtain ⟨g, off, c', hve, _, _, hcell⟩ := (hn.keys.only ho3 fun _ _ => id).open_ (by show 0 < ks.length * 1; omega)
  obtain ⟨g3, off3, c3', hve3, _, _, hcell3⟩ := hn.kids.open_ (by show 0 < cs.length * 1; omega)
  have hg3 : g3 < w.heap.size := World.block_lt_of_cell? _ _ (hcell3 0 _ (List.getElem?_eq_getElem (by rw [List.length_map]; show 0 < cs.length; omega)))
  obtain ⟨g2, off2, c2', hve2, _, _, _⟩ := (hn.kids.only ho3 fun _ _ => id).open_ (by show 0 < cs.length * 1; omega)
  have hg2 : g2 < w.heap.size := by
    rw [hve3] at hve2
    injection hve2 with a1
    injection a1 with a1
    injection a1 with a1
    rw [← a1]; exact hg3
  clear hcell3 hg3 hve3
  injection hve0 with r1 r2 r3
  injection hve with q1 q2 q3
  injection hve2 with s1 s2 s3
  have hgg : g0 = g := by rw [r1] at q1; injection q1 with q1; injection q1
  subst q1; subst q3
  subst s1; subst s3
  rw [hgg] at hgc0
  have hgc := hgc0
  clear hcell0 r1 r2 r3 hgg hgc0
  have HC : Hid (∀ k (hk : k < ks.length), W3.cell? ⟨g, off + k, none⟩ = some (strV ks[k])) := Lib.hid fun k hk => hcell k _ (by rw [List.getElem?_map, List.getElem?_eq_getElem hk]; rfl)
  have hB4 : Blk W3 (w.heap.size + 1) 117 #[.bool false, .slice none 0 0, .slice none 0 0, .slice none 0 0] := by
    rw [hW3]
    have := Blk.new (w.alloc (.cells #[.bool false, .slice pA ps.length pc, .slice (some ⟨g, off, none⟩) ks.length kc, .slice (some ⟨g2, off2, none⟩) cs.length cc] 117)) 117 #[.bool false, .slice none 0 0, .slice none 0 0, .slice none 0 0]
    rw [show (w.alloc (.cells #[.bool false, .slice pA ps.length pc, .slice (some ⟨g, off, none⟩) ks.length kc, .slice (some ⟨g2, off2, none⟩) cs.length cc] 117)).heap.size = w.heap.size + 1 by simp] at this
    exact this.alloc _
  have hB6 : Blk W3 (w.heap.size + 1 + 1) 117 #[.bool false, .slice none 0 0, .slice none 0 0, .slice none 0 0] := by
    rw [hW3]
    have := Blk.new ((w.alloc (.cells #[.bool false, .slice pA ps.length pc, .slice (some ⟨g, off, none⟩) ks.length kc, .slice (some ⟨g2, off2, none⟩) cs.length cc] 117)).alloc (.cells #[.bool false, .slice none 0 0, .slice none 0 0, .slice none 0 0] 117)) 117 #[.bool false, .slice none 0 0, .slice none 0 0, .slice none 0 0]
    rwa [show ((w.alloc (.cells #[.bool false, .slice pA ps.length pc, .slice (some ⟨g, off, none⟩) ks.length kc, .slice (some ⟨g2, off2, none⟩) cs.length cc] 117)).alloc (.cells #[.bool false, .slice none 0 0, .slice none 0 0, .slice none 0 0] 117)).heap.size = w.heap.size + 1 + 1 by simp] at this
  have hgw : g < w.heap.size := World.block_lt_of_cell? _ _ hgc
  have HNG : Hid (∀ q, q = w.heap.size ∨ q = g → q ≠ w.heap.size + 1 ∧ q ≠ w.heap.size + 1 + 1) := Lib.hid fun q hq => by omega
  have HB4 := Lib.hid hB4
  have HB6 := Lib.hid hB6
  have HN := Lib.hid (hn.quit ho3)
  have HB := Lib.hid hB
  have HO3 := Lib.hid ho3
  have HW3 := Lib.hid hW3
  obtain ⟨A, hA⟩ : ∃ A, A = cut (m / 2) (ks.map szK) 0 := ⟨_, rfl⟩
  have HA := Lib.hid hA
  have hAlt : A < ks.length := by
    have := cut_lt (m / 2) (ks.map szK) 0 (by simpa using hne)
    rw [← hA] at this
    simpa using this
  have HNE := Lib.hid hne
  have hkc : ks.length ≤ kc := by obtain ⟨_, _, hv, hc, _⟩ := hn.keys; injection hv
  have hcc : cs.length ≤ cc := by obtain ⟨_, _, hv, hc, _⟩ := hn.kids; injection hv
  have hdv : (m : Int).tdiv 2 = ((m / 2 : Nat) : Int) := by rw [Int.tdiv_eq_ediv_of_nonneg (by omega)]; omega
  clear hn hB hB4 hB6 ho3 hW3 hcell q2 s2 hA hne hx hgc
  unfold nodeV
  go_enter Tryz.func153, Tryz.ntmps153
  go_wp2_with fail
  rw [← HW3.out]
  go_loopw [8, 10] (fun s8 s9 wr => ∃ k : Nat, k ≤ A ∧ s9 = .int .i64 k ∧ s8 = .int .i64 ((((ks.map szK).take k).sum : Nat) : Int) ∧ Only NoB W3 wr) (fun _ s9 _ => A - (intOf s9).toNat)
  case atStart => exact ⟨0, Nat.zero_le _, rfl, by simp, Only.refl _ _⟩
  case round =>
    obtain ⟨k, hk, rfl, rfl, hor⟩ := hrel
    have hst := cut_step (m / 2) (ks.map szK) 0 k (by rw [← HA.out]; exact hk)
    rw [← HA.out, List.length_map, Nat.zero_add] at hst
    have hsl := sum_take_leK ks k
    have hb := HB.out.only hor id
    have n2 : wr.cell? _ = some _ := hb.cell 2
    have n3 : wr.cell? _ = some _ := hb.cell 3
    have HOR := Lib.hid hor
    have HBR := Lib.hid hb
    obtain ⟨S, hS⟩ : ∃ S, S = ((ks.map szK).take k).sum := ⟨_, rfl⟩
    rw [← hS] at hst hsl ⊢
    have HS := Lib.hid hS
    clear hb hor hS
    by_cases hlt : k < A
    · obtain ⟨h1, h2⟩ := hst.1 hlt
      have hsz := sum_take_szK ks (k := k) (by omega)
      have e1 := HOR.out.cell (HC.out k (by omega)) id
      obtain ⟨a, hab⟩ : ∃ q, q = ks[k] := ⟨_, rfl⟩
      rw [← hab] at e1 hsz
      unfold strV at e1
      rw [← HS.out] at hsz
      have hsz2 := sum_take_leK ks (k + 1)
      rw [hsz] at hsz2
      have HSZ := Lib.hid hsz
      have h3 : (k : Int) < (ks.length : Int) - 1 := by omega
      have h4 : (S : Int) < ((m / 2 : Nat) : Int) := by omega
      have h5 : (k : Int) < (ks.length : Int) := by omega
      have hki2 : k < ks.length := by omega
      clear hst hsz hab
      go_wp2_with fail
      go_roundw
      case rel => exact ⟨k + 1, by omega, by go_num, by rw [HSZ.out]; go_num, HOR.out⟩
      case measure => simp only [intOf]; omega
    · obtain rfl : k = A := by omega
      have e1 := HOR.out.cell (HC.out k hAlt) id
      obtain ⟨a, ha⟩ : ∃ a, a = ks[k] := ⟨_, rfl⟩
      rw [← ha] at e1
      unfold strV at e1
      have HAK := Lib.hid ha
      have hki2 : k ≤ ks.length := by omega
      have hpk : ¬ (kc = k) := by omega
      have hlt3 : k < ks.length := by omega
      have hki3 : (k : Int) < (ks.length : Int) := by omega
      have hki4 : (k : Int) ≤ (ks.length : Int) := by omega
      have hki5 : (k : Int) ≤ (kc : Int) := by omega
      have hki6 : k ≤ kc := by omega
      have hki7 : (k : Int) ≤ (k : Int) + 1 := by omega
      have hcc1 : ¬ (cc = k + 1) := by omega
      have hcl4 : k + 1 ≤ cs.length := by omega
      have hcc2 : k + 1 ≤ cc := by omega
      have hcc3 : (k : Int) + 1 ≤ (cc : Int) := by omega
      have hcc4 : (k : Int) + 1 ≤ (cs.length : Int) := by omega
      have hcc5 : (k : Int) + 1 ≤ (ks.length : Int) := by omega
      have hcc6 : (0 : Int) ≤ (k : Int) + 1 := by omega
      have htn : ((k : Int) + 1).toNat = k + 1 := by omega
      have hw1 : IntKind.i64.wrap ((k : Int) + 1) = (k : Int) + 1 := by rw [IntKind.wrap_i64]; omega
      have hcase : (¬ (k : Int) < (ks.length : Int) - 1) ∨ ((k : Int) < (ks.length : Int) - 1 ∧ ¬ (S : Int) < ((m / 2 : Nat) : Int)) := by
        by_cases h : k + 1 < ks.length
        · exact .inr ⟨by omega, fun h2 => hlt (hst.2 ⟨h, by omega⟩)⟩
        · exact .inl (by omega)
      clear hst ha hlt
      by_cases hkk : kc = k + 1
      · subst hkk
        have h1 : ¬ (k : Int) < (ks.length : Int) - 1 := by omega
        have HKC := Lib.hid hkc
        clear hcase hkc
        · 
          go_wp2_with fail
          have hb4 := HB4.out.only HOR.out id
          have hb6 := HB6.out.only HOR.out id
          obtain ⟨hs4, hst4⟩ := set4 hb4 (.bool false) (.slice none 0 0) (.slice (some ⟨g, off, none⟩) k (k + 1)) (.slice (some ⟨g2, off2, none⟩) (k + 1) cc)
          have hb6' := hb6.only hst4 (by show ¬ (w.heap.size + 1 + 1 = w.heap.size + 1); omega)
          obtain ⟨hs6, hst6⟩ := set4 hb6' (.bool false) (.slice none 0 0) (.slice (some ⟨g, off, none⟩) 0 0) (.slice (some ⟨g2, off2 + (k + 1), none⟩) (cs.length - (k + 1)) (cc - (k + 1)))
          have x0 := hb4.cell 0
          have x1 := hb4.cell 1
          have x2 := hb4.cell 2
          have x3 := hb4.cell 3
          have y0 := hb4.frozen 0
          have y1 := hb4.frozen 1
          have y2 := hb4.frozen 2
          have y3 := hb4.frozen 3
          have z0 := hb6'.cell 0
          have z1 := hb6'.cell 1
          have z2 := hb6'.cell 2
          have z3 := hb6'.cell 3
          have v0 := hb6'.frozen 0
          have v1 := hb6'.frozen 1
          have v2 := hb6'.frozen 2
          have v3 := hb6'.frozen 3
          have HS4 := Lib.hid hs4
          have HT4 := Lib.hid hst4
          have HS6 := Lib.hid hs6
          have HT6 := Lib.hid hst6
          have HNW : Hid (∀ q, q = w.heap.size ∨ q = g → q ≠ w.heap.size + 1 ∧ q ≠ w.heap.size + 1 + 1) := Lib.hid HNG.out
          clear hb4 hb6 hb6' hs4 hst4 hs6 hst6
          refine wp_region_noPanic ?_
          refine held_start (n := 29) (S := (fun w' => w'.cell? ⟨w.heap.size, 2, none⟩ = some (.slice (some ⟨g, off, none⟩) ks.length (k + 1)) ∧ w'.cell? ⟨w.heap.size, 3, none⟩ = some (.slice (some ⟨g2, off2, none⟩) cs.length cc) ∧ w'.cell? ⟨g, off + k, none⟩ = some (.string ⟨a.toArray⟩))) (listed := #[false, false, false, false, false, false, false, false, false, false, false, false, false, false, false, false, false, false, false, false, false, false, false, false, false, false, false, false, false]) (by kernel_rfl) (by kernel_rfl) (by kernel_rfl) (⟨n2, n3, e1⟩) (fun hHeld => ?_)
          refine held_take (i := 0) (d := 87) (v := ?_) (listed' := #[true, false, false, false, false, false, false, false, false, false, false, false, false, false, false, false, false, false, false, false, false, false, false, false, false, false, false, false, false]) (by kernel_rfl) (by kernel_rfl) (by kernel_rfl) (by kernel_rfl) (by kernel_rfl) (by kernel_rfl) (fun _ _ _ _ _ h => h) (by assumption) ?_ ?_
          rotate_left
          · (intro o ho w' hSw; cases ho; (try dsimp only at hSw); go_simp; try with_reducible rfl)
          simp only [Act.put, List.setIfInBounds_toArray, List.set_cons_zero, List.set_cons_succ]
          refine held_take (i := 1) (d := 88) (v := ?_) (listed' := #[true, true, false, false, false, false, false, false, false, false, false, false, false, false, false, false, false, false, false, false, false, false, false, false, false, false, false, false, false]) (by kernel_rfl) (by kernel_rfl) (by kernel_rfl) (by kernel_rfl) (by kernel_rfl) (by kernel_rfl) (fun _ _ _ _ _ h => h) (by assumption) ?_ ?_
          rotate_left
          · (intro o ho w' hSw; cases ho; (try dsimp only at hSw); go_simp; try with_reducible rfl)
          simp only [Act.put, List.setIfInBounds_toArray, List.set_cons_zero, List.set_cons_succ]
          refine held_take (i := 2) (d := 89) (v := ?_) (listed' := #[true, true, true, false, false, false, false, false, false, false, false, false, false, false, false, false, false, false, false, false, false, false, false, false, false, false, false, false, false]) (by kernel_rfl) (by kernel_rfl) (by kernel_rfl) (by kernel_rfl) (by kernel_rfl) (by kernel_rfl) (fun _ _ _ _ _ h => h) (by assumption) ?_ ?_
          rotate_left
          · (intro o ho w' hSw; cases ho; (try dsimp only at hSw); go_simp; try with_reducible rfl)
          simp only [Act.put, List.setIfInBounds_toArray, List.set_cons_zero, List.set_cons_succ]
          refine held_take (i := 3) (d := 90) (v := ?_) (listed' := #[true, true, true, true, false, false, false, false, false, false, false, false, false, false, false, false, false, false, false, false, false, false, false, false, false, false, false, false, false]) (by kernel_rfl) (by kernel_rfl) (by kernel_rfl) (by kernel_rfl) (by kernel_rfl) (by kernel_rfl) (fun _ _ _ _ _ h => h) (by assumption) ?_ ?_
          rotate_left
          · (intro o ho w' hSw; cases ho; (try dsimp only at hSw); go_simp; try with_reducible rfl)
          simp only [Act.put, List.setIfInBounds_toArray, List.set_cons_zero, List.set_cons_succ]
          refine held_take (i := 4) (d := 91) (v := ?_) (listed' := #[true, true, true, true, true, false, false, false, false, false, false, false, false, false, false, false, false, false, false, false, false, false, false, false, false, false, false, false, false]) (by kernel_rfl) (by kernel_rfl) (by kernel_rfl) (by kernel_rfl) (by kernel_rfl) (by kernel_rfl) (fun _ _ _ _ _ h => h) (by assumption) ?_ ?_
          rotate_left
          · (intro o ho w' hSw; cases ho; (try dsimp only at hSw); go_simp; try with_reducible rfl)
          simp only [Act.put, List.setIfInBounds_toArray, List.set_cons_zero, List.set_cons_succ]
          refine held_take (i := 5) (d := 92) (v := ?_) (listed' := #[true, true, true, true, true, true, false, false, false, false, false, false, false, false, false, false, false, false, false, false, false, false, false, false, false, false, false, false, false]) (by kernel_rfl) (by kernel_rfl) (by kernel_rfl) (by kernel_rfl) (by kernel_rfl) (by kernel_rfl) (fun _ _ _ _ _ h => h) (by assumption) ?_ ?_
          rotate_left
          · (intro o ho w' hSw; cases ho; (try dsimp only at hSw); go_simp; try with_reducible rfl)
          simp only [Act.put, List.setIfInBounds_toArray, List.set_cons_zero, List.set_cons_succ]
          refine held_take (i := 6) (d := 93) (v := ?_) (listed' := #[true, true, true, true, true, true, true, false, false, false, false, false, false, false, false, false, false, false, false, false, false, false, false, false, false, false, false, false, false]) (by kernel_rfl) (by kernel_rfl) (by kernel_rfl) (by kernel_rfl) (by kernel_rfl) (by kernel_rfl) (fun _ _ _ _ _ h => h) (by assumption) ?_ ?_
          rotate_left
          · (intro o ho w' hSw; cases ho; (try dsimp only at hSw); go_simp; try with_reducible rfl)
          simp only [Act.put, List.setIfInBounds_toArray, List.set_cons_zero, List.set_cons_succ]
          refine held_take (i := 7) (d := 94) (v := ?_) (listed' := #[true, true, true, true, true, true, true, true, false, false, false, false, false, false, false, false, false, false, false, false, false, false, false, false, false, false, false, false, false]) (by kernel_rfl) (by kernel_rfl) (by kernel_rfl) (by kernel_rfl) (by kernel_rfl) (by kernel_rfl) (fun _ _ _ _ _ h => h) (by assumption) ?_ ?_
          rotate_left
          · (intro o ho w' hSw; cases ho; (try dsimp only at hSw); go_simp; try with_reducible rfl)
          simp only [Act.put, List.setIfInBounds_toArray, List.set_cons_zero, List.set_cons_succ]
          refine held_take (i := 8) (d := 95) (v := ?_) (listed' := #[true, true, true, true, true, true, true, true, true, false, false, false, false, false, false, false, false, false, false, false, false, false, false, false, false, false, false, false, false]) (by kernel_rfl) (by kernel_rfl) (by kernel_rfl) (by kernel_rfl) (by kernel_rfl) (by kernel_rfl) (fun _ _ _ _ _ h => h) (by assumption) ?_ ?_
          rotate_left
          · (intro o ho w' hSw; cases ho; (try dsimp only at hSw); go_simp; try with_reducible rfl)
          simp only [Act.put, List.setIfInBounds_toArray, List.set_cons_zero, List.set_cons_succ]
          refine held_take (i := 9) (d := 96) (v := ?_) (listed' := #[true, true, true, true, true, true, true, true, true, true, false, false, false, false, false, false, false, false, false, false, false, false, false, false, false, false, false, false, false]) (by kernel_rfl) (by kernel_rfl) (by kernel_rfl) (by kernel_rfl) (by kernel_rfl) (by kernel_rfl) (fun _ _ _ _ _ h => h) (by assumption) ?_ ?_
          rotate_left
          · (intro o ho w' hSw; cases ho; (try dsimp only at hSw); go_simp; try with_reducible rfl)
          simp only [Act.put, List.setIfInBounds_toArray, List.set_cons_zero, List.set_cons_succ]
          refine held_take (i := 10) (d := 97) (v := ?_) (listed' := #[true, true, true, true, true, true, true, true, true, true, true, false, false, false, false, false, false, false, false, false, false, false, false, false, false, false, false, false, false]) (by kernel_rfl) (by kernel_rfl) (by kernel_rfl) (by kernel_rfl) (by kernel_rfl) (by kernel_rfl) (fun _ _ _ _ _ h => h) (by assumption) ?_ ?_
          rotate_left
          · (intro o ho w' hSw; cases ho; (try dsimp only at hSw); go_simp; try with_reducible rfl)
          simp only [Act.put, List.setIfInBounds_toArray, List.set_cons_zero, List.set_cons_succ]
          refine held_take (i := 11) (d := 98) (v := ?_) (listed' := #[true, true, true, true, true, true, true, true, true, true, true, true, false, false, false, false, false, false, false, false, false, false, false, false, false, false, false, false, false]) (by kernel_rfl) (by kernel_rfl) (by kernel_rfl) (by kernel_rfl) (by kernel_rfl) (by kernel_rfl) (fun _ _ _ _ _ h => h) (by assumption) ?_ ?_
          rotate_left
          · (intro o ho w' hSw; cases ho; (try dsimp only at hSw); go_simp; try with_reducible rfl)
          simp only [Act.put, List.setIfInBounds_toArray, List.set_cons_zero, List.set_cons_succ]
          refine held_take (i := 12) (d := 99) (v := ?_) (listed' := #[true, true, true, true, true, true, true, true, true, true, true, true, true, false, false, false, false, false, false, false, false, false, false, false, false, false, false, false, false]) (by kernel_rfl) (by kernel_rfl) (by kernel_rfl) (by kernel_rfl) (by kernel_rfl) (by kernel_rfl) (fun _ _ _ _ _ h => h) (by assumption) ?_ ?_
          rotate_left
          · (intro o ho w' hSw; cases ho; (try dsimp only at hSw); go_simp; try with_reducible rfl)
          simp only [Act.put, List.setIfInBounds_toArray, List.set_cons_zero, List.set_cons_succ]
          refine held_take (i := 13) (d := 100) (v := ?_) (listed' := #[true, true, true, true, true, true, true, true, true, true, true, true, true, true, false, false, false, false, false, false, false, false, false, false, false, false, false, false, false]) (by kernel_rfl) (by kernel_rfl) (by kernel_rfl) (by kernel_rfl) (by kernel_rfl) (by kernel_rfl) (fun _ _ _ _ _ h => h) (by assumption) ?_ ?_
          rotate_left
          · (intro o ho w' hSw; cases ho; (try dsimp only at hSw); go_simp; try with_reducible rfl)
          simp only [Act.put, List.setIfInBounds_toArray, List.set_cons_zero, List.set_cons_succ]
          refine held_take (i := 14) (d := 101) (v := ?_) (listed' := #[true, true, true, true, true, true, true, true, true, true, true, true, true, true, true, false, false, false, false, false, false, false, false, false, false, false, false, false, false]) (by kernel_rfl) (by kernel_rfl) (by kernel_rfl) (by kernel_rfl) (by kernel_rfl) (by kernel_rfl) (fun _ _ _ _ _ h => h) (by assumption) ?_ ?_
          rotate_left
          · (intro o ho w' hSw; cases ho; (try dsimp only at hSw); go_simp; try with_reducible rfl)
          simp only [Act.put, List.setIfInBounds_toArray, List.set_cons_zero, List.set_cons_succ]
          refine held_take (i := 15) (d := 102) (v := ?_) (listed' := #[true, true, true, true, true, true, true, true, true, true, true, true, true, true, true, true, false, false, false, false, false, false, false, false, false, false, false, false, false]) (by kernel_rfl) (by kernel_rfl) (by kernel_rfl) (by kernel_rfl) (by kernel_rfl) (by kernel_rfl) (fun _ _ _ _ _ h => h) (by assumption) ?_ ?_
          rotate_left
          · (intro o ho w' hSw; cases ho; (try dsimp only at hSw); go_simp; try with_reducible rfl)
          simp only [Act.put, List.setIfInBounds_toArray, List.set_cons_zero, List.set_cons_succ]
          refine held_take (i := 16) (d := 103) (v := ?_) (listed' := #[true, true, true, true, true, true, true, true, true, true, true, true, true, true, true, true, true, false, false, false, false, false, false, false, false, false, false, false, false]) (by kernel_rfl) (by kernel_rfl) (by kernel_rfl) (by kernel_rfl) (by kernel_rfl) (by kernel_rfl) (fun _ _ _ _ _ h => h) (by assumption) ?_ ?_
          rotate_left
          · (intro o ho w' hSw; cases ho; (try dsimp only at hSw); go_simp; try with_reducible rfl)
          simp only [Act.put, List.setIfInBounds_toArray, List.set_cons_zero, List.set_cons_succ]
          refine held_take (i := 17) (d := 104) (v := ?_) (listed' := #[true, true, true, true, true, true, true, true, true, true, true, true, true, true, true, true, true, true, false, false, false, false, false, false, false, false, false, false, false]) (by kernel_rfl) (by kernel_rfl) (by kernel_rfl) (by kernel_rfl) (by kernel_rfl) (by kernel_rfl) (fun _ _ _ _ _ h => h) (by assumption) ?_ ?_
          rotate_left
          · (intro o ho w' hSw; cases ho; (try dsimp only at hSw); go_simp; try with_reducible rfl)
          simp only [Act.put, List.setIfInBounds_toArray, List.set_cons_zero, List.set_cons_succ]
          refine held_take (i := 18) (d := 105) (v := ?_) (listed' := #[true, true, true, true, true, true, true, true, true, true, true, true, true, true, true, true, true, true, true, false, false, false, false, false, false, false, false, false, false]) (by kernel_rfl) (by kernel_rfl) (by kernel_rfl) (by kernel_rfl) (by kernel_rfl) (by kernel_rfl) (fun _ _ _ _ _ h => h) (by assumption) ?_ ?_
          rotate_left
          · (intro o ho w' hSw; cases ho; (try dsimp only at hSw); go_simp; try with_reducible rfl)
          simp only [Act.put, List.setIfInBounds_toArray, List.set_cons_zero, List.set_cons_succ]
          refine held_take (i := 19) (d := 106) (v := ?_) (listed' := #[true, true, true, true, true, true, true, true, true, true, true, true, true, true, true, true, true, true, true, true, false, false, false, false, false, false, false, false, false]) (by kernel_rfl) (by kernel_rfl) (by kernel_rfl) (by kernel_rfl) (by kernel_rfl) (by kernel_rfl) (fun _ _ _ _ _ h => h) (by assumption) ?_ ?_
          rotate_left
          · (intro o ho w' hSw; cases ho; (try dsimp only at hSw); go_simp; try with_reducible rfl)
          simp only [Act.put, List.setIfInBounds_toArray, List.set_cons_zero, List.set_cons_succ]
          refine held_take (i := 20) (d := 107) (v := ?_) (listed' := #[true, true, true, true, true, true, true, true, true, true, true, true, true, true, true, true, true, true, true, true, true, false, false, false, false, false, false, false, false]) (by kernel_rfl) (by kernel_rfl) (by kernel_rfl) (by kernel_rfl) (by kernel_rfl) (by kernel_rfl) (fun _ _ _ _ _ h => h) (by assumption) ?_ ?_
          rotate_left
          · (intro o ho w' hSw; cases ho; (try dsimp only at hSw); go_simp; try with_reducible rfl)
          simp only [Act.put, List.setIfInBounds_toArray, List.set_cons_zero, List.set_cons_succ]
          refine held_take (i := 21) (d := 108) (v := ?_) (listed' := #[true, true, true, true, true, true, true, true, true, true, true, true, true, true, true, true, true, true, true, true, true, true, false, false, false, false, false, false, false]) (by kernel_rfl) (by kernel_rfl) (by kernel_rfl) (by kernel_rfl) (by kernel_rfl) (by kernel_rfl) (fun _ _ _ _ _ h => h) (by assumption) ?_ ?_
          rotate_left
          · (intro o ho w' hSw; cases ho; (try dsimp only at hSw); go_simp; try with_reducible rfl)
          simp only [Act.put, List.setIfInBounds_toArray, List.set_cons_zero, List.set_cons_succ]
          refine held_take (i := 22) (d := 109) (v := ?_) (listed' := #[true, true, true, true, true, true, true, true, true, true, true, true, true, true, true, true, true, true, true, true, true, true, true, false, false, false, false, false, false]) (by kernel_rfl) (by kernel_rfl) (by kernel_rfl) (by kernel_rfl) (by kernel_rfl) (by kernel_rfl) (fun _ _ _ _ _ h => h) (by assumption) ?_ ?_
          rotate_left
          · (intro o ho w' hSw; cases ho; (try dsimp only at hSw); go_simp; try with_reducible rfl)
          simp only [Act.put, List.setIfInBounds_toArray, List.set_cons_zero, List.set_cons_succ]
          refine held_take (i := 23) (d := 110) (v := ?_) (listed' := #[true, true, true, true, true, true, true, true, true, true, true, true, true, true, true, true, true, true, true, true, true, true, true, true, false, false, false, false, false]) (by kernel_rfl) (by kernel_rfl) (by kernel_rfl) (by kernel_rfl) (by kernel_rfl) (by kernel_rfl) (fun _ _ _ _ _ h => h) (by assumption) ?_ ?_
          rotate_left
          · (intro o ho w' hSw; cases ho; (try dsimp only at hSw); go_simp; try with_reducible rfl)
          simp only [Act.put, List.setIfInBounds_toArray, List.set_cons_zero, List.set_cons_succ]
          refine held_take (i := 24) (d := 111) (v := ?_) (listed' := #[true, true, true, true, true, true, true, true, true, true, true, true, true, true, true, true, true, true, true, true, true, true, true, true, true, false, false, false, false]) (by kernel_rfl) (by kernel_rfl) (by kernel_rfl) (by kernel_rfl) (by kernel_rfl) (by kernel_rfl) (fun _ _ _ _ _ h => h) (by assumption) ?_ ?_
          rotate_left
          · (intro o ho w' hSw; cases ho; (try dsimp only at hSw); go_simp; try with_reducible rfl)
          simp only [Act.put, List.setIfInBounds_toArray, List.set_cons_zero, List.set_cons_succ]
          refine held_take (i := 25) (d := 112) (v := ?_) (listed' := #[true, true, true, true, true, true, true, true, true, true, true, true, true, true, true, true, true, true, true, true, true, true, true, true, true, true, false, false, false]) (by kernel_rfl) (by kernel_rfl) (by kernel_rfl) (by kernel_rfl) (by kernel_rfl) (by kernel_rfl) (fun _ _ _ _ _ h => h) (by assumption) ?_ ?_
          rotate_left
          · (intro o ho w' hSw; cases ho; (try dsimp only at hSw); go_simp; try with_reducible rfl)
          simp only [Act.put, List.setIfInBounds_toArray, List.set_cons_zero, List.set_cons_succ]
          refine held_step (i := 26) (listed' := #[true, true, true, true, true, true, true, true, true, true, true, true, true, true, true, true, true, true, true, true, true, true, true, true, true, true, true, false, false]) (by kernel_rfl) (by kernel_rfl) (by kernel_rfl) (fun o ho K hK => ?_)
          cases ho
          go_simp
          skip
          refine hK.out _ _ (⟨HT4.out.drew.cell n2 (HNW.out _ (.inl rfl)).1, HT4.out.drew.cell n3 (HNW.out _ (.inl rfl)).1, HT4.out.drew.cell e1 (HNW.out _ (.inr rfl)).1⟩) (fun hHeld => ?_)
          clear hK K
          try simp only [Act.put, List.setIfInBounds_toArray, List.set_cons_zero, List.set_cons_succ]
          refine held_take (i := 27) (d := 5) (v := ?_) (listed' := #[true, true, true, true, true, true, true, true, true, true, true, true, true, true, true, true, true, true, true, true, true, true, true, true, true, true, true, true, false]) (by kernel_rfl) (by kernel_rfl) (by kernel_rfl) (by kernel_rfl) (by kernel_rfl) (by kernel_rfl) (fun _ _ _ _ _ h => h) (by assumption) ?_ ?_
          rotate_left
          · (intro o ho w' hSw; cases ho; (try dsimp only at hSw); go_simp; try with_reducible rfl)
          simp only [Act.put, List.setIfInBounds_toArray, List.set_cons_zero, List.set_cons_succ]
          refine held_step (i := 28) (listed' := #[true, true, true, true, true, true, true, true, true, true, true, true, true, true, true, true, true, true, true, true, true, true, true, true, true, true, true, true, true]) (by kernel_rfl) (by kernel_rfl) (by kernel_rfl) (fun o ho K hK => ?_)
          cases ho
          go_simp
          skip
          refine hK.out _ _ (⟨HT6.out.drew.cell (HT4.out.cell n2 (HNW.out _ (.inl rfl)).1) (HNW.out _ (.inl rfl)).2, HT6.out.drew.cell (HT4.out.cell n3 (HNW.out _ (.inl rfl)).1) (HNW.out _ (.inl rfl)).2, HT6.out.drew.cell (HT4.out.cell e1 (HNW.out _ (.inr rfl)).1) (HNW.out _ (.inr rfl)).2⟩) (fun hHeld => ?_)
          clear hK K
          try simp only [Act.put, List.setIfInBounds_toArray, List.set_cons_zero, List.set_cons_succ]
          refine wpAnyH_done (by kernel_rfl) ?_ _
          refine NoPanic.normal ?_
          go_wp2_with fail
          (try simp only [Exit.inBlock, Exit.then])
          have hb4 := (HS4.out.only HT6.out (by show ¬ (w.heap.size + 1 = w.heap.size + 1 + 1); omega)).drew
          have hb6 := HS6.out.drew
          refine bodyPost_ret (results_row_tmp_row rfl _ _ (w.heap.size + 1) (w.heap.size + 1 + 1) 117 117 _ _ rfl hb4 (by kernel_rfl) (by kernel_rfl) rfl hb6 (by kernel_rfl) (by kernel_rfl)) rfl ?_
          have hon : Only NoB w _ := (only_new (only_new (HO3.out.trans HOR.out) HT4.out fun q hq => by omega) HT6.out fun q hq => by omega).drew
          have hpk := (HN.out.keys.only HOR.out fun _ _ => id).at_
          have hpc := (HN.out.kids.only HOR.out fun _ _ => id).at_
          have hlk := ((hpk.only HT4.out fun q hq h => (HNW.out q (.inr hq.1)).1 h).only HT6.out fun q hq h => (HNW.out q (.inr hq.1)).2 h).only (Only.refl NoB _).drew fun _ _ => id
          have hlc := ((hpc.only HT4.out fun q hq h => by have h1 : q = w.heap.size + 1 := h; have := hq.1; omega).only HT6.out fun q hq h => by have h1 : q = w.heap.size + 1 + 1 := h; have := hq.1; omega).only (Only.refl NoB _).drew fun _ _ => id
          exact parts_in hlk hlc hlt3 hcl4 HA.out HAK.out hon (.slice (some ⟨g, off, none⟩) 0 0) (Rd.none_ (by have h0 := HKC.out; omega) (by have h0 := HKC.out; simp; omega))
      · rcases hcase with h1 | ⟨h1, h2⟩
        all_goals
          go_wp2_with fail
          have hb4 := HB4.out.only HOR.out id
          have hb6 := HB6.out.only HOR.out id
          obtain ⟨hs4, hst4⟩ := set4 hb4 (.bool false) (.slice none 0 0) (.slice (some ⟨g, off, none⟩) k kc) (.slice (some ⟨g2, off2, none⟩) (k + 1) cc)
          have hb6' := hb6.only hst4 (by show ¬ (w.heap.size + 1 + 1 = w.heap.size + 1); omega)
          obtain ⟨hs6, hst6⟩ := set4 hb6' (.bool false) (.slice none 0 0) (.slice (some ⟨g, off + (k + 1), none⟩) (ks.length - (k + 1)) (kc - (k + 1))) (.slice (some ⟨g2, off2 + (k + 1), none⟩) (cs.length - (k + 1)) (cc - (k + 1)))
          have x0 := hb4.cell 0
          have x1 := hb4.cell 1
          have x2 := hb4.cell 2
          have x3 := hb4.cell 3
          have y0 := hb4.frozen 0
          have y1 := hb4.frozen 1
          have y2 := hb4.frozen 2
          have y3 := hb4.frozen 3
          have z0 := hb6'.cell 0
          have z1 := hb6'.cell 1
          have z2 := hb6'.cell 2
          have z3 := hb6'.cell 3
          have v0 := hb6'.frozen 0
          have v1 := hb6'.frozen 1
          have v2 := hb6'.frozen 2
          have v3 := hb6'.frozen 3
          have HS4 := Lib.hid hs4
          have HT4 := Lib.hid hst4
          have HS6 := Lib.hid hs6
          have HT6 := Lib.hid hst6
          have HNW : Hid (∀ q, q = w.heap.size ∨ q = g → q ≠ w.heap.size + 1 ∧ q ≠ w.heap.size + 1 + 1) := Lib.hid HNG.out
          clear hb4 hb6 hb6' hs4 hst4 hs6 hst6
          refine wp_region_noPanic ?_
          refine held_start (n := 29) (S := (fun w' => w'.cell? ⟨w.heap.size, 2, none⟩ = some (.slice (some ⟨g, off, none⟩) ks.length kc) ∧ w'.cell? ⟨w.heap.size, 3, none⟩ = some (.slice (some ⟨g2, off2, none⟩) cs.length cc) ∧ w'.cell? ⟨g, off + k, none⟩ = some (.string ⟨a.toArray⟩))) (listed := #[false, false, false, false, false, false, false, false, false, false, false, false, false, false, false, false, false, false, false, false, false, false, false, false, false, false, false, false, false]) (by kernel_rfl) (by kernel_rfl) (by kernel_rfl) (⟨n2, n3, e1⟩) (fun hHeld => ?_)
          refine held_take (i := 0) (d := 87) (v := ?_) (listed' := #[true, false, false, false, false, false, false, false, false, false, false, false, false, false, false, false, false, false, false, false, false, false, false, false, false, false, false, false, false]) (by kernel_rfl) (by kernel_rfl) (by kernel_rfl) (by kernel_rfl) (by kernel_rfl) (by kernel_rfl) (fun _ _ _ _ _ h => h) (by assumption) ?_ ?_
          rotate_left
          · (intro o ho w' hSw; cases ho; (try dsimp only at hSw); go_simp; try with_reducible rfl)
          simp only [Act.put, List.setIfInBounds_toArray, List.set_cons_zero, List.set_cons_succ]
          refine held_take (i := 1) (d := 88) (v := ?_) (listed' := #[true, true, false, false, false, false, false, false, false, false, false, false, false, false, false, false, false, false, false, false, false, false, false, false, false, false, false, false, false]) (by kernel_rfl) (by kernel_rfl) (by kernel_rfl) (by kernel_rfl) (by kernel_rfl) (by kernel_rfl) (fun _ _ _ _ _ h => h) (by assumption) ?_ ?_
          rotate_left
          · (intro o ho w' hSw; cases ho; (try dsimp only at hSw); go_simp; try with_reducible rfl)
          simp only [Act.put, List.setIfInBounds_toArray, List.set_cons_zero, List.set_cons_succ]
          refine held_take (i := 2) (d := 89) (v := ?_) (listed' := #[true, true, true, false, false, false, false, false, false, false, false, false, false, false, false, false, false, false, false, false, false, false, false, false, false, false, false, false, false]) (by kernel_rfl) (by kernel_rfl) (by kernel_rfl) (by kernel_rfl) (by kernel_rfl) (by kernel_rfl) (fun _ _ _ _ _ h => h) (by assumption) ?_ ?_
          rotate_left
          · (intro o ho w' hSw; cases ho; (try dsimp only at hSw); go_simp; try with_reducible rfl)
          simp only [Act.put, List.setIfInBounds_toArray, List.set_cons_zero, List.set_cons_succ]
          refine held_take (i := 3) (d := 90) (v := ?_) (listed' := #[true, true, true, true, false, false, false, false, false, false, false, false, false, false, false, false, false, false, false, false, false, false, false, false, false, false, false, false, false]) (by kernel_rfl) (by kernel_rfl) (by kernel_rfl) (by kernel_rfl) (by kernel_rfl) (by kernel_rfl) (fun _ _ _ _ _ h => h) (by assumption) ?_ ?_
          rotate_left
          · (intro o ho w' hSw; cases ho; (try dsimp only at hSw); go_simp; try with_reducible rfl)
          simp only [Act.put, List.setIfInBounds_toArray, List.set_cons_zero, List.set_cons_succ]
          refine held_take (i := 4) (d := 91) (v := ?_) (listed' := #[true, true, true, true, true, false, false, false, false, false, false, false, false, false, false, false, false, false, false, false, false, false, false, false, false, false, false, false, false]) (by kernel_rfl) (by kernel_rfl) (by kernel_rfl) (by kernel_rfl) (by kernel_rfl) (by kernel_rfl) (fun _ _ _ _ _ h => h) (by assumption) ?_ ?_
          rotate_left
          · (intro o ho w' hSw; cases ho; (try dsimp only at hSw); go_simp; try with_reducible rfl)
          simp only [Act.put, List.setIfInBounds_toArray, List.set_cons_zero, List.set_cons_succ]
          refine held_take (i := 5) (d := 92) (v := ?_) (listed' := #[true, true, true, true, true, true, false, false, false, false, false, false, false, false, false, false, false, false, false, false, false, false, false, false, false, false, false, false, false]) (by kernel_rfl) (by kernel_rfl) (by kernel_rfl) (by kernel_rfl) (by kernel_rfl) (by kernel_rfl) (fun _ _ _ _ _ h => h) (by assumption) ?_ ?_
          rotate_left
          · (intro o ho w' hSw; cases ho; (try dsimp only at hSw); go_simp; try with_reducible rfl)
          simp only [Act.put, List.setIfInBounds_toArray, List.set_cons_zero, List.set_cons_succ]
          refine held_take (i := 6) (d := 93) (v := ?_) (listed' := #[true, true, true, true, true, true, true, false, false, false, false, false, false, false, false, false, false, false, false, false, false, false, false, false, false, false, false, false, false]) (by kernel_rfl) (by kernel_rfl) (by kernel_rfl) (by kernel_rfl) (by kernel_rfl) (by kernel_rfl) (fun _ _ _ _ _ h => h) (by assumption) ?_ ?_
          rotate_left
          · (intro o ho w' hSw; cases ho; (try dsimp only at hSw); go_simp; try with_reducible rfl)
          simp only [Act.put, List.setIfInBounds_toArray, List.set_cons_zero, List.set_cons_succ]
          refine held_take (i := 7) (d := 94) (v := ?_) (listed' := #[true, true, true, true, true, true, true, true, false, false, false, false, false, false, false, false, false, false, false, false, false, false, false, false, false, false, false, false, false]) (by kernel_rfl) (by kernel_rfl) (by kernel_rfl) (by kernel_rfl) (by kernel_rfl) (by kernel_rfl) (fun _ _ _ _ _ h => h) (by assumption) ?_ ?_
          rotate_left
          · (intro o ho w' hSw; cases ho; (try dsimp only at hSw); go_simp; try with_reducible rfl)
          simp only [Act.put, List.setIfInBounds_toArray, List.set_cons_zero, List.set_cons_succ]
          refine held_take (i := 8) (d := 95) (v := ?_) (listed' := #[true, true, true, true, true, true, true, true, true, false, false, false, false, false, false, false, false, false, false, false, false, false, false, false, false, false, false, false, false]) (by kernel_rfl) (by kernel_rfl) (by kernel_rfl) (by kernel_rfl) (by kernel_rfl) (by kernel_rfl) (fun _ _ _ _ _ h => h) (by assumption) ?_ ?_
          rotate_left
          · (intro o ho w' hSw; cases ho; (try dsimp only at hSw); go_simp; try with_reducible rfl)
          simp only [Act.put, List.setIfInBounds_toArray, List.set_cons_zero, List.set_cons_succ]
          refine held_take (i := 9) (d := 96) (v := ?_) (listed' := #[true, true, true, true, true, true, true, true, true, true, false, false, false, false, false, false, false, false, false, false, false, false, false, false, false, false, false, false, false]) (by kernel_rfl) (by kernel_rfl) (by kernel_rfl) (by kernel_rfl) (by kernel_rfl) (by kernel_rfl) (fun _ _ _ _ _ h => h) (by assumption) ?_ ?_
          rotate_left
          · (intro o ho w' hSw; cases ho; (try dsimp only at hSw); go_simp; try with_reducible rfl)
          simp only [Act.put, List.setIfInBounds_toArray, List.set_cons_zero, List.set_cons_succ]
          refine held_take (i := 10) (d := 97) (v := ?_) (listed' := #[true, true, true, true, true, true, true, true, true, true, true, false, false, false, false, false, false, false, false, false, false, false, false, false, false, false, false, false, false]) (by kernel_rfl) (by kernel_rfl) (by kernel_rfl) (by kernel_rfl) (by kernel_rfl) (by kernel_rfl) (fun _ _ _ _ _ h => h) (by assumption) ?_ ?_
          rotate_left
          · (intro o ho w' hSw; cases ho; (try dsimp only at hSw); go_simp; try with_reducible rfl)
          simp only [Act.put, List.setIfInBounds_toArray, List.set_cons_zero, List.set_cons_succ]
          refine held_take (i := 11) (d := 98) (v := ?_) (listed' := #[true, true, true, true, true, true, true, true, true, true, true, true, false, false, false, false, false, false, false, false, false, false, false, false, false, false, false, false, false]) (by kernel_rfl) (by kernel_rfl) (by kernel_rfl) (by kernel_rfl) (by kernel_rfl) (by kernel_rfl) (fun _ _ _ _ _ h => h) (by assumption) ?_ ?_
          rotate_left
          · (intro o ho w' hSw; cases ho; (try dsimp only at hSw); go_simp; try with_reducible rfl)
          simp only [Act.put, List.setIfInBounds_toArray, List.set_cons_zero, List.set_cons_succ]
          refine held_take (i := 12) (d := 99) (v := ?_) (listed' := #[true, true, true, true, true, true, true, true, true, true, true, true, true, false, false, false, false, false, false, false, false, false, false, false, false, false, false, false, false]) (by kernel_rfl) (by kernel_rfl) (by kernel_rfl) (by kernel_rfl) (by kernel_rfl) (by kernel_rfl) (fun _ _ _ _ _ h => h) (by assumption) ?_ ?_
          rotate_left
          · (intro o ho w' hSw; cases ho; (try dsimp only at hSw); go_simp; try with_reducible rfl)
          simp only [Act.put, List.setIfInBounds_toArray, List.set_cons_zero, List.set_cons_succ]
          refine held_take (i := 13) (d := 100) (v := ?_) (listed' := #[true, true, true, true, true, true, true, true, true, true, true, true, true, true, false, false, false, false, false, false, false, false, false, false, false, false, false, false, false]) (by kernel_rfl) (by kernel_rfl) (by kernel_rfl) (by kernel_rfl) (by kernel_rfl) (by kernel_rfl) (fun _ _ _ _ _ h => h) (by assumption) ?_ ?_
          rotate_left
          · (intro o ho w' hSw; cases ho; (try dsimp only at hSw); go_simp; try with_reducible rfl)
          simp only [Act.put, List.setIfInBounds_toArray, List.set_cons_zero, List.set_cons_succ]
          refine held_take (i := 14) (d := 101) (v := ?_) (listed' := #[true, true, true, true, true, true, true, true, true, true, true, true, true, true, true, false, false, false, false, false, false, false, false, false, false, false, false, false, false]) (by kernel_rfl) (by kernel_rfl) (by kernel_rfl) (by kernel_rfl) (by kernel_rfl) (by kernel_rfl) (fun _ _ _ _ _ h => h) (by assumption) ?_ ?_
          rotate_left
          · (intro o ho w' hSw; cases ho; (try dsimp only at hSw); go_simp; try with_reducible rfl)
          simp only [Act.put, List.setIfInBounds_toArray, List.set_cons_zero, List.set_cons_succ]
          refine held_take (i := 15) (d := 102) (v := ?_) (listed' := #[true, true, true, true, true, true, true, true, true, true, true, true, true, true, true, true, false, false, false, false, false, false, false, false, false, false, false, false, false]) (by kernel_rfl) (by kernel_rfl) (by kernel_rfl) (by kernel_rfl) (by kernel_rfl) (by kernel_rfl) (fun _ _ _ _ _ h => h) (by assumption) ?_ ?_
          rotate_left
          · (intro o ho w' hSw; cases ho; (try dsimp only at hSw); go_simp; try with_reducible rfl)
          simp only [Act.put, List.setIfInBounds_toArray, List.set_cons_zero, List.set_cons_succ]
          refine held_take (i := 16) (d := 103) (v := ?_) (listed' := #[true, true, true, true, true, true, true, true, true, true, true, true, true, true, true, true, true, false, false, false, false, false, false, false, false, false, false, false, false]) (by kernel_rfl) (by kernel_rfl) (by kernel_rfl) (by kernel_rfl) (by kernel_rfl) (by kernel_rfl) (fun _ _ _ _ _ h => h) (by assumption) ?_ ?_
          rotate_left
          · (intro o ho w' hSw; cases ho; (try dsimp only at hSw); go_simp; try with_reducible rfl)
          simp only [Act.put, List.setIfInBounds_toArray, List.set_cons_zero, List.set_cons_succ]
          refine held_take (i := 17) (d := 104) (v := ?_) (listed' := #[true, true, true, true, true, true, true, true, true, true, true, true, true, true, true, true, true, true, false, false, false, false, false, false, false, false, false, false, false]) (by kernel_rfl) (by kernel_rfl) (by kernel_rfl) (by kernel_rfl) (by kernel_rfl) (by kernel_rfl) (fun _ _ _ _ _ h => h) (by assumption) ?_ ?_
          rotate_left
          · (intro o ho w' hSw; cases ho; (try dsimp only at hSw); go_simp; try with_reducible rfl)
          simp only [Act.put, List.setIfInBounds_toArray, List.set_cons_zero, List.set_cons_succ]
          refine held_take (i := 18) (d := 105) (v := ?_) (listed' := #[true, true, true, true, true, true, true, true, true, true, true, true, true, true, true, true, true, true, true, false, false, false, false, false, false, false, false, false, false]) (by kernel_rfl) (by kernel_rfl) (by kernel_rfl) (by kernel_rfl) (by kernel_rfl) (by kernel_rfl) (fun _ _ _ _ _ h => h) (by assumption) ?_ ?_
          rotate_left
          · (intro o ho w' hSw; cases ho; (try dsimp only at hSw); go_simp; try with_reducible rfl)
          simp only [Act.put, List.setIfInBounds_toArray, List.set_cons_zero, List.set_cons_succ]
          refine held_take (i := 19) (d := 106) (v := ?_) (listed' := #[true, true, true, true, true, true, true, true, true, true, true, true, true, true, true, true, true, true, true, true, false, false, false, false, false, false, false, false, false]) (by kernel_rfl) (by kernel_rfl) (by kernel_rfl) (by kernel_rfl) (by kernel_rfl) (by kernel_rfl) (fun _ _ _ _ _ h => h) (by assumption) ?_ ?_
          rotate_left
          · (intro o ho w' hSw; cases ho; (try dsimp only at hSw); go_simp; try with_reducible rfl)
          simp only [Act.put, List.setIfInBounds_toArray, List.set_cons_zero, List.set_cons_succ]
          refine held_take (i := 20) (d := 107) (v := ?_) (listed' := #[true, true, true, true, true, true, true, true, true, true, true, true, true, true, true, true, true, true, true, true, true, false, false, false, false, false, false, false, false]) (by kernel_rfl) (by kernel_rfl) (by kernel_rfl) (by kernel_rfl) (by kernel_rfl) (by kernel_rfl) (fun _ _ _ _ _ h => h) (by assumption) ?_ ?_
          rotate_left
          · (intro o ho w' hSw; cases ho; (try dsimp only at hSw); go_simp; try with_reducible rfl)
          simp only [Act.put, List.setIfInBounds_toArray, List.set_cons_zero, List.set_cons_succ]
          refine held_take (i := 21) (d := 108) (v := ?_) (listed' := #[true, true, true, true, true, true, true, true, true, true, true, true, true, true, true, true, true, true, true, true, true, true, false, false, false, false, false, false, false]) (by kernel_rfl) (by kernel_rfl) (by kernel_rfl) (by kernel_rfl) (by kernel_rfl) (by kernel_rfl) (fun _ _ _ _ _ h => h) (by assumption) ?_ ?_
          rotate_left
          · (intro o ho w' hSw; cases ho; (try dsimp only at hSw); go_simp; try with_reducible rfl)
          simp only [Act.put, List.setIfInBounds_toArray, List.set_cons_zero, List.set_cons_succ]
          refine held_take (i := 22) (d := 109) (v := ?_) (listed' := #[true, true, true, true, true, true, true, true, true, true, true, true, true, true, true, true, true, true, true, true, true, true, true, false, false, false, false, false, false]) (by kernel_rfl) (by kernel_rfl) (by kernel_rfl) (by kernel_rfl) (by kernel_rfl) (by kernel_rfl) (fun _ _ _ _ _ h => h) (by assumption) ?_ ?_
          rotate_left
          · (intro o ho w' hSw; cases ho; (try dsimp only at hSw); go_simp; try with_reducible rfl)
          simp only [Act.put, List.setIfInBounds_toArray, List.set_cons_zero, List.set_cons_succ]
          refine held_take (i := 23) (d := 110) (v := ?_) (listed' := #[true, true, true, true, true, true, true, true, true, true, true, true, true, true, true, true, true, true, true, true, true, true, true, true, false, false, false, false, false]) (by kernel_rfl) (by kernel_rfl) (by kernel_rfl) (by kernel_rfl) (by kernel_rfl) (by kernel_rfl) (fun _ _ _ _ _ h => h) (by assumption) ?_ ?_
          rotate_left
          · (intro o ho w' hSw; cases ho; (try dsimp only at hSw); go_simp; try with_reducible rfl)
          simp only [Act.put, List.setIfInBounds_toArray, List.set_cons_zero, List.set_cons_succ]
          refine held_take (i := 24) (d := 111) (v := ?_) (listed' := #[true, true, true, true, true, true, true, true, true, true, true, true, true, true, true, true, true, true, true, true, true, true, true, true, true, false, false, false, false]) (by kernel_rfl) (by kernel_rfl) (by kernel_rfl) (by kernel_rfl) (by kernel_rfl) (by kernel_rfl) (fun _ _ _ _ _ h => h) (by assumption) ?_ ?_
          rotate_left
          · (intro o ho w' hSw; cases ho; (try dsimp only at hSw); go_simp; try with_reducible rfl)
          simp only [Act.put, List.setIfInBounds_toArray, List.set_cons_zero, List.set_cons_succ]
          refine held_take (i := 25) (d := 112) (v := ?_) (listed' := #[true, true, true, true, true, true, true, true, true, true, true, true, true, true, true, true, true, true, true, true, true, true, true, true, true, true, false, false, false]) (by kernel_rfl) (by kernel_rfl) (by kernel_rfl) (by kernel_rfl) (by kernel_rfl) (by kernel_rfl) (fun _ _ _ _ _ h => h) (by assumption) ?_ ?_
          rotate_left
          · (intro o ho w' hSw; cases ho; (try dsimp only at hSw); go_simp; try with_reducible rfl)
          simp only [Act.put, List.setIfInBounds_toArray, List.set_cons_zero, List.set_cons_succ]
          refine held_step (i := 26) (listed' := #[true, true, true, true, true, true, true, true, true, true, true, true, true, true, true, true, true, true, true, true, true, true, true, true, true, true, true, false, false]) (by kernel_rfl) (by kernel_rfl) (by kernel_rfl) (fun o ho K hK => ?_)
          cases ho
          go_simp
          skip
          refine hK.out _ _ (⟨HT4.out.drew.cell n2 (HNW.out _ (.inl rfl)).1, HT4.out.drew.cell n3 (HNW.out _ (.inl rfl)).1, HT4.out.drew.cell e1 (HNW.out _ (.inr rfl)).1⟩) (fun hHeld => ?_)
          clear hK K
          try simp only [Act.put, List.setIfInBounds_toArray, List.set_cons_zero, List.set_cons_succ]
          refine held_take (i := 27) (d := 5) (v := ?_) (listed' := #[true, true, true, true, true, true, true, true, true, true, true, true, true, true, true, true, true, true, true, true, true, true, true, true, true, true, true, true, false]) (by kernel_rfl) (by kernel_rfl) (by kernel_rfl) (by kernel_rfl) (by kernel_rfl) (by kernel_rfl) (fun _ _ _ _ _ h => h) (by assumption) ?_ ?_
          rotate_left
          · (intro o ho w' hSw; cases ho; (try dsimp only at hSw); go_simp; try with_reducible rfl)
          simp only [Act.put, List.setIfInBounds_toArray, List.set_cons_zero, List.set_cons_succ]
          refine held_step (i := 28) (listed' := #[true, true, true, true, true, true, true, true, true, true, true, true, true, true, true, true, true, true, true, true, true, true, true, true, true, true, true, true, true]) (by kernel_rfl) (by kernel_rfl) (by kernel_rfl) (fun o ho K hK => ?_)
          cases ho
          go_simp
          skip
          refine hK.out _ _ (⟨HT6.out.drew.cell (HT4.out.cell n2 (HNW.out _ (.inl rfl)).1) (HNW.out _ (.inl rfl)).2, HT6.out.drew.cell (HT4.out.cell n3 (HNW.out _ (.inl rfl)).1) (HNW.out _ (.inl rfl)).2, HT6.out.drew.cell (HT4.out.cell e1 (HNW.out _ (.inr rfl)).1) (HNW.out _ (.inr rfl)).2⟩) (fun hHeld => ?_)
          clear hK K
          try simp only [Act.put, List.setIfInBounds_toArray, List.set_cons_zero, List.set_cons_succ]
          refine wpAnyH_done (by kernel_rfl) ?_ _
          refine NoPanic.normal ?_
          go_wp2_with fail
          (try simp only [Exit.inBlock, Exit.then])
          have hb4 := (HS4.out.only HT6.out (by show ¬ (w.heap.size + 1 = w.heap.size + 1 + 1); omega)).drew
          have hb6 := HS6.out.drew
          refine bodyPost_ret (results_row_tmp_row rfl _ _ (w.heap.size + 1) (w.heap.size + 1 + 1) 117 117 _ _ rfl hb4 (by kernel_rfl) (by kernel_rfl) rfl hb6 (by kernel_rfl) (by kernel_rfl)) rfl ?_
          have hon : Only NoB w _ := (only_new (only_new (HO3.out.trans HOR.out) HT4.out fun q hq => by omega) HT6.out fun q hq => by omega).drew
          have hpk := (HN.out.keys.only HOR.out fun _ _ => id).at_
          have hpc := (HN.out.kids.only HOR.out fun _ _ => id).at_
          have hlk := ((hpk.only HT4.out fun q hq h => (HNW.out q (.inr hq.1)).1 h).only HT6.out fun q hq h => (HNW.out q (.inr hq.1)).2 h).only (Only.refl NoB _).drew fun _ _ => id
          have hlc := ((hpc.only HT4.out fun q hq h => by have h1 : q = w.heap.size + 1 := h; have := hq.1; omega).only HT6.out fun q hq h => by have h1 : q = w.heap.size + 1 + 1 := h; have := hq.1; omega).only (Only.refl NoB _).drew fun _ _ => id
          exact parts_in hlk hlc hlt3 hcl4 HA.out HAK.out hon (.slice (some ⟨g, off + (k + 1), none⟩) (ks.length - (k + 1)) (kc - (k + 1))) (by have h1 := (hlk.drop_ (k := k + 1) hlt3).mono (G := N) fun q hq _ => hq.2; simp only [Nat.mul_one] at h1; exact h1)
end
end Go.Proofs.YtdipjakblaeekaaGreat
namespace Go.Proofs.YtdipjakblaeekaaGreat
open Go.RowKit Go.Proofs
set_option maxRecDepth 20000
section
variable {w w' : World} {F N K : Nat → Prop} {X : XC} {t x p r c h m : Nat} {D D' : PD} {n : NodeD} {v pv kv cv : Value} {M ps : List KV} {key : Str} {ks : List Str} {cs : List Nat}
theorem split_ok (hx : Blk w x 120 #[.pointer (some ⟨t, 0, none⟩), .int .i64 m]) (hn : NodeR w N pv kv cv n) (hs : Parts n) (hm : m ≤ 4096) :
    Calls Tryz.prog 153 #[.pointer (some ⟨x, 0, none⟩), nodeV n.leaf pv kv cv] w (PartsOut w N (splitN n m).1 (splitN n m).2.1 (splitN n m).2.2) := by
  obtain ⟨l, ps, ks, cs⟩ := n
  rcases hs with ⟨h1, h2, h3, h4, h5⟩ | ⟨h1, h2, h3, h4⟩
  · simp only at h1 h2 h3 h4 h5
    subst h1; subst h4; subst h5
    exact split_lf hx hn h2 h3 hm
  · simp only at h1 h2 h3 h4
    subst h1
    exact split_in hx hn h2 h3 h4 hm
def partV (q : Str × Nat) : Value := .agg #[strV q.1, natV q.2]
theorem take_of {r : Nat} (hr : D.free (D.own + 1) (D.n - (D.own + 1)) = some r) : D.take = (takeD r D, (r, 0)) := by unfold PD.take; rw [hr]; rfl
theorem set2 {w : World} {o : Nat} {ty : TypeId} {z0 z1 : Value} (hB : Blk w o ty #[z0, z1]) (a b : Value) :
    Blk ((w.setCell ⟨o, 0, none⟩ a).setCell ⟨o, 1, none⟩ b) o ty #[a, b] ∧ Only (fun k => k = o) w ((w.setCell ⟨o, 0, none⟩ a).setCell ⟨o, 1, none⟩ b) :=
  ⟨(hB.set_ 0 a).set_ 1 b, ((Only.refl (fun k => k = o) w).setCell (p := ⟨o, 0, none⟩) (.inl rfl) a).setCell (p := ⟨o, 1, none⟩) (.inl rfl) b⟩
theorem TreeAt.beside {o : Nat} (h : TreeAt w F X x t D) (ho : Only (fun k => k = o) w w') (hF : ¬ F o) (hx : x ≠ o) : TreeAt w' F X x t D :=
  ⟨TxQ.only h.tx ho fun k hk e => hF (e ▸ hk), h.blk.only ho hx, h.out, h.m⟩
theorem only_at {w0 : World} {o : Nat} (h : Only F w0 w) (h6 : Only (fun k => k = o) w w') (ho : w0.heap.size ≤ o) : Only F w0 w' := h.trans' h6 fun i hi hk => by omega
set_option maxHeartbeats 2000000 in
theorem settle_ok (h : TreeAt w F X x t D) (hp : D.is p = true) (hu : D.used p = true) (hn : NodeR w N pv kv cv n) (hf : FitsD D n) (hN : ∀ k, N k → ¬ F k) :
    Calls Tryz.prog 112 #[.pointer (some ⟨x, 0, none⟩), .int .i64 p, nodeV n.leaf pv kv cv] w (DeedX w F X x t (.tuple #[partV (settleD p n D).2, .int .i64 0]) (settleD p n D).1) := by
  obtain ⟨pA, pc, kA, kc, cA, cc, rfl, rfl, rfl⟩ := hn.shape
  obtain ⟨W2, hW2⟩ : ∃ W2, W2 = (w.alloc (.cells #[.bool n.leaf, .slice pA n.pairs.length pc, .slice kA n.keys.length kc, .slice cA n.children.length cc] 117)).alloc (.cells #[.string ⟨#[]⟩, .int .i64 0] 123) := ⟨_, rfl⟩
  have ho2 : Only NoB w W2 := by rw [hW2]; exact ((Only.refl NoB w).alloc _).alloc _
  have hs2 : W2.heap.size = w.heap.size + 1 + 1 := by rw [hW2]; simp
  have hB : Blk W2 w.heap.size 117 #[.bool n.leaf, .slice pA n.pairs.length pc, .slice kA n.keys.length kc, .slice cA n.children.length cc] := by rw [hW2]; exact (Blk.new w _ _).alloc _
  have hP : Blk W2 (w.heap.size + 1) 123 #[.string ⟨#[]⟩, .int .i64 0] := by
    rw [hW2]
    have := Blk.new (w.alloc (.cells #[.bool n.leaf, .slice pA n.pairs.length pc, .slice kA n.keys.length kc, .slice cA n.children.length cc] 117)) 123 #[.string ⟨#[]⟩, .int .i64 0]
    rwa [show (w.alloc (.cells #[.bool n.leaf, .slice pA n.pairs.length pc, .slice kA n.keys.length kc, .slice cA n.children.length cc] 117)).heap.size = w.heap.size + 1 by simp] at this
  have h2 := h.quit ho2
  have hsl : n.size ≤ 100000 := by rcases hf with hf | hf; (· have := hf.1.size; have := h.mle; omega); (· exact hf.2.1)
  have hFw : ∀ k, w.heap.size ≤ k → ¬ F k := fun k hk hf => by have := h.tx.1 _ hf; omega
  have HFW := Lib.hid hFw
  have HND := Lib.hid hN
  have HSZ := Lib.hid (nsize_any ((hn.quit ho2).quit (Only.refl NoB W2).drew) (by omega))
  have c1 : W2.cell? ⟨x, 1, none⟩ = some (.int .i64 D.m) := h2.blk.cell 1
  have b0 : W2.cell? _ = some _ := hB.cell 0
  have b1 : W2.cell? _ = some _ := hB.cell 1
  have b2 : W2.cell? _ = some _ := hB.cell 2
  have b3 : W2.cell? _ = some _ := hB.cell 3
  have hxl : x ≠ w.heap.size + 1 := fun e => by have := h.blk.lt; omega
  have HXL := Lib.hid hxl
  have H2 := Lib.hid h2
  have HB := Lib.hid hB
  have HPB := Lib.hid hP
  have HO2 := Lib.hid ho2
  have HS2 := Lib.hid hs2
  have HN := Lib.hid (hn.quit ho2)
  have HW2 := Lib.hid hW2
  have HF := Lib.hid hf
  have HM := Lib.hid h.mle
  have HPI := Lib.hid hp
  have HPU := Lib.hid hu
  clear h h2 hB hP ho2 hs2 hn hW2 hf hp hu hFw hxl hN
  unfold nodeV
  go_enter Tryz.func112, Tryz.ntmps112
  go_wp2_with fail
  rw [← HW2.out]
  refine wp_region_noPanic ?_
  refine held_start (n := 7) (S := (fun w' => (w'.cell? ⟨w.heap.size, 0, none⟩ = some (.bool n.leaf) ∧ w'.cell? ⟨w.heap.size, 1, none⟩ = some (.slice pA n.pairs.length pc) ∧ w'.cell? ⟨w.heap.size, 2, none⟩ = some (.slice kA n.keys.length kc) ∧ w'.cell? ⟨w.heap.size, 3, none⟩ = some (.slice cA n.children.length cc)) ∧ w'.cell? ⟨x, 1, none⟩ = some (.int .i64 D.m))) (listed := #[false, false, false, false, false, false, false]) (by kernel_rfl) (by kernel_rfl) (by kernel_rfl) (⟨⟨b0, b1, b2, b3⟩, c1⟩) (fun hHeld => ?_)
  refine held_take (i := 0) (d := 13) (v := ?_) (listed' := #[true, false, false, false, false, false, false]) (by kernel_rfl) (by kernel_rfl) (by kernel_rfl) (by kernel_rfl) (by kernel_rfl) (by kernel_rfl) (fun _ _ _ _ _ h => h) (by assumption) ?_ ?_
  rotate_left
  · (intro o ho w' hSw; cases ho; (try dsimp only at hSw); go_simp; try with_reducible rfl)
  simp only [Act.put, List.setIfInBounds_toArray, List.set_cons_zero, List.set_cons_succ]
  refine held_take (i := 2) (d := 15) (v := ?_) (listed' := #[true, false, true, false, false, false, false]) (by kernel_rfl) (by kernel_rfl) (by kernel_rfl) (by kernel_rfl) (by kernel_rfl) (by kernel_rfl) (fun _ _ _ _ _ h => h) (by assumption) ?_ ?_
  rotate_left
  · (intro o ho w' hSw; cases ho; (try dsimp only at hSw); go_simp; try with_reducible rfl)
  simp only [Act.put, List.setIfInBounds_toArray, List.set_cons_zero, List.set_cons_succ]
  refine held_take (i := 3) (d := 16) (v := ?_) (listed' := #[true, false, true, true, false, false, false]) (by kernel_rfl) (by kernel_rfl) (by kernel_rfl) (by kernel_rfl) (by kernel_rfl) (by kernel_rfl) (fun _ _ _ _ _ h => h) (by assumption) ?_ ?_
  rotate_left
  · (intro o ho w' hSw; cases ho; (try dsimp only at hSw); go_simp; try with_reducible rfl)
  simp only [Act.put, List.setIfInBounds_toArray, List.set_cons_zero, List.set_cons_succ]
  refine held_take (i := 4) (d := 17) (v := ?_) (listed' := #[true, false, true, true, true, false, false]) (by kernel_rfl) (by kernel_rfl) (by kernel_rfl) (by kernel_rfl) (by kernel_rfl) (by kernel_rfl) (fun _ _ _ _ _ h => h) (by assumption) ?_ ?_
  rotate_left
  · (intro o ho w' hSw; cases ho; (try dsimp only at hSw); go_simp; try with_reducible rfl)
  simp only [Act.put, List.setIfInBounds_toArray, List.set_cons_zero, List.set_cons_succ]
  refine held_take (i := 5) (d := 18) (v := ?_) (listed' := #[true, false, true, true, true, true, false]) (by kernel_rfl) (by kernel_rfl) (by kernel_rfl) (by kernel_rfl) (by kernel_rfl) (by kernel_rfl) (fun _ _ _ _ _ h => h) (by assumption) ?_ ?_
  rotate_left
  · (intro o ho w' hSw; cases ho; (try dsimp only at hSw); go_simp; try with_reducible rfl)
  simp only [Act.put, List.setIfInBounds_toArray, List.set_cons_zero, List.set_cons_succ]
  refine held_step (i := 1) (listed' := #[true, true, true, true, true, true, false]) (by kernel_rfl) (by kernel_rfl) (by kernel_rfl) (fun o ho K hK => ?_)
  cases ho
  go_simp
  refine HSZ.out.mono ?_
  rintro e w3 ⟨rfl, ho3⟩
  have ho : Only NoB W2 w3 := (Only.refl NoB W2).drew.trans ho3
  clear ho3
  refine hK.out _ _ (⟨⟨ho.cell b0 id, ho.cell b1 id, ho.cell b2 id, ho.cell b3 id⟩, ho.cell c1 id⟩) (fun hHeld => ?_)
  clear hK K
  try simp only [Act.put, List.setIfInBounds_toArray, List.set_cons_zero, List.set_cons_succ]
  refine held_take (i := 6) (d := 19) (v := ?_) (listed' := #[true, true, true, true, true, true, true]) (by kernel_rfl) (by kernel_rfl) (by kernel_rfl) (by kernel_rfl) (by kernel_rfl) (by kernel_rfl) (fun _ _ _ _ _ h => h) (by assumption) ?_ ?_
  rotate_left
  · (intro o ho w' hSw; cases ho; (try dsimp only at hSw); go_simp; try with_reducible rfl)
  simp only [Act.put, List.setIfInBounds_toArray, List.set_cons_zero, List.set_cons_succ]
  refine wpAnyH_done (by kernel_rfl) ?_ _
  refine NoPanic.normal ?_
  have H3 := Lib.hid (H2.out.quit ho)
  have HO3 := Lib.hid ho
  have HN3 := Lib.hid (HN.out.quit ho)
  have b0 := ho.cell b0 id
  have b1 := ho.cell b1 id
  have b2 := ho.cell b2 id
  have b3 := ho.cell b3 id
  have HP3 := Lib.hid (HPB.out.only ho id)
  clear c1 ho
  rcases HF.out with ⟨hok, hne⟩ | hsp
  · have hle : n.size ≤ D.m := hok.size
    have HS := Lib.hid (save_ok H3.out HPI.out HPU.out HN3.out hok hne)
    have HLE := Lib.hid hle
    unfold nodeV at HS
    clear hok hne
    go_wp2_with fail
    refine HS.out.mono ?_
    rintro e w4 ⟨rfl, F4, hx4, ho4, hg4⟩
    have hF4 : ∀ k, w.heap.size ≤ k → k < w3.heap.size → ¬ F4 k := fun k hk hk2 hf => by
      rcases hg4 k hf with h1 | h1
      · exact HFW.out k hk h1
      · omega
    have hpb := HP3.out.only ho4 (HFW.out _ (by omega))
    have o0 := hpb.cell 0
    have o1 := hpb.cell 1
    have p0 := hpb.frozen 0
    have p1 := hpb.frozen 1
    have HPB4 := Lib.hid hpb
    have HX4 := Lib.hid hx4
    have HO4 := Lib.hid ho4
    have HG4 := Lib.hid hg4
    have HF4 := Lib.hid hF4
    clear hpb hx4 ho4 hg4 hF4 b0 b1 b2 b3
    go_wp2_with fail
    (try simp only [Exit.inBlock, Exit.then])
    obtain ⟨hbf, hst⟩ := set2 HPB4.out (.string ⟨#[]⟩) (.int .i64 0)
    refine bodyPost_ret (results_row_tmp rfl _ _ (w.heap.size + 1) 123 _ rfl hbf (by kernel_rfl) (by kernel_rfl)) rfl ?_
    clear o0 o1 p0 p1
    rw [settle_le HLE.out]
    have hsz := (HO3.out).size
    have hs2 := HS2.out
    refine ⟨rfl, F4, HX4.out.beside hst (HF4.out _ (by omega) (by omega)) HXL.out, only_at (((HO2.out.trans HO3.out).mono fun _ _ h => h.elim).trans HO4.out) hst (by omega), fun k hk => (HG4.out k hk).imp id fun h => by omega⟩
  · obtain ⟨hgt, _, hprt, ⟨r, hr⟩, oka, nea, okb, neb⟩ := hsp
    have hle : ¬ n.size ≤ D.m := by omega
    have hso := split_ok H3.out.blk HN3.out hprt HM.out
    have hset := settle_gt (c := p) hle (take_of hr)
    obtain ⟨⟨na, ky, nb⟩, hq⟩ : ∃ q, q = splitN n D.m := ⟨_, rfl⟩
    rw [← hq] at hso hset oka nea okb neb
    simp only at hso hset oka nea okb neb
    have HSET := Lib.hid hset
    have HSP := Lib.hid hso
    clear hso hset hq
    have HLE := Lib.hid hle
    have HHR := Lib.hid hr
    have HOA := Lib.hid oka
    have HNA := Lib.hid nea
    have HOB := Lib.hid okb
    have HNB := Lib.hid neb
    have hgt2 : D.m < n.size := hgt
    unfold nodeV at HSP
    clear hgt hprt hr oka nea okb neb hle
    go_wp2_with fail
    refine HSP.out.mono ?_
    rintro e w4 ⟨pa, ka, ca, pb, kb, cb, rfl, hna, hnb, ho4⟩
    obtain ⟨pAa, pca, kAa, kca, cAa, cca, rfl, rfl, rfl⟩ := hna.shape
    obtain ⟨pAb, pcb, kAb, kcb, cAb, ccb, rfl, rfl, rfl⟩ := hnb.shape
    have HAR := Lib.hid hna
    have HBR := Lib.hid hnb
    have HO4 := Lib.hid ho4
    clear hna hnb ho4 b0 b1 b2 b3
    unfold nodeV strV
    go_wp2_with fail
    obtain ⟨W6, hW6⟩ : ∃ W6, W6 = (w4.alloc (.cells #[.bool na.leaf, .slice pAa na.pairs.length pca, .slice kAa na.keys.length kca, .slice cAa na.children.length cca] 117)).alloc (.cells #[.bool nb.leaf, .slice pAb nb.pairs.length pcb, .slice kAb nb.keys.length kcb, .slice cAb nb.children.length ccb] 117) := ⟨_, rfl⟩
    rw [← hW6]
    have ho6 : Only NoB w4 W6 := by rw [hW6]; exact ((Only.refl NoB w4).alloc _).alloc _
    have hs6 : W6.heap.size = w4.heap.size + 1 + 1 := by rw [hW6]; simp
    have hA6 : Blk W6 w4.heap.size 117 #[.bool na.leaf, .slice pAa na.pairs.length pca, .slice kAa na.keys.length kca, .slice cAa na.children.length cca] := by rw [hW6]; exact (Blk.new w4 _ _).alloc _
    have h46 : Only NoB w3 W6 := HO4.out.trans ho6
    have hsz3 := HO3.out.size
    have hsz4 := HO4.out.size
    have hs2 := HS2.out
    have hF3 : ∀ k, w.heap.size ≤ k → ¬ F k := HFW.out
    have hfr := fresh_ok (H3.out.quit h46) HHR.out HND.out (HBR.out.quit ho6) HOB.out HNB.out
    unfold nodeV at hfr
    refine hfr.mono ?_
    clear hfr
    rintro e w7 ⟨rfl, F7, hx7, ho7, hg7⟩
    have hFo : ∀ k, w.heap.size ≤ k → k < W6.heap.size → ¬ F7 k := fun k hk hk2 hf => by
      rcases hg7 k hf with h1 | h1
      · exact hF3 k hk h1
      · omega
    obtain ⟨r1, r2, r3, r4⟩ := PD.free_some HHR.out
    have hpi7 : (PD.putPage r (nb.bytes D.m) (takeD r D)).is p = true := HPI.out
    have hpu7 : (PD.putPage r (nb.bytes D.m) (takeD r D)).used p = true := by
      show (if p = r then true else D.used p) = true
      rw [HPU.out]; simp
    have hsv := save_ok hx7 hpi7 hpu7 ((HAR.out.quit ho6).only ho7 HND.out) HOA.out HNA.out
    have hA7 := hA6.only ho7 (hF3 _ (by omega))
    have hP7 := (HP3.out.only h46 id).only ho7 (hF3 _ (by omega))
    have d0 : w7.cell? _ = some _ := hA7.cell 0
    have d1 : w7.cell? _ = some _ := hA7.cell 1
    have d2 : w7.cell? _ = some _ := hA7.cell 2
    have d3 : w7.cell? _ = some _ := hA7.cell 3
    unfold nodeV at hsv
    have HSV := Lib.hid hsv
    have HP7 := Lib.hid hP7
    have HO7 := Lib.hid ho7
    have HG7 := Lib.hid hg7
    have HFO := Lib.hid hFo
    have H46 := Lib.hid h46
    have HS6 := Lib.hid hs6
    clear hsv hP7 hA7 ho7 hg7 hFo h46 hs6 hx7 hpi7 hpu7 r1 r2 r3 r4 hF3 hA6 ho6 hW6 hs2 hsz3 hsz4
    go_wp2_with fail
    refine HSV.out.mono ?_
    rintro e w8 ⟨rfl, F8, hx8, ho8, hg8⟩
    have hsz3 := HO3.out.size
    have hsz4 := HO4.out.size
    have hs2 := HS2.out
    have hs6 := HS6.out
    have hsz7 := HO7.out.size
    have hF7 := HFO.out _ (show w.heap.size ≤ w.heap.size + 1 by omega) (by omega)
    have hF8 : ¬ F8 (w.heap.size + 1) := fun hf => by
      rcases hg8 _ hf with h1 | h1
      · exact hF7 h1
      · omega
    have hpb := HP7.out.only ho8 hF7
    have o0 := hpb.cell 0
    have o1 := hpb.cell 1
    have p0 := hpb.frozen 0
    have p1 := hpb.frozen 1
    have HPB8 := Lib.hid hpb
    have HE : Hid (TreeAt w8 F8 X x t (settleD p n D).1 ∧ ¬ F8 (w.heap.size + 1) ∧ Only F w w8 ∧ Grows F F8 w) := Lib.hid ⟨by rw [HSET.out]; exact hx8, hF8,
      (((HO2.out.trans (HO3.out.trans H46.out)).mono fun _ _ h => h.elim).trans HO7.out).trans' ho8 fun i hi hk => (HG7.out i hk).elim id fun h => by omega,
      fun k hk => by
        rcases hg8 k hk with h1 | h1
        · rcases HG7.out k h1 with h2 | h2
          · exact .inl h2
          · exact .inr (by omega)
        · exact .inr (by omega)⟩
    clear hpb hx8 ho8 hg8 hF8 hF7 hsz3 hsz4 hs2 hs6 hsz7 d0 d1 d2 d3
    go_wp2_with fail
    (try simp only [Exit.inBlock, Exit.then])
    obtain ⟨hbf, hst⟩ := set2 HPB8.out (.string ⟨ky.toArray⟩) (.int .i64 r)
    refine bodyPost_ret (results_row_tmp rfl _ _ (w.heap.size + 1) 123 _ rfl hbf (by kernel_rfl) (by kernel_rfl)) rfl ?_
    clear o0 o1 p0 p1
    obtain ⟨e1, e2, e3, e4⟩ := HE.out
    refine ⟨by rw [HSET.out]; rfl, F8, e1.beside hst e2 HXL.out, only_at e3 hst (by omega), e4⟩
end
end Go.Proofs.YtdipjakblaeekaaGreat
