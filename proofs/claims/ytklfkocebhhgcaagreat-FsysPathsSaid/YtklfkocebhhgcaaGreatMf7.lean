import Derived.Test.YtklfkocebhhgcaaGreatMf6
import Derived.Deep.Fields
import Derived.ChangeSame
set_option linter.unusedVariables false
set_option linter.unusedSimpArgs false
namespace Go.Proofs.YtklfkocebhhgcaaGreat
open Go.RowKit Go.Proofs Go.Shelf
set_option maxRecDepth 20000
attribute [local go_sem] Oper.semAt_some
section
variable {w w' : World} {s : Str}
def GB (w : World) : Nat → Prop := fun k => k = w.heap.size + 1 + 1 + 1 + 1
def PathI (w : World) (s : Str) (B k : Nat) (W : World) (G : Nat → Prop) : Prop :=
 ((∀ a ∈ (namesOf s).take k, nmOk a = true) ∧ (0 < k → s.length ≤ 1000)) ∧ Mine w.heap.size 9 #[.string ⟨s.toArray⟩] W G ∧ Mine (w.heap.size + 1) 47 #[.slice none 0 0] W G ∧ Mine (w.heap.size + 1 + 1) 32 #[.int .i64 0] W G ∧ MineS B (w.heap.size + 1 + 1 + 1) 47 9 1 k (((namesOf s).take k).map strV) W G ∧ Since w NoB W G ∧ Big B W G
theorem pathI_abid {B B' k : Nat} (hB : w.heap.size ≤ B') : Abid B' (PathI w s B k) := (Abid.pure _).and (mine_abid.and (mine_abid.and (mine_abid.and (mineS_abid.and ((since_abid hB).and big_abid)))))
theorem pathI_stay {T : World → (Nat → Prop) → Prop} {B k : Nat} : Stay T (PathI w s B k) := (Stay.pure _).and (mine_stay.and (mine_stay.and (mine_stay.and (mineS_stay.and (since_stay.and big_stay)))))
def PathX (w : World) (s : Str) (c : Code) (W : World) (G : Nat → Prop) : Prop :=
 (c = .ret ∧ pathOk s = false) ∧ Mine (w.heap.size + 1) 47 #[.slice none 0 0] W G ∧ Mine (w.heap.size + 1 + 1) 32 #[.int .i64 1] W G ∧ Since w NoB W G
theorem pathX_abid {B' : Nat} {c : Code} (hB : w.heap.size ≤ B') : Abid B' (PathX w s c) := (Abid.pure _).and (mine_abid.and (mine_abid.and (since_abid hB)))
def PathAns (w : World) (s : Str) (e : Ending) (w' : World) : Prop :=
 ((pathOk s = true ∧ ∃ v, e = .returned (.tuple #[v, .int .i64 0]) ∧ Own w' (From w.heap.size) 9 1 v (namesOf s).length ((namesOf s).map strV)) ∨ (pathOk s = false ∧ e = .returned (.tuple #[.slice none 0 0, .int .i64 1]))) ∧ Only NoB w w'
theorem pathOk_bad {a : Str} (ha : a ∈ namesOf s) (h : nmOk a = false ∨ 1000 < s.length) : pathOk s = false := by
 cases hp : pathOk s with
 | false => rfl
 | true =>
  unfold pathOk at hp
  simp only [Bool.and_eq_true, decide_eq_true_iff, List.all_eq_true] at hp
  rcases h with h | h
  ·rw [hp.2 a ha] at h; cases h
  ·omega
theorem nameAt_mem {k : Nat} (hk : k < (namesOf s).length) : nameAt s k ∈ namesOf s := by
 unfold nameAt
 rw [List.getD_eq_getElem?_getD, List.getElem?_eq_getElem hk]
 exact List.getElem_mem hk
theorem names_take {k : Nat} (hk : k < (namesOf s).length) : (namesOf s).take (k + 1) = (namesOf s).take k ++ [nameAt s k] := by
 rw [List.take_succ_eq_append_getElem hk]
 unfold nameAt
 rw [List.getD_eq_getElem?_getD, List.getElem?_eq_getElem hk]; rfl
theorem path_exit {W Wx : World} {G : Nat → Prop} (ho : Only NoB W Wx) (hT : NamesT (w.heap.size + 1 + 1 + 1 + 1) W G) (h1 : Mine (w.heap.size + 1) 47 #[.slice none 0 0] W G) (h2 : Mine (w.heap.size + 1 + 1) 32 #[.int .i64 0] W G) (hsn : Since w NoB W G) (hbad : pathOk s = false) :
  (∀ (q : Nat) (o : Obj), w.heap.size + 5 ≤ q → W.heap[q]? = some o → o.isCells = false → ((Wx.setCell ⟨w.heap.size + 1, 0, none⟩ (.slice none 0 0)).setCell ⟨w.heap.size + 1 + 1, 0, none⟩ (.int .i64 1)).heap[q]? = some o) ∧
  NamesT (w.heap.size + 1 + 1 + 1 + 1) ((Wx.setCell ⟨w.heap.size + 1, 0, none⟩ (.slice none 0 0)).setCell ⟨w.heap.size + 1 + 1, 0, none⟩ (.int .i64 1)) G ∧
  PathX w s .ret ((Wx.setCell ⟨w.heap.size + 1, 0, none⟩ (.slice none 0 0)).setCell ⟨w.heap.size + 1 + 1, 0, none⟩ (.int .i64 1)) G := by
 have b1 := h1.1.only ho id
 have b2 := h2.1.only ho id
 have a1 := b1.set_ 0 (.slice none 0 0)
 have hst1 : Only (fun k => k = w.heap.size + 1) Wx (Wx.setCell ⟨w.heap.size + 1, 0, none⟩ (.slice none 0 0)) := (Only.refl (fun k => k = w.heap.size + 1) Wx).setCell (p := ⟨w.heap.size + 1, 0, none⟩) (.inl rfl) (.slice none 0 0)
 have a2 := (b2.only hst1 (by show ¬ (w.heap.size + 1 + 1 = w.heap.size + 1); omega)).set_ 0 (.int .i64 1)
 have hst2 : Only (fun k => k = w.heap.size + 1 + 1) (Wx.setCell ⟨w.heap.size + 1, 0, none⟩ (.slice none 0 0)) ((Wx.setCell ⟨w.heap.size + 1, 0, none⟩ (.slice none 0 0)).setCell ⟨w.heap.size + 1 + 1, 0, none⟩ (.int .i64 1)) := (Only.refl (fun k => k = w.heap.size + 1 + 1) _).setCell (p := ⟨w.heap.size + 1 + 1, 0, none⟩) (.inl rfl) (.int .i64 1)
 have hall : Only (fun k => k = w.heap.size + 1 ∨ k = w.heap.size + 1 + 1) W _ := (ho.mono fun _ _ h => h.elim).trans ((hst1.mono fun _ _ h => .inl h).trans (hst2.mono fun _ _ h => .inr h))
 obtain ⟨⟨r, hr⟩, hGb, hGl⟩ := hT
 refine ⟨fun q o hq ho _ => (hall.block q (Array.getElem?_eq_some_iff.1 ho).1 (by omega)).trans ho, ⟨⟨r, hr.only hall (by omega)⟩, hGb, fun k hk => Nat.lt_of_lt_of_le (hGl k hk) hall.size⟩, ⟨rfl, hbad⟩, ⟨a1.only hst2 (by show ¬ (w.heap.size + 1 = w.heap.size + 1 + 1); omega), h1.2⟩, ⟨a2, h2.2⟩, hsn.1.trans' hall fun k hk h => by omega, hsn.2⟩
set_option maxHeartbeats 4000000 in
theorem path_ok (s : Str) (hs : s.length ≤ 1000000) (w : World) : Calls Tryz.prog 25 #[.string ⟨s.toArray⟩] w (PathAns w s) := by
 refine (callsIn_wide (n := 6)).1 ?_
 refine callsIn_of_wp_marks Tryz.func25 rfl trivial ?_ rfl
 refine wpIn_wide.2 ?_
 simp only [Tryz.ntmps25, List.size_toArray, List.length_cons, List.length_nil, Nat.reduceAdd, Nat.reduceSub, Array.replicate_succ, Array.replicate_zero, List.push_toArray, List.append_toArray, List.nil_append, List.cons_append]
 go_wp2_with fail
 refine (names_ok s _).mono ?_
 rintro e w1 ⟨rfl, rfl⟩
 go_wp2_with fail
 obtain ⟨W0, hW0⟩ : ∃ W0, W0 = (((((w.alloc (.cells #[.string ⟨s.toArray⟩] 9)).alloc (.cells #[.slice none 0 0] 47)).alloc (.cells #[.int .i64 0] 32)).alloc (.cells #[.slice none 0 0] 47)).alloc (.cells #[.string ⟨s.toArray⟩] 9)) := ⟨_, rfl⟩
 rw [← hW0]
 have hWa : W0 = allocs w [(#[.string ⟨s.toArray⟩], 9), (#[.slice none 0 0], 47), (#[.int .i64 0], 32), (#[.slice none 0 0], 47), (#[.string ⟨s.toArray⟩], 9)] := hW0
 have hs0 : W0.heap.size = w.heap.size + 5 := by rw [hWa, allocs_size]; rfl
 have ho0 : Only NoB w W0 := by rw [hWa]; exact allocs_only _ _
 have b0 : Blk W0 w.heap.size 9 #[.string ⟨s.toArray⟩] := blk_of hWa 0 rfl
 have b1 : Blk W0 (w.heap.size + 1) 47 #[.slice none 0 0] := blk_of hWa 1 rfl
 have b2 : Blk W0 (w.heap.size + 1 + 1) 32 #[.int .i64 0] := blk_of hWa 2 rfl
 have b3 : Blk W0 (w.heap.size + 1 + 1 + 1) 47 #[.slice none 0 0] := blk_of hWa 3 rfl
 have b4 : Blk W0 (w.heap.size + 1 + 1 + 1 + 1) 9 #[.string ⟨s.toArray⟩] := blk_of hWa 4 rfl
 have hF : ∀ k, k < w.heap.size + 4 → ¬ GB w k := fun k hk (hf : k = w.heap.size + 1 + 1 + 1 + 1) => by omega
 have hT0 : NamesT (w.heap.size + 1 + 1 + 1 + 1) W0 (GB w) := ⟨⟨s, b4⟩, rfl, fun k (hk : k = w.heap.size + 1 + 1 + 1 + 1) => by omega⟩
 have hi0 : PathI w s W0.heap.size 0 W0 (GB w) := ⟨⟨fun a ha => by simp at ha, fun h => by omega⟩, ⟨b0, hF _ (by omega)⟩, ⟨b1, hF _ (by omega)⟩, ⟨b2, hF _ (by omega)⟩, ⟨_, ⟨b3, hF _ (by omega)⟩, Own.nil _ _ _ _⟩, ⟨ho0, fun k (hk : k = w.heap.size + 1 + 1 + 1 + 1) => .inr (by omega)⟩, Nat.le_refl _⟩
 have HSL := Lib.hid hs
 clear hW0 hWa b0 b1 b2 b3
 refine (wpIn_wide (n := 6)).1 ?_
 refine range_ts (n := 6) (gf := 128) (N := (namesOf s).length) (encs := fun k => #[.string ⟨(nameAt s k).toArray⟩]) (T := NamesT (w.heap.size + 1 + 1 + 1 + 1)) (T0 := Names0 (w.heap.size + 1 + 1 + 1 + 1) s) namesT_abid (fun W G hT => hT.2.2) rfl (enters_of Tryz.func128 (by kernel_rfl) rfl) names0_abid b4 (names_iter hs 5 (by omega)) (fun _ => rfl)
  (PathI w s W0.heap.size) (fun k => pathI_abid (by omega)) (fun k => pathI_stay) (fun c _ => PathX w s c) (fun c _ => pathX_abid (by omega))
  hT0 hi0
  (fun k a' W => ∃ a8, a' = Act.mk #[.string ⟨s.toArray⟩, .pointer (some ⟨w.heap.size, 0, none⟩), .pointer (some ⟨w.heap.size + 1, 0, none⟩), .pointer (some ⟨w.heap.size + 1 + 1, 0, none⟩), .pointer (some ⟨w.heap.size + 1 + 1 + 1, 0, none⟩), .string ⟨(nameAt s k).toArray⟩, .string ⟨s.toArray⟩, .func (.func 128) #[] #[.pointer (some ⟨w.heap.size + 1 + 1 + 1 + 1, 0, none⟩)], a8, undef, undef, undef, undef, undef, undef, undef, undef, undef, undef, undef, undef, undef] [])
  ?hAx ?assign ?body ?done ?stop
 case hAx =>
  rintro k a' W W' _ S h hS ho
  exact h
 case assign =>
  intro l k W G K hk hT hI hK
  have HK := Lib.hid hK
  have HT := Lib.hid hT
  have HI := Lib.hid hI
  clear hK hT hI
  gi_wp2
  exact HK.out _ _ (Only.refl NoB W) HT.out HI.out ⟨_, rfl⟩
 case body =>
  rintro l k a' W G hk hl hT hI ⟨a8, rfl⟩
  have HI := Lib.hid hI
  have y0 := hI.2.1.1.cell 0
  have z0 := hI.2.2.1.1.cell 0
  have z1 := hI.2.2.1.1.frozen 0
  have u0 := hI.2.2.2.1.1.cell 0
  have u1 := hI.2.2.2.1.1.frozen 0
  have HK := Lib.hid hk
  have HT := Lib.hid hT
  have HMEM := Lib.hid (nameAt_mem hk)
  have HTK := Lib.hid (names_take hk)
  have HNM0 := named_ok (nameAt s k) W
  have HS0 := Lib.hid hs0
  obtain ⟨ls, hls⟩ : ∃ ls, ls = s.length := ⟨_, rfl⟩
  have hls' : s.length = ls := hls.symm
  have HLS := Lib.hid hls'
  obtain ⟨nm, hnm⟩ : ∃ nm, nm = nameAt s k := ⟨_, rfl⟩
  rw [← hnm] at HMEM HTK HNM0 ⊢
  clear hk hl hT hnm hs hls hT0 hi0 b4 ho0 hF hI
  by_cases h1 : ((ls : Int) > 1000)
  ·have HBAD := Lib.hid (pathOk_bad HMEM.out (.inr (by rw [HLS.out]; omega)))
   have hn1 : decide ((ls : Int) > 1000) = true := by simpa using h1
   have hn2 : (1000 : Int) < ls := h1
   clear HNM0 h1
   gi_wp2_with fail
   refine ⟨trivial, ?_⟩
   gi_wp2_with fail
   have := path_exit (Only.refl NoB W) HT.out HI.out.2.2.1 HI.out.2.2.2.1 HI.out.2.2.2.2.2.1 HBAD.out
   refine ⟨fun q o hq => this.1 q o (by have := HS0.out; omega), this.2⟩
  ·have hn1 : decide ((ls : Int) > 1000) = false := by simpa using h1
   have HLE : Hid (s.length ≤ 1000) := Lib.hid (by rw [HLS.out]; omega)
   cases hb : nmOk nm with
   | false =>
    rw [hb] at HNM0
    have HNM := Lib.hid HNM0
    have HBAD := Lib.hid (pathOk_bad HMEM.out (.inl hb))
    clear hb h1 HNM0
    gi_wp2_with fail
    refine ⟨trivial, ((callsIn_wide.2 HNM.out).inRound l).mono ?_⟩
    rintro e w1 ⟨rfl, ho1⟩
    have HO1 := Lib.hid ho1
    have z0 := (HI.out.2.2.1.1.only ho1 id).cell 0
    have z1 := (HI.out.2.2.1.1.only ho1 id).frozen 0
    have u0 := (HI.out.2.2.2.1.1.only ho1 id).cell 0
    have u1 := (HI.out.2.2.2.1.1.only ho1 id).frozen 0
    clear ho1
    gi_wp2_with fail
    have := path_exit HO1.out HT.out HI.out.2.2.1 HI.out.2.2.2.1 HI.out.2.2.2.2.2.1 HBAD.out
    refine ⟨fun q o hq => this.1 q o (by have := HS0.out; omega), this.2⟩
   | true =>
    rw [hb] at HNM0
    have HNM := Lib.hid HNM0
    have HGOOD := Lib.hid hb
    clear hb h1 HNM0
    gi_wp2_with fail
    refine ⟨trivial, ((callsIn_wide.2 HNM.out).inRound l).mono ?_⟩
    rintro e w1 ⟨rfl, ho1⟩
    obtain ⟨⟨hok, h1000⟩, i0, i1, i2, ⟨v, i3, ho⟩, isn, ibg⟩ := (pathI_abid (B' := w.heap.size) (Nat.le_refl _)).quit HI.out ho1
    have hT1 := namesT_abid (B := w.heap.size).quit HT.out ho1
    obtain ⟨A, cp, rfl, hcp⟩ := ho.shape
    have v0 := i3.1.cell 0
    have v1 := i3.1.frozen 0
    have HOK := Lib.hid hok
    have H0 := Lib.hid i0
    have H1 := Lib.hid i1
    have H2 := Lib.hid i2
    have H3 := Lib.hid i3
    have HO := Lib.hid ho
    have HSN := Lib.hid isn
    have HBG := Lib.hid ibg
    have HO1 := Lib.hid ho1
    have HT1 := Lib.hid hT1
    have HOO : Hid (Own (w1.alloc (.cells #[.string ⟨nm.toArray⟩] 9)) (fun g => (Value.slice A k cp).ownBlock = some g) 9 1 (.slice A k cp) k (((namesOf s).take k).map strV)) := Lib.hid (Own.alloc (w := w1) ⟨HO.out.1, fun _ h => h⟩ _)
    have HR : Hid (Rd (w1.alloc (.cells #[.string ⟨nm.toArray⟩] 9)) (fun q => q = w1.heap.size) 1 (.slice (some ⟨w1.heap.size, 0, none⟩) 1 1) 1 [.string ⟨nm.toArray⟩]) := Lib.hid (rd_new w1 9 1 1 [.string ⟨nm.toArray⟩] rfl)
    have H1N : Hid (∀ u ∈ ([.string ⟨nm.toArray⟩] : List Value), u.oneCell' = true) := Lib.hid (by simp [Value.oneCell'])
    have hk6 : k ≤ 2000000 := by have := HK.out; have := namesOf_len (s := s); have := HLE.out; omega
    have hR3 : ∀ q, (Value.slice A k cp).ownBlock = some q → ¬ (w.heap.size + 1 + 1 + 1 = q) := fun q hq => by have := (HO.out.2 q hq).1; have := HS0.out; omega
    have HB3 : Hid (∀ v' w', App (w1.alloc (.cells #[.string ⟨nm.toArray⟩] 9)) (fun g => (Value.slice A k cp).ownBlock = some g) 9 1 (.slice A k cp) k 1 (((namesOf s).take k).map strV) [.string ⟨nm.toArray⟩] v' w' → Blk w' (w.heap.size + 1 + 1 + 1) 47 #[.slice A k cp]) := Lib.hid fun v' w' ha => (H3.out.1.only ((Only.refl NoB w1).alloc _) id).only ha.only fun hq => hR3 _ hq rfl
    clear z0 z1 u0 u1 v1 hR3 i0 i1 i2 i3 isn ibg ho hcp hok h1000 hT1 ho1
    gi_wp2_with (gi_at_builtin; refine wpListIn_app rfl _ _ _ rfl (by kernel_rfl) Ty.str rfl rfl HOO.out HR.out H1N.out (by omega) ?_; intro v' w' ha; obtain ⟨A', c', rfl, hc'⟩ := ha.shape; have hb3 := HB3.out _ _ ha; have v0' := hb3.cell 0; have v1' := hb3.frozen 0; have HA := Lib.hid ha; clear ha hb3 v0 hc')
    have hoA : Only (fun q => (Value.slice A k cp).ownBlock = some q) W w' := ((HO1.out.mono fun _ _ h => h.elim).trans (((Only.refl _ w1).alloc _).trans HA.out.only))
    have hst : Only (fun q => q = w.heap.size + 1 + 1 + 1) w' (w'.setCell ⟨w.heap.size + 1 + 1 + 1, 0, none⟩ (.slice A' (k + 1) c')) := (Only.refl (fun q => q = w.heap.size + 1 + 1 + 1) w').setCell (p := ⟨w.heap.size + 1 + 1 + 1, 0, none⟩) (.inl rfl) _
    have hal1 : Only (fun q => q = w.heap.size + 1 + 1 + 1 ∨ (Value.slice A k cp).ownBlock = some q) w1 (w'.setCell ⟨w.heap.size + 1 + 1 + 1, 0, none⟩ (.slice A' (k + 1) c')) := ((((Only.refl _ w1).alloc _).trans HA.out.only).mono fun _ _ h => .inr h).trans (hst.mono fun _ _ h => .inl h)
    have hall : Only (fun q => q = w.heap.size + 1 + 1 + 1 ∨ (Value.slice A k cp).ownBlock = some q) W (w'.setCell ⟨w.heap.size + 1 + 1 + 1, 0, none⟩ (.slice A' (k + 1) c')) := (HO1.out.mono fun _ _ h => h.elim).trans hal1
    have hob : ∀ q, (Value.slice A k cp).ownBlock = some q → w.heap.size + 5 ≤ q ∧ ¬ G q := fun q hq => ⟨by have := (HO.out.2 q hq).1; have := HS0.out; omega, (HO.out.2 q hq).2⟩
    have hG : ∀ q, G q → ¬ (q = w.heap.size + 1 + 1 + 1 ∨ (Value.slice A k cp).ownBlock = some q) := fun q hq h => by
     rcases h with rfl | h
     ·exact H3.out.2 hq
     ·exact (hob q h).2 hq
    have hlow : ∀ q, q < w.heap.size + 5 → q ≠ w.heap.size + 1 + 1 + 1 → ¬ (q = w.heap.size + 1 + 1 + 1 ∨ (Value.slice A k cp).ownBlock = some q) := fun q hq hne h => by
     rcases h with h | h
     ·exact hne h
     ·have := (hob q h).1; omega
    have htk : ((namesOf s).take (k + 1)).map strV = ((namesOf s).take k).map strV ++ [.string ⟨nm.toArray⟩] := by
     rw [HTK.out]; simp [strV]
    have hb3 : Blk w' (w.heap.size + 1 + 1 + 1) 47 #[.slice A k cp] := HB3.out _ _ HA.out
    have hown : Own (w'.setCell ⟨w.heap.size + 1 + 1 + 1, 0, none⟩ (.slice A' (k + 1) c')) (fun g => W0.heap.size ≤ g ∧ ¬ G g) 9 1 (.slice A' (k + 1) c') (k + 1) (((namesOf s).take (k + 1)).map strV) := by
     rw [htk]
     have hszW := HBG.out
     refine (HA.out.own.only hst fun q hq e => ?_).mono fun q hq _ => ?_
     ·have e : q = w.heap.size + 1 + 1 + 1 := e
      rcases hq with hq | hq
      ·have := (hob q hq).1; omega
      ·have hq : q = _ := hq
       rw [World.size_alloc] at hq
       have := HS0.out
       unfold Big at hszW; omega
     ·rcases hq with hq | hq
      ·exact HO.out.2 q hq
      ·rw [World.size_alloc] at hq
       unfold Big at hszW
       exact ⟨by omega, fun hg => by have := HT1.out.2.2 q hg; omega⟩
    have hob2 : ∀ q (o : Obj), (Value.slice A k cp).ownBlock = some q → w1.heap[q]? = some o → o.isCells = false → False := fun q o h hq hoc => by
     obtain ⟨cur, hc⟩ := own_cells HO.out h
     rw [hc] at hq
     injection hq with hq
     subst hq
     cases hoc
    obtain ⟨r, hr⟩ := HT1.out.1
    refine ⟨fun q hq => hall.block q (HT.out.2.2 q hq) (hG q hq), fun q o hq ho hoc => ?_, ⟨⟨r, hr.only hal1 (hG _ HT1.out.2.1)⟩, HT1.out.2.1, fun q hq => Nat.lt_of_lt_of_le (HT1.out.2.2 q hq) hal1.size⟩, ⟨fun a ha => ?_, fun _ => HLE.out⟩, ⟨H0.out.1.only hal1 (hlow _ (by omega) (by omega)), H0.out.2⟩, ⟨H1.out.1.only hal1 (hlow _ (by omega) (by omega)), H1.out.2⟩, ⟨H2.out.1.only hal1 (hlow _ (by omega) (by omega)), H2.out.2⟩, ⟨_, ⟨hb3.set_ 0 _, H3.out.2⟩, hown⟩, ⟨HSN.out.1.trans' hal1 fun q hq h => ?_, HSN.out.2⟩, Nat.le_trans HBG.out hal1.size⟩
    ·have h1 := (HO1.out.block q (Array.getElem?_eq_some_iff.1 ho).1 id).trans ho
     refine (hal1.block q (Array.getElem?_eq_some_iff.1 h1).1 fun h => ?_).trans h1
     rcases h with h | h
     ·have := HS0.out; omega
     ·exact hob2 q o h h1 hoc
    ·rw [HTK.out] at ha
     rcases List.mem_append.1 ha with h | h
     ·exact HOK.out a h
     ·rw [List.mem_singleton] at h; rw [h]; exact HGOOD.out
    ·rcases h with h | h
     ·omega
     ·have := (hob q h).1; omega
 case done =>
  rintro d W G hd hnd hT ⟨⟨hok, h1000⟩, i0, i1, i2, ⟨v, i3, ho⟩, isn, ibg⟩ hK
  obtain ⟨A, cp, rfl, hcp⟩ := ho.shape
  have HPO : Hid (pathOk s = true) := Lib.hid (by
   unfold pathOk
   simp only [Bool.and_eq_true, decide_eq_true_iff, List.all_eq_true]
   rw [List.take_length] at hok
   refine ⟨?_, hok⟩
   by_cases hz : s = []
   ·rw [hz]; simp
   ·exact h1000 (List.length_pos_iff.2 fun h => hz (namesOf_nil.1 h)))
  have H1 := Lib.hid i1
  have H2 := Lib.hid i2
  have H3 := Lib.hid i3
  have HO := Lib.hid ho
  have HSN := Lib.hid isn
  have HK := Lib.hid hK
  have z0 := i1.1.cell 0
  have z1 := i1.1.frozen 0
  have u0 := i2.1.cell 0
  have u1 := i2.1.frozen 0
  have v0 := i3.1.cell 0
  have HS0 := Lib.hid hs0
  clear i0 i1 i2 i3 isn ibg ho hK hT hnd hcp hok h1000 hs0 hs b4 hT0 hi0 hF ho0
  go_wp2_with fail
  have a1 := H1.out.1.set_ 0 (.slice A (namesOf s).length cp)
  have hst1 : Only (fun k => k = w.heap.size + 1) W (W.setCell ⟨w.heap.size + 1, 0, none⟩ (.slice A (namesOf s).length cp)) := (Only.refl (fun k => k = w.heap.size + 1) W).setCell (p := ⟨w.heap.size + 1, 0, none⟩) (.inl rfl) _
  have a2 := (H2.out.1.only hst1 (by show ¬ (w.heap.size + 1 + 1 = w.heap.size + 1); omega)).set_ 0 (.int .i64 0)
  have hst2 : Only (fun k => k = w.heap.size + 1 + 1) (W.setCell ⟨w.heap.size + 1, 0, none⟩ (.slice A (namesOf s).length cp)) ((W.setCell ⟨w.heap.size + 1, 0, none⟩ (.slice A (namesOf s).length cp)).setCell ⟨w.heap.size + 1 + 1, 0, none⟩ (.int .i64 0)) := (Only.refl (fun k => k = w.heap.size + 1 + 1) _).setCell (p := ⟨w.heap.size + 1 + 1, 0, none⟩) (.inl rfl) (.int .i64 0)
  obtain ⟨WF, hWF⟩ : ∃ z, z = (W.setCell ⟨w.heap.size + 1, 0, none⟩ (.slice A (namesOf s).length cp)).setCell ⟨w.heap.size + 1 + 1, 0, none⟩ (.int .i64 0) := ⟨_, rfl⟩
  have hall : Only (fun k => k = w.heap.size + 1 ∨ k = w.heap.size + 1 + 1) W WF := by rw [hWF]; exact (hst1.mono fun _ _ h => .inl h).trans (hst2.mono fun _ _ h => .inr h)
  have a1' : Blk WF (w.heap.size + 1) 47 #[.slice A (namesOf s).length cp] := by rw [hWF]; exact a1.only hst2 (by show ¬ (w.heap.size + 1 = w.heap.size + 1 + 1); omega)
  have a2' : Blk WF (w.heap.size + 1 + 1) 32 #[.int .i64 0] := by rw [hWF]; exact a2
  have hs0 := HS0.out
  have hKF := (hall.block d (Array.getElem?_eq_some_iff.1 HK.out).1 (by omega)).trans HK.out
  have hown := HO.out.keep (w' := WF) fun q hq => hall.block q (HO.out.lt hq) fun h => by have := (HO.out.2 q hq).1; omega
  rw [← hWF]
  clear hWF hst1 hst2 a1 a2
  refine ⟨by simp, .inl ⟨_, _, rfl, run_takeDeferred hKF, ?_⟩⟩
  have hp := put_only WF d (.deferred none)
  have hS : ∀ q, q = d → ∃ o : Obj, WF.heap[q]? = some o ∧ o.isCells = false := fun q hq => by rw [hq]; exact ⟨_, hKF, rfl⟩
  have c1 := (blk_abid a1' hS hp).cell 0
  have c2 := (blk_abid a2' hS hp).cell 0
  have hown2 := hown.keep (w' := WF.putObj d (.deferred none)) fun q hq => hp.block q (hown.lt hq) fun h => by
   obtain ⟨cur, hc⟩ := own_cells hown hq
   obtain ⟨o, h1, h2⟩ := hS q h
   rw [hc] at h1
   injection h1 with h1
   subst h1
   cases h2
  rw [List.take_length] at hown2
  refine ⟨_, results_cell_cell rfl _ _ (w.heap.size + 1) (w.heap.size + 1 + 1) _ _ rfl c1 (by kernel_rfl) rfl c2 (by kernel_rfl), .inl ⟨HPO.out, _, rfl, ⟨hown2.1, fun g hg => by have h := (hown2.2 g hg).1; show w.heap.size ≤ g; omega⟩⟩, ?_⟩
  exact (HSN.out.1.trans' hall fun k hk he => by omega).trans' hp fun k hk he => by have he : k = d := he; omega
 case stop =>
  rintro d c k W G hd hk hnd hT ⟨⟨rfl, hL0⟩, i1, i2, isn⟩ hK
  have HL0 := Lib.hid hL0
  have H1 := Lib.hid i1
  have H2 := Lib.hid i2
  have HSN := Lib.hid isn
  have HK := Lib.hid hK
  clear i1 i2 isn hL0 hT hnd hk hs b4 hT0 hi0 hF ho0
  gi_wp2_with fail
  refine ⟨by simp, .inl ⟨_, _, rfl, run_takeDeferred HK.out, ?_⟩⟩
  have hp := put_only W d (.deferred none)
  have hS : ∀ q, q = d → ∃ o : Obj, W.heap[q]? = some o ∧ o.isCells = false := fun q hq => by rw [hq]; exact ⟨_, HK.out, rfl⟩
  have c1 := (blk_abid H1.out.1 hS hp).cell 0
  have c2 := (blk_abid H2.out.1 hS hp).cell 0
  refine ⟨_, results_cell_cell rfl _ _ (w.heap.size + 1) (w.heap.size + 1 + 1) _ _ rfl c1 (by kernel_rfl) rfl c2 (by kernel_rfl), .inr ⟨HL0.out, rfl⟩, ?_⟩
  exact HSN.out.1.trans' hp fun k hk he => by have he : k = d := he; omega
end
end Go.Proofs.YtklfkocebhhgcaaGreat
namespace Go.Proofs.YtklfkocebhhgcaaGreat
open Go.RowKit Go.Proofs Go.Shelf
set_option maxRecDepth 20000
attribute [local go_sem] Oper.semAt_some
section
variable {w w' : World} {F G : Nat → Prop} {X : XC} {t m np own c n s : Nat} {M : List KV} {d : Str}
def rdAns (d : Str) (s : Nat) : Value := if s = d.length then .tuple #[.string ⟨d.toArray⟩, .int .i64 0] else .tuple #[.string ⟨#[]⟩, .int .i64 4]
theorem chunkN_eq (L ch : Nat) (hc : 1 ≤ ch) : ((L : Int) + ch - 1) / ch = (chunkN ch L : Nat) := by
 unfold chunkN
 rw [Int.natCast_ediv]
 congr 1; omega
def RdSt (B : Nat) (F' : Nat → Prop) (ch : Nat) (d : Str) (w1 : World) (i : Nat) (v : Value) (wr : World) : Prop :=
 Only NoB w1 wr ∧ Own wr (fun k => B ≤ k) 5 1 v (min (ch * i) d.length) ((d.take (ch * i)).map byteV)
set_option maxHeartbeats 2000000 in
theorem fread_ok (h : KvAt w F X t m np own M c) (hn : 1 ≤ n ∧ n ≤ 16777215) (hs : s ≤ 65536) (hd : d.length ≤ 65536) (hun : under (fpre n) M = chunks (chunkOf m) (fpre n) d) :
  Calls Tryz.prog 135 #[.pointer (some ⟨t, 0, none⟩), .int .i64 n, .int .i64 s] w (KvOut w F X t m np own (rdAns d s) M c) := by
 have hch : 1 ≤ chunkOf m ∧ chunkOf m ≤ 200 := by
  have := h.m12
  unfold chunkOf NodeD.most
  omega
 have HR := Lib.hid (ready_ok (n := n) h (by omega))
 have hPR := fun w1 => fprefix_ok (w := w1) n
 rw [preAns_ok (by omega)] at hPR
 have HPR := Lib.hid hPR
 have hlen : (under (fpre n) M).length = chunkN (chunkOf m) d.length := by rw [hun, chunks_len]
 have hNd : chunkN (chunkOf m) d.length ≤ 65536 := by
  rw [chunkN]
  refine Nat.le_trans (Nat.div_le_div_right (c := chunkOf m) (b := 65536 * chunkOf m + (chunkOf m - 1)) (by have : 65536 * 1 ≤ 65536 * chunkOf m := Nat.mul_le_mul_left _ hch.1; omega)) ?_
  rw [Nat.mul_comm, Nat.mul_add_div (by omega), Nat.div_eq_of_lt (by omega)]
  omega
 have HA : Hid (∀ (w1 : World) (q : Nat), Only NoB w w1 → Calls Tryz.prog 57 #[.pointer (some ⟨t, 0, none⟩), .string ⟨(fpre n).toArray⟩, .int .i64 q] w1 _) := Lib.hid fun w1 q ho => kv_all (most := q) (h.quit ho) (pre := fpre n) (by simp [fpre, be3i]) (by omega)
 obtain ⟨ch, hc⟩ : ∃ ch, ch = chunkOf m := ⟨_, rfl⟩
 rw [← hc] at HR hch hNd hlen hun
 have hq := chunkN_eq s ch hch.1
 obtain ⟨q, hqe⟩ : ∃ q, q = chunkN ch s := ⟨_, rfl⟩
 rw [← hqe] at hq
 have hs1 : (s : Int) ≤ 65536 := by omega
 have hc0 : (ch : Int) ≠ 0 := by omega
 have hc1 : (1 : Int) ≤ ch := by omega
 have HN := Lib.hid hn
 have HH := Lib.hid h
 have HUN := Lib.hid hun
 have HLEN := Lib.hid hlen
 have HND := Lib.hid hNd
 have HQE := Lib.hid hqe
 obtain ⟨R, hR⟩ : ∃ R, R = rdAns d s := ⟨_, rfl⟩
 rw [← hR]
 have HRE := Lib.hid hR
 clear h hn hc hun hlen hNd hqe hR hPR
 go_enter Tryz.func135, Tryz.ntmps135
 go_wp2_with fail
 refine HR.out.mono ?_
 rintro e w1 ⟨rfl, ho⟩
 have HO := Lib.hid ho
 clear ho
 go_wp2_with fail
 refine (HPR.out w1).mono ?_
 rintro e w2 ⟨rfl, ho⟩
 have HO2 := Lib.hid (HO.out.trans ho)
 clear ho
 go_wp2_with fail
 refine (HA.out w2 q HO2.out).mono ?_
 rintro e w3 ⟨F3, hall, hk3, ho3, hg3⟩
 have hkk : KvAt w3 F3 X t m np own M c ∧ Only F w w3 ∧ Grows F F3 w := ⟨hk3, (HO2.out.mono fun _ _ h => h.elim).trans' ho3 fun k hk hf => hf, fun k hk => (hg3 k hk).imp id fun h => Nat.le_trans HO2.out.size h⟩
 have HKK := Lib.hid hkk
 have hs3 := Nat.le_trans HO2.out.size ho3.size
 have hs2 := HO2.out.size
 clear hk3 ho3 hg3 hkk
 rcases hall with ⟨hle, v, rfl, hown⟩ | ⟨hgt, rfl⟩
 ·obtain ⟨A, cp, rfl, _⟩ := hown.shape
  obtain ⟨N, hN⟩ : ∃ N, N = (under (fpre n) M).length := ⟨_, rfl⟩
  rw [← hN] at hle hown ⊢
  by_cases hqN : N = q
  ·subst hqN
   have HOW := Lib.hid hown
   have HNE := Lib.hid hN
   have HST : Hid (RdSt w3.heap.size F3 ch d w3 0 (.slice none 0 0) w3) := Lib.hid ⟨Only.refl _ _, by simpa using Own.nil w3 _ 5 1⟩
   clear hown hN hle
   go_wp2_with fail
   go_loopg [14, 73] N (fun g s14 s73 wr => ∃ i : Nat, s73 = .int .i64 i ∧ i ≤ N ∧ g = N - i ∧ Hid (RdSt w3.heap.size F3 ch d w3 i s14 wr))
   case atStart => exact ⟨0, rfl, Nat.zero_le _, rfl, HST⟩
   case round =>
    clear HST
    obtain ⟨i, rfl, hiN, hgk, HST⟩ := hrel
    obtain ⟨how, hov⟩ := HST.out
    obtain ⟨A2, c2, rfl, _⟩ := hov.shape
    by_cases hlt : i < N
    ·have hltI : (i : Int) < (N : Int) := by omega
     have hlen := HLEN.out
     have hxe : (under (fpre n) M)[i]? = some (ckey (fpre n) i, chunkAt ch d i) := by
      rw [HUN.out]
      unfold chunks
      rw [List.getElem?_map, List.getElem?_range (by rw [← hlen, ← HNE.out]; exact hlt)]; rfl
     have hkey : ckey (fpre n) i = (99 : UInt8) :: (be3 n ++ be2 i) := by unfold ckey fpre; rw [be3i_nat HN.out.2]; rfl
     obtain ⟨hx1, hx2⟩ := pairL_get hxe
     have how3 := HOW.out.only how fun _ _ => id
     obtain ⟨g, c3, cs, hve, hnc, hKg, hB, hcs, hcell, hcl, _⟩ := how3.open_ (by omega)
     injection hve with q1 q2 q3
     subst q1; subst q3
     have y1 := hcl _ _ hx1
     have y2 := hcl _ _ hx2
     rw [hkey] at y1
     unfold strV at y1 y2
     obtain ⟨V, hV⟩ : ∃ V, V = chunkAt ch d i := ⟨_, rfl⟩
     rw [← hV] at y2
     simp only at y1 y2
     have hVl : V.length = min ch (d.length - ch * i) := by rw [hV]; unfold chunkAt; rw [List.length_take, List.length_drop]
     have hil : ch * i < d.length := (chunkN_lt (by omega)).1 (by rw [← hlen, ← HNE.out]; exact hlt)
     have hi6 : i ≤ 65535 := by have := HND.out; have := HNE.out; omega
     have hms : N - (i + 1) < gk := by omega
     have HB : Hid (∀ w', Calls Tryz.prog 113 #[.agg (keyC 3 [] [] n i)] w' _) := Lib.hid fun w' => bytes_chunk HN.out hi6
     unfold keyC at HB
     obtain ⟨lo, hlo⟩ : ∃ lo, lo = min (ch * i) d.length := ⟨_, rfl⟩
     rw [← hlo] at hov ⊢
     have HOV0 := Lib.hid hov
     have HSTEP : Hid (∀ w5 v8 w8, Only NoB wr w5 → App w5 (fun k => w3.heap.size ≤ k) 5 1 (.slice A2 lo c2) lo (ByteArray.mk V.toArray).size ((d.take (ch * i)).map byteV) (Lib.strCells ⟨V.toArray⟩) v8 w8 → RdSt w3.heap.size F3 ch d w3 (i + 1) v8 w8) := Lib.hid fun w5 v8 w8 ho5 ha => by
      have hsz : (ByteArray.mk V.toArray).size = V.length := by show V.toArray.size = _; simp
      rw [hsz, strCells_mk] at ha
      refine ⟨(how.trans ho5).trans' ha.only fun k hk hf => ?_, ?_⟩
      ·have := hov.2 k hf; omega
      ·have h1 := ha.own
       have hcat : d.take (ch * i) ++ V = d.take (ch * (i + 1)) := by rw [hV]; unfold chunkAt; rw [← List.take_add, ← Nat.mul_succ]
       rw [← List.map_append, hcat] at h1
       have hln : lo + V.length = min (ch * (i + 1)) d.length := by rw [hlo, hVl, Nat.mul_succ]; omega
       rw [hln] at h1
       refine h1.mono fun k hk _ => ?_
       rcases hk with hk | hk
       ·exact hk
       ·have := how.size; have := ho5.size; omega
     have hlo6 : lo ≤ 65536 := by omega
     have hVc : V.length ≤ 200 := by omega
     by_cases hlast : i + 1 < N
     ·have hl1 : (i : Int) + 1 < (N : Int) := by omega
      have hil2 : ch * (i + 1) < d.length := (chunkN_lt (by omega)).1 (by rw [← hlen, ← HNE.out]; exact hlast)
      have hvl : V.length = ch := by rw [hVl]; rw [Nat.mul_succ] at hil2; omega
      clear hVl hV hx1 hx2 hcell hcl hB hcs hKg hnc how3 hov how hlen hxe hkey hlo hil hil2 hgk HST
      go_wp2_with fail
      refine (HB.out _).mono ?_
      rintro e w5 ⟨rfl, ho5⟩
      have HO5 := Lib.hid (((Only.refl NoB wr).alloc (.cells #[.string ⟨((99 : UInt8) :: (be3 n ++ be2 i)).toArray⟩, .string ⟨V.toArray⟩] 81)).trans ho5)
      have HOV := Lib.hid (HOV0.out.only HO5.out fun _ _ => id)
      have hb5 := (Blk.new wr 81 #[.string ⟨((99 : UInt8) :: (be3 n ++ be2 i)).toArray⟩, .string ⟨V.toArray⟩]).only ho5 id
      have z1 := hb5.cell 0
      have z2 := hb5.cell 1
      clear ho5 hb5 y1 y2
      go_wp2_with (at_builtin; refine wpList_app_str rfl _ _ _ _ rfl (by kernel_rfl) (by kernel_rfl) Ty.byte rfl rfl HOV.out (by show _ + (V.toArray).size ≤ _; rw [List.size_toArray]; omega) ?_; intro v8 w8 ha8; have HA8 := Lib.hid ha8; clear ha8)
      have HN8 := Lib.hid (HSTEP.out w5 v8 w8 HO5.out HA8.out)
      clear z1 z2 HA8
      go_wp2_with fail
      go_roundg (N - (i + 1))
      case measure => exact hms
      case rel => exact ⟨i + 1, rfl, by omega, rfl, HN8⟩
     ·have hl1 : ¬ ((i : Int) + 1 < (N : Int)) := by omega
      clear hVl hV hx1 hx2 hcell hcl hB hcs hKg hnc how3 hov how hlen hxe hkey hlo hil hgk HST
      go_wp2_with fail
      refine (HB.out _).mono ?_
      rintro e w5 ⟨rfl, ho5⟩
      have HO5 := Lib.hid (((Only.refl NoB wr).alloc (.cells #[.string ⟨((99 : UInt8) :: (be3 n ++ be2 i)).toArray⟩, .string ⟨V.toArray⟩] 81)).trans ho5)
      have HOV := Lib.hid (HOV0.out.only HO5.out fun _ _ => id)
      have hb5 := (Blk.new wr 81 #[.string ⟨((99 : UInt8) :: (be3 n ++ be2 i)).toArray⟩, .string ⟨V.toArray⟩]).only ho5 id
      have z1 := hb5.cell 0
      have z2 := hb5.cell 1
      clear ho5 hb5 y1 y2
      go_wp2_with (at_builtin; refine wpList_app_str rfl _ _ _ _ rfl (by kernel_rfl) (by kernel_rfl) Ty.byte rfl rfl HOV.out (by show _ + (V.toArray).size ≤ _; rw [List.size_toArray]; omega) ?_; intro v8 w8 ha8; have HA8 := Lib.hid ha8; clear ha8)
      have HN8 := Lib.hid (HSTEP.out w5 v8 w8 HO5.out HA8.out)
      clear z1 z2 HA8
      go_wp2_with fail
      go_roundg (N - (i + 1))
      case measure => exact hms
      case rel => exact ⟨i + 1, rfl, by omega, rfl, HN8⟩
    ·have hge : ¬ ((i : Int) < (N : Int)) := by omega
     have hNi : ¬ (ch * i < d.length) := fun hh => by
      have h1 := (chunkN_lt (by omega)).2 hh
      rw [← HLEN.out, ← HNE.out] at h1
      exact hlt h1
     have hmin : min (ch * i) d.length = d.length := Nat.min_eq_right (by omega)
     have htk : d.take (ch * i) = d := List.take_of_length_le (by omega)
     rw [hmin, htk] at hov
     rw [hmin]
     have hcv : (convert 103 9 (.slice A2 d.length c2)).run Tryz.prog wr = .ok (.string ⟨d.toArray⟩) wr := conv_bytes' (K := fun k => w3.heap.size ≤ k) hov.rd
     have HEND : Hid (∀ v, R = v → KvOut w F X t m np own R M c (.returned v) wr) := Lib.hid fun v hv => ⟨by rw [hv], F3, HKK.out.1.quit how, HKK.out.2.1.trans' how fun k hk hf => hf.elim, HKK.out.2.2⟩
     obtain ⟨dl, hdl⟩ : ∃ dl, dl = d.length := ⟨_, rfl⟩
     rw [← hdl] at hcv ⊢
     by_cases hsd : s = dl
     ·have hR : R = .tuple #[.string ⟨d.toArray⟩, .int .i64 0] := by rw [HRE.out, rdAns, if_pos (hsd.trans hdl)]
      have HE := Lib.hid (HEND.out _ hR)
      have hsI : (dl : Int) = (s : Int) := by omega
      subst hsd
      clear hov how hNi hmin htk hdl hR HST hgk
      go_wp2_with fail
      go_ret2
      exact HE.out
     ·have hR : R = .tuple #[.string ⟨#[]⟩, .int .i64 4] := by rw [HRE.out, rdAns, if_neg (fun e => hsd (e.trans hdl.symm))]
      have HE := Lib.hid (HEND.out _ hR)
      have hsI : ¬ ((dl : Int) = (s : Int)) := by omega
      clear hov how hNi hmin htk hdl hR HST hgk hcv
      go_wp2_with fail
      go_ret2
      exact HE.out
  ·have hne : ¬ ((N : Int) = (q : Int)) := by omega
   have hsd : s ≠ d.length := fun e => by
    have h1 := HLEN.out
    have h2 := HQE.out
    rw [e] at h2
    omega
   have HE : Hid (KvOut w F X t m np own R M c (.returned (.tuple #[.string ⟨#[]⟩, .int .i64 4])) w3) := Lib.hid ⟨by rw [HRE.out, rdAns, if_neg hsd], F3, HKK.out⟩
   clear hown hN hsd hle
   go_wp2_with fail
   go_ret2
   exact HE.out
 ·have hsd : s ≠ d.length := fun e => by
   have h1 := HLEN.out
   have h2 := HQE.out
   rw [e] at h2
   omega
  have HE : Hid (KvOut w F X t m np own R M c (.returned (.tuple #[.string ⟨#[]⟩, .int .i64 4])) w3) := Lib.hid ⟨by rw [HRE.out, rdAns, if_neg hsd], F3, HKK.out⟩
  clear hsd hgt
  go_wp2_with fail
  go_ret2
  exact HE.out
end
end Go.Proofs.YtklfkocebhhgcaaGreat
namespace Go.Proofs.YtklfkocebhhgcaaGreat
open Go.RowKit Go.Proofs Go.Shelf
set_option maxRecDepth 20000
attribute [local go_sem] Oper.semAt_some
section
variable {w w' : World} {F G : Nat → Prop} {X : XC} {t m np own c : Nat} {M : List KV} {key : Str}
theorem Ty.name : Elt Tryz.prog 119 (.agg #[.string ⟨#[]⟩, .int .i64 0]) 2 24 := ⟨by kernel_rfl, rfl, by omega, by omega⟩
end
end Go.Proofs.YtklfkocebhhgcaaGreat
namespace Go.Proofs.YtklfkocebhhgcaaGreat
open Go.RowKit Go.Proofs Go.Shelf
set_option maxRecDepth 20000
section
variable {w w' : World} {F G : Nat → Prop} {X : XC} {t m c n s : Nat} {M : List KV} {d : Str} {D : Nat → Str}
def FlAt (w : World) (F : Nat → Prop) (X : XC) (t m : Nat) (D : Nat → Str) (c : Nat) : Prop :=
 ∃ M, KvAt w F X t m 600 (ownOf 600 m) M c ∧ (∀ n : Nat, 1 ≤ n ∧ n ≤ 16777215 → under (fpre n) M = chunks (chunkOf m) (fpre n) (D n) ∧ (D n).length ≤ 65536) ∧ ∀ x ∈ M, ∃ n : Nat, (1 ≤ n ∧ n ≤ 16777215) ∧ hasP (fpre n) x.1 = true
theorem FlAt.m12 (h : FlAt w F X t m D c) : 64 ≤ m ∧ m ≤ 4096 := by obtain ⟨M, hk, _⟩ := h; exact hk.m12
theorem FlAt.quit (h : FlAt w F X t m D c) (ho : Only NoB w w') : FlAt w' F X t m D c := by obtain ⟨M, hk, r⟩ := h; exact ⟨M, hk.quit ho, r⟩
end
end Go.Proofs.YtklfkocebhhgcaaGreat
namespace Go.Proofs.YtklfkocebhhgcaaGreat
open Go.RowKit Go.Proofs Go.Shelf
set_option maxRecDepth 20000
def dirN (n : Int) : Prop := 1 ≤ n ∧ n ≤ 16777215
instance (n : Int) : Decidable (dirN n) := by unfold dirN; exact inferInstance
theorem dirOk_n {n : Int} {A : Str} (h : dirOk n A = true) : dirN n := entOk_num (dirOk_ent h)
theorem be3i_inj {a b : Int} (ha : dirN a) (hb : dirN b) (h : be3i a = be3i b) : a = b := by
 have h1 := foldN_be3 (n := a) (by have := ha.1; omega) ha.2
 have h2 := foldN_be3 (n := b) (by have := hb.1; omega) hb.2
 rw [← h1, ← h2, h]
theorem numV_be3 {i : Int} (h : dirN i) : (numV (be3i i) : Int) = i := by
 have : (be3i i).length = 3 := rfl
 rw [numV, if_pos this]
 exact foldN_be3 (by have := h.1; omega) h.2
theorem numV_ne {i : Int} (h : dirN i) : numV (be3i i) ≠ 0 := by have := numV_be3 h; have := h.1; omega
theorem ekey_pre (n : Int) (A : Str) : ekey n A = dpre n ++ A := rfl
theorem hasP_ekey (m n : Int) (A : Str) : hasP (dpre m) (ekey n A) = decide (dpre n = dpre m) := by
 unfold hasP
 rw [ekey_pre, dpre_len]
 congr 1
theorem dpre_inj {a b : Int} (ha : dirN a) (hb : dirN b) (h : dpre a = dpre b) : a = b := be3i_inj ha hb (by unfold dpre at h; exact (List.cons.inj h).2)
theorem hasP_other {m n : Int} {A : Str} (hm : dirN m) (hn : dirN n) (h : m ≠ n) : hasP (dpre m) (ekey n A) = false := by
 rw [hasP_ekey]
 simpa using fun e => h (dpre_inj hn hm e).symm
def DirM (M : List KV) : Prop := ∀ x ∈ M, ∃ (n i : Int) (A : Str), dirOk n A = true ∧ x.1 = ekey n A ∧ dirN i ∧ x.2 = be3i i
section
variable {M : List KV} {n m x : Int} {A : Str}
theorem addE_ok (h : addE M n A x = 0) : dirOk n A = true ∧ dirN x ∧ get (ekey n A) M = none := by
 unfold addE at h
 split at h
 ·rename_i hd
  refine ⟨hd.1, hd.2, ?_⟩
  cases hg : get (ekey n A) M with
  | none => rfl
  | some v => rw [hg] at h; simp at h
 ·simp at h
theorem DirM.add (h : DirM M) : DirM (addM M n A x) := by
 intro y hy
 unfold addM at hy
 split at hy
 ·rename_i h0
  obtain ⟨h1, h2, _⟩ := addE_ok h0
  rcases mem_ins hy with rfl | ⟨hy, _⟩
  ·exact ⟨n, x, A, h1, rfl, h2, rfl⟩
  ·exact h y hy
 ·exact h y hy
theorem DirM.rem (h : DirM M) : DirM (remM M n A) := by
 intro y hy
 unfold remM at hy
 split at hy
 ·exact h y (mem_del.1 hy).1
 ·exact h y hy
theorem find_some {i : Int} (hd : dirOk n A = true) (hi : dirN i) (hg : get (ekey n A) M = some (be3i i)) : findI M n A = (i.toNat, 0) := by
 unfold findI
 rw [hd, hg]
 have h1 := numV_be3 hi
 have h2 := numV_ne hi
 simp only [if_true]
 rw [if_neg h2]
 congr 1
 omega
theorem DirM.under (h : DirM M) (hs : Srt M) (hn : dirN n) {y : KV} (hy : y ∈ under (dpre n) M) : ∃ (i : Int) (B : Str), dirOk n B = true ∧ y.1 = ekey n B ∧ dirN i ∧ y.2 = be3i i ∧ y.1.drop 4 = B ∧ findI M n B = (i.toNat, 0) ∧ (numV y.2 : Int) = i := by
 obtain ⟨h1, h2⟩ := List.mem_filter.1 hy
 obtain ⟨m, i, B, hd, hk, hi, hv⟩ := h y h1
 have hmn : n = m := by
  apply Decidable.byContradiction
  intro hne
  rw [hk, hasP_other hn (dirOk_n hd) hne] at h2
  cases h2
 subst hmn
 have hy2 : y = (ekey n B, be3i i) := by rw [← hk, ← hv]
 exact ⟨i, B, hd, hk, hi, hv, by rw [hk]; rfl, find_some hd hi (get_of_mem hs (hy2 ▸ h1)), by rw [hv]; exact numV_be3 hi⟩
end
structure DrAt (w : World) (F : Nat → Prop) (X : XC) (t : Nat) (M : List KV) (c : Nat) : Prop where
 kv : KvAt w F X t 400 300 (ownOf 300 400) M c
 dir : DirM M
 len : M.length ≤ c
 few : c ≤ 280
def Aside (w : World) (F : Nat → Prop) (size : Nat) (v : Value) (n : Nat) (xs : List Value) : Prop := ∃ K : Nat → Prop, Rd w K size v n xs ∧ ∀ g, K g → g < w.heap.size ∧ ¬ F g
section
variable {w w' : World} {F F' G : Nat → Prop} {X : XC} {t c size : Nat} {M : List KV} {n x : Int} {A : Str} {v : Value} {xs : List Value}
theorem Aside.step {k : Nat} (h : Aside w F size v k xs) (ho : Only F w w') (hg : Grows F F' w) : Aside w' F' size v k xs := by
 obtain ⟨K, hr, hK⟩ := h
 refine ⟨K, Rd.only hr ho fun g hg => (hK g hg).2, fun g hk => ⟨Nat.lt_of_lt_of_le (hK g hk).1 ho.size, fun hf => (hg g hf).elim (hK g hk).2 fun h => ?_⟩⟩
 have := (hK g hk).1
 omega
theorem Aside.quit {k : Nat} (h : Aside w F size v k xs) (ho : Only NoB w w') : Aside w' F size v k xs := h.step (ho.mono fun _ _ h => h.elim) (Grows.refl F w)
theorem Aside.shape {k : Nat} (h : Aside w F size v k xs) : ∃ A c, v = .slice A k c ∧ k ≤ c := by
 obtain ⟨K, ⟨A, c, hv, hc, _⟩, _⟩ := h
 exact ⟨A, c, hv, hc⟩
theorem DrAt.quit (h : DrAt w F X t M c) (ho : Only NoB w w') : DrAt w' F X t M c := ⟨h.kv.quit ho, h.dir, h.len, h.few⟩
end
end Go.Proofs.YtklfkocebhhgcaaGreat
namespace Go.Proofs.YtklfkocebhhgcaaGreat
structure Sh (p : Prop) : Prop where
 out : p
open Go.RowKit Go.Proofs Go.Shelf
set_option maxRecDepth 20000
attribute [local go_sem] Oper.semAt_some
section
variable {w w' : World} {F G : Nat → Prop} {X : XC} {t m np own c : Nat} {M : List KV} {n : Nat}
def spotA (s : Spot) : Value := .tuple #[.int .i64 (s.num : Nat), .agg s.ino.cells, .int .i64 (s.err : Nat)]
def PosF (M : List KV) (l : List Str) (n : Nat) (i : Ino) (e : Nat) : Prop := (e = 0 ∧ findF M l = ⟨n, i, 0⟩) ∨ (e ≠ 0 ∧ findF M l = Spot.bad e)
theorem posF_at {l : List Str} {n : Nat} (h : findF M l = atI M n) : PosF M l n (igetI M n).1 (igetI M n).2 := by
 by_cases e : (igetI M n).2 = 0
 ·exact .inl ⟨e, by rw [h, atI, if_pos e]⟩
 ·exact .inr ⟨e, by rw [h, atI, if_neg e]⟩
theorem findF_snoc (M : List KV) (l : List Str) (A : Str) : findF M (l ++ [A]) = stepF M (findF M l) A := by simp [findF]
theorem stepF_bad {s : Spot} (h : s.err ≠ 0) (A : Str) : stepF M s A = s := by rw [stepF, if_pos h]
theorem foldF_bad {s : Spot} (h : s.err ≠ 0) : ∀ l : List Str, l.foldl (stepF M) s = s
 | [] => rfl
 | A :: l => by rw [List.foldl_cons, stepF_bad h]; exact foldF_bad h l
theorem findF_bad {l : List Str} {k e : Nat} (h : findF M (l.take k) = Spot.bad e) (he : e ≠ 0) : findF M l = Spot.bad e := by
 have : findF M l = (l.drop k).foldl (stepF M) (findF M (l.take k)) := by
  rw [findF, findF, ← List.foldl_append, List.take_append_drop]
 rw [this, h, foldF_bad]
 exact he
def FindS (w : World) (F : Nat → Prop) (X : XC) (t m np own : Nat) (M : List KV) (c : Nat) (v : Value) (l : List Str) (K : Nat → Prop) (b8 k n e : Nat) (wr : World) : Prop :=
 ∃ F' i, KvAt wr F' X t m np own M c ∧ Only F w wr ∧ Grows F F' w ∧ Blk wr w.heap.size 74 Ino.zero.cells ∧ Blk wr b8 74 i.cells ∧ (¬ F' w.heap.size ∧ ¬ F' b8 ∧ w.heap.size < b8) ∧ Rd wr K 1 v l.length (l.map strV) ∧ PosF M (l.take k) n i e
set_option maxHeartbeats 4000000 in
theorem ffind_ok {v : Value} {l : List Str} (h : KvAt w F X t m np own M c) (hM : InoM M) (hv : Aside w F 1 v l.length (l.map strV)) (hl : l.length ≤ 100000) :
  Calls Tryz.prog 86 #[.pointer (some ⟨t, 0, none⟩), v] w (KvOut w F X t m np own (spotA (findF M l)) M c) := by
 obtain ⟨A, cp, rfl, _⟩ := hv.shape
 obtain ⟨K, hv, hK⟩ := hv
 obtain ⟨W0, hW0⟩ : ∃ W0, W0 = w.alloc (.cells #[.int .i64 0, .bool false, .int .i64 0, .int .i64 0, .string ⟨#[]⟩] 74) := ⟨_, rfl⟩
 have c0 : Blk W0 w.heap.size 74 #[.int .i64 0, .bool false, .int .i64 0, .int .i64 0, .string ⟨#[]⟩] := by rw [hW0]; exact Blk.new w _ _
 have ho0 : Only NoB w W0 := by rw [hW0]; exact (Only.refl NoB w).alloc _
 have HGET := Sh.mk fun (z : World) (F1 : Nat → Prop) (hk : KvAt z F1 X t m np own M c) (n : Nat) => iget_ok hk hM n
 have HG0 := Sh.mk (iget_ok (h.quit ho0) hM 1)
 have hnf : ¬ F w.heap.size := fun hf => by have := h.lt _ hf; omega
 have HV0 := Sh.mk (Rd.only hv ho0 fun _ _ => id)
 have HKK := Sh.mk hK
 have C0 := Sh.mk c0
 have HO0 := Sh.mk ho0
 have HNF := Sh.mk hnf
 have HW0 := Sh.mk hW0
 have hpos : PosF M (l.take 0) 1 (igetI M 1).1 (igetI M 1).2 := posF_at rfl
 obtain ⟨i0, hi0⟩ : ∃ i0, i0 = (igetI M 1).1 := ⟨_, rfl⟩
 obtain ⟨e0, he0⟩ : ∃ e0, e0 = (igetI M 1).2 := ⟨_, rfl⟩
 unfold inoA at HG0
 rw [← hi0, ← he0] at HG0 hpos
 have HPOS := Sh.mk hpos
 have HLB := Sh.mk hl
 clear hl h hv hK c0 ho0 hnf hW0 hi0 he0 hpos hM
 go_enter Tryz.func86, Tryz.ntmps86
 go_wp2_with fail
 rw [← HW0.out]
 refine HG0.out.mono ?_
 rintro e w1 ⟨rfl, F1, hk, ho, hg⟩
 unfold Ino.cells
 obtain ⟨W1, hW1⟩ : ∃ W1, W1 = w1.alloc (.cells #[.int .i64 i0.kind, .bool i0.ex, .int .i64 i0.links, .int .i64 i0.size, .string ⟨i0.data.toArray⟩] 74) := ⟨_, rfl⟩
 have ho1 : Only NoB w1 W1 := by rw [hW1]; exact (Only.refl NoB w1).alloc _
 have HST : Sh (FindS w F X t m np own M c (.slice A l.length cp) l K w1.heap.size 0 1 e0 W1) := Sh.mk
  ⟨F1, i0, hk.quit ho1, ((HO0.out.mono fun _ _ h => h.elim).trans ho).trans (ho1.mono fun _ _ h => h.elim), fun k hk => (hg k hk).imp id fun h => Nat.le_trans HO0.out.size h, (C0.out.only ho HNF.out).only ho1 id, by rw [hW1]; exact Blk.new _ _ _,
   ⟨hg.not HNF.out C0.out.lt, fun hf => by have := hk.lt _ hf; omega, Nat.lt_of_lt_of_le C0.out.lt ho.size⟩, Rd.only (Rd.only HV0.out ho fun g hg2 => (HKK.out g hg2).2) ho1 fun _ _ => id, HPOS.out⟩
 have HW1 := Sh.mk hW1
 obtain ⟨b8, hb8⟩ : ∃ b8, b8 = w1.heap.size := ⟨_, rfl⟩
 clear hk ho hg ho1 hW1
 go_wp2_with fail
 rw [← HW1.out]
 rw [← hb8] at HST ⊢
 clear hb8 HW1 HPOS HG0 HV0
 go_loopw [7, 9, 20] (fun n e i wr => ∃ (k nn ee : Nat), n = .int .i64 nn ∧ e = .int .i64 ee ∧ i = .int .i64 k ∧ k ≤ l.length ∧ Sh (FindS w F X t m np own M c (.slice A l.length cp) l K b8 k nn ee wr)) (fun _ _ i _ => l.length - (intOf i).toNat)
 case atStart => exact ⟨0, 1, e0, rfl, rfl, rfl, Nat.zero_le _, HST⟩
 case round =>
  as_aux_lemma =>
   clear HST
   obtain ⟨k, nn, ee, rfl, rfl, rfl, hk, HS⟩ := hrel
   obtain ⟨F2, i, h2, ho2, hg2, b5, b8b, ⟨nf5, nf8, hlt8⟩, hv2, hp2⟩ := HS.out
   have x0 : wr.cell? ⟨b8, 0, none⟩ = some (.int .i64 (i.kind : Nat)) := Blk.cell b8b 0
   obtain ⟨z0, z1, z2, z3, z4⟩ := Blk.five b5
   obtain ⟨y0, y1, y2, y3, y4⟩ := b5.free5
   have H2 := Sh.mk h2
   have HO2 := Sh.mk ho2
   have HG2 := Sh.mk hg2
   have B5 := Sh.mk b5
   have B8 := Sh.mk b8b
   have NF5 := Sh.mk nf5
   have NF8 := Sh.mk nf8
   have HL8 := Sh.mk hlt8
   have HV2 := Sh.mk hv2
   have HP2 := Sh.mk hp2
   obtain ⟨_, hs5⟩ := row5_set b5 (.int .i64 0) (.bool false) (.int .i64 0) (.int .i64 0) (.string ⟨#[]⟩)
   -- the answer that says no, and leaves all as it is
   have HNO : Sh (∀ e, e ≠ 0 → findF M l = Spot.bad e → KvOut w F X t m np own (spotA (findF M l)) M c (.returned (spotA (Spot.bad e))) (((((wr.setCell ⟨w.heap.size, 0, none⟩ (.int .i64 0)).setCell ⟨w.heap.size, 1, none⟩ (.bool false)).setCell ⟨w.heap.size, 2, none⟩ (.int .i64 0)).setCell ⟨w.heap.size, 3, none⟩ (.int .i64 0)).setCell ⟨w.heap.size, 4, none⟩ (.string ⟨#[]⟩))) := Sh.mk fun e he hf =>
    ⟨by rw [hf], F2, h2.cel hs5 nf5, ho2.trans' hs5 fun k hk (e : k = w.heap.size) => by omega, hg2⟩
   clear HS h2 ho2 hg2 b5 b8b nf5 nf8 hlt8 hv2 hp2 hs5
   by_cases hlt : k < l.length
   ·obtain ⟨g, off, c', hve, _, hgK, hcell⟩ := Rd.open_ HV2.out (by omega)
    injection hve with q1 q2 q3
    subst q1; subst q3
    have u1 := hcell k (strV l[k]) (by rw [List.getElem?_map, List.getElem?_eq_getElem hlt]; rfl)
    have htk : l.take (k + 1) = l.take k ++ [l[k]] := List.take_succ_eq_append_getElem hlt
    obtain ⟨nm, hnm⟩ : ∃ nm, nm = l[k] := ⟨_, rfl⟩
    rw [← hnm] at u1 htk
    unfold strV at u1
    have HTK := Sh.mk htk
    have hk1 : (k : Int) < (l.length : Int) := by omega
    have hk0 : (0 : Int) ≤ (k : Int) := by omega
    clear hgK hcell htk hnm q2
    by_cases he : ee = 0
    ·subst he
     have hp : findF M (l.take k) = ⟨nn, i, 0⟩ := HP2.out.elim (fun h => h.2) fun h => absurd rfl h.1
     have HP := Sh.mk hp
     clear hp HP2
     by_cases hkd : i.kind = 2
     ·have hkd2 : (i.kind : Int) = 2 := by omega
      have hst : findF M (l.take (k + 1)) = if (findI M nn nm).2 ≠ 0 then Spot.bad (findI M nn nm).2 else atI M (findI M nn nm).1 := by
       rw [HTK.out, findF_snoc, HP.out, stepF]
       show (if (0 : Nat) ≠ 0 then _ else if i.kind ≠ 2 then _ else _) = _
       rw [if_neg (by simp), if_neg (by simp [hkd])]
      have HF := find_ok (nn : Nat) nm H2.out
      obtain ⟨⟨ra, rb⟩, hrr⟩ : ∃ r : Nat × Nat, r = findI M nn nm := ⟨_, rfl⟩
      rw [← hrr] at HF hst
      unfold findA at HF
      simp only at hst HF
      have HF := Sh.mk HF
      have HST := Sh.mk hst
      clear hkd hrr hst z0 z1 z2 z3 z4 y0 y1 y2 y3 y4
      go_wp2_with fail
      refine HF.out.mono ?_
      rintro e w3 ⟨rfl, F3, h3, ho3, hg3⟩
      have b5 := B5.out.only ho3 NF5.out
      have b8c := B8.out.only ho3 NF8.out
      have nf5 := hg3.not NF5.out B5.out.lt
      have nf8 := hg3.not NF8.out B8.out.lt
      clear x0
      have ho23 : Only F w w3 := HO2.out.trans' ho3 fun k hk hf => (HG2.out k hf).elim id fun h => by omega
      have hg23 : Grows F F3 w := fun k hk => (hg3 k hk).elim (HG2.out k) fun h => .inr (Nat.le_trans HO2.out.size h)
      by_cases hb : rb = 0
      ·as_aux_lemma =>
        subst hb
        have hst2 : findF M (l.take (k + 1)) = atI M ra := by rw [HST.out, if_neg (by simp)]
        have hpos := posF_at hst2
        have HG4 := HGET.out w3 F3 h3 ra
        obtain ⟨i4, hi4⟩ : ∃ i4, i4 = (igetI M ra).1 := ⟨_, rfl⟩
        obtain ⟨e4, he4⟩ : ∃ e4, e4 = (igetI M ra).2 := ⟨_, rfl⟩
        unfold inoA at HG4
        rw [← hi4, ← he4] at HG4 hpos
        have HG4 := Sh.mk HG4
        have HPOS := Sh.mk hpos
        have B5 := Sh.mk b5
        have B8 := Sh.mk b8c
        have NF5 := Sh.mk nf5
        have NF8 := Sh.mk nf8
        have HO3 := Sh.mk ho23
        have HG3 := Sh.mk hg23
        have HV3 := Sh.mk (Rd.only HV2.out ho3 fun g hg => fun hf => (HG2.out g hf).elim (HKK.out g hg).2 fun h => by have := (HKK.out g hg).1; omega)
        clear h3 ho3 hg3 b5 b8c nf5 nf8 ho23 hg23 hst2 hi4 he4 hpos HNO
        go_wp2_with fail
        refine HG4.out.mono ?_
        rintro e w5 ⟨rfl, F5, h5, ho5, hg5⟩
        have b5 := B5.out.only ho5 NF5.out
        have b8c := B8.out.only ho5 NF8.out
        have nf5 := hg5.not NF5.out B5.out.lt
        have nf8 := hg5.not NF8.out B8.out.lt
        obtain ⟨x0, x1, x2, x3, x4⟩ := Blk.five b8c
        obtain ⟨y0, y1, y2, y3, y4⟩ := b8c.free5
        obtain ⟨hz8, hs8⟩ := row5_set b8c (.int .i64 i4.kind) (.bool i4.ex) (.int .i64 i4.links) (.int .i64 i4.size) (.string ⟨i4.data.toArray⟩)
        obtain ⟨W6, hW6⟩ : ∃ W6, W6 = ((((w5.setCell ⟨b8, 0, none⟩ (.int .i64 i4.kind)).setCell ⟨b8, 1, none⟩ (.bool i4.ex)).setCell ⟨b8, 2, none⟩ (.int .i64 i4.links)).setCell ⟨b8, 3, none⟩ (.int .i64 i4.size)).setCell ⟨b8, 4, none⟩ (.string ⟨i4.data.toArray⟩) := ⟨_, rfl⟩
        rw [← hW6] at hz8 hs8
        have ho35 : Only F w w5 := HO3.out.trans' ho5 fun k hk hf => (HG3.out k hf).elim id fun h => by omega
        have hL8 := HL8.out
        have HN : Sh (FindS w F X t m np own M c (.slice (some ⟨g, off, none⟩) l.length cp) l K b8 (k + 1) ra e4 W6) := Sh.mk
         ⟨F5, i4, h5.cel hs8 nf8, ho35.trans' hs8 fun k hk (e : k = b8) => by omega, fun k hk => (hg5 k hk).elim (HG3.out k) fun h => .inr (Nat.le_trans HO3.out.size h), b5.only hs8 fun (e : w.heap.size = b8) => by omega, hz8, ⟨nf5, nf8, hL8⟩, Rd.only (Rd.only HV3.out ho5 fun g hg => fun hf => (HG3.out g hf).elim (HKK.out g hg).2 fun h => by have := (HKK.out g hg).1; omega) hs8 fun g hg (e : g = b8) => by have := (HKK.out g hg).1; omega, HPOS.out⟩
        have HW6 := Sh.mk hW6
        clear h5 ho5 hg5 b5 b8c nf5 nf8 hz8 hs8 hW6 ho35 hL8
        unfold Ino.cells
        have hl := HLB.out
        go_wp2_with fail
        rw [← HW6.out]
        exact ⟨⟨k + 1, ra, e4, rfl, rfl, by go_num, by omega, HN⟩, by simp [intOf]; omega⟩
      ·as_aux_lemma =>
        have hb2 : ((rb : Int) == 0) = false := by simp; omega
        obtain ⟨z0, z1, z2, z3, z4⟩ := Blk.five b5
        obtain ⟨y0, y1, y2, y3, y4⟩ := b5.free5
        obtain ⟨_, hs5⟩ := row5_set b5 (.int .i64 0) (.bool false) (.int .i64 0) (.int .i64 0) (.string ⟨#[]⟩)
        have HNO3 : Sh (∀ e, e ≠ 0 → findF M l = Spot.bad e → KvOut w F X t m np own (spotA (findF M l)) M c (.returned (spotA (Spot.bad e))) (((((w3.setCell ⟨w.heap.size, 0, none⟩ (.int .i64 0)).setCell ⟨w.heap.size, 1, none⟩ (.bool false)).setCell ⟨w.heap.size, 2, none⟩ (.int .i64 0)).setCell ⟨w.heap.size, 3, none⟩ (.int .i64 0)).setCell ⟨w.heap.size, 4, none⟩ (.string ⟨#[]⟩))) := Sh.mk fun e he hf =>
         ⟨by rw [hf], F3, h3.cel hs5 nf5, ho23.trans' hs5 fun k hk (e : k = w.heap.size) => by omega, hg23⟩
        have B3 := Sh.mk b5
        have HB := Sh.mk hb
        have HFE := Sh.mk (findF_bad (l := l) (HST.out.trans (by rw [if_pos hb])) hb)
        clear h3 ho3 hg3 b5 b8c nf5 nf8 ho23 hg23 hs5 HNO hb
        go_wp2_with fail
        obtain ⟨hz9, _⟩ := row5_set B3.out (.int .i64 0) (.bool false) (.int .i64 0) (.int .i64 0) (.string ⟨#[]⟩)
        refine bodyPost_ret (results_tmp_row_tmp rfl _ _ w.heap.size 74 _ rfl hz9 (by kernel_rfl) (by kernel_rfl)) rfl ?_
        exact HNO3.out _ HB.out HFE.out
     ·as_aux_lemma =>
       have hkd2 : ((i.kind : Int) == 2) = false := by simp; omega
       have HFE := Sh.mk (findF_bad (l := l) (k := k + 1) (e := 150) (by
        rw [HTK.out, findF_snoc, HP.out, stepF]
        show (if (0 : Nat) ≠ 0 then _ else if i.kind ≠ 2 then _ else _) = _
        rw [if_neg (by simp), if_pos hkd]) (by omega))
       clear hkd
       go_wp2_with fail
       obtain ⟨hz9, _⟩ := row5_set B5.out (.int .i64 0) (.bool false) (.int .i64 0) (.int .i64 0) (.string ⟨#[]⟩)
       refine bodyPost_ret (results_tmp_row_tmp rfl _ _ w.heap.size 74 _ rfl hz9 (by kernel_rfl) (by kernel_rfl)) rfl ?_
       exact HNO.out 150 (by decide) HFE.out
    ·as_aux_lemma =>
      have he2 : ((ee : Int) == 0) = false := by simp; omega
      have hp : findF M (l.take k) = Spot.bad ee := HP2.out.elim (fun h => absurd h.1 he) fun h => h.2
      have HFE := Sh.mk (findF_bad (l := l) hp he)
      have HE := Sh.mk he
      clear hp he
      go_wp2_with fail
      obtain ⟨hz9, _⟩ := row5_set B5.out (.int .i64 0) (.bool false) (.int .i64 0) (.int .i64 0) (.string ⟨#[]⟩)
      refine bodyPost_ret (results_tmp_row_tmp rfl _ _ w.heap.size 74 _ rfl hz9 (by kernel_rfl) (by kernel_rfl)) rfl ?_
      exact HNO.out _ HE.out HFE.out
   ·obtain rfl : k = l.length := by omega
    have hp2 := HP2.out
    rw [List.take_length] at hp2
    by_cases he : ee = 0
    ·as_aux_lemma =>
      subst he
      have hp : findF M l = ⟨nn, i, 0⟩ := hp2.elim (fun h => h.2) fun h => absurd rfl h.1
      obtain ⟨_, hs17⟩ := row5_set B5.out (.int .i64 (i.kind : Nat)) (.bool i.ex) (.int .i64 (i.links : Nat)) (.int .i64 (i.size : Nat)) (.string ⟨i.data.toArray⟩)
      have HR17 : Sh (KvOut w F X t m np own (spotA (findF M l)) M c (.returned (spotA ⟨nn, i, 0⟩)) (((((wr.setCell ⟨w.heap.size, 0, none⟩ (.int .i64 (i.kind : Nat))).setCell ⟨w.heap.size, 1, none⟩ (.bool i.ex)).setCell ⟨w.heap.size, 2, none⟩ (.int .i64 (i.links : Nat))).setCell ⟨w.heap.size, 3, none⟩ (.int .i64 (i.size : Nat))).setCell ⟨w.heap.size, 4, none⟩ (.string ⟨i.data.toArray⟩)).drew) := Sh.mk
       ⟨by rw [hp], F2, (H2.out.cel hs17 NF5.out).quit (Only.refl NoB _).drew, (HO2.out.trans' hs17 fun k hk (e : k = w.heap.size) => by omega).trans ((Only.refl NoB _).drew.mono fun _ _ h => h.elim), HG2.out⟩
      have HS17 := Sh.mk hs17
      obtain ⟨x0, x1, x2, x3, x4⟩ := Blk.five B8.out
      clear hs17
      unfold Ino.zero at z0 z1 z2 z3 z4
      clear hp hp2 hlt HNO HP2
      go_upto_region 17 with fail
      refine hB _ 5 (fun w' => w'.cell? ⟨b8, 0, none⟩ = some (.int .i64 (i.kind : Nat)) ∧ w'.cell? ⟨b8, 1, none⟩ = some (.bool i.ex) ∧ w'.cell? ⟨b8, 2, none⟩ = some (.int .i64 (i.links : Nat)) ∧ w'.cell? ⟨b8, 3, none⟩ = some (.int .i64 (i.size : Nat)) ∧ w'.cell? ⟨b8, 4, none⟩ = some (.string ⟨i.data.toArray⟩)) (⟨x0, x1, x2, x3, x4⟩) (fun hHeld => ?_)
      refine hT 0 54 ?_
      refine hT 1 55 ?_
      refine hT 2 4 ?_
      refine hE 3 (fun o ho K hK => ?_)
      cases ho
      go_simp
      skip
      refine hK.out _ _ (Blk.five (Blk.only B8.out HS17.out fun (e : b8 = w.heap.size) => by have := HL8.out; omega).drew) (fun hHeld => ?_)
      clear hK K
      try simp only [Act.put, List.setIfInBounds_toArray, List.set_cons_zero, List.set_cons_succ]
      refine hT 4 6 ?_
      refine wpAnyH_done (by kernel_rfl) ?_ _
      refine NoPanic.normal ?_
      go_wp2_with fail
      obtain ⟨hz5, hs5⟩ := row5_set B5.out (.int .i64 (i.kind : Nat)) (.bool i.ex) (.int .i64 (i.links : Nat)) (.int .i64 (i.size : Nat)) (.string ⟨i.data.toArray⟩)
      refine bodyPost_ret (results_tmp_row_tmp rfl _ _ w.heap.size 74 _ rfl hz5.drew (by kernel_rfl) (by kernel_rfl)) rfl ?_
      exact HR17.out
    ·as_aux_lemma =>
      have he2 : ((ee : Int) == 0) = false := by simp; omega
      have HFE := Sh.mk (hp2.elim (fun h => absurd h.1 he) fun h => h.2 : findF M l = Spot.bad ee)
      have HE := Sh.mk he
      clear hp2 he hlt
      go_wp2_with fail
      obtain ⟨hz9, _⟩ := row5_set B5.out (.int .i64 0) (.bool false) (.int .i64 0) (.int .i64 0) (.string ⟨#[]⟩)
      refine bodyPost_ret (results_tmp_row_tmp rfl _ _ w.heap.size 74 _ rfl hz9 (by kernel_rfl) (by kernel_rfl)) rfl ?_
      exact HNO.out _ HE.out HFE.out
end
end Go.Proofs.YtklfkocebhhgcaaGreat
namespace Go.Proofs.YtklfkocebhhgcaaGreat
open Go.RowKit Go.Proofs Go.Shelf
set_option maxRecDepth 20000
attribute [local go_sem] Oper.semAt_some
structure FsM (M : List KV) (c : Nat) : Prop where
 ino : InoM M
 cnt : ∀ s, get [110] M = some s → s.length ≤ 5
 num : 1 ≤ cntM M ∧ cntM M ≤ c + 1
 len : M.length ≤ c
structure FsAt (w : World) (F : Nat → Prop) (X : XC) (t : Nat) (M : List KV) (c : Nat) : Prop where
 kv : KvAt w F X t 400 600 (ownOf 600 400) M c
 fs : FsM M c
 few : c ≤ 580
def FsOut (w : World) (F : Nat → Prop) (X : XC) (t : Nat) (v : Value) (M : List KV) (c : Nat) (e : Ending) (w' : World) : Prop :=
 e = .returned v ∧ ∃ F', FsAt w' F' X t M c ∧ Only F w w' ∧ Grows F F' w
structure FsSt (w : World) (F : Nat → Prop) (X : XC) (t : Nat) (M : List KV) (c : Nat) (wr : World) (F1 : Nat → Prop) : Prop where
 at_ : FsAt wr F1 X t M c
 on : Only F w wr
 gr : Grows F F1 w
structure Bx (w wr : World) (F1 : Nat → Prop) (b : Nat) (ty : TypeId) (cs : Array Value) : Prop where
 blk : Blk wr b ty cs
 out : ¬ F1 b
 low : w.heap.size ≤ b
section
variable {w wr w' : World} {F F1 F2 : Nat → Prop} {X : XC} {t c b : Nat} {M M' : List KV} {ty : TypeId} {cs : Array Value} {v : Value}
theorem FsAt.quit (h : FsAt w F X t M c) (ho : Only NoB w w') : FsAt w' F X t M c := ⟨h.kv.quit ho, h.fs, h.few⟩
theorem FsSt.start (h : FsAt w F X t M c) : FsSt w F X t M c w F := ⟨h, Only.refl _ _, Grows.refl _ _⟩
theorem FsSt.quit (h : FsSt w F X t M c wr F1) (ho : Only NoB wr w') : FsSt w F X t M c w' F1 := ⟨h.at_.quit ho, h.on.trans (ho.mono fun _ _ h => h.elim), h.gr⟩
theorem FsSt.step {c' : Nat} (h : FsSt w F X t M c wr F1) (h2 : FsAt w' F2 X t M' c') (ho : Only F1 wr w') (hg : Grows F1 F2 wr) : FsSt w F X t M' c' w' F2 :=
 ⟨h2, h.on.trans' ho fun k hk hf => (h.gr k hf).elim id fun h => by omega, fun k hk => (hg k hk).elim (h.gr k) fun h2 => .inr (Nat.le_trans h.on.size h2)⟩
theorem FsSt.cel (h : FsSt w F X t M c wr F1) (hb : Bx w wr F1 b ty cs) (ho : Only (fun k => k = b) wr w') : FsSt w F X t M c w' F1 :=
 ⟨⟨h.at_.kv.cel ho hb.out, h.at_.fs, h.at_.few⟩, h.on.trans' ho fun k hk (e : k = b) => by have := hb.low; omega, h.gr⟩
theorem FsSt.fin (h : FsSt w F X t M c wr F1) : ∃ F', FsAt wr F' X t M c ∧ Only F w wr ∧ Grows F F' w := ⟨F1, h.at_, h.on, h.gr⟩
theorem FsSt.kv {c' : Nat} {e : Ending} (h : FsSt w F X t M c wr F1) (hk : KvOut wr F1 X t 400 600 (ownOf 600 400) v M' c' e w') (hf : FsM M' c') (hc : c' ≤ 580) : e = .returned v ∧ ∃ F2, FsSt w F X t M' c' w' F2 ∧ Only F1 wr w' ∧ Grows F1 F2 wr := by
 obtain ⟨he, F2, h1, h2, h3⟩ := hk
 exact ⟨he, F2, h.step ⟨h1, hf, hc⟩ h2 h3, h2, h3⟩
theorem Bx.quit (h : Bx w wr F1 b ty cs) (ho : Only NoB wr w') : Bx w w' F1 b ty cs := ⟨h.blk.only ho id, h.out, h.low⟩
theorem Bx.step (h : Bx w wr F1 b ty cs) (ho : Only F1 wr w') (hg : Grows F1 F2 wr) : Bx w w' F2 b ty cs := ⟨h.blk.only ho h.out, hg.not h.out h.blk.lt, h.low⟩
theorem Bx.new (h : FsSt w F X t M c wr F1) (cs : Array Value) (ty : TypeId) : Bx w (wr.alloc (.cells cs ty)) F1 wr.heap.size ty cs := ⟨Blk.new _ _ _, fun hf => by have := h.at_.kv.lt _ hf; omega, h.on.size⟩
theorem Bx.far {b2 : Nat} (h : Bx w wr F1 b ty cs) (ho : Only (fun k => k = b2) wr w') (hne : b ≠ b2) : Bx w w' F1 b ty cs := ⟨h.blk.only ho hne, h.out, h.low⟩
theorem own600_400 : ownOf 600 400 + 1 ≤ 15 := by decide
theorem aside_own {e : TypeId} {size n : Nat} {xs : List Value} (h : FsAt wr F1 X t M c) (hw : Own w' (From wr.heap.size) e size v n xs) : Aside w' F1 size v n xs :=
 ⟨fun g => g < w'.heap.size ∧ ¬ F1 g, (hw.mono (G := fun g => g < w'.heap.size ∧ ¬ F1 g) fun g hg hl => ⟨hl, fun hf => by have := h.kv.lt _ hf; have hg : wr.heap.size ≤ g := hg; omega⟩).rd, fun g hg => hg⟩
theorem fs_find {l : List Str} (h : FsAt w F X t M c) (hv : Aside w F 1 v l.length (l.map strV)) (hl : l.length ≤ 100000) :
  Calls Tryz.prog 86 #[.pointer (some ⟨t, 0, none⟩), v] w (FsOut w F X t (spotA (findF M l)) M c) := by
 refine (ffind_ok h.kv h.fs.ino hv hl).mono ?_
 rintro e w1 ⟨rfl, F', h1, h4, h5⟩
 exact ⟨rfl, F', ⟨h1, h.fs, h.few⟩, h4, h5⟩
theorem fs_dfind (h : FsAt w F X t M c) (n : Int) (A : Str) :
  Calls Tryz.prog 14 #[.pointer (some ⟨t, 0, none⟩), .int .i64 n, .string ⟨A.toArray⟩] w (FsOut w F X t (findA (findI M n A)) M c) := by
 refine (find_ok n A h.kv).mono ?_
 rintro e w1 ⟨rfl, F', h1, h4, h5⟩
 exact ⟨rfl, F', ⟨h1, h.fs, h.few⟩, h4, h5⟩
theorem names_len {s : Str} (h : pathOk s = true) : (namesOf s).length ≤ 100000 := by
 unfold pathOk at h
 simp only [Bool.and_eq_true, decide_eq_true_iff] at h
 have := namesOf_len (s := s)
 omega
set_option maxHeartbeats 1000000 in
theorem fs_stat (h : FsAt w F X t M c) (path : Str) (hp : path.length ≤ 1000000) :
  Calls Tryz.prog 39 #[.pointer (some ⟨t, 0, none⟩), .string ⟨path.toArray⟩] w (FsOut w F X t (spotA (statF M path)) M c) := by
 obtain ⟨W0, hW0⟩ : ∃ W0, W0 = w.alloc (.cells #[.int .i64 0, .bool false, .int .i64 0, .int .i64 0, .string ⟨#[]⟩] 74) := ⟨_, rfl⟩
 have s0 : FsSt w F X t M c W0 F := by rw [hW0]; exact (FsSt.start h).quit ((Only.refl NoB w).alloc _)
 have b0 : Bx w W0 F w.heap.size 74 #[.int .i64 0, .bool false, .int .i64 0, .int .i64 0, .string ⟨#[]⟩] := by rw [hW0]; exact Bx.new (FsSt.start h) _ _
 have HP0 := path_ok path hp W0
 unfold PathAns at HP0
 have S0 := Sh.mk s0
 have B0 := Sh.mk b0
 have HW0 := Sh.mk hW0
 cases hpo : pathOk path with
 | true =>
  have hst : statF M path = findF M (namesOf path) := by rw [statF, if_pos hpo]
  have HNL := Sh.mk (names_len hpo)
  rw [hst]
  rw [hpo] at HP0
  have HP := Sh.mk HP0
  obtain ⟨sp, hsp⟩ : ∃ sp, sp = findF M (namesOf path) := ⟨_, rfl⟩
  rw [← hsp]
  have HSP := Sh.mk hsp
  clear h hp s0 b0 hW0 hst hpo HP0 hsp
  unfold spotA
  go_enter Tryz.func39, Tryz.ntmps39
  go_wp2_with fail
  rw [← HW0.out]
  refine HP.out.mono ?_
  rintro e w1 ⟨⟨_, v, rfl, hown⟩ | ⟨hno, _⟩, ho1⟩
  ·have HF0 := fs_find (S0.out.quit ho1).at_ (aside_own S0.out.at_ hown) HNL.out
   rw [← HSP.out] at HF0
   unfold spotA at HF0
   have HF := Sh.mk HF0
   obtain ⟨A, cp, rfl, _⟩ := hown.shape
   have S1 := Sh.mk (S0.out.quit ho1)
   have B1 := Sh.mk (B0.out.quit ho1)
   clear hown ho1 HF0
   go_wp2_with fail
   refine HF.out.mono ?_
   rintro e w2 ⟨rfl, F2, h2, ho2, hg2⟩
   have s2 := S1.out.step h2 ho2 hg2
   have b2 := B1.out.step ho2 hg2
   obtain ⟨z0, z1, z2, z3, z4⟩ := b2.blk.five
   obtain ⟨y0, y1, y2, y3, y4⟩ := b2.blk.free5
   have S2 := Sh.mk s2
   have B2 := Sh.mk b2
   clear h2 ho2 hg2 s2 b2
   unfold Ino.cells
   go_wp2_with fail
   obtain ⟨hbf, hst⟩ := row5_set B2.out.blk (.int .i64 (sp.ino.kind : Nat)) (.bool sp.ino.ex) (.int .i64 (sp.ino.links : Nat)) (.int .i64 (sp.ino.size : Nat)) (.string ⟨sp.ino.data.toArray⟩)
   refine bodyPost_ret (results_tmp_row_tmp rfl _ _ w.heap.size 74 _ rfl hbf (by kernel_rfl) (by kernel_rfl)) rfl ?_
   exact ⟨rfl, (S2.out.cel B2.out hst).fin⟩
  ·cases hno
 | false =>
  have hst : statF M path = Spot.bad 1 := by rw [statF, hpo]; rfl
  rw [hst]
  rw [hpo] at HP0
  have HP := Sh.mk HP0
  clear h hp s0 b0 hW0 hst hpo HP0
  go_enter Tryz.func39, Tryz.ntmps39
  go_wp2_with fail
  rw [← HW0.out]
  refine HP.out.mono ?_
  rintro e w1 ⟨⟨hno, _⟩ | ⟨_, rfl⟩, ho1⟩
  ·cases hno
  ·have b2 := B0.out.quit ho1
   have S2 := Sh.mk (S0.out.quit ho1)
   obtain ⟨z0, z1, z2, z3, z4⟩ := b2.blk.five
   obtain ⟨y0, y1, y2, y3, y4⟩ := b2.blk.free5
   have B2 := Sh.mk b2
   clear ho1 b2
   go_wp2_with fail
   obtain ⟨hbf, hst⟩ := row5_set B2.out.blk (.int .i64 0) (.bool false) (.int .i64 0) (.int .i64 0) (.string ⟨#[]⟩)
   refine bodyPost_ret (results_tmp_row_tmp rfl _ _ w.heap.size 74 _ rfl hbf (by kernel_rfl) (by kernel_rfl)) rfl ?_
   exact ⟨rfl, (S2.out.cel B2.out hst).fin⟩
end
end Go.Proofs.YtklfkocebhhgcaaGreat
namespace Go.Proofs.YtklfkocebhhgcaaGreat
open Go.RowKit Go.Proofs Go.Shelf
set_option maxRecDepth 20000
attribute [local go_sem] Oper.semAt_some
section
variable {w w' : World} {F G : Nat → Prop} {X : XC} {t m c n s : Nat}
theorem low_trans {w0 w1 w2 : World} {F F' : Nat → Prop} (h1 : Only NoB w0 w1) (hF : ∀ k, F k → w0.heap.size ≤ k) (h2 : Only F w1 w2) (hg : Grows F F' w1) : Only NoB w0 w2 ∧ ∀ k, F' k → w0.heap.size ≤ k :=
 ⟨h1.trans' h2 fun k hk hf => by have := hF k hf; omega, fun k hk => (hg k hk).elim (hF k) fun h => Nat.le_trans h1.size h⟩
end
end Go.Proofs.YtklfkocebhhgcaaGreat
namespace Go.Proofs.YtklfkocebhhgcaaGreat
open Go.RowKit Go.Proofs
set_option maxRecDepth 20000
structure OpS where
 a : Int
 b : Int
 c : Int
 s : Str
structure OpSIn (w : World) (g off : Nat) (o : OpS) : Prop where
 a : w.cell? ⟨g, off, none⟩ = some (.int .i64 o.a)
 b : w.cell? ⟨g, off + 1, none⟩ = some (.int .i64 o.b)
 c : w.cell? ⟨g, off + 2, none⟩ = some (.int .i64 o.c)
 s : w.cell? ⟨g, off + 3, none⟩ = some (.string ⟨o.s.toArray⟩)
def SOps (w : World) (F : Nat → Prop) (v : Value) (l : List OpS) : Prop :=
 ∃ A c, v = .slice A l.length c ∧ l.length ≤ c ∧ ∀ i (h : i < l.length), ∃ g off, A = some ⟨g, off, none⟩ ∧ F g ∧ OpSIn w g (off + i * 4) l[i]
theorem OpSIn.only {w w' : World} {G : Nat → Prop} {g off : Nat} {o : OpS} (h : OpSIn w g off o) (ho : Only G w w') (hd : ¬ G g) : OpSIn w' g off o :=
 ⟨ho.cell h.a hd, ho.cell h.b hd, ho.cell h.c hd, ho.cell h.s hd⟩
theorem SOps.only {w w' : World} {F G : Nat → Prop} {v : Value} {l : List OpS} (h : SOps w F v l) (ho : Only G w w') (hd : ∀ k, F k → ¬ G k) : SOps w' F v l := by
 obtain ⟨A, c, hv, hc, h⟩ := h
 refine ⟨A, c, hv, hc, fun i hi => ?_⟩
 obtain ⟨g, off, hA, hg, ho1⟩ := h i hi
 exact ⟨g, off, hA, hg, ho1.only ho (hd g hg)⟩
theorem SOps.open_ {w : World} {F : Nat → Prop} {v : Value} {l : List OpS} (h : SOps w F v l) {i : Nat} (hi : i < l.length) : ∃ g off c, v = .slice (some ⟨g, off, none⟩) l.length c ∧ l.length ≤ c ∧ F g ∧ OpSIn w g (off + i * 4) l[i] := by
 obtain ⟨A, c, hv, hc, h⟩ := h
 obtain ⟨g, off, hA, hg, ho⟩ := h i hi
 exact ⟨g, off, c, by rw [hv, hA], hc, hg, ho⟩
theorem SOps.shape {w : World} {F : Nat → Prop} {v : Value} {l : List OpS} (h : SOps w F v l) : ∃ A c, v = .slice A l.length c ∧ l.length ≤ c := by
 obtain ⟨A, c, hv, hc, _⟩ := h
 exact ⟨A, c, hv, hc⟩
end Go.Proofs.YtklfkocebhhgcaaGreat
namespace Go.Proofs.YtklfkocebhhgcaaGreat
open Go.RowKit Go.Proofs
set_option maxRecDepth 20000
def numOk (n : Int) : Prop := 1 ≤ n ∧ n ≤ 16777215
instance (n : Int) : Decidable (numOk n) := inferInstanceAs (Decidable (_ ∧ _))
section
variable {w w' : World}
end
end Go.Proofs.YtklfkocebhhgcaaGreat
namespace Go.Proofs.YtklfkocebhhgcaaGreat
open Go.RowKit Go.Proofs Go.Shelf
set_option maxRecDepth 20000
attribute [local go_sem] Oper.semAt_some
section
variable {w w' : World}
def Rn11Out (s : Str) (w : World) (e : Ending) (w' : World) : Prop := e = .returned (.bool (nameOk s)) ∧ w' = w
theorem hasZS_no {s : Str} (h : ∀ j (hj : j < s.length), s[j] ≠ 0 ∧ s[j] ≠ 47) : hasZS s = false := by
 cases hz : hasZS s with
 | false => rfl
 | true =>
  exfalso
  unfold hasZS at hz
  obtain ⟨b, hb, hb2⟩ := List.any_eq_true.1 hz
  obtain ⟨j, hj, rfl⟩ := List.getElem_of_mem hb
  have := h j hj
  simp only [Bool.or_eq_true, beq_iff_eq] at hb2
  exact hb2.elim this.1 this.2
theorem hasZS_at {s : Str} {j : Nat} (hj : j < s.length) (h : s[j] = 0 ∨ s[j] = 47) : hasZS s = true := by
 unfold hasZS
 refine List.any_eq_true.2 ⟨s[j], List.getElem_mem hj, ?_⟩
 simp only [Bool.or_eq_true, beq_iff_eq]
 exact h
set_option maxHeartbeats 2000000 in
theorem rname11_ok (s : Str) (hl : s.length ≤ 140737488351232) (w : World) : Calls Tryz.prog 130 #[.string ⟨s.toArray⟩] w (Rn11Out s w) := by
 obtain ⟨n, hn⟩ : ∃ n, n = s.length := ⟨_, rfl⟩
 have hn' : s.length = n := hn.symm
 have HN := Lib.hid hn'
 clear hn
 go_enter Tryz.func130, Tryz.ntmps130
 go_wp2_with fail
 go_loop [3] (fun i => ∃ k : Nat, k ≤ n ∧ i = .int .i64 k ∧ Hid (∀ j (hj : j < s.length), j < k → s[j] ≠ 0 ∧ s[j] ≠ 47)) (fun i => n - (intOf i).toNat)
 case atStart => exact ⟨0, Nat.zero_le _, rfl, Lib.hid fun _ _ h => absurd h (Nat.not_lt_zero _)⟩
 case round =>
  obtain ⟨k, hk, rfl, HI⟩ := hrel
  by_cases hlt : k < n
  ·have hks : k < s.length := by omega
   obtain ⟨b, hb⟩ : ∃ b, b = s[k] := ⟨_, rfl⟩
   have hx : ∀ h, ((⟨s.toArray⟩ : ByteArray)[k]'h) = b := byte_at (s := s) (i := k) (b := b) (by rw [List.getElem?_eq_getElem hks, hb])
   have HB := Lib.hid hb
   clear hb
   by_cases h0 : b = 0
   ·have hz : hasZS s = true := hasZS_at hks (.inl (by rw [← HB.out]; exact h0))
    have HR : Hid (Rn11Out s w (.returned (.bool false)) w) := Lib.hid ⟨by simp [nameOk, hz], rfl⟩
    subst h0
    clear hz
    go_wp2_with fail
    go_ret
    exact HR.out
   ·by_cases h47 : b = 47
    ·have hz : hasZS s = true := hasZS_at hks (.inr (by rw [← HB.out]; exact h47))
     have HR : Hid (Rn11Out s w (.returned (.bool false)) w) := Lib.hid ⟨by simp [nameOk, hz], rfl⟩
     subst h47
     clear hz
     go_wp2_with fail
     go_ret
     exact HR.out
    ·have e0 : ¬ (b.toNat : Int) = 0 := fun e => h0 (UInt8.toNat.inj (show b.toNat = 0 by omega))
     have e47 : ¬ (b.toNat : Int) = 47 := fun e => h47 (UInt8.toNat.inj (show b.toNat = 47 by omega))
     have q0 : ((b.toNat : Int) == 0) = false := beq_eq_false_iff_ne.2 e0
     have q47 : ((b.toNat : Int) == 47) = false := beq_eq_false_iff_ne.2 e47
     have HNX : Hid (∀ j (hj : j < s.length), j < k + 1 → s[j] ≠ 0 ∧ s[j] ≠ 47) := Lib.hid fun j hj hjk => by
      by_cases e : j = k
      ·subst e; rw [← HB.out]; exact ⟨h0, h47⟩
      ·exact HI.out j hj (by omega)
     go_wp2_with fail
     exact ⟨⟨k + 1, by omega, by go_num, HNX⟩, by simp [intOf]; omega⟩
  ·obtain rfl : k = n := by omega
   have hz : hasZS s = false := hasZS_no fun j hj => HI.out j hj (by have := HN.out; omega)
   have HR : Hid (nameOk s = (decide (1 ≤ (k : Int)) && decide ((k : Int) ≤ 64))) := Lib.hid (by
    rw [nameOk, hz, HN.out]
    rw [Bool.not_false, Bool.and_true]
    congr 1 <;> exact decide_eq_decide.2 (by omega))
   clear hz HI
   by_cases h1 : 1 ≤ (k : Int)
   ·by_cases h2 : (k : Int) ≤ 64
    ·go_wp2_with fail
     go_ret
     exact ⟨by rw [HR.out]; simp [h1, h2], rfl⟩
    ·go_wp2_with fail
     go_ret
     exact ⟨by rw [HR.out]; simp [h1, h2], rfl⟩
   ·go_wp2_with fail
    go_ret
    exact ⟨by rw [HR.out, decide_eq_false (show ¬ 1 ≤ (k : Int) by omega)]; rfl, rfl⟩
def Rn14Out (s : Str) (w : World) (e : Ending) (w' : World) : Prop := e = .returned (.bool (nameOk s && (!decide (s = [46]) && !decide (s = [46, 46])))) ∧ w' = w
theorem rname14_ok (s : Str) (hl : s.length ≤ 140737488351232) (w : World) : Calls Tryz.prog 65 #[.string ⟨s.toArray⟩] w (Rn14Out s w) := by
 have HN := rname11_ok s hl w
 unfold Rn11Out at HN
 unfold Rn14Out
 cases hb : nameOk s with
 | false =>
  rw [hb] at HN
  have HN := Lib.hid HN
  clear hb hl
  simp only [Bool.false_and]
  go_enter Tryz.func65, Tryz.ntmps65
  go_wp2_with fail
  refine HN.out.mono ?_
  rintro e w1 ⟨rfl, rfl⟩
  go_wp2_with fail
  go_ret
  exact ⟨rfl, rfl⟩
 | true =>
  rw [hb] at HN
  have HN := Lib.hid HN
  clear hl
  by_cases h1 : s = [46]
  ·subst h1
   clear hb
   go_enter Tryz.func65, Tryz.ntmps65
   go_wp2_with fail
   refine HN.out.mono ?_
   rintro e w1 ⟨rfl, rfl⟩
   go_wp2_with fail
   go_ret
   exact ⟨rfl, rfl⟩
  ·by_cases h2 : s = [46, 46]
   ·subst h2
    clear hb h1
    go_enter Tryz.func65, Tryz.ntmps65
    go_wp2_with fail
    refine HN.out.mono ?_
    rintro e w1 ⟨rfl, rfl⟩
    go_wp2_with fail
    go_ret
    exact ⟨rfl, rfl⟩
   ·have hv : (true && (!decide (s = [46]) && !decide (s = [46, 46]))) = true := by simp [h1, h2]
    rw [hv]
    have hq1 : (s == [46]) = false := by simpa using h1
    have hq2 : (s == [46, 46]) = false := by simpa using h2
    clear hb hv
    go_enter Tryz.func65, Tryz.ntmps65
    go_wp2_with fail
    refine HN.out.mono ?_
    rintro e w1 ⟨rfl, rfl⟩
    go_wp2_with fail
    go_ret
    exact ⟨rfl, rfl⟩
end
end Go.Proofs.YtklfkocebhhgcaaGreat
namespace Go.Proofs.YtklfkocebhhgcaaGreat
open Go.RowKit Go.Proofs Go.Shelf
set_option maxRecDepth 20000
attribute [local go_sem] Oper.semAt_some
def eD (x : KV) : Int := (foldN ((x.1.drop 1).take 3) : Nat)
def eN (x : KV) : Str := x.1.drop 4
def entL : List KV → List Value
 | [] => []
 | p :: ps => .int .i64 (eD p) :: strV (eN p) :: .int .i64 (numV p.2 : Nat) :: entL ps
theorem dirOk_parts (dir : Int) (name : Str) : dirOk dir name = (numIn dir 1 16777215 && (nameOk name && (!decide (name = [46]) && !decide (name = [46, 46])))) := by
 unfold dirOk entOk
 rw [Bool.and_assoc]
section
variable {w w' : World}
end
end Go.Proofs.YtklfkocebhhgcaaGreat
namespace Go.Proofs.YtklfkocebhhgcaaGreat
open Go.RowKit Go.Proofs Go.Shelf
set_option maxRecDepth 20000
attribute [local go_sem] Oper.semAt_some
structure RefD (w : World) (G : Nat → Prop) (x : Nat) (M : List KV) : Prop where
 lt : ∀ k, G k → k < w.heap.size
 in_ : G x
 cells : ∃ lv, Blk w x 29 #[lv] ∧ Own w (fun g => G g ∧ g ≠ x) 108 3 lv M.length (entL M)
section
variable {w w' : World} {F G : Nat → Prop} {x : Nat} {M : List KV}
theorem RefD.quit (h : RefD w G x M) (ho : Only NoB w w') : RefD w' G x M := by
 obtain ⟨lv, hb, hown⟩ := h.cells
 exact ⟨fun k hk => Nat.lt_of_lt_of_le (h.lt k hk) ho.size, h.in_, lv, hb.only ho id, hown.only ho fun _ _ => id⟩
end
end Go.Proofs.YtklfkocebhhgcaaGreat
namespace Go.Proofs.YtklfkocebhhgcaaGreat
open Go.RowKit Go.Proofs Go.Shelf
set_option maxRecDepth 20000
attribute [local go_sem] Oper.semAt_some
section
variable {w w' : World} {F G : Nat → Prop} {x : Nat} {M : List KV}
theorem rd_take {size n k c : Nat} {A : Option Addr} {xs : List Value} (h : Rd w F size (.slice A n c) n xs) (hk : k ≤ n) : Rd w F size (.slice A k c) k (xs.take (k * size)) := by
 obtain ⟨A', c', hv, hc, hl, hx⟩ := h
 injection hv with q1 _ q3
 subst q1; subst q3
 have hm : k * size ≤ n * size := Nat.mul_le_mul_right _ hk
 refine ⟨A, c, rfl, by omega, by rw [List.length_take]; omega, fun h0 => ?_⟩
 obtain ⟨a, h1, h2, h3⟩ := hx (by omega)
 refine ⟨a, h1, h2, fun j u hj => h3 j u ?_⟩
 have : j < k * size := by have := (List.getElem?_eq_some_iff.1 hj).1; rw [List.length_take] at this; omega
 rwa [List.getElem?_take_of_lt this] at hj
theorem RefD.put {w0 : World} {M' : List KV} {v : Value} (h : RefD w0 G x M) (ho : Only NoB w0 w) (hown : Own w (From w0.heap.size) 108 3 v M'.length (entL M')) :
  ∃ G', RefD (w.setCell ⟨x, 0, none⟩ v) G' x M' ∧ Only G w0 (w.setCell ⟨x, 0, none⟩ v) ∧ Grows G G' w0 := by
 obtain ⟨lv, hb, _⟩ := h.cells
 have hb2 := hb.only ho id
 have hx := h.lt x h.in_
 have hv : ∀ k, v.ownBlock = some k → k ≠ x := fun k hk => by
  have : w0.heap.size ≤ k := hown.2 k hk
  omega
 refine ⟨fun k => G k ∨ (w0.heap.size ≤ k ∧ k < w.heap.size), ⟨fun k hk => ?_, .inl h.in_, v, hb2.set_ 0 v, ?_⟩, (ho.mono fun _ _ h => h.elim).setCell (.inl h.in_) _, fun k hk => hk.imp id (·.1)⟩
 ·rw [World.size_setCell]
  rcases hk with hk | hk
  ·exact Nat.lt_of_lt_of_le (h.lt k hk) ho.size
  ·exact hk.2
 ·have h1 := hown.keep (w' := w.setCell ⟨x, 0, none⟩ v) fun k hk => Below.heap_setCell w _ _ k (hv k hk)
  refine h1.mono fun k hk hlt => ?_
  rw [World.size_setCell] at hlt
  have hk : w0.heap.size ≤ k := hk
  exact ⟨.inr ⟨hk, hlt⟩, by omega⟩
end
end Go.Proofs.YtklfkocebhhgcaaGreat
namespace Go.Proofs.YtklfkocebhhgcaaGreat
open Go.RowKit Go.Proofs Go.Shelf
set_option maxRecDepth 20000
attribute [local go_sem] Oper.semAt_some
section
variable {w wr w' : World} {F F1 F2 : Nat → Prop} {X : XC} {t c b : Nat} {M M' : List KV}
def placeA (p : Place) : Value := .tuple #[.agg #[.int .i64 (p.dir : Nat), .string ⟨p.name.toArray⟩], .int .i64 (p.err : Nat)]
theorem row2_set {o : Nat} {ty : TypeId} {z0 z1 : Value} (hB : Blk w o ty #[z0, z1]) (a b : Value) : Blk ((w.setCell ⟨o, 0, none⟩ a).setCell ⟨o, 1, none⟩ b) o ty #[a, b] ∧ Only (fun k => k = o) w ((w.setCell ⟨o, 0, none⟩ a).setCell ⟨o, 1, none⟩ b) :=
 ⟨(hB.set_ 0 a).set_ 1 b, ((Only.refl (fun k => k = o) w).setCell (p := ⟨o, 0, none⟩) (.inl rfl) a).setCell (p := ⟨o, 1, none⟩) (.inl rfl) b⟩
theorem Blk.two {o : Nat} {ty : TypeId} {a b : Value} (h : Blk w o ty #[a, b]) : (w.cell? ⟨o, 0, none⟩ = some a ∧ w.cell? ⟨o, 1, none⟩ = some b) ∧ w.frozen? ⟨o, 0, none⟩ = false ∧ w.frozen? ⟨o, 1, none⟩ = false := ⟨⟨h.cell 0, h.cell 1⟩, h.frozen 0, h.frozen 1⟩
theorem names_cut {path : Str} (hp : pathOk path = true ∧ path ≠ []) : ∃ (k : Nat) (l : List Str) (nm : Str), (namesOf path).length = k + 1 ∧ k ≤ 1000 ∧ l = (namesOf path).dropLast ∧ nm = lastOf (namesOf path) ∧ namesOf path = l ++ [nm] ∧ l.length = k := by
 have hne : namesOf path ≠ [] := fun h => hp.2 (namesOf_nil.1 h)
 have hl := List.length_pos_iff.2 hne
 have hpo := hp.1
 unfold pathOk at hpo
 simp only [Bool.and_eq_true, decide_eq_true_iff] at hpo
 have := namesOf_len (s := path)
 have hlast : lastOf (namesOf path) = (namesOf path).getLast hne := by
  unfold lastOf
  rw [List.getLastD_eq_getLast?, List.getLast?_eq_some_getLast hne]; rfl
 exact ⟨(namesOf path).length - 1, _, _, by omega, by omega, rfl, rfl, by rw [hlast, List.dropLast_concat_getLast], by simp⟩
set_option maxHeartbeats 4000000 in
theorem fs_place (h : FsAt w F X t M c) (path : Str) (hp : path.length ≤ 1000000) :
  Calls Tryz.prog 88 #[.pointer (some ⟨t, 0, none⟩), .string ⟨path.toArray⟩] w (FsOut w F X t (placeA (placeF M path)) M c) := by
 obtain ⟨W0, hW0⟩ : ∃ W0, W0 = w.alloc (.cells #[.int .i64 0, .string ⟨#[]⟩] 157) := ⟨_, rfl⟩
 have s0 : FsSt w F X t M c W0 F := by rw [hW0]; exact (FsSt.start h).quit ((Only.refl NoB w).alloc _)
 have b0 : Bx w W0 F w.heap.size 157 #[.int .i64 0, .string ⟨#[]⟩] := by rw [hW0]; exact Bx.new (FsSt.start h) _ _
 have HP0 := path_ok path hp W0
 unfold PathAns at HP0
 have S0 := Sh.mk s0
 have B0 := Sh.mk b0
 have HW0 := Sh.mk hW0
 by_cases hgood : pathOk path = true ∧ path ≠ []
 case neg =>
  have hst : placeF M path = Place.bad 1 := by rw [placeF, if_neg hgood]
  rw [hst]
  cases hpo : pathOk path with
  | false =>
   rw [hpo] at HP0
   have HP := Sh.mk HP0
   clear h hp s0 b0 hW0 hst hpo HP0 hgood
   go_enter Tryz.func88, Tryz.ntmps88
   go_wp2_with fail
   rw [← HW0.out]
   refine HP.out.mono ?_
   rintro e w1 ⟨⟨hno, _⟩ | ⟨_, rfl⟩, ho1⟩
   ·cases hno
   ·have b2 := B0.out.quit ho1
    have S2 := Sh.mk (S0.out.quit ho1)
    obtain ⟨⟨z0, z1⟩, y0, y1⟩ := b2.blk.two
    have B2 := Sh.mk b2
    clear ho1 b2
    go_wp2_with fail
    obtain ⟨hbf, hst⟩ := row2_set B2.out.blk (.int .i64 0) (.string ⟨#[]⟩)
    refine bodyPost_ret (results_row_tmp rfl _ _ w.heap.size 157 _ rfl hbf (by kernel_rfl) (by kernel_rfl)) rfl ?_
    exact ⟨rfl, (S2.out.cel B2.out hst).fin⟩
  | true =>
   have hz : namesOf path = [] := namesOf_nil.2 (Classical.byContradiction fun hne => hgood ⟨hpo, hne⟩)
   rw [hpo, hz] at HP0
   have HP := Sh.mk HP0
   clear h hp s0 b0 hW0 hst hpo HP0 hgood hz
   go_enter Tryz.func88, Tryz.ntmps88
   go_wp2_with fail
   rw [← HW0.out]
   refine HP.out.mono ?_
   rintro e w1 ⟨⟨_, v, rfl, hown⟩ | ⟨hno, _⟩, ho1⟩
   ·obtain ⟨A, cp, rfl, _⟩ := hown.shape
    have b2 := B0.out.quit ho1
    have S2 := Sh.mk (S0.out.quit ho1)
    obtain ⟨⟨z0, z1⟩, y0, y1⟩ := b2.blk.two
    have B2 := Sh.mk b2
    clear ho1 b2 hown
    go_wp2_with fail
    obtain ⟨hbf, hst⟩ := row2_set B2.out.blk (.int .i64 0) (.string ⟨#[]⟩)
    refine bodyPost_ret (results_row_tmp rfl _ _ w.heap.size 157 _ rfl hbf (by kernel_rfl) (by kernel_rfl)) rfl ?_
    exact ⟨rfl, (S2.out.cel B2.out hst).fin⟩
   ·cases hno
 obtain ⟨k, l, nm, hlen, hk1000, hl, hnm, hcat, hlk⟩ := names_cut hgood
 have hpo := hgood.1
 have HE2 : Sh (placeF M path = placeAt M (findF M l) nm) := Sh.mk (by rw [placeF, if_pos hgood, ← hl, ← hnm])
 rw [HE2.out]
 obtain ⟨sp, hsp⟩ : ∃ sp, sp = findF M l := ⟨_, rfl⟩
 rw [← hsp]
 rw [hpo, hlen, hcat] at HP0
 have HP := Sh.mk HP0
 have HSP := Sh.mk hsp
 have HLK := Sh.mk hlk
 have hw1 : IntKind.i64.wrap (k : Int) = (k : Int) := by rw [IntKind.wrap_i64]; omega
 have hw2 : wrap64 (k : Int) = (k : Int) := by unfold wrap64; omega
 have HK := Sh.mk hk1000
 clear h hp s0 b0 hW0 hpo HP0 hgood hsp hlk hl hnm hcat hlen hk1000
 by_cases he : sp.err = 0
 case neg =>
  have hq : placeAt M sp nm = Place.bad sp.err := by rw [placeAt, if_pos he]
  rw [hq]
  have he2 : ((sp.err : Int) == 0) = false := by simp; omega
  clear HE2 hq he
  unfold placeA
  go_enter Tryz.func88, Tryz.ntmps88
  go_wp2_with fail
  rw [← HW0.out]
  refine HP.out.mono ?_
  rintro e w1 ⟨⟨_, v, rfl, hown⟩ | ⟨hno, _⟩, ho1⟩
  case inr => cases hno
  have has := aside_own S0.out.at_ hown
  obtain ⟨A, cp, rfl, _⟩ := hown.shape
  obtain ⟨K, hr, hKK⟩ := has
  obtain ⟨g, off, c', hve, _, hgK, hcell⟩ := Rd.open_ hr (by omega)
  injection hve with q1 q2 q3
  subst q1; subst q3
  have u1 := hcell k (strV nm) (by rw [List.map_append, List.getElem?_append_right (by rw [List.length_map, HLK.out]; omega), List.length_map, HLK.out]; simp)
  unfold strV at u1
  have hrt := rd_take hr (k := k) (by omega)
  have e1 : ((l ++ [nm]).map strV).take (k * 1) = l.map strV := by rw [Nat.mul_one, List.map_append, List.take_append_of_le_length (by rw [List.length_map, HLK.out]; omega), List.take_of_length_le (by rw [List.length_map, HLK.out]; omega)]
  rw [e1] at hrt
  have has2 : Aside w1 F 1 (.slice (some ⟨g, off, none⟩) k cp) l.length (l.map strV) := ⟨K, by rw [HLK.out]; exact hrt, hKK⟩
  have HF0 := fs_find (S0.out.quit ho1).at_ has2 (by rw [HLK.out]; have := HK.out; omega)
  rw [← HSP.out] at HF0
  unfold spotA Ino.cells at HF0
  have HF := Sh.mk HF0
  have S1 := Sh.mk (S0.out.quit ho1)
  have B1 := Sh.mk (B0.out.quit ho1)
  have HGF := Sh.mk (hKK g hgK)
  have hk0 : (0 : Int) ≤ (k : Int) := by omega
  clear hown ho1 HF0 hr hKK hgK hcell hrt e1 has2 q2
  go_wp2_with fail
  refine HF.out.mono ?_
  rintro e w2 ⟨rfl, F2, h2, ho2, hg2⟩
  have s2 := S1.out.step h2 ho2 hg2
  have hq2 : Only NoB w2 (w2.alloc (.cells #[.int .i64 (sp.ino.kind : Nat), .bool sp.ino.ex, .int .i64 (sp.ino.links : Nat), .int .i64 (sp.ino.size : Nat), .string ⟨sp.ino.data.toArray⟩] 74)) := (Only.refl NoB w2).alloc _
  have b2 := (B1.out.step ho2 hg2).quit hq2
  have hN : (w2.alloc (.cells #[.int .i64 (sp.ino.kind : Nat), .bool sp.ino.ex, .int .i64 (sp.ino.links : Nat), .int .i64 (sp.ino.size : Nat), .string ⟨sp.ino.data.toArray⟩] 74)).cell? ⟨w2.heap.size, 0, none⟩ = some (.int .i64 (sp.ino.kind : Nat)) := (Blk.new w2 74 #[.int .i64 (sp.ino.kind : Nat), .bool sp.ino.ex, .int .i64 (sp.ino.links : Nat), .int .i64 (sp.ino.size : Nat), .string ⟨sp.ino.data.toArray⟩]).cell 0
  have S2 := Sh.mk (s2.quit hq2)
  have B2 := Sh.mk b2
  clear h2 ho2 hg2 s2 b2 hq2 u1
  obtain ⟨⟨z0, z1⟩, y0, y1⟩ := B2.out.blk.two
  go_wp2_with fail
  obtain ⟨hbf, hst⟩ := row2_set B2.out.blk (.int .i64 0) (.string ⟨#[]⟩)
  refine bodyPost_ret (results_row_tmp rfl _ _ w.heap.size 157 _ rfl hbf (by kernel_rfl) (by kernel_rfl)) rfl ?_
  exact ⟨rfl, (S2.out.cel B2.out hst).fin⟩
 by_cases hkd : sp.ino.kind = 2
 case neg =>
  have hq : placeAt M sp nm = Place.bad 150 := by rw [placeAt, if_neg (by simp [he]), if_pos hkd]
  rw [hq]
  have hkd2 : ((sp.ino.kind : Int) == 2) = false := by simp; omega
  have he2 : (sp.err : Int) = 0 := by omega
  clear HE2 hq he hkd
  unfold placeA
  go_enter Tryz.func88, Tryz.ntmps88
  go_wp2_with fail
  rw [← HW0.out]
  refine HP.out.mono ?_
  rintro e w1 ⟨⟨_, v, rfl, hown⟩ | ⟨hno, _⟩, ho1⟩
  case inr => cases hno
  have has := aside_own S0.out.at_ hown
  obtain ⟨A, cp, rfl, _⟩ := hown.shape
  obtain ⟨K, hr, hKK⟩ := has
  obtain ⟨g, off, c', hve, _, hgK, hcell⟩ := Rd.open_ hr (by omega)
  injection hve with q1 q2 q3
  subst q1; subst q3
  have u1 := hcell k (strV nm) (by rw [List.map_append, List.getElem?_append_right (by rw [List.length_map, HLK.out]; omega), List.length_map, HLK.out]; simp)
  unfold strV at u1
  have hrt := rd_take hr (k := k) (by omega)
  have e1 : ((l ++ [nm]).map strV).take (k * 1) = l.map strV := by rw [Nat.mul_one, List.map_append, List.take_append_of_le_length (by rw [List.length_map, HLK.out]; omega), List.take_of_length_le (by rw [List.length_map, HLK.out]; omega)]
  rw [e1] at hrt
  have has2 : Aside w1 F 1 (.slice (some ⟨g, off, none⟩) k cp) l.length (l.map strV) := ⟨K, by rw [HLK.out]; exact hrt, hKK⟩
  have HF0 := fs_find (S0.out.quit ho1).at_ has2 (by rw [HLK.out]; have := HK.out; omega)
  rw [← HSP.out] at HF0
  unfold spotA Ino.cells at HF0
  have HF := Sh.mk HF0
  have S1 := Sh.mk (S0.out.quit ho1)
  have B1 := Sh.mk (B0.out.quit ho1)
  have HGF := Sh.mk (hKK g hgK)
  have hk0 : (0 : Int) ≤ (k : Int) := by omega
  clear hown ho1 HF0 hr hKK hgK hcell hrt e1 has2 q2
  go_wp2_with fail
  refine HF.out.mono ?_
  rintro e w2 ⟨rfl, F2, h2, ho2, hg2⟩
  have s2 := S1.out.step h2 ho2 hg2
  have hq2 : Only NoB w2 (w2.alloc (.cells #[.int .i64 (sp.ino.kind : Nat), .bool sp.ino.ex, .int .i64 (sp.ino.links : Nat), .int .i64 (sp.ino.size : Nat), .string ⟨sp.ino.data.toArray⟩] 74)) := (Only.refl NoB w2).alloc _
  have b2 := (B1.out.step ho2 hg2).quit hq2
  have hN : (w2.alloc (.cells #[.int .i64 (sp.ino.kind : Nat), .bool sp.ino.ex, .int .i64 (sp.ino.links : Nat), .int .i64 (sp.ino.size : Nat), .string ⟨sp.ino.data.toArray⟩] 74)).cell? ⟨w2.heap.size, 0, none⟩ = some (.int .i64 (sp.ino.kind : Nat)) := (Blk.new w2 74 #[.int .i64 (sp.ino.kind : Nat), .bool sp.ino.ex, .int .i64 (sp.ino.links : Nat), .int .i64 (sp.ino.size : Nat), .string ⟨sp.ino.data.toArray⟩]).cell 0
  have S2 := Sh.mk (s2.quit hq2)
  have B2 := Sh.mk b2
  rw [he2]
  clear h2 ho2 hg2 s2 b2 hq2 u1
  obtain ⟨⟨z0, z1⟩, y0, y1⟩ := B2.out.blk.two
  go_wp2_with fail
  obtain ⟨hbf, hst⟩ := row2_set B2.out.blk (.int .i64 0) (.string ⟨#[]⟩)
  refine bodyPost_ret (results_row_tmp rfl _ _ w.heap.size 157 _ rfl hbf (by kernel_rfl) (by kernel_rfl)) rfl ?_
  exact ⟨rfl, (S2.out.cel B2.out hst).fin⟩
 obtain ⟨⟨ra, rb⟩, hrr⟩ : ∃ r : Nat × Nat, r = findI M sp.num nm := ⟨_, rfl⟩
 by_cases hb5 : rb = 5
 case pos =>
  subst hb5
  have hq : placeAt M sp nm = ⟨sp.num, nm, 0⟩ := by rw [placeAt, if_neg (by simp [he]), if_neg (by simp [hkd]), ← hrr, if_pos rfl]
  rw [hq]
  have hkd2 : (sp.ino.kind : Int) = 2 := by omega
  have he2 : (sp.err : Int) = 0 := by omega
  have HRR := Sh.mk hrr
  clear HE2 hq he hkd hrr
  unfold placeA
  go_enter Tryz.func88, Tryz.ntmps88
  go_wp2_with fail
  rw [← HW0.out]
  refine HP.out.mono ?_
  rintro e w1 ⟨⟨_, v, rfl, hown⟩ | ⟨hno, _⟩, ho1⟩
  case inr => cases hno
  have has := aside_own S0.out.at_ hown
  obtain ⟨A, cp, rfl, _⟩ := hown.shape
  obtain ⟨K, hr, hKK⟩ := has
  obtain ⟨g, off, c', hve, _, hgK, hcell⟩ := Rd.open_ hr (by omega)
  injection hve with q1 q2 q3
  subst q1; subst q3
  have u1 := hcell k (strV nm) (by rw [List.map_append, List.getElem?_append_right (by rw [List.length_map, HLK.out]; omega), List.length_map, HLK.out]; simp)
  unfold strV at u1
  have hrt := rd_take hr (k := k) (by omega)
  have e1 : ((l ++ [nm]).map strV).take (k * 1) = l.map strV := by rw [Nat.mul_one, List.map_append, List.take_append_of_le_length (by rw [List.length_map, HLK.out]; omega), List.take_of_length_le (by rw [List.length_map, HLK.out]; omega)]
  rw [e1] at hrt
  have has2 : Aside w1 F 1 (.slice (some ⟨g, off, none⟩) k cp) l.length (l.map strV) := ⟨K, by rw [HLK.out]; exact hrt, hKK⟩
  have HF0 := fs_find (S0.out.quit ho1).at_ has2 (by rw [HLK.out]; have := HK.out; omega)
  rw [← HSP.out] at HF0
  unfold spotA Ino.cells at HF0
  have HF := Sh.mk HF0
  have S1 := Sh.mk (S0.out.quit ho1)
  have B1 := Sh.mk (B0.out.quit ho1)
  have HGF := Sh.mk (hKK g hgK)
  have hk0 : (0 : Int) ≤ (k : Int) := by omega
  clear hown ho1 HF0 hr hKK hgK hcell hrt e1 has2 q2
  go_wp2_with fail
  refine HF.out.mono ?_
  rintro e w2 ⟨rfl, F2, h2, ho2, hg2⟩
  have s2 := S1.out.step h2 ho2 hg2
  have hq2 : Only NoB w2 (w2.alloc (.cells #[.int .i64 (sp.ino.kind : Nat), .bool sp.ino.ex, .int .i64 (sp.ino.links : Nat), .int .i64 (sp.ino.size : Nat), .string ⟨sp.ino.data.toArray⟩] 74)) := (Only.refl NoB w2).alloc _
  have b2 := (B1.out.step ho2 hg2).quit hq2
  have hN : (w2.alloc (.cells #[.int .i64 (sp.ino.kind : Nat), .bool sp.ino.ex, .int .i64 (sp.ino.links : Nat), .int .i64 (sp.ino.size : Nat), .string ⟨sp.ino.data.toArray⟩] 74)).cell? ⟨w2.heap.size, 0, none⟩ = some (.int .i64 (sp.ino.kind : Nat)) := (Blk.new w2 74 #[.int .i64 (sp.ino.kind : Nat), .bool sp.ino.ex, .int .i64 (sp.ino.links : Nat), .int .i64 (sp.ino.size : Nat), .string ⟨sp.ino.data.toArray⟩]).cell 0
  have S2 := Sh.mk (s2.quit hq2)
  have B2 := Sh.mk b2
  have HD0 := fs_dfind S2.out.at_ (sp.num : Nat) nm
  rw [← HRR.out] at HD0
  unfold findA at HD0
  have HD := Sh.mk HD0
  rw [he2]
  rw [hkd2] at hN HD S2 B2
  rw [hkd2]
  clear h2 ho2 hg2 s2 b2 hq2 u1 HD0
  go_wp2_with fail
  refine HD.out.mono ?_
  rintro e w4 ⟨rfl, F4, h4, ho4, hg4⟩
  have s4 := S2.out.step h4 ho4 hg4
  have b4 := B2.out.step ho4 hg4
  have S4 := Sh.mk s4
  have B4 := Sh.mk b4
  clear h4 ho4 hg4 s4 b4 hN
  obtain ⟨⟨z0, z1⟩, y0, y1⟩ := B4.out.blk.two
  go_wp2_with fail
  obtain ⟨hbf, hst⟩ := row2_set B4.out.blk (.int .i64 (sp.num : Nat)) (.string ⟨nm.toArray⟩)
  refine bodyPost_ret (results_row_tmp rfl _ _ w.heap.size 157 _ rfl hbf (by kernel_rfl) (by kernel_rfl)) rfl ?_
  exact ⟨rfl, (S4.out.cel B4.out hst).fin⟩
 by_cases hb0 : rb = 0
 case pos =>
  subst hb0
  have hq : placeAt M sp nm = Place.bad 151 := by rw [placeAt, if_neg (by simp [he]), if_neg (by simp [hkd]), ← hrr, if_neg hb5, if_pos rfl]
  rw [hq]
  have hkd2 : (sp.ino.kind : Int) = 2 := by omega
  have he2 : (sp.err : Int) = 0 := by omega
  have HRR := Sh.mk hrr
  clear HE2 hq he hkd hrr
  unfold placeA
  go_enter Tryz.func88, Tryz.ntmps88
  go_wp2_with fail
  rw [← HW0.out]
  refine HP.out.mono ?_
  rintro e w1 ⟨⟨_, v, rfl, hown⟩ | ⟨hno, _⟩, ho1⟩
  case inr => cases hno
  have has := aside_own S0.out.at_ hown
  obtain ⟨A, cp, rfl, _⟩ := hown.shape
  obtain ⟨K, hr, hKK⟩ := has
  obtain ⟨g, off, c', hve, _, hgK, hcell⟩ := Rd.open_ hr (by omega)
  injection hve with q1 q2 q3
  subst q1; subst q3
  have u1 := hcell k (strV nm) (by rw [List.map_append, List.getElem?_append_right (by rw [List.length_map, HLK.out]; omega), List.length_map, HLK.out]; simp)
  unfold strV at u1
  have hrt := rd_take hr (k := k) (by omega)
  have e1 : ((l ++ [nm]).map strV).take (k * 1) = l.map strV := by rw [Nat.mul_one, List.map_append, List.take_append_of_le_length (by rw [List.length_map, HLK.out]; omega), List.take_of_length_le (by rw [List.length_map, HLK.out]; omega)]
  rw [e1] at hrt
  have has2 : Aside w1 F 1 (.slice (some ⟨g, off, none⟩) k cp) l.length (l.map strV) := ⟨K, by rw [HLK.out]; exact hrt, hKK⟩
  have HF0 := fs_find (S0.out.quit ho1).at_ has2 (by rw [HLK.out]; have := HK.out; omega)
  rw [← HSP.out] at HF0
  unfold spotA Ino.cells at HF0
  have HF := Sh.mk HF0
  have S1 := Sh.mk (S0.out.quit ho1)
  have B1 := Sh.mk (B0.out.quit ho1)
  have HGF := Sh.mk (hKK g hgK)
  have hk0 : (0 : Int) ≤ (k : Int) := by omega
  clear hown ho1 HF0 hr hKK hgK hcell hrt e1 has2 q2
  go_wp2_with fail
  refine HF.out.mono ?_
  rintro e w2 ⟨rfl, F2, h2, ho2, hg2⟩
  have s2 := S1.out.step h2 ho2 hg2
  have hq2 : Only NoB w2 (w2.alloc (.cells #[.int .i64 (sp.ino.kind : Nat), .bool sp.ino.ex, .int .i64 (sp.ino.links : Nat), .int .i64 (sp.ino.size : Nat), .string ⟨sp.ino.data.toArray⟩] 74)) := (Only.refl NoB w2).alloc _
  have b2 := (B1.out.step ho2 hg2).quit hq2
  have hN : (w2.alloc (.cells #[.int .i64 (sp.ino.kind : Nat), .bool sp.ino.ex, .int .i64 (sp.ino.links : Nat), .int .i64 (sp.ino.size : Nat), .string ⟨sp.ino.data.toArray⟩] 74)).cell? ⟨w2.heap.size, 0, none⟩ = some (.int .i64 (sp.ino.kind : Nat)) := (Blk.new w2 74 #[.int .i64 (sp.ino.kind : Nat), .bool sp.ino.ex, .int .i64 (sp.ino.links : Nat), .int .i64 (sp.ino.size : Nat), .string ⟨sp.ino.data.toArray⟩]).cell 0
  have S2 := Sh.mk (s2.quit hq2)
  have B2 := Sh.mk b2
  have HD0 := fs_dfind S2.out.at_ (sp.num : Nat) nm
  rw [← HRR.out] at HD0
  unfold findA at HD0
  have HD := Sh.mk HD0
  rw [he2]
  rw [hkd2] at hN HD S2 B2
  rw [hkd2]
  clear h2 ho2 hg2 s2 b2 hq2 u1 HD0
  go_wp2_with fail
  refine HD.out.mono ?_
  rintro e w4 ⟨rfl, F4, h4, ho4, hg4⟩
  have s4 := S2.out.step h4 ho4 hg4
  have b4 := B2.out.step ho4 hg4
  have S4 := Sh.mk s4
  have B4 := Sh.mk b4
  clear h4 ho4 hg4 s4 b4 hN
  obtain ⟨⟨z0, z1⟩, y0, y1⟩ := B4.out.blk.two
  go_wp2_with fail
  obtain ⟨hbf, hst⟩ := row2_set B4.out.blk (.int .i64 0) (.string ⟨#[]⟩)
  refine bodyPost_ret (results_row_tmp rfl _ _ w.heap.size 157 _ rfl hbf (by kernel_rfl) (by kernel_rfl)) rfl ?_
  exact ⟨rfl, (S4.out.cel B4.out hst).fin⟩
 case neg =>
  have hr5 : ((rb : Int) == 5) = false := by simp; omega
  have hr0 : ((rb : Int) == 0) = false := by simp; omega
  have hq : placeAt M sp nm = Place.bad rb := by rw [placeAt, if_neg (by simp [he]), if_neg (by simp [hkd]), ← hrr, if_neg hb5, if_neg hb0]
  rw [hq]
  have hkd2 : (sp.ino.kind : Int) = 2 := by omega
  have he2 : (sp.err : Int) = 0 := by omega
  have HRR := Sh.mk hrr
  clear HE2 hq he hkd hrr hb5 hb0
  unfold placeA
  go_enter Tryz.func88, Tryz.ntmps88
  go_wp2_with fail
  rw [← HW0.out]
  refine HP.out.mono ?_
  rintro e w1 ⟨⟨_, v, rfl, hown⟩ | ⟨hno, _⟩, ho1⟩
  case inr => cases hno
  have has := aside_own S0.out.at_ hown
  obtain ⟨A, cp, rfl, _⟩ := hown.shape
  obtain ⟨K, hr, hKK⟩ := has
  obtain ⟨g, off, c', hve, _, hgK, hcell⟩ := Rd.open_ hr (by omega)
  injection hve with q1 q2 q3
  subst q1; subst q3
  have u1 := hcell k (strV nm) (by rw [List.map_append, List.getElem?_append_right (by rw [List.length_map, HLK.out]; omega), List.length_map, HLK.out]; simp)
  unfold strV at u1
  have hrt := rd_take hr (k := k) (by omega)
  have e1 : ((l ++ [nm]).map strV).take (k * 1) = l.map strV := by rw [Nat.mul_one, List.map_append, List.take_append_of_le_length (by rw [List.length_map, HLK.out]; omega), List.take_of_length_le (by rw [List.length_map, HLK.out]; omega)]
  rw [e1] at hrt
  have has2 : Aside w1 F 1 (.slice (some ⟨g, off, none⟩) k cp) l.length (l.map strV) := ⟨K, by rw [HLK.out]; exact hrt, hKK⟩
  have HF0 := fs_find (S0.out.quit ho1).at_ has2 (by rw [HLK.out]; have := HK.out; omega)
  rw [← HSP.out] at HF0
  unfold spotA Ino.cells at HF0
  have HF := Sh.mk HF0
  have S1 := Sh.mk (S0.out.quit ho1)
  have B1 := Sh.mk (B0.out.quit ho1)
  have HGF := Sh.mk (hKK g hgK)
  have hk0 : (0 : Int) ≤ (k : Int) := by omega
  clear hown ho1 HF0 hr hKK hgK hcell hrt e1 has2 q2
  go_wp2_with fail
  refine HF.out.mono ?_
  rintro e w2 ⟨rfl, F2, h2, ho2, hg2⟩
  have s2 := S1.out.step h2 ho2 hg2
  have hq2 : Only NoB w2 (w2.alloc (.cells #[.int .i64 (sp.ino.kind : Nat), .bool sp.ino.ex, .int .i64 (sp.ino.links : Nat), .int .i64 (sp.ino.size : Nat), .string ⟨sp.ino.data.toArray⟩] 74)) := (Only.refl NoB w2).alloc _
  have b2 := (B1.out.step ho2 hg2).quit hq2
  have hN : (w2.alloc (.cells #[.int .i64 (sp.ino.kind : Nat), .bool sp.ino.ex, .int .i64 (sp.ino.links : Nat), .int .i64 (sp.ino.size : Nat), .string ⟨sp.ino.data.toArray⟩] 74)).cell? ⟨w2.heap.size, 0, none⟩ = some (.int .i64 (sp.ino.kind : Nat)) := (Blk.new w2 74 #[.int .i64 (sp.ino.kind : Nat), .bool sp.ino.ex, .int .i64 (sp.ino.links : Nat), .int .i64 (sp.ino.size : Nat), .string ⟨sp.ino.data.toArray⟩]).cell 0
  have S2 := Sh.mk (s2.quit hq2)
  have B2 := Sh.mk b2
  have HD0 := fs_dfind S2.out.at_ (sp.num : Nat) nm
  rw [← HRR.out] at HD0
  unfold findA at HD0
  have HD := Sh.mk HD0
  rw [he2]
  rw [hkd2] at hN HD S2 B2
  rw [hkd2]
  clear h2 ho2 hg2 s2 b2 hq2 u1 HD0
  go_wp2_with fail
  refine HD.out.mono ?_
  rintro e w4 ⟨rfl, F4, h4, ho4, hg4⟩
  have s4 := S2.out.step h4 ho4 hg4
  have b4 := B2.out.step ho4 hg4
  have S4 := Sh.mk s4
  have B4 := Sh.mk b4
  clear h4 ho4 hg4 s4 b4 hN
  obtain ⟨⟨z0, z1⟩, y0, y1⟩ := B4.out.blk.two
  go_wp2_with fail
  obtain ⟨hbf, hst⟩ := row2_set B4.out.blk (.int .i64 0) (.string ⟨#[]⟩)
  refine bodyPost_ret (results_row_tmp rfl _ _ w.heap.size 157 _ rfl hbf (by kernel_rfl) (by kernel_rfl)) rfl ?_
  exact ⟨rfl, (S4.out.cel B4.out hst).fin⟩
set_option maxHeartbeats 4000000 in
theorem fs_above (h : FsAt w F X t M c) (path : Str) (hp : path.length ≤ 1000000) :
  Calls Tryz.prog 89 #[.pointer (some ⟨t, 0, none⟩), .string ⟨path.toArray⟩] w (FsOut w F X t (placeA (aboveF M path)) M c) := by
 obtain ⟨W0, hW0⟩ : ∃ W0, W0 = w.alloc (.cells #[.int .i64 0, .string ⟨#[]⟩] 157) := ⟨_, rfl⟩
 have s0 : FsSt w F X t M c W0 F := by rw [hW0]; exact (FsSt.start h).quit ((Only.refl NoB w).alloc _)
 have b0 : Bx w W0 F w.heap.size 157 #[.int .i64 0, .string ⟨#[]⟩] := by rw [hW0]; exact Bx.new (FsSt.start h) _ _
 have HP0 := path_ok path hp W0
 unfold PathAns at HP0
 have S0 := Sh.mk s0
 have B0 := Sh.mk b0
 have HW0 := Sh.mk hW0
 by_cases hgood : pathOk path = true ∧ path ≠ []
 case neg =>
  have hst : aboveF M path = Place.bad 1 := by rw [aboveF, if_neg hgood]
  rw [hst]
  cases hpo : pathOk path with
  | false =>
   rw [hpo] at HP0
   have HP := Sh.mk HP0
   clear h hp s0 b0 hW0 hst hpo HP0 hgood
   go_enter Tryz.func89, Tryz.ntmps89
   go_wp2_with fail
   rw [← HW0.out]
   refine HP.out.mono ?_
   rintro e w1 ⟨⟨hno, _⟩ | ⟨_, rfl⟩, ho1⟩
   ·cases hno
   ·have b2 := B0.out.quit ho1
    have S2 := Sh.mk (S0.out.quit ho1)
    obtain ⟨⟨z0, z1⟩, y0, y1⟩ := b2.blk.two
    have B2 := Sh.mk b2
    clear ho1 b2
    go_wp2_with fail
    obtain ⟨hbf, hst⟩ := row2_set B2.out.blk (.int .i64 0) (.string ⟨#[]⟩)
    refine bodyPost_ret (results_row_tmp rfl _ _ w.heap.size 157 _ rfl hbf (by kernel_rfl) (by kernel_rfl)) rfl ?_
    exact ⟨rfl, (S2.out.cel B2.out hst).fin⟩
  | true =>
   have hz : namesOf path = [] := namesOf_nil.2 (Classical.byContradiction fun hne => hgood ⟨hpo, hne⟩)
   rw [hpo, hz] at HP0
   have HP := Sh.mk HP0
   clear h hp s0 b0 hW0 hst hpo HP0 hgood hz
   go_enter Tryz.func89, Tryz.ntmps89
   go_wp2_with fail
   rw [← HW0.out]
   refine HP.out.mono ?_
   rintro e w1 ⟨⟨_, v, rfl, hown⟩ | ⟨hno, _⟩, ho1⟩
   ·obtain ⟨A, cp, rfl, _⟩ := hown.shape
    have b2 := B0.out.quit ho1
    have S2 := Sh.mk (S0.out.quit ho1)
    obtain ⟨⟨z0, z1⟩, y0, y1⟩ := b2.blk.two
    have B2 := Sh.mk b2
    clear ho1 b2 hown
    go_wp2_with fail
    obtain ⟨hbf, hst⟩ := row2_set B2.out.blk (.int .i64 0) (.string ⟨#[]⟩)
    refine bodyPost_ret (results_row_tmp rfl _ _ w.heap.size 157 _ rfl hbf (by kernel_rfl) (by kernel_rfl)) rfl ?_
    exact ⟨rfl, (S2.out.cel B2.out hst).fin⟩
   ·cases hno
 obtain ⟨k, l, nm, hlen, hk1000, hl, hnm, hcat, hlk⟩ := names_cut hgood
 have hpo := hgood.1
 have HE2 : Sh (aboveF M path = ⟨(findF M l).num, nm, (findF M l).err⟩) := Sh.mk (by rw [aboveF, if_pos hgood, ← hl, ← hnm])
 rw [HE2.out]
 obtain ⟨sp, hsp⟩ : ∃ sp, sp = findF M l := ⟨_, rfl⟩
 rw [← hsp]
 rw [hpo, hlen, hcat] at HP0
 have HP := Sh.mk HP0
 have HSP := Sh.mk hsp
 have HLK := Sh.mk hlk
 have hw1 : IntKind.i64.wrap (k : Int) = (k : Int) := by rw [IntKind.wrap_i64]; omega
 have hw2 : wrap64 (k : Int) = (k : Int) := by unfold wrap64; omega
 have HK := Sh.mk hk1000
 clear h hp s0 b0 hW0 hpo HP0 hgood hsp hlk hl hnm hcat hlen hk1000
 clear HE2
 unfold placeA
 go_enter Tryz.func89, Tryz.ntmps89
 go_wp2_with fail
 rw [← HW0.out]
 refine HP.out.mono ?_
 rintro e w1 ⟨⟨_, v, rfl, hown⟩ | ⟨hno, _⟩, ho1⟩
 case inr => cases hno
 have has := aside_own S0.out.at_ hown
 obtain ⟨A, cp, rfl, _⟩ := hown.shape
 obtain ⟨K, hr, hKK⟩ := has
 obtain ⟨g, off, c', hve, _, hgK, hcell⟩ := Rd.open_ hr (by omega)
 injection hve with q1 q2 q3
 subst q1; subst q3
 have u1 := hcell k (strV nm) (by rw [List.map_append, List.getElem?_append_right (by rw [List.length_map, HLK.out]; omega), List.length_map, HLK.out]; simp)
 unfold strV at u1
 have hrt := rd_take hr (k := k) (by omega)
 have e1 : ((l ++ [nm]).map strV).take (k * 1) = l.map strV := by rw [Nat.mul_one, List.map_append, List.take_append_of_le_length (by rw [List.length_map, HLK.out]; omega), List.take_of_length_le (by rw [List.length_map, HLK.out]; omega)]
 rw [e1] at hrt
 have has2 : Aside w1 F 1 (.slice (some ⟨g, off, none⟩) k cp) l.length (l.map strV) := ⟨K, by rw [HLK.out]; exact hrt, hKK⟩
 have HF0 := fs_find (S0.out.quit ho1).at_ has2 (by rw [HLK.out]; have := HK.out; omega)
 rw [← HSP.out] at HF0
 unfold spotA Ino.cells at HF0
 have HF := Sh.mk HF0
 have S1 := Sh.mk (S0.out.quit ho1)
 have B1 := Sh.mk (B0.out.quit ho1)
 have HGF := Sh.mk (hKK g hgK)
 have hk0 : (0 : Int) ≤ (k : Int) := by omega
 clear hown ho1 HF0 hr hKK hgK hcell hrt e1 has2 q2
 go_wp2_with fail
 refine HF.out.mono ?_
 rintro e w2 ⟨rfl, F2, h2, ho2, hg2⟩
 have s2 := S1.out.step h2 ho2 hg2
 have hq2 : Only NoB w2 (w2.alloc (.cells #[.int .i64 (sp.ino.kind : Nat), .bool sp.ino.ex, .int .i64 (sp.ino.links : Nat), .int .i64 (sp.ino.size : Nat), .string ⟨sp.ino.data.toArray⟩] 74)) := (Only.refl NoB w2).alloc _
 have b2 := (B1.out.step ho2 hg2).quit hq2
 have hN : (w2.alloc (.cells #[.int .i64 (sp.ino.kind : Nat), .bool sp.ino.ex, .int .i64 (sp.ino.links : Nat), .int .i64 (sp.ino.size : Nat), .string ⟨sp.ino.data.toArray⟩] 74)).cell? ⟨w2.heap.size, 0, none⟩ = some (.int .i64 (sp.ino.kind : Nat)) := (Blk.new w2 74 #[.int .i64 (sp.ino.kind : Nat), .bool sp.ino.ex, .int .i64 (sp.ino.links : Nat), .int .i64 (sp.ino.size : Nat), .string ⟨sp.ino.data.toArray⟩]).cell 0
 have S2 := Sh.mk (s2.quit hq2)
 have B2 := Sh.mk b2
 have u2 := (ho2.cell u1 HGF.out.2)
 have u3 := hq2.cell u2 id
 clear h2 ho2 hg2 s2 b2 hq2 u1 u2 hN
 obtain ⟨⟨z0, z1⟩, y0, y1⟩ := B2.out.blk.two
 go_wp2_with fail
 obtain ⟨hbf, hst⟩ := row2_set B2.out.blk (.int .i64 (sp.num : Nat)) (.string ⟨nm.toArray⟩)
 refine bodyPost_ret (results_row_tmp rfl _ _ w.heap.size 157 _ rfl hbf (by kernel_rfl) (by kernel_rfl)) rfl ?_
 exact ⟨rfl, (S2.out.cel B2.out hst).fin⟩
end
end Go.Proofs.YtklfkocebhhgcaaGreat
namespace Go.Proofs.YtklfkocebhhgcaaGreat
open Go.RowKit Go.Proofs Go.Shelf
set_option maxRecDepth 20000
section
variable {M N : List KV} {c n : Nat} {k v p d : Str} {i : Ino}
theorem cntM_of (h : get [110] M = get [110] N) : cntM M = cntM N := by unfold cntM; rw [h]
theorem FsM.mono (h : FsM M c) {c' : Nat} (hc : c ≤ c') : FsM M c' := ⟨h.ino, h.cnt, ⟨h.num.1, by have := h.num.2; omega⟩, Nat.le_trans h.len hc⟩
theorem ins_len (hs : Srt M) : (ins k v M).length ≤ M.length + 1 := by rw [ins_get_length hs]; split <;> omega
theorem FsM.insX (h : FsM M c) (hs : Srt M) (h1 : k ≠ [110]) (h2 : ∀ n : Int, k ≠ ikey n) : FsM (ins k v M) (c + 1) := by
 have hg : get [110] (ins k v M) = get [110] M := by rw [get_ins hs, if_neg fun e => h1 e.symm]
 refine ⟨fun n w hn hw => ?_, fun s hw => h.cnt s (by rw [← hg]; exact hw), ?_, Nat.le_trans (ins_len hs) (by have := h.len; omega)⟩
 ·rw [get_ins hs, if_neg fun e => h2 n e.symm] at hw
  exact h.ino n w hn hw
 ·rw [cntM_of hg]; have := h.num; omega
theorem FsM.insI (h : FsM M c) (hs : Srt M) (hi : i.Ok) : FsM (ins (ikey n) (ibytes i) M) (c + 1) := by
 have hne : ([110] : Str) ≠ ikey n := fun e => by have := congrArg List.length e; simp [ikey_len] at this
 have hg : get [110] (ins (ikey n) (ibytes i) M) = get [110] M := by rw [get_ins hs, if_neg hne]
 refine ⟨fun m w hm hw => ?_, fun s hw => h.cnt s (by rw [← hg]; exact hw), ?_, Nat.le_trans (ins_len hs) (by have := h.len; omega)⟩
 ·rw [get_ins hs] at hw
  split at hw
  ·injection hw with hw; exact ⟨i, hi, hw.symm⟩
  ·exact h.ino m w hm hw
 ·rw [cntM_of hg]; have := h.num; omega
theorem FsM.insN (h : FsM M c) (hs : Srt M) (hc : c ≤ 580) : FsM (ins [110] (be3i ((cntM M : Nat) + 1 : Int)) M) (c + 1) := by
 have hn := h.num
 have hg : get [110] (ins [110] (be3i ((cntM M : Nat) + 1 : Int)) M) = some (be3i ((cntM M : Nat) + 1 : Int)) := by rw [get_ins hs, if_pos rfl]
 have hf := foldN_be3 (n := ((cntM M : Nat) + 1 : Int)) (by omega) (by omega)
 refine ⟨fun m w hm hw => ?_, fun s hw => ?_, ?_, Nat.le_trans (ins_len hs) (by have := h.len; omega)⟩
 ·rw [get_ins hs, if_neg fun e => by have := congrArg List.length e; simp [ikey_len] at this] at hw
  exact h.ino m w hm hw
 ·rw [hg] at hw; injection hw with hw; rw [← hw]; show 3 ≤ 5; omega
 ·have hcn : cntM (ins [110] (be3i ((cntM M : Nat) + 1 : Int)) M) = foldN (be3i ((cntM M : Nat) + 1 : Int)) := by
   show (match get [110] (ins [110] (be3i ((cntM M : Nat) + 1 : Int)) M) with | none => 1 | some s => foldN s) = _
   rw [hg]
  rw [hcn]
  omega
theorem FsM.delX (h : FsM M c) (h1 : k ≠ [110]) : FsM (del k M) c := by
 have hg : get [110] (del k M) = get [110] M := by rw [get_del, if_neg fun e => h1 e.symm]
 refine ⟨fun n w hn hw => ?_, fun s hw => h.cnt s (by rw [← hg]; exact hw), by rw [cntM_of hg]; exact h.num, Nat.le_trans (List.length_filter_le _ _) h.len⟩
 rw [get_del] at hw
 split at hw
 ·cases hw
 ·exact h.ino n w hn hw
theorem get_rid (p q : Str) : ∀ M : List KV, get q (rid p M) = if hasP p q = true then none else get q M
 | [] => by simp [rid, get]
 | x :: M => by
  have ih := get_rid p q M
  unfold rid at ih ⊢
  by_cases hx : hasP p x.1 = true
  ·rw [List.filter_cons_of_neg (by simp [hx]), ih]
   by_cases hq : hasP p q = true
   ·rw [if_pos hq, if_pos hq]
   ·rw [if_neg hq, if_neg hq, get, if_neg fun e => hq (by rw [← e]; exact hx)]
  ·rw [List.filter_cons_of_pos (by simpa using hx)]
   by_cases e : x.1 = q
   ·rw [get, if_pos e, if_neg (by rw [← e]; exact hx), get, if_pos e]
   ·rw [get, if_neg e, ih, get, if_neg e]
theorem fpre_n (n : Int) : hasP (fpre n) [110] = false := by simp [hasP, fpre, be3i]
theorem FsM.ridX (h : FsM M c) (n : Int) : FsM (rid (fpre n) M) c := by
 have hg : get [110] (rid (fpre n) M) = get [110] M := by rw [get_rid, fpre_n]; simp
 refine ⟨fun m w hm hw => ?_, fun s hw => h.cnt s (by rw [← hg]; exact hw), by rw [cntM_of hg]; exact h.num, Nat.le_trans (List.length_filter_le _ _) h.len⟩
 rw [get_rid] at hw
 split at hw
 ·cases hw
 ·exact h.ino m w hm hw
theorem insAll_fs : ∀ {L M : List KV} {c : Nat}, FsM M c → Srt M → (∀ x ∈ L, x.1 ≠ [110] ∧ ∀ n : Int, x.1 ≠ ikey n) → FsM (insAll L M) (c + L.length)
 | [], _, _, h, _, _ => h
 | x :: L, M, c, h, hs, hL => by
  have h1 := hL x List.mem_cons_self
  have := insAll_fs (L := L) (h.insX (v := x.2) hs h1.1 h1.2) hs.ins fun y hy => hL y (List.mem_cons_of_mem _ hy)
  rw [List.length_cons, show c + (L.length + 1) = c + 1 + L.length by omega]
  exact this
theorem FsM.wr (h : FsM M c) (hs : Srt M) (ch : Nat) (n : Int) (d : Str) : FsM (wrM ch (fpre n) d M) (c + chunkN ch d.length) := by
 have h1 := insAll_fs (L := chunks ch (fpre n) d) (h.ridX n) (List.Pairwise.filter _ hs) fun x hx => by
  obtain ⟨j, _, hj⟩ := List.mem_map.1 hx
  rw [← hj]
  refine ⟨fun e => ?_, fun m e => ?_⟩
  ·have := congrArg List.length e; simp [ckey, fpre, be3i, be2] at this
  ·have := congrArg List.length e; simp [ckey, fpre, be3i, be2, ikey] at this
 rw [chunks_len] at h1
 exact h1
theorem ekey_ne (n : Int) (A : Str) : ekey n A ≠ [110] ∧ ∀ m : Int, ekey n A ≠ ikey m :=
 ⟨fun e => by have := congrArg List.length e; rw [ekey_len] at this; simp at this; omega, fun m e => by have := (List.cons.inj e).1; simp at this⟩
theorem FsM.add (h : FsM M c) (hs : Srt M) (d : Int) (A : Str) (x : Int) : FsM (addM M d A x) (c + 1) := by
 unfold addM
 split
 ·exact h.insX hs (ekey_ne d A).1 (ekey_ne d A).2
 ·exact h.mono (by omega)
theorem FsM.rem (h : FsM M c) (d : Int) (A : Str) : FsM (remM M d A) c := by
 unfold remM
 split
 ·exact h.delX (ekey_ne d A).1
 ·exact h
theorem place_free {s : Spot} {A : Str} (h : (placeAt M s A).err = 0) : placeAt M s A = ⟨s.num, A, 0⟩ ∧ dirOk s.num A = true ∧ get (ekey s.num A) M = none := by
 unfold placeAt at h ⊢
 by_cases h1 : s.err = 0
 case neg => rw [if_pos h1] at h; exact absurd h h1
 rw [if_neg (by simp [h1])] at h ⊢
 by_cases h2 : s.ino.kind = 2
 case neg => rw [if_pos h2] at h; exact absurd h (by simp [Place.bad])
 rw [if_neg (by simp [h2])] at h ⊢
 by_cases h3 : (findI M s.num A).2 = 5
 ·rw [if_pos h3]
  refine ⟨rfl, ?_⟩
  unfold findI at h3
  cases hd : dirOk s.num A with
  | false => rw [hd] at h3; simp at h3
  | true =>
   rw [hd] at h3
   simp only [if_true] at h3
   cases hg : get (ekey s.num A) M with
   | none => exact ⟨rfl, rfl⟩
   | some v =>
    rw [hg] at h3
    simp only at h3
    split at h3 <;> simp at h3
 ·rw [if_neg h3] at h
  by_cases h4 : (findI M s.num A).2 = 0
  ·rw [if_pos h4] at h; exact absurd h (by simp [Place.bad])
  ·rw [if_neg h4] at h; exact absurd h h4
theorem placeF_free {path : Str} (h : (placeF M path).err = 0) : dirOk (placeF M path).dir (placeF M path).name = true ∧ get (ekey (placeF M path).dir (placeF M path).name) M = none ∧ pathOk path = true ∧ path ≠ [] := by
 unfold placeF at h ⊢
 by_cases hg : pathOk path = true ∧ path ≠ []
 ·rw [if_pos hg] at h ⊢
  have := place_free h
  rw [this.1]
  exact ⟨this.2.1, this.2.2, hg⟩
 ·rw [if_neg hg] at h; exact absurd h (by simp [Place.bad])
theorem addE_free {d : Int} {A : Str} {x : Nat} (h1 : dirOk d A = true) (h2 : get (ekey d A) M = none) (hx : 1 ≤ x ∧ x ≤ 16777215) : addE M d A x = 0 := by
 unfold addE
 rw [if_pos ⟨h1, by omega, by omega⟩, h2]; rfl
theorem newM_get (hs : Srt M) (i : Ino) (d : Int) (A : Str) : get (ekey d A) (newM M i) = get (ekey d A) M := by
 unfold newM
 rw [get_ins hs.ins, if_neg ((ekey_ne d A).2 _), get_ins hs, if_neg (ekey_ne d A).1]
theorem FsM.new (h : FsM M c) (hs : Srt M) (hi : i.Ok) (hc : c ≤ 580) : FsM (newM M i) (c + 2) := (h.insN hs hc).insI hs.ins hi
def madeM (M : List KV) (path : Str) (i : Ino) : List KV := addM (newM M i) (placeF M path).dir (placeF M path).name (cntM M)
theorem made_zero (h : FsM M c) (hs : Srt M) (hc : c ≤ 580) {path : Str} (hp : (placeF M path).err = 0) : addE (newM M i) (placeF M path).dir (placeF M path).name (cntM M) = 0 := by
 obtain ⟨h1, h2, _, _⟩ := placeF_free hp
 exact addE_free h1 (by rw [newM_get hs]; exact h2) ⟨h.num.1, by have := h.num.2; omega⟩
end
end Go.Proofs.YtklfkocebhhgcaaGreat
namespace Go.Proofs.YtklfkocebhhgcaaGreat
open Go.RowKit Go.Proofs Go.Shelf
set_option maxRecDepth 20000
attribute [local go_sem] Oper.semAt_some
section
variable {w wr w' : World} {F F1 F2 : Nat → Prop} {X : XC} {t c b : Nat} {M M' : List KV}
def one (i : Ino) : Ino := { i with links := 1 }
theorem fs_new {i : Ino} (h : FsAt w F X t M c) (hi : i.Ok) (hc : c + 2 ≤ 580) :
  Calls Tryz.prog 85 #[.pointer (some ⟨t, 0, none⟩), .agg i.cells] w (FsOut w F X t (.tuple #[.int .i64 (cntM M : Nat), .int .i64 0]) (newM M i) (c + 2)) := by
 refine (inew_ok h.kv hi h.fs.cnt ⟨h.fs.num.1, by have := h.fs.num.2; omega⟩ (by omega) (by have := own600_400; omega)).mono ?_
 rintro e w1 ⟨rfl, F', h1, h4, h5⟩
 exact ⟨rfl, F', ⟨h1, h.fs.new h.kv.srt hi h.few, by omega⟩, h4, h5⟩
theorem fs_add (h : FsAt w F X t M c) (hc : c + 1 ≤ 580) (d : Int) (A : Str) (x : Int) :
  Calls Tryz.prog 12 #[.pointer (some ⟨t, 0, none⟩), .int .i64 d, .string ⟨A.toArray⟩, .int .i64 x] w (FsOut w F X t (.int .i64 (addE M d A x : Nat)) (addM M d A x) (c + 1)) := by
 refine (add_ok d A x h.kv (by omega) (by have := own600_400; omega)).mono ?_
 rintro e w1 ⟨rfl, F', h1, h4, h5⟩
 exact ⟨rfl, F', ⟨h1, h.fs.add h.kv.srt d A x, by omega⟩, h4, h5⟩
set_option maxHeartbeats 2000000 in
theorem fs_create {i : Ino} (h : FsAt w F X t M c) (path : Str) (hp : path.length ≤ 1000000) (hi : (one i).Ok) (hc : c + 3 ≤ 580) (kf : Nat) (caps : Array Value) (hcf : ∀ (args : Array Value) (w1 : World), (callFunc kf args).run Tryz.prog w1 = .ok (.enter kf args) w1) {M2 : List KV} {c2 : Nat}
  (hz : (placeF M path).err = 0) (hm : ∀ w1 F1, FsSt w F X t (madeM M path (one i)) (c + 3) w1 F1 → Calls Tryz.prog kf (#[.int .i64 (cntM M : Nat)] ++ caps) w1 (FsOut w1 F1 X t (.int .i64 0) M2 c2)) :
  Calls Tryz.prog 131 #[.pointer (some ⟨t, 0, none⟩), .string ⟨path.toArray⟩, .agg i.cells, .func (.func kf) #[] caps] w (FsOut w F X t (.int .i64 0) M2 c2) := by
 obtain ⟨W0, hW0⟩ : ∃ W0, W0 = w.alloc (.cells i.cells 74) := ⟨_, rfl⟩
 have s0 : FsSt w F X t M c W0 F := by rw [hW0]; exact (FsSt.start h).quit ((Only.refl NoB w).alloc _)
 have b0 : Bx w W0 F w.heap.size 74 i.cells := by rw [hW0]; exact Bx.new (FsSt.start h) _ _
 have HPL0 := fs_place s0.at_ path hp
 have HZ := Sh.mk (made_zero (i := one i) h.fs h.kv.srt h.few hz)
 have HM2 : Sh (addM (newM M (one i)) (placeF M path).dir (placeF M path).name (cntM M) = madeM M path (one i)) := Sh.mk rfl
 obtain ⟨pl, hpl⟩ : ∃ pl, pl = placeF M path := ⟨_, rfl⟩
 rw [← hpl] at HPL0 HZ HM2 hz
 unfold placeA at HPL0
 have hz2 : (pl.err : Int) = 0 := by omega
 rw [hz2] at HPL0
 have HPL := Sh.mk HPL0
 have S0 := Sh.mk s0
 have B0 := Sh.mk b0
 have HW0 := Sh.mk hW0
 have HI := Sh.mk hi
 have HM := Sh.mk hm
 have HC := Sh.mk hc
 unfold Ino.cells at HW0 B0 ⊢
 clear h hp hi hc hm hz hz2 s0 b0 hW0 hpl HPL0
 go_enter Tryz.func131, Tryz.ntmps131
 go_wp2_with fail
 rw [← HW0.out]
 refine HPL.out.mono ?_
 rintro e w1 ⟨rfl, F1, h1, ho1, hg1⟩
 have s1 := S0.out.step h1 ho1 hg1
 have hq : Only NoB w1 (w1.alloc (.cells #[.int .i64 (pl.dir : Nat), .string ⟨pl.name.toArray⟩] 157)) := (Only.refl NoB w1).alloc _
 have s2 := s1.quit hq
 have b2 := (B0.out.step ho1 hg1).quit hq
 have p2 := Bx.new s1 #[.int .i64 (pl.dir : Nat), .string ⟨pl.name.toArray⟩] 157
 obtain ⟨z0, z1, z2, z3, z4⟩ := b2.blk.five
 obtain ⟨y0, y1, y2, y3, y4⟩ := b2.blk.free5
 have hst : Only (fun k => k = w.heap.size) (w1.alloc (.cells #[.int .i64 (pl.dir : Nat), .string ⟨pl.name.toArray⟩] 157)) ((w1.alloc (.cells #[.int .i64 (pl.dir : Nat), .string ⟨pl.name.toArray⟩] 157)).setCell ⟨w.heap.size, 2, none⟩ (.int .i64 1)) := (Only.refl (fun k => k = w.heap.size) _).setCell (p := ⟨w.heap.size, 2, none⟩) (.inl rfl) _
 have s3 := s2.cel b2 hst
 have b3 : Blk ((w1.alloc (.cells #[.int .i64 (pl.dir : Nat), .string ⟨pl.name.toArray⟩] 157)).setCell ⟨w.heap.size, 2, none⟩ (.int .i64 1)) w.heap.size 74 #[.int .i64 (i.kind : Nat), .bool i.ex, .int .i64 1, .int .i64 (i.size : Nat), .string ⟨i.data.toArray⟩] := b2.blk.set_ 2 _
 have hne : w1.heap.size ≠ w.heap.size := fun e => by have := b2.low; have := (B0.out.step ho1 hg1).blk.lt; omega
 have p3 := p2.far hst hne
 have HN0 := fs_new s3.at_ HI.out (by have := HC.out; omega)
 unfold one Ino.cells at HN0
 have HN := Sh.mk HN0
 obtain ⟨u0, u1, u2, u3, u4⟩ := b3.five
 have S3 := Sh.mk s3
 have P3 := Sh.mk p3
 clear h1 ho1 hg1 s1 hq s2 b2 p2 hst s3 b3 hne p3 HN0
 go_wp2_with fail
 refine HN.out.mono ?_
 rintro e w4 ⟨rfl, F4, h4, ho4, hg4⟩
 have s4 := S3.out.step h4 ho4 hg4
 have p4 := P3.out.step ho4 hg4
 have hd0 : w4.cell? ⟨w1.heap.size, 0, none⟩ = some (.int .i64 (pl.dir : Nat)) := p4.blk.cell 0
 have hd1 : w4.cell? ⟨w1.heap.size, 1, none⟩ = some (.string ⟨pl.name.toArray⟩) := p4.blk.cell 1
 have HA0 := fs_add s4.at_ (by have := HC.out; omega) (pl.dir : Nat) pl.name (cntM M : Nat)
 have hz4 := HZ.out
 have hm4 := HM2.out
 unfold one at hz4 hm4
 rw [hz4, hm4] at HA0
 have HA := Sh.mk HA0
 have S4 := Sh.mk s4
 clear h4 ho4 hg4 s4 p4 HA0 z0 z1 z2 z3 z4 y0 y1 y2 y3 y4 u0 u1 u2 u3 u4 hz4 hm4
 go_wp2_with fail
 refine HA.out.mono ?_
 rintro e w5 ⟨rfl, F5, h5, ho5, hg5⟩
 have s5 := S4.out.step h5 ho5 hg5
 have HMO := Sh.mk (HM.out w5 F5 s5)
 have S5 := Sh.mk s5
 clear h5 ho5 hg5 s5 hd0 hd1
 go_wp2_with fail
 refine HMO.out.mono ?_
 rintro e w6 ⟨rfl, F6, h6, ho6, hg6⟩
 have S6 := Sh.mk (S5.out.step h6 ho6 hg6)
 clear h6 ho6 hg6
 go_wp2_with fail
 go_ret
 exact ⟨rfl, S6.out.fin⟩
theorem fs_nothing (h : FsAt w F X t M c) (n : Nat) : Calls Tryz.prog 132 #[.int .i64 n] w (FsOut w F X t (.int .i64 0) M c) := by
 have S := Sh.mk (FsSt.start h)
 clear h
 go_enter Tryz.func132, Tryz.ntmps132
 go_wp2_with fail
 go_ret
 exact ⟨rfl, S.out.fin⟩
theorem inoDir_ok : (one ⟨2, false, 0, 0, []⟩).Ok := ⟨⟨by decide, by decide⟩, .inr (.inl ⟨rfl, rfl, rfl, rfl⟩)⟩
theorem fs_mkdir (h : FsAt w F X t M c) (path : Str) (hp : path.length ≤ 1000000) (hc : c + 3 ≤ 580) (hz : (placeF M path).err = 0) :
  Calls Tryz.prog 66 #[.pointer (some ⟨t, 0, none⟩), .string ⟨path.toArray⟩] w (FsOut w F X t (.int .i64 0) (madeM M path inoDir) (c + 3)) := by
 have HC := fs_create (i := ⟨2, false, 0, 0, []⟩) h path hp inoDir_ok hc 132 #[] (enters_of Tryz.func132 (by kernel_rfl) rfl) hz fun w1 F1 s1 => fs_nothing s1.at_ (cntM M)
 unfold Ino.cells at HC
 have HC := Sh.mk HC
 clear h hp hc hz
 go_enter Tryz.func66, Tryz.ntmps66
 go_wp2_with fail
 refine HC.out.mono ?_
 rintro e w1 ⟨rfl, hr⟩
 have HR := Sh.mk hr
 clear hr
 go_wp2_with fail
 go_ret
 exact ⟨rfl, HR.out⟩
end
end Go.Proofs.YtklfkocebhhgcaaGreat
namespace Go.Proofs.YtklfkocebhhgcaaGreat
open Go.RowKit Go.Proofs Go.Shelf
set_option maxRecDepth 20000
attribute [local go_sem] Oper.semAt_some
section
variable {w wr w' : World} {F F1 F2 : Nat → Prop} {X : XC} {t c b : Nat} {M M' : List KV}
theorem fs_write (h : FsAt w F X t M c) {n : Nat} (hn : 1 ≤ n ∧ n ≤ 16777215) (d : Str) (hd : d.length ≤ 65536) (hr : c + chunkN (chunkOf 400) d.length ≤ 580) :
  Calls Tryz.prog 134 #[.pointer (some ⟨t, 0, none⟩), .int .i64 n, .string ⟨d.toArray⟩] w (FsOut w F X t (.int .i64 0) (wrM (chunkOf 400) (fpre n) d M) (c + chunkN (chunkOf 400) d.length)) := by
 refine (fwrite_ok h.kv hn hd (by omega) (by have := own600_400; omega) (Nat.le_trans (List.length_filter_le _ _) (by have := h.fs.len; omega))).mono ?_
 rintro e w1 ⟨rfl, M', F', h1, h2, h3, h4, h5⟩
 have := wrM_of h1.srt h2 h3
 subst this
 exact ⟨rfl, F', ⟨h1, h.fs.wr h.kv.srt _ _ _, hr⟩, h4, h5⟩
theorem fs_create1 (h : FsAt w F X t M c) {n : Nat} (hn : 1 ≤ n ∧ n ≤ 16777215) (d : Str) (hd : d.length ≤ 65536) (hr : c + chunkN (chunkOf 400) d.length ≤ 580) {b0 b1 : Nat} (c0 : Blk w b0 24 #[.pointer (some ⟨t, 0, none⟩)]) (c1 : Blk w b1 9 #[.string ⟨d.toArray⟩]) :
  Calls Tryz.prog 133 #[.int .i64 n, .pointer (some ⟨b0, 0, none⟩), .pointer (some ⟨b1, 0, none⟩)] w (FsOut w F X t (.int .i64 0) (wrM (chunkOf 400) (fpre n) d M) (c + chunkN (chunkOf 400) d.length)) := by
 have HW := Sh.mk (fs_write h hn d hd hr)
 have x0 := c0.cell 0
 have x1 := c1.cell 0
 clear h hn hd hr c0 c1
 go_enter Tryz.func133, Tryz.ntmps133
 go_wp2_with fail
 refine HW.out.mono ?_
 rintro e w1 ⟨rfl, hk⟩
 have HK := Sh.mk hk
 clear hk
 go_wp2_with fail
 go_ret
 exact ⟨rfl, HK.out⟩
set_option maxHeartbeats 2000000 in
theorem fs_file (h : FsAt w F X t M c) (path d : Str) (ex : Bool) (hp : path.length ≤ 1000000) (hd : d.length ≤ 65536) (hr : c + 3 + chunkN (chunkOf 400) d.length ≤ 580) (hz : (placeF M path).err = 0) :
  Calls Tryz.prog 67 #[.pointer (some ⟨t, 0, none⟩), .string ⟨path.toArray⟩, .string ⟨d.toArray⟩, .bool ex] w
   (FsOut w F X t (.int .i64 0) (wrM (chunkOf 400) (fpre (cntM M)) d (madeM M path (inoFile ex d.length))) (c + 3 + chunkN (chunkOf 400) d.length)) := by
 obtain ⟨W0, hW0⟩ : ∃ W0, W0 = allocs w [(#[.pointer (some ⟨t, 0, none⟩)], 24), (#[.string ⟨d.toArray⟩], 9)] := ⟨_, rfl⟩
 have c0 : Blk W0 w.heap.size _ _ := blk_of hW0 0 rfl
 have c1 : Blk W0 (w.heap.size + 1) _ _ := blk_of hW0 1 rfl
 have ho0 : Only NoB w W0 := by rw [hW0]; exact allocs_only _ _
 have s0 : FsSt w F X t M c W0 F := (FsSt.start h).quit ho0
 obtain ⟨_, _, hpo, hne⟩ := placeF_free hz
 have HP0 := path_ok path hp W0
 unfold PathAns at HP0
 rw [hpo] at HP0
 have hlen : (namesOf path).length ≠ 0 := fun e => hne (namesOf_nil.1 (List.length_eq_zero_iff.1 e))
 have hl0 : (((namesOf path).length : Int) == 0) = false := by simp; exact fun e => hne (namesOf_nil.1 e)
 obtain ⟨nl, hnl⟩ : ∃ nl, nl = (namesOf path).length := ⟨_, rfl⟩
 rw [← hnl] at HP0 hl0
 have HP := Sh.mk HP0
 have HCR : Sh (∀ w1, Only NoB W0 w1 → Calls Tryz.prog 131 #[.pointer (some ⟨t, 0, none⟩), .string ⟨path.toArray⟩, .agg #[.int .i64 1, .bool ex, .int .i64 0, .int .i64 (d.length : Nat), .string ⟨#[]⟩], .func (.func 133) #[] #[.pointer (some ⟨w.heap.size, 0, none⟩), .pointer (some ⟨w.heap.size + 1, 0, none⟩)]] w1
   (FsOut w1 F X t (.int .i64 0) (wrM (chunkOf 400) (fpre (cntM M)) d (madeM M path (inoFile ex d.length))) (c + 3 + chunkN (chunkOf 400) d.length))) := Sh.mk fun w1 ho1 => by
  have s1 := s0.quit ho1
  have hlt := h.kv.lt
  exact fs_create (i := ⟨1, ex, 0, d.length, []⟩) s1.at_ path hp ⟨⟨Nat.le_refl 1, (show 1 ≤ 65535 by decide)⟩, .inl ⟨rfl, hd, rfl⟩⟩ (by omega) 133 _ (enters_of Tryz.func133 (by kernel_rfl) rfl) hz fun w2 F2 s2 =>
   fs_create1 s2.at_ ⟨h.fs.num.1, by have := h.fs.num.2; have := h.few; omega⟩ d hd hr ((c0.only ho1 id).only s2.on fun hf => by have := hlt _ hf; omega) ((c1.only ho1 id).only s2.on fun hf => by have := hlt _ hf; omega)
 have S0 := Sh.mk s0
 have C0 := Sh.mk c0
 have C1 := Sh.mk c1
 have HW0 := Sh.mk hW0
 unfold allocs at HW0
 simp only [List.foldl_cons, List.foldl_nil] at HW0
 obtain ⟨M2, hM2⟩ : ∃ M2, M2 = wrM (chunkOf 400) (fpre (cntM M)) d (madeM M path (inoFile ex d.length)) := ⟨_, rfl⟩
 rw [← hM2] at HCR ⊢
 obtain ⟨c2, hc2⟩ : ∃ c2, c2 = c + 3 + chunkN (chunkOf 400) d.length := ⟨_, rfl⟩
 rw [← hc2] at HCR ⊢
 have hd2 : ¬ ((65536 : Int) < (d.length : Int)) := by omega
 obtain ⟨ld, hld⟩ : ∃ ld, ld = d.length := ⟨_, rfl⟩
 have hld' : d.length = ld := hld.symm
 have hd3 : decide ((ld : Int) > 65536) = false := by rw [hld]; simpa using hd2
 rw [hld'] at HCR
 clear h hp hd hr hz c0 c1 ho0 s0 hpo hne hlen hnl HP0 hW0 hM2 hc2 hd2 hld
 go_enter Tryz.func67, Tryz.ntmps67
 go_wp2_with fail
 rw [← HW0.out]
 refine HP.out.mono ?_
 rintro e w1 ⟨⟨_, v, rfl, hown⟩ | ⟨hno, _⟩, ho1⟩
 case inr => cases hno
 obtain ⟨A, cp, rfl, _⟩ := hown.shape
 have x0 := (C0.out.only ho1 id).cell 0
 have x1 := (C1.out.only ho1 id).cell 0
 have HC := Sh.mk (HCR.out w1 ho1)
 have S1 := Sh.mk (S0.out.quit ho1)
 clear hown ho1
 go_wp2_with fail
 refine HC.out.mono ?_
 rintro e w2 ⟨rfl, F2, h2, ho2, hg2⟩
 have S2 := Sh.mk (S1.out.step h2 ho2 hg2)
 clear h2 ho2 hg2
 go_wp2_with fail
 go_ret
 exact ⟨rfl, S2.out.fin⟩
set_option maxHeartbeats 2000000 in
theorem fs_read (h : FsAt w F X t M c) (path d : Str) (hp : path.length ≤ 1000000) (he : (statF M path).err = 0) (hk : (statF M path).ino.kind = 1) (hn : 1 ≤ (statF M path).num ∧ (statF M path).num ≤ 16777215) (hs : (statF M path).ino.size ≤ 65536) (hd : d.length ≤ 65536) (hun : under (fpre (statF M path).num) M = chunks (chunkOf 400) (fpre (statF M path).num) d) :
  Calls Tryz.prog 68 #[.pointer (some ⟨t, 0, none⟩), .string ⟨path.toArray⟩] w (FsOut w F X t (rdAns d (statF M path).ino.size) M c) := by
 have HST0 := fs_stat h path hp
 obtain ⟨sp, hsp⟩ : ∃ sp, sp = statF M path := ⟨_, rfl⟩
 rw [← hsp] at HST0 he hk hn hs hun ⊢
 have HRD : Sh (∀ w1 F1, FsAt w1 F1 X t M c → Calls Tryz.prog 135 #[.pointer (some ⟨t, 0, none⟩), .int .i64 (sp.num : Nat), .int .i64 (sp.ino.size : Nat)] w1 (FsOut w1 F1 X t (rdAns d sp.ino.size) M c)) := Sh.mk fun w1 F1 h1 => by
  refine (fread_ok h1.kv hn hs hd hun).mono ?_
  rintro e w2 ⟨rfl, F', h2, h4, h5⟩
  exact ⟨rfl, F', ⟨h2, h1.fs, h1.few⟩, h4, h5⟩
 unfold spotA Ino.cells at HST0
 have he2 : (sp.err : Int) = 0 := by omega
 have hk2 : (sp.ino.kind : Int) = 1 := by omega
 rw [he2, hk2] at HST0
 have HST := Sh.mk HST0
 have S0 := Sh.mk (FsSt.start h)
 obtain ⟨rd, hrd⟩ : ∃ rd, rd = rdAns d sp.ino.size := ⟨_, rfl⟩
 have hra : ∃ a b, rd = .tuple #[.string a, .int .i64 b] := by
  rw [hrd]; unfold rdAns; split
  ·exact ⟨_, _, rfl⟩
  ·exact ⟨_, _, rfl⟩
 obtain ⟨ra, rb, rfl⟩ := hra
 rw [← hrd] at HRD ⊢
 clear h hp he hk hn hs hd hun hsp HST0 he2 hk2 hrd
 go_enter Tryz.func68, Tryz.ntmps68
 go_wp2_with fail
 refine HST.out.mono ?_
 rintro e w1 ⟨rfl, F1, h1, ho1, hg1⟩
 have s1 := S0.out.step h1 ho1 hg1
 have hq : Only NoB w1 (w1.alloc (.cells #[.int .i64 1, .bool sp.ino.ex, .int .i64 (sp.ino.links : Nat), .int .i64 (sp.ino.size : Nat), .string ⟨sp.ino.data.toArray⟩] 74)) := (Only.refl NoB w1).alloc _
 have b1 := Bx.new s1 #[.int .i64 1, .bool sp.ino.ex, .int .i64 (sp.ino.links : Nat), .int .i64 (sp.ino.size : Nat), .string ⟨sp.ino.data.toArray⟩] 74
 have x0 := b1.blk.cell 0
 have x3 := b1.blk.cell 3
 have s2 := s1.quit hq
 have HR := Sh.mk (HRD.out _ _ s2.at_)
 have S2 := Sh.mk s2
 clear h1 ho1 hg1 s1 hq b1 s2
 go_wp2_with fail
 refine HR.out.mono ?_
 rintro e w3 ⟨rfl, F3, h3, ho3, hg3⟩
 have S3 := Sh.mk (S2.out.step h3 ho3 hg3)
 clear h3 ho3 hg3
 go_wp2_with fail
 go_ret2
 exact ⟨rfl, S3.out.fin⟩
end
end Go.Proofs.YtklfkocebhhgcaaGreat
namespace Go.Proofs.YtklfkocebhhgcaaGreat
open Go.RowKit Go.Proofs Go.Shelf
set_option maxRecDepth 20000
attribute [local go_sem] Oper.semAt_some
section
variable {w wr w' : World} {F F1 F2 : Nat → Prop} {X : XC} {t c b : Nat} {M M' : List KV}
theorem fs_put {i : Ino} {n : Nat} (h : FsAt w F X t M c) (hi : i.Ok) (hn : 1 ≤ n ∧ n ≤ 16777215) (hc : c + 1 ≤ 580) :
  Calls Tryz.prog 90 #[.pointer (some ⟨t, 0, none⟩), .int .i64 n, .agg i.cells] w (FsOut w F X t (.int .i64 0) (ins (ikey n) (ibytes i) M) (c + 1)) := by
 refine (iput_ok h.kv hi hn (by omega) (by have := own600_400; omega)).mono ?_
 rintro e w1 ⟨rfl, F', h1, h4, h5⟩
 exact ⟨rfl, F', ⟨h1, h.fs.insI h.kv.srt hi, by omega⟩, h4, h5⟩
theorem fs_drem (h : FsAt w F X t M c) (n : Int) (A : Str) :
  Calls Tryz.prog 16 #[.pointer (some ⟨t, 0, none⟩), .int .i64 n, .string ⟨A.toArray⟩] w (FsOut w F X t (findA (findI M n A)) (remM M n A) c) := by
 refine (remove_ok n A h.kv).mono ?_
 rintro e w1 ⟨rfl, F', h1, h4, h5⟩
 exact ⟨rfl, F', ⟨h1, h.fs.rem n A, h.few⟩, h4, h5⟩
theorem fs_count (h : FsAt w F X t M c) {n : Int} (hn : 1 ≤ n ∧ n ≤ 16777215) :
  Calls Tryz.prog 19 #[.pointer (some ⟨t, 0, none⟩), .int .i64 n] w (FsOut w F X t (.tuple #[.int .i64 ((under (dpre n) M).length : Nat), .int .i64 0]) M c) := by
 refine (dcount_ok hn h.kv (Nat.le_trans (List.length_filter_le _ _) (by have := h.fs.len; have := h.few; omega))).mono ?_
 rintro e w1 ⟨rfl, F', h1, h4, h5⟩
 exact ⟨rfl, F', ⟨h1, h.fs, h.few⟩, h4, h5⟩
theorem fs_fdrop (h : FsAt w F X t M c) {n : Int} (hn : 1 ≤ n ∧ n ≤ 16777215) :
  Calls Tryz.prog 91 #[.pointer (some ⟨t, 0, none⟩), .int .i64 n] w (FsOut w F X t (.tuple #[.int .i64 ((under (fpre n) M).length : Nat), .int .i64 0]) (rid (fpre n) M) c) := by
 refine (fdrop_ok h.kv hn (Nat.le_trans (List.length_filter_le _ _) (by have := h.fs.len; have := h.few; omega))).mono ?_
 rintro e w1 ⟨rfl, F', h1, h4, h5⟩
 exact ⟨rfl, F', ⟨h1, h.fs.ridX n, h.few⟩, h4, h5⟩
theorem fs_idrop (h : FsAt w F X t M c) {n : Nat} (hn : 1 ≤ n ∧ n ≤ 16777215) (hg : (get (ikey n) M).isSome = true) :
  Calls Tryz.prog 92 #[.pointer (some ⟨t, 0, none⟩), .int .i64 n] w (FsOut w F X t (.int .i64 0) (del (ikey n) M) c) := by
 refine (idrop_ok h.kv hn).mono ?_
 rintro e w1 ⟨rfl, F', h1, h4, h5⟩
 rw [hg]
 exact ⟨rfl, F', ⟨h1, h.fs.delX fun e => by have := congrArg List.length e; simp [ikey_len] at this, h.few⟩, h4, h5⟩
def more (i : Ino) : Ino := { i with links := i.links + 1 }
def less (i : Ino) : Ino := { i with links := i.links - 1 }
set_option maxHeartbeats 4000000 in
theorem fs_link (h : FsAt w F X t M c) (old path : Str) (hlo : old.length ≤ 1000000) (hp : path.length ≤ 1000000) (he : (statF M old).err = 0) (hk : (statF M old).ino.kind ≠ 2) (hz : (placeF M path).err = 0) (hio : (more (statF M old).ino).Ok) (hn : 1 ≤ (statF M old).num ∧ (statF M old).num ≤ 16777215) (hc : c + 2 ≤ 580) :
  Calls Tryz.prog 41 #[.pointer (some ⟨t, 0, none⟩), .string ⟨old.toArray⟩, .string ⟨path.toArray⟩] w
   (FsOut w F X t (.int .i64 0) (addM (ins (ikey (statF M old).num) (ibytes (more (statF M old).ino)) M) (placeF M path).dir (placeF M path).name (statF M old).num) (c + 2)) := by
 obtain ⟨hfd, hfg, hpo, hne⟩ := placeF_free hz
 have HP0 := path_ok path hp w
 unfold PathAns at HP0
 rw [hpo] at HP0
 have hl0 : (((namesOf path).length : Int) == 0) = false := by simp; exact fun e => hne (namesOf_nil.1 e)
 obtain ⟨nl, hnl⟩ : ∃ nl, nl = (namesOf path).length := ⟨_, rfl⟩
 rw [← hnl] at HP0 hl0
 have HP := Sh.mk HP0
 have HST0 := fun w1 F1 (h1 : FsAt w1 F1 X t M c) => fs_stat h1 old hlo
 have HPL0 := fun w1 F1 (h1 : FsAt w1 F1 X t M c) => fs_place h1 path hp
 obtain ⟨sp, hsp⟩ : ∃ sp, sp = statF M old := ⟨_, rfl⟩
 obtain ⟨pl, hpl⟩ : ∃ pl, pl = placeF M path := ⟨_, rfl⟩
 rw [← hpl] at HPL0 hz hfd hfg ⊢
 rw [← hsp] at HST0 he hk hio hn ⊢
 have HPT : Sh (∀ w1 F1, FsAt w1 F1 X t M c → Calls Tryz.prog 90 #[.pointer (some ⟨t, 0, none⟩), .int .i64 (sp.num : Nat), .agg (more sp.ino).cells] w1 (FsOut w1 F1 X t (.int .i64 0) (ins (ikey sp.num) (ibytes (more sp.ino)) M) (c + 1))) := Sh.mk fun w1 F1 h1 => fs_put h1 hio hn (by omega)
 have hadd : addE (ins (ikey sp.num) (ibytes (more sp.ino)) M) pl.dir pl.name sp.num = 0 := addE_free hfd (by rw [get_ins h.kv.srt, if_neg ((ekey_ne _ _).2 _)]; exact hfg) hn
 obtain ⟨M1, hM1⟩ : ∃ M1, M1 = ins (ikey sp.num) (ibytes (more sp.ino)) M := ⟨_, rfl⟩
 rw [← hM1] at HPT hadd ⊢
 have HAD : Sh (∀ w1 F1, FsAt w1 F1 X t M1 (c + 1) → Calls Tryz.prog 12 #[.pointer (some ⟨t, 0, none⟩), .int .i64 (pl.dir : Nat), .string ⟨pl.name.toArray⟩, .int .i64 (sp.num : Nat)] w1 (FsOut w1 F1 X t (.int .i64 0) (addM M1 pl.dir pl.name sp.num) (c + 2))) := Sh.mk fun w1 F1 h1 => by
  have := fs_add h1 (by omega) (pl.dir : Nat) pl.name (sp.num : Nat)
  rw [hadd] at this
  exact this
 obtain ⟨M2, hM2⟩ : ∃ M2, M2 = addM M1 pl.dir pl.name sp.num := ⟨_, rfl⟩
 rw [← hM2] at HAD ⊢
 unfold spotA Ino.cells at HST0
 unfold placeA at HPL0
 have he2 : (sp.err : Int) = 0 := by omega
 have hz2 : (pl.err : Int) = 0 := by omega
 rw [he2] at HST0
 rw [hz2] at HPL0
 have HST := Sh.mk HST0
 have HPL := Sh.mk HPL0
 have S0 := Sh.mk (FsSt.start h)
 have hk2 : ((sp.ino.kind : Int) == 2) = false := by simp; omega
 obtain ⟨lk, hlk⟩ : ∃ lk : Nat, lk = sp.ino.links + 1 := ⟨_, rfl⟩
 have hlb : sp.ino.links + 1 ≤ 65535 := hio.1.2
 have hl1 : (sp.ino.links : Int) + 1 = (lk : Int) := by omega
 have hl2 : IntKind.i64.wrap (lk : Int) = (lk : Int) := by rw [IntKind.wrap_i64]; omega
 have hl3 : wrap64 (lk : Int) = (lk : Int) := by unfold wrap64; omega
 unfold more Ino.cells at HPT
 simp only at HPT
 rw [← hlk] at HPT
 clear h hlo hp he hk hz hio hn hc hfd hfg hpo hne hnl HP0 hsp hpl HST0 HPL0 he2 hz2 hadd hM1 hM2 hlk hlb
 go_enter Tryz.func41, Tryz.ntmps41
 go_wp2_with fail
 refine HP.out.mono ?_
 rintro e w1 ⟨⟨_, v, rfl, hown⟩ | ⟨hno, _⟩, ho1⟩
 case inr => cases hno
 obtain ⟨A, cp, rfl, _⟩ := hown.shape
 have S1 := Sh.mk (S0.out.quit ho1)
 have HS := Sh.mk (HST.out w1 F S1.out.at_)
 clear hown ho1
 go_wp2_with fail
 refine HS.out.mono ?_
 rintro e w2 ⟨rfl, F2, h2, ho2, hg2⟩
 have s2 := S1.out.step h2 ho2 hg2
 have hq : Only NoB w2 (w2.alloc (.cells #[.int .i64 (sp.ino.kind : Nat), .bool sp.ino.ex, .int .i64 (sp.ino.links : Nat), .int .i64 (sp.ino.size : Nat), .string ⟨sp.ino.data.toArray⟩] 74)) := (Only.refl NoB w2).alloc _
 have b2 := Bx.new s2 #[.int .i64 (sp.ino.kind : Nat), .bool sp.ino.ex, .int .i64 (sp.ino.links : Nat), .int .i64 (sp.ino.size : Nat), .string ⟨sp.ino.data.toArray⟩] 74
 have x0 := b2.blk.cell 0
 have HL := Sh.mk (HPL.out _ _ (s2.quit hq).at_)
 have S2 := Sh.mk (s2.quit hq)
 have B2 := Sh.mk b2
 obtain ⟨bi, hbi⟩ : ∃ bi, bi = w2.heap.size := ⟨_, rfl⟩
 clear h2 ho2 hg2 s2 hq b2
 go_wp2_with fail
 refine HL.out.mono ?_
 rw [← hbi] at B2 ⊢
 clear x0
 rintro e w3 ⟨rfl, F3, h3, ho3, hg3⟩
 have s3 := S2.out.step h3 ho3 hg3
 have hq : Only NoB w3 (w3.alloc (.cells #[.int .i64 (pl.dir : Nat), .string ⟨pl.name.toArray⟩] 157)) := (Only.refl NoB w3).alloc _
 have p3 := Bx.new s3 #[.int .i64 (pl.dir : Nat), .string ⟨pl.name.toArray⟩] 157
 have b3 := (B2.out.step ho3 hg3).quit hq
 have s4 := s3.quit hq
 obtain ⟨z0, z1, z2, z3, z4⟩ := b3.blk.five
 obtain ⟨y0, y1, y2, y3, y4⟩ := b3.blk.free5
 have hst : Only (fun k => k = bi) (w3.alloc (.cells #[.int .i64 (pl.dir : Nat), .string ⟨pl.name.toArray⟩] 157)) ((w3.alloc (.cells #[.int .i64 (pl.dir : Nat), .string ⟨pl.name.toArray⟩] 157)).setCell ⟨bi, 2, none⟩ (.int .i64 (lk : Nat))) := (Only.refl (fun k => k = bi) _).setCell (p := ⟨bi, 2, none⟩) (.inl rfl) _
 have s5 := s4.cel b3 hst
 have b5 : Blk ((w3.alloc (.cells #[.int .i64 (pl.dir : Nat), .string ⟨pl.name.toArray⟩] 157)).setCell ⟨bi, 2, none⟩ (.int .i64 (lk : Nat))) bi 74 #[.int .i64 (sp.ino.kind : Nat), .bool sp.ino.ex, .int .i64 (lk : Nat), .int .i64 (sp.ino.size : Nat), .string ⟨sp.ino.data.toArray⟩] := b3.blk.set_ 2 _
 have hne : w3.heap.size ≠ bi := fun e => by have := (B2.out.step ho3 hg3).blk.lt; omega
 have p5 := p3.far hst hne
 have HPU := Sh.mk (HPT.out _ _ s5.at_)
 obtain ⟨u0, u1, u2, u3, u4⟩ := b5.five
 have S5 := Sh.mk s5
 have P5 := Sh.mk p5
 clear h3 ho3 hg3 s3 hq p3 b3 s4 hst s5 b5 hne p5 hbi
 go_wp2_with fail
 refine HPU.out.mono ?_
 rintro e w6 ⟨rfl, F6, h6, ho6, hg6⟩
 have s6 := S5.out.step h6 ho6 hg6
 have p6 := P5.out.step ho6 hg6
 have hd0 : w6.cell? ⟨w3.heap.size, 0, none⟩ = some (.int .i64 (pl.dir : Nat)) := p6.blk.cell 0
 have hd1 : w6.cell? ⟨w3.heap.size, 1, none⟩ = some (.string ⟨pl.name.toArray⟩) := p6.blk.cell 1
 have HA := Sh.mk (HAD.out _ _ s6.at_)
 have S6 := Sh.mk s6
 clear h6 ho6 hg6 s6 p6 z0 z1 z2 z3 z4 y0 y1 y2 y3 y4 u0 u1 u2 u3 u4
 go_wp2_with fail
 refine HA.out.mono ?_
 rintro e w7 ⟨rfl, F7, h7, ho7, hg7⟩
 have S7 := Sh.mk (S6.out.step h7 ho7 hg7)
 clear h7 ho7 hg7
 go_wp2_with fail
 go_ret
 exact ⟨rfl, S7.out.fin⟩
end
end Go.Proofs.YtklfkocebhhgcaaGreat
namespace Go.Proofs.YtklfkocebhhgcaaGreat
open Go.RowKit Go.Proofs Go.Shelf
set_option maxRecDepth 20000
attribute [local go_sem] Oper.semAt_some
section
variable {w wr w' : World} {F F1 F2 : Nat → Prop} {X : XC} {t c b : Nat} {M M' : List KV}
theorem ikey_pre (n m : Int) : hasP (fpre n) (ikey m) = false := by simp [hasP, fpre, ikey, be3i]
theorem get_ikey_rem (m : Nat) (d : Int) (A : Str) (n : Int) : get (ikey m) (rid (fpre n) (remM M d A)) = get (ikey m) M := by
 rw [get_rid, ikey_pre]
 simp only [Bool.false_eq_true, if_false]
 unfold remM
 split
 ·rw [get_del, if_neg fun e => (ekey_ne d A).2 m e.symm]
 ·rfl
set_option maxHeartbeats 4000000 in
theorem fs_remove_busy (h : FsAt w F X t M c) (path : Str) (hp : path.length ≤ 1000000) (hne : path ≠ []) (he : (statF M path).err = 0) (hk : (statF M path).ino.kind = 2) (hun : under (dpre ((statF M path).num : Nat)) M ≠ []) (hn : 1 ≤ (statF M path).num ∧ (statF M path).num ≤ 16777215) :
  Calls Tryz.prog 42 #[.pointer (some ⟨t, 0, none⟩), .string ⟨path.toArray⟩] w (FsOut w F X t (.int .i64 152) M c) := by
 have hz2 : (path == []) = false := by simpa using hne
 have hz3 := str_ne hne
 have hie : path.isEmpty = false := by cases path; (· exact absurd rfl hne); rfl
 have HST0 := fun w1 F1 (h1 : FsAt w1 F1 X t M c) => fs_stat h1 path hp
 have HAB0 := fun w1 F1 (h1 : FsAt w1 F1 X t M c) => fs_above h1 path hp
 obtain ⟨sp, hsp⟩ : ∃ sp, sp = statF M path := ⟨_, rfl⟩
 rw [← hsp] at he hk hn HST0 hun
 have HCN0 := fun w1 F1 (h1 : FsAt w1 F1 X t M c) => fs_count h1 (n := (sp.num : Nat)) (by omega)
 obtain ⟨kk, hkk⟩ : ∃ kk, kk = (under (dpre (sp.num : Nat)) M).length := ⟨_, rfl⟩
 rw [← hkk] at HCN0
 have hkp := List.length_pos_iff.2 hun
 have hk4 : (0 : Int) < (kk : Int) := by rw [hkk]; omega
 have hk5 : decide ((kk : Int) > 0) = true := by simpa using hk4
 have HCN := Sh.mk HCN0
 have hk2 : (sp.ino.kind : Int) = 2 := by omega
 unfold spotA Ino.cells at HST0
 have he2 : (sp.err : Int) = 0 := by omega
 rw [he2] at HST0
 rw [hk2] at HST0
 have HST := Sh.mk HST0
 have S0 := Sh.mk (FsSt.start h)
 clear h hp hne he hk hn hsp HST0 he2 hun hkk hkp HCN0
 go_enter Tryz.func42, Tryz.ntmps42
 go_wp2_with fail
 refine (HST.out w F S0.out.at_).mono ?_
 rintro e w2 ⟨rfl, F2, h2, ho2, hg2⟩
 have s2 := S0.out.step h2 ho2 hg2
 have hq : Only NoB w2 (w2.alloc (.cells #[.int .i64 2, .bool sp.ino.ex, .int .i64 (sp.ino.links : Nat), .int .i64 (sp.ino.size : Nat), .string ⟨sp.ino.data.toArray⟩] 74)) := (Only.refl NoB w2).alloc _
 have b2 := Bx.new s2 #[.int .i64 2, .bool sp.ino.ex, .int .i64 (sp.ino.links : Nat), .int .i64 (sp.ino.size : Nat), .string ⟨sp.ino.data.toArray⟩] 74
 have x0 := b2.blk.cell 0
 have s3 := s2.quit hq
 have HC := Sh.mk (HCN.out _ _ s3.at_)
 have S3 := Sh.mk s3
 have B3 := Sh.mk b2
 obtain ⟨bi, hbi⟩ : ∃ bi, bi = w2.heap.size := ⟨_, rfl⟩
 clear h2 ho2 hg2 s2 hq b2 s3
 go_wp2_with fail
 refine HC.out.mono ?_
 rw [← hbi] at B3 ⊢
 clear x0 hbi
 rintro e w3 ⟨rfl, F3, h3, ho3, hg3⟩
 have s3 := S3.out.step h3 ho3 hg3
 have S4 := Sh.mk s3
 clear h3 ho3 hg3 s3
 go_wp2_with fail
 go_ret
 exact ⟨rfl, S4.out.fin⟩
set_option maxHeartbeats 4000000 in
theorem fs_remove_less (h : FsAt w F X t M c) (path : Str) (hp : path.length ≤ 1000000) (hne : path ≠ []) (he : (statF M path).err = 0) (hk : (statF M path).ino.kind ≠ 2) (ha : (aboveF M path).err = 0) (hf : (findI M (aboveF M path).dir (aboveF M path).name).2 = 0) (hio : (less (statF M path).ino).Ok) (hlb : 2 ≤ (statF M path).ino.links ∧ (statF M path).ino.links ≤ 65535) (hc : c + 1 ≤ 580) (hn : 1 ≤ (statF M path).num ∧ (statF M path).num ≤ 16777215) :
  Calls Tryz.prog 42 #[.pointer (some ⟨t, 0, none⟩), .string ⟨path.toArray⟩] w (FsOut w F X t (.int .i64 0) (ins (ikey (statF M path).num) (ibytes (less (statF M path).ino)) (remM M (aboveF M path).dir (aboveF M path).name)) (c + 1)) := by
 have hz2 : (path == []) = false := by simpa using hne
 have hz3 := str_ne hne
 have hie : path.isEmpty = false := by cases path; (· exact absurd rfl hne); rfl
 have HST0 := fun w1 F1 (h1 : FsAt w1 F1 X t M c) => fs_stat h1 path hp
 have HAB0 := fun w1 F1 (h1 : FsAt w1 F1 X t M c) => fs_above h1 path hp
 obtain ⟨ab, hab⟩ : ∃ ab, ab = aboveF M path := ⟨_, rfl⟩
 rw [← hab] at HAB0 ha hf ⊢
 unfold placeA at HAB0
 have ha2 : (ab.err : Int) = 0 := by omega
 rw [ha2] at HAB0
 have HAB := Sh.mk HAB0
 have HDR0 := fun w1 F1 (h1 : FsAt w1 F1 X t M c) => fs_drem h1 (ab.dir : Nat) ab.name
 obtain ⟨⟨ra, rb⟩, hrr⟩ : ∃ r : Nat × Nat, r = findI M ab.dir ab.name := ⟨_, rfl⟩
 rw [← hrr] at HDR0 hf
 simp only at hf
 subst hf
 unfold findA at HDR0
 obtain ⟨sp, hsp⟩ : ∃ sp, sp = statF M path := ⟨_, rfl⟩
 rw [← hsp] at he hk hn HST0 hio hlb ⊢
 have HPT0 : ∀ w1 F1, FsAt w1 F1 X t (remM M ab.dir ab.name) c → Calls Tryz.prog 90 #[.pointer (some ⟨t, 0, none⟩), .int .i64 (sp.num : Nat), .agg (less sp.ino).cells] w1 (FsOut w1 F1 X t (.int .i64 0) (ins (ikey sp.num) (ibytes (less sp.ino)) (remM M ab.dir ab.name)) (c + 1)) := fun w1 F1 h1 => fs_put h1 hio hn (by omega)
 obtain ⟨M2, hM2⟩ : ∃ M2, M2 = ins (ikey sp.num) (ibytes (less sp.ino)) (remM M ab.dir ab.name) := ⟨_, rfl⟩
 rw [← hM2] at HPT0 ⊢
 obtain ⟨M1, hM1⟩ : ∃ M1, M1 = remM M ab.dir ab.name := ⟨_, rfl⟩
 rw [← hM1] at HPT0 HDR0
 obtain ⟨lk, hlk⟩ : ∃ lk : Nat, lk = sp.ino.links - 1 := ⟨_, rfl⟩
 unfold less Ino.cells at HPT0
 simp only at HPT0
 rw [← hlk] at HPT0
 have HPT := Sh.mk HPT0
 have HDR := Sh.mk HDR0
 have hl1 : (sp.ino.links : Int) - 1 = (lk : Int) := by omega
 have hl2 : IntKind.i64.wrap (lk : Int) = (lk : Int) := by rw [IntKind.wrap_i64]; omega
 have hl3 : wrap64 (lk : Int) = (lk : Int) := by unfold wrap64; omega
 have hl4 : (0 : Int) < (lk : Int) := by omega
 have hl5 : decide ((lk : Int) > 0) = true := by simpa using hl4
 have hk2 : ((sp.ino.kind : Int) == 2) = false := by simp; omega
 unfold spotA Ino.cells at HST0
 have he2 : (sp.err : Int) = 0 := by omega
 rw [he2] at HST0
 have HST := Sh.mk HST0
 have S0 := Sh.mk (FsSt.start h)
 clear h hp hne he hk hn hsp HST0 he2 ha hio hc hab ha2 hrr HAB0 HDR0 HPT0 hM1 hM2 hlk hlb
 go_enter Tryz.func42, Tryz.ntmps42
 go_wp2_with fail
 refine (HST.out w F S0.out.at_).mono ?_
 rintro e w2 ⟨rfl, F2, h2, ho2, hg2⟩
 have s2 := S0.out.step h2 ho2 hg2
 have hq : Only NoB w2 (w2.alloc (.cells #[.int .i64 (sp.ino.kind : Nat), .bool sp.ino.ex, .int .i64 (sp.ino.links : Nat), .int .i64 (sp.ino.size : Nat), .string ⟨sp.ino.data.toArray⟩] 74)) := (Only.refl NoB w2).alloc _
 have b2 := Bx.new s2 #[.int .i64 (sp.ino.kind : Nat), .bool sp.ino.ex, .int .i64 (sp.ino.links : Nat), .int .i64 (sp.ino.size : Nat), .string ⟨sp.ino.data.toArray⟩] 74
 have x0 := b2.blk.cell 0
 have s3 := s2.quit hq
 have HA := Sh.mk (HAB.out _ _ s3.at_)
 have S3 := Sh.mk s3
 have B3 := Sh.mk b2
 obtain ⟨bi, hbi⟩ : ∃ bi, bi = w2.heap.size := ⟨_, rfl⟩
 clear h2 ho2 hg2 s2 hq b2 s3
 go_wp2_with fail
 refine HA.out.mono ?_
 rw [← hbi] at B3 ⊢
 clear x0 hbi
 have B4 := B3
 have S4 := S3
 rintro e w3 ⟨rfl, F3, h3, ho3, hg3⟩
 have s5 := S4.out.step h3 ho3 hg3
 have hq : Only NoB w3 (w3.alloc (.cells #[.int .i64 (ab.dir : Nat), .string ⟨ab.name.toArray⟩] 157)) := (Only.refl NoB w3).alloc _
 have p3 := Bx.new s5 #[.int .i64 (ab.dir : Nat), .string ⟨ab.name.toArray⟩] 157
 have b5 := (B4.out.step ho3 hg3).quit hq
 have s6 := s5.quit hq
 have x0 := p3.blk.cell 0
 have x1 := p3.blk.cell 1
 have HD := Sh.mk (HDR.out _ _ s6.at_)
 have S6 := Sh.mk s6
 have B6 := Sh.mk b5
 clear h3 ho3 hg3 s5 hq p3 b5 s6
 go_wp2_with fail
 refine HD.out.mono ?_
 rintro e w7 ⟨rfl, F7, h7, ho7, hg7⟩
 have s7 := S6.out.step h7 ho7 hg7
 have b7 := B6.out.step ho7 hg7
 obtain ⟨z0, z1, z2, z3, z4⟩ := b7.blk.five
 obtain ⟨y0, y1, y2, y3, y4⟩ := b7.blk.free5
 clear x0 x1
 have hst : Only (fun k => k = bi) w7 (w7.setCell ⟨bi, 2, none⟩ (.int .i64 (lk : Nat))) := (Only.refl (fun k => k = bi) _).setCell (p := ⟨bi, 2, none⟩) (.inl rfl) _
 have s8 := s7.cel b7 hst
 have b8 : Blk (w7.setCell ⟨bi, 2, none⟩ (.int .i64 (lk : Nat))) bi 74 #[.int .i64 (sp.ino.kind : Nat), .bool sp.ino.ex, .int .i64 (lk : Nat), .int .i64 (sp.ino.size : Nat), .string ⟨sp.ino.data.toArray⟩] := b7.blk.set_ 2 _
 obtain ⟨u0, u1, u2, u3, u4⟩ := b8.five
 have HP := Sh.mk (HPT.out _ _ s8.at_)
 have S8 := Sh.mk s8
 clear h7 ho7 hg7 s7 b7 hst s8 b8
 go_wp2_with fail
 refine HP.out.mono ?_
 rintro e w9 ⟨rfl, F9, h9, ho9, hg9⟩
 have S9 := Sh.mk (S8.out.step h9 ho9 hg9)
 clear h9 ho9 hg9
 go_wp2_with fail
 go_ret
 exact ⟨rfl, S9.out.fin⟩
set_option maxHeartbeats 4000000 in
theorem fs_remove_last (h : FsAt w F X t M c) (path : Str) (hp : path.length ≤ 1000000) (hne : path ≠ []) (he : (statF M path).err = 0) (hk : (statF M path).ino.kind = 2) (hun : under (dpre ((statF M path).num : Nat)) M = []) (ha : (aboveF M path).err = 0) (hf : (findI M (aboveF M path).dir (aboveF M path).name).2 = 0) (hlk : (statF M path).ino.links = 1) (hg : (get (ikey (statF M path).num) M).isSome = true) (hn : 1 ≤ (statF M path).num ∧ (statF M path).num ≤ 16777215) :
  Calls Tryz.prog 42 #[.pointer (some ⟨t, 0, none⟩), .string ⟨path.toArray⟩] w (FsOut w F X t (.int .i64 0) (del (ikey (statF M path).num) (rid (fpre (statF M path).num) (remM M (aboveF M path).dir (aboveF M path).name))) c) := by
 have hz2 : (path == []) = false := by simpa using hne
 have hz3 := str_ne hne
 have hie : path.isEmpty = false := by cases path; (· exact absurd rfl hne); rfl
 have HST0 := fun w1 F1 (h1 : FsAt w1 F1 X t M c) => fs_stat h1 path hp
 have HAB0 := fun w1 F1 (h1 : FsAt w1 F1 X t M c) => fs_above h1 path hp
 obtain ⟨ab, hab⟩ : ∃ ab, ab = aboveF M path := ⟨_, rfl⟩
 rw [← hab] at HAB0 ha hf ⊢
 unfold placeA at HAB0
 have ha2 : (ab.err : Int) = 0 := by omega
 rw [ha2] at HAB0
 have HAB := Sh.mk HAB0
 have HDR0 := fun w1 F1 (h1 : FsAt w1 F1 X t M c) => fs_drem h1 (ab.dir : Nat) ab.name
 obtain ⟨⟨ra, rb⟩, hrr⟩ : ∃ r : Nat × Nat, r = findI M ab.dir ab.name := ⟨_, rfl⟩
 rw [← hrr] at HDR0 hf
 simp only at hf
 subst hf
 unfold findA at HDR0
 obtain ⟨sp, hsp⟩ : ∃ sp, sp = statF M path := ⟨_, rfl⟩
 rw [← hsp] at he hk hn HST0 hun hlk hg ⊢
 have HFD0 := fun w1 F1 (h1 : FsAt w1 F1 X t (remM M ab.dir ab.name) c) => fs_fdrop h1 (n := (sp.num : Nat)) (by omega)
 have HID0 := fun w1 F1 (h1 : FsAt w1 F1 X t (rid (fpre (sp.num : Nat)) (remM M ab.dir ab.name)) c) => fs_idrop h1 hn (by rw [get_ikey_rem]; exact hg)
 have HCN0 := fun w1 F1 (h1 : FsAt w1 F1 X t M c) => fs_count h1 (n := (sp.num : Nat)) (by omega)
 rw [hun] at HCN0
 obtain ⟨fd, hfd⟩ : ∃ fd, fd = (under (fpre (sp.num : Nat)) (remM M ab.dir ab.name)).length := ⟨_, rfl⟩
 rw [← hfd] at HFD0
 obtain ⟨M2, hM2⟩ : ∃ M2, M2 = del (ikey sp.num) (rid (fpre sp.num) (remM M ab.dir ab.name)) := ⟨_, rfl⟩
 rw [← hM2] at HID0 ⊢
 obtain ⟨M3, hM3⟩ : ∃ M3, M3 = rid (fpre (sp.num : Nat)) (remM M ab.dir ab.name) := ⟨_, rfl⟩
 rw [← hM3] at HID0 HFD0
 obtain ⟨M1, hM1⟩ : ∃ M1, M1 = remM M ab.dir ab.name := ⟨_, rfl⟩
 rw [← hM1] at HDR0 HFD0
 have HFD := Sh.mk HFD0
 have HID := Sh.mk HID0
 have HCN := Sh.mk HCN0
 have HDR := Sh.mk HDR0
 have hk2 : (sp.ino.kind : Int) = 2 := by omega
 have hlk2 : (sp.ino.links : Int) = 1 := by omega
 unfold spotA Ino.cells at HST0
 have he2 : (sp.err : Int) = 0 := by omega
 rw [he2] at HST0
 rw [hk2] at HST0
 rw [hlk2] at HST0
 have HST := Sh.mk HST0
 have S0 := Sh.mk (FsSt.start h)
 clear h hp hne he hk hn hsp HST0 he2 ha hab ha2 hrr HAB0 HDR0 HFD0 HID0 HCN0 hun hg hM1 hM2 hM3 hfd hk2 hlk2 hlk
 go_enter Tryz.func42, Tryz.ntmps42
 go_wp2_with fail
 refine (HST.out w F S0.out.at_).mono ?_
 rintro e w2 ⟨rfl, F2, h2, ho2, hg2⟩
 have s2 := S0.out.step h2 ho2 hg2
 have hq : Only NoB w2 (w2.alloc (.cells #[.int .i64 2, .bool sp.ino.ex, .int .i64 1, .int .i64 (sp.ino.size : Nat), .string ⟨sp.ino.data.toArray⟩] 74)) := (Only.refl NoB w2).alloc _
 have b2 := Bx.new s2 #[.int .i64 2, .bool sp.ino.ex, .int .i64 1, .int .i64 (sp.ino.size : Nat), .string ⟨sp.ino.data.toArray⟩] 74
 have x0 := b2.blk.cell 0
 have s3 := s2.quit hq
 have HC := Sh.mk (HCN.out _ _ s3.at_)
 have S3 := Sh.mk s3
 have B3 := Sh.mk b2
 obtain ⟨bi, hbi⟩ : ∃ bi, bi = w2.heap.size := ⟨_, rfl⟩
 clear h2 ho2 hg2 s2 hq b2 s3
 go_wp2_with fail
 refine HC.out.mono ?_
 rw [← hbi] at B3 ⊢
 clear x0 hbi
 rintro e w3 ⟨rfl, F3, h3, ho3, hg3⟩
 have s3 := S3.out.step h3 ho3 hg3
 have HA := Sh.mk (HAB.out _ _ s3.at_)
 have B4 := Sh.mk (B3.out.step ho3 hg3)
 have S4 := Sh.mk s3
 clear h3 ho3 hg3 s3
 go_wp2_with fail
 refine HA.out.mono ?_
 rintro e w3 ⟨rfl, F3, h3, ho3, hg3⟩
 have s5 := S4.out.step h3 ho3 hg3
 have hq : Only NoB w3 (w3.alloc (.cells #[.int .i64 (ab.dir : Nat), .string ⟨ab.name.toArray⟩] 157)) := (Only.refl NoB w3).alloc _
 have p3 := Bx.new s5 #[.int .i64 (ab.dir : Nat), .string ⟨ab.name.toArray⟩] 157
 have b5 := (B4.out.step ho3 hg3).quit hq
 have s6 := s5.quit hq
 have x0 := p3.blk.cell 0
 have x1 := p3.blk.cell 1
 have HD := Sh.mk (HDR.out _ _ s6.at_)
 have S6 := Sh.mk s6
 have B6 := Sh.mk b5
 clear h3 ho3 hg3 s5 hq p3 b5 s6
 go_wp2_with fail
 refine HD.out.mono ?_
 rintro e w7 ⟨rfl, F7, h7, ho7, hg7⟩
 have s7 := S6.out.step h7 ho7 hg7
 have b7 := B6.out.step ho7 hg7
 obtain ⟨z0, z1, z2, z3, z4⟩ := b7.blk.five
 obtain ⟨y0, y1, y2, y3, y4⟩ := b7.blk.free5
 clear x0 x1
 have hst : Only (fun k => k = bi) w7 (w7.setCell ⟨bi, 2, none⟩ (.int .i64 0)) := (Only.refl (fun k => k = bi) _).setCell (p := ⟨bi, 2, none⟩) (.inl rfl) _
 have s8 := s7.cel b7 hst
 have b8 : Blk (w7.setCell ⟨bi, 2, none⟩ (.int .i64 0)) bi 74 #[.int .i64 2, .bool sp.ino.ex, .int .i64 0, .int .i64 (sp.ino.size : Nat), .string ⟨sp.ino.data.toArray⟩] := b7.blk.set_ 2 _
 obtain ⟨u0, u1, u2, u3, u4⟩ := b8.five
 have HP := Sh.mk (HFD.out _ _ s8.at_)
 have S8 := Sh.mk s8
 clear h7 ho7 hg7 s7 b7 hst s8 b8
 go_wp2_with fail
 refine HP.out.mono ?_
 rintro e w9 ⟨rfl, F9, h9, ho9, hg9⟩
 have s9 := S8.out.step h9 ho9 hg9
 have HI := Sh.mk (HID.out _ _ s9.at_)
 have S9 := Sh.mk s9
 clear h9 ho9 hg9 s9 z0 z1 z2 z3 z4 y0 y1 y2 y3 y4 u0 u1 u2 u3 u4
 go_wp2_with fail
 refine HI.out.mono ?_
 rintro e w10 ⟨rfl, F10, h10, ho10, hg10⟩
 have S10 := Sh.mk (S9.out.step h10 ho10 hg10)
 clear h10 ho10 hg10
 go_wp2_with fail
 go_ret
 exact ⟨rfl, S10.out.fin⟩
end
end Go.Proofs.YtklfkocebhhgcaaGreat
namespace Go.Proofs.YtklfkocebhhgcaaGreat
open Go.RowKit Go.Proofs Go.Shelf
set_option maxRecDepth 20000
attribute [local go_sem] Oper.semAt_some
section
variable {w wr w' : World} {F F1 F2 : Nat → Prop} {X : XC} {t c b : Nat} {M M' : List KV}
theorem pathOk_le {s : Str} (h : pathOk s = true) : s.length ≤ 1000 := by
 unfold pathOk at h
 simp only [Bool.and_eq_true, decide_eq_true_iff] at h
 exact h.1
set_option maxHeartbeats 2000000 in
theorem fs_rename_no (h : FsAt w F X t M c) (a b : Str) (ha : pathOk a = true) (hb : pathOk b = true) (na : a ≠ []) (nb : b ≠ []) (hpre : hasP (a ++ [47]) (b ++ [47]) = true) :
  Calls Tryz.prog 40 #[.pointer (some ⟨t, 0, none⟩), .string ⟨a.toArray⟩, .string ⟨b.toArray⟩] w (FsOut w F X t (.int .i64 1) M c) := by
 have hla := pathOk_le ha
 have hlb := pathOk_le hb
 have HA0 := path_ok a (by omega) w
 have HB0 := fun w1 => path_ok b (by omega) w1
 unfold PathAns at HA0 HB0
 rw [ha] at HA0
 rw [hb] at HB0
 have HH0 := fun w1 => hasPrefix_ok (b ++ [47]) (a ++ [47]) (by simp; omega) (by simp; omega) w1
 rw [hpre] at HH0
 have hta := bytes_text a [47]
 have htb := bytes_text b [47]
 have hga : ¬ 9223372036854775807 < a.length + 1 := by omega
 have hgb : ¬ 9223372036854775807 < b.length + 1 := by omega
 have l1 : (((namesOf a).length : Int) == 0) = false := by simp; exact fun e => na (namesOf_nil.1 e)
 have l2 : (((namesOf b).length : Int) == 0) = false := by simp; exact fun e => nb (namesOf_nil.1 e)
 obtain ⟨la, hla2⟩ : ∃ la, la = (namesOf a).length := ⟨_, rfl⟩
 obtain ⟨lb, hlb2⟩ : ∃ lb, lb = (namesOf b).length := ⟨_, rfl⟩
 rw [← hla2] at HA0 l1
 rw [← hlb2] at HB0 l2
 have HA := Sh.mk HA0
 have HB := Sh.mk HB0
 have HH := Sh.mk HH0
 have S0 := Sh.mk (FsSt.start h)
 clear h ha hb na nb hpre hla hlb HA0 HB0 HH0 hla2 hlb2
 go_enter Tryz.func40, Tryz.ntmps40
 go_wp2_with fail
 refine HA.out.mono ?_
 rintro e w1 ⟨⟨_, v, rfl, hown⟩ | ⟨hno, _⟩, ho1⟩
 case inr => cases hno
 obtain ⟨A, cp, rfl, _⟩ := hown.shape
 have S1 := Sh.mk (S0.out.quit ho1)
 clear hown ho1
 go_wp2_with fail
 refine (HB.out w1).mono ?_
 rintro e w2 ⟨⟨_, v, rfl, hown⟩ | ⟨hno, _⟩, ho2⟩
 case inr => cases hno
 obtain ⟨B, cp2, rfl, _⟩ := hown.shape
 have S2 := Sh.mk (S1.out.quit ho2)
 clear hown ho2
 go_wp2_with fail
 refine (HH.out w2).mono ?_
 rintro e w3 ⟨rfl, rfl⟩
 go_wp2_with fail
 go_ret
 exact ⟨rfl, S2.out.fin⟩
theorem fsM_nil : FsM [] 0 := ⟨fun n v _ h => (by cases h), fun s h => (by cases h), ⟨by decide, by decide⟩, Nat.le_refl _⟩
theorem inoDir_ok2 : inoDir.Ok := ⟨⟨by decide, by decide⟩, .inr (.inl ⟨rfl, rfl, rfl, rfl⟩)⟩
set_option maxHeartbeats 2000000 in
theorem fs_format (h : FsAt w F X t [] 0) : Calls Tryz.prog 35 #[.pointer (some ⟨t, 0, none⟩)] w (FsOut w F X t (.int .i64 0) (newM [] inoDir) 2) := by
 have HG0 := iget_ok h.kv h.fs.ino 1
 have hg : igetI [] 1 = (Ino.zero, 5) := rfl
 rw [hg] at HG0
 unfold inoA Ino.zero Ino.cells at HG0
 have HG := Sh.mk HG0
 have HC : Sh (∀ w1 F1, FsAt w1 F1 X t [] 0 → Calls Tryz.prog 59 #[.pointer (some ⟨t, 0, none⟩), .string ⟨#[110]⟩] w1 (FsOut w1 F1 X t (.tuple #[.int .i64 0, .int .i64 0]) [] 0)) := Sh.mk fun w1 F1 h1 => by
  refine (kv_count (pre := [110]) h1.kv (by decide) (by decide)).mono ?_
  rintro e w2 ⟨rfl, F', h2, h4, h5⟩
  exact ⟨rfl, F', ⟨h2, h1.fs, h1.few⟩, h4, h5⟩
 have hc1 : cntM [] = 1 := rfl
 have HN : Sh (∀ w1 F1, FsAt w1 F1 X t [] 0 → Calls Tryz.prog 85 #[.pointer (some ⟨t, 0, none⟩), .agg #[.int .i64 2, .bool false, .int .i64 1, .int .i64 0, .string ⟨#[]⟩]] w1 (FsOut w1 F1 X t (.tuple #[.int .i64 1, .int .i64 0]) (newM [] inoDir) 2)) := Sh.mk fun w1 F1 h1 => fs_new h1 inoDir_ok2 (by omega)
 have S0 := Sh.mk (FsSt.start h)
 clear h HG0 hg hc1
 go_enter Tryz.func35, Tryz.ntmps35
 go_wp2_with fail
 refine HG.out.mono ?_
 rintro e w1 ⟨rfl, F1, h1, ho1, hg1⟩
 have s1 := S0.out.step ⟨h1, fsM_nil, by omega⟩ ho1 hg1
 have s2 := s1.quit ((Only.refl NoB w1).alloc (.cells #[.int .i64 0, .bool false, .int .i64 0, .int .i64 0, .string ⟨#[]⟩] 74))
 have HCC := Sh.mk (HC.out _ _ s2.at_)
 have S2 := Sh.mk s2
 clear h1 ho1 hg1 s1 s2
 go_wp2_with fail
 refine HCC.out.mono ?_
 rintro e w3 ⟨rfl, F3, h3, ho3, hg3⟩
 have s3 := S2.out.step h3 ho3 hg3
 have HNN := Sh.mk (HN.out _ _ s3.at_)
 have S3 := Sh.mk s3
 clear h3 ho3 hg3 s3
 go_wp2_with fail
 refine HNN.out.mono ?_
 rintro e w4 ⟨rfl, F4, h4, ho4, hg4⟩
 have S4 := Sh.mk (S3.out.step h4 ho4 hg4)
 clear h4 ho4 hg4
 go_wp2_with fail
 go_ret
 exact ⟨rfl, S4.out.fin⟩
def OpenF (w : World) (e : Ending) (w' : World) : Prop :=
 ∃ t F X, e = .returned (.pointer (some ⟨t, 0, none⟩)) ∧ FsAt w' F X t (newM [] inoDir) 2 ∧ Only NoB w w' ∧ ∀ k, F k → w.heap.size ≤ k
set_option maxHeartbeats 1000000 in
theorem open15_ok : Calls Tryz.prog 30 #[] w (OpenF w) := by
 have HN := Lib.hid (new_ok 602 400 (by omega) (by omega) (by omega) (by omega) w)
 go_enter Tryz.func30, Tryz.ntmps30
 go_wp2_with fail
 refine HN.out.mono ?_
 rintro e w1 ⟨b, G, rfl, hd, ho1, hG⟩
 have hz : (DD.new 602 400).at_ 0 = 0 :: List.replicate 399 0 := by
  show DD.zero 400 = _
  unfold DD.zero
  exact List.replicate_succ (n := 399)
 have HW := Lib.hid (wopen_new hd 1 (by omega) (by show 3 + 3 * 1 ≤ 400; omega) (by show 1 + 1 < 602; omega) rfl 0 _ hz (by decide))
 have HO1 := Lib.hid ho1
 have HG := Lib.hid hG
 clear hd ho1 hG hz
 go_wp2_with fail
 refine HW.out.mono ?_
 rintro e w2 ⟨a, rfl, hw, ho2, ha⟩
 have hroom : ownOf 600 400 + 2 ≤ 600 := by decide
 have HP := Lib.hid (popen_ok (X := freshX a b 600 400) (D := freshD 600 400) hw (fresh_base (by omega) (by omega) (by omega) hroom) (fresh_begin a b 600 400).symm)
 have HO2 := Lib.hid (HO1.out.trans ho2)
 have HA := Lib.hid ha
 clear hw ho2 ha hroom
 go_wp2_with fail
 refine HP.out.mono ?_
 rintro e w3 ⟨pg, rfl, hp, ho3, hpg⟩
 have HB := Lib.hid (begin_ok hp)
 have HO3 := Lib.hid (HO2.out.trans ho3)
 have HPG := Lib.hid hpg
 clear hp ho3 hpg
 go_wp2_with fail
 refine HB.out.mono ?_
 rintro e w4 ⟨t, F, rfl, ht, ho4, hF⟩
 have hOk : Only NoB w w4 ∧ ∀ k, F k → w.heap.size ≤ k := by
  have s1 := HO1.out.size
  have s2 := HO2.out.size
  have s3 := HO3.out.size
  have hlow : ∀ k, (G k ∨ k = (freshX a b 600 400).a ∨ k = pg) → w.heap.size ≤ k := fun k hk => by
   rcases hk with hk | hk | hk
   ·exact HG.out k hk
   ·have := HA.out; have hk : k = a := hk; omega
   ·have := HPG.out; omega
  exact ⟨HO3.out.trans' ho4 fun k hk hf => by have := hlow k hf; omega, fun k hk => (hF k hk).elim (hlow k) fun h => by omega⟩
 have hfs : FsAt w4 F (freshX a b 600 400) t [] 0 := ⟨⟨freshD 600 400, .inl ht, fresh_bt (by omega) (by omega) (by omega), rfl, rfl, rfl, fun x hx => by cases hx⟩, fsM_nil, by omega⟩
 have HFM := Sh.mk (fs_format hfs)
 have HOK := Sh.mk hOk
 clear ht ho4 hF hOk hfs
 go_wp2_with fail
 refine HFM.out.mono ?_
 rintro e w5 ⟨rfl, F5, h5, ho5, hg5⟩
 have h6 := low_trans HOK.out.1 HOK.out.2 ho5 hg5
 have HR : Sh (OpenF w (.returned (.pointer (some ⟨t, 0, none⟩))) w5) := Sh.mk ⟨t, F5, freshX a b 600 400, rfl, h5, h6⟩
 clear h5 ho5 hg5 h6
 go_wp2_with fail
 go_ret
 exact HR.out
end
end Go.Proofs.YtklfkocebhhgcaaGreat
namespace Go.Proofs.YtklfkocebhhgcaaGreat
open Go.RowKit Go.Proofs Go.Shelf
set_option maxRecDepth 20000
attribute [local go_sem] Oper.semAt_some
instance : DecidableEq Ino := fun a b => decidable_of_iff (a.kind = b.kind ∧ a.ex = b.ex ∧ a.links = b.links ∧ a.size = b.size ∧ a.data = b.data) (by cases a; cases b; simp)
instance : DecidableEq Spot := fun a b => decidable_of_iff (a.num = b.num ∧ a.ino = b.ino ∧ a.err = b.err) (by cases a; cases b; simp)
instance : DecidableEq Place := fun a b => decidable_of_iff (a.dir = b.dir ∧ a.name = b.name ∧ a.err = b.err) (by cases a; cases b; simp)
def exM0 : List KV := newM [] inoDir
def exM1 : List KV := madeM exM0 [97] inoDir
def exM2 : List KV := wrM (chunkOf 400) (fpre (cntM exM1)) [104, 105] (madeM exM1 [97, 47, 102] (inoFile false 2))
def exM3 : List KV := addM (ins (ikey (3 : Nat)) (ibytes ⟨1, false, 2, 2, []⟩) exM2) (1 : Nat) [103] (3 : Nat)
def exM4 : List KV := ins (ikey (3 : Nat)) (ibytes ⟨1, false, 1, 2, []⟩) (remM exM3 (2 : Nat) [102])
def exM5 : List KV := del (ikey (2 : Nat)) (rid (fpre (2 : Nat)) (remM exM4 (1 : Nat) [97]))
theorem ex_a : (placeF exM0 [97]).err = 0 := by decide +kernel
theorem ex_b : (placeF exM1 [97, 47, 102]).err = 0 := by decide +kernel
theorem ex_c : statF exM2 [97, 47, 102] = ⟨3, ⟨1, false, 1, 2, []⟩, 0⟩ := by decide +kernel
theorem ex_d : placeF exM2 [103] = ⟨1, [103], 0⟩ := by decide +kernel
theorem ex_e : statF exM3 [103] = ⟨3, ⟨1, false, 2, 2, []⟩, 0⟩ := by decide +kernel
theorem ex_f : statF exM3 [97] = ⟨2, ⟨2, false, 1, 0, []⟩, 0⟩ ∧ under (dpre (2 : Nat)) exM3 ≠ [] := by decide +kernel
theorem ex_g : statF exM3 [97, 47, 102] = ⟨3, ⟨1, false, 2, 2, []⟩, 0⟩ ∧ aboveF exM3 [97, 47, 102] = ⟨2, [102], 0⟩ ∧ (findI exM3 (2 : Nat) [102]).2 = 0 := by decide +kernel
theorem ex_h : statF exM4 [97] = ⟨2, ⟨2, false, 1, 0, []⟩, 0⟩ ∧ under (dpre (2 : Nat)) exM4 = [] ∧ aboveF exM4 [97] = ⟨1, [97], 0⟩ ∧ (findI exM4 (1 : Nat) [97]).2 = 0 ∧ (get (ikey (2 : Nat)) exM4).isSome = true := by decide +kernel
theorem ex_i : statF exM5 [103] = ⟨3, ⟨1, false, 1, 2, []⟩, 0⟩ ∧ under (fpre (3 : Nat)) exM5 = chunks (chunkOf 400) (fpre (3 : Nat)) [104, 105] := by decide +kernel
theorem ex_j : pathOk [97] = true ∧ pathOk [97, 47, 98] = true ∧ hasP ([97] ++ [47]) ([97, 47, 98] ++ [47]) = true := by decide +kernel
theorem ok_file {l s : Nat} (h1 : 1 ≤ l ∧ l ≤ 65535) (h2 : s ≤ 65536) : (⟨1, false, l, s, []⟩ : Ino).Ok := ⟨h1, .inl ⟨rfl, h2, rfl⟩⟩
section
variable {w w' : World} {F : Nat → Prop} {X : XC} {t c : Nat}
theorem ex_1 (h : FsAt w F X t exM0 2) : Calls Tryz.prog 66 #[.pointer (some ⟨t, 0, none⟩), .string ⟨#[97]⟩] w (FsOut w F X t (.int .i64 0) exM1 5) := fs_mkdir h [97] (by decide) (by omega) ex_a
theorem ex_2 (h : FsAt w F X t exM1 5) : Calls Tryz.prog 67 #[.pointer (some ⟨t, 0, none⟩), .string ⟨#[97, 47, 102]⟩, .string ⟨#[104, 105]⟩, .bool false] w (FsOut w F X t (.int .i64 0) exM2 9) :=
 fs_file h [97, 47, 102] [104, 105] false (by decide) (by decide) (by decide) ex_b
theorem ex_3 (h : FsAt w F X t exM2 9) : Calls Tryz.prog 41 #[.pointer (some ⟨t, 0, none⟩), .string ⟨#[97, 47, 102]⟩, .string ⟨#[103]⟩] w (FsOut w F X t (.int .i64 0) exM3 11) := by
 have := fs_link h [97, 47, 102] [103] (by decide) (by decide) (by rw [ex_c]) (by rw [ex_c]; decide) (by rw [ex_d]) (by rw [ex_c]; exact ok_file (l := 2) ⟨by decide, by decide⟩ (by decide)) (by rw [ex_c]; exact ⟨by decide, by decide⟩) (by omega)
 rw [ex_c, ex_d] at this
 exact this
theorem ex_4 (h : FsAt w F X t exM3 11) : Calls Tryz.prog 39 #[.pointer (some ⟨t, 0, none⟩), .string ⟨#[103]⟩] w (FsOut w F X t (.tuple #[.int .i64 3, .agg #[.int .i64 1, .bool false, .int .i64 2, .int .i64 2, .string ⟨#[]⟩], .int .i64 0]) exM3 11) := by
 have := fs_stat h [103] (by decide)
 rw [ex_e] at this
 exact this
theorem ex_5 (h : FsAt w F X t exM3 11) : Calls Tryz.prog 42 #[.pointer (some ⟨t, 0, none⟩), .string ⟨#[97]⟩] w (FsOut w F X t (.int .i64 152) exM3 11) :=
 fs_remove_busy h [97] (by decide) (by decide) (by rw [ex_f.1]) (by rw [ex_f.1]) (by rw [ex_f.1]; exact ex_f.2) (by rw [ex_f.1]; exact ⟨by decide, by decide⟩)
theorem ex_6 (h : FsAt w F X t exM3 11) : Calls Tryz.prog 40 #[.pointer (some ⟨t, 0, none⟩), .string ⟨#[97]⟩, .string ⟨#[97, 47, 98]⟩] w (FsOut w F X t (.int .i64 1) exM3 11) :=
 fs_rename_no h [97] [97, 47, 98] ex_j.1 ex_j.2.1 (by decide) (by decide) ex_j.2.2
theorem ex_7 (h : FsAt w F X t exM3 11) : Calls Tryz.prog 42 #[.pointer (some ⟨t, 0, none⟩), .string ⟨#[97, 47, 102]⟩] w (FsOut w F X t (.int .i64 0) exM4 12) := by
 have := fs_remove_less h [97, 47, 102] (by decide) (by decide) (by rw [ex_g.1]) (by rw [ex_g.1]; decide) (by rw [ex_g.2.1]) (by rw [ex_g.2.1]; exact ex_g.2.2) (by rw [ex_g.1]; exact ok_file (l := 1) ⟨by decide, by decide⟩ (by decide)) (by rw [ex_g.1]; exact ⟨by decide, by decide⟩) (by omega) (by rw [ex_g.1]; exact ⟨by decide, by decide⟩)
 rw [ex_g.1, ex_g.2.1] at this
 exact this
theorem ex_8 (h : FsAt w F X t exM4 12) : Calls Tryz.prog 42 #[.pointer (some ⟨t, 0, none⟩), .string ⟨#[97]⟩] w (FsOut w F X t (.int .i64 0) exM5 12) := by
 have := fs_remove_last h [97] (by decide) (by decide) (by rw [ex_h.1]) (by rw [ex_h.1]) (by rw [ex_h.1]; exact ex_h.2.1) (by rw [ex_h.2.2.1]) (by rw [ex_h.2.2.1]; exact ex_h.2.2.2.1) (by rw [ex_h.1]) (by rw [ex_h.1]; exact ex_h.2.2.2.2) (by rw [ex_h.1]; exact ⟨by decide, by decide⟩)
 rw [ex_h.1, ex_h.2.2.1] at this
 exact this
theorem ex_9 (h : FsAt w F X t exM5 12) : Calls Tryz.prog 68 #[.pointer (some ⟨t, 0, none⟩), .string ⟨#[103]⟩] w (FsOut w F X t (.tuple #[.string ⟨#[104, 105]⟩, .int .i64 0]) exM5 12) := by
 have := fs_read h [103] [104, 105] (by decide) (by rw [ex_i.1]) (by rw [ex_i.1]) (by rw [ex_i.1]; exact ⟨by decide, by decide⟩) (by rw [ex_i.1]; decide) (by decide) (by rw [ex_i.1]; exact ex_i.2)
 rw [ex_i.1] at this
 exact this
def AwOut (w : World) (e : Ending) (w' : World) : Prop := e = .returned (.bool true) ∧ Only NoB w w'
set_option maxHeartbeats 4000000 in
theorem awake15_ok : Calls Tryz.prog 27 #[] w (AwOut w) := by
 have HT := Sh.mk (open15_ok (w := w))
 go_enter Tryz.func27, Tryz.ntmps27
 go_wp2_with fail
 refine HT.out.mono ?_
 rintro e w1 ⟨t, F, X, rfl, h1, ho, hF⟩
 have HO := Sh.mk ho
 have HF := Sh.mk hF
 have S1 := Sh.mk (FsSt.start (show FsAt w1 F X t exM0 2 from h1))
 have HC := Sh.mk (ex_1 S1.out.at_)
 clear h1 ho hF
 go_wp2_with fail
 refine HC.out.mono ?_
 rintro e w2 ⟨rfl, F2, h2, ho, hg⟩
 have S2 := Sh.mk (S1.out.step h2 ho hg)
 have HC := Sh.mk (ex_2 h2)
 clear h2 ho hg
 go_wp2_with fail
 refine HC.out.mono ?_
 rintro e w3 ⟨rfl, F3, h3, ho, hg⟩
 have S3 := Sh.mk (S2.out.step h3 ho hg)
 have HC := Sh.mk (ex_3 h3)
 clear h3 ho hg
 go_wp2_with fail
 refine HC.out.mono ?_
 rintro e w4 ⟨rfl, F4, h4, ho, hg⟩
 have S4 := Sh.mk (S3.out.step h4 ho hg)
 have HC := Sh.mk (ex_4 h4)
 clear h4 ho hg
 go_wp2_with fail
 refine HC.out.mono ?_
 rintro e w5 ⟨rfl, F5, h5, ho, hg⟩
 have s5 := S4.out.step h5 ho hg
 have hq : Only NoB w5 (w5.alloc (.cells #[.int .i64 1, .bool false, .int .i64 2, .int .i64 2, .string ⟨#[]⟩] 74)) := (Only.refl NoB w5).alloc _
 have b5 := Bx.new s5 #[.int .i64 1, .bool false, .int .i64 2, .int .i64 2, .string ⟨#[]⟩] 74
 have s6 := s5.quit hq
 have HC := Sh.mk (ex_5 s6.at_)
 have S6 := Sh.mk s6
 have B6 := Sh.mk b5
 obtain ⟨bi, hbi⟩ : ∃ bi, bi = w5.heap.size := ⟨_, rfl⟩
 clear h5 ho hg s5 hq b5 s6
 go_wp2_with fail
 refine HC.out.mono ?_
 rw [← hbi] at B6 ⊢
 clear hbi
 rintro e w7 ⟨rfl, F7, h7, ho, hg⟩
 have S7 := Sh.mk (S6.out.step h7 ho hg)
 have B7 := Sh.mk (B6.out.step ho hg)
 have HC := Sh.mk (ex_6 h7)
 clear h7 ho hg
 go_wp2_with fail
 refine HC.out.mono ?_
 rintro e w8 ⟨rfl, F8, h8, ho, hg⟩
 have S8 := Sh.mk (S7.out.step h8 ho hg)
 have B8 := Sh.mk (B7.out.step ho hg)
 have HC := Sh.mk (ex_7 h8)
 clear h8 ho hg
 go_wp2_with fail
 refine HC.out.mono ?_
 rintro e w9 ⟨rfl, F9, h9, ho, hg⟩
 have S9 := Sh.mk (S8.out.step h9 ho hg)
 have B9 := Sh.mk (B8.out.step ho hg)
 have HC := Sh.mk (ex_8 h9)
 clear h9 ho hg
 go_wp2_with fail
 refine HC.out.mono ?_
 rintro e w10 ⟨rfl, F10, h10, ho, hg⟩
 have S10 := Sh.mk (S9.out.step h10 ho hg)
 have B10 := Sh.mk (B9.out.step ho hg)
 have HC := Sh.mk (ex_9 h10)
 clear h10 ho hg
 go_wp2_with fail
 refine HC.out.mono ?_
 rintro e w11 ⟨rfl, F11, h11, ho, hg⟩
 have S11 := Sh.mk (S10.out.step h11 ho hg)
 have b11 := B10.out.step ho hg
 obtain ⟨x0, x1, x2, x3, x4⟩ := b11.blk.five
 have HE : Sh (AwOut w (.returned (.bool true)) w11) := Sh.mk ⟨rfl, (low_trans HO.out HF.out S11.out.on S11.out.gr).1⟩
 clear h11 ho hg b11
 go_wp2_with fail
 go_ret
 exact HE.out
end
end Go.Proofs.YtklfkocebhhgcaaGreat
