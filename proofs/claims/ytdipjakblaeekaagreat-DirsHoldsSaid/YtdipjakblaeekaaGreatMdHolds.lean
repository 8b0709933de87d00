import Derived.Test.YtdipjakblaeekaaGreatMd7
set_option linter.unusedVariables false
set_option linter.unusedSimpArgs false
namespace Go.Proofs.YtdipjakblaeekaaGreat
open Go.RowKit Go.Proofs Go.Shelf
set_option maxRecDepth 20000
attribute [local go_sem] Oper.semAt_some
section
variable {w w' wr : World} {F F' : Nat → Prop} {X : XC} {t c b : Nat} {M M' : List KV} {ty : TypeId} {cs : Array Value}
structure HR (w wr : World) (X : XC) (t : Nat) (F : Nat → Prop) (M : List KV) (c : Nat) : Prop where
  dr : DrAt wr F X t M c
  on : Only NoB w wr
  low : ∀ q, F q → w.heap.size ≤ q
theorem HR.step {c' : Nat} (h : HR w wr X t F M c) (hd : DrAt w' F' X t M' c') (ho : Only F wr w') (hg : Grows F F' wr) : HR w w' X t F' M' c' :=
  have h2 := low_trans h.on h.low ho hg
  ⟨hd, h2.1, h2.2⟩
theorem HR.quit (h : HR w wr X t F M c) (ho : Only NoB wr w') : HR w w' X t F M c := ⟨h.dr.quit ho, h.on.trans ho, h.low⟩
theorem HR.more {c' : Nat} (h : HR w wr X t F M c) (hc : c ≤ c') (h2 : c' ≤ 280) : HR w wr X t F M c' := ⟨⟨h.dr.kv.mono hc, h.dr.dir, Nat.le_trans h.dr.len hc, h2⟩, h.on, h.low⟩
structure Boxed (w : World) (F : Nat → Prop) (b : Nat) (ty : TypeId) (cs : Array Value) : Prop where
  blk : Blk w b ty cs
  out : ¬ F b
theorem Boxed.step (h : Boxed w F b ty cs) (ho : Only F w w') (hg : Grows F F' w) : Boxed w' F' b ty cs :=
  ⟨h.blk.only ho h.out, fun hf => (hg b hf).elim h.out fun hl => by have := h.blk.lt; omega⟩
theorem Boxed.quit (h : Boxed w F b ty cs) (ho : Only NoB w w') : Boxed w' F b ty cs := ⟨h.blk.only ho id, h.out⟩
theorem HR.box {cs : Array Value} (h : HR w wr X t F M c) (hw : w' = wr.alloc (.cells cs ty)) : HR w w' X t F M c ∧ Boxed w' F wr.heap.size ty cs := by
  subst hw
  exact ⟨h.quit ((Only.refl NoB wr).alloc _), Blk.new _ _ _, fun hf => by have := h.dr.kv.lt _ hf; omega⟩
def HMid (w : World) (X : XC) (t b : Nat) (cs : Array Value) (wv : Value) (L : List KV) (m : Int) (c : Nat) (wc : World) : Prop :=
  ∃ F M, HR w wc X t F M c ∧ Boxed wc F b 60 cs ∧ Aside wc F 2 wv L.length (nameL L) ∧ lsL M m = L
def HLoop (w : World) (X : XC) (t b : Nat) (cs : Array Value) (lv : Value) (M : List KV) (n : Int) (c : Nat) (wc : World) : Prop :=
  ∃ F, HR w wc X t F M c ∧ Boxed wc F b 60 cs ∧ Aside wc F 2 lv (lsL M n).length (nameL (lsL M n))
theorem lsL_add {m n : Int} {A : Str} {x : Int} (hm : dirN m) (h : m ≠ n) : lsL (addM M n A x) m = lsL M m := by unfold lsL; rw [if_pos hm, if_pos hm, under_add hm h]
theorem lsL_rem {m n : Int} {A : Str} (hm : dirN m) (h : m ≠ n) : lsL (remM M n A) m = lsL M m := by unfold lsL; rw [if_pos hm, if_pos hm, under_rem hm h]
set_option maxHeartbeats 8000000 in
theorem dirsHolds_main (v : Value) (l : List OpS) (hl : SOps w (Old w) v l) : Calls Tryz.prog 7 #[v] w (Quit w (.bool true)) := by
  obtain ⟨A, cap, rfl, _⟩ := hl.shape
  have HA := Lib.hid fun w1 => awake14_ok (w := w1)
  have HF := Lib.hid (few14_any w _ _ l hl)
  have HT := Lib.hid (open14_ok (w := w))
  have HL := Lib.hid hl
  clear hl
  go_enter Tryz.func7, Tryz.ntmps7
  go_wp2_with fail
  refine HF.out.mono ?_
  rintro e w1 ⟨b, rfl, rfl, hb⟩
  cases b with
  | false =>
    clear hb
    go_wp2_with fail
    go_ret
    exact ⟨rfl, Only.refl _ _⟩
  | true =>
    have FEW := Lib.hid (hb rfl)
    have hl80 := (hb rfl).1
    clear hb
    go_wp2_with fail
    refine HT.out.mono ?_
    rintro e w1 ⟨t, F, X, rfl, hk, ho, hF⟩
    have H0 : Hid (HR w w1 X t F [] 0) := Lib.hid ⟨dr_new hk, ho, hF⟩
    clear hk ho hF HF HT
    go_wp2_with fail
    go_loopw [4] (fun i wr => ∃ k : Nat, k ≤ l.length ∧ i = .int .i64 k ∧ ∃ F M, Hid (HR w wr X t F M k)) (fun i _ => l.length - (intOf i).toNat)
    case atStart => exact ⟨0, Nat.zero_le _, rfl, _, _, H0⟩
    case round =>
      obtain ⟨k, hk, rfl, F1, M, HI⟩ := hrel
      clear H0
      by_cases hlt : k < l.length
      · obtain ⟨wq, rfl⟩ : ∃ wq, wq = wr := ⟨_, rfl⟩
        obtain ⟨g, off, cc, hve, _, hg, ho⟩ := HL.out.open_ hlt
        injection hve with e1 e2 e3
        subst e1; subst e3
        obtain ⟨o, hoe⟩ : ∃ o, o = l[k] := ⟨_, rfl⟩
        rw [← hoe] at ho
        have HO := ho.only HI.out.on id
        have x0 := HO.a
        have x1 := HO.b
        have x2 := HO.c
        have x3 := HO.s
        obtain ⟨cl, hcl2⟩ : ∃ cl, cl = o.a := ⟨_, rfl⟩
        obtain ⟨od, hod⟩ : ∃ od, od = o.b := ⟨_, rfl⟩
        obtain ⟨on, hon⟩ : ∃ on, on = o.c := ⟨_, rfl⟩
        obtain ⟨os, hos⟩ : ∃ os, os = o.s := ⟨_, rfl⟩
        rw [← hcl2] at x0
        rw [← hod] at x1
        rw [← hon] at x2
        rw [← hos] at x3
        obtain ⟨W1, hW1⟩ : ∃ W1, W1 = wq.alloc (.cells #[.int .i64 cl, .int .i64 od, .int .i64 on, .string ⟨os.toArray⟩] 60) := ⟨_, rfl⟩
        obtain ⟨h1, h2⟩ := HI.out.box hW1
        have y1 : W1.cell? ⟨wq.heap.size, 1, none⟩ = some (.int .i64 od) := h2.blk.cell 1
        have H1 := Lib.hid h1
        have B1 := Lib.hid h2
        have HW1 := Lib.hid hW1
        rw [hW1] at y1
        clear hoe HO hcl2 hod hon hos h1 h2 hW1 ho hg
        go_upto_if 43 with fail
        rw [← HW1.out]
        go_cut [6] (fun s6 wc => ∃ m : Int, s6 = .int .i64 m ∧ dirN m ∧ m ≠ od ∧ wc = W1)
        case first =>
          by_cases h1 : od = 1
          · have HD := Lib.hid h1
            have he : (od == 1) = true := by simpa using h1
            clear h1
            go_wp2_with fail
            go_meet
            exact ⟨2, rfl, ⟨by omega, by omega⟩, by rw [HD.out]; omega, rfl⟩
          · have he : (od == 1) = false := by simpa using h1
            go_wp2_with fail
            go_meet
            exact ⟨1, rfl, ⟨by omega, by omega⟩, by omega, rfl⟩
        case rest =>
          obtain ⟨m, rfl, hm, hmo, rfl⟩ := hcut
          have HM := Lib.hid hm
          have HMO := Lib.hid hmo
          have HLS := Lib.hid (dr_list H1.out.dr m)
          clear hm hmo x0 x1 x2 x3 y1
          go_wp2_with fail
          refine HLS.out.mono ?_
          rintro e w2 ⟨wv, F2, rfl, has, hd, ho, hg⟩
          have h2 := H1.out.step hd ho hg
          have b2 := B1.out.step ho hg
          obtain ⟨L, hL⟩ : ∃ L, L = lsL M m := ⟨_, rfl⟩
          rw [← hL] at has
          obtain ⟨wA, wcp, rfl, _⟩ := has.shape
          obtain ⟨le, hle⟩ : ∃ le, le = lsE m := ⟨_, rfl⟩
          rw [← hle]
          have H2 := Lib.hid h2
          have B2 := Lib.hid b2
          have A2 := Lib.hid has
          have HLM := Lib.hid hL
          have x0 : w2.cell? ⟨wq.heap.size, 0, none⟩ = some (.int .i64 cl) := b2.blk.cell 0
          have x1 : w2.cell? ⟨wq.heap.size, 1, none⟩ = some (.int .i64 od) := b2.blk.cell 1
          have x2 : w2.cell? ⟨wq.heap.size, 2, none⟩ = some (.int .i64 on) := b2.blk.cell 2
          have x3 : w2.cell? ⟨wq.heap.size, 3, none⟩ = some (.string ⟨os.toArray⟩) := b2.blk.cell 3
          clear has hd ho hg h2 b2 hL hle HLS
          go_upto_if 52 with fail
          go_cut [] (fun wc => HMid w X t wq.heap.size #[.int .i64 cl, .int .i64 od, .int .i64 on, .string ⟨os.toArray⟩] (.slice wA L.length wcp) L m (k + 1) wc)
          case first =>
            as_aux_lemma =>
              have hk280 : k + 1 ≤ 280 := by have := FEW.out.1; omega
              by_cases c2 : cl = 2
              · subst c2
                have HFI := Lib.hid (dr_find H2.out.dr od os)
                by_cases hz : (findI M od os).2 = 0
                · obtain ⟨q, hq⟩ : ∃ q, q = (findI M od os).1 := ⟨_, rfl⟩
                  have hfi : findI M od os = (q, 0) := by rw [hq, ← hz]
                  rw [hfi] at HFI
                  have HFA := Lib.hid hfi
                  have HRM := Lib.hid (find_rem hz)
                  unfold findA at HFI
                  clear hz hq hfi
                  go_wp2_with fail
                  refine HFI.out.mono ?_
                  rintro e w3 ⟨rfl, F3, hd, ho, hg⟩
                  have h3 := H2.out.step hd ho hg
                  have b3 := B2.out.step ho hg
                  have H3 := Lib.hid h3
                  have B3 := Lib.hid b3
                  have A3 := Lib.hid (A2.out.step ho hg)
                  have x1 : w3.cell? ⟨wq.heap.size, 1, none⟩ = some (.int .i64 od) := b3.blk.cell 1
                  have x2 : w3.cell? ⟨wq.heap.size, 2, none⟩ = some (.int .i64 on) := b3.blk.cell 2
                  have x3 : w3.cell? ⟨wq.heap.size, 3, none⟩ = some (.string ⟨os.toArray⟩) := b3.blk.cell 3
                  have HFI := dr_remove hd od os
                  rw [HFA.out] at HFI
                  have HFI := Lib.hid HFI
                  unfold findA at HFI
                  clear hd ho hg h3 b3
                  go_wp2_with fail
                  refine HFI.out.mono ?_
                  rintro e w4 ⟨rfl, F4, hd, ho, hg⟩
                  have h4 := H3.out.step hd ho hg
                  have b4 := B3.out.step ho hg
                  have H4 := Lib.hid h4
                  have B4 := Lib.hid b4
                  have A4 := Lib.hid (A3.out.step ho hg)
                  have x1 : w4.cell? ⟨wq.heap.size, 1, none⟩ = some (.int .i64 od) := b4.blk.cell 1
                  have x2 : w4.cell? ⟨wq.heap.size, 2, none⟩ = some (.int .i64 on) := b4.blk.cell 2
                  have x3 : w4.cell? ⟨wq.heap.size, 3, none⟩ = some (.string ⟨os.toArray⟩) := b4.blk.cell 3
                  have HFI := dr_find hd od os
                  rw [HRM.out] at HFI
                  have HFI := Lib.hid HFI
                  unfold findA at HFI
                  clear hd ho hg h4 b4
                  go_wp2_with fail
                  refine HFI.out.mono ?_
                  rintro e w5 ⟨rfl, F5, hd, ho, hg⟩
                  have h5 := H4.out.step hd ho hg
                  have b5 := B4.out.step ho hg
                  have H5 := Lib.hid h5
                  have B5 := Lib.hid b5
                  have A5 := Lib.hid (A4.out.step ho hg)
                  have x1 : w5.cell? ⟨wq.heap.size, 1, none⟩ = some (.int .i64 od) := b5.blk.cell 1
                  have x2 : w5.cell? ⟨wq.heap.size, 2, none⟩ = some (.int .i64 on) := b5.blk.cell 2
                  have x3 : w5.cell? ⟨wq.heap.size, 3, none⟩ = some (.string ⟨os.toArray⟩) := b5.blk.cell 3
                  have HMD : Hid (HMid w X t wq.heap.size #[.int .i64 2, .int .i64 od, .int .i64 on, .string ⟨os.toArray⟩] (.slice wA L.length wcp) L m (k + 1) w5) := Lib.hid ⟨F5, _, h5.more (by omega) hk280, b5, A5.out, by rw [lsL_rem HM.out HMO.out, HLM.out]⟩
                  clear hd ho hg h5 b5
                  go_wp2_with fail
                  go_meet
                  exact HMD.out
                · have hrb := rem_bad hz
                  have hfb := findI_bad hz
                  obtain ⟨q, hq⟩ : ∃ q, q = (findI M od os).2 := ⟨_, rfl⟩
                  have hfi : findI M od os = (0, q) := by rw [hq, ← hfb]
                  rw [← hq] at hz
                  rw [hfi] at HFI
                  have HFA := Lib.hid hfi
                  have HRB := Lib.hid hrb
                  have hz : ¬ (q : Int) = 0 := by omega
                  have hz2 : ((q : Int) == 0) = false := by simpa using hz
                  unfold findA at HFI
                  clear hq hfi hfb hrb
                  go_wp2_with fail
                  refine HFI.out.mono ?_
                  rintro e w3 ⟨rfl, F3, hd, ho, hg⟩
                  have h3 := H2.out.step hd ho hg
                  have b3 := B2.out.step ho hg
                  have H3 := Lib.hid h3
                  have B3 := Lib.hid b3
                  have A3 := Lib.hid (A2.out.step ho hg)
                  have x1 : w3.cell? ⟨wq.heap.size, 1, none⟩ = some (.int .i64 od) := b3.blk.cell 1
                  have x2 : w3.cell? ⟨wq.heap.size, 2, none⟩ = some (.int .i64 on) := b3.blk.cell 2
                  have x3 : w3.cell? ⟨wq.heap.size, 3, none⟩ = some (.string ⟨os.toArray⟩) := b3.blk.cell 3
                  have HFI := dr_remove hd od os
                  rw [HFA.out, HRB.out] at HFI
                  have HFI := Lib.hid HFI
                  unfold findA at HFI
                  clear hd ho hg h3 b3
                  go_wp2_with fail
                  refine HFI.out.mono ?_
                  rintro e w4 ⟨rfl, F4, hd, ho, hg⟩
                  have h4 := H3.out.step hd ho hg
                  have b4 := B3.out.step ho hg
                  have H4 := Lib.hid h4
                  have B4 := Lib.hid b4
                  have A4 := Lib.hid (A3.out.step ho hg)
                  have x1 : w4.cell? ⟨wq.heap.size, 1, none⟩ = some (.int .i64 od) := b4.blk.cell 1
                  have x2 : w4.cell? ⟨wq.heap.size, 2, none⟩ = some (.int .i64 on) := b4.blk.cell 2
                  have x3 : w4.cell? ⟨wq.heap.size, 3, none⟩ = some (.string ⟨os.toArray⟩) := b4.blk.cell 3
                  have HFI := dr_find hd od os
                  rw [HFA.out] at HFI
                  have HFI := Lib.hid HFI
                  unfold findA at HFI
                  clear hd ho hg h4 b4
                  go_wp2_with fail
                  refine HFI.out.mono ?_
                  rintro e w5 ⟨rfl, F5, hd, ho, hg⟩
                  have h5 := H4.out.step hd ho hg
                  have b5 := B4.out.step ho hg
                  have H5 := Lib.hid h5
                  have B5 := Lib.hid b5
                  have A5 := Lib.hid (A4.out.step ho hg)
                  have x1 : w5.cell? ⟨wq.heap.size, 1, none⟩ = some (.int .i64 od) := b5.blk.cell 1
                  have x2 : w5.cell? ⟨wq.heap.size, 2, none⟩ = some (.int .i64 on) := b5.blk.cell 2
                  have x3 : w5.cell? ⟨wq.heap.size, 3, none⟩ = some (.string ⟨os.toArray⟩) := b5.blk.cell 3
                  have HMD : Hid (HMid w X t wq.heap.size #[.int .i64 2, .int .i64 od, .int .i64 on, .string ⟨os.toArray⟩] (.slice wA L.length wcp) L m (k + 1) w5) := Lib.hid ⟨F5, _, h5.more (by omega) hk280, b5, A5.out, by rw [HLM.out]⟩
                  clear hd ho hg h5 b5
                  go_wp2_with fail
                  go_meet
                  exact HMD.out
              · have c2' : (cl == 2) = false := by simpa using c2
                have HFI := dr_add H2.out.dr (by omega) od os on
                obtain ⟨q, hq⟩ : ∃ q, q = addE M od os on := ⟨_, rfl⟩
                rw [← hq] at HFI
                have HFI := Lib.hid HFI
                have HAE := Lib.hid hq
                clear hq
                by_cases hz : q = 0
                · have h0 : addE M od os on = 0 := by rw [← HAE.out, hz]
                  have HFA := Lib.hid (find_add H2.out.dr.kv.srt h0)
                  have h5 := (addE_ok h0).2.1
                  have HON : Hid ((on.toNat : Int) = on) := Lib.hid (by have := h5.1; omega)
                  subst hz
                  clear h0 h5
                  go_wp2_with fail
                  refine HFI.out.mono ?_
                  rintro e w3 ⟨rfl, F3, hd, ho, hg⟩
                  have h3 := H2.out.step hd ho hg
                  have b3 := B2.out.step ho hg
                  have H3 := Lib.hid h3
                  have B3 := Lib.hid b3
                  have A3 := Lib.hid (A2.out.step ho hg)
                  have x1 : w3.cell? ⟨wq.heap.size, 1, none⟩ = some (.int .i64 od) := b3.blk.cell 1
                  have x2 : w3.cell? ⟨wq.heap.size, 2, none⟩ = some (.int .i64 on) := b3.blk.cell 2
                  have x3 : w3.cell? ⟨wq.heap.size, 3, none⟩ = some (.string ⟨os.toArray⟩) := b3.blk.cell 3
                  have HFI := dr_find hd od os
                  rw [HFA.out] at HFI
                  unfold findA at HFI
                  rw [HON.out] at HFI
                  have HFI := Lib.hid HFI
                  clear hd ho hg h3 b3
                  go_wp2_with fail
                  refine HFI.out.mono ?_
                  rintro e w4 ⟨rfl, F4, hd, ho, hg⟩
                  have h4 := H3.out.step hd ho hg
                  have b4 := B3.out.step ho hg
                  have H4 := Lib.hid h4
                  have B4 := Lib.hid b4
                  have A4 := Lib.hid (A3.out.step ho hg)
                  have x1 : w4.cell? ⟨wq.heap.size, 1, none⟩ = some (.int .i64 od) := b4.blk.cell 1
                  have x2 : w4.cell? ⟨wq.heap.size, 2, none⟩ = some (.int .i64 on) := b4.blk.cell 2
                  have x3 : w4.cell? ⟨wq.heap.size, 3, none⟩ = some (.string ⟨os.toArray⟩) := b4.blk.cell 3
                  have HMD : Hid (HMid w X t wq.heap.size #[.int .i64 cl, .int .i64 od, .int .i64 on, .string ⟨os.toArray⟩] (.slice wA L.length wcp) L m (k + 1) w4) := Lib.hid ⟨F4, _, h4, b4, A4.out, by rw [lsL_add HM.out HMO.out, HLM.out]⟩
                  clear hd ho hg h4 b4
                  go_wp2_with fail
                  go_meet
                  exact HMD.out
                · have hz : ¬ (q : Int) = 0 := by omega
                  have hz2 : ((q : Int) == 0) = false := by simpa using hz
                  go_wp2_with fail
                  refine HFI.out.mono ?_
                  rintro e w3 ⟨rfl, F3, hd, ho, hg⟩
                  have h3 := H2.out.step hd ho hg
                  have b3 := B2.out.step ho hg
                  have H3 := Lib.hid h3
                  have B3 := Lib.hid b3
                  have A3 := Lib.hid (A2.out.step ho hg)
                  have x1 : w3.cell? ⟨wq.heap.size, 1, none⟩ = some (.int .i64 od) := b3.blk.cell 1
                  have x2 : w3.cell? ⟨wq.heap.size, 2, none⟩ = some (.int .i64 on) := b3.blk.cell 2
                  have x3 : w3.cell? ⟨wq.heap.size, 3, none⟩ = some (.string ⟨os.toArray⟩) := b3.blk.cell 3
                  have HMD : Hid (HMid w X t wq.heap.size #[.int .i64 cl, .int .i64 od, .int .i64 on, .string ⟨os.toArray⟩] (.slice wA L.length wcp) L m (k + 1) w3) := Lib.hid ⟨F3, _, h3, b3, A3.out, by rw [lsL_add HM.out HMO.out, HLM.out]⟩
                  clear hd ho hg h3 b3
                  go_wp2_with fail
                  go_meet
                  exact HMD.out
          case rest =>
            obtain ⟨F3, M3, h3, b3, a3, hl3⟩ := hcut
            have H3 := Lib.hid h3
            have B3 := Lib.hid b3
            have A3 := Lib.hid a3
            have HL3 := Lib.hid hl3
            have hL280 : L.length ≤ 280 := by rw [← hl3]; exact h3.dr.ls_len m
            have hq280 : (lsL M3 od).length ≤ 280 := h3.dr.ls_len od
            have HLS := Lib.hid (dr_list h3.dr m)
            clear h3 b3 a3 hl3 x0 x1 x2 x3
            go_wp2_with fail
            refine HLS.out.mono ?_
            rintro e w4 ⟨nv, F4, rfl, has, hd, ho, hg⟩
            rw [HL3.out] at has
            obtain ⟨nA, ncp, rfl, _⟩ := has.shape
            obtain ⟨le4, hle4⟩ : ∃ le4, le4 = lsE m := ⟨_, rfl⟩
            rw [← hle4]
            have H4 := Lib.hid (H3.out.step hd ho hg)
            have B4 := Lib.hid (B3.out.step ho hg)
            have A4 := Lib.hid (A3.out.step ho hg)
            have N4 := Lib.hid has
            clear has hd ho hg hle4 HLS
            go_wp2_with fail
            go_loopw [19] (fun i wr => ∃ j : Nat, j ≤ L.length ∧ i = .int .i64 j ∧ Only NoB w4 wr) (fun i _ => L.length - (intOf i).toNat)
            case atStart => exact ⟨0, Nat.zero_le _, rfl, Only.refl _ _⟩
            case round =>
              as_aux_lemma =>
                obtain ⟨j, hj, rfl, hoj⟩ := hrel
                by_cases hjl : j < L.length
                · obtain ⟨K1, r1, _⟩ := A4.out
                  obtain ⟨gw, offw, c1, hve1, _, _, hcell1⟩ := r1.open_ (by omega)
                  injection hve1 with q1 q2 q3
                  subst q1; subst q3
                  obtain ⟨K2, r2, _⟩ := N4.out
                  obtain ⟨gn, offn, c2, hve2, _, _, hcell2⟩ := r2.open_ (by omega)
                  injection hve2 with q4 q5 q6
                  subst q4; subst q6
                  obtain ⟨p1, p2⟩ := nameL_get (List.getElem?_eq_getElem hjl)
                  have u1 : wr.drew.cell? _ = _ := hoj.drew.cell (hcell1 _ _ p1) id
                  have u2 : wr.drew.cell? _ = _ := hoj.drew.cell (hcell1 _ _ p2) id
                  have v1 : wr.drew.cell? _ = _ := hoj.drew.cell (hcell2 _ _ p1) id
                  have v2 : wr.drew.cell? _ = _ := hoj.drew.cell (hcell2 _ _ p2) id
                  rw [← Nat.add_assoc] at u2 v2
                  obtain ⟨nm, hnm⟩ : ∃ nm, nm = L[j].1.drop 4 := ⟨_, rfl⟩
                  obtain ⟨nq, hnq⟩ : ∃ nq, nq = numV L[j].2 := ⟨_, rfl⟩
                  rw [← hnm] at u1 v1
                  rw [← hnq] at u2 v2
                  unfold strV at u1 v1
                  have HOJ := Lib.hid hoj
                  have hj1 : (j : Int) < (L.length : Int) := by omega
                  have hj0 : (0 : Int) ≤ (j : Int) := by omega
                  clear r1 r2 hcell1 hcell2 p1 p2 hnm hnq hoj q2 q5
                  go_upto_region 30 with fail
                  refine hB _ 9 (fun w' => w'.cell? ⟨gw, offw + j * 2, none⟩ = some (.string ⟨nm.toArray⟩) ∧ w'.cell? ⟨gw, offw + j * 2 + 1, none⟩ = some (.int .i64 (nq : Nat)) ∧ w'.cell? ⟨gn, offn + j * 2, none⟩ = some (.string ⟨nm.toArray⟩) ∧ w'.cell? ⟨gn, offn + j * 2 + 1, none⟩ = some (.int .i64 (nq : Nat))) (⟨u1, u2, v1, v2⟩) (fun hHeld => ?_)
                  refine hT 0 148 ?_
                  refine hT 1 149 ?_
                  refine hT 2 150 ?_
                  refine hT 3 151 ?_
                  refine hT 4 152 ?_
                  refine hT 5 153 ?_
                  refine hT 6 154 ?_
                  refine hT 7 155 ?_
                  refine hV 8 156 (.bool false) ?_
                  refine wpAnyH_done (by kernel_rfl) ?_ _
                  refine NoPanic.normal ?_
                  go_wp2_with fail
                  exact ⟨⟨j + 1, by omega, by go_num, HOJ.out.drew⟩, by simp [intOf]; omega⟩
                · obtain rfl : j = L.length := by omega
                  have H5 := Lib.hid (H4.out.quit hoj)
                  have B5 := Lib.hid (B4.out.quit hoj)
                  have y1 : wr.cell? ⟨wq.heap.size, 1, none⟩ = some (.int .i64 od) := B5.out.blk.cell 1
                  have HLS := Lib.hid (dr_list H5.out.dr od)
                  obtain ⟨w5, hw5⟩ : ∃ w5, w5 = wr := ⟨_, rfl⟩
                  rw [← hw5] at H5 B5 y1 HLS ⊢
                  clear hoj hw5
                  go_wp2_with fail
                  refine HLS.out.mono ?_
                  rintro e w6 ⟨lv, F6, rfl, has, hd, ho, hg⟩
                  obtain ⟨lA, lcp, rfl, _⟩ := has.shape
                  obtain ⟨le6, hle6⟩ : ∃ le6, le6 = lsE od := ⟨_, rfl⟩
                  rw [← hle6]
                  have hsr := H3.out.dr.kv.srt
                  have HFX : Hid (∀ j (h : j < (lsL M3 od).length), findI M3 od ((lsL M3 od)[j].1.drop 4) = (numV (lsL M3 od)[j].2, 0)) := Lib.hid fun j h => ls_find hsr H3.out.dr.dir h
                  have HLX : Hid (∀ i j (hi : i < j) (h : j < (lsL M3 od).length), lts ((lsL M3 od)[i].1.drop 4) ((lsL M3 od)[j].1.drop 4)) := Lib.hid fun i j hi h => ls_lt hsr H3.out.dr.dir hi h
                  have H6 := Lib.hid (show HLoop w X t wq.heap.size #[.int .i64 cl, .int .i64 od, .int .i64 on, .string ⟨os.toArray⟩] (.slice lA (lsL M3 od).length lcp) M3 od (k + 1) w6 from ⟨F6, H5.out.step hd ho hg, B5.out.step ho hg, has⟩)
                  clear has hd ho hg hle6 HLS y1 hsr
                  go_wp2_with fail
                  go_loopw [22] (fun i wr => ∃ j : Nat, j ≤ (lsL M3 od).length ∧ i = .int .i64 j ∧ Hid (HLoop w X t wq.heap.size #[.int .i64 cl, .int .i64 od, .int .i64 on, .string ⟨os.toArray⟩] (.slice lA (lsL M3 od).length lcp) M3 od (k + 1) wr)) (fun i _ => (lsL M3 od).length - (intOf i).toNat)
                  case atStart => exact ⟨0, Nat.zero_le _, rfl, H6⟩
                  case round =>
                    as_aux_lemma =>
                      clear H6
                      obtain ⟨j, hj, rfl, HI6⟩ := hrel
                      by_cases hjl : j < (lsL M3 od).length
                      · obtain ⟨F7, h7, b7, a7⟩ := HI6.out
                        obtain ⟨K3, r3, hK3⟩ := id a7
                        obtain ⟨g3, off3, c3, hve3, _, hg3, hcell3⟩ := r3.open_ (by omega)
                        injection hve3 with q1 q2 q3
                        subst q1; subst q3
                        have HG3 : Hid (¬ F7 g3) := Lib.hid (hK3 _ hg3).2
                        obtain ⟨p1, p2⟩ := nameL_get (List.getElem?_eq_getElem hjl)
                        have u1 := hcell3 _ _ p1
                        have u2 := hcell3 _ _ p2
                        rw [← Nat.add_assoc] at u2
                        have hff := HFX.out j hjl
                        have hprev : ∀ jp, jp < j → ∃ np : Str, wr.cell? ⟨g3, off3 + jp * 2, none⟩ = some (.string ⟨np.toArray⟩) ∧ lts np ((lsL M3 od)[j].1.drop 4) := fun jp hjp =>
                          ⟨(lsL M3 od)[jp].1.drop 4, hcell3 _ _ (nameL_get (List.getElem?_eq_getElem (Nat.lt_trans hjp hjl))).1, HLX.out jp j hjp hjl⟩
                        obtain ⟨nm, hnm⟩ : ∃ nm, nm = (lsL M3 od)[j].1.drop 4 := ⟨_, rfl⟩
                        obtain ⟨nq, hnq⟩ : ∃ nq, nq = numV (lsL M3 od)[j].2 := ⟨_, rfl⟩
                        rw [← hnm] at u1 hff hprev
                        rw [← hnq] at u2 hff
                        unfold strV at u1
                        have HFI : Hid (∀ z, Only NoB wr z → Calls Tryz.prog 29 #[.pointer (some ⟨t, 0, none⟩), .int .i64 od, .string ⟨nm.toArray⟩] z (DrOut z F7 X t (.tuple #[.int .i64 (nq : Nat), .int .i64 0]) M3 (k + 1))) := Lib.hid fun z hz => by
                          have := dr_find (h7.quit hz).dr od nm
                          rw [hff] at this
                          exact this
                        have y1 : wr.cell? ⟨wq.heap.size, 1, none⟩ = some (.int .i64 od) := b7.blk.cell 1
                        have H7 := Lib.hid h7
                        have B7 := Lib.hid b7
                        have A7 := Lib.hid a7
                        have HPV := Lib.hid hprev
                        have hj1 : (j : Int) < ((lsL M3 od).length : Int) := by omega
                        have hj0 : (0 : Int) ≤ (j : Int) := by omega
                        clear r3 hcell3 p1 p2 hnm hnq hff hprev h7 b7 a7 hK3 hg3 q2
                        go_upto_region 36 with fail
                        refine hB _ 14 (fun w' => w'.cell? ⟨wq.heap.size, 1, none⟩ = some (.int .i64 od) ∧ w'.cell? ⟨g3, off3 + j * 2, none⟩ = some (.string ⟨nm.toArray⟩)) (⟨(Only.refl NoB wr).drew.cell y1 id, (Only.refl NoB wr).drew.cell u1 id⟩) (fun hHeld => ?_)
                        refine hT 0 171 ?_
                        refine hT 1 172 ?_
                        refine hT 2 173 ?_
                        refine hT 3 174 ?_
                        refine hT 4 175 ?_
                        refine hT 5 176 ?_
                        refine hT 6 177 ?_
                        refine hT 7 178 ?_
                        refine hE 8 (fun o ho K hK => ?_)
                        cases ho
                        go_simp
                        refine (HFI.out _ (Only.refl NoB wr).drew).mono ?_
                        rintro e z2 ⟨rfl, F8, hd, ho, hg⟩
                        have h8 := (H7.out.quit (Only.refl NoB wr).drew).step hd ho hg
                        have b8 := (B7.out.quit (Only.refl NoB wr).drew).step ho hg
                        have a8 := (A7.out.quit (Only.refl NoB wr).drew).step ho hg
                        have hop : Only F7 wr z2 := ((Only.refl NoB wr).drew.mono fun _ _ h => h.elim).trans ho
                        have z1 : z2.cell? ⟨wq.heap.size, 1, none⟩ = some (.int .i64 od) := b8.blk.cell 1
                        have z3 : z2.cell? ⟨g3, off3 + j * 2, none⟩ = some (.string ⟨nm.toArray⟩) := hop.cell u1 HG3.out
                        have z4 : z2.cell? ⟨g3, off3 + j * 2 + 1, none⟩ = some (.int .i64 (nq : Nat)) := hop.cell u2 HG3.out
                        have HOP := Lib.hid hop
                        have H8 := Lib.hid (show HLoop w X t wq.heap.size #[.int .i64 cl, .int .i64 od, .int .i64 on, .string ⟨os.toArray⟩] (.slice (some ⟨g3, off3, none⟩) (lsL M3 od).length lcp) M3 od (k + 1) z2 from ⟨F8, h8, b8, a8⟩)
                        clear hd ho hg h8 b8 a8 hop
                        refine hK.out _ _ (⟨z1, z3⟩) (fun hHeld => ?_)
                        clear hK K
                        try simp only [Act.put, List.setIfInBounds_toArray, List.set_cons_zero, List.set_cons_succ]
                        refine hT 9 170 ?_
                        refine hT 10 180 ?_
                        refine hT 11 181 ?_
                        refine hT 12 23 ?_
                        refine hT 13 24 ?_
                        refine wpAnyH_done (by kernel_rfl) ?_ _
                        refine NoPanic.normal ?_
                        go_upto_region 37 with fail
                        by_cases hjz : (0 : Int) < (j : Int)
                        · obtain ⟨jp, hjp⟩ : ∃ jp, j = jp + 1 := ⟨j - 1, by omega⟩
                          obtain ⟨np, hnp, hlt9⟩ := HPV.out jp (by omega)
                          have z5 : z2.cell? ⟨g3, off3 + jp * 2, none⟩ = some (.string ⟨np.toArray⟩) := HOP.out.cell hnp HG3.out
                          have e1 : Go.Op.bytesLess nm np = false := by simpa [lts] using lts_asymm hlt9
                          have e2 : (nm == np) = false := by simpa using fun e : nm = np => lts_ne hlt9 e.symm
                          have e3 : IntKind.i64.wrap ((j : Int) - 1) = (jp : Int) := by rw [IntKind.wrap_i64]; omega
                          have e4 : IntKind.i64.wrap (jp : Int) = (jp : Int) := by rw [IntKind.wrap_i64]; omega
                          have hp1 : (jp : Int) < ((lsL M3 od).length : Int) := by omega
                          have hp0 : (0 : Int) ≤ (jp : Int) := by omega
                          have e5 : wrap64 ((j : Int) - 1) = (jp : Int) := by unfold wrap64; omega
                          have hjn : 0 < j := by omega
                          clear hnp hlt9 hjp
                          refine hB _ 29 (fun w' => w'.cell? ⟨g3, off3 + j * 2, none⟩ = some (.string ⟨nm.toArray⟩) ∧ w'.cell? ⟨g3, off3 + j * 2 + 1, none⟩ = some (.int .i64 (nq : Nat)) ∧ w'.cell? ⟨g3, off3 + jp * 2, none⟩ = some (.string ⟨np.toArray⟩)) (⟨(Only.refl NoB z2).drew.cell z3 id, (Only.refl NoB z2).drew.cell z4 id, (Only.refl NoB z2).drew.cell z5 id⟩) (fun hHeld => ?_)
                          refine hT 0 182 ?_
                          refine hT 1 183 ?_
                          refine hT 2 184 ?_
                          refine hT 3 185 ?_
                          refine hT 4 186 ?_
                          refine hT 5 187 ?_
                          refine hV 6 188 (.bool false) ?_
                          refine hT 7 189 ?_
                          refine hT 8 190 ?_
                          refine hV 9 191 (.bool false) ?_
                          refine hT 10 192 ?_
                          refine hT 11 193 ?_
                          refine hT 12 194 ?_
                          refine hV 13 195 (.bool true) ?_
                          refine hT 14 196 ?_
                          refine hT 15 197 ?_
                          refine hT 16 198 ?_
                          refine hT 17 199 ?_
                          refine hT 18 200 ?_
                          refine hT 19 201 ?_
                          refine hT 20 202 ?_
                          refine hT 21 203 ?_
                          refine hV 22 204 (.int .i64 (jp : Nat)) ?_
                          refine hT 23 205 ?_
                          refine hT 24 206 ?_
                          refine hT 25 207 ?_
                          refine hV 26 208 (.bool false) ?_
                          refine hT 27 209 ?_
                          refine hT 28 210 ?_
                          refine wpAnyH_done (by kernel_rfl) ?_ _
                          refine NoPanic.normal ?_
                          go_wp2_with fail
                          obtain ⟨F8, h8, b8, a8⟩ := H8.out
                          exact ⟨⟨j + 1, by omega, by go_num, Lib.hid ⟨F8, h8.quit (Only.refl NoB z2).drew, b8.quit (Only.refl NoB z2).drew, a8.quit (Only.refl NoB z2).drew⟩⟩, by simp [intOf]; omega⟩
                        · skip
                          refine hB _ 29 (fun w' => w'.cell? ⟨g3, off3 + j * 2, none⟩ = some (.string ⟨nm.toArray⟩) ∧ w'.cell? ⟨g3, off3 + j * 2 + 1, none⟩ = some (.int .i64 (nq : Nat))) (⟨(Only.refl NoB z2).drew.cell z3 id, (Only.refl NoB z2).drew.cell z4 id⟩) (fun hHeld => ?_)
                          refine hT 0 182 ?_
                          refine hT 1 183 ?_
                          refine hT 2 184 ?_
                          refine hT 3 185 ?_
                          refine hT 4 186 ?_
                          refine hT 5 187 ?_
                          refine hV 6 188 (.bool false) ?_
                          refine hT 7 189 ?_
                          refine hT 8 190 ?_
                          refine hV 9 191 (.bool false) ?_
                          refine hT 10 192 ?_
                          refine hT 11 193 ?_
                          refine hT 12 194 ?_
                          refine hV 13 195 (.bool false) ?_ (hy := by (intro o ho w' hSw; cases ho; (try dsimp only at hSw); go_simp; omega))
                          refine hT 14 196 ?_
                          refine hK 15 197 ?_
                          refine hK 16 198 ?_
                          refine hK 17 199 ?_
                          refine hK 18 200 ?_
                          refine hK 19 201 ?_
                          refine hK 20 202 ?_
                          refine hK 21 203 ?_
                          refine hK 22 204 ?_
                          refine hK 23 205 ?_
                          refine hK 24 206 ?_
                          refine hK 25 207 ?_
                          refine hK 26 208 ?_
                          refine hT 27 209 ?_
                          refine hT 28 210 ?_
                          refine wpAnyH_done (by kernel_rfl) ?_ _
                          refine NoPanic.normal ?_
                          go_wp2_with fail
                          obtain ⟨F8, h8, b8, a8⟩ := H8.out
                          exact ⟨⟨j + 1, by omega, by go_num, Lib.hid ⟨F8, h8.quit (Only.refl NoB z2).drew, b8.quit (Only.refl NoB z2).drew, a8.quit (Only.refl NoB z2).drew⟩⟩, by simp [intOf]; omega⟩
                      · obtain ⟨F7, h7, b7, a7⟩ := HI6.out
                        have H7 := Lib.hid h7
                        clear h7 b7 a7
                        go_wp2_with fail
                        exact ⟨⟨k + 1, by omega, by go_num, _, _, H7⟩, by simp [intOf]; omega⟩
      · obtain rfl : k = l.length := by omega
        have HAW := Lib.hid (HA.out wr)
        have HON := Lib.hid HI.out.on
        clear hlt
        go_wp2_with fail
        refine HAW.out.mono ?_
        rintro e w3 ⟨rfl, ho⟩
        have HE := Lib.hid (HON.out.trans ho)
        clear ho
        go_wp2_with fail
        go_ret
        exact ⟨rfl, HE.out⟩
theorem dirsHolds_walk (w : World) (v : Value) (l : List OpS) (hl : SOps w (Old w) v l) (_ : ∀ o ∈ l, (Lit.int .i64 o.b).wf = true ∧ (Lit.int .i64 o.c).wf = true ∧ o.s.length ≤ maxLen) :
    Calls Tryz.prog 7 #[v] w (Quit w (.bool true)) := dirsHolds_main v l hl
end
end Go.Proofs.YtdipjakblaeekaaGreat
