import Derived.Test.YtllodjcfcjmocaaWal7
import Derived.Test.YtllodjcfcjmocaaWal8
import Derived.Test.YtllodjcfcjmocaaAwake
/- THE DOCUMENT's EXAMPLE of a wal. -/
namespace Go.Proofs.Ytllodjcfcjmocaa
open Go.RowKit Go.Proofs

theorem wbytes_any (x : UInt8) (w : World) : Calls Try.prog 52 #[.int .u8 x.toNat] w (BytesOut w (bytesL x)) := by
  have hmk : ∀ w, (Instr.makeSlice 28 (.int .i64 16) (.int .i64 16)).run Try.prog w = .ok (.slice (some ⟨w.heap.size, 0, none⟩) 16 16) (w.alloc (.cells ((bytesL 0).map byteV).toArray 5)) := fun _ => by kernel_rfl
  simp only [bytesL, List.map_cons, List.map_nil, byteV] at hmk
  go_enter Try.func52, Try.ntmps52
  go_wp2_with fail
  go_ret
  refine ⟨_, rfl, rd_new_bytes w 5 (bytesL x), (Only.refl NoB w).alloc _⟩
theorem wbytes_1 (w : World) : Calls Try.prog 52 #[.int .u8 1] w (BytesOut w (bytesL 1)) := wbytes_any 1 w
theorem wbytes_2 (w : World) : Calls Try.prog 52 #[.int .u8 2] w (BytesOut w (bytesL 2)) := wbytes_any 2 w

/-- A wal of a law: all of it is new. -/
structure WLive (w0 w : World) (G : Nat → Prop) (a b : Nat) (W : WD) : Prop where
  wal : WalIn w G a b W
  only : Only NoB w0 w
  newG : ∀ k, G k → w0.heap.size ≤ k
  newa : w0.heap.size ≤ a
section
variable {w0 w w' : World} {G : Nat → Prop} {a b : Nat} {W W' : WD}
theorem WLive.quit (h : WLive w0 w G a b W) (ho : Only NoB w w') : WLive w0 w' G a b W := ⟨h.wal.quit ho, h.only.trans ho, h.newG, h.newa⟩
theorem WLive.deed {v : Value} {e : Ending} (h : WLive w0 w G a b W) (hd : WDeed w G a b v W' e w') : e = .returned v ∧ ∃ G', WLive w0 w' G' a b W' := by
  obtain ⟨he, G', h1, ho, hg⟩ := hd
  refine ⟨he, G', h1, only_new h.only ho fun k hk => hk.elim (h.newG k) fun e => by rw [e]; exact h.newa, fun k hk => ?_, h.newa⟩
  rcases hg k hk with h2 | h2
  · exact h.newG k h2
  · have := h.only.size; omega
theorem WLive.told {l : List UInt8} {er : Int} {e : Ending} (h : WLive w0 w G a b W) (hd : WRead w G a b l er W' e w') : ∃ v, e = .returned (.tuple #[v, .int .i64 er]) ∧ Bytes w' (Fresh w w') v l ∧ WLive w0 w' G a b W' ∧ Only (fun k => k = a) w w' := by
  obtain ⟨v, he, hb, h1, ho⟩ := hd
  exact ⟨v, he, hb, ⟨h1, only_new h.only ho fun k hk => by rw [hk]; exact h.newa, h.newG, h.newa⟩, ho⟩
end
/-- Changes that a law lays in a block of its own. -/
theorem changes_2 {w w5 : World} {s1 s2 : Int} {b1 b2 : List UInt8} {v1 v2 : Value} (ho : Only NoB w w5) (h1 : Bytes w5 (From w.heap.size) v1 b1) (h2 : Bytes w5 (From w.heap.size) v2 b2) :
    Changes (w5.alloc (.cells #[.int .i64 s1, v1, .int .i64 s2, v2] 69)) (News w (w5.alloc (.cells #[.int .i64 s1, v1, .int .i64 s2, v2] 69))) (.slice (some ⟨w5.heap.size, 0, none⟩) 2 2) [(s1, b1), (s2, b2)] := by
  have hb := Blk.new w5 69 #[.int .i64 s1, v1, .int .i64 s2, v2]
  have hm : ∀ {v : Value} {l : List UInt8}, Bytes w5 (From w.heap.size) v l → Bytes (w5.alloc (.cells #[.int .i64 s1, v1, .int .i64 s2, v2] 69)) (News w (w5.alloc (.cells #[.int .i64 s1, v1, .int .i64 s2, v2] 69))) v l := fun h =>
    (Rd.keep (w' := w5.alloc (.cells #[.int .i64 s1, v1, .int .i64 s2, v2] 69)) h fun k _ hlt => Below.heap_alloc _ _ _ hlt).mono fun k hk hlt => ⟨hk, hlt⟩
  refine ⟨_, _, rfl, Nat.le_refl _, fun i hi => ?_⟩
  rcases (show i = 0 ∨ i = 1 by simp at hi; omega) with rfl | rfl
  · exact ⟨_, 0, v1, rfl, ⟨ho.size, hb.lt⟩, hb.cell 0, hb.cell 1, hm h1⟩
  · exact ⟨_, 0, v2, rfl, ⟨ho.size, hb.lt⟩, hb.cell 2, hb.cell 3, hm h2⟩
theorem changes_3 {w w5 : World} {s1 s2 s3 : Int} {b1 b2 b3 : List UInt8} {v1 v2 v3 : Value} (ho : Only NoB w w5) (h1 : Bytes w5 (From w.heap.size) v1 b1) (h2 : Bytes w5 (From w.heap.size) v2 b2) (h3 : Bytes w5 (From w.heap.size) v3 b3) :
    Changes (w5.alloc (.cells #[.int .i64 s1, v1, .int .i64 s2, v2, .int .i64 s3, v3] 69)) (News w (w5.alloc (.cells #[.int .i64 s1, v1, .int .i64 s2, v2, .int .i64 s3, v3] 69))) (.slice (some ⟨w5.heap.size, 0, none⟩) 3 3) [(s1, b1), (s2, b2), (s3, b3)] := by
  have hb := Blk.new w5 69 #[.int .i64 s1, v1, .int .i64 s2, v2, .int .i64 s3, v3]
  have hm : ∀ {v : Value} {l : List UInt8}, Bytes w5 (From w.heap.size) v l → Bytes (w5.alloc (.cells #[.int .i64 s1, v1, .int .i64 s2, v2, .int .i64 s3, v3] 69)) (News w (w5.alloc (.cells #[.int .i64 s1, v1, .int .i64 s2, v2, .int .i64 s3, v3] 69))) v l := fun h =>
    (Rd.keep (w' := w5.alloc (.cells #[.int .i64 s1, v1, .int .i64 s2, v2, .int .i64 s3, v3] 69)) h fun k _ hlt => Below.heap_alloc _ _ _ hlt).mono fun k hk hlt => ⟨hk, hlt⟩
  refine ⟨_, _, rfl, Nat.le_refl _, fun i hi => ?_⟩
  rcases (show i = 0 ∨ i = 1 ∨ i = 2 by simp at hi; omega) with rfl | rfl | rfl
  · exact ⟨_, 0, v1, rfl, ⟨ho.size, hb.lt⟩, hb.cell 0, hb.cell 1, hm h1⟩
  · exact ⟨_, 0, v2, rfl, ⟨ho.size, hb.lt⟩, hb.cell 2, hb.cell 3, hm h2⟩
  · exact ⟨_, 0, v3, rfl, ⟨ho.size, hb.lt⟩, hb.cell 4, hb.cell 5, hm h3⟩
theorem changes_1 {w w5 : World} {s1 : Int} {b1 : List UInt8} {v1 : Value} (ho : Only NoB w w5) (h1 : Bytes w5 (From w.heap.size) v1 b1) :
    Changes (w5.alloc (.cells #[.int .i64 s1, v1] 69)) (News w (w5.alloc (.cells #[.int .i64 s1, v1] 69))) (.slice (some ⟨w5.heap.size, 0, none⟩) 1 1) [(s1, b1)] := by
  have hb := Blk.new w5 69 #[.int .i64 s1, v1]
  refine ⟨_, _, rfl, Nat.le_refl _, fun i hi => ?_⟩
  obtain rfl : i = 0 := by simp at hi; omega
  exact ⟨_, 0, v1, rfl, ⟨ho.size, hb.lt⟩, hb.cell 0, hb.cell 1, (Rd.keep (w' := w5.alloc (.cells #[.int .i64 s1, v1] 69)) h1 fun k _ hlt => Below.heap_alloc _ _ _ hlt).mono fun k hk hlt => ⟨hk, hlt⟩⟩

def awL : List Ch := [(0, bytesL 1), (4, bytesL 2)]
theorem aw_calm (cs : List UInt8) (hcs : cs.length = 16) : (runD (commitOps 2 16 awL cs) (DD.new 8 16)).2 = 0 ∧ DD.Calm 8 16 10 (runD (commitOps 2 16 awL cs) (DD.new 8 16)).1 ∧ (runD (commitOps 2 16 awL cs) (DD.new 8 16)).1.at_ 3 = bytesL 1 ∧ (runD (commitOps 2 16 awL cs) (DD.new 8 16)).1.at_ 7 = bytesL 2 := by
  obtain ⟨h1, h2, _, h4⟩ := commit_calm (n := 8) (m := 16) (k := 0) (log := 2) (l := awL) (cs := cs) (DD.Calm.new 8 16) (by omega) hcs (by omega) (by decide) (by decide)
  exact ⟨h1, h2, by rw [h4 3 (by omega)]; rfl, by rw [h4 7 (by omega)]; rfl⟩

theorem aw_valid {D : DD} (hn : D.n = 8) (hm : D.m = 16) : Valid ⟨D, 2, false⟩ [(0, bytesL 1), (1, bytesL 1), (2, bytesL 1)] :=
  ⟨fun c hc => by
    show 0 ≤ c.1 ∧ c.1 < ((D.n - 1 - 2 : Nat) : Int) ∧ c.2.length = D.m
    rw [hn, hm]
    revert c hc
    decide, by decide⟩
theorem aw_read {w : World} {G : Nat → Prop} {a b s : Nat} {D : DD} {l : List UInt8} (h : WalIn w G a b ⟨D, 2, false⟩) (hc : DD.Calm 8 16 10 D) (hs : s < 5) (hl : D.at_ (3 + s) = l) :
    Calls Try.prog 30 #[.pointer (some ⟨a, 0, none⟩), .int .i64 (s : Int)] w (WRead w G a b l 0 ⟨D, 2, false⟩) := by
  have hr := hc.read_calm (s := 3 + s) (by omega)
  rw [hl] at hr
  have := wread_ok h rfl s (by show s < D.n - 1 - 2; rw [hc.n]; omega) (by show D.n ≤ 65536; rw [hc.n]; omega)
  rw [show DD.read ((1 + (WD.mk D 2 false).log + s : Nat) : Int) (WD.mk D 2 false).D = (l, 0) from hr] at this
  exact this

set_option maxRecDepth 4096 in
set_option maxHeartbeats 8000000 in
theorem wawake_any (w : World) : Calls Try.prog 33 #[] w (Quit w (.bool true)) := by
  go_enter Try.func33, Try.ntmps33
  go_wp2_with fail
  refine (new_ok 8 16 (by omega) (by omega) (by omega) (by omega) _).mono ?_
  rintro e w1 ⟨b, F, rfl, hd, ho1, hF⟩
  have HOP := Lib.hid (wopen_new hd 2 (by omega) (by decide) (by decide) rfl 0 (List.replicate 15 0) rfl (by decide))
  have O1 := Lib.hid ho1
  have HF := Lib.hid hF
  clear hd ho1 hF
  go_wp2_with fail
  refine HOP.out.mono ?_
  rintro e w2 ⟨a, rfl, hw, ho2, ha⟩
  have L2 : Hid (WLive w w2 F a b ⟨DD.new 8 16, 2, false⟩) := Lib.hid ⟨hw, O1.out.trans ho2, HF.out, Nat.le_trans O1.out.size ha⟩
  clear hw ho2 ha HOP O1 HF
  go_wp2_with fail
  refine (wbytes_1 _).mono ?_
  rintro e w3 ⟨v1, rfl, hb1, ho3⟩
  obtain ⟨A1, c1, rfl, hvx⟩ := id hb1
  clear hvx
  have B1 := Lib.hid hb1
  have O3 := Lib.hid ho3
  clear hb1 ho3
  go_wp2_with fail
  refine (wbytes_2 _).mono ?_
  rintro e w4 ⟨v2, rfl, hb2, ho4⟩
  have hb1 : Bytes w4 (From w2.heap.size) (.slice A1 (bytesL 1).length c1) (bytesL 1) := Rd.only B1.out ho4 fun _ _ => id
  have hb2' : Bytes w4 (From w2.heap.size) v2 (bytesL 2) := hb2.mono fun k hk _ => Nat.le_trans O3.out.size hk
  obtain ⟨A2, c2, rfl, hvx⟩ := id hb2'
  clear hvx
  have o4 := O3.out.trans ho4
  have hch := changes_2 (s1 := 0) (s2 := 4) o4 hb1 hb2'
  have O5 := Lib.hid (o4.alloc (.cells #[.int .i64 0, .slice A1 (bytesL 1).length c1, .int .i64 4, .slice A2 (bytesL 2).length c2] 69))
  have hcm := wcommit_any (n := 8) (m := 16) (q := 0) (L2.out.quit O5.out).wal rfl hch (fun k hk hg => by have := L2.out.wal.disk.1 k hg; have := hk.1; omega) (fun k hk => hk.2) ⟨by decide, by decide⟩ (by decide) (by decide) (by decide) (Bnd.new 8 16) (by decide)
  have HCM := Lib.hid hcm
  clear hcm hch hb1 hb2 hb2' ho4 o4 B1 O3
  go_wp2_with fail
  refine HCM.out.mono ?_
  rintro e w6 hq
  rw [if_neg (by decide), if_neg (by decide)] at hq
  obtain ⟨cs, hcs, hq⟩ := hq
  obtain ⟨rfl, G6, h6⟩ := (L2.out.quit O5.out).deed hq
  obtain ⟨z0, hcalm, h3, h7⟩ := aw_calm cs hcs
  rw [show commitOps 2 (DD.new 8 16).m [(0, bytesL 1), (4, bytesL 2)] cs = commitOps 2 16 awL cs from rfl, z0] at h6
  rw [show (runD (commitOps 2 (DD.new 8 16).m [(0, bytesL 1), (4, bytesL 2)] cs) (DD.new 8 16)).2 = 0 from z0]
  obtain ⟨D1, hD1⟩ : ∃ D1, D1 = (runD (commitOps 2 16 awL cs) (DD.new 8 16)).1 := ⟨_, rfl⟩
  rw [← hD1] at h6 hcalm h3 h7
  have L6 : Hid (WLive w w6 G6 a b ⟨D1, 2, false⟩) := Lib.hid h6
  have CA := Lib.hid hcalm
  have R3 := Lib.hid (aw_read (s := 0) h6.wal hcalm (by omega) h3)
  have R7 : Hid (∀ w7, WalIn w7 G6 a b ⟨D1, 2, false⟩ → Calls Try.prog 30 #[.pointer (some ⟨a, 0, none⟩), .int .i64 4] w7 (WRead w7 G6 a b (bytesL 2) 0 ⟨D1, 2, false⟩)) := Lib.hid fun w7 h => aw_read (s := 4) h hcalm (by omega) h7
  clear h6 hcalm h3 h7 hD1 z0 hq hcs HCM O5 L2
  go_wp2_with fail
  refine R3.out.mono ?_
  rintro e w7 hq
  obtain ⟨v7, rfl, hb7, hl7, ho7⟩ := L6.out.told hq
  obtain ⟨A7, c7, rfl, hvx⟩ := id hb7
  clear hvx hq
  have B7 : Hid (Bytes w7 (From w6.heap.size) (.slice A7 (bytesL 1).length c7) (bytesL 1)) := Lib.hid (hb7.mono fun k hk _ => hk.1)
  have L7 := Lib.hid hl7
  have R7 := Lib.hid (R7.out w7 hl7.wal)
  have HA : Hid (∀ k, w6.heap.size ≤ k → ¬ (G6 k ∨ k = a)) := Lib.hid fun k hk h => h.elim (fun h => by have := L6.out.wal.disk.1 k h; omega) fun h => by have := L6.out.wal.blk.lt; omega
  have S7 := Lib.hid ho7.size
  clear hb7 hl7 ho7 R3 L6
  go_wp2_with fail
  refine R7.out.mono ?_
  rintro e w8 hq
  obtain ⟨v8, rfl, hb8, hl8, ho8⟩ := L7.out.told hq
  obtain ⟨A8, c8, rfl, hvx⟩ := id hb8
  clear hvx hq
  have hb7 := Rd.only B7.out ho8 fun k hk e => HA.out k hk (.inr e)
  have B7 : Hid (Bytes w8 (From w6.heap.size) (.slice A7 (bytesL 1).length c7) (bytesL 1)) := Lib.hid hb7
  have B8 : Hid (Bytes w8 (From w6.heap.size) (.slice A8 (bytesL 2).length c8) (bytesL 2)) := Lib.hid (hb8.mono fun k hk _ => Nat.le_trans S7.out hk.1)
  have L8 := Lib.hid hl8
  clear hb7 hb8 hl8 ho8 R7 L7 S7
  go_wp2_with fail
  refine (wbytes_1 _).mono ?_
  rintro e w9 ⟨v1, rfl, hb1, ho9⟩
  obtain ⟨A1, c1, rfl, hvx⟩ := id hb1
  clear hvx
  have C1 := Lib.hid hb1
  have O9 := Lib.hid ho9
  clear hb1 ho9
  go_wp2_with fail
  refine (wbytes_1 _).mono ?_
  rintro e w10 ⟨v2, rfl, hb2, ho10⟩
  obtain ⟨A2, c2, rfl, hvx⟩ := id hb2
  clear hvx
  have C1 : Hid (Bytes w10 (From w8.heap.size) (.slice A1 (bytesL 1).length c1) (bytesL 1)) := Lib.hid (Rd.only C1.out ho10 fun _ _ => id)
  have C2 : Hid (Bytes w10 (From w8.heap.size) (.slice A2 (bytesL 1).length c2) (bytesL 1)) := Lib.hid (hb2.mono fun k hk _ => Nat.le_trans O9.out.size hk)
  have O10 := Lib.hid (O9.out.trans ho10)
  clear hb2 ho10 O9
  go_wp2_with fail
  refine (wbytes_1 _).mono ?_
  rintro e w11 ⟨v3, rfl, hb3, ho11⟩
  obtain ⟨A3, c3, rfl, hvx⟩ := id hb3
  clear hvx
  have hch := changes_3 (s1 := 0) (s2 := 1) (s3 := 2) (O10.out.trans ho11) (Rd.only C1.out ho11 fun _ _ => id) (Rd.only C2.out ho11 fun _ _ => id) (hb3.mono fun k hk _ => Nat.le_trans O10.out.size hk)
  have O11 := Lib.hid ((O10.out.trans ho11).alloc (.cells #[.int .i64 0, .slice A1 (bytesL 1).length c1, .int .i64 1, .slice A2 (bytesL 1).length c2, .int .i64 2, .slice A3 (bytesL 1).length c3] 69))
  have hcm := wcommit_any (n := 8) (m := 16) (q := 10) (L8.out.quit O11.out).wal rfl hch (fun k hk hg => by have := L8.out.wal.disk.1 k hg; have := hk.1; omega) (fun k hk => hk.2) (aw_valid CA.out.n CA.out.m) (by show D1.m ≤ 4096; rw [CA.out.m]; omega) (by show D1.n ≤ 65536; rw [CA.out.n]; omega) (by decide) ⟨CA.out.n, CA.out.m, CA.out.cache, CA.out.deeds, CA.out.keep⟩ (by decide)
  have HCM := Lib.hid hcm
  clear hcm hch hb3 ho11 C1 C2 O10
  go_wp2_with fail
  refine HCM.out.mono ?_
  rintro e w12 hq
  rw [if_pos (by decide)] at hq
  obtain ⟨_, _, _, hoq, _⟩ := id hq
  obtain ⟨rfl, G12, h12⟩ := (L8.out.quit O11.out).deed hq
  have L12 := Lib.hid h12
  have B7 : Hid (Bytes w12 (From w6.heap.size) (.slice A7 (bytesL 1).length c7) (bytesL 1)) := Lib.hid (Rd.only (Rd.only B7.out O11.out fun _ _ => id) hoq fun k hk h => HA.out k hk h)
  have B8 : Hid (Bytes w12 (From w6.heap.size) (.slice A8 (bytesL 2).length c8) (bytesL 2)) := Lib.hid (Rd.only (Rd.only B8.out O11.out fun _ _ => id) hoq fun k hk h => HA.out k hk h)
  clear hq hoq h12 HCM O11 L8 HA
  go_wp2_with fail
  refine (wbytes_1 _).mono ?_
  rintro e w13 ⟨v1, rfl, hb1, ho13⟩
  obtain ⟨A1, c1, rfl, hvx⟩ := id hb1
  clear hvx
  have hch := changes_1 (s1 := 5) ho13 hb1
  have O13 := Lib.hid (ho13.alloc (.cells #[.int .i64 5, .slice A1 (bytesL 1).length c1] 69))
  have hcm := wcommit_bad (L12.out.quit O13.out).wal rfl 5 (bytesL 1) hch (by decide) (by show ((D1.n - 1 - 2 : Nat) : Int) ≤ 5; rw [CA.out.n]; decide)
  have HCM := Lib.hid hcm
  clear hcm hch hb1 ho13
  go_wp2_with fail
  refine HCM.out.mono ?_
  rintro e w14 ⟨rfl, ho14⟩
  have O14 := Lib.hid (O13.out.trans ho14)
  have L14 := Lib.hid (L12.out.quit O14.out)
  have B7 : Hid (Bytes w14 (From w6.heap.size) (.slice A7 (bytesL 1).length c7) (bytesL 1)) := Lib.hid (Rd.only B7.out O14.out fun _ _ => id)
  have B8 : Hid (Bytes w14 (From w6.heap.size) (.slice A8 (bytesL 2).length c8) (bytesL 2)) := Lib.hid (Rd.only B8.out O14.out fun _ _ => id)
  clear ho14 HCM O13 O14 L12
  have hsz := wsize_any L14.out.wal
  rw [show (((WD.mk D1 2 false).D.n - 1 - (WD.mk D1 2 false).log : Nat) : Int) = 5 by show ((D1.n - 1 - 2 : Nat) : Int) = 5; rw [CA.out.n]; rfl, show (((WD.mk D1 2 false).D.m : Nat) : Int) = 16 by show ((D1.m : Nat) : Int) = 16; rw [CA.out.m]; rfl] at hsz
  have HSZ := Lib.hid hsz
  clear hsz
  go_wp2_with fail
  refine HSZ.out.mono ?_
  rintro e w15 ⟨rfl, rfl⟩
  have L15 := Lib.hid (L14.out.quit (Only.drew (Only.refl NoB w14)))
  obtain ⟨w15, hw15⟩ : ∃ w15, w15 = w14.drew := ⟨_, rfl⟩
  have B7 : Hid (Bytes w15 (From w6.heap.size) (.slice A7 (bytesL 1).length c7) (bytesL 1)) := Lib.hid (by rw [hw15]; exact Rd.keep B7.out fun _ _ _ => rfl)
  have B8 : Hid (Bytes w15 (From w6.heap.size) (.slice A8 (bytesL 2).length c8) (bytesL 2)) := Lib.hid (by rw [hw15]; exact Rd.keep B8.out fun _ _ _ => rfl)
  rw [← hw15] at L15 ⊢
  clear hw15 L14 HSZ
  have MKS : Hid (∀ w', Only NoB w15 w' → Only NoB w15 w' ∧ (convert 28 9 (.slice A7 (bytesL 1).length c7)).run Try.prog w' = .ok (.string ⟨(bytesL 1).toArray⟩) w' ∧ (convert 28 9 (.slice A8 (bytesL 2).length c8)).run Try.prog w' = .ok (.string ⟨(bytesL 2).toArray⟩) w') := Lib.hid fun w' ho =>
    ⟨ho, conv_bytes (Rd.only B7.out ho fun _ _ => id), conv_bytes (Rd.only B8.out ho fun _ _ => id)⟩
  have LG : Hid (∀ w', Only NoB w15 w' → Calls Try.prog 34 #[.pointer (some ⟨a, 0, none⟩)] w' fun e w'' => e = .returned (.int .i64 2) ∧ w' = w'') := Lib.hid fun w' ho => wlog_any (L15.out.quit ho).wal
  go_wp2_with fail
  go_region_held (fun w' => Only NoB w15 w' ∧ (convert 28 9 (.slice A7 (bytesL 1).length c7)).run Try.prog w' = .ok (.string ⟨(bytesL 1).toArray⟩) w' ∧ (convert 28 9 (.slice A8 (bytesL 2).length c8)).run Try.prog w' = .ok (.string ⟨(bytesL 2).toArray⟩) w')
    (first | assumption | (exact MKS.out _ (Only.drew (Only.refl _ _))) | (exact MKS.out _ h17) | (exact MKS.out _ h16))
    (first
      | (go_at_call_of 52 (Value.int .u8 1); refine (wbytes_1 _).mono ?_; rintro e w16 ⟨v', rfl, hb, ho⟩; have h16 := (Only.drew (Only.refl NoB w15)).trans ho; have hcv := conv_bytes hb; unfold strOf at hcv)
      | (go_at_call_of 52 (Value.int .u8 2); refine (wbytes_2 _).mono ?_; rintro e w17 ⟨v', rfl, hb, ho⟩; have h17 := h16.trans ho; have hcv := conv_bytes hb; unfold strOf at hcv)
      | (go_at_call 34; refine (LG.out _ h17).mono ?_; rintro e w' ⟨rfl, rfl⟩))
  have HE := Lib.hid (L15.out.only.trans h17)
  clear hcv hb ho h16 h17
  go_wp2_with fail
  go_ret
  exact ⟨rfl, HE.out⟩
end Go.Proofs.Ytllodjcfcjmocaa
