import Derived.Test.YtpjfheadolphgaaGreatMh5
import Derived.Lib.ConvBytes
import Derived.Laws.BitsAllLaws
import Derived.Lib.Bytealg
import Derived.Laws.Runes
import Derived.OwnWalkIn
set_option linter.unusedVariables false
set_option linter.unusedSimpArgs false
namespace Go.Proofs.YtpjfheadolphgaaGreat
open Go.RowKit Go.Proofs Go.Shelf
set_option maxRecDepth 20000
attribute [local go_sem] Oper.semAt_some
section
variable {w w' : World} {b1 b3 b4 : Nat} {A : Str} {cs : Array Value} {v : Bool}
def ChkOut (w : World) (b3 b4 : Nat) (v' : Bool) (cs' : Array Value) (e : Ending) (w' : World) : Prop :=
 (∃ u, e = .returned u) ∧ Blk w' b4 4 #[.bool v'] ∧ Blk w' b3 144 cs' ∧ Only (fun k => k = b4 ∨ k = b3) w w'
theorem chkOut_of {w1 : World} {cs3 : Array Value} (h4 : Blk w1 b4 4 #[.bool v]) (h3 : Blk w1 b3 144 cs3) (hne : b4 ≠ b3) (ho : Only NoB w w1) (v' : Bool) (i : Nat) (u x : Value) : ChkOut w b3 b4 v' (cs3.setIfInBounds i u) (.returned x) ((w1.setCell ⟨b4, 0, none⟩ (.bool v')).setCell ⟨b3, i, none⟩ u) := by
 refine ⟨⟨_, rfl⟩, ?_, ?_, ((ho.mono fun _ _ h => h.elim).setCell (p := ⟨b4, 0, none⟩) (.inl (.inl rfl)) _).setCell (p := ⟨b3, i, none⟩) (.inl (.inr rfl)) _⟩
 ·exact (h4.set_ 0 (.bool v')).far (p := ⟨b3, i, none⟩) hne _
 ·exact (h3.far (p := ⟨b4, 0, none⟩) hne.symm _).set_ i u
theorem check1_any {k : Int} {B : Str} {n m : Int} (h4 : Blk w b4 4 #[.bool v]) (h1 : Blk w b1 144 cs) (hcs : cs[1]? = some (.string ⟨A.toArray⟩)) (h3 : Blk w b3 144 #[.int .i64 k, .string ⟨A.toArray⟩, .string ⟨B.toArray⟩, .int .i64 n, .int .i64 m]) :
  Calls Tryz.prog 248 #[.pointer (some ⟨b4, 0, none⟩), .pointer (some ⟨b1, 0, none⟩), .pointer (some ⟨b3, 0, none⟩)] w (ChkOut w b3 b4 (v && nameOk A) #[.int .i64 k, .string ⟨#[]⟩, .string ⟨B.toArray⟩, .int .i64 n, .int .i64 m]) := by
 have x0 := h4.cell 0
 have x1 := h4.frozen 0
 have z1 := h3.frozen 1
 have z0 : w.cell? ⟨b3, 1, none⟩ = some (.string ⟨A.toArray⟩) := h3.cell 1
 have y0 : w.cell? ⟨b1, 1, none⟩ = some (.string ⟨A.toArray⟩) := by rw [h1.cell]; exact hcs
 have hne : b4 ≠ b3 := h4.ne_ h3 (by decide)
 have HN := Lib.hid (name_ok A w)
 have H4 := Lib.hid h4
 have H3 := Lib.hid h3
 have HNE := Lib.hid hne
 cases v with
 | false =>
  have HE := Lib.hid fun x => chkOut_of H4.out H3.out HNE.out (Only.refl NoB w) (false && nameOk A) 1 (.string ⟨#[]⟩) x
  clear h4 h1 h3
  go_enter Tryz.func248, Tryz.ntmps248
  go_wp2_with fail
  refine bodyPost_end (results_none rfl _ _ _) rfl ?_
  exact HE.out _
 | true =>
  clear h4 h1 h3
  go_enter Tryz.func248, Tryz.ntmps248
  go_wp2_with fail
  refine HN.out.mono ?_
  rintro e w1 ⟨rfl, ho⟩
  have h4' := H4.out.only ho id
  have h3' := H3.out.only ho id
  have x0' := h4'.cell 0
  have x1' := h4'.frozen 0
  have z1' := h3'.frozen 1
  have z0' : w1.cell? ⟨b3, 1, none⟩ = some (.string ⟨A.toArray⟩) := h3'.cell 1
  have HE := Lib.hid fun x => chkOut_of h4' h3' HNE.out ho (true && nameOk A) 1 (.string ⟨#[]⟩) x
  clear h4' h3' ho x0 x1 z0 z1 y0
  go_wp2_with fail
  refine bodyPost_end (results_none rfl _ _ _) rfl ?_
  exact HE.out _
def numIn (n l h : Int) : Bool := decide (l ≤ n ∧ n ≤ h)
theorem kwithin_any (n l h : Int) (w : World) : Calls Tryz.prog 185 #[.int .i64 n, .int .i64 l, .int .i64 h] w fun e w' => e = .returned (.bool (numIn n l h)) ∧ w = w' := by
 refine (within_ok n l h).mono ?_
 rintro e w1 ⟨rfl, rfl⟩
 refine ⟨?_, rfl⟩
 congr 2
theorem check2_any {k : Int} {A B : Str} {n m l : Int} (h4 : Blk w b4 4 #[.bool v]) (h1 : Blk w b1 144 cs) (hcs : cs[3]? = some (.int .i64 n)) (h3 : Blk w b3 144 #[.int .i64 k, .string ⟨A.toArray⟩, .string ⟨B.toArray⟩, .int .i64 n, .int .i64 m]) :
  Calls Tryz.prog 249 #[.int .i64 l, .pointer (some ⟨b4, 0, none⟩), .pointer (some ⟨b1, 0, none⟩), .pointer (some ⟨b3, 0, none⟩)] w (ChkOut w b3 b4 (v && numIn n l 16777215) #[.int .i64 k, .string ⟨A.toArray⟩, .string ⟨B.toArray⟩, .int .i64 0, .int .i64 m]) := by
 have x0 := h4.cell 0
 have x1 := h4.frozen 0
 have z1 := h3.frozen 3
 have z0 : w.cell? ⟨b3, 3, none⟩ = some (.int .i64 n) := h3.cell 3
 have y0 : w.cell? ⟨b1, 3, none⟩ = some (.int .i64 n) := by rw [h1.cell]; exact hcs
 have hne : b4 ≠ b3 := h4.ne_ h3 (by decide)
 have HN := Lib.hid (kwithin_any n l 16777215 w)
 have HE := Lib.hid fun x => chkOut_of h4 h3 hne (Only.refl NoB w) (v && numIn n l 16777215) 3 (.int .i64 0) x
 cases v with
 | false =>
  clear h4 h1 h3
  go_enter Tryz.func249, Tryz.ntmps249
  go_wp2_with fail
  refine bodyPost_end (results_none rfl _ _ _) rfl ?_
  exact HE.out _
 | true =>
  clear h4 h1 h3
  go_enter Tryz.func249, Tryz.ntmps249
  go_wp2_with fail
  refine HN.out.mono ?_
  rintro e w1 ⟨rfl, rfl⟩
  go_wp2_with fail
  refine bodyPost_end (results_none rfl _ _ _) rfl ?_
  exact HE.out _
theorem check_blks (w : World) (cs : Array Value) : ∃ W3, W3 = ((w.alloc (.cells cs 144)).alloc (.cells cs 144)).alloc (.cells #[.bool true] 4) ∧ Blk W3 w.heap.size 144 cs ∧ Blk W3 (w.heap.size + 1) 144 cs ∧ Blk W3 (w.heap.size + 1 + 1) 4 #[.bool true] ∧ Only NoB w W3 := by
 have hWa : ((w.alloc (.cells cs 144)).alloc (.cells cs 144)).alloc (.cells #[.bool true] 4) = allocs w [(cs, 144), (cs, 144), (#[.bool true], 4)] := rfl
 exact ⟨_, rfl, blk_of hWa 0 rfl, blk_of hWa 1 rfl, blk_of hWa 2 rfl, by rw [hWa]; exact allocs_only _ _⟩
def keyV (k : Int) (A B : Str) (n m : Int) : Array Value := #[.int .i64 k, .string ⟨A.toArray⟩, .string ⟨B.toArray⟩, .int .i64 n, .int .i64 m]
end
end Go.Proofs.YtpjfheadolphgaaGreat
namespace Go.Proofs.YtpjfheadolphgaaGreat
open Go.RowKit Go.Proofs Go.Shelf
set_option maxRecDepth 20000
attribute [local go_sem] Oper.semAt_some
section
variable {w w' : World} {l : Str}
def foldN (l : Str) : Nat := l.foldl (fun n b => n * 256 + b.toNat) 0
theorem foldN_snoc (l : Str) (b : UInt8) : foldN (l ++ [b]) = foldN l * 256 + b.toNat := by simp [foldN, List.foldl_append]
theorem foldN_take {k : Nat} {b : UInt8} (h : l[k]? = some b) : foldN (l.take (k + 1)) = foldN (l.take k) * 256 + b.toNat := by
 rw [List.take_add_one, h]
 exact foldN_snoc _ b
theorem foldN_lt (l : Str) : ∀ k, foldN (l.take k) < 256 ^ k
 | 0 => by simp [foldN]
 | k + 1 => by
  have h1 := foldN_lt l k
  cases hb : l[k]? with
  | none => 
   have : l.take (k + 1) = l.take k := by rw [List.take_add_one, hb]; simp
   rw [this, Nat.pow_succ]; omega
  | some b =>
   rw [foldN_take hb, Nat.pow_succ]
   have := b.toNat_lt
   omega
theorem or_step (n x : Nat) (hn : n < 1099511627776) (hx : x < 256) : bits BinOp.or IntKind.i64 (wrap64 ((n : Int) * 256)) (x : Int) = ((n * 256 + x : Nat) : Int) := by
 have e1 : wrap64 ((n : Int) * 256) = ((n * 256 : Nat) : Int) := by unfold wrap64; omega
 rw [e1, i64_or_nat _ _ (by omega) (by omega), nat_join 8 (n * 256) x (by omega) (by omega)]
theorem str_bytes (w : World) (d : Str) : ∃ cp W3, (convert 9 162 (.string ⟨d.toArray⟩)).run Tryz.prog w = .ok (.slice (some ⟨w.heap.size, 0, none⟩) d.length cp) W3 ∧ Bytes W3 (fun k => k = w.heap.size) (.slice (some ⟨w.heap.size, 0, none⟩) d.length cp) d ∧ Only NoB w W3 := by
 have hr : (ByteArray.mk d.toArray).size = d.length := by show d.toArray.size = d.length; simp
 have hcv := Lib.run_convert_string_bytes (P := Tryz.prog) w 9 162 5 ⟨d.toArray⟩ (u := .string) (by kernel_rfl) (by kernel_rfl) (by kernel_rfl)
 rw [hr] at hcv
 refine ⟨_, _, hcv, ⟨_, _, rfl, le_grownCap _ _ _ _, by simp, fun _ => ⟨_, rfl, rfl, fun j u hu => ?_⟩⟩, bytesWorld_only _ _ _⟩
 have hj : j < d.length := by have := (List.getElem?_eq_some_iff.1 hu).1; simpa using this
 rw [Addr.add_lit, Nat.zero_add, Lib.bytesWorld_cell _ _ _ _ (by show j < d.toArray.size; simpa using hj)]
 rw [List.getElem?_map, List.getElem?_eq_getElem hj] at hu
 have hu : byteV d[j] = u := by simpa using hu
 rw [← hu]
 simp [byteV, List.getElem?_eq_getElem hj]
set_option maxHeartbeats 1000000 in
theorem value_ok (l : Str) (hl : l.length ≤ 5) (w : World) : Calls Tryz.prog 192 #[.string ⟨l.toArray⟩] w fun e w' => e = .returned (.int .i64 (foldN l)) ∧ Only NoB w w' := by
 obtain ⟨cp, W3, hcv, hby, ho⟩ := str_bytes w l
 have HBY := Lib.hid hby
 have HO := Lib.hid ho
 clear hby ho
 go_enter Tryz.func192, Tryz.ntmps192
 go_wp2_with fail
 go_loop [9, 3] (fun i n => ∃ k : Nat, k ≤ l.length ∧ i = .int .i64 k ∧ n = .int .i64 (foldN (l.take k))) (fun i _ => l.length - (intOf i).toNat)
 case atStart => exact ⟨0, Nat.zero_le _, rfl, rfl⟩
 case round =>
  obtain ⟨k, hk, rfl, rfl⟩ := hrel
  by_cases hlt : k < l.length
  ·obtain ⟨g, off, c', hve, _, _, hcell⟩ := Rd.open_ HBY.out (by omega)
   injection hve with q1 q2 q3
   injection q1 with q1
   injection q1 with q1 q4
   subst q1; subst q4
   obtain ⟨b, hb⟩ : ∃ b, l[k]? = some b := ⟨_, List.getElem?_eq_getElem hlt⟩
   have c1 := hcell k (.int .u8 b.toNat) (by rw [List.getElem?_map, hb]; rfl)
   rw [Nat.zero_add] at c1
   have hft := foldN_take hb
   have hfl := foldN_lt l k
   have h5 : 256 ^ k ≤ 256 ^ 4 := Nat.pow_le_pow_right (by omega) (by omega)
   have hbl := b.toNat_lt
   have hst := or_step (foldN (l.take k)) b.toNat (by omega) hbl
   obtain ⟨n, hn⟩ : ∃ n, n = foldN (l.take k) := ⟨_, rfl⟩
   rw [← hn] at hft hst ⊢
   have HFT := Lib.hid hft
   clear hcell hb hft hfl h5 hn q2 q3
   go_wp2_with fail
   exact ⟨⟨k + 1, by omega, by go_num, by rw [HFT.out]; push_cast; rfl⟩, by simp [intOf]; omega⟩
  ·obtain rfl : k = l.length := by omega
   rw [List.take_length]
   go_wp2_with fail
   go_ret
   exact ⟨rfl, HO.out⟩
theorem firstIdx_range (s : ByteArray) (c : UInt8) : firstIdx s c = -1 ∨ ∃ i : Nat, firstIdx s c = i ∧ i < s.size := by
 unfold firstIdx
 split
 ·rename_i i hi
  have := List.mem_of_find?_eq_some hi
  exact .inr ⟨i, rfl, by simpa using this⟩
 ·exact .inl rfl
end
end Go.Proofs.YtpjfheadolphgaaGreat
namespace Go.Proofs.YtpjfheadolphgaaGreat
open Go.RowKit Go.Proofs Go.Shelf
set_option maxRecDepth 20000
attribute [local go_sem] Oper.semAt_some
section
variable {w w' : World}
theorem ext_str (d : Str) (a b : Nat) : (ByteArray.mk d.toArray).extract a b = ⟨((d.drop a).take (b - a)).toArray⟩ := by
 apply ByteArray.ext
 rw [ByteArray.data_extract]
 simp
theorem foldN_be3 {n : Int} (h0 : 0 ≤ n) (h1 : n ≤ 16777215) : (foldN (be3i n) : Int) = n := by
 obtain ⟨k, rfl⟩ := Int.eq_ofNat_of_zero_le h0
 rw [be3i_nat (by omega)]
 simp only [foldN, be3, List.foldl_cons, List.foldl_nil, UInt8.toNat_ofNat']
 omega
theorem key5_set {w : World} {o : Nat} (hB : ∃ z0 z1 z2 z3 z4, Blk w o 144 #[z0, z1, z2, z3, z4]) (a b c d e : Value) :
  Blk (((((w.setCell ⟨o, 0, none⟩ a).setCell ⟨o, 1, none⟩ b).setCell ⟨o, 2, none⟩ c).setCell ⟨o, 3, none⟩ d).setCell ⟨o, 4, none⟩ e) o 144 #[a, b, c, d, e] ∧
  Only (fun k => k = o) w (((((w.setCell ⟨o, 0, none⟩ a).setCell ⟨o, 1, none⟩ b).setCell ⟨o, 2, none⟩ c).setCell ⟨o, 3, none⟩ d).setCell ⟨o, 4, none⟩ e) := by
 obtain ⟨z0, z1, z2, z3, z4, hB⟩ := hB
 exact ⟨((((hB.set_ 0 a).set_ 1 b).set_ 2 c).set_ 3 d).set_ 4 e, (((((Only.refl (fun k => k = o) w).setCell (p := ⟨o, 0, none⟩) (.inl rfl) a).setCell (p := ⟨o, 1, none⟩) (.inl rfl) b).setCell (p := ⟨o, 2, none⟩) (.inl rfl) c).setCell (p := ⟨o, 3, none⟩) (.inl rfl) d).setCell (p := ⟨o, 4, none⟩) (.inl rfl) e⟩
end
end Go.Proofs.YtpjfheadolphgaaGreat
namespace Go.Proofs.YtpjfheadolphgaaGreat
open Go.RowKit Go.Proofs Go.Shelf
set_option maxRecDepth 20000
attribute [local go_sem] Oper.semAt_some
section
variable {w w' : World} {F G : Nat → Prop} {X : XC} {t m np own c : Nat} {M : List KV} {key : Str}
theorem kv_get (h : KvAt w F X t m np own M c) :
  Calls Tryz.prog 54 #[.pointer (some ⟨t, 0, none⟩), .string ⟨key.toArray⟩] w (KvOut w F X t m np own (.tuple #[.string ⟨((get key M).getD []).toArray⟩, .bool (get key M).isSome, .int .i64 0]) M c) := by
 obtain ⟨D, ht, hb, rfl, rfl, rfl, hkl⟩ := h
 refine (get_ok ht hb.1.m1 hb.1.m2 hb).mono ?_
 rintro e w1 ⟨rfl, F', h1, h6, h7⟩
 exact ⟨rfl, F', ⟨D, h1.at_, hb, rfl, rfl, rfl, hkl⟩, h6, h7⟩
end
end Go.Proofs.YtpjfheadolphgaaGreat
namespace Go.Proofs.YtpjfheadolphgaaGreat
open Go.RowKit Go.Proofs Go.Shelf
set_option maxRecDepth 20000
structure KvSt (w : World) (F : Nat → Prop) (X : XC) (t m n own : Nat) (M : List KV) (c : Nat) (wr : World) (F1 : Nat → Prop) : Prop where
 at_ : KvAt wr F1 X t m n own M c
 on : Only F w wr
 gr : Grows F F1 w
structure Bk (w wr : World) (F1 : Nat → Prop) (b : Nat) (ty : TypeId) (cs : Array Value) : Prop where
 blk : Blk wr b ty cs
 out : ¬ F1 b
 low : w.heap.size ≤ b
structure Pk (p : Prop) : Prop where
 mk :: (out : p)
section
variable {w wr w' : World} {F F1 F2 : Nat → Prop} {X : XC} {t m n own c c' size k : Nat} {M M' : List KV} {v : Value} {xs : List Value}
theorem KvSt.start (h : KvAt w F X t m n own M c) : KvSt w F X t m n own M c w F := ⟨h, Only.refl _ _, Grows.refl _ _⟩
theorem KvSt.quit (h : KvSt w F X t m n own M c wr F1) (ho : Only NoB wr w') : KvSt w F X t m n own M c w' F1 := ⟨h.at_.quit ho, h.on.trans (ho.mono fun _ _ h => h.elim), h.gr⟩
theorem KvSt.step (h : KvSt w F X t m n own M c wr F1) (h2 : KvAt w' F2 X t m n own M' c') (ho : Only F1 wr w') (hg : Grows F1 F2 wr) : KvSt w F X t m n own M' c' w' F2 :=
 ⟨h2, h.on.trans' ho fun k hk hf => (h.gr k hf).elim id fun h => by omega, fun k hk => (hg k hk).elim (h.gr k) fun h2 => .inr (Nat.le_trans h.on.size h2)⟩
theorem KvSt.far {b : Nat} (h : KvSt w F X t m n own M c wr F1) (ho : Only (fun k => k = b) wr w') (hb : ¬ F1 b) (hl : w.heap.size ≤ b) : KvSt w F X t m n own M c w' F1 :=
 ⟨h.at_.only ho fun k hk (e : k = b) => hb (e ▸ hk), h.on.trans' ho fun k hk (e : k = b) => by omega, h.gr⟩
theorem KvSt.out (h : KvSt w F X t m n own M c wr F1) : KvOut w F X t m n own v M c (.returned v) wr := ⟨rfl, F1, h.at_, h.on, h.gr⟩
theorem Bk.quit {b : Nat} {ty : TypeId} {cs : Array Value} (h : Bk w wr F1 b ty cs) (ho : Only NoB wr w') : Bk w w' F1 b ty cs := ⟨h.blk.only ho id, h.out, h.low⟩
theorem Bk.step {b : Nat} {ty : TypeId} {cs : Array Value} (h : Bk w wr F1 b ty cs) (ho : Only F1 wr w') (hg : Grows F1 F2 wr) : Bk w w' F2 b ty cs :=
 ⟨h.blk.only ho h.out, fun hf => (hg b hf).elim h.out fun h2 => by have := h.blk.lt; omega, h.low⟩
theorem Bk.far {b b2 : Nat} {ty : TypeId} {cs : Array Value} (h : Bk w wr F1 b ty cs) (ho : Only (fun k => k = b2) wr w') (hne : b ≠ b2) : Bk w w' F1 b ty cs := ⟨h.blk.only ho hne, h.out, h.low⟩
theorem Bk.new (h : KvSt w F X t m n own M c wr F1) (cs : Array Value) (ty : TypeId) : Bk w (wr.alloc (.cells cs ty)) F1 wr.heap.size ty cs := ⟨Blk.new _ _ _, fun hf => by have := h.at_.lt _ hf; omega, h.on.size⟩
theorem KvSt.cel {b : Nat} {ty : TypeId} {cs : Array Value} (h : KvSt w F X t m n own M c wr F1) (hb : Bk w wr F1 b ty cs) (ho : Only (fun k => k = b) wr w') : KvSt w F X t m n own M c w' F1 := h.far ho hb.out hb.low
theorem own_step {e : TypeId} {B : Nat} (h : Own wr (fun g => B ≤ g ∧ ¬ F1 g) e size v k xs) (ho : Only F1 wr w') (hg : Grows F1 F2 wr) : Own w' (fun g => B ≤ g ∧ ¬ F2 g) e size v k xs :=
 ⟨(h.keep fun i hi => ho.block i (h.lt hi) (h.2 i hi).2).1, fun g hgp => ⟨(h.2 g hgp).1, fun hf => (hg g hf).elim (h.2 g hgp).2 fun h2 => by have := h.lt hgp; omega⟩⟩
end
end Go.Proofs.YtpjfheadolphgaaGreat
namespace Go.Proofs.YtpjfheadolphgaaGreat
def mayB (b : UInt8) : Bool := ((97 ≤ b.toNat && b.toNat ≤ 122) || (65 ≤ b.toNat && b.toNat ≤ 90) || (48 ≤ b.toNat && b.toNat ≤ 57)) || ([43, 45, 46, 95, 63, 61] : Str).contains b
def digL : Str := [48, 49, 50, 51, 52, 53, 54, 55, 56, 57, 97, 98, 99, 100, 102, 103, 104, 105, 106, 107, 108, 109, 110, 112, 113, 114, 115, 118, 119, 120, 121, 122]
def digB (b : UInt8) : Bool := digL.contains b
def baseOk (s : Str) : Bool := (1 ≤ s.length && s.length ≤ 31) && (!(s.head? == some 46) && s.all mayB)
def stOk (s : Str) : Bool := 33 < s.length && ((s.drop 32).head? == some 45 && (baseOk (s.drop 33) && (s.take 32).all digB))
theorem stOk_len {s : Str} (h : stOk s = true) : 34 ≤ s.length ∧ s.length ≤ 64 := by
 unfold stOk baseOk at h
 simp only [Bool.and_eq_true, decide_eq_true_iff, List.length_drop] at h
 omega
theorem mayB_low {b : UInt8} (h : mayB b = true) : b.toNat < 128 := by
 unfold mayB at h
 simp only [Bool.or_eq_true, Bool.and_eq_true, decide_eq_true_iff] at h
 rcases h with h | h
 ·omega
 ·have : b ∈ ([43, 45, 46, 95, 63, 61] : Str) := by simpa using h
  simp only [List.mem_cons, List.not_mem_nil, or_false] at this
  rcases this with h | h | h | h | h | h <;> subst h <;> decide
theorem mayB_not {b : UInt8} (h : mayB b = true) : b ≠ 0 ∧ b ≠ 47 := by
 constructor <;> (rintro rfl; revert h; decide)
theorem digB_not {b : UInt8} (h : digB b = true) : b ≠ 0 ∧ b ≠ 47 := by
 constructor <;> (rintro rfl; revert h; decide)
end Go.Proofs.YtpjfheadolphgaaGreat
namespace Go.Proofs.YtpjfheadolphgaaGreat
open Go.RowKit Go.Proofs Go.Shelf
set_option maxRecDepth 20000
attribute [local go_sem] Oper.semAt_some
section
variable {w w' : World}
def NmAns (A : Str) (w : World) (e : Ending) (w' : World) : Prop := e = .returned (.int .i64 (if nameOk A then 0 else 1)) ∧ Only NoB w w'
set_option maxHeartbeats 2000000 in
theorem check_nm {k : Int} (hk : k = 5 ∨ k = 8) (A : Str) (w : World) : Calls Tryz.prog 149 #[.agg (keyV k A [] 0 0)] w (NmAns A w) := by
 rcases hk with rfl | rfl
 all_goals
  obtain ⟨W3, hW3, c0, c1, c2, ho3⟩ := check_blks w (keyV _ A [] 0 0)
  have HO3 := Lib.hid ho3
  have HW3 := Lib.hid hW3
  have HC1 := Lib.hid (check1_any c2 c0 rfl c1)
  have C0 := Lib.hid c0
  clear c0 c1 c2 ho3 hW3
  unfold keyV at HW3 C0 ⊢
  go_enter Tryz.func149, Tryz.ntmps149
  go_wp2_with fail
  rw [← HW3.out]
  refine HC1.out.mono ?_
  rintro e w5 ⟨⟨u, rfl⟩, d2, d1, ho5⟩
  have d0 := C0.out.only ho5 (by rintro (e | e) <;> omega)
  have x0 := d2.cell 0
  have y0 := d0.cell 0
  have z0 := d1.cell 0
  have z1 := d1.cell 1
  have z2 := d1.cell 2
  have z3 := d1.cell 3
  have z4 := d1.cell 4
  simp only [List.getElem?_toArray, List.getElem?_cons_zero, List.getElem?_cons_succ] at x0 y0 z0 z1 z2 z3 z4
  have HO5 := Lib.hid (HO3.out.trans' ho5 fun k hk (e : k = w.heap.size + 1 + 1 ∨ k = w.heap.size + 1) => by omega)
  rw [Bool.true_and] at x0
  clear d0 d1 d2 ho5
  cases hb : nameOk A with
  | true =>
   rw [hb] at x0
   have HE : Hid (NmAns A w (.returned (.int .i64 0)) w5) := Lib.hid ⟨by rw [hb]; rfl, HO5.out⟩
   clear hb
   go_wp2_with fail
   go_ret
   exact HE.out
  | false =>
   rw [hb] at x0
   have HE : Hid (NmAns A w (.returned (.int .i64 1)) w5) := Lib.hid ⟨by rw [hb]; rfl, HO5.out⟩
   clear hb
   go_wp2_with fail
   go_ret
   exact HE.out
def genOk (A : Str) (n : Int) : Bool := nameOk A && numIn n 0 16777215
def GenAns (A : Str) (n : Int) (w : World) (e : Ending) (w' : World) : Prop := e = .returned (.int .i64 (if genOk A n then 0 else 1)) ∧ Only NoB w w'
set_option maxHeartbeats 2000000 in
theorem check_gen (A : Str) (n : Int) (w : World) : Calls Tryz.prog 149 #[.agg (keyV 9 A [] n 0)] w (GenAns A n w) := by
 obtain ⟨W3, hW3, c0, c1, c2, ho3⟩ := check_blks w (keyV 9 A [] n 0)
 have HO3 := Lib.hid ho3
 have HW3 := Lib.hid hW3
 have HC1 := Lib.hid (check1_any c2 c0 rfl c1)
 have C0 := Lib.hid c0
 clear c0 c1 c2 ho3 hW3
 unfold keyV at HW3 C0 ⊢
 go_enter Tryz.func149, Tryz.ntmps149
 go_wp2_with fail
 rw [← HW3.out]
 refine HC1.out.mono ?_
 rintro e w4 ⟨⟨u, rfl⟩, d2, d1, ho4⟩
 have d0 := C0.out.only ho4 (by rintro (e | e) <;> omega)
 have HC2 := Lib.hid (check2_any (l := 0) (A := []) d2 d0 rfl d1)
 have D0 := Lib.hid d0
 have HO4 := Lib.hid (HO3.out.trans' ho4 fun k hk (e : k = w.heap.size + 1 + 1 ∨ k = w.heap.size + 1) => by omega)
 clear d0 d1 d2 ho4
 go_wp2_with fail
 refine HC2.out.mono ?_
 rintro e w5 ⟨⟨u, rfl⟩, d2, d1, ho5⟩
 have d0 := D0.out.only ho5 (by rintro (e | e) <;> omega)
 have x0 : w5.cell? ⟨w.heap.size + 1 + 1, 0, none⟩ = some (.bool (true && nameOk A && numIn n 0 16777215)) := d2.cell 0
 have y0 : w5.cell? ⟨w.heap.size, 0, none⟩ = some (.int .i64 9) := d0.cell 0
 have z0 : w5.cell? ⟨w.heap.size + 1, 0, none⟩ = some (.int .i64 9) := d1.cell 0
 have z1 : w5.cell? ⟨w.heap.size + 1, 1, none⟩ = some (.string ⟨#[]⟩) := d1.cell 1
 have z2 : w5.cell? ⟨w.heap.size + 1, 2, none⟩ = some (.string ⟨#[]⟩) := d1.cell 2
 have z3 : w5.cell? ⟨w.heap.size + 1, 3, none⟩ = some (.int .i64 0) := d1.cell 3
 have z4 : w5.cell? ⟨w.heap.size + 1, 4, none⟩ = some (.int .i64 0) := d1.cell 4
 have HO5 := Lib.hid (HO4.out.trans' ho5 fun k hk (e : k = w.heap.size + 1 + 1 ∨ k = w.heap.size + 1) => by omega)
 rw [Bool.true_and, show (nameOk A && numIn n 0 16777215) = genOk A n from rfl] at x0
 clear d0 d1 d2 ho5
 cases hb : genOk A n with
 | true =>
  rw [hb] at x0
  have HE : Hid (GenAns A n w (.returned (.int .i64 0)) w5) := Lib.hid ⟨by rw [hb]; rfl, HO5.out⟩
  clear hb
  go_wp2_with fail
  go_ret
  exact HE.out
 | false =>
  rw [hb] at x0
  have HE : Hid (GenAns A n w (.returned (.int .i64 1)) w5) := Lib.hid ⟨by rw [hb]; rfl, HO5.out⟩
  clear hb
  go_wp2_with fail
  go_ret
  exact HE.out
def NkOut (k : Int) (A : Str) (w : World) (e : Ending) (w' : World) : Prop := e = .returned (if nameOk A then .tuple #[.string ⟨((if k = 5 then 112 else 102) :: A).toArray⟩, .int .i64 0] else .tuple #[.string ⟨#[]⟩, .int .i64 1]) ∧ Only NoB w w'
set_option maxHeartbeats 2000000 in
theorem bytes_nm {k : Int} (hk : k = 5 ∨ k = 8) (A : Str) (hA : A.length ≤ 1000000) (w : World) : Calls Tryz.prog 193 #[.agg (keyV k A [] 0 0)] w (NkOut k A w) := by
 obtain ⟨W0, hW0⟩ : ∃ W0, W0 = w.alloc (.cells (keyV k A [] 0 0) 144) := ⟨_, rfl⟩
 have ho0 : Only NoB w W0 := by rw [hW0]; exact (Only.refl NoB w).alloc _
 have c0 : Blk W0 w.heap.size 144 (keyV k A [] 0 0) := by rw [hW0]; exact Blk.new w _ _
 have HC := Lib.hid (check_nm hk A W0)
 have HO0 := Lib.hid ho0
 have HC0 := Lib.hid c0
 have HW0 := Lib.hid hW0
 clear ho0 c0 hW0
 unfold keyV at HC HW0 HC0 ⊢
 cases hb : nameOk A with
 | false =>
  have HB := Lib.hid hb
  clear hb
  rcases hk with rfl | rfl
  all_goals
   go_enter Tryz.func193, Tryz.ntmps193
   go_wp2_with fail
   rw [← HW0.out]
   refine HC.out.mono ?_
   rintro e w1 ⟨rfl, ho1⟩
   have HO1 := Lib.hid (HO0.out.trans ho1)
   have hbe := HB.out
   rw [hbe]
   clear ho1 hbe
   go_wp2_with fail
   go_ret2
   exact ⟨by rw [HB.out]; rfl, HO1.out⟩
 | true =>
  have HB := Lib.hid hb
  clear hb
  have hl : A.length + 1 ≤ 9223372036854775807 := by omega
  rcases hk with rfl | rfl
  ·go_enter Tryz.func193, Tryz.ntmps193
   go_wp2_with fail
   rw [← HW0.out]
   refine HC.out.mono ?_
   rintro e w1 ⟨rfl, ho1⟩
   have c1 := HC0.out.only ho1 id
   have hbe := HB.out
   rw [hbe]
   have x0 : w1.cell? ⟨w.heap.size, 0, none⟩ = some (.int .i64 5) := c1.cell 0
   have x1 : w1.cell? ⟨w.heap.size, 1, none⟩ = some (.string ⟨A.toArray⟩) := c1.cell 1
   have HO1 := Lib.hid (HO0.out.trans ho1)
   have HL := Lib.hid (letter_ok (w := w1) 5 (by omega) (by omega))
   have hb1 := bytes_text (letterOf 5) A
   have hl1 : (letterOf 5).length = 1 := rfl
   have hg : ¬ 9223372036854775807 < 1 + A.length := by omega
   clear ho1 c1 HC hbe
   go_wp2_with fail
   refine HL.out.mono ?_
   rintro e w2 ⟨rfl, rfl⟩
   go_wp2_with fail
   go_ret2
   exact ⟨by rw [HB.out]; rfl, HO1.out⟩
  ·go_enter Tryz.func193, Tryz.ntmps193
   go_wp2_with fail
   rw [← HW0.out]
   refine HC.out.mono ?_
   rintro e w1 ⟨rfl, ho1⟩
   have c1 := HC0.out.only ho1 id
   have hbe := HB.out
   rw [hbe]
   have x0 : w1.cell? ⟨w.heap.size, 0, none⟩ = some (.int .i64 8) := c1.cell 0
   have x1 : w1.cell? ⟨w.heap.size, 1, none⟩ = some (.string ⟨A.toArray⟩) := c1.cell 1
   have HO1 := Lib.hid (HO0.out.trans ho1)
   have HL := Lib.hid (letter_ok (w := w1) 8 (by omega) (by omega))
   have hb1 := bytes_text (letterOf 8) A
   have hl1 : (letterOf 8).length = 1 := rfl
   have hg : ¬ 9223372036854775807 < 1 + A.length := by omega
   clear ho1 c1 HC hbe
   go_wp2_with fail
   refine HL.out.mono ?_
   rintro e w2 ⟨rfl, rfl⟩
   go_wp2_with fail
   go_ret2
   exact ⟨by rw [HB.out]; rfl, HO1.out⟩
theorem idx_zero : ∀ {A : Str} (r : Str), (∀ b ∈ A, b ≠ 0) → Lib.indexByte (A ++ 0 :: r) 0 = (A.length : Int)
 | [], r, _ => by simp [Lib.indexByte]
 | b :: A, r, h => by
  have hb : b ≠ 0 := h b List.mem_cons_self
  rw [List.cons_append]
  unfold Lib.indexByte
  rw [show (b == 0) = false by simpa using hb]
  simp only [Bool.false_eq_true, if_false]
  rw [idx_zero r fun c hc => h c (List.mem_cons_of_mem _ hc)]
  have : (((A.length : Int)) == -1) = false := by rw [beq_eq_false_iff_ne]; omega
  simp [this]
theorem index_z {A r : Str} (hA : ∀ b ∈ A, b ≠ 0) (w : World) : Calls Tryz.prog 309 #[.string ⟨(A ++ 0 :: r).toArray⟩, .string ⟨#[0]⟩] w fun e w' => e = .returned (.int .i64 (A.length : Nat)) ∧ w = w' := by
 have HI0 := sib_ok ⟨(A ++ 0 :: r).toArray⟩ 0 w
 rw [show (0 : Int).toNat.toUInt8 = 0 from rfl, Lib.firstIdx_eq, show (ByteArray.mk (A ++ 0 :: r).toArray).data.toList = A ++ 0 :: r from rfl, idx_zero r hA] at HI0
 obtain ⟨s, hs⟩ : ∃ s, s = A ++ 0 :: r := ⟨_, rfl⟩
 obtain ⟨v, hv⟩ : ∃ v, v = A.length := ⟨_, rfl⟩
 by_cases h0 : s = [0]
 ·have hv0 : v = 0 := by
   have := congrArg List.length (hs ▸ h0 : A ++ 0 :: r = [0])
   simp at this; omega
  rw [← hs, h0, ← hv, hv0]
  clear HI0 hs hv hv0 h0
  have hq : ([(0 : UInt8)] == [0]) = true := by decide
  go_enter Tryz.func309, Tryz.ntmps309
  go_wp2_with fail
  go_ret
  exact ⟨rfl, rfl⟩
 ·rw [← hs, ← hv] at HI0
  rw [← hs, ← hv]
  have HI := Lib.hid HI0
  have hq : ([(0 : UInt8)] == s) = false := by simpa using fun e : [0] = s => h0 e.symm
  have hx : ∀ h, ((⟨#[0]⟩ : ByteArray)[0]'h).toNat = 0 := fun _ => rfl
  clear HI0 hv hs
  go_enter Tryz.func309, Tryz.ntmps309
  go_wp2_with fail
  refine HI.out.mono ?_
  rintro e w1 ⟨rfl, rfl⟩
  go_wp2_with fail
  go_ret
  exact ⟨rfl, rfl⟩
def CutZ (A r : Str) (w : World) (e : Ending) (w' : World) : Prop := e = .returned (.tuple #[.string ⟨A.toArray⟩, .string ⟨r.toArray⟩, .bool true]) ∧ Only NoB w w'
set_option maxHeartbeats 1000000 in
theorem cut_z {A r : Str} (hA : ∀ b ∈ A, b ≠ 0) (hs : A.length + r.length ≤ 1000000) (w : World) : Calls Tryz.prog 191 #[.string ⟨(A ++ 0 :: r).toArray⟩, .string ⟨#[0]⟩] w (CutZ A r w) := by
 have HX := Lib.hid (index_z (r := r) hA w)
 have HC : Hid (Calls Tryz.prog 268 #[.string ⟨(A ++ 0 :: r).toArray⟩, .string ⟨#[0]⟩] w (CutZ A r w)) := Lib.hid (by
  obtain ⟨s, hse⟩ : ∃ s, s = A ++ 0 :: r := ⟨_, rfl⟩
  rw [← hse] at HX ⊢
  have hl : s.length = A.length + (r.length + 1) := by rw [hse]; simp
  have g1 : s.take A.length = A := by rw [hse]; simp
  have g2 : s.drop (A.length + 1) = r := by rw [hse, ← List.drop_drop]; simp
  have e1 : (ByteArray.mk s.toArray).extract 0 A.length = ⟨A.toArray⟩ := by rw [ext_str]; simp [g1]
  have e2 : (ByteArray.mk s.toArray).extract (A.length + 1) s.length = ⟨r.toArray⟩ := by
   rw [ext_str, g2, List.take_of_length_le]
   rw [hl]; omega
  have hk0 : ((0 : Int) ≤ (A.length : Int)) := by omega
  have hi2 : (A.length : Int) < s.length := by omega
  have hi3 : (A.length : Int) ≤ s.length := by omega
  have hi4 : IntKind.i64.wrap ((A.length : Int) + 1) = (A.length : Int) + 1 := by rw [IntKind.wrap_i64]; omega
  have hi5 : (A.length : Int) + 1 ≤ s.length := by omega
  obtain ⟨ls, hls⟩ : ∃ ls, ls = s.length := ⟨_, rfl⟩
  have hls' : s.length = ls := hls.symm
  obtain ⟨la, hla⟩ : ∃ la, la = A.length := ⟨_, rfl⟩
  rw [← hla] at hi2 hi3 hi4 hi5 e1 e2 HX hk0
  rw [hls'] at hi2 hi3 hi5 e2
  have HE : Hid (∀ w', Only NoB w w' → CutZ A r w (.returned (.tuple #[.string ⟨A.toArray⟩, .string ⟨r.toArray⟩, .bool true])) w') := Lib.hid fun w' ho => ⟨rfl, ho⟩
  clear hl g1 g2 hls hla hs hse hA
  go_enter Tryz.func268, Tryz.ntmps268
  go_wp2_with fail
  refine HX.out.mono ?_
  rintro e w1 ⟨rfl, rfl⟩
  go_wp2_with fail
  go_region
  all_goals go_wp2_with fail
  all_goals go_ret3
  all_goals exact HE.out _ (Only.refl NoB w).drew)
 have HE : Hid (∀ w', Only NoB w w' → CutZ A r w (.returned (.tuple #[.string ⟨A.toArray⟩, .string ⟨r.toArray⟩, .bool true])) w') := Lib.hid fun w' h => ⟨rfl, h⟩
 obtain ⟨s, hse⟩ : ∃ s, s = A ++ 0 :: r := ⟨_, rfl⟩
 rw [← hse] at HC ⊢
 unfold CutZ at HC
 clear HX hA hs hse
 go_enter Tryz.func191, Tryz.ntmps191
 go_wp2_with fail
 refine HC.out.mono ?_
 rintro e w1 ⟨rfl, ho⟩
 have HO := Lib.hid ho
 clear ho
 go_wp2_with fail
 go_ret3
 exact HE.out _ HO.out
end
end Go.Proofs.YtpjfheadolphgaaGreat
namespace Go.Proofs.YtpjfheadolphgaaGreat
open Go.RowKit Go.Proofs Go.Shelf
set_option maxRecDepth 20000
def gpre (p : Str) : Str := 103 :: (p ++ [0])
def gkey (p : Str) (n : Int) : Str := 103 :: (p ++ 0 :: be3i n)
def fkey (p : Str) : Str := 102 :: p
def pkey (a : Str) : Str := 112 :: a
def rpre (a : Str) : Str := 114 :: (a ++ [0])
abbrev Gn := Nat × Str
abbrev Pfs := Str → List Gn × Nat
def gensOf (p : Str) (l : List Gn) : List KV := l.map fun g => (gkey p (g.1 : Nat), g.2)
def val0 : Str := List.replicate 32 48 ++ [0, 0, 0, 0]
structure PfM (regs : List Str) (M : List KV) (G : Pfs) (c : Nat) : Prop where
 gens : ∀ p, nameOk p = true → under (gpre p) M = gensOf p (G p).1
 cur : ∀ p, nameOk p = true → get (fkey p) M = if (G p).1 = [] then none else some (be3i ((G p).2 : Nat))
 has : ∀ p, (G p).1 ≠ [] → ∃ a, ((G p).2, a) ∈ (G p).1
 nms : ∀ p, ∀ g ∈ (G p).1, stOk g.2 = true ∧ 1 ≤ g.1 ∧ g.1 ≤ c
 rise : ∀ p, (G p).1.Pairwise fun a b => a.1 < b.1
 bad : ∀ p, nameOk p = false → (G p).1 = []
 reg : ∀ a, stOk a = true → get (pkey a) M = if a ∈ regs then some val0 else none
 refs : ∀ a, under (rpre a) M = []
 len : M.length ≤ c
 fs : ∀ x ∈ under [102] M, ∃ p, nameOk p = true ∧ x.1 = fkey p
section
variable {M : List KV} {regs : List Str} {G : Pfs} {c n m : Nat} {p q a k v r s : Str} {l : List Gn}
theorem und_ins_not {p k v : Str} (hk : hasP p k = false) : ∀ M : List KV, under p (ins k v M) = under p M
 | [] => by simp [ins, under, hk]
 | y :: M => by
  have ih := und_ins_not (v := v) hk M
  unfold under at ih ⊢
  rw [ins]
  split
  ·rw [List.filter_cons_of_neg (by simp [hk])]
  ·split
   ·rename_i h; subst h
    rw [List.filter_cons_of_neg (by simp [hk]), List.filter_cons_of_neg (by simp [hk])]
   ·cases hy : hasP p y.1
    ·rw [List.filter_cons_of_neg (by simp [hy]), List.filter_cons_of_neg (by simp [hy]), ih]
    ·rw [List.filter_cons_of_pos (by simp [hy]), List.filter_cons_of_pos (by simp [hy]), ih]
theorem und_del_not (hk : hasP p k = false) (M : List KV) : under p (del k M) = under p M := by
 unfold under del
 rw [List.filter_filter]
 apply List.filter_congr
 intro x _
 by_cases h : x.1 = k
 ·rw [h, hk]; simp
 ·simp [h]
theorem und_del (M : List KV) : under p (del k M) = del k (under p M) := by
 unfold under del
 rw [List.filter_filter, List.filter_filter]
 congr 1; funext z; rw [Bool.and_comm]
theorem zsplit : ∀ {p q r s : Str}, (∀ b ∈ p, b ≠ 0) → (∀ b ∈ q, b ≠ 0) → p ++ 0 :: r = q ++ 0 :: s → p = q ∧ r = s
 | [], [], _, _, _, _, h => ⟨rfl, (List.cons.inj h).2⟩
 | [], b :: q, _, _, _, hq, h => absurd (List.cons.inj h).1.symm (hq b List.mem_cons_self)
 | b :: p, [], _, _, hp, _, h => absurd (List.cons.inj h).1 (hp b List.mem_cons_self)
 | b :: p, d :: q, _, _, hp, hq, h => by
  obtain ⟨h1, h2⟩ := List.cons.inj h
  obtain ⟨rfl, rfl⟩ := zsplit (fun x hx => hp x (List.mem_cons_of_mem _ hx)) (fun x hx => hq x (List.mem_cons_of_mem _ hx)) h2
  rw [h1]; exact ⟨rfl, rfl⟩
theorem nameOk_nz (h : nameOk p = true) : ∀ b ∈ p, b ≠ 0 := by
 unfold nameOk at h
 simp only [Bool.and_eq_true, Bool.not_eq_true'] at h
 have h2 := h.2.2
 unfold hasZS at h2
 rw [List.any_eq_false] at h2
 intro b hb hz
 have := h2 b hb
 simp [hz] at this
theorem nameOk_len (h : nameOk p = true) : 1 ≤ p.length ∧ p.length ≤ 64 := by
 unfold nameOk at h
 simp only [Bool.and_eq_true, decide_eq_true_iff] at h
 exact ⟨h.1, h.2.1⟩
theorem hasP_app (p s : Str) : hasP p (p ++ s) = true := by unfold hasP; simp
theorem hasP_ex (h : hasP p s = true) : ∃ t, s = p ++ t := by
 unfold hasP at h
 have h := of_decide_eq_true h
 exact ⟨s.drop p.length, (List.take_append_drop p.length s).symm.trans (by rw [h])⟩
theorem gkey_pre (p : Str) (n : Int) : gkey p n = gpre p ++ be3i n := by simp [gkey, gpre]
theorem hasP_gsame (p : Str) (n : Int) : hasP (gpre p) (gkey p n) = true := by rw [gkey_pre]; exact hasP_app _ _
theorem hasP_gother {n : Int} (hp : nameOk p = true) (hq : nameOk q = true) (h : q ≠ p) : hasP (gpre q) (gkey p n) = false := by
 rw [Bool.eq_false_iff]
 intro hh
 obtain ⟨t, ht⟩ := hasP_ex hh
 unfold gkey gpre at ht
 rw [List.cons_append, List.append_assoc] at ht
 have := (List.cons.inj ht).2
 exact h (zsplit (nameOk_nz hq) (nameOk_nz hp) (by simpa using this.symm)).1
theorem hasP_first {x y : UInt8} (h : x ≠ y) : hasP (x :: p) (y :: s) = false := by rw [hasP_cons]; simp [h]
theorem no_rf (a p : Str) : hasP (rpre a) (fkey p) = false := hasP_first (by decide)
theorem no_rg (a p : Str) (n : Int) : hasP (rpre a) (gkey p n) = false := hasP_first (by decide)
theorem no_rp (a b : Str) : hasP (rpre a) (pkey b) = false := hasP_first (by decide)
theorem no_gf (q p : Str) : hasP (gpre q) (fkey p) = false := hasP_first (by decide)
theorem no_gp (q a : Str) : hasP (gpre q) (pkey a) = false := hasP_first (by decide)
theorem no_fg (p : Str) (n : Int) : hasP [102] (gkey p n) = false := hasP_first (by decide)
theorem no_fp (a : Str) : hasP [102] (pkey a) = false := hasP_first (by decide)
theorem gkey_inj {n m : Nat} (hn : n ≤ 16777215) (hm : m ≤ 16777215) (h : gkey p n = gkey p m) : n = m := by
 rw [gkey_pre, gkey_pre] at h
 have h2 := congrArg foldN (List.append_cancel_left h)
 have h4 := foldN_be3 (n := (n : Int)) (by omega) (by omega)
 have h5 := foldN_be3 (n := (m : Int)) (by omega) (by omega)
 omega
theorem be3_lts {n m : Nat} (h : n < m) (hm : m ≤ 16777215) : lts (be3i n) (be3i m) := by
 rw [be3i_nat (by omega), be3i_nat (by omega)]
 have key : ∀ a b : Nat, a % 256 < b % 256 → UInt8.ofNat a < UInt8.ofNat b := fun a b hab => by
  show (UInt8.ofNat a).toNat < (UInt8.ofNat b).toNat
  rw [UInt8.toNat_ofNat', UInt8.toNat_ofNat']; omega
 have keq : ∀ a b : Nat, a % 256 = b % 256 → UInt8.ofNat a = UInt8.ofNat b := fun a b hab => by
  apply UInt8.toNat.inj
  rw [UInt8.toNat_ofNat', UInt8.toNat_ofNat']; omega
 unfold be3
 by_cases h1 : n / 65536 = m / 65536
 ·rw [h1]
  refine lts_cons.2 (.inr ⟨rfl, ?_⟩)
  by_cases h2 : n / 256 % 256 = m / 256 % 256
  ·exact lts_cons.2 (.inr ⟨keq _ _ h2, lts_cons.2 (.inl (key _ _ (by omega)))⟩)
  ·exact lts_cons.2 (.inl (key _ _ (by omega)))
 ·exact lts_cons.2 (.inl (key _ _ (by omega)))
theorem gensOf_app (l : List Gn) (n : Nat) (a : Str) : gensOf p (l ++ [(n, a)]) = gensOf p l ++ [(gkey p n, a)] := by simp [gensOf]
theorem gensOf_lts (h : ∀ g ∈ l, g.1 < n) (hn : n ≤ 16777215) : ∀ x ∈ gensOf p l, lts x.1 (gkey p n) := by
 intro x hx
 obtain ⟨g, hg, rfl⟩ := List.mem_map.1 hx
 show lts (gkey p (g.1 : Nat)) _
 rw [gkey_pre, gkey_pre]
 exact lts_pre _ (be3_lts (h g hg) hn)
theorem gensOf_del (hl : ∀ g ∈ l, g.1 ≤ 16777215) (hn : n ≤ 16777215) : del (gkey p n) (gensOf p l) = gensOf p (l.filter fun g => !decide (g.1 = n)) := by
 unfold del gensOf
 rw [List.filter_map]
 congr 1
 apply List.filter_congr
 intro g hg
 show (!decide (gkey p (g.1 : Nat) = gkey p n)) = _
 by_cases e : g.1 = n
 ·rw [e]; simp
 ·have : gkey p (g.1 : Nat) ≠ gkey p n := fun h => e (gkey_inj (hl g hg) hn h)
  simp [e, this]
def updP (G : Pfs) (p : Str) (s : List Gn × Nat) : Pfs := fun q => if q = p then s else G q
theorem updP_same (G : Pfs) (p : Str) (s : List Gn × Nat) : updP G p s p = s := by simp [updP]
theorem updP_other {s : List Gn × Nat} (h : q ≠ p) : updP G p s q = G q := by simp [updP, h]
theorem insl (hs : Srt M) : (ins k v M).length ≤ M.length + 1 := by rw [ins_get_length hs]; split <;> omega
theorem fkey_inj (h : fkey p = fkey q) : p = q := (List.cons.inj h).2
theorem PfM.mono (h : PfM regs M G c) {c' : Nat} (hc : c ≤ c') : PfM regs M G c' :=
 ⟨h.gens, h.cur, h.has, fun p g hg => ⟨(h.nms p g hg).1, (h.nms p g hg).2.1, Nat.le_trans (h.nms p g hg).2.2 hc⟩, h.rise, h.bad, h.reg, h.refs, Nat.le_trans h.len hc, h.fs⟩
theorem PfM.use (h : PfM regs M G c) (hs : Srt M) (hp : nameOk p = true) {s : List Gn × Nat} (h1 : s.1 = (G p).1) (h2 : ∃ a, (s.2, a) ∈ s.1) : PfM regs (ins (fkey p) (be3i (s.2 : Nat)) M) (updP G p s) (c + 1) := by
 have hl : ∀ q, (updP G p s q).1 = (G q).1 := fun q => by
  by_cases e : q = p
  ·subst e; rw [updP_same, h1]
  ·rw [updP_other e]
 obtain ⟨a0, ha0⟩ := h2
 refine ⟨fun q hq => ?_, fun q hq => ?_, fun q hq => ?_, fun q g hg => ?_, fun q => by rw [hl]; exact h.rise q, fun q hq => by rw [hl]; exact h.bad q hq, fun a ha => ?_, fun a => ?_, Nat.le_trans (insl hs) (by have := h.len; omega), fun x hx => ?_⟩
 ·rw [hl, ← h.gens q hq]
  exact und_ins_not (no_gf _ _) M
 ·rw [get_ins hs]
  by_cases e : q = p
  ·subst e
   have hne : s.1 ≠ [] := fun e => by rw [e] at ha0; cases ha0
   rw [if_pos rfl, updP_same, if_neg hne]
  ·rw [if_neg fun e2 => e (fkey_inj e2), updP_other e]; exact h.cur q hq
 ·by_cases e : q = p
  ·subst e; rw [updP_same]; exact ⟨a0, ha0⟩
  ·rw [updP_other e] at hq ⊢; exact h.has q hq
 ·rw [hl] at hg; have := h.nms q g hg; exact ⟨this.1, this.2.1, by omega⟩
 ·rw [get_ins hs, if_neg (by unfold pkey fkey; intro e; injection e with e; revert e; decide)]; exact h.reg a ha
 ·rw [und_ins_not (no_rf _ _)]; exact h.refs a
 ·obtain ⟨hm, hp2⟩ := List.mem_filter.1 hx
  rcases mem_ins hm with rfl | ⟨hm, _⟩
  ·exact ⟨p, hp, rfl⟩
  ·exact h.fs x (List.mem_filter.2 ⟨hm, hp2⟩)
theorem PfM.gen (h : PfM regs M G c) (hs : Srt M) (hp : nameOk p = true) (ha : stOk a = true) (hn : ∀ g ∈ (G p).1, g.1 < n) (hc : n ≤ c + 1) (h1 : 1 ≤ n) (hm : n ≤ 16777215) :
  (∀ q, nameOk q = true → under (gpre q) (ins (gkey p n) a M) = gensOf q (if q = p then (G p).1 ++ [(n, a)] else (G q).1)) ∧ (∀ q, get (fkey q) (ins (gkey p n) a M) = get (fkey q) M) ∧
  (∀ b, get (pkey b) (ins (gkey p n) a M) = get (pkey b) M) ∧ (∀ b, under (rpre b) (ins (gkey p n) a M) = []) ∧ under [102] (ins (gkey p n) a M) = under [102] M ∧ (ins (gkey p n) a M).length ≤ c + 1 := by
 refine ⟨fun q hq => ?_, fun q => ?_, fun b => ?_, fun b => ?_, und_ins_not (no_fg _ _) M, Nat.le_trans (insl hs) (by have := h.len; omega)⟩
 ·by_cases e : q = p
  ·subst e
   rw [if_pos rfl, gensOf_app, ← h.gens q hq]
   exact (under_ins hs (hasP_gsame q n) (by rw [h.gens q hq]; exact gensOf_lts hn hm)).1
  ·rw [if_neg e, ← h.gens q hq]
   exact und_ins_not (hasP_gother hp hq e) M
 ·rw [get_ins hs, if_neg (by unfold fkey gkey; intro e; injection e with e; revert e; decide)]
 ·rw [get_ins hs, if_neg (by unfold pkey gkey; intro e; injection e with e; revert e; decide)]
 ·rw [und_ins_not (no_rg _ _ _)]; exact h.refs b
theorem PfM.add (h : PfM regs M G c) (hs : Srt M) (hp : nameOk p = true) (ha : stOk a = true) (hn : ∀ g ∈ (G p).1, g.1 < n) (hc : n ≤ c + 1) (h1 : 1 ≤ n) (hm : n ≤ 16777215) :
  PfM regs (ins (fkey p) (be3i (n : Nat)) (ins (gkey p n) a M)) (updP G p ((G p).1 ++ [(n, a)], n)) (c + 2) := by
 obtain ⟨e1, e2, e3, e4, e5, e6⟩ := h.gen hs hp ha hn hc h1 hm
 have hs2 : Srt (ins (gkey p n) a M) := hs.ins
 refine ⟨fun q hq => ?_, fun q hq => ?_, fun q hq => ?_, fun q g hg => ?_, fun q => ?_, fun q hq => ?_, fun b hb => ?_, fun b => ?_, Nat.le_trans (insl hs2) (by omega), fun x hx => ?_⟩
 ·rw [und_ins_not (no_gf _ _), e1 q hq]
  by_cases e : q = p
  ·subst e; rw [updP_same, if_pos rfl]
  ·rw [updP_other e, if_neg e]
 ·rw [get_ins hs2]
  by_cases e : q = p
  ·subst e; rw [if_pos rfl, updP_same, if_neg (by simp)]
  ·rw [if_neg fun e2 => e (fkey_inj e2), updP_other e, e2]; exact h.cur q hq
 ·by_cases e : q = p
  ·subst e; rw [updP_same]; exact ⟨a, by simp⟩
  ·rw [updP_other e] at hq ⊢; exact h.has q hq
 ·by_cases e : q = p
  ·subst e
   rw [updP_same] at hg
   rcases List.mem_append.1 hg with hg | hg
   ·have := h.nms q g hg; exact ⟨this.1, this.2.1, by omega⟩
   ·obtain rfl : g = (n, a) := by simpa using hg
    exact ⟨ha, h1, by show n ≤ c + 2; omega⟩
  ·rw [updP_other e] at hg; have := h.nms q g hg; exact ⟨this.1, this.2.1, by omega⟩
 ·by_cases e : q = p
  ·subst e
   rw [updP_same]
   refine List.pairwise_append.2 ⟨h.rise q, List.pairwise_singleton _ _, fun x hx y hy => ?_⟩
   obtain rfl : y = (n, a) := by simpa using hy
   exact hn x hx
  ·rw [updP_other e]; exact h.rise q
 ·rw [updP_other fun e => by rw [e, hp] at hq; cases hq]; exact h.bad q hq
 ·rw [get_ins hs2, if_neg (by unfold pkey fkey; intro e; injection e with e; revert e; decide), e3]; exact h.reg b hb
 ·rw [und_ins_not (no_rf _ _)]; exact e4 b
 ·obtain ⟨hm2, hp2⟩ := List.mem_filter.1 hx
  rcases mem_ins hm2 with rfl | ⟨hm2, _⟩
  ·exact ⟨p, hp, rfl⟩
  ·exact h.fs x (by rw [← e5]; exact List.mem_filter.2 ⟨hm2, hp2⟩)
theorem PfM.del (h : PfM regs M G c) (hs : Srt M) (hp : nameOk p = true) (hn : n ≠ (G p).2) (hm : n ≤ 16777215) (hc : c ≤ 1000000) :
  PfM regs (del (gkey p n) M) (updP G p ((G p).1.filter (fun g => !decide (g.1 = n)), (G p).2)) c := by
 have hsub : ∀ q, ∀ g ∈ (updP G p ((G p).1.filter (fun g => !decide (g.1 = n)), (G p).2) q).1, g ∈ (G q).1 := fun q g hg => by
  by_cases e : q = p
  ·subst e; rw [updP_same] at hg; exact (List.mem_filter.1 hg).1
  ·rw [updP_other e] at hg; exact hg
 have hne : (G p).1 ≠ [] → (G p).1.filter (fun g => !decide (g.1 = n)) ≠ [] := fun h0 e => by
  obtain ⟨a, ha⟩ := h.has p h0
  have : ((G p).2, a) ∈ (G p).1.filter (fun g => !decide (g.1 = n)) := List.mem_filter.2 ⟨ha, by simpa using fun e => hn e.symm⟩
  rw [e] at this; cases this
 have hem : (G p).1 = [] → (G p).1.filter (fun g => !decide (g.1 = n)) = [] := fun h0 => by rw [h0]; rfl
 refine ⟨fun q hq => ?_, fun q hq => ?_, fun q hq => ?_, fun q g hg => h.nms q g (hsub q g hg), fun q => ?_, fun q hq => ?_, fun b hb => ?_, fun b => ?_, Nat.le_trans (List.length_filter_le _ _) h.len, fun x hx => ?_⟩
 ·by_cases e : q = p
  ·subst e
   rw [updP_same, und_del, h.gens q hq, gensOf_del (fun g hg => by have := (h.nms q g hg).2.2; omega) hm]
  ·rw [updP_other e, und_del_not (hasP_gother hp hq e)]; exact h.gens q hq
 ·rw [get_del, if_neg (by unfold fkey gkey; intro e; injection e with e; revert e; decide), h.cur q hq]
  by_cases e : q = p
  ·subst e
   rw [updP_same]
   by_cases h0 : (G q).1 = []
   ·rw [if_pos h0, if_pos (hem h0)]
   ·rw [if_neg h0, if_neg (hne h0)]
  ·rw [updP_other e]
 ·by_cases e : q = p
  ·subst e
   rw [updP_same] at hq ⊢
   obtain ⟨a, ha⟩ := h.has q fun h0 => hq (hem h0)
   exact ⟨a, List.mem_filter.2 ⟨ha, by simpa using fun e => hn e.symm⟩⟩
  ·rw [updP_other e] at hq ⊢; exact h.has q hq
 ·by_cases e : q = p
  ·subst e; rw [updP_same]; exact (h.rise q).filter _
  ·rw [updP_other e]; exact h.rise q
 ·rw [updP_other fun e => by rw [e, hp] at hq; cases hq]; exact h.bad q hq
 ·rw [get_del, if_neg (by unfold pkey gkey; intro e; injection e with e; revert e; decide)]; exact h.reg b hb
 ·rw [und_del_not (no_rg _ _ _)]; exact h.refs b
 ·rw [und_del_not (no_fg _ _)] at hx; exact h.fs x hx
theorem PfM.reg_ (h : PfM regs M G c) (hs : Srt M) : PfM (regs ++ [a]) (ins (pkey a) val0 M) G (c + 1) := by
 refine ⟨fun q hq => ?_, fun q hq => ?_, h.has, fun q g hg => ?_, h.rise, h.bad, fun b hb => ?_, fun b => ?_, Nat.le_trans (insl hs) (by have := h.len; omega), fun x hx => ?_⟩
 ·rw [und_ins_not (no_gp _ _)]; exact h.gens q hq
 ·rw [get_ins hs, if_neg (by unfold fkey pkey; intro e; injection e with e; revert e; decide)]; exact h.cur q hq
 ·have := h.nms q g hg; exact ⟨this.1, this.2.1, by omega⟩
 ·rw [get_ins hs]
  by_cases e : b = a
  ·subst e; rw [if_pos rfl, if_pos (by simp)]
  ·have hne : pkey b ≠ pkey a := fun e2 => e (List.cons.inj e2).2
   rw [if_neg hne, h.reg b hb]
   by_cases hr : b ∈ regs
   ·rw [if_pos hr, if_pos (by simp [hr])]
   ·rw [if_neg hr, if_neg (by simp [hr, e])]
 ·rw [und_ins_not (no_rp _ _)]; exact h.refs b
 ·rw [und_ins_not (no_fp _)] at hx; exact h.fs x hx
theorem PfM.nil : PfM [] [] (fun _ => ([], 0)) 0 :=
 ⟨fun p _ => by rfl, fun p _ => by rfl, fun p h => absurd rfl h, fun p g (h : g ∈ ([] : List Gn)) => by simp at h, fun p => List.Pairwise.nil, fun p _ => rfl, fun a _ => by simp [get], fun a => rfl, Nat.le_refl _, fun x (h : x ∈ ([] : List KV)) => by simp at h⟩
end
end Go.Proofs.YtpjfheadolphgaaGreat
namespace Go.Proofs.YtpjfheadolphgaaGreat
open Go.RowKit Go.Proofs Go.Shelf
set_option maxRecDepth 20000
attribute [local go_sem] Oper.semAt_some
section
variable {w w' : World}
def GkOut (A : Str) (n : Int) (w : World) (e : Ending) (w' : World) : Prop := e = .returned (if genOk A n then .tuple #[.string ⟨(gkey A n).toArray⟩, .int .i64 0] else .tuple #[.string ⟨#[]⟩, .int .i64 1]) ∧ Only NoB w w'
set_option maxHeartbeats 4000000 in
theorem bytes_gen (A : Str) (n : Int) (hA : A.length ≤ 1000000) (w : World) : Calls Tryz.prog 193 #[.agg (keyV 9 A [] n 0)] w (GkOut A n w) := by
 obtain ⟨W0, hW0⟩ : ∃ W0, W0 = w.alloc (.cells (keyV 9 A [] n 0) 144) := ⟨_, rfl⟩
 have ho0 : Only NoB w W0 := by rw [hW0]; exact (Only.refl NoB w).alloc _
 have c0 : Blk W0 w.heap.size 144 (keyV 9 A [] n 0) := by rw [hW0]; exact Blk.new w _ _
 have HC := Lib.hid (check_gen A n W0)
 have HO0 := Lib.hid ho0
 have HC0 := Lib.hid c0
 have HW0 := Lib.hid hW0
 clear ho0 c0 hW0
 unfold keyV at HC HW0 HC0 ⊢
 cases hb : genOk A n with
 | false =>
  have HB := Lib.hid hb
  clear hb
  go_enter Tryz.func193, Tryz.ntmps193
  go_wp2_with fail
  rw [← HW0.out]
  refine HC.out.mono ?_
  rintro e w1 ⟨rfl, ho1⟩
  have HE : Hid (GkOut A n w (.returned (.tuple #[.string ⟨#[]⟩, .int .i64 1])) w1) := Lib.hid ⟨by rw [HB.out]; rfl, HO0.out.trans ho1⟩
  have hbe := HB.out
  rw [hbe]
  clear ho1 hbe
  go_wp2_with fail
  go_ret2
  exact HE.out
 | true =>
  have HB := Lib.hid hb
  clear hb
  go_enter Tryz.func193, Tryz.ntmps193
  go_wp2_with fail
  rw [← HW0.out]
  refine HC.out.mono ?_
  rintro e w1 ⟨rfl, ho1⟩
  have c1 := HC0.out.only ho1 id
  have hbe := HB.out
  rw [hbe]
  have x0 : w1.cell? ⟨w.heap.size, 0, none⟩ = some (.int .i64 9) := c1.cell 0
  have HC1 := Lib.hid c1
  have HO1 := Lib.hid (HO0.out.trans ho1)
  have HL := Lib.hid (letter_ok (w := w1) 9 (by omega) (by omega))
  clear ho1 c1 HC hbe
  go_wp2_with fail
  refine HL.out.mono ?_
  rintro e w2 ⟨rfl, rfl⟩
  go_upto_region 17 with fail
  refine hB _ 10 (fun w' => w'.cell? ⟨w.heap.size, 3, none⟩ = some (.int .i64 n) ∧ w'.cell? ⟨w.heap.size, 1, none⟩ = some (.string ⟨A.toArray⟩)) (⟨HC1.out.drew.cell 3, HC1.out.drew.cell 1⟩) (fun hHeld => ?_)
  obtain ⟨z0, hz0⟩ : ∃ z, z = w1.drew := ⟨_, rfl⟩
  rw [← hz0] at hHeld ⊢
  have ha : Only NoB w1 z0 := by rw [hz0]; exact (Only.refl NoB w1).drew
  clear hz0
  obtain ⟨B, hBe⟩ : ∃ B, B = A ++ [0] := ⟨_, rfl⟩
  obtain ⟨C, hCe⟩ : ∃ C, C = B ++ be3i n := ⟨_, rfl⟩
  obtain ⟨D, hDe⟩ : ∃ D, D = letterOf 9 ++ C := ⟨_, rfl⟩
  have hb0 : (⟨A.toArray⟩ : ByteArray) ++ ⟨#[0]⟩ = ⟨B.toArray⟩ := by rw [hBe]; exact bytes_text A [0]
  have hb1 : (⟨B.toArray⟩ : ByteArray) ++ ⟨(be3i n).toArray⟩ = ⟨C.toArray⟩ := by rw [hCe]; exact bytes_text B (be3i n)
  have hb2 : (⟨(letterOf 9).toArray⟩ : ByteArray) ++ ⟨C.toArray⟩ = ⟨D.toArray⟩ := by rw [hDe]; exact bytes_text (letterOf 9) C
  have hl1 : (be3i n).length = 3 := rfl
  have hl3 : (letterOf 9).length = 1 := rfl
  obtain ⟨la, hl0⟩ : ∃ la, A.length = la := ⟨_, rfl⟩
  obtain ⟨lb, hl2⟩ : ∃ lb, B.length = lb := ⟨_, rfl⟩
  obtain ⟨lc, hl4⟩ : ∃ lc, C.length = lc := ⟨_, rfl⟩
  have hlb : lb = la + 1 := by rw [← hl2, hBe, List.length_append, hl0]; rfl
  have hlc : lc = lb + 3 := by rw [← hl4, hCe, List.length_append, hl2]; rfl
  have hg0 : ¬ 9223372036854775807 < la + 1 := by omega
  have hg1 : ¬ 9223372036854775807 < lb + 3 := by omega
  have hg2 : ¬ 9223372036854775807 < 1 + lc := by omega
  have hgk : D = gkey A n := by
   rw [hDe, hCe, hBe]
   show 103 :: ((A ++ [0]) ++ be3i n) = _
   rw [List.append_assoc]; rfl
  have HGK := Lib.hid hgk
  clear hlb hlc hBe hCe hDe hgk hA
  refine hT 0 67 ?_
  refine hT 1 68 ?_
  refine hT 2 69 ?_
  refine hT 3 70 ?_
  refine hT 4 71 ?_
  refine hT 5 72 ?_
  refine hE 6 (fun o ho K hK => ?_)
  cases ho
  go_simp
  refine (number_any n).mono ?_
  rintro e zc ⟨rfl, hq⟩
  replace ha := ha.trans hq
  refine hK.out _ _ (⟨(HC1.out.only ha id).cell 3, (HC1.out.only ha id).cell 1⟩) (fun hHeld => ?_)
  clear hK K
  try simp only [Act.put, List.setIfInBounds_toArray, List.set_cons_zero, List.set_cons_succ]
  refine hT 7 74 ?_
  refine hT 8 75 ?_
  refine hT 9 5 ?_
  refine wpAnyH_done (by kernel_rfl) ?_ _
  refine NoPanic.normal ?_
  go_wp2_with fail
  refine bodyPost_ret (results_tmp2 rfl _ _ _) rfl ?_
  exact ⟨by rw [HB.out, ← HGK.out]; rfl, HO1.out.trans ha⟩
def NpOut (c : UInt8) (A : Str) (w : World) (e : Ending) (w' : World) : Prop := e = .returned (if nameOk A then .tuple #[.string ⟨(c :: (A ++ [0])).toArray⟩, .int .i64 0] else .tuple #[.string ⟨#[]⟩, .int .i64 1]) ∧ Only NoB w w'
set_option maxHeartbeats 4000000 in
theorem prefix_nm6 (A : Str) (hA : A.length ≤ 140737488351232) (w : World) : Calls Tryz.prog 94 #[.agg (keyV 6 A [] 0 0)] w (NpOut 114 A w) := by
 obtain ⟨W0, hW0⟩ : ∃ W0, W0 = w.alloc (.cells (keyV 6 A [] 0 0) 144) := ⟨_, rfl⟩
 have ho0 : Only NoB w W0 := by rw [hW0]; exact (Only.refl NoB w).alloc _
 have c0 : Blk W0 w.heap.size 144 (keyV 6 A [] 0 0) := by rw [hW0]; exact Blk.new w _ _
 unfold keyV at hW0 c0 ⊢
 have x0 : W0.cell? ⟨w.heap.size, 0, none⟩ = some (.int .i64 6) := c0.cell 0
 have x1 : W0.cell? ⟨w.heap.size, 1, none⟩ = some (.string ⟨A.toArray⟩) := c0.cell 1
 have HO0 := Lib.hid ho0
 have HW0 := Lib.hid hW0
 have HK := Lib.hid (key_within (w := W0) (n := 6) (l := 1) (h := 10) ⟨by omega, by omega⟩)
 clear ho0 c0 hW0
 go_enter Tryz.func94, Tryz.ntmps94
 go_wp2_with fail
 rw [← HW0.out]
 refine HK.out.mono ?_
 rintro e w1 ⟨rfl, rfl⟩
 go_upto_region 10 with fail
 refine hB _ 8 (fun w' => w'.cell? ⟨w.heap.size, 0, none⟩ = some (.int .i64 6) ∧ w'.cell? ⟨w.heap.size, 1, none⟩ = some (.string ⟨A.toArray⟩)) (⟨x0, x1⟩) (fun hHeld => ?_)
 obtain ⟨z0, hz0⟩ : ∃ z, z = W0.drew := ⟨_, rfl⟩
 rw [← hz0] at hHeld ⊢
 have ha : Only NoB W0 z0 := by rw [hz0]; exact (Only.refl NoB W0).drew
 clear hz0
 obtain ⟨B, hBe⟩ : ∃ B, B = A ++ [0] := ⟨_, rfl⟩
 have hb0 : (⟨A.toArray⟩ : ByteArray) ++ ⟨#[0]⟩ = ⟨B.toArray⟩ := by rw [hBe]; exact bytes_text A [0]
 obtain ⟨la, hl0⟩ : ∃ la, A.length = la := ⟨_, rfl⟩
 obtain ⟨lb, hl2⟩ : ∃ lb, B.length = lb := ⟨_, rfl⟩
 have HLB := Lib.hid (show lb = la + 1 by rw [← hl2, hBe, List.length_append, hl0]; rfl)
 have hg0 : ¬ 9223372036854775807 < la + 1 := by omega
 have HBE := Lib.hid hBe
 have HLA := Lib.hid hl0
 clear hBe hA
 refine hT 0 24 ?_
 refine hT 1 25 ?_
 refine hT 3 27 ?_
 refine hT 4 28 ?_
 refine hT 5 29 ?_
 refine hE 2 (fun o ho K hK => ?_)
 cases ho
 go_simp
 refine (name_ok A _).mono ?_
 rintro e zw ⟨rfl, hq⟩
 replace ha := ha.trans hq
 refine hK.out _ _ (⟨(ha).cell x0 id, (ha).cell x1 id⟩) (fun hHeld => ?_)
 clear hK K
 try simp only [Act.put, List.setIfInBounds_toArray, List.set_cons_zero, List.set_cons_succ]
 refine hT 6 4 ?_
 refine hT 7 5 ?_
 refine wpAnyH_done (by kernel_rfl) ?_ _
 refine NoPanic.normal ?_
 obtain ⟨hh0, hh1⟩ := hHeld
 have HA := Lib.hid ha
 clear ha hb0 hl0 hg0 x0 x1
 cases hn : nameOk A with
 | false =>
  have HN := Lib.hid hn
  clear hn
  go_wp2_with fail
  refine bodyPost_ret (results_tmp2 rfl _ _ _) rfl ?_
  exact ⟨by rw [HN.out]; rfl, HO0.out.trans HA.out⟩
 | true =>
  have HN := Lib.hid hn
  have hb2 := bytes_text (letterOf 6) B
  have hl3 : (letterOf 6).length = 1 := rfl
  have hg2 : ¬ 9223372036854775807 < 1 + lb := by have := nameOk_len hn; have := HLA.out; have := HLB.out; omega
  clear hn
  go_wp2_with fail
  refine (letter_ok 6 (by omega) (by omega)).mono ?_
  rintro e z5 ⟨rfl, rfl⟩
  go_wp2_with fail
  refine bodyPost_ret (results_tmp2 rfl _ _ _) rfl ?_
  exact ⟨by rw [HN.out, ← HBE.out]; rfl, HO0.out.trans HA.out⟩
set_option maxHeartbeats 4000000 in
theorem prefix_nm9 (A : Str) (hA : A.length ≤ 140737488351232) (w : World) : Calls Tryz.prog 94 #[.agg (keyV 9 A [] 0 0)] w (NpOut 103 A w) := by
 obtain ⟨W0, hW0⟩ : ∃ W0, W0 = w.alloc (.cells (keyV 9 A [] 0 0) 144) := ⟨_, rfl⟩
 have ho0 : Only NoB w W0 := by rw [hW0]; exact (Only.refl NoB w).alloc _
 have c0 : Blk W0 w.heap.size 144 (keyV 9 A [] 0 0) := by rw [hW0]; exact Blk.new w _ _
 unfold keyV at hW0 c0 ⊢
 have x0 : W0.cell? ⟨w.heap.size, 0, none⟩ = some (.int .i64 9) := c0.cell 0
 have x1 : W0.cell? ⟨w.heap.size, 1, none⟩ = some (.string ⟨A.toArray⟩) := c0.cell 1
 have HO0 := Lib.hid ho0
 have HW0 := Lib.hid hW0
 have HK := Lib.hid (key_within (w := W0) (n := 9) (l := 1) (h := 10) ⟨by omega, by omega⟩)
 clear ho0 c0 hW0
 go_enter Tryz.func94, Tryz.ntmps94
 go_wp2_with fail
 rw [← HW0.out]
 refine HK.out.mono ?_
 rintro e w1 ⟨rfl, rfl⟩
 go_upto_region 10 with fail
 refine hB _ 8 (fun w' => w'.cell? ⟨w.heap.size, 0, none⟩ = some (.int .i64 9) ∧ w'.cell? ⟨w.heap.size, 1, none⟩ = some (.string ⟨A.toArray⟩)) (⟨x0, x1⟩) (fun hHeld => ?_)
 obtain ⟨z0, hz0⟩ : ∃ z, z = W0.drew := ⟨_, rfl⟩
 rw [← hz0] at hHeld ⊢
 have ha : Only NoB W0 z0 := by rw [hz0]; exact (Only.refl NoB W0).drew
 clear hz0
 obtain ⟨B, hBe⟩ : ∃ B, B = A ++ [0] := ⟨_, rfl⟩
 have hb0 : (⟨A.toArray⟩ : ByteArray) ++ ⟨#[0]⟩ = ⟨B.toArray⟩ := by rw [hBe]; exact bytes_text A [0]
 obtain ⟨la, hl0⟩ : ∃ la, A.length = la := ⟨_, rfl⟩
 obtain ⟨lb, hl2⟩ : ∃ lb, B.length = lb := ⟨_, rfl⟩
 have HLB := Lib.hid (show lb = la + 1 by rw [← hl2, hBe, List.length_append, hl0]; rfl)
 have hg0 : ¬ 9223372036854775807 < la + 1 := by omega
 have HBE := Lib.hid hBe
 have HLA := Lib.hid hl0
 clear hBe hA
 refine hT 0 24 ?_
 refine hT 1 25 ?_
 refine hT 3 27 ?_
 refine hT 4 28 ?_
 refine hT 5 29 ?_
 refine hE 2 (fun o ho K hK => ?_)
 cases ho
 go_simp
 refine (name_ok A _).mono ?_
 rintro e zw ⟨rfl, hq⟩
 replace ha := ha.trans hq
 refine hK.out _ _ (⟨(ha).cell x0 id, (ha).cell x1 id⟩) (fun hHeld => ?_)
 clear hK K
 try simp only [Act.put, List.setIfInBounds_toArray, List.set_cons_zero, List.set_cons_succ]
 refine hT 6 4 ?_
 refine hT 7 5 ?_
 refine wpAnyH_done (by kernel_rfl) ?_ _
 refine NoPanic.normal ?_
 obtain ⟨hh0, hh1⟩ := hHeld
 have HA := Lib.hid ha
 clear ha hb0 hl0 hg0 x0 x1
 cases hn : nameOk A with
 | false =>
  have HN := Lib.hid hn
  clear hn
  go_wp2_with fail
  refine bodyPost_ret (results_tmp2 rfl _ _ _) rfl ?_
  exact ⟨by rw [HN.out]; rfl, HO0.out.trans HA.out⟩
 | true =>
  have HN := Lib.hid hn
  have hb2 := bytes_text (letterOf 9) B
  have hl3 : (letterOf 9).length = 1 := rfl
  have hg2 : ¬ 9223372036854775807 < 1 + lb := by have := nameOk_len hn; have := HLA.out; have := HLB.out; omega
  clear hn
  go_wp2_with fail
  refine (letter_ok 9 (by omega) (by omega)).mono ?_
  rintro e z5 ⟨rfl, rfl⟩
  go_wp2_with fail
  refine bodyPost_ret (results_tmp2 rfl _ _ _) rfl ?_
  exact ⟨by rw [HN.out, ← HBE.out]; rfl, HO0.out.trans HA.out⟩
def ParGOut (A : Str) (n : Int) (w : World) (e : Ending) (w' : World) : Prop := e = .returned (.tuple #[.agg (keyV 9 A [] n 0), .int .i64 0]) ∧ Only NoB w w'
theorem genOk_of {A : Str} {n : Int} (h : genOk A n = true) : nameOk A = true ∧ 0 ≤ n ∧ n ≤ 16777215 := by
 unfold genOk numIn at h
 simp only [Bool.and_eq_true, decide_eq_true_iff] at h
 exact h
set_option maxHeartbeats 4000000 in
theorem parse_gen {A : Str} {n : Int} (h : genOk A n = true) (w : World) : Calls Tryz.prog 96 #[.string ⟨(gkey A n).toArray⟩] w (ParGOut A n w) := by
 obtain ⟨hnA, hn1, hn2⟩ := genOk_of h
 obtain ⟨hA1, hA2⟩ := nameOk_len hnA
 have hz := nameOk_nz hnA
 obtain ⟨s, hs⟩ : ∃ s, s = gkey A n := ⟨_, rfl⟩
 obtain ⟨q, hq⟩ : ∃ q, q = be3i n := ⟨_, rfl⟩
 have hql : q.length = 3 := by rw [hq]; rfl
 obtain ⟨rest, hre⟩ : ∃ rest, rest = A ++ 0 :: q := ⟨_, rfl⟩
 have hs2 : s = 103 :: rest := by rw [hs, hre, hq]; rfl
 obtain ⟨lr, hlr⟩ : ∃ lr, lr = rest.length := ⟨_, rfl⟩
 have hlr2 : lr = A.length + 4 := by rw [hlr, hre]; simp [hql]
 obtain ⟨ls, hls⟩ : ∃ ls, ls = s.length := ⟨_, rfl⟩
 have hls2 : ls = lr + 1 := by rw [hls, hs2, hlr]; rfl
 have e1 : (⟨s.toArray⟩ : ByteArray).extract 1 ls = ⟨rest.toArray⟩ := by rw [ext_str, hs2, hls2, hlr]; simp
 obtain ⟨r1, hr1⟩ : ∃ r1, r1 = rest.take 3 := ⟨_, rfl⟩
 obtain ⟨r2, hr2⟩ : ∃ r2, r2 = rest.drop 3 := ⟨_, rfl⟩
 have hr1l : r1.length = 3 := by rw [hr1, List.length_take]; omega
 have e2 : (⟨rest.toArray⟩ : ByteArray).extract 0 3 = ⟨r1.toArray⟩ := by rw [ext_str, hr1]; simp
 have e3 : (⟨rest.toArray⟩ : ByteArray).extract 3 lr = ⟨r2.toArray⟩ := by rw [ext_str, hr2, List.take_of_length_le]; rw [List.length_drop]; omega
 have e4 : (⟨q.toArray⟩ : ByteArray).extract 0 3 = ⟨q.toArray⟩ := by rw [ext_str]; simp; rw [List.take_of_length_le (by omega)]
 have hx0 : ∀ h, ((⟨s.toArray⟩ : ByteArray)[0]'h) = 103 := byte_at (s := s) (i := 0) (b := 103) (by rw [hs2]; rfl)
 have HIB := Lib.hid (show ∀ w, Calls Tryz.prog 190 #[.string ⟨#[110, 105, 99, 100, 112, 114, 117, 102, 103, 116]⟩, .int .u8 103] w fun e w' => e = .returned (.int .i64 8) ∧ w = w' from fun w => ib_ok _ 103 w)
 have HCU0 := fun w => cut_z (A := A) (r := q) hz (by omega) w
 rw [← hre] at HCU0
 unfold CutZ at HCU0
 have HCU := Lib.hid HCU0
 have HVA := value_ok q (by omega)
 have hfo : (foldN q : Int) = n := by rw [hq]; exact foldN_be3 (by omega) hn2
 rw [hfo] at HVA
 have HVA := Lib.hid HVA
 have HBY := fun w => bytes_gen A n (by omega) w
 unfold GkOut at HBY
 rw [h] at HBY
 rw [← hs] at HBY ⊢
 simp only [if_true] at HBY
 have HBY := Lib.hid HBY
 have hls' : s.length = ls := hls.symm
 have hlr' : rest.length = lr := hlr.symm
 have hne : s.isEmpty = false := by rw [hs2]; rfl
 have hlr3 : (3 : Int) ≤ lr := by omega
 have hls3 : (1 : Int) ≤ ls := by omega
 clear hs hq hre hs2 hlr hlr2 hls hls2 h hA1 hA2 hfo hnA hz HCU0 hr1 hr2
 unfold keyV at HBY
 go_enter Tryz.func96, Tryz.ntmps96
 go_wp2_with fail
 refine (HIB.out _).mono ?_
 rintro e w1 ⟨rfl, rfl⟩
 go_wp2_with fail
 refine (HCU.out _).mono ?_
 rintro e w2 ⟨rfl, ho2⟩
 have hWa : (w.alloc (.cells #[.int .i64 0, .string ⟨#[]⟩, .string ⟨#[]⟩, .int .i64 0, .int .i64 0] 144)).alloc (.cells #[.int .i64 9, .string ⟨#[]⟩, .string ⟨#[]⟩, .int .i64 0, .int .i64 0] 144) = allocs w [(#[.int .i64 0, .string ⟨#[]⟩, .string ⟨#[]⟩, .int .i64 0, .int .i64 0], 144), (#[.int .i64 9, .string ⟨#[]⟩, .string ⟨#[]⟩, .int .i64 0, .int .i64 0], 144)] := rfl
 have c0 := (blk_of hWa 0 rfl).only ho2 id
 have c1 := (blk_of hWa 1 rfl).only ho2 id
 have ho : Only NoB w w2 := by rw [hWa] at ho2; exact (allocs_only _ _).trans ho2
 have x0 : w2.cell? ⟨w.heap.size + 1, 0, none⟩ = some (.int .i64 9) := c1.cell 0
 have C0 := Lib.hid c0
 have C1 := Lib.hid c1
 have HO := Lib.hid ho
 clear hWa c0 c1 ho ho2
 go_wp2_with fail
 refine (HVA.out _).mono ?_
 rintro e w3 ⟨rfl, ho3⟩
 have c0 := C0.out.only ho3 id
 have c1 := C1.out.only ho3 id
 have f1 := c1.frozen 1
 have g1 : w3.cell? ⟨w.heap.size + 1, 1, none⟩ = some (.string ⟨#[]⟩) := c1.cell 1
 have c1' := (c1.set_ 1 (.string ⟨A.toArray⟩)).set_ 3 (.int .i64 n)
 have k3 : (w3.setCell ⟨w.heap.size + 1, 1, none⟩ (.string ⟨A.toArray⟩)).cell? ⟨w.heap.size + 1, 3, none⟩ = some (.int .i64 0) := (c1.set_ 1 (.string ⟨A.toArray⟩)).cell 3
 have k3f := (c1.set_ 1 (.string ⟨A.toArray⟩)).frozen 3
 obtain ⟨W4, hW4⟩ : ∃ W4, W4 = (w3.setCell ⟨w.heap.size + 1, 1, none⟩ (.string ⟨A.toArray⟩)).setCell ⟨w.heap.size + 1, 3, none⟩ (.int .i64 n) := ⟨_, rfl⟩
 have C1' : Hid (Blk W4 (w.heap.size + 1) 144 #[.int .i64 9, .string ⟨A.toArray⟩, .string ⟨#[]⟩, .int .i64 n, .int .i64 0]) := Lib.hid (by rw [hW4]; exact c1')
 have C0' : Hid (Blk W4 w.heap.size 144 #[.int .i64 0, .string ⟨#[]⟩, .string ⟨#[]⟩, .int .i64 0, .int .i64 0]) := Lib.hid (by rw [hW4]; exact (c0.far (p := ⟨w.heap.size + 1, 1, none⟩) (by show w.heap.size ≠ w.heap.size + 1; omega) _).far (p := ⟨w.heap.size + 1, 3, none⟩) (by show w.heap.size ≠ w.heap.size + 1; omega) _)
 have HO4 : Hid (Only NoB w W4) := Lib.hid (by rw [hW4]; exact ((HO.out.trans ho3).setCell (.inr (by show w.heap.size ≤ w.heap.size + 1; omega)) _).setCell (.inr (by show w.heap.size ≤ w.heap.size + 1; omega)) _)
 have HW4 := Lib.hid hW4
 have y0 : W4.cell? ⟨w.heap.size + 1, 0, none⟩ = some (.int .i64 9) := C1'.out.cell 0
 have y1 : W4.cell? ⟨w.heap.size + 1, 1, none⟩ = some (.string ⟨A.toArray⟩) := C1'.out.cell 1
 have y2 : W4.cell? ⟨w.heap.size + 1, 2, none⟩ = some (.string ⟨#[]⟩) := C1'.out.cell 2
 have y3 : W4.cell? ⟨w.heap.size + 1, 3, none⟩ = some (.int .i64 n) := C1'.out.cell 3
 have y4 : W4.cell? ⟨w.heap.size + 1, 4, none⟩ = some (.int .i64 0) := C1'.out.cell 4
 have hby := HBY.out W4
 rw [hW4] at y0 y1 y2 y3 y4 hby
 have HB4 := Lib.hid hby
 clear c0 c1 c1' ho3 hW4 x0 hby
 go_wp2_with fail
 refine HB4.out.mono ?_
 rintro e w5 ⟨rfl, ho5⟩
 rw [← HW4.out] at ho5
 have d0 := C0'.out.only ho5 id
 have d1 := C1'.out.only ho5 id
 have z0 : w5.cell? ⟨w.heap.size + 1, 0, none⟩ = some (.int .i64 9) := d1.cell 0
 have z1 : w5.cell? ⟨w.heap.size + 1, 1, none⟩ = some (.string ⟨A.toArray⟩) := d1.cell 1
 have z2 : w5.cell? ⟨w.heap.size + 1, 2, none⟩ = some (.string ⟨#[]⟩) := d1.cell 2
 have z3 : w5.cell? ⟨w.heap.size + 1, 3, none⟩ = some (.int .i64 n) := d1.cell 3
 have z4 : w5.cell? ⟨w.heap.size + 1, 4, none⟩ = some (.int .i64 0) := d1.cell 4
 have o0 := d0.cell 0
 have o1 := d0.cell 1
 have o2 := d0.cell 2
 have o3 := d0.cell 3
 have o4 := d0.cell 4
 have p0 := d0.frozen 0
 have p1 := d0.frozen 1
 have p2 := d0.frozen 2
 have p3 := d0.frozen 3
 have p4 := d0.frozen 4
 have D0 := Lib.hid d0
 have HO5 := Lib.hid (HO4.out.trans ho5)
 clear d0 d1 ho5 y0 y1 y2 y3 y4 k3 k3f f1 g1
 go_wp2_with fail
 (try simp only [Exit.inBlock, Exit.then])
 obtain ⟨hbf, hst⟩ := key5_set ⟨_, _, _, _, _, D0.out⟩ (.int .i64 9) (.string ⟨A.toArray⟩) (.string ⟨#[]⟩) (.int .i64 n) (.int .i64 0)
 refine bodyPost_ret (results_row_tmp rfl _ _ w.heap.size 144 _ rfl hbf (by kernel_rfl) (by kernel_rfl)) rfl ?_
 exact ⟨rfl, HO5.out.trans' hst fun k hk (e : k = w.heap.size) => by omega⟩
end
end Go.Proofs.YtpjfheadolphgaaGreat
namespace Go.Proofs.YtpjfheadolphgaaGreat
open Go.RowKit Go.Proofs Go.Shelf
set_option maxRecDepth 20000
attribute [local go_sem] Oper.semAt_some
section
variable {w w' : World} {F G : Nat → Prop} {X : XC} {t m np own c : Nat} {M : List KV}
theorem pnumber_any (n : Int) : Calls Tryz.prog 251 #[.int .i64 n] w fun e w' => e = .returned (.string ⟨(be3i n).toArray⟩) ∧ Only NoB w w' := by
 have hcv := conv_new (w := w) (n := 3) (be3i_cells n) rfl
 go_enter Tryz.func251, Tryz.ntmps251
 go_wp2_with fail
 go_ret
 exact ⟨rfl, (Only.refl NoB w).alloc _⟩
theorem pgen_any (A : Str) (n : Int) (hA : A.length ≤ 1000000) (w : World) : Calls Tryz.prog 151 #[.string ⟨A.toArray⟩, .int .i64 n] w (GkOut A n w) := by
 have HB := bytes_gen A n hA w
 unfold GkOut keyV at HB
 unfold GkOut
 obtain ⟨a, b, hab⟩ : ∃ a b, (if genOk A n then Value.tuple #[.string ⟨(gkey A n).toArray⟩, .int .i64 0] else .tuple #[.string ⟨#[]⟩, .int .i64 1]) = .tuple #[a, b] := by split <;> exact ⟨_, _, rfl⟩
 rw [hab] at HB ⊢
 have HB := Pk.mk HB
 clear hab hA
 go_enter Tryz.func151, Tryz.ntmps151
 go_wp2_with fail
 refine HB.out.mono ?_
 rintro e w1 ⟨rfl, ho⟩
 have HO := Pk.mk ho
 clear ho
 go_wp2_with fail
 go_ret2
 exact ⟨rfl, HO.out⟩
theorem fkey_len (p : Str) : (fkey p).length = p.length + 1 := rfl
theorem gkey_len (p : Str) (n : Int) : (gkey p n).length = p.length + 5 := by simp [gkey, be3i]
theorem pair_f {p : Str} {n : Int} (hp : nameOk p = true) (hm : 400 ≤ m) : PairOk m (fkey p, be3i n) := by
 have h1 := nameOk_len hp
 have hmo : 80 ≤ NodeD.most m := by unfold NodeD.most; omega
 have h2 := fkey_len p
 exact ⟨by show 1 ≤ (fkey p).length; omega, by show (fkey p).length ≤ 255; omega, by show (3 : Nat) ≤ 255; omega, by show (fkey p).length + 3 ≤ _; omega⟩
theorem puse_ok {p : Str} {n : Int} (h : KvAt w F X t m np own M c) (hp : nameOk p = true) (hm : 400 ≤ m) (hc : c + 1 ≤ np - (own + 1)) :
  Calls Tryz.prog 152 #[.pointer (some ⟨t, 0, none⟩), .string ⟨p.toArray⟩, .int .i64 n] w (KvOut w F X t m np own (.int .i64 0) (ins (fkey p) (be3i n) M) (c + 1)) := by
 have hl := nameOk_len hp
 have HB := bytes_nm (.inr rfl : (8 : Int) = 5 ∨ (8 : Int) = 8) p (by omega) w
 unfold NkOut keyV at HB
 rw [hp] at HB
 simp only [if_true] at HB
 have HB := Pk.mk HB
 have HK : Pk (∀ w1, Only NoB w w1 → Calls Tryz.prog 53 #[.pointer (some ⟨t, 0, none⟩), .string ⟨(fkey p).toArray⟩, .string ⟨(be3i n).toArray⟩] w1 (KvOut w1 F X t m np own (.tuple #[.bool (get (fkey p) M).isSome, .int .i64 0]) (ins (fkey p) (be3i n) M) (c + 1))) := Pk.mk fun w1 ho => kv_put (h.quit ho) hc (pair_f hp hm) (by rw [fkey_len]; omega)
 have HN := Pk.mk fun w1 => pnumber_any (w := w1) n
 obtain ⟨ek, hek⟩ : ∃ ek, ek = fkey p := ⟨_, rfl⟩
 rw [show (if (8 : Int) = 5 then (112 : UInt8) else 102) :: p = fkey p from rfl, ← hek] at HB
 rw [← hek] at HK ⊢
 have S0 := Pk.mk (KvSt.start h)
 clear h hp hm hc hl hek
 go_enter Tryz.func152, Tryz.ntmps152
 go_wp2_with fail
 refine HB.out.mono ?_
 rintro e w1 ⟨rfl, ho⟩
 have S1 := Pk.mk (S0.out.quit ho)
 have HO := Pk.mk ho
 clear ho
 go_wp2_with fail
 refine (HN.out _).mono ?_
 rintro e w2 ⟨rfl, ho⟩
 have HP := Pk.mk (HK.out w2 (HO.out.trans ho))
 have S2 := Pk.mk (S1.out.quit ho)
 clear ho
 go_wp2_with fail
 refine HP.out.mono ?_
 rintro e w3 ⟨rfl, F3, h3, ho3, hg3⟩
 have S3 := Pk.mk (S2.out.step h3 ho3 hg3)
 clear h3 ho3 hg3
 go_wp2_with fail
 go_ret
 exact S3.out.out
end
end Go.Proofs.YtpjfheadolphgaaGreat
namespace Go.Proofs.YtpjfheadolphgaaGreat
open Go.RowKit Go.Proofs
set_option maxRecDepth 20000
section
variable {w : World}
def ob : ByteArray := ⟨#[43, 45, 46, 95, 63, 61]⟩
theorem ob_low : ∀ b ∈ ob.data.toList, b.toNat < 128 := by decide
theorem ob_first (c : UInt8) : decide (0 ≤ firstIdx ob c) = ([43, 45, 46, 95, 63, 61] : Str).contains c := by
 rw [firstIdx_nonneg]
 have : ob.data.toList = [43, 45, 46, 95, 63, 61] := rfl
 rw [this]
 simp only [List.any_cons, List.any_nil, List.contains, List.elem]
 have hq : ∀ a : UInt8, (a == c) = (c == a) := fun a => by rw [Bool.eq_iff_iff, beq_iff_eq, beq_iff_eq]; exact eq_comm
 simp only [hq]
 cases (c == 43) <;> cases (c == 45) <;> cases (c == 46) <;> cases (c == 95) <;> cases (c == 63) <;> cases (c == 61) <;> rfl
def RuOut (v : Bool) (w : World) (e : Ending) (w' : World) : Prop := (∃ i : Int, e = .returned (.int .i64 i) ∧ decide (i ≥ 0) = v) ∧ Only NoB w w'
set_option maxHeartbeats 2000000 in
theorem orune_ascii (r : Nat) (h : r < 128) (w : World) : Calls Tryz.prog 333 #[.string ob, .int .i32 r] w (RuOut (([43, 45, 46, 95, 63, 61] : Str).contains r.toUInt8) w) := by
 have HI := Lib.hid (ib_ok ob r w)
 have hc := ob_first r.toUInt8
 have hb : ((r : Int).toNat.toUInt8) = r.toUInt8 := by simp
 rw [hb] at HI
 obtain ⟨i, hi⟩ : ∃ i, i = firstIdx ob r.toUInt8 := ⟨_, rfl⟩
 rw [← hi] at HI hc
 have HC := Lib.hid hc
 have h2 : (r : Int) < 128 := by omega
 have h3 : (0 : Int) ≤ r := by omega
 clear hb hc hi
 unfold ob at HI ⊢
 go_enter Tryz.func333, Tryz.ntmps333
 go_wp2_with fail
 refine HI.out.mono ?_
 rintro e w1 ⟨rfl, rfl⟩
 go_wp2_with fail
 go_ret
 exact ⟨⟨i, rfl, HC.out⟩, Only.refl _ _⟩
theorem orun (i : Nat) (b : UInt8) (h : i < ob.size) (hb : ob[i]'h = b) (h8 : b.toNat < 128) (w : World) (ty : TypeId) :
  (Instr.next (.pointer (some ⟨w.heap.size, 0, none⟩)) true ty).run Tryz.prog (w.iter ob i) = .ok (.tuple #[.bool true, .int .i64 i, .int .i32 b.toNat]) (w.iter ob (i + 1)) := by
 have := run_next_ascii (P := Tryz.prog) w ob i ty h (by rw [hb]; exact h8)
 rwa [hb] at this
set_option maxHeartbeats 4000000 in
theorem orune_err (w : World) : Calls Tryz.prog 333 #[.string ob, .int .i32 65533] w (RuOut false w) := by
 unfold ob
 go_enter Tryz.func333, Tryz.ntmps333
 go_wp2_with fail
 go_loopg [5, 6] 6 (fun g _ _ wx => ∃ i : Nat, i + g = 6 ∧ wx = w.iter ⟨#[43, 45, 46, 95, 63, 61]⟩ i)
 case atStart => exact ⟨0, by omega, rfl⟩
 case round =>
  obtain ⟨i, hig, rfl⟩ := hrel
  rcases i with _ | _ | _ | _ | _ | _ | _ | i
  ·have hnx := fun ty => orun 0 43 (by decide) rfl (by decide) w ty
   unfold ob at hnx
   obtain ⟨g', rfl⟩ : ∃ g', gk = g' + 1 := ⟨gk - 1, by omega⟩
   go_wp2_with fail
   go_roundg g'
   case measure => omega
   case rel => exact ⟨1, by omega, rfl⟩
  ·have hnx := fun ty => orun 1 45 (by decide) rfl (by decide) w ty
   unfold ob at hnx
   obtain ⟨g', rfl⟩ : ∃ g', gk = g' + 1 := ⟨gk - 1, by omega⟩
   go_wp2_with fail
   go_roundg g'
   case measure => omega
   case rel => exact ⟨2, by omega, rfl⟩
  ·have hnx := fun ty => orun 2 46 (by decide) rfl (by decide) w ty
   unfold ob at hnx
   obtain ⟨g', rfl⟩ : ∃ g', gk = g' + 1 := ⟨gk - 1, by omega⟩
   go_wp2_with fail
   go_roundg g'
   case measure => omega
   case rel => exact ⟨3, by omega, rfl⟩
  ·have hnx := fun ty => orun 3 95 (by decide) rfl (by decide) w ty
   unfold ob at hnx
   obtain ⟨g', rfl⟩ : ∃ g', gk = g' + 1 := ⟨gk - 1, by omega⟩
   go_wp2_with fail
   go_roundg g'
   case measure => omega
   case rel => exact ⟨4, by omega, rfl⟩
  ·have hnx := fun ty => orun 4 63 (by decide) rfl (by decide) w ty
   unfold ob at hnx
   obtain ⟨g', rfl⟩ : ∃ g', gk = g' + 1 := ⟨gk - 1, by omega⟩
   go_wp2_with fail
   go_roundg g'
   case measure => omega
   case rel => exact ⟨5, by omega, rfl⟩
  ·have hnx := fun ty => orun 5 61 (by decide) rfl (by decide) w ty
   unfold ob at hnx
   obtain ⟨g', rfl⟩ : ∃ g', gk = g' + 1 := ⟨gk - 1, by omega⟩
   go_wp2_with fail
   go_roundg g'
   case measure => omega
   case rel => exact ⟨6, by omega, rfl⟩
  ·have hnx := fun ty => run_next_end (P := Tryz.prog) w ⟨#[43, 45, 46, 95, 63, 61]⟩ 6 ty (by decide)
   go_wp2_with fail
   go_ret
   exact ⟨⟨_, rfl, rfl⟩, (Only.refl NoB w).alloc _⟩
  ·omega
theorem encode_last (r : Int) (h : 128 ≤ r) : (∃ a b, Utf8.encode r = ⟨#[a, b]⟩ ∧ 128 ≤ b.toNat) ∨ (∃ a c b, Utf8.encode r = ⟨#[a, c, b]⟩ ∧ 128 ≤ b.toNat) ∨ ∃ a c d b, Utf8.encode r = ⟨#[a, c, d, b]⟩ ∧ 128 ≤ b.toNat := by
 unfold Utf8.encode
 obtain ⟨c, hc⟩ : ∃ c, c = (if Utf8.valid r then r.toNat else Utf8.runeError) := ⟨_, rfl⟩
 have h1 : 128 ≤ c := by rw [hc]; split; (· omega); (· decide)
 simp only [← hc]
 rw [if_neg (by omega)]
 have hl : ∀ x : Nat, 128 ≤ (UInt8.ofNat (128 + x % 64)).toNat := fun x => by rw [UInt8.toNat_ofNat']; omega
 split
 ·exact .inl ⟨_, _, rfl, hl _⟩
 ·split
  ·exact .inr (.inl ⟨_, _, _, rfl, hl _⟩)
  ·exact .inr (.inr ⟨_, _, _, _, rfl, hl _⟩)
set_option maxHeartbeats 8000000 in
theorem orune_high (r : Int) (h : 128 ≤ r) (w : World) : Calls Tryz.prog 333 #[.string ob, .int .i32 r] w (RuOut false w) := by
 by_cases he : r = 65533
 ·subst he; exact orune_err w
 ·have hbe : (r == 65533) = false := by simpa using he
  have h128 : ¬ r < 128 := by omega
  have HV := Lib.hid (validRune_any r w)
  have hcv := fun w => conv_rune r w
  have HI := Lib.hid fun (b : UInt8) a e (hb : 128 ≤ b.toNat) w => (show Calls Tryz.prog 190 #[.string (ob.extract a e), .int .u8 b.toNat] w fun e w' => e = .returned (.int .i64 (-1)) ∧ w = w' by
   have := ib_ok (ob.extract a e) b.toNat w
   rwa [show ((b.toNat : Int)).toNat.toUInt8 = b by simp, firstIdx_ascii ob a e b ob_low hb] at this)
  unfold ob at HI ⊢
  rcases encode_last r h with ⟨a, b, hen, hb⟩ | ⟨a, c, b, hen, hb⟩ | ⟨a, c, d, b, hen, hb⟩
  ·rw [hen] at hcv
   clear hen he
   have HB := Lib.hid hb
   go_enter Tryz.func333, Tryz.ntmps333
   go_wp2_with fail
   refine HV.out.mono ?_
   rintro e w1 ⟨bb, rfl, rfl⟩
   cases bb
   ·go_wp2_with fail
    go_ret
    exact ⟨⟨_, rfl, rfl⟩, Only.refl _ _⟩
   ·go_wp2_with fail
    go_step3
    go_wp2_with fail
    go_loopw [9] (fun i wr => i = .int .i64 1 ∧ Only NoB w wr) (fun _ _ => 0)
    case atStart => exact ⟨rfl, Only.refl _ _⟩
    case round =>
     obtain ⟨rfl, ho⟩ := hrel
     have HO := Lib.hid ho
     clear ho
     have hbne : ((45 : UInt8) != b) = true := by
      have hb := HB.out
      rw [bne_iff_ne]; rintro rfl; revert hb; decide
     have hx1 : ∀ h, ((⟨#[43, 45, 46, 95, 63, 61]⟩ : ByteArray)[1]'h).toNat = 45 := fun _ => rfl
     have hx2 : ∀ h, ((⟨#[a, b]⟩ : ByteArray)[1]'h).toNat = b.toNat := fun _ => rfl
     have hw2 : IntKind.i64.wrap 2 = 2 := by decide
     have hbn : ¬ (45 : Int) = (b.toNat : Int) := by have hb := HB.out; omega
     have hbq : ((45 : Int) != (b.toNat : Int)) = true := by rw [bne_iff_ne]; exact hbn
     clear hb
     go_wp2_with fail
     go_step3
     go_wp2_with fail
     go_region
     all_goals go_wp2_with fail
     all_goals (
      refine hB _ 9 (fun w' => Only NoB w w') (HO.out.drew.drew) (fun hHeld => ?_)
      refine hT 0 34 ?_
      refine hT 1 35 ?_
      refine hT 2 36 ?_
      refine hT 3 37 ?_
      refine hT 4 38 ?_
      refine hT 5 39 ?_
      refine hT 6 40 ?_
      refine hE 7 (fun o ho K hK => ?_)
      cases ho
      go_simp
      refine ((HI.out b 2 6 HB.out _ : Calls _ _ _ _ _)).mono ?_
      rintro e z2 ⟨rfl, rfl⟩
      refine hK.out _ _ (by assumption) (fun hHeld => ?_)
      clear hK K
      try simp only [Act.put, List.setIfInBounds_toArray, List.set_cons_zero, List.set_cons_succ]
      refine hT 8 11 ?_
      refine wpAnyH_done (by kernel_rfl) ?_ _
      refine NoPanic.normal ?_
      go_wp2_with fail
      rw [Exit.noGoto_ret]
      go_wp2_with fail
      rw [Exit.noGoto_ret]
      go_wp2_with fail
      go_ret
      exact ⟨⟨_, rfl, rfl⟩, by assumption⟩)
  ·rw [hen] at hcv
   clear hen he
   have HB := Lib.hid hb
   go_enter Tryz.func333, Tryz.ntmps333
   go_wp2_with fail
   refine HV.out.mono ?_
   rintro e w1 ⟨bb, rfl, rfl⟩
   cases bb
   ·go_wp2_with fail
    go_ret
    exact ⟨⟨_, rfl, rfl⟩, Only.refl _ _⟩
   ·go_wp2_with fail
    go_step3
    go_wp2_with fail
    go_loopw [9] (fun i wr => i = .int .i64 2 ∧ Only NoB w wr) (fun _ _ => 0)
    case atStart => exact ⟨rfl, Only.refl _ _⟩
    case round =>
     obtain ⟨rfl, ho⟩ := hrel
     have HO := Lib.hid ho
     clear ho
     have hbne : ((46 : UInt8) != b) = true := by
      have hb := HB.out
      rw [bne_iff_ne]; rintro rfl; revert hb; decide
     have hx1 : ∀ h, ((⟨#[43, 45, 46, 95, 63, 61]⟩ : ByteArray)[2]'h).toNat = 46 := fun _ => rfl
     have hx2 : ∀ h, ((⟨#[a, c, b]⟩ : ByteArray)[2]'h).toNat = b.toNat := fun _ => rfl
     have hw2 : IntKind.i64.wrap 3 = 3 := by decide
     have hbn : ¬ (46 : Int) = (b.toNat : Int) := by have hb := HB.out; omega
     have hbq : ((46 : Int) != (b.toNat : Int)) = true := by rw [bne_iff_ne]; exact hbn
     clear hb
     go_wp2_with fail
     go_step3
     go_wp2_with fail
     go_region
     all_goals go_wp2_with fail
     all_goals (
      refine hB _ 9 (fun w' => Only NoB w w') (HO.out.drew.drew) (fun hHeld => ?_)
      refine hT 0 34 ?_
      refine hT 1 35 ?_
      refine hT 2 36 ?_
      refine hT 3 37 ?_
      refine hT 4 38 ?_
      refine hT 5 39 ?_
      refine hT 6 40 ?_
      refine hE 7 (fun o ho K hK => ?_)
      cases ho
      go_simp
      refine ((HI.out b 3 6 HB.out _ : Calls _ _ _ _ _)).mono ?_
      rintro e z2 ⟨rfl, rfl⟩
      refine hK.out _ _ (by assumption) (fun hHeld => ?_)
      clear hK K
      try simp only [Act.put, List.setIfInBounds_toArray, List.set_cons_zero, List.set_cons_succ]
      refine hT 8 11 ?_
      refine wpAnyH_done (by kernel_rfl) ?_ _
      refine NoPanic.normal ?_
      go_wp2_with fail
      rw [Exit.noGoto_ret]
      go_wp2_with fail
      rw [Exit.noGoto_ret]
      go_wp2_with fail
      go_ret
      exact ⟨⟨_, rfl, rfl⟩, by assumption⟩)
  ·rw [hen] at hcv
   clear hen he
   have HB := Lib.hid hb
   go_enter Tryz.func333, Tryz.ntmps333
   go_wp2_with fail
   refine HV.out.mono ?_
   rintro e w1 ⟨bb, rfl, rfl⟩
   cases bb
   ·go_wp2_with fail
    go_ret
    exact ⟨⟨_, rfl, rfl⟩, Only.refl _ _⟩
   ·go_wp2_with fail
    go_step3
    go_wp2_with fail
    go_loopw [9] (fun i wr => i = .int .i64 3 ∧ Only NoB w wr) (fun _ _ => 0)
    case atStart => exact ⟨rfl, Only.refl _ _⟩
    case round =>
     obtain ⟨rfl, ho⟩ := hrel
     have HO := Lib.hid ho
     clear ho
     have hbne : ((95 : UInt8) != b) = true := by
      have hb := HB.out
      rw [bne_iff_ne]; rintro rfl; revert hb; decide
     have hx1 : ∀ h, ((⟨#[43, 45, 46, 95, 63, 61]⟩ : ByteArray)[3]'h).toNat = 95 := fun _ => rfl
     have hx2 : ∀ h, ((⟨#[a, c, d, b]⟩ : ByteArray)[3]'h).toNat = b.toNat := fun _ => rfl
     have hw2 : IntKind.i64.wrap 4 = 4 := by decide
     have hbn : ¬ (95 : Int) = (b.toNat : Int) := by have hb := HB.out; omega
     have hbq : ((95 : Int) != (b.toNat : Int)) = true := by rw [bne_iff_ne]; exact hbn
     clear hb
     go_wp2_with fail
     go_step3
     go_wp2_with fail
     go_region
     all_goals go_wp2_with fail
     all_goals (
      refine hB _ 9 (fun w' => Only NoB w w') (HO.out.drew.drew) (fun hHeld => ?_)
      refine hT 0 34 ?_
      refine hT 1 35 ?_
      refine hT 2 36 ?_
      refine hT 3 37 ?_
      refine hT 4 38 ?_
      refine hT 5 39 ?_
      refine hT 6 40 ?_
      refine hE 7 (fun o ho K hK => ?_)
      cases ho
      go_simp
      refine ((HI.out b 4 6 HB.out _ : Calls _ _ _ _ _)).mono ?_
      rintro e z2 ⟨rfl, rfl⟩
      refine hK.out _ _ (by assumption) (fun hHeld => ?_)
      clear hK K
      try simp only [Act.put, List.setIfInBounds_toArray, List.set_cons_zero, List.set_cons_succ]
      refine hT 8 11 ?_
      refine wpAnyH_done (by kernel_rfl) ?_ _
      refine NoPanic.normal ?_
      go_wp2_with fail
      rw [Exit.noGoto_ret]
      go_wp2_with fail
      rw [Exit.noGoto_ret]
      go_wp2_with fail
      go_ret
      exact ⟨⟨_, rfl, rfl⟩, by assumption⟩)
theorem crune_any (r : Int) (v : Bool) (h : ∀ w, Calls Tryz.prog 333 #[.string ob, .int .i32 r] w (RuOut v w)) (w : World) : Calls Tryz.prog 345 #[.string ob, .int .i32 r] w fun e w' => e = .returned (.bool v) ∧ Only NoB w w' := by
 have H := Lib.hid (h w)
 clear h
 unfold ob at H ⊢
 go_enter Tryz.func345, Tryz.ntmps345
 go_wp2_with fail
 refine H.out.mono ?_
 rintro e w1 ⟨⟨i, rfl, hi⟩, ho⟩
 have HI := Lib.hid hi
 have HO := Lib.hid ho
 clear hi ho
 go_wp2_with fail
 go_ret
 exact ⟨by rw [← HI.out]; rfl, HO.out⟩
def mayR (r : Nat) : Bool := ((97 ≤ r && r ≤ 122) || (65 ≤ r && r ≤ 90) || (48 ≤ r && r ≤ 57)) || (decide (r < 128) && ([43, 45, 46, 95, 63, 61] : Str).contains r.toUInt8)
theorem crune_ok (r : Nat) (w : World) : Calls Tryz.prog 345 #[.string ob, .int .i32 r] w fun e w' => e = .returned (.bool (decide (r < 128) && ([43, 45, 46, 95, 63, 61] : Str).contains r.toUInt8)) ∧ Only NoB w w' := by
 by_cases h : r < 128
 ·rw [decide_eq_true h, Bool.true_and]; exact crune_any _ _ (fun w => orune_ascii r h w) w
 ·rw [decide_eq_false h, Bool.false_and]; exact crune_any _ _ (fun w => orune_high r (by omega) w) w
set_option maxHeartbeats 2000000 in
theorem nmay_ok (r : Nat) (w : World) : Calls Tryz.prog 321 #[.int .i32 r] w fun e w' => e = .returned (.bool (mayR r)) ∧ Only NoB w w' := by
 have HC := Lib.hid (crune_ok r w)
 obtain ⟨v, hv⟩ : ∃ v, v = (decide (r < 128) && ([43, 45, 46, 95, 63, 61] : Str).contains r.toUInt8) := ⟨_, rfl⟩
 unfold mayR
 rw [← hv] at HC ⊢
 unfold ob at HC
 clear hv
 have hr : (r < 48 ∨ (48 ≤ r ∧ r ≤ 57) ∨ (58 ≤ r ∧ r < 65) ∨ (65 ≤ r ∧ r ≤ 90) ∨ (91 ≤ r ∧ r < 97) ∨ (97 ≤ r ∧ r ≤ 122) ∨ 122 < r) := by omega
 rcases hr with h | h | h | h | h | h | h
 ·have g0 : ¬ (97 : Int) ≤ r := by omega
  have l0 : (r : Int) ≤ 122 := by omega
  have g1 : ¬ (65 : Int) ≤ r := by omega
  have l1 : (r : Int) ≤ 90 := by omega
  have g2 : ¬ (48 : Int) ≤ r := by omega
  have l2 : (r : Int) ≤ 57 := by omega
  have hm : ((decide (97 ≤ r) && decide (r ≤ 122)) || (decide (65 ≤ r) && decide (r ≤ 90)) || (decide (48 ≤ r) && decide (r ≤ 57))) = false := by
   rw [Bool.eq_false_iff]; simp only [ne_eq, Bool.or_eq_true, Bool.and_eq_true, decide_eq_true_iff]
   omega
  rw [hm]
  clear h hm
  go_enter Tryz.func321, Tryz.ntmps321
  go_wp2_with fail
  refine HC.out.mono ?_
  rintro e w1 ⟨rfl, ho⟩
  have HO := Lib.hid ho
  clear ho
  go_wp2_with fail
  go_ret
  exact ⟨by simp, HO.out⟩
 ·have g0 : ¬ (97 : Int) ≤ r := by omega
  have l0 : (r : Int) ≤ 122 := by omega
  have g1 : ¬ (65 : Int) ≤ r := by omega
  have l1 : (r : Int) ≤ 90 := by omega
  have g2 : (48 : Int) ≤ r := by omega
  have l2 : (r : Int) ≤ 57 := by omega
  have hm : ((decide (97 ≤ r) && decide (r ≤ 122)) || (decide (65 ≤ r) && decide (r ≤ 90)) || (decide (48 ≤ r) && decide (r ≤ 57))) = true := by
   simp only [Bool.or_eq_true, Bool.and_eq_true, decide_eq_true_iff]
   omega
  rw [hm]
  clear h hm
  go_enter Tryz.func321, Tryz.ntmps321
  go_wp2_with fail
  go_ret
  exact ⟨rfl, Only.refl _ _⟩
 ·have g0 : ¬ (97 : Int) ≤ r := by omega
  have l0 : (r : Int) ≤ 122 := by omega
  have g1 : ¬ (65 : Int) ≤ r := by omega
  have l1 : (r : Int) ≤ 90 := by omega
  have g2 : (48 : Int) ≤ r := by omega
  have l2 : ¬ (r : Int) ≤ 57 := by omega
  have hm : ((decide (97 ≤ r) && decide (r ≤ 122)) || (decide (65 ≤ r) && decide (r ≤ 90)) || (decide (48 ≤ r) && decide (r ≤ 57))) = false := by
   rw [Bool.eq_false_iff]; simp only [ne_eq, Bool.or_eq_true, Bool.and_eq_true, decide_eq_true_iff]
   omega
  rw [hm]
  clear h hm
  go_enter Tryz.func321, Tryz.ntmps321
  go_wp2_with fail
  refine HC.out.mono ?_
  rintro e w1 ⟨rfl, ho⟩
  have HO := Lib.hid ho
  clear ho
  go_wp2_with fail
  go_ret
  exact ⟨by simp, HO.out⟩
 ·have g0 : ¬ (97 : Int) ≤ r := by omega
  have l0 : (r : Int) ≤ 122 := by omega
  have g1 : (65 : Int) ≤ r := by omega
  have l1 : (r : Int) ≤ 90 := by omega
  have g2 : (48 : Int) ≤ r := by omega
  have l2 : ¬ (r : Int) ≤ 57 := by omega
  have hm : ((decide (97 ≤ r) && decide (r ≤ 122)) || (decide (65 ≤ r) && decide (r ≤ 90)) || (decide (48 ≤ r) && decide (r ≤ 57))) = true := by
   simp only [Bool.or_eq_true, Bool.and_eq_true, decide_eq_true_iff]
   omega
  rw [hm]
  clear h hm
  go_enter Tryz.func321, Tryz.ntmps321
  go_wp2_with fail
  go_ret
  exact ⟨rfl, Only.refl _ _⟩
 ·have g0 : ¬ (97 : Int) ≤ r := by omega
  have l0 : (r : Int) ≤ 122 := by omega
  have g1 : (65 : Int) ≤ r := by omega
  have l1 : ¬ (r : Int) ≤ 90 := by omega
  have g2 : (48 : Int) ≤ r := by omega
  have l2 : ¬ (r : Int) ≤ 57 := by omega
  have hm : ((decide (97 ≤ r) && decide (r ≤ 122)) || (decide (65 ≤ r) && decide (r ≤ 90)) || (decide (48 ≤ r) && decide (r ≤ 57))) = false := by
   rw [Bool.eq_false_iff]; simp only [ne_eq, Bool.or_eq_true, Bool.and_eq_true, decide_eq_true_iff]
   omega
  rw [hm]
  clear h hm
  go_enter Tryz.func321, Tryz.ntmps321
  go_wp2_with fail
  refine HC.out.mono ?_
  rintro e w1 ⟨rfl, ho⟩
  have HO := Lib.hid ho
  clear ho
  go_wp2_with fail
  go_ret
  exact ⟨by simp, HO.out⟩
 ·have g0 : (97 : Int) ≤ r := by omega
  have l0 : (r : Int) ≤ 122 := by omega
  have g1 : (65 : Int) ≤ r := by omega
  have l1 : ¬ (r : Int) ≤ 90 := by omega
  have g2 : (48 : Int) ≤ r := by omega
  have l2 : ¬ (r : Int) ≤ 57 := by omega
  have hm : ((decide (97 ≤ r) && decide (r ≤ 122)) || (decide (65 ≤ r) && decide (r ≤ 90)) || (decide (48 ≤ r) && decide (r ≤ 57))) = true := by
   simp only [Bool.or_eq_true, Bool.and_eq_true, decide_eq_true_iff]
   omega
  rw [hm]
  clear h hm
  go_enter Tryz.func321, Tryz.ntmps321
  go_wp2_with fail
  go_ret
  exact ⟨rfl, Only.refl _ _⟩
 ·have g0 : (97 : Int) ≤ r := by omega
  have l0 : ¬ (r : Int) ≤ 122 := by omega
  have g1 : (65 : Int) ≤ r := by omega
  have l1 : ¬ (r : Int) ≤ 90 := by omega
  have g2 : (48 : Int) ≤ r := by omega
  have l2 : ¬ (r : Int) ≤ 57 := by omega
  have hm : ((decide (97 ≤ r) && decide (r ≤ 122)) || (decide (65 ≤ r) && decide (r ≤ 90)) || (decide (48 ≤ r) && decide (r ≤ 57))) = false := by
   rw [Bool.eq_false_iff]; simp only [ne_eq, Bool.or_eq_true, Bool.and_eq_true, decide_eq_true_iff]
   omega
  rw [hm]
  clear h hm
  go_enter Tryz.func321, Tryz.ntmps321
  go_wp2_with fail
  refine HC.out.mono ?_
  rintro e w1 ⟨rfl, ho⟩
  have HO := Lib.hid ho
  clear ho
  go_wp2_with fail
  go_ret
  exact ⟨by simp, HO.out⟩
end
end Go.Proofs.YtpjfheadolphgaaGreat
namespace Go.Proofs.YtpjfheadolphgaaGreat
open Go.RowKit Go.Proofs
set_option maxRecDepth 20000
section
variable {w : World} {s : Str}
theorem mayR_low (b : UInt8) (h : b.toNat < 128) : mayR b.toNat = mayB b := by
 unfold mayR mayB
 rw [decide_eq_true h, Bool.true_and, show b.toNat.toUInt8 = b by simp]
theorem mayR_high {r : Nat} (h : 128 ≤ r) : mayR r = false := by
 unfold mayR
 rw [decide_eq_false (by omega : ¬ r < 128), decide_eq_false (by omega : ¬ r ≤ 122), decide_eq_false (by omega : ¬ r ≤ 90), decide_eq_false (by omega : ¬ r ≤ 57)]
 simp
theorem all_take {i : Nat} {b : UInt8} (h : s[i]? = some b) : (s.take (i + 1)).all mayB = ((s.take i).all mayB && mayB b) := by
 rw [List.take_add_one, h]
 simp
theorem all_at {i : Nat} {b : UInt8} (h : s[i]? = some b) (hb : mayB b = false) : s.all mayB = false := by
 rw [Bool.eq_false_iff]
 intro ha
 have := List.all_eq_true.1 ha b (List.mem_of_getElem? h)
 rw [hb] at this; cases this
def BaseOut (s : Str) (w : World) (e : Ending) (w' : World) : Prop := e = .returned (.int .i64 (if baseOk s then 0 else 190)) ∧ Only NoB w w'
theorem baseOut_no {w' : World} (h : baseOk s = false) (ho : Only NoB w w') : BaseOut s w (.returned (.int .i64 190)) w' := ⟨by rw [h]; rfl, ho⟩
set_option maxHeartbeats 4000000 in
theorem base_ok (s : Str) (hl : s.length ≤ 1000000000000000) (w : World) : Calls Tryz.prog 276 #[.string ⟨s.toArray⟩] w (BaseOut s w) := by
 obtain ⟨ls, hls⟩ : ∃ ls, ls = s.length := ⟨_, rfl⟩
 have hls' : s.length = ls := hls.symm
 have HL := Lib.hid hls'
 by_cases h0 : s = []
 ·subst h0
  have HE := Lib.hid fun w' => baseOut_no (s := []) (w := w) (w' := w') rfl
  clear hls hls' HL hl
  go_enter Tryz.func276, Tryz.ntmps276
  go_wp2_with fail
  go_ret
  exact HE.out _ (Only.refl _ _)
 have hne : s.isEmpty = false := by cases s with | nil => exact absurd rfl h0 | cons => rfl
 have hq0 : (s == []) = false := by simpa using h0
 have hpos : 0 < s.length := List.length_pos_iff.2 h0
 by_cases h31 : ls ≤ 31
 case neg =>
  have hb : baseOk s = false := by
   unfold baseOk
   rw [decide_eq_false (by omega : ¬ s.length ≤ 31)]; simp
  have HE := Lib.hid fun w' => baseOut_no (w := w) (w' := w') hb
  have h2 : decide ((ls : Int) > 31) = true := by simp; omega
  have h3 : (ls : Int) > 31 := by omega
  clear hls HL hb h0 hpos h31 hl
  go_enter Tryz.func276, Tryz.ntmps276
  go_wp2_with fail
  go_ret
  exact HE.out _ (Only.refl _ _)
 have h31i : ¬ (ls : Int) > 31 := by omega
 obtain ⟨b0, hb0⟩ : ∃ b0, s[0]? = some b0 := ⟨_, List.getElem?_eq_getElem hpos⟩
 have hx0 := byte_at hb0
 have hhd : s.head? = some b0 := by rw [List.head?_eq_getElem?]; exact hb0
 have hls0 : (0 : Int) < ls := by omega
 by_cases hdot : b0 = 46
 ·have hb : baseOk s = false := by
   unfold baseOk
   rw [hhd, hdot]; simp
  have HE := Lib.hid fun w' => baseOut_no (w := w) (w' := w') hb
  subst hdot
  clear hls HL hb h0 hpos h31 hl hb0 hhd
  go_enter Tryz.func276, Tryz.ntmps276
  go_wp2_with fail
  go_ret
  exact HE.out _ (Only.refl _ _)
 have hbase : baseOk s = s.all mayB := by
  unfold baseOk
  rw [decide_eq_true (by omega : 1 ≤ s.length), decide_eq_true (by omega : s.length ≤ 31), hhd]
  have : (some b0 == some (46 : UInt8)) = false := by simpa using hdot
  rw [this]; simp
 have hdn : ¬ ((b0.toNat : Int) = 46) := fun e => hdot (UInt8.toNat_inj.1 (by show b0.toNat = 46; omega))
 have hdq : ((b0.toNat : Int) == 46) = false := beq_eq_false_iff_ne.2 hdn
 have HBA := Lib.hid hbase
 obtain ⟨R, hR⟩ : ∃ R, R = w.heap.size := ⟨_, rfl⟩
 have hi0 : IterAt (w.iter ⟨s.toArray⟩ 0) R s 0 := by rw [hR]; exact World.iter_heap w ⟨s.toArray⟩ 0
 have ho0 : Only NoB w (w.iter ⟨s.toArray⟩ 0) := (Only.refl NoB w).alloc _
 have HI := Lib.hid hi0
 have HO := Lib.hid ho0
 have HRL : Hid (w.heap.size ≤ R) := Lib.hid (by rw [hR]; exact Nat.le_refl _)
 have HM := Lib.hid nmay_ok
 clear hls hi0 ho0 hdot hhd hbase h0 hpos hb0 hl h31
 go_enter Tryz.func276, Tryz.ntmps276
 go_wp2_with fail
 rw [← hR]
 clear hR
 go_loopw [4] (fun _ wr => ∃ pos : Nat, Hid (IterAt wr R s pos ∧ pos ≤ ls ∧ Only NoB w wr ∧ (s.take pos).all mayB = true)) (fun _ wr => ls - posOf wr R)
 case atStart => exact ⟨0, Lib.hid ⟨HI.out, Nat.zero_le _, HO.out, rfl⟩⟩
 case round =>
  obtain ⟨pos, HJ⟩ := hrel
  have hmr : posOf wr R = pos := posOf_at HJ.out.1
  have HMR := Lib.hid hmr
  clear hmr HI HO
  by_cases hlt : pos < ls
  ·have hlt2 : pos < s.length := by have := HL.out; omega
   obtain ⟨h1, h2, h3, h4⟩ := rune_at hlt2
   obtain ⟨w5, hn5, hi5, ho5⟩ := next_any HJ.out.1 hlt2
   obtain ⟨rn, hrn⟩ : ∃ rn, rn = (Utf8.decode ⟨s.toArray⟩ pos).1 := ⟨_, rfl⟩
   obtain ⟨wd, hwd⟩ : ∃ wd, wd = (Utf8.decode ⟨s.toArray⟩ pos).2 := ⟨_, rfl⟩
   rw [← hwd] at h1 h2 h4 hi5
   rw [← hrn] at h4 hn5
   have ho6 : Only NoB w w5 := HJ.out.2.2.1.trans' ho5 fun k hk hq => by have := HRL.out; omega
   obtain ⟨b, hse⟩ : ∃ b, s[pos]? = some b := ⟨_, List.getElem?_eq_getElem hlt2⟩
   have hbe : s[pos] = b := (List.getElem?_eq_some_iff.1 hse).2
   rw [hbe] at h3 h4
   have HX := HM.out rn w5
   have hval : mayR rn = mayB b ∧ (mayB b = true → wd = 1) := by
    by_cases hb : b.toNat < 128
    ·have h5 := h3 hb
     rw [h5] at hrn hwd
     exact ⟨by rw [hrn]; exact mayR_low b hb, fun _ => hwd⟩
    ·obtain ⟨h5, h6⟩ := h4 (by omega)
     have hn : mayB b = false := by
      rw [Bool.eq_false_iff]; intro h; exact hb (mayB_low h)
     exact ⟨by rw [mayR_high (by omega), hn], fun h => by rw [hn] at h; cases h⟩
   rw [hval.1] at HX
   have hT := all_take hse
   have HW := Lib.hid hval.2
   have HI5 := Lib.hid hi5
   have HO6 := Lib.hid ho6
   have HSE := Lib.hid hse
   cases hmb : mayB b with
   | true =>
    rw [hmb] at HX hT
    have HX := Lib.hid HX
    have HT := Lib.hid hT
    have hw1 : wd = 1 := HW.out hmb
    rw [hw1] at HI5
    clear h1 h2 h3 h4 hi5 ho5 ho6 hse hbe hrn hwd hval hmb hT hw1
    go_wp2_with fail
    refine HX.out.mono ?_
    rintro e w6 ⟨rfl, ho7⟩
    have hi6 : IterAt w6 R s (pos + 1) := (ho7.block R (Array.getElem?_eq_some_iff.1 HI5.out).1 id).trans HI5.out
    have HN : Hid (IterAt w6 R s (pos + 1) ∧ pos + 1 ≤ ls ∧ Only NoB w w6 ∧ (s.take (pos + 1)).all mayB = true) := Lib.hid ⟨hi6, by omega, HO6.out.trans ho7, by rw [HT.out, HJ.out.2.2.2]; rfl⟩
    have hm6 := posOf_at hi6
    have HM6 := Lib.hid hm6
    clear ho7 hi6 hm6
    go_wp2_with fail
    exact ⟨⟨pos + 1, HN⟩, by rw [HM6.out, HMR.out]; omega⟩
   | false =>
    rw [hmb] at HX
    have HX := Lib.hid HX
    have hbad : baseOk s = false := by rw [HBA.out]; exact all_at hse hmb
    have HBAD := Lib.hid hbad
    clear h1 h2 h3 h4 hi5 ho5 ho6 hse hbe hrn hwd hval hmb hT hbad
    go_wp2_with fail
    refine HX.out.mono ?_
    rintro e w6 ⟨rfl, ho7⟩
    have HE := Lib.hid (baseOut_no HBAD.out (HO6.out.trans ho7))
    clear ho7
    go_wp2_with fail
    go_ret
    exact HE.out
  ·obtain rfl : pos = ls := by have := HJ.out.2.1; omega
   have hnx := fun ty => next_end ty HJ.out.1 (by have := HL.out; omega)
   have hno := HJ.out.2.2.2
   rw [← hls', List.take_length] at hno
   have HE : Hid (BaseOut s w (.returned (.int .i64 0)) wr) := Lib.hid ⟨by rw [HBA.out, hno]; rfl, HJ.out.2.2.1⟩
   clear hno
   go_wp2_with fail
   go_ret
   exact HE.out
end
end Go.Proofs.YtpjfheadolphgaaGreat
namespace Go.Proofs.YtpjfheadolphgaaGreat
open Go.RowKit Go.Proofs Go.Shelf
set_option maxRecDepth 20000
attribute [local go_sem] Oper.semAt_some
section
variable {w wr w' : World} {s : Str} {g i : Nat}
def digs : ByteArray := ⟨#[48, 49, 50, 51, 52, 53, 54, 55, 56, 57, 97, 98, 99, 100, 102, 103, 104, 105, 106, 107, 108, 109, 110, 112, 113, 114, 115, 118, 119, 120, 121, 122]⟩
theorem digs_first (c : UInt8) : (digB c = true ∧ ∃ x : Nat, firstIdx digs c = (x : Int) ∧ x < 32) ∨ (digB c = false ∧ firstIdx digs c = -1) := by
 have h1 := firstIdx_nonneg digs c
 have h2 := firstIdx_range digs c
 have e : digs.data.toList = digL := rfl
 have hq : ∀ a : UInt8, (a == c) = (c == a) := fun a => by rw [Bool.eq_iff_iff, beq_iff_eq, beq_iff_eq]; exact eq_comm
 have h3 : digL.any (· == c) = digB c := by
  unfold digB
  rw [List.contains_eq_any_beq]
  congr 1; funext x; exact hq x
 rw [e, h3] at h1
 rcases h2 with h2 | ⟨x, h2, h4⟩
 ·right
  rw [h2] at h1
  exact ⟨by rw [← h1]; rfl, h2⟩
 ·left
  rw [h2] at h1
  exact ⟨by rw [← h1]; simp, x, h2, h4⟩
theorem bsize20 (w : World) : Calls Tryz.prog 322 #[.int .i64 20] w fun e w' => e = .returned (.int .i64 32) ∧ w = w' := by
 go_enter Tryz.func322, Tryz.ntmps322
 go_wp2_with fail
 go_ret
 exact ⟨rfl, rfl⟩
structure DecSt (w : World) (g : Nat) (wr : World) : Prop where
 row : ∃ zs : List Int, zs.length = 20 ∧ Blk wr g 5 (zs.map fun z => Value.int .u8 z).toArray
 on : Only NoB w wr
 low : w.heap.size ≤ g
theorem DecSt.at_ (h : DecSt w g wr) (hi : i < 20) : ∃ z : Int, wr.cell? ⟨g, i, none⟩ = some (.int .u8 z) ∧ (wr.frozen? ⟨g, i, none⟩ = false) := by
 obtain ⟨zs, hl, hb⟩ := h.row
 refine ⟨zs[i], ?_, hb.frozen i⟩
 rw [hb.cell]
 simp [List.getElem?_eq_getElem (show i < zs.length by omega)]
theorem DecSt.set_ (h : DecSt w g wr) (i : Nat) (z : Int) : DecSt w g (wr.setCell ⟨g, i, none⟩ (.int .u8 z)) := by
 obtain ⟨zs, hl, hb⟩ := h.row
 refine ⟨⟨zs.set i z, by simpa using hl, ?_⟩, h.on.setCell (.inr h.low) _, h.low⟩
 have := hb.set_ i (.int .u8 z)
 rw [List.map_set]
 simpa using this
def DecOut (s : Str) (w : World) (e : Ending) (w' : World) : Prop := (∃ v, e = .returned (.tuple #[v, .int .i64 (if s.all digB then 0 else 4)])) ∧ Only NoB w w'
theorem all_drop {k : Nat} (h : s.length = 32) (hk : k < 32) {b : UInt8} (hb : s[31 - k]? = some b) : (s.drop (32 - (k + 1))).all digB = (digB b && (s.drop (32 - k)).all digB) := by
 have e : 32 - (k + 1) = 31 - k := by omega
 rw [e, List.drop_eq_getElem_cons (by omega : 31 - k < s.length)]
 have : s[31 - k]'(by omega) = b := (List.getElem?_eq_some_iff.1 hb).2
 rw [List.all_cons, this]
 congr 3; omega
theorem all_dig_bad {b : UInt8} (hb : s[i]? = some b) (h : digB b = false) : s.all digB = false := by
 rw [Bool.eq_false_iff]
 intro ha
 have := List.all_eq_true.1 ha b (List.mem_of_getElem? hb)
 rw [h] at this; cases this
set_option maxHeartbeats 8000000 in
theorem decode_ok (hs : s.length = 32) (w : World) : Calls Tryz.prog 277 #[.string ⟨s.toArray⟩] w (DecOut s w) := by
 have HS := Lib.hid hs
 have HI := Lib.hid fun (b : UInt8) w => (show Calls Tryz.prog 190 #[.string digs, .int .u8 b.toNat] w fun e w' => e = .returned (.int .i64 (firstIdx digs b)) ∧ w = w' by
  have := ib_ok digs b.toNat w
  rwa [show ((b.toNat : Int)).toNat.toUInt8 = b by simp] at this)
 unfold digs at HI
 have hbs := fun w => bsize20 w
 have HBS := Lib.hid hbs
 clear hbs
 go_enter Tryz.func277, Tryz.ntmps277
 go_wp2_with (at_make; refine wpList_mk (by rfl) _ _ _ (by rfl) (by kernel_rfl) Ty.byte .i64 .i64 20 (by rfl) (by rfl) (by omega) ?_; intro W1 hblk ho1; have HB := Lib.hid hblk; have HO1 := Lib.hid ho1; clear hblk ho1)
 refine (HBS.out _).mono ?_
 rintro e w2 ⟨rfl, rfl⟩
 have hst : DecSt w w.heap.size W1 := by
  refine ⟨⟨List.replicate 20 0, by simp, ?_⟩, HO1.out, Nat.le_refl _⟩
  have := HB.out
  rw [show madeCells (Value.int .u8 0).cells (20 * 1) = ((List.replicate 20 (0 : Int)).map fun z => Value.int .u8 z).toArray from madeCells_one _ 20] at this
  exact this
 have HST := Lib.hid hst
 obtain ⟨R, hR⟩ : ∃ R, R = w.heap.size := ⟨_, rfl⟩
 rw [← hR] at HST
 clear hst HB
 go_wp2_with fail
 rw [← hR]
 clear hR
 go_loopw [22] (fun i wr => ∃ k : Nat, k ≤ 32 ∧ i = .int .i64 k ∧ Hid (DecSt w R wr ∧ (s.drop (32 - k)).all digB = true)) (fun i _ => 32 - (intOf i).toNat)
 case atStart => exact ⟨0, Nat.zero_le _, rfl, Lib.hid ⟨HST.out, by rw [List.drop_of_length_le (by omega)]; rfl⟩⟩
 case round =>
  obtain ⟨k, hk, rfl, HJ⟩ := hrel
  by_cases hlt : k < 32
  ·obtain ⟨b, hb⟩ : ∃ b, s[31 - k]? = some b := ⟨_, List.getElem?_eq_getElem (by omega)⟩
   have hdr := all_drop hs hlt hb
   have HBB := Lib.hid hb
   obtain ⟨j, hj⟩ : ∃ j, j = 31 - k := ⟨_, rfl⟩
   rw [← hj] at hb
   have hx := byte_at hb
   have hj1 : IntKind.i64.wrap (31 - (k : Int)) = (j : Int) := by rw [IntKind.wrap_i64]; omega
   have hj2 : (31 - (k : Int)) = (j : Int) := by omega
   have hj3 : (j : Int) < 32 := by omega
   have hj4 : (0 : Int) ≤ (j : Int) := by omega
   have hj5 : j < 32 := by omega
   have HX := Lib.hid (HI.out b wr)
   rcases digs_first b with ⟨hd, x, hxi, hx32⟩ | ⟨hd, hxi⟩
   ·unfold digs at hxi
    rw [hxi] at HX
    rw [hd, HJ.out.2, Bool.and_true] at hdr
    obtain ⟨a, ha⟩ : ∃ a, a = 5 * k := ⟨_, rfl⟩
    obtain ⟨q, hq⟩ : ∃ q, q = a / 8 := ⟨_, rfl⟩
    obtain ⟨r, hr⟩ : ∃ r, r = a % 8 := ⟨_, rfl⟩
    obtain ⟨z1, c1, f1⟩ := HJ.out.1.at_ (i := q) (by omega)
    have ha1 : IntKind.i64.wrap (5 * (k : Int)) = (a : Int) := by rw [IntKind.wrap_i64]; omega
    have ha2 : (5 * (k : Int)) = (a : Int) := by omega
    have hr8 : (r : Int) < 8 := by omega
    have hr0 : (0 : Int) ≤ (r : Int) := by omega
    have hq0 : (0 : Int) ≤ (q : Int) := by omega
    have hq20 : (q : Int) < 20 := by omega
    have hq20n : q < 20 := by omega
    have d1 : (a : Int).tdiv 8 = (q : Int) := by rw [Int.tdiv_eq_ediv_of_nonneg (by omega)]; omega
    have d2 : (a : Int).tmod 8 = (r : Int) := by rw [Int.tmod_eq_emod_of_nonneg (by omega)]; omega
    have d3 : (a : Int) / 8 = (q : Int) := by omega
    have d4 : (a : Int) % 8 = (r : Int) := by omega
    have dw : IntKind.i64.wrap (q : Int) = (q : Int) := by rw [IntKind.wrap_i64]; omega
    have dw2 : IntKind.i64.wrap (r : Int) = (r : Int) := by rw [IntKind.wrap_i64]; omega
    have dw3 : IntKind.i64.wrap ((q : Int) + 1) = (q : Int) + 1 := by rw [IntKind.wrap_i64]; omega
    have hx0 : ¬ ((x : Int) < 0) := by omega
    have HDR := Lib.hid hdr
    have HQ : Hid (q = (5 * k) / 8 ∧ r = (5 * k) % 8 ∧ x < 32) := Lib.hid ⟨by omega, by omega, hx32⟩
    by_cases h31 : k = 31
    ·subst h31
     have hq19 : q = 19 := by omega
     have hr3 : r = 3 := by omega
     subst hq19
     subst hr3
     have hsh : IntKind.i64.wrap ((x : Int) * 8) = (x : Int) * 8 := by rw [IntKind.wrap_i64]; omega
     have hsh2 : (x : Int) * 8 / 256 = 0 := by omega
     obtain rfl : j = 0 := by omega
     clear hq hr ha hb hdr hd hxi hj HST hj1 hj2 hj3 hj4 hj5
     go_wp2_with fail
     refine HX.out.mono ?_
     rintro e w5 ⟨rfl, rfl⟩
     go_wp2_with fail
     refine ⟨⟨32, by omega, by go_num, Lib.hid ⟨HJ.out.1.set_ _ _, HDR.out⟩⟩, by simp [intOf]⟩
    ·have hq19 : (q : Int) + 1 < 20 := by omega
     have hq19n : q + 1 < 20 := by omega
     obtain ⟨z2, c2, f2⟩ := HJ.out.1.at_ (i := q + 1) hq19n
     have c2' : ∀ v, (wr.setCell ⟨R, q, none⟩ v).cell? ⟨R, q + 1, none⟩ = some (.int .u8 z2) := fun v => by rw [World.cell?_setCell_other _ _ _ _ (by simp)]; exact c2
     have f2' : ∀ v, (wr.setCell ⟨R, q, none⟩ v).frozen? ⟨R, q + 1, none⟩ = false := fun v => by simpa using f2
     clear hq hr ha hb hdr hd hxi hj HST h31
     go_wp2_with fail
     refine HX.out.mono ?_
     rintro e w5 ⟨rfl, rfl⟩
     go_wp2_with fail
     refine ⟨⟨k + 1, by omega, by go_num, Lib.hid ⟨(HJ.out.1.set_ _ _).set_ _ _, HDR.out⟩⟩, by simp [intOf]; omega⟩
   ·unfold digs at hxi
    rw [hxi] at HX
    have HE : Hid (DecOut s w (.returned (.tuple #[.slice none 0 0, .int .i64 4])) wr) := Lib.hid ⟨⟨_, by rw [all_dig_bad hb hd]; rfl⟩, HJ.out.1.on⟩
    clear hb hdr hd hxi hj HST
    go_wp2_with fail
    refine HX.out.mono ?_
    rintro e w5 ⟨rfl, rfl⟩
    go_wp2_with fail
    go_ret2
    exact HE.out
  ·obtain rfl : k = 32 := by omega
   have hall := HJ.out.2
   rw [show 32 - 32 = 0 from rfl, List.drop_zero] at hall
   have HE : Hid (DecOut s w (.returned (.tuple #[.slice (some ⟨R, 0, none⟩) 20 20, .int .i64 0])) wr) := Lib.hid ⟨⟨_, by rw [hall]; rfl⟩, HJ.out.1.on⟩
   clear HST hall
   go_wp2_with fail
   go_ret2
   exact HE.out
end
end Go.Proofs.YtpjfheadolphgaaGreat
namespace Go.Proofs.YtpjfheadolphgaaGreat
open Go.RowKit Go.Proofs Go.Shelf
set_option maxRecDepth 20000
attribute [local go_sem] Oper.semAt_some
section
variable {w w' : World} {s : Str}
theorem stOk_short (h : ¬ 33 < s.length) : stOk s = false := by unfold stOk; rw [decide_eq_false h]; rfl
theorem stOk_dash {b : UInt8} (hb : s[32]? = some b) (h : b ≠ 45) : stOk s = false := by
 unfold stOk
 have : (s.drop 32).head? = some b := by rw [List.head?_drop]; exact hb
 rw [this]
 have h2 : (some b == some (45 : UInt8)) = false := by simpa using h
 rw [h2]; simp
theorem stOk_long {b : UInt8} (h : 33 < s.length) (hb : s[32]? = some b) (h45 : b = 45) : stOk s = (baseOk (s.drop 33) && (s.take 32).all digB) := by
 unfold stOk
 have : (s.drop 32).head? = some b := by rw [List.head?_drop]; exact hb
 rw [this, decide_eq_true h, h45]
 simp
def NPartsOut (s : Str) (w : World) (e : Ending) (w' : World) : Prop := (∃ a b, e = .returned (.tuple #[.string a, .string b, .int .i64 (if stOk s then 0 else 190)])) ∧ Only NoB w w'
theorem nPartsOut_no (h : stOk s = false) (ho : Only NoB w w') : NPartsOut s w (.returned (.tuple #[.string ⟨#[]⟩, .string ⟨#[]⟩, .int .i64 190])) w' := ⟨⟨_, _, by rw [h]; rfl⟩, ho⟩
set_option maxHeartbeats 4000000 in
theorem parts_ok (s : Str) (hl : s.length ≤ 1000000000000000) (w : World) : Calls Tryz.prog 215 #[.string ⟨s.toArray⟩] w (NPartsOut s w) := by
 obtain ⟨ls, hls⟩ : ∃ ls, ls = s.length := ⟨_, rfl⟩
 have hls' : s.length = ls := hls.symm
 by_cases h33 : 33 < ls
 case neg =>
  have HE := Lib.hid fun w' => nPartsOut_no (w := w) (w' := w') (stOk_short (s := s) (by omega))
  have h2 : (ls : Int) ≤ 33 := by omega
  clear hls hl h33
  go_enter Tryz.func215, Tryz.ntmps215
  go_wp2_with fail
  go_ret3
  exact HE.out _ (Only.refl _ _)
 have h33i : ¬ (ls : Int) ≤ 33 := by omega
 obtain ⟨b, hb⟩ : ∃ b, s[32]? = some b := ⟨_, List.getElem?_eq_getElem (by omega)⟩
 have hx := byte_at hb
 have hi32 : (32 : Int) < ls := by omega
 by_cases h45 : b = 45
 case neg =>
  have HE := Lib.hid fun w' => nPartsOut_no (w := w) (w' := w') (stOk_dash hb h45)
  have hn : ¬ ((b.toNat : Int) = 45) := fun e => h45 (UInt8.toNat_inj.1 (by show b.toNat = 45; omega))
  have hnq : ((b.toNat : Int) != 45) = true := bne_iff_ne.2 hn
  clear hls hl h33 hb h45
  go_enter Tryz.func215, Tryz.ntmps215
  go_wp2_with fail
  go_ret3
  exact HE.out _ (Only.refl _ _)
 have hnm := stOk_long (by omega) hb h45
 subst h45
 have e1 : (⟨s.toArray⟩ : ByteArray).extract 33 ls = ⟨(s.drop 33).toArray⟩ := by rw [ext_str, List.take_of_length_le]; rw [List.length_drop]; omega
 have e2 : (⟨s.toArray⟩ : ByteArray).extract 0 32 = ⟨(s.take 32).toArray⟩ := by rw [ext_str]; simp
 have HB0 := base_ok (s.drop 33) (by rw [List.length_drop]; omega) w
 unfold BaseOut at HB0
 have hi33 : (33 : Int) ≤ ls := by omega
 cases hbo : baseOk (s.drop 33) with
 | false =>
  rw [hbo] at HB0 hnm
  have HB := Lib.hid HB0
  have HE := Lib.hid fun w' => nPartsOut_no (w := w) (w' := w') (hnm.trans rfl)
  clear hls hl h33 hb hnm HB0 hbo
  go_enter Tryz.func215, Tryz.ntmps215
  go_wp2_with fail
  refine HB.out.mono ?_
  rintro e w1 ⟨rfl, ho⟩
  have HO := Lib.hid ho
  clear ho
  go_wp2_with fail
  go_ret3
  exact HE.out _ HO.out
 | true =>
  rw [hbo, Bool.true_and] at hnm
  rw [hbo] at HB0
  have HB := Lib.hid HB0
  have HD0 := fun w => decode_ok (s := s.take 32) (by rw [List.length_take]; omega) w
  unfold DecOut at HD0
  have hi32' : (32 : Int) ≤ ls := by omega
  cases hda : (s.take 32).all digB with
  | false =>
   rw [hda] at HD0 hnm
   have HD := Lib.hid HD0
   have HE := Lib.hid fun w' => nPartsOut_no (w := w) (w' := w') hnm
   clear hls hl h33 hb hnm HB0 HD0 hbo hda
   go_enter Tryz.func215, Tryz.ntmps215
   go_wp2_with fail
   refine HB.out.mono ?_
   rintro e w1 ⟨rfl, ho⟩
   have HO := Lib.hid ho
   clear ho
   go_wp2_with fail
   refine (HD.out _).mono ?_
   rintro e w2 ⟨⟨v, rfl⟩, ho⟩
   have HO2 := Lib.hid (HO.out.trans ho)
   clear ho
   go_wp2_with fail
   go_ret3
   exact HE.out _ HO2.out
  | true =>
   rw [hda] at HD0 hnm
   have HD := Lib.hid HD0
   have HE : Hid (∀ a b w', Only NoB w w' → NPartsOut s w (.returned (.tuple #[.string a, .string b, .int .i64 0])) w') := Lib.hid fun a b w' ho => ⟨⟨a, b, by rw [hnm]; rfl⟩, ho⟩
   clear hls hl h33 hb hnm HB0 HD0 hbo hda
   go_enter Tryz.func215, Tryz.ntmps215
   go_wp2_with fail
   refine HB.out.mono ?_
   rintro e w1 ⟨rfl, ho⟩
   have HO := Lib.hid ho
   clear ho
   go_wp2_with fail
   refine (HD.out _).mono ?_
   rintro e w2 ⟨⟨v, rfl⟩, ho⟩
   have HO2 := Lib.hid (HO.out.trans ho)
   clear ho
   go_wp2_with fail
   go_region
   all_goals go_wp2_with fail
   all_goals go_ret3
   all_goals exact HE.out _ _ _ HO2.out.drew
def NmOut (s : Str) (w : World) (e : Ending) (w' : World) : Prop := e = .returned (.int .i64 (if stOk s then 0 else 190)) ∧ Only NoB w w'
theorem ncheck_ok (s : Str) (hl : s.length ≤ 1000000000000000) (w : World) : Calls Tryz.prog 122 #[.string ⟨s.toArray⟩] w (NmOut s w) := by
 have HP0 := parts_ok s hl w
 unfold NPartsOut at HP0
 unfold NmOut
 obtain ⟨v, hv⟩ : ∃ v : Int, v = (if stOk s then 0 else 190) := ⟨_, rfl⟩
 rw [← hv] at HP0 ⊢
 have HP := Lib.hid HP0
 clear hv HP0 hl
 go_enter Tryz.func122, Tryz.ntmps122
 go_wp2_with fail
 refine HP.out.mono ?_
 rintro e w1 ⟨⟨a, b, rfl⟩, ho⟩
 have HO := Lib.hid ho
 clear ho
 go_wp2_with fail
 go_ret
 exact ⟨rfl, HO.out⟩
theorem stOk_name {a : Str} (h : stOk a = true) : nameOk a = true := by
 have hl := stOk_len h
 unfold stOk at h
 simp only [Bool.and_eq_true, decide_eq_true_iff] at h
 obtain ⟨h1, h2, h3, h4⟩ := h
 unfold baseOk at h3
 simp only [Bool.and_eq_true] at h3
 have hz : hasZS a = false := by
  unfold hasZS
  rw [List.any_eq_false]
  intro b hb
  have hb2 : b ∈ a.take 32 ∨ b ∈ a.drop 32 := by rw [← List.mem_append, List.take_append_drop]; exact hb
  have key : b ≠ 0 ∧ b ≠ 47 := by
   rcases hb2 with hb2 | hb2
   ·exact digB_not (List.all_eq_true.1 h4 b hb2)
   ·rw [List.drop_eq_getElem_cons (by omega : 32 < a.length)] at hb2
    rcases List.mem_cons.1 hb2 with hb2 | hb2
    ·rw [List.drop_eq_getElem_cons (by omega : 32 < a.length), List.head?_cons] at h2
     have h2 : a[32] = 45 := by simpa using h2
     rw [hb2, h2]; decide
    ·exact mayB_not (List.all_eq_true.1 h3.2.2 b hb2)
  simp [key.1, key.2]
 unfold nameOk
 rw [hz, decide_eq_true (by omega : 1 ≤ a.length), decide_eq_true hl.2]; rfl
end
end Go.Proofs.YtpjfheadolphgaaGreat
namespace Go.Proofs.YtpjfheadolphgaaGreat
open Go.RowKit Go.Proofs Go.Shelf
set_option maxRecDepth 20000
attribute [local go_sem] Oper.semAt_some
def genL : List Gn → List Value
 | [] => []
 | g :: l => .int .i64 (g.1 : Nat) :: strV g.2 :: genL l
theorem genL_append : ∀ a b : List Gn, genL (a ++ b) = genL a ++ genL b
 | [], _ => rfl
 | p :: ps, b => by simp [genL, genL_append ps b]
theorem genL_take (l : List Gn) {k : Nat} (h : k < l.length) : genL (l.take (k + 1)) = genL (l.take k) ++ [.int .i64 (l[k].1 : Nat), strV l[k].2] := by
 rw [List.take_succ_eq_append_getElem h, genL_append]; rfl
theorem genL_get : ∀ {l : List Gn} {i : Nat} {g : Gn}, l[i]? = some g → (genL l)[i * 2]? = some (.int .i64 (g.1 : Nat)) ∧ (genL l)[i * 2 + 1]? = some (strV g.2)
 | [], i, p, h => by simp at h
 | q :: ps, 0, p, h => by
  obtain rfl : q = p := by simpa using h
  exact ⟨rfl, rfl⟩
 | q :: ps, i + 1, p, h => by
  have := genL_get (l := ps) (i := i) (by simpa using h)
  rw [show (i + 1) * 2 = i * 2 + 1 + 1 by omega]
  simpa [genL] using this
section
variable {w w' : World} {F G : Nat → Prop} {X : XC} {t m np own c : Nat} {M : List KV} {p : Str} {l : List Gn}
theorem Ty.gen : Elt Tryz.prog 105 (.agg #[.int .i64 0, .string ⟨#[]⟩]) 2 24 := ⟨by kernel_rfl, rfl, by omega, by omega⟩
def PlOut (w : World) (F : Nat → Prop) (X : XC) (t m np own : Nat) (M : List KV) (c : Nat) (l : List Gn) (e : Ending) (w' : World) : Prop :=
 ∃ v F', e = .returned (.tuple #[v, .int .i64 0]) ∧ Own w' (fun g => w.heap.size ≤ g ∧ ¬ F' g) 105 2 v l.length (genL l) ∧ KvAt w' F' X t m np own M c ∧ Only F w w' ∧ Grows F F' w
def PlSt (W : World) (l : List Gn) (k : Nat) (out : Value) (wr : World) : Prop :=
 Own wr (From W.heap.size) 105 2 out k (genL (l.take k)) ∧ Only NoB W wr
theorem gensOf_get {k : Nat} (h : k < l.length) : (gensOf p l)[k]? = some (gkey p (l[k].1 : Nat), l[k].2) := by
 unfold gensOf
 rw [List.getElem?_map, List.getElem?_eq_getElem h]; rfl
theorem gpre_len (p : Str) : (gpre p).length = p.length + 2 := by simp [gpre]
set_option maxHeartbeats 4000000 in
theorem plist_ok (h : KvAt w F X t m np own M c) (hp : nameOk p = true) (hM : under (gpre p) M = gensOf p l) (hl : ∀ g ∈ l, stOk g.2 = true ∧ g.1 ≤ 16777215) (hlen : l.length ≤ 1000000) :
  Calls Tryz.prog 58 #[.pointer (some ⟨t, 0, none⟩), .string ⟨p.toArray⟩] w (PlOut w F X t m np own M c l) := by
 have hpl := nameOk_len hp
 have HP := prefix_nm9 p (by omega) w
 unfold NpOut keyV at HP
 rw [hp] at HP
 simp only [if_true] at HP
 have HP := Pk.mk HP
 have hlg : (gensOf p l).length = l.length := by simp [gensOf]
 have HA0 : Pk (∀ w1, Only NoB w w1 → Calls Tryz.prog 95 #[.pointer (some ⟨t, 0, none⟩), .string ⟨(gpre p).toArray⟩, .int .i64 16777216] w1 (fun e w' => ∃ F', AllAns w1.heap.size F' 16777216 (gensOf p l) e w' ∧ KvAt w' F' X t m np own M c ∧ Only F w1 w' ∧ Grows F F' w1)) := Pk.mk fun w1 ho => by
  rw [← hM]
  exact kv_all (h.quit ho) (pre := gpre p) (by rw [gpre_len]; omega) (by rw [hM, hlg]; exact hlen)
 have HPA : Pk (∀ k (hk : k < l.length) wz, Calls Tryz.prog 96 #[.string ⟨(gkey p (l[k].1 : Nat)).toArray⟩] wz (ParGOut p (l[k].1 : Nat) wz)) := Pk.mk fun k hk wz => parse_gen (by
  have := hl l[k] (List.getElem_mem hk)
  unfold genOk numIn
  rw [hp, decide_eq_true (by omega)]; rfl) wz
 have HNC : Pk (∀ k (hk : k < l.length) wz, Calls Tryz.prog 122 #[.string ⟨(l[k].2).toArray⟩] wz fun e w' => e = .returned (.int .i64 0) ∧ Only NoB wz w') := Pk.mk fun k hk wz => by
  have h1 := (hl l[k] (List.getElem_mem hk)).1
  have := ncheck_ok l[k].2 (by have := stOk_len h1; omega) wz
  unfold NmOut at this
  rw [h1] at this
  exact this
 have HGP := Pk.mk fun k (hk : k < l.length) => gensOf_get (p := p) hk
 obtain ⟨L, hL⟩ : ∃ L, L = gensOf p l := ⟨_, rfl⟩
 rw [← hL] at HA0 HGP hlg
 have HLG := Pk.mk hlg
 have S0 := Pk.mk (KvSt.start h)
 have HLE := Pk.mk hlen
 obtain ⟨gp, hgp⟩ : ∃ gp, gp = gpre p := ⟨_, rfl⟩
 rw [show (103 : UInt8) :: (p ++ [0]) = gpre p from rfl, ← hgp] at HP
 rw [← hgp] at HA0
 clear h hL hM hlen hl hp hpl hlg hgp
 go_enter Tryz.func58, Tryz.ntmps58
 go_wp2_with fail
 refine HP.out.mono ?_
 rintro e w1 ⟨rfl, ho⟩
 have HA := Pk.mk (HA0.out w1 ho)
 have S1 := Pk.mk (S0.out.quit ho)
 clear ho
 go_wp2_with fail
 refine HA.out.mono ?_
 rintro e w2 ⟨F2, ha, hk, ho2, hg2⟩
 rcases ha with ⟨-, v, rfl, hov⟩ | ⟨hbad, -⟩
 case inr => exfalso; have := HLE.out; have := HLG.out; omega
 obtain ⟨pA, pc, rfl, _⟩ := hov.shape
 have HR := Pk.mk hov.rd
 have S2 := Pk.mk (S1.out.step hk ho2 hg2)
 have hlg := HLG.out
 rw [hlg] at HR ⊢
 clear hov hk ho2 hg2 hlg
 go_wp2_with fail
 go_loopw [9, 34] (fun out i wr => ∃ k : Nat, k ≤ l.length ∧ i = .int .i64 k ∧ Pk (PlSt w2 l k out wr)) (fun _ i _ => l.length - (intOf i).toNat)
 case atStart => exact ⟨0, Nat.zero_le _, rfl, Pk.mk ⟨Own.nil _ _ _ _, Only.refl _ _⟩⟩
 case round =>
  obtain ⟨k, hk, rfl, hst⟩ := hrel
  obtain ⟨hown, ho1⟩ := hst.out
  obtain ⟨oA, oc, rfl, _⟩ := hown.shape
  have HW := Pk.mk hown
  have HO1 := Pk.mk ho1
  clear hst hown ho1
  by_cases hlt : k < l.length
  ·obtain ⟨g, off, c', hve, _, _, hcell⟩ := HR.out.open_ (by omega)
   injection hve with q1 q2 q3
   subst q1; subst q3
   obtain ⟨p1, p2⟩ := pairL_get (HGP.out k hlt)
   have c1 := HO1.out.cell (hcell _ _ p1) id
   have c2 := HO1.out.cell (hcell _ _ p2) id
   have HNT := genL_take l hlt
   have HPK := HPA.out k hlt
   have HNK := HNC.out k hlt
   obtain ⟨⟨n, a⟩, hab⟩ : ∃ q, q = l[k] := ⟨_, rfl⟩
   rw [← hab] at c1 c2 HNT HPK HNK
   simp only at c1 c2 HNT HPK HNK
   obtain ⟨gk, hgk⟩ : ∃ gk, gk = gkey p (n : Nat) := ⟨_, rfl⟩
   rw [← hgk] at c1 HPK
   unfold ParGOut keyV at HPK
   have HNT := Pk.mk HNT
   have HPK := Pk.mk HPK
   have HNK := Pk.mk HNK
   unfold strV at c1 c2
   rw [← Nat.add_assoc] at c2
   clear hcell p1 p2 q2 hab hgk
   obtain ⟨W1, hW1⟩ : ∃ W1, W1 = wr.alloc (.cells #[.string ⟨gk.toArray⟩, .string ⟨a.toArray⟩] 83) := ⟨_, rfl⟩
   have hb1 : Blk W1 wr.heap.size 83 #[.string ⟨gk.toArray⟩, .string ⟨a.toArray⟩] := by rw [hW1]; exact Blk.new wr _ _
   have ho1 : Only NoB wr W1 := by rw [hW1]; exact (Only.refl NoB wr).alloc _
   have x0 := hb1.cell 0
   have HB1 := Pk.mk hb1
   have HOW1 := Pk.mk ho1
   have HW1 := Pk.mk hW1
   clear hb1 ho1 hW1
   go_wp2_with fail
   rw [← HW1.out]
   refine (HPK.out _).mono ?_
   rintro e zc ⟨rfl, hq⟩
   have hb1 := HB1.out.only hq id
   have ho1 := HOW1.out.trans hq
   obtain ⟨W4, hW4⟩ : ∃ W4, W4 = zc.alloc (.cells #[.int .i64 9, .string ⟨p.toArray⟩, .string ⟨#[]⟩, .int .i64 (n : Nat), .int .i64 0] 144) := ⟨_, rfl⟩
   have hb4 : Blk W4 zc.heap.size 144 #[.int .i64 9, .string ⟨p.toArray⟩, .string ⟨#[]⟩, .int .i64 (n : Nat), .int .i64 0] := by rw [hW4]; exact Blk.new zc _ _
   have ho4 : Only NoB zc W4 := by rw [hW4]; exact (Only.refl NoB zc).alloc _
   have hb14 := hb1.only ho4 id
   have y1 : W4.cell? ⟨wr.heap.size, 1, none⟩ = some (.string ⟨a.toArray⟩) := hb14.cell 1
   have HB14 := Pk.mk hb14
   have HB4 := Pk.mk hb4
   have HO4 := Pk.mk (ho1.trans ho4)
   have HW4 := Pk.mk hW4
   clear hq hb1 ho1 hb4 ho4 hW4 x0 c1 c2 hb14
   go_upto_region 12 with fail
   rw [← HW4.out]
   go_wp2_with fail
   refine (HNK.out _).mono ?_
   rintro e W5 ⟨rfl, ho5⟩
   have hb5 := HB4.out.only ho5 id
   have hb15 := HB14.out.only ho5 id
   have k3 : W5.cell? ⟨zc.heap.size, 3, none⟩ = some (.int .i64 (n : Nat)) := hb5.cell 3
   have k1 : W5.cell? ⟨wr.heap.size, 1, none⟩ = some (.string ⟨a.toArray⟩) := hb15.cell 1
   have HO5 := Pk.mk ((HO1.out.trans HO4.out).trans ho5)
   have HQ5 := Pk.mk (HO4.out.trans ho5)
   have HP1 : Pk (Own (W5.alloc (.cells #[.int .i64 (n : Nat), .string ⟨a.toArray⟩] 105)) (From w2.heap.size) 105 2 (.slice oA k oc) k (genL (l.take k))) := Pk.mk ((HW.out.keep fun i hi => HQ5.out.block i (HW.out.lt hi) id).alloc _)
   have HP2 : Pk (Rd (W5.alloc (.cells #[.int .i64 (n : Nat), .string ⟨a.toArray⟩] 105)) (fun i => i = W5.heap.size) 2 (.slice (some ⟨W5.heap.size, 0, none⟩) 1 1) 1 [.int .i64 (n : Nat), .string ⟨a.toArray⟩]) := Pk.mk (rd_new W5 105 2 1 [.int .i64 (n : Nat), .string ⟨a.toArray⟩] rfl)
   have HSZ := Pk.mk HO5.out.size
   have hlm := HLE.out
   clear ho5 hb5 hb15 y1
   go_wp2_with (at_builtin; refine wpList_app rfl _ _ _ rfl (by kernel_rfl) Ty.gen rfl rfl HP1.out HP2.out (by simp [Value.oneCell']) (by omega) ?_; intro v7 w7 ha7; obtain ⟨A7, c7, rfl, _⟩ := id ha7.shape; have HA7 := Pk.mk ha7; clear ha7)
   refine ⟨⟨k + 1, by omega, by go_num, Pk.mk ⟨?_, ?_⟩⟩, by simp [intOf]; omega⟩
   ·rw [HNT.out]
    exact HA7.out.own.mono fun i hi _ => by rcases hi with hi | hi; (· exact hi); (· have := HSZ.out; unfold From; rw [hi, World.size_alloc]; omega)
   ·exact only_new (HO5.out.alloc _) HA7.out.only fun i hi => HW.out.2 i hi
  ·obtain rfl : k = l.length := by omega
   have hown := HW.out
   rw [List.take_length] at hown
   have HLS : Pk (PlOut w F X t m np own M c l (.returned (.tuple #[.slice oA l.length oc, .int .i64 0])) wr) := Pk.mk ⟨_, F2, rfl, hown.mono fun i hi _ => ⟨Nat.le_trans S2.out.on.size hi, fun hf => Nat.lt_irrefl _ (Nat.lt_of_lt_of_le (S2.out.at_.lt i hf) hi)⟩, (S2.out.quit HO1.out).at_, (S2.out.quit HO1.out).on, S2.out.gr⟩
   clear hown
   go_wp2_with fail
   go_ret2
   exact HLS.out
theorem plist_bad (hp : nameOk p = false) (hl : p.length ≤ 140737488351232) (v : Value) :
  Calls Tryz.prog 58 #[v, .string ⟨p.toArray⟩] w fun e w' => e = .returned (.tuple #[.slice none 0 0, .int .i64 1]) ∧ Only NoB w w' := by
 have HP := prefix_nm9 p hl w
 unfold NpOut keyV at HP
 rw [hp] at HP
 simp only [Bool.false_eq_true, if_false] at HP
 have HP := Pk.mk HP
 clear hp
 go_enter Tryz.func58, Tryz.ntmps58
 go_wp2_with fail
 refine HP.out.mono ?_
 rintro e w1 ⟨rfl, ho⟩
 have HO := Pk.mk ho
 clear ho
 go_wp2_with fail
 go_ret2
 exact ⟨rfl, HO.out⟩
end
end Go.Proofs.YtpjfheadolphgaaGreat
namespace Go.Proofs.YtpjfheadolphgaaGreat
open Go.RowKit Go.Proofs Go.Shelf
set_option maxRecDepth 20000
attribute [local go_sem] Oper.semAt_some
def idxF (f : Gn → Bool) (l : List Gn) : Int := if l.findIdx f < l.length then (l.findIdx f : Nat) else -1
theorem idxF_hit {f : Gn → Bool} {l : List Gn} {k : Nat} (hk : k < l.length) (h1 : ∀ j (hj : j < l.length), j < k → f l[j] = false) (h2 : f l[k] = true) : idxF f l = (k : Int) := by
 have : l.findIdx f = k := by
  rw [List.findIdx_eq hk]
  exact ⟨h2, fun j hj => h1 j (by omega) hj⟩
 unfold idxF
 rw [this, if_pos hk]
theorem idxF_none {f : Gn → Bool} {l : List Gn} (h : ∀ j (hj : j < l.length), f l[j] = false) : idxF f l = -1 := by
 unfold idxF
 rw [if_neg]
 rw [List.findIdx_lt_length]
 rintro ⟨x, hx, hf⟩
 obtain ⟨j, hj, rfl⟩ := List.getElem_of_mem hx
 rw [h j hj] at hf; cases hf
section
variable {w w' : World} {F G : Nat → Prop} {X : XC} {t m np own c : Nat} {M : List KV} {p : Str} {l : List Gn}
def genA (g : Gn) : Value := .agg #[.int .i64 (g.1 : Nat), .string ⟨g.2.toArray⟩]
set_option maxHeartbeats 1000000 in
theorem idxf_ok {v : Value} (f : Gn → Bool) (kf : Nat) (caps : Array Value) (hcf : ∀ (args : Array Value) (w1 : World), (callFunc kf args).run Tryz.prog w1 = .ok (.enter kf args) w1) (hv : Rd w F 2 v l.length (genL l)) (hl : l.length ≤ 1000000)
  (hc : ∀ g w1, Only NoB w w1 → Calls Tryz.prog kf (#[genA g] ++ caps) w1 fun e w' => e = .returned (.bool (f g)) ∧ Only NoB w1 w') :
  Calls Tryz.prog 156 #[v, .func (.func kf) #[] caps] w fun e w' => e = .returned (.int .i64 (idxF f l)) ∧ Only NoB w w' := by
 obtain ⟨A, cp, rfl, _⟩ := id hv
 have HV := Pk.mk hv
 have HC := Pk.mk hc
 have HL := Pk.mk hl
 clear hv hc hl
 go_enter Tryz.func156, Tryz.ntmps156
 go_wp2_with fail
 go_loopw [8] (fun i wr => ∃ k : Nat, k ≤ l.length ∧ i = .int .i64 k ∧ Pk (Only NoB w wr ∧ ∀ j (hj : j < l.length), j < k → f l[j] = false)) (fun i _ => l.length - (intOf i).toNat)
 case atStart => exact ⟨0, Nat.zero_le _, rfl, Pk.mk ⟨Only.refl _ _, fun j hj h => absurd h (Nat.not_lt_zero _)⟩⟩
 case round =>
  obtain ⟨k, hk, rfl, HJ⟩ := hrel
  by_cases hlt : k < l.length
  ·obtain ⟨g, off, c', hve, _, _, hcell⟩ := HV.out.open_ (by omega)
   injection hve with q1 q2 q3
   subst q1; subst q3
   obtain ⟨p1, p2⟩ := genL_get (List.getElem?_eq_getElem hlt)
   have c1 := HJ.out.1.cell (hcell _ _ p1) id
   have c2 := HJ.out.1.cell (hcell _ _ p2) id
   rw [← Nat.add_assoc] at c2
   have HCK := HC.out l[k] wr HJ.out.1
   have hb : ∀ b, f l[k] = b → Pk (f l[k] = b) := fun b h => Pk.mk h
   obtain ⟨⟨n, a⟩, hab⟩ : ∃ q, q = l[k] := ⟨_, rfl⟩
   obtain ⟨b, hbe⟩ : ∃ b, b = f l[k] := ⟨_, rfl⟩
   have HB := hb b hbe.symm
   rw [← hbe] at HCK
   rw [← hab] at c1 c2 HCK
   unfold genA at HCK
   unfold strV at c2
   have HCK := Pk.mk HCK
   have hlm := HL.out
   clear hcell p1 p2 q2 hab hb hbe
   cases b with
   | true =>
    go_wp2_with fail
    refine HCK.out.mono ?_
    rintro e w5 ⟨rfl, ho⟩
    have HE : Pk (idxF f l = (k : Int) ∧ Only NoB w w5) := Pk.mk ⟨idxF_hit hlt HJ.out.2 HB.out, HJ.out.1.trans ho⟩
    clear ho
    go_wp2_with fail
    go_ret
    exact ⟨by rw [HE.out.1]; rfl, HE.out.2⟩
   | false =>
    go_wp2_with fail
    refine HCK.out.mono ?_
    rintro e w5 ⟨rfl, ho⟩
    have HN : Pk (Only NoB w w5 ∧ ∀ j (hj : j < l.length), j < k + 1 → f l[j] = false) := Pk.mk ⟨HJ.out.1.trans ho, fun j hj hjk => by
     by_cases e : j = k
     ·subst e; exact HB.out
     ·exact HJ.out.2 j hj (by omega)⟩
    clear ho
    go_wp2_with fail
    exact ⟨⟨k + 1, by omega, by go_num, HN⟩, by simp [intOf]; omega⟩
  ·obtain rfl : k = l.length := by omega
   have HE : Pk (idxF f l = -1) := Pk.mk (idxF_none fun j hj => HJ.out.2 j hj hj)
   go_wp2_with fail
   go_ret
   exact ⟨by rw [HE.out]; rfl, HJ.out.1⟩
theorem conf_ok {v : Value} (f : Gn → Bool) (kf : Nat) (caps : Array Value) (hcf : ∀ (args : Array Value) (w1 : World), (callFunc kf args).run Tryz.prog w1 = .ok (.enter kf args) w1) (hv : Rd w F 2 v l.length (genL l)) (hl : l.length ≤ 1000000)
  (hc : ∀ g w1, Only NoB w w1 → Calls Tryz.prog kf (#[genA g] ++ caps) w1 fun e w' => e = .returned (.bool (f g)) ∧ Only NoB w1 w') :
  Calls Tryz.prog 153 #[v, .func (.func kf) #[] caps] w fun e w' => e = .returned (.bool (decide (idxF f l ≥ 0))) ∧ Only NoB w w' := by
 have H := Pk.mk (idxf_ok f kf caps hcf hv hl hc)
 obtain ⟨q, hq⟩ : ∃ q, q = idxF f l := ⟨_, rfl⟩
 rw [← hq] at H ⊢
 clear hv hl hc hq
 go_enter Tryz.func153, Tryz.ntmps153
 go_wp2_with fail
 refine H.out.mono ?_
 rintro e w1 ⟨rfl, ho⟩
 have HO := Pk.mk ho
 clear ho
 go_wp2_with fail
 go_ret
 exact ⟨rfl, HO.out⟩
theorem pdel1_ok {b : Nat} {n : Int} (g : Gn) (hb : Blk w b 3 #[.int .i64 n]) : Calls Tryz.prog 157 (#[genA g] ++ #[.pointer (some ⟨b, 0, none⟩)]) w fun e w' => e = .returned (.bool (decide ((g.1 : Int) = n))) ∧ Only NoB w w' := by
 obtain ⟨k, a⟩ := g
 unfold genA
 have y0 := (hb.only ((Only.refl NoB w).alloc (.cells #[.int .i64 (k : Nat), .string ⟨a.toArray⟩] 105)) id).cell 0
 have x0 := (Blk.new w 105 #[.int .i64 (k : Nat), .string ⟨a.toArray⟩]).cell 0
 clear hb
 go_enter Tryz.func157, Tryz.ntmps157
 go_wp2_with fail
 go_ret
 exact ⟨rfl, (Only.refl NoB w).alloc _⟩
theorem pswi1_ok {b : Nat} {n : Int} (g : Gn) (hb : Blk w b 3 #[.int .i64 n]) : Calls Tryz.prog 154 (#[genA g] ++ #[.pointer (some ⟨b, 0, none⟩)]) w fun e w' => e = .returned (.bool (decide ((g.1 : Int) = n))) ∧ Only NoB w w' := by
 obtain ⟨k, a⟩ := g
 unfold genA
 have y0 := (hb.only ((Only.refl NoB w).alloc (.cells #[.int .i64 (k : Nat), .string ⟨a.toArray⟩] 105)) id).cell 0
 have x0 := (Blk.new w 105 #[.int .i64 (k : Nat), .string ⟨a.toArray⟩]).cell 0
 clear hb
 go_enter Tryz.func154, Tryz.ntmps154
 go_wp2_with fail
 go_ret
 exact ⟨rfl, (Only.refl NoB w).alloc _⟩
set_option maxHeartbeats 1000000 in
theorem psta1_ok {b : Nat} {s : Str} (g : Gn) (hb : Blk w b 9 #[.string ⟨s.toArray⟩]) : Calls Tryz.prog 250 (#[genA g] ++ #[.pointer (some ⟨b, 0, none⟩)]) w fun e w' => e = .returned (.bool (be3i (g.1 : Nat) == s)) ∧ Only NoB w w' := by
 obtain ⟨k, a⟩ := g
 unfold genA
 obtain ⟨W1, hW1⟩ : ∃ W1, W1 = w.alloc (.cells #[.int .i64 (k : Nat), .string ⟨a.toArray⟩] 105) := ⟨_, rfl⟩
 have hb1 : Blk W1 w.heap.size 105 #[.int .i64 (k : Nat), .string ⟨a.toArray⟩] := by rw [hW1]; exact Blk.new w _ _
 have ho1 : Only NoB w W1 := by rw [hW1]; exact (Only.refl NoB w).alloc _
 have hbb := hb.only ho1 id
 have x0 := hb1.cell 0
 have y0 := hbb.cell 0
 have HBB := Pk.mk hbb
 have HB1 := Pk.mk hb1
 have HO1 := Pk.mk ho1
 have HW1 := Pk.mk hW1
 clear hb hb1 ho1 hbb hW1
 go_enter Tryz.func250, Tryz.ntmps250
 go_upto_region 1 with fail
 rw [← HW1.out]
 refine hB _ 6 (fun w' => w'.cell? ⟨w.heap.size, 0, none⟩ = some (.int .i64 (k : Nat)) ∧ w'.cell? ⟨b, 0, none⟩ = some (.string ⟨s.toArray⟩)) (⟨HB1.out.drew.cell 0, HBB.out.drew.cell 0⟩) (fun hHeld => ?_)
 obtain ⟨z0, hz0⟩ : ∃ z, z = W1.drew := ⟨_, rfl⟩
 rw [← hz0] at hHeld ⊢
 have ha : Only NoB W1 z0 := by rw [hz0]; exact (Only.refl NoB W1).drew
 clear hz0
 refine hT 0 4 ?_
 refine hT 1 5 ?_
 refine hE2 2 3 (fun o ho K hK => ?_) (fun o ho K hK => ?_)
 ·cases ho
  go_simp
  refine (pnumber_any (k : Nat)).mono ?_
  rintro e zc ⟨rfl, hq⟩
  replace ha := ha.trans hq
  refine hK.out _ _ (⟨(HB1.out.only ha id).cell 0, (HBB.out.only ha id).cell 0⟩) (fun hHeld => ?_)
  clear hK K
  try simp only [Act.put, List.setIfInBounds_toArray, List.set_cons_zero, List.set_cons_succ]
  refine hT 3 7 ?_
  refine hV 4 8 (.bool (be3i (k : Nat) == s)) ?_
  refine hT 5 3 ?_
  refine wpAnyH_done (by kernel_rfl) ?_ _
  refine NoPanic.normal ?_
  go_wp2_with fail
  go_ret
  exact ⟨rfl, HO1.out.trans ha⟩
 ·cases ho
  go_simp
  refine hK.out _ _ (hHeld) (fun hHeld => ?_)
  clear hK K
  try simp only [Act.put, List.setIfInBounds_toArray, List.set_cons_zero, List.set_cons_succ]
  refine hE 2 (fun o ho K hK => ?_)
  cases ho
  go_simp
  refine (pnumber_any (k : Nat)).mono ?_
  rintro e zc ⟨rfl, hq⟩
  replace ha := ha.trans hq
  refine hK.out _ _ (⟨(HB1.out.only ha id).cell 0, (HBB.out.only ha id).cell 0⟩) (fun hHeld => ?_)
  clear hK K
  try simp only [Act.put, List.setIfInBounds_toArray, List.set_cons_zero, List.set_cons_succ]
  refine hV 4 8 (.bool (be3i (k : Nat) == s)) ?_
  refine hT 5 3 ?_
  refine wpAnyH_done (by kernel_rfl) ?_ _
  refine NoPanic.normal ?_
  go_wp2_with fail
  go_ret
  exact ⟨rfl, HO1.out.trans ha⟩
end
end Go.Proofs.YtpjfheadolphgaaGreat
namespace Go.Proofs.YtpjfheadolphgaaGreat
open Go.RowKit Go.Proofs Go.Shelf
set_option maxRecDepth 20000
attribute [local go_sem] Oper.semAt_some
def atOf (s : List Gn × Nat) : Int := idxF (fun g => decide (g.1 = s.2)) s.1
theorem idxF_congr {f g : Gn → Bool} {l : List Gn} (h : ∀ x ∈ l, f x = g x) : idxF f l = idxF g l := by
 have : l.findIdx f = l.findIdx g := by
  induction l with
  | nil => rfl
  | cons x l ih =>
   rw [List.findIdx_cons, List.findIdx_cons, h x List.mem_cons_self, ih fun y hy => h y (List.mem_cons_of_mem _ hy)]
 unfold idxF
 rw [this]
theorem idxF_lt {f : Gn → Bool} {l : List Gn} {x : Gn} (hx : x ∈ l) (h : f x = true) : ∃ (k : Nat) (hk : k < l.length), idxF f l = (k : Int) ∧ f l[k] = true := by
 have hlt : l.findIdx f < l.length := List.findIdx_lt_length.2 ⟨x, hx, h⟩
 exact ⟨l.findIdx f, hlt, by unfold idxF; rw [if_pos hlt], List.findIdx_getElem⟩
theorem be3_inj {a b : Nat} (ha : a ≤ 16777215) (hb : b ≤ 16777215) : be3i (a : Int) = be3i (b : Int) ↔ a = b := by
 constructor
 ·intro h
  have h2 := congrArg foldN h
  have h4 := foldN_be3 (n := (a : Int)) (by omega) (by omega)
  have h5 := foldN_be3 (n := (b : Int)) (by omega) (by omega)
  omega
 ·rintro rfl; rfl
section
variable {w w' : World} {F G : Nat → Prop} {X : XC} {t m np own c : Nat} {M : List KV} {p : Str} {s : List Gn × Nat} {regs : List Str} {H : Pfs}
structure PfL (s : List Gn × Nat) : Prop where
 nm : ∀ g ∈ s.1, stOk g.2 = true ∧ g.1 ≤ 16777215
 len : s.1.length ≤ 1000000
 cur : s.1 ≠ [] → (∃ a, (s.2, a) ∈ s.1) ∧ s.2 ≤ 16777215
theorem atOf_nil (h : s.1 = []) : atOf s = -1 := by unfold atOf; rw [h]; rfl
theorem PfL.at_ (h : PfL s) (hn : s.1 ≠ []) : ∃ (k : Nat) (hk : k < s.1.length), atOf s = (k : Int) ∧ s.1[k].1 = s.2 := by
 obtain ⟨⟨a, ha⟩, _⟩ := h.cur hn
 obtain ⟨k, hk, h1, h2⟩ := idxF_lt (f := fun g => decide (g.1 = s.2)) ha (by simp)
 exact ⟨k, hk, h1, by simpa using h2⟩
def PsOut (w : World) (F : Nat → Prop) (X : XC) (t m np own : Nat) (M : List KV) (c : Nat) (s : List Gn × Nat) (e : Ending) (w' : World) : Prop :=
 ∃ v F', e = .returned (.tuple #[v, .int .i64 (atOf s), .int .i64 0]) ∧ Own w' (fun g => w.heap.size ≤ g ∧ ¬ F' g) 105 2 v s.1.length (genL s.1) ∧ KvAt w' F' X t m np own M c ∧ Only F w w' ∧ Grows F F' w
set_option maxHeartbeats 4000000 in
theorem pstate_ok (h : KvAt w F X t m np own M c) (hp : nameOk p = true) (hM : under (gpre p) M = gensOf p s.1) (hC : get (fkey p) M = if s.1 = [] then none else some (be3i (s.2 : Nat))) (hs : PfL s) :
  Calls Tryz.prog 150 #[.pointer (some ⟨t, 0, none⟩), .string ⟨p.toArray⟩] w (PsOut w F X t m np own M c s) := by
 have hpl := nameOk_len hp
 have HPL := Pk.mk (plist_ok h hp hM hs.nm hs.len)
 have HB0 := fun w => bytes_nm (.inr rfl : (8 : Int) = 5 ∨ (8 : Int) = 8) p (by omega) w
 unfold NkOut keyV at HB0
 rw [hp] at HB0
 simp only [if_true] at HB0
 rw [show (if (8 : Int) = 5 then (112 : UInt8) else 102) :: p = fkey p from rfl] at HB0
 obtain ⟨ek, hek⟩ : ∃ ek, ek = fkey p := ⟨_, rfl⟩
 rw [← hek] at HB0 hC
 have HB := Pk.mk HB0
 have HG0 : ∀ w1 F1, KvAt w1 F1 X t m np own M c → Calls Tryz.prog 54 #[.pointer (some ⟨t, 0, none⟩), .string ⟨ek.toArray⟩] w1 (KvOut w1 F1 X t m np own (.tuple #[.string ⟨((get ek M).getD []).toArray⟩, .bool (get ek M).isSome, .int .i64 0]) M c) := fun w1 F1 h1 => kv_get h1
 have HS := Pk.mk hs
 obtain ⟨l, cu⟩ := s
 simp only at hC HPL ⊢
 by_cases hn : l = []
 ·subst hn
  rw [if_pos rfl] at hC
  simp only [hC, Option.getD_none, Option.isSome_none] at HG0
  have HG := Pk.mk HG0
  have S0 := Pk.mk (KvSt.start h)
  clear h hp hM hC hs hpl hek HB0 HG0
  go_enter Tryz.func150, Tryz.ntmps150
  go_wp2_with fail
  refine HPL.out.mono ?_
  rintro e w1 ⟨v, F1, rfl, hown, hk, ho, hg⟩
  obtain ⟨A, cp, rfl, _⟩ := hown.shape
  have HOW := Pk.mk hown
  have S1 := Pk.mk (S0.out.step hk ho hg)
  clear hown hk ho hg
  go_wp2_with fail
  refine (HB.out _).mono ?_
  rintro e w2 ⟨rfl, ho⟩
  have S2 := Pk.mk (S1.out.quit ho)
  have HOW2 := Pk.mk (own_step HOW.out (ho.mono (G := F1) fun _ _ h => h.elim) (Grows.refl _ _))
  have HGC := Pk.mk (HG.out _ _ S2.out.at_)
  clear ho
  go_wp2_with fail
  refine HGC.out.mono ?_
  rintro e w3 ⟨rfl, F3, hk, ho, hg⟩
  have S3 := Pk.mk ((S2.out.step hk ho hg).quit ((Only.refl NoB w3).alloc (.cells #[.string ⟨#[]⟩] 9)))
  have HOW3 := Pk.mk ((own_step HOW2.out ho hg).alloc (.cells #[.string ⟨#[]⟩] 9))
  clear hk ho hg
  go_wp2_with fail
  go_ret3
  exact ⟨_, F3, rfl, HOW3.out, S3.out.at_, S3.out.on, S3.out.gr⟩
 ·rw [if_neg hn] at hC
  simp only [hC, Option.getD_some, Option.isSome_some] at HG0
  obtain ⟨k, hkl, hat, hke⟩ := hs.at_ hn
  obtain ⟨v3, hv3⟩ : ∃ v3, v3 = be3i (cu : Nat) := ⟨_, rfl⟩
  rw [← hv3] at HG0
  have hl3 : v3.length = 3 := by rw [hv3]; rfl
  have HG := Pk.mk HG0
  have S0 := Pk.mk (KvSt.start h)
  have hcf := enters_of Tryz.func250 (by kernel_rfl) rfl
  have hcu := (hs.cur hn).2
  have hix : idxF (fun g => be3i (g.1 : Nat) == v3) l = (k : Int) := by
   rw [← hat]
   unfold atOf
   refine idxF_congr fun g hg => ?_
   rw [hv3, Bool.eq_iff_iff, beq_iff_eq, decide_eq_true_iff]
   exact be3_inj (hs.nm g hg).2 hcu
  have HIX : Pk (∀ (w1 : World) (v : Value) (F : Nat → Prop) (b : Nat), Rd w1 F 2 v l.length (genL l) → Blk w1 b 9 #[.string ⟨v3.toArray⟩] → Calls Tryz.prog 156 #[v, .func (.func 250) #[] #[.pointer (some ⟨b, 0, none⟩)]] w1 fun e w' => e = .returned (.int .i64 (k : Nat)) ∧ Only NoB w1 w') := Pk.mk fun w1 v F b hr hb => by
   have := idxf_ok (fun g => be3i (g.1 : Nat) == v3) 250 #[.pointer (some ⟨b, 0, none⟩)] hcf hr hs.len fun g w2 ho => psta1_ok g (hb.only ho id)
   rw [hix] at this
   exact this
  have HAT := Pk.mk hat
  have hk0 : ¬ ((k : Int) < 0) := by omega
  clear h hp hM hC hs hpl hek HB0 HG0 hcf hix hat hke hv3 hkl hcu hn
  go_enter Tryz.func150, Tryz.ntmps150
  go_wp2_with fail
  refine HPL.out.mono ?_
  rintro e w1 ⟨v, F1, rfl, hown, hk, ho, hg⟩
  obtain ⟨A, cp, rfl, _⟩ := hown.shape
  have HOW := Pk.mk hown
  have S1 := Pk.mk (S0.out.step hk ho hg)
  clear hown hk ho hg
  go_wp2_with fail
  refine (HB.out _).mono ?_
  rintro e w2 ⟨rfl, ho⟩
  have S2 := Pk.mk (S1.out.quit ho)
  have HOW2 := Pk.mk (own_step HOW.out (ho.mono (G := F1) fun _ _ h => h.elim) (Grows.refl _ _))
  have HGC := Pk.mk (HG.out _ _ S2.out.at_)
  clear ho
  go_wp2_with fail
  refine HGC.out.mono ?_
  rintro e w3 ⟨rfl, F3, hk, ho, hg⟩
  obtain ⟨W4, hW4⟩ : ∃ W4, W4 = w3.alloc (.cells #[.string ⟨v3.toArray⟩] 9) := ⟨_, rfl⟩
  have hb4 : Blk W4 w3.heap.size 9 #[.string ⟨v3.toArray⟩] := by rw [hW4]; exact Blk.new _ _ _
  have S4 := Pk.mk ((S2.out.step hk ho hg).quit ((Only.refl NoB w3).alloc (.cells #[.string ⟨v3.toArray⟩] 9)))
  have HOW4 := Pk.mk ((own_step HOW2.out ho hg).alloc (.cells #[.string ⟨v3.toArray⟩] 9))
  rw [← hW4] at S4 HOW4
  have HI := Pk.mk (HIX.out W4 _ _ _ HOW4.out.rd hb4)
  have HB4 := Pk.mk hb4
  have HW4 := Pk.mk hW4
  clear hk ho hg hb4 hW4
  go_wp2_with fail
  rw [← HW4.out]
  refine HI.out.mono ?_
  rintro e w5 ⟨rfl, ho⟩
  have x0 := (HB4.out.only ho id).cell 0
  have S5 := Pk.mk (S4.out.quit ho)
  have HOW5 := Pk.mk (own_step HOW4.out (ho.mono (G := F3) fun _ _ h => h.elim) (Grows.refl _ _))
  clear ho
  go_wp2_with fail
  go_ret3
  exact ⟨_, F3, by rw [HAT.out]; rfl, HOW5.out, S5.out.at_, S5.out.on, S5.out.gr⟩
theorem pstate_bad (hp : nameOk p = false) (hl : p.length ≤ 140737488351232) (v : Value) :
  Calls Tryz.prog 150 #[v, .string ⟨p.toArray⟩] w fun e w' => e = .returned (.tuple #[.slice none 0 0, .int .i64 0, .int .i64 1]) ∧ Only NoB w w' := by
 have HP := Pk.mk (plist_bad (w := w) hp hl v)
 clear hp hl
 go_enter Tryz.func150, Tryz.ntmps150
 go_wp2_with fail
 refine HP.out.mono ?_
 rintro e w1 ⟨rfl, ho⟩
 have HO := Pk.mk ho
 clear ho
 go_wp2_with fail
 go_ret3
 exact ⟨rfl, HO.out⟩
end
end Go.Proofs.YtpjfheadolphgaaGreat
namespace Go.Proofs.YtpjfheadolphgaaGreat
open Go.RowKit Go.Proofs Go.Shelf
set_option maxRecDepth 20000
attribute [local go_sem] Oper.semAt_some
section
variable {w w' : World} {b : Nat}
theorem values0 (w : World) : Calls Tryz.prog 272 #[.slice none 0 0] w fun e w' => e = .returned (.func (.func 310) #[] #[.pointer (some ⟨w.heap.size, 0, none⟩)]) ∧ w' = w.alloc (.cells #[.slice none 0 0] 43) := by
 go_enter Tryz.func272, Tryz.ntmps272
 go_wp2_with fail
 go_ret
 exact ⟨rfl, rfl⟩
def Vals0 (b : Nat) (W : World) (G : Nat → Prop) : Prop := Blk W b 43 #[.slice none 0 0] ∧ ∀ k, ¬ G k
theorem vals0_abid {B : Nat} : Abid B (Vals0 b) := fun _ _ _ _ h hS ho => ⟨blk_abid h.1 (fun q hq => (hS q hq).2.2) ho, h.2⟩
set_option maxHeartbeats 1000000 in
theorem vals0_iter (n : Nat) : IterT n Tryz.prog 310 #[.pointer (some ⟨b, 0, none⟩)] (fun _ => #[.string ⟨#[]⟩]) (Vals0 b) 0 := by
 intro l J Jx W G hJ hY h0
 refine callsIn_of_wp Tryz.func310 rfl trivial ?_ rfl
 simp only [Tryz.ntmps310, List.size_toArray, List.length_cons, List.length_nil, Nat.reduceAdd, Nat.reduceSub, Array.replicate_succ, Array.replicate_zero, List.push_toArray, List.append_toArray, List.nil_append, List.cons_append]
 have c1 := (hJ 0 W G h0).1.1.cell 0
 have HJ := Lib.hid h0
 clear h0 hJ hY
 gi_wp2_with fail
 gi_loopg [7] 0 (fun g s3 wr => s3 = .int .i64 0 ∧ wr = W)
 case atStart => exact ⟨rfl, rfl⟩
 case round =>
  obtain ⟨rfl, rfl⟩ := hrel
  gi_wp2_with fail
  refine bodyPost_end (results_none rfl _ _ _) rfl ?_
  exact ⟨⟨_, rfl⟩, .inl ⟨_, HJ.out⟩⟩
def Sq (w : World) (_ : Nat) (W : World) (G : Nat → Prop) : Prop := Mine w.heap.size 43 #[.slice none 0 0] W G ∧ Since w NoB W G
theorem sq_abid {B' k : Nat} (hB : w.heap.size ≤ B') : Abid B' (Sq w k) := mine_abid.and (since_abid hB)
theorem sq_stay {T : World → (Nat → Prop) → Prop} {k : Nat} : Stay T (Sq w k) := mine_stay.and since_stay
set_option maxHeartbeats 2000000 in
theorem appendSeq0 (hb : Blk w b 43 #[.slice none 0 0]) : Calls Tryz.prog 273 #[.slice none 0 0, .func (.func 310) #[] #[.pointer (some ⟨b, 0, none⟩)]] w fun e w' => e = .returned (.slice none 0 0) ∧ Only NoB w w' := by
 refine (callsIn_wide (n := 6)).1 ?_
 refine callsIn_of_wp_marks Tryz.func273 rfl trivial ?_ rfl
 refine wpIn_wide.2 ?_
 simp only [Tryz.ntmps273, List.size_toArray, List.length_cons, List.length_nil, Nat.reduceAdd, Nat.reduceSub, Array.replicate_succ, Array.replicate_zero, List.push_toArray, List.append_toArray, List.nil_append, List.cons_append]
 go_wp2_with fail
 obtain ⟨W0, hW0⟩ : ∃ W0, W0 = w.alloc (.cells #[.slice none 0 0] 43) := ⟨_, rfl⟩
 have b0 : Blk W0 w.heap.size 43 #[.slice none 0 0] := by rw [hW0]; exact Blk.new w _ _
 have ho0 : Only NoB w W0 := by rw [hW0]; exact (Only.refl NoB w).alloc _
 have hT0 : Vals0 b W0 NoB := ⟨hb.only ho0 id, fun k h => h⟩
 have hi0 : Sq w 0 W0 NoB := ⟨⟨b0, id⟩, ho0, Grows.refl _ _⟩
 have hsz : W0.heap.size = w.heap.size + 1 := by rw [hW0]; exact World.size_alloc _ _
 rw [← hW0]
 clear hW0 b0
 refine (wpIn_wide (n := 6)).1 ?_
 refine range_tx (n := 6) (gf := 310) (N := 0) (encs := fun _ => #[.string ⟨#[]⟩]) (T := Vals0 b) vals0_abid (fun W G hT k hk => (hT.2 k hk).elim) rfl (enters_of Tryz.func310 (by kernel_rfl) rfl) (vals0_iter 5) (fun _ => rfl)
  (Sq w) (fun k => sq_abid (by omega)) (fun k => sq_stay) (fun _ _ _ _ => False) (fun _ _ _ _ _ _ h _ _ => h) hT0 hi0 (fun _ _ _ => True) (fun _ _ _ _ _ _ _ _ _ => trivial) ?assign ?body ?done ?stop
 case assign => intro l k W G K hk; omega
 case body => intro l k a' W G hk; omega
 case done =>
  rintro d W G hd hnd hT ⟨i0, isn⟩ hK
  have x0 := i0.1.cell 0
  have HO := Lib.hid isn.1
  have HK := Lib.hid hK
  clear hT i0 isn hnd hT0 hi0 ho0 hb hK
  go_wp2_with fail
  refine ⟨by simp, .inl ⟨_, _, rfl, run_takeDeferred HK.out, ?_⟩⟩
  have hp := put_only W d (.deferred none)
  refine ⟨_, results_tmp rfl _ _ _, rfl, ?_⟩
  exact HO.out.trans' hp fun k hk he => by have he : k = d := he; omega
 case stop => intro d c k W G _ _ _ _ h; exact h.elim
theorem collect0 (hb : Blk w b 43 #[.slice none 0 0]) : Calls Tryz.prog 212 #[.func (.func 310) #[] #[.pointer (some ⟨b, 0, none⟩)]] w fun e w' => e = .returned (.slice none 0 0) ∧ Only NoB w w' := by
 have H := Lib.hid (appendSeq0 hb)
 clear hb
 go_enter Tryz.func212, Tryz.ntmps212
 go_wp2_with fail
 refine H.out.mono ?_
 rintro e w1 ⟨rfl, ho⟩
 have HO := Lib.hid ho
 clear ho
 go_wp2_with fail
 go_ret
 exact ⟨rfl, HO.out⟩
def LenO (w : World) (e : Ending) (w' : World) : Prop := ∃ n : Int, e = .returned (.int .i64 n) ∧ w = w'
set_option maxHeartbeats 2000000 in
theorem len64_0 (w : World) : Calls Tryz.prog 320 #[.int .u64 0] w (LenO w) := by
 go_enter Tryz.func320, Tryz.ntmps320
 go_wp2_with fail
 go_ret
 exact ⟨_, rfl, rfl⟩
theorem blen_0 (w : World) : Calls Tryz.prog 275 #[.int .u64 0] w (LenO w) := by
 have H := Lib.hid (len64_0 w)
 go_enter Tryz.func275, Tryz.ntmps275
 go_wp2_with fail
 refine H.out.mono ?_
 rintro e w1 ⟨n, rfl, rfl⟩
 go_wp2_with fail
 go_ret
 exact ⟨_, rfl, rfl⟩
theorem insert0 (w : World) : Calls Tryz.prog 311 #[.slice none 0 0, .int .i64 0, .int .i64 0] w fun e w' => (∃ v, e = .returned v) ∧ w = w' := by
 go_enter Tryz.func311, Tryz.ntmps311
 go_wp2_with fail
 go_loopw [6] (fun i wr => i = .int .i64 1 ∧ wr = w) (fun _ _ => 0)
 case atStart => exact ⟨rfl, rfl⟩
 case round =>
  obtain ⟨rfl, rfl⟩ := hrel
  go_wp2_with fail
  refine bodyPost_end (results_none rfl _ _ _) rfl ?_
  exact ⟨⟨_, rfl⟩, rfl⟩
theorem pdq0 (n : Int) (w : World) : Calls Tryz.prog 274 #[.slice none 0 0, .int .i64 0, .int .i64 0, .int .i64 n] w fun e w' => (∃ v, e = .returned v) ∧ w = w' := by
 have H := Lib.hid (insert0 w)
 go_enter Tryz.func274, Tryz.ntmps274
 go_wp2_with fail
 go_loopw [1, 2, 3, 8, 9] (fun a b l p q wr => a = .int .i64 0 ∧ b = .int .i64 0 ∧ wr = w) (fun _ _ _ _ _ _ => 0)
 case atStart => exact ⟨rfl, rfl, rfl⟩
 case round =>
  obtain ⟨rfl, rfl, rfl⟩ := hrel
  go_wp2_with fail
  refine H.out.mono ?_
  rintro e w1 ⟨⟨v, rfl⟩, rfl⟩
  go_wp2_with fail
  refine bodyPost_ret (results_none rfl _ _ _) rfl ?_
  exact ⟨⟨_, rfl⟩, rfl⟩
theorem sort0 (w : World) : Calls Tryz.prog 213 #[.slice none 0 0] w fun e w' => (∃ v, e = .returned v) ∧ w = w' := by
 have H := Lib.hid (blen_0 w)
 go_enter Tryz.func213, Tryz.ntmps213
 go_wp2_with fail
 refine H.out.mono ?_
 rintro e w1 ⟨n, rfl, rfl⟩
 go_wp2_with fail
 refine (pdq0 n _).mono ?_
 rintro e w2 ⟨⟨v, rfl⟩, rfl⟩
 go_wp2_with fail
 refine bodyPost_end (results_none rfl _ _ _) rfl ?_
 exact ⟨⟨_, rfl⟩, rfl⟩
theorem sorted0 (hb : Blk w b 43 #[.slice none 0 0]) : Calls Tryz.prog 119 #[.func (.func 310) #[] #[.pointer (some ⟨b, 0, none⟩)]] w fun e w' => e = .returned (.slice none 0 0) ∧ Only NoB w w' := by
 have H := Lib.hid (collect0 hb)
 clear hb
 go_enter Tryz.func119, Tryz.ntmps119
 go_wp2_with fail
 refine H.out.mono ?_
 rintro e w1 ⟨rfl, ho⟩
 have HO := Lib.hid ho
 clear ho
 go_wp2_with fail
 refine (sort0 _).mono ?_
 rintro e w2 ⟨⟨v, rfl⟩, rfl⟩
 go_wp2_with fail
 go_ret
 exact ⟨rfl, HO.out⟩
theorem compact0 (w : World) : Calls Tryz.prog 271 #[.slice none 0 0] w fun e w' => e = .returned (.slice none 0 0) ∧ w = w' := by
 go_enter Tryz.func271, Tryz.ntmps271
 go_wp2_with fail
 go_ret
 exact ⟨rfl, rfl⟩
theorem equal0 (w : World) : Calls Tryz.prog 210 #[.slice none 0 0, .slice none 0 0] w fun e w' => e = .returned (.bool true) ∧ w = w' := by
 go_enter Tryz.func210, Tryz.ntmps210
 go_wp2_with fail
 go_loopw [13] (fun i wr => i = .int .i64 0 ∧ wr = w) (fun _ _ => 0)
 case atStart => exact ⟨rfl, rfl⟩
 case round =>
  obtain ⟨rfl, rfl⟩ := hrel
  go_wp2_with fail
  go_ret
  exact ⟨rfl, rfl⟩
theorem refs0 (w : World) : Calls Tryz.prog 208 #[.slice none 0 0] w fun e w' => e = .returned (.tuple #[.slice none 0 0, .int .i64 0]) ∧ Only NoB w w' := by
 go_enter Tryz.func208, Tryz.ntmps208
 go_wp2_with fail
 go_loopw [10] (fun i wr => i = .int .i64 0 ∧ wr = w) (fun _ _ => 0)
 case atStart => exact ⟨rfl, rfl⟩
 case round =>
  obtain ⟨rfl, rfl⟩ := hrel
  go_wp2_with fail
  refine (values0 _).mono ?_
  rintro e w1 ⟨rfl, rfl⟩
  go_wp2_with fail
  refine (sorted0 (Blk.new wr _ _)).mono ?_
  rintro e w2 ⟨rfl, ho⟩
  have HO := Lib.hid (((Only.refl NoB wr).alloc (.cells #[.slice none 0 0] 43)).trans ho)
  clear ho
  go_wp2_with fail
  refine (compact0 _).mono ?_
  rintro e w3 ⟨rfl, rfl⟩
  go_wp2_with fail
  go_ret2
  exact ⟨rfl, HO.out⟩
end
end Go.Proofs.YtpjfheadolphgaaGreat
namespace Go.Proofs.YtpjfheadolphgaaGreat
open Go.RowKit Go.Proofs Go.Shelf
set_option maxRecDepth 20000
attribute [local go_sem] Oper.semAt_some
section
variable {w w' : World} {h q : Str}
def infoC (h : Str) (n : Int) (v : Value) : Array Value := #[.string ⟨h.toArray⟩, .int .i64 n, v]
set_option maxHeartbeats 1000000 in
theorem iplain_ok (hh : h.length = 32) {n : Int} (h0 : 0 ≤ n) (h1 : n ≤ 2147483647) (v : Value) (w : World) : Calls Tryz.prog 209 #[.agg (infoC h n v)] w fun e w' => e = .returned (.bool true) ∧ Only NoB w w' := by
 have hb := Blk.new w 58 (infoC h n v)
 unfold infoC at hb ⊢
 have x0 := hb.cell 0
 have x1 := hb.cell 1
 clear hb
 go_enter Tryz.func209, Tryz.ntmps209
 go_wp2_with fail
 go_ret
 exact ⟨rfl, (Only.refl NoB w).alloc _⟩
set_option maxHeartbeats 2000000 in
theorem icheck0 {a : Str} (ha : stOk a = true) (hh : h.length = 32) (w : World) : Calls Tryz.prog 115 #[.string ⟨a.toArray⟩, .agg (infoC h 0 (.slice none 0 0))] w fun e w' => e = .returned (.int .i64 0) ∧ Only NoB w w' := by
 obtain ⟨W0, hW0⟩ : ∃ W0, W0 = w.alloc (.cells (infoC h 0 (.slice none 0 0)) 58) := ⟨_, rfl⟩
 have hb := Blk.new w 58 (infoC h 0 (.slice none 0 0))
 rw [← hW0] at hb
 have ho0 : Only NoB w W0 := by rw [hW0]; exact (Only.refl NoB w).alloc _
 have hal := stOk_len ha
 have HN0 := fun w => ncheck_ok a (by omega) w
 unfold NmOut at HN0
 rw [ha] at HN0
 have HN := Pk.mk HN0
 have HP := Pk.mk fun w => iplain_ok hh (Int.le_refl 0) (by omega) (.slice none 0 0) w
 unfold infoC at hW0 hb HP ⊢
 have HB := Pk.mk hb
 have HO := Pk.mk ho0
 have HW := Pk.mk hW0
 clear hb ho0 hW0 ha hal HN0 hh
 go_enter Tryz.func115, Tryz.ntmps115
 go_wp2_with fail
 rw [← HW.out]
 refine (HN.out _).mono ?_
 rintro e w1 ⟨rfl, ho⟩
 have hb1 := HB.out.only ho id
 have x2 := hb1.cell 2
 have HB1 := Pk.mk hb1
 have HO1 := Pk.mk (HO.out.trans ho)
 clear ho hb1
 go_wp2_with fail
 refine (refs0 _).mono ?_
 rintro e w2 ⟨rfl, ho⟩
 have hb2 := HB1.out.only ho id
 have x20 := hb2.cell 0
 have x21 := hb2.cell 1
 have x22 := hb2.cell 2
 have HB2 := Pk.mk hb2
 have HO2 := Pk.mk (HO1.out.trans ho)
 clear ho hb2 x2
 go_wp2_with fail
 refine (HP.out _).mono ?_
 rintro e w3 ⟨rfl, ho⟩
 have hb3 := HB2.out.only ho id
 have x32 := hb3.cell 2
 have HO3 := Pk.mk (HO2.out.trans ho)
 clear ho hb3 x20 x21 x22
 go_wp2_with fail
 refine (equal0 _).mono ?_
 rintro e w4 ⟨rfl, rfl⟩
 go_wp2_with fail
 go_ret
 exact ⟨rfl, HO3.out⟩
set_option maxHeartbeats 2000000 in
theorem ivalue0 (hh : h.length = 32) (w : World) : Calls Tryz.prog 116 #[.agg (infoC h 0 (.slice none 0 0))] w fun e w' => e = .returned (.tuple #[.string ⟨(h ++ [0, 0, 0, 0]).toArray⟩, .int .i64 0]) ∧ Only NoB w w' := by
 obtain ⟨W0, hW0⟩ : ∃ W0, W0 = w.alloc (.cells (infoC h 0 (.slice none 0 0)) 58) := ⟨_, rfl⟩
 have hb := Blk.new w 58 (infoC h 0 (.slice none 0 0))
 rw [← hW0] at hb
 have ho0 : Only NoB w W0 := by rw [hW0]; exact (Only.refl NoB w).alloc _
 have HP := Pk.mk fun w => iplain_ok hh (Int.le_refl 0) (by omega) (.slice none 0 0) w
 unfold infoC at hW0 hb HP ⊢
 have x0 := hb.cell 0
 have x1 := hb.cell 1
 have x2 := hb.cell 2
 have HB := Pk.mk hb
 have HO := Pk.mk ho0
 have HW := Pk.mk hW0
 have hb1 := bytes_text h [0, 0, 0, 0]
 clear hb ho0 hW0
 go_enter Tryz.func116, Tryz.ntmps116
 go_wp2_with fail
 rw [← HW.out]
 go_wp2_with fail
 refine (HP.out _).mono ?_
 rintro e w1 ⟨rfl, ho⟩
 have hb1' := HB.out.only ho id
 have y0 := hb1'.cell 0
 have y1 := hb1'.cell 1
 have hcv := conv_new (w := w1) (n := 4) (l := [0, 0, 0, 0]) (cs := [.int .u8 0, .int .u8 0, .int .u8 0, .int .u8 0]) rfl rfl
 have HO1 := Pk.mk (HO.out.trans ho)
 have h40 : ([0, 0, 0, 0] : Str).length = 4 := rfl
 have hg : ¬ 9223372036854775807 < 32 + 4 := by omega
 clear ho hb1' x0 x1 x2
 go_wp2_with fail
 go_ret2
 exact ⟨rfl, HO1.out.alloc _⟩
def IrOut (h q : Str) (w : World) (e : Ending) (w' : World) : Prop := e = .returned (.tuple #[.agg (infoC h (foldN q : Nat) (.slice none 0 0)), .int .i64 0]) ∧ Only NoB w w'
theorem row3_set {o : Nat} {ty : TypeId} {z0 z1 z2 : Value} (hB : Blk w o ty #[z0, z1, z2]) (a b c : Value) :
  Blk (((w.setCell ⟨o, 0, none⟩ a).setCell ⟨o, 1, none⟩ b).setCell ⟨o, 2, none⟩ c) o ty #[a, b, c] ∧ Only (fun k => k = o) w (((w.setCell ⟨o, 0, none⟩ a).setCell ⟨o, 1, none⟩ b).setCell ⟨o, 2, none⟩ c) :=
 ⟨((hB.set_ 0 a).set_ 1 b).set_ 2 c, (((Only.refl (fun k => k = o) w).setCell (p := ⟨o, 0, none⟩) (.inl rfl) a).setCell (p := ⟨o, 1, none⟩) (.inl rfl) b).setCell (p := ⟨o, 2, none⟩) (.inl rfl) c⟩
def IrSt (w : World) (h q : Str) (b2 b4 k : Nat) (wr : World) : Prop :=
 Blk wr b2 58 #[.string ⟨#[]⟩, .int .i64 0, .slice none 0 0] ∧ Blk wr b4 58 #[.string ⟨h.toArray⟩, .int .i64 (foldN (q.take k) : Nat), .slice none 0 0] ∧ Only NoB w wr
set_option maxHeartbeats 4000000 in
theorem iread_ok (hh : h.length = 32) (hq : q.length = 4) (hb : foldN q ≤ 2147483647) (w : World) : Calls Tryz.prog 123 #[.string ⟨(h ++ q).toArray⟩] w (IrOut h q w) := by
 obtain ⟨s, hs⟩ : ∃ s, s = h ++ q := ⟨_, rfl⟩
 rw [← hs]
 have hsl : s.length = 36 := by rw [hs, List.length_append, hh, hq]
 have e1 : (⟨s.toArray⟩ : ByteArray).extract 0 32 = ⟨h.toArray⟩ := by rw [ext_str, hs]; simp [← hh]
 have e2 : (⟨s.toArray⟩ : ByteArray).extract 32 36 = ⟨q.toArray⟩ := by rw [ext_str, hs]; simp [← hh, hq]; rw [List.take_of_length_le (by omega)]
 obtain ⟨W2, hW2⟩ : ∃ W2, W2 = (w.alloc (.cells #[.string ⟨#[]⟩, .int .i64 0, .slice none 0 0] 58)).alloc (.cells #[.string ⟨h.toArray⟩, .int .i64 0, .slice none 0 0] 58) := ⟨_, rfl⟩
 have hWa : W2 = allocs w [(#[.string ⟨#[]⟩, .int .i64 0, .slice none 0 0], 58), (#[.string ⟨h.toArray⟩, .int .i64 0, .slice none 0 0], 58)] := hW2
 have c0 : Blk W2 w.heap.size _ _ := blk_of hWa 0 rfl
 have c1 : Blk W2 (w.heap.size + 1) _ _ := blk_of hWa 1 rfl
 have ho2 : Only NoB w W2 := by rw [hWa]; exact allocs_only _ _
 obtain ⟨cp, W3, hcv, hby, ho3⟩ := str_bytes W2 q
 have hst : IrSt w h q w.heap.size (w.heap.size + 1) 0 W3 := ⟨c0.only ho3 id, c1.only ho3 id, ho2.trans ho3⟩
 have HST := Pk.mk hst
 have HBY := Pk.mk hby
 have HQ := Pk.mk hq
 have HF := Pk.mk hb
 have HP := Pk.mk fun (n : Nat) (hn : (n : Int) ≤ 2147483647) w => iplain_ok hh (Int.natCast_nonneg n) hn (.slice none 0 0) w
 have HB4 : W2.heap.size = w.heap.size + 2 := by rw [hWa, allocs_size]; rfl
 rw [HB4, hq] at hcv HBY
 rw [hW2] at hcv
 clear hs hh hb hst hby c0 c1 ho2 ho3 hW2 hWa HB4 hq
 unfold infoC at HP
 go_enter Tryz.func123, Tryz.ntmps123
 go_wp2_with fail
 go_loopw [18] (fun i wr => ∃ k : Nat, k ≤ 4 ∧ i = .int .i64 k ∧ Pk (IrSt w h q w.heap.size (w.heap.size + 1) k wr ∧ Only (fun k => k = w.heap.size + 1) W3 wr)) (fun i _ => 4 - (intOf i).toNat)
 case atStart => exact ⟨0, Nat.zero_le _, rfl, Pk.mk ⟨HST.out, Only.refl _ _⟩⟩
 case round =>
  obtain ⟨k, hk, rfl, HJ⟩ := hrel
  obtain ⟨⟨j0, j1, j2⟩, j3⟩ := HJ.out
  by_cases hlt : k < 4
  ·have hbr := HBY.out
   unfold Bytes at hbr
   rw [HQ.out] at hbr
   obtain ⟨g, off, c', hve, _, hg, hcell⟩ := Rd.open_ hbr (by omega)
   injection hve with q1 q2 q3
   injection q1 with q1
   injection q1 with q1 q4
   subst q1; subst q4
   obtain ⟨b, hbq⟩ : ∃ b, q[k]? = some b := ⟨_, List.getElem?_eq_getElem (by have := HQ.out; omega)⟩
   have c1 := j3.cell (hcell k (.int .u8 b.toNat) (by rw [List.getElem?_map, hbq]; rfl)) (by show ¬ (w.heap.size + 2 = w.heap.size + 1); omega)
   rw [Nat.zero_add] at c1
   have hft := foldN_take hbq
   have hfl := foldN_lt q k
   have h5 : 256 ^ k ≤ 256 ^ 3 := Nat.pow_le_pow_right (by omega) (by omega)
   have hbl := b.toNat_lt
   have hst := or_step (foldN (q.take k)) b.toNat (by omega) hbl
   have y1 := j1.cell 1
   have f1 := j1.frozen 1
   obtain ⟨n, hn⟩ : ∃ n, n = foldN (q.take k) := ⟨_, rfl⟩
   have HN : Pk (IrSt w h q w.heap.size (w.heap.size + 1) (k + 1) (wr.setCell ⟨w.heap.size + 1, 1, none⟩ (.int .i64 ((n * 256 + b.toNat : Nat) : Int))) ∧ Only (fun k => k = w.heap.size + 1) W3 (wr.setCell ⟨w.heap.size + 1, 1, none⟩ (.int .i64 ((n * 256 + b.toNat : Nat) : Int)))) := Pk.mk ⟨⟨j0.far (p := ⟨w.heap.size + 1, 1, none⟩) (by show w.heap.size ≠ w.heap.size + 1; omega) _, by
    have := j1.set_ 1 (.int .i64 ((n * 256 + b.toNat : Nat) : Int))
    rw [hft, ← hn]
    exact this, j2.setCell (.inr (by show w.heap.size ≤ w.heap.size + 1; omega)) _⟩, j3.setCell (p := ⟨w.heap.size + 1, 1, none⟩) (.inl rfl) _⟩
   rw [← hn] at hst y1
   clear hcell hbq hft hfl h5 hn q2 q3 j0 j1 j2 j3 HJ hg hbr
   simp only [List.getElem?_toArray, List.getElem?_cons_zero, List.getElem?_cons_succ] at y1
   go_wp2_with fail
   exact ⟨⟨k + 1, by omega, by go_num, HN⟩, by simp [intOf]; omega⟩
  ·obtain rfl : k = 4 := by omega
   have htk : q.take 4 = q := List.take_of_length_le (by have := HQ.out; omega)
   rw [htk] at j1
   obtain ⟨n, hn⟩ : ∃ n, n = foldN q := ⟨_, rfl⟩
   have HNN := Pk.mk hn
   rw [← hn] at j1
   have HPN := Pk.mk (HP.out n (by have := HF.out; omega))
   have y0 := j1.cell 0
   have y1 := j1.cell 1
   have y2 := j1.cell 2
   simp only [List.getElem?_toArray, List.getElem?_cons_zero, List.getElem?_cons_succ] at y0 y1 y2
   have J0 := Pk.mk j0
   have J1 := Pk.mk j1
   have J2 := Pk.mk j2
   clear htk hn j0 j1 j2 j3 HJ
   go_wp2_with fail
   refine (HPN.out _).mono ?_
   rintro e w5 ⟨rfl, ho⟩
   have d0 := J0.out.only ho id
   have d1 := J1.out.only ho id
   have z0 := d1.cell 0
   have z1 := d1.cell 1
   have z2 := d1.cell 2
   simp only [List.getElem?_toArray, List.getElem?_cons_zero, List.getElem?_cons_succ] at z0 z1 z2
   have o0 := d0.cell 0
   have o1 := d0.cell 1
   have o2 := d0.cell 2
   have p0 := d0.frozen 0
   have p1 := d0.frozen 1
   have p2 := d0.frozen 2
   simp only [List.getElem?_toArray, List.getElem?_cons_zero, List.getElem?_cons_succ] at o0 o1 o2
   have D0 := Pk.mk d0
   have HO5 := Pk.mk (J2.out.trans ho)
   clear d0 d1 ho y0 y1 y2
   go_wp2_with fail
   (try simp only [Exit.inBlock, Exit.then])
   obtain ⟨hbf, hst⟩ := row3_set D0.out (.string ⟨h.toArray⟩) (.int .i64 (n : Nat)) (.slice none 0 0)
   refine bodyPost_ret (results_row_tmp rfl _ _ w.heap.size 58 _ rfl hbf (by kernel_rfl) (by kernel_rfl)) rfl ?_
   exact ⟨by rw [← HNN.out]; rfl, HO5.out.trans' hst fun k hk (e : k = w.heap.size) => by omega⟩
end
end Go.Proofs.YtpjfheadolphgaaGreat
namespace Go.Proofs.YtpjfheadolphgaaGreat
open Go.RowKit Go.Proofs Go.Shelf
set_option maxRecDepth 20000
attribute [local go_sem] Oper.semAt_some
section
variable {w wr w' : World} {F F1 G : Nat → Prop} {X : XC} {t m np own c : Nat} {M : List KV} {a : Str} {regs : List Str} {H : Pfs}
theorem dkey5 (ha : nameOk a = true) (w : World) : Calls Tryz.prog 117 #[.int .i64 5, .string ⟨a.toArray⟩, .string ⟨#[]⟩] w fun e w' => e = .returned (.string ⟨(pkey a).toArray⟩) ∧ Only NoB w w' := by
 have hl := nameOk_len ha
 have HB := bytes_nm (.inl rfl : (5 : Int) = 5 ∨ (5 : Int) = 8) a (by omega) w
 unfold NkOut keyV at HB
 rw [ha] at HB
 simp only [if_true] at HB
 rw [show (112 : UInt8) :: a = pkey a from rfl] at HB
 have HB := Pk.mk HB
 clear ha hl
 go_enter Tryz.func117, Tryz.ntmps117
 go_wp2_with fail
 refine HB.out.mono ?_
 rintro e w1 ⟨rfl, ho⟩
 have HO := Pk.mk ho
 clear ho
 go_wp2_with fail
 go_ret
 exact ⟨rfl, HO.out⟩
theorem rpre_len (a : Str) : (rpre a).length = a.length + 2 := by simp [rpre]
def B0Out (w : World) (F : Nat → Prop) (X : XC) (t m np own : Nat) (M : List KV) (c : Nat) : Ending → World → Prop := KvOut w F X t m np own (.tuple #[.slice none 0 0, .int .i64 0]) M c
set_option maxHeartbeats 2000000 in
theorem both0 (h : KvAt w F X t m np own M c) (ha : nameOk a = true) (hu : under (rpre a) M = []) :
  Calls Tryz.prog 124 #[.pointer (some ⟨t, 0, none⟩), .int .i64 6, .string ⟨a.toArray⟩] w (B0Out w F X t m np own M c) := by
 have hl := nameOk_len ha
 have HP := prefix_nm6 a (by omega) w
 unfold NpOut keyV at HP
 rw [ha] at HP
 simp only [if_true] at HP
 rw [show (114 : UInt8) :: (a ++ [0]) = rpre a from rfl] at HP
 have HP := Pk.mk HP
 have HA0 : Pk (∀ w1, Only NoB w w1 → Calls Tryz.prog 95 #[.pointer (some ⟨t, 0, none⟩), .string ⟨(rpre a).toArray⟩, .int .i64 16777216] w1 (fun e w' => ∃ F', AllAns w1.heap.size F' 16777216 [] e w' ∧ KvAt w' F' X t m np own M c ∧ Only F w1 w' ∧ Grows F F' w1)) := Pk.mk fun w1 ho => by
  have := kv_all (h.quit ho) (pre := rpre a) (most := 16777216) (by rw [rpre_len]; omega) (by rw [hu]; simp)
  rw [hu] at this
  exact this
 obtain ⟨gp, hgp⟩ : ∃ gp, gp = rpre a := ⟨_, rfl⟩
 rw [← hgp] at HP HA0
 have S0 := Pk.mk (KvSt.start h)
 clear h ha hu hl hgp
 go_enter Tryz.func124, Tryz.ntmps124
 go_wp2_with fail
 refine HP.out.mono ?_
 rintro e w1 ⟨rfl, ho⟩
 have HA := Pk.mk (HA0.out w1 ho)
 have S1 := Pk.mk (S0.out.quit ho)
 clear ho
 go_wp2_with fail
 refine HA.out.mono ?_
 rintro e w2 ⟨F2, ha, hk, ho2, hg2⟩
 rcases ha with ⟨-, v, rfl, hov⟩ | ⟨hbad, -⟩
 case inr => simp at hbad
 obtain ⟨pA, pc, rfl, _⟩ := hov.shape
 have S2 := Pk.mk (S1.out.step hk ho2 hg2)
 clear hov hk ho2 hg2
 go_wp2_with fail
 go_loopw [11, 34] (fun out i wr => out = .slice none 0 0 ∧ i = .int .i64 0 ∧ wr = w2) (fun _ _ _ => 0)
 case atStart => exact ⟨rfl, rfl, rfl⟩
 case round =>
  obtain ⟨rfl, rfl, rfl⟩ := hrel
  go_wp2_with fail
  go_ret2
  exact S2.out.out
def getE (regs : List Str) (a : Str) : Nat := if stOk a then (if a ∈ regs then 0 else 5) else 190
def DgOut (w : World) (F : Nat → Prop) (X : XC) (t m np own : Nat) (M : List KV) (c : Nat) (en : Nat) (e : Ending) (w' : World) : Prop :=
 ∃ (x : Str) (y : Int) (F' : Nat → Prop), e = .returned (.tuple #[.agg #[.string ⟨x.toArray⟩, .int .i64 y, .slice none 0 0], .int .i64 (en : Nat)]) ∧ KvSt w F X t m np own M c w' F'
theorem infoZ : foldN [0, 0, 0, 0] = 0 := rfl
theorem dget_end {ty : TypeId} {w5 : World} {F5 : Nat → Prop} {b : Nat} {z0 z1 z2 : Value} (s5 : KvSt w F X t m np own M c w5 F5) (hb : Bk w w5 F5 b ty #[z0, z1, z2]) (x : Str) (y : Int) (en : Nat) :
  Blk (((w5.setCell ⟨b, 0, none⟩ (.string ⟨x.toArray⟩)).setCell ⟨b, 1, none⟩ (.int .i64 y)).setCell ⟨b, 2, none⟩ (.slice none 0 0)) b ty #[.string ⟨x.toArray⟩, .int .i64 y, .slice none 0 0] ∧ DgOut w F X t m np own M c en (.returned (.tuple #[.agg #[.string ⟨x.toArray⟩, .int .i64 y, .slice none 0 0], .int .i64 (en : Nat)])) (((w5.setCell ⟨b, 0, none⟩ (.string ⟨x.toArray⟩)).setCell ⟨b, 1, none⟩ (.int .i64 y)).setCell ⟨b, 2, none⟩ (.slice none 0 0)) := by
 obtain ⟨h1, h2⟩ := row3_set hb.blk (.string ⟨x.toArray⟩) (.int .i64 y) (.slice none 0 0)
 exact ⟨h1, x, y, F5, rfl, s5.cel hb h2⟩
set_option maxHeartbeats 8000000 in
theorem dget_ok (h : KvAt w F X t m np own M c) (hr : ∀ a, stOk a = true → get (pkey a) M = if a ∈ regs then some val0 else none) (hu : ∀ a, under (rpre a) M = []) (hal : a.length ≤ 1000000000000000) :
  Calls Tryz.prog 37 #[.pointer (some ⟨t, 0, none⟩), .string ⟨a.toArray⟩] w (DgOut w F X t m np own M c (getE regs a)) := by
 obtain ⟨W0, hW0⟩ : ∃ W0, W0 = w.alloc (.cells #[.string ⟨#[]⟩, .int .i64 0, .slice none 0 0] 58) := ⟨_, rfl⟩
 have ho0 : Only NoB w W0 := by rw [hW0]; exact (Only.refl NoB w).alloc _
 have B0 := Pk.mk (Bk.new (KvSt.start h) #[.string ⟨#[]⟩, .int .i64 0, .slice none 0 0] 58)
 rw [← hW0] at B0
 have S0 := Pk.mk ((KvSt.start h).quit ho0)
 have HN0 := ncheck_ok a hal W0
 unfold NmOut at HN0
 have HW0 := Pk.mk hW0
 cases hst : stOk a with
 | false =>
  rw [hst] at HN0
  have HE : getE regs a = 190 := by rw [getE, hst]; rfl
  rw [HE]
  have HN := Pk.mk HN0
  clear h hr hu hal hW0 ho0 HN0 hst HE
  go_enter Tryz.func37, Tryz.ntmps37
  go_wp2_with fail
  rw [← HW0.out]
  refine HN.out.mono ?_
  rintro e w1 ⟨rfl, ho⟩
  have S1 := Pk.mk (S0.out.quit ho)
  have b1 := B0.out.quit ho
  have o0 := b1.blk.cell 0
  have o1 := b1.blk.cell 1
  have o2 := b1.blk.cell 2
  have p0 := b1.blk.frozen 0
  have p1 := b1.blk.frozen 1
  have p2 := b1.blk.frozen 2
  simp only [List.getElem?_toArray, List.getElem?_cons_zero, List.getElem?_cons_succ] at o0 o1 o2
  have B1 := Pk.mk b1
  clear ho b1
  go_wp2_with fail
  (try simp only [Exit.inBlock, Exit.then])
  obtain ⟨hbf, hE⟩ := dget_end S1.out B1.out [] 0 190
  refine bodyPost_ret (results_row_tmp rfl _ _ w.heap.size 58 _ rfl hbf (by kernel_rfl) (by kernel_rfl)) rfl ?_
  exact hE
 | true =>
  rw [hst] at HN0
  have HN := Pk.mk HN0
  have hna := stOk_name hst
  have HK := Pk.mk fun w => dkey5 hna w
  have hg := hr a hst
  obtain ⟨ek, hek⟩ : ∃ ek, ek = pkey a := ⟨_, rfl⟩
  rw [← hek] at HK hg
  have HG0 : ∀ w1 F1, KvAt w1 F1 X t m np own M c → Calls Tryz.prog 54 #[.pointer (some ⟨t, 0, none⟩), .string ⟨ek.toArray⟩] w1 (KvOut w1 F1 X t m np own (.tuple #[.string ⟨((get ek M).getD []).toArray⟩, .bool (get ek M).isSome, .int .i64 0]) M c) := fun w1 F1 h1 => kv_get h1
  have HBT : Pk (∀ w1 F1, KvAt w1 F1 X t m np own M c → Calls Tryz.prog 124 #[.pointer (some ⟨t, 0, none⟩), .int .i64 6, .string ⟨a.toArray⟩] w1 (KvOut w1 F1 X t m np own (.tuple #[.slice none 0 0, .int .i64 0]) M c)) := Pk.mk fun w1 F1 h1 => both0 h1 hna (hu a)
  by_cases hm : a ∈ regs
  case neg =>
   rw [if_neg hm] at hg
   simp only [hg, Option.getD_none, Option.isSome_none] at HG0
   have HG := Pk.mk HG0
   have HE : getE regs a = 5 := by rw [getE, hst, if_neg hm]; rfl
   rw [HE]
   clear h hr hu hal hW0 ho0 HN0 hst HE hg HG0 hm hek hna HBT
   go_enter Tryz.func37, Tryz.ntmps37
   go_wp2_with fail
   rw [← HW0.out]
   refine HN.out.mono ?_
   rintro e w1 ⟨rfl, ho⟩
   have S1 := Pk.mk (S0.out.quit ho)
   have B1 := Pk.mk (B0.out.quit ho)
   clear ho
   go_wp2_with fail
   refine (HK.out _).mono ?_
   rintro e w2 ⟨rfl, ho⟩
   have S2 := Pk.mk (S1.out.quit ho)
   have B2 := Pk.mk (B1.out.quit ho)
   have HGC := Pk.mk (HG.out _ _ S2.out.at_)
   clear ho
   go_wp2_with fail
   refine HGC.out.mono ?_
   rintro e w3 ⟨rfl, F3, hk, ho, hgr⟩
   have S3 := Pk.mk (S2.out.step hk ho hgr)
   have b1 := B2.out.step ho hgr
   have o0 := b1.blk.cell 0
   have o1 := b1.blk.cell 1
   have o2 := b1.blk.cell 2
   have p0 := b1.blk.frozen 0
   have p1 := b1.blk.frozen 1
   have p2 := b1.blk.frozen 2
   simp only [List.getElem?_toArray, List.getElem?_cons_zero, List.getElem?_cons_succ] at o0 o1 o2
   have B3 := Pk.mk b1
   clear ho b1 hk hgr
   go_wp2_with fail
   (try simp only [Exit.inBlock, Exit.then])
   obtain ⟨hbf, hE⟩ := dget_end S3.out B3.out [] 0 5
   refine bodyPost_ret (results_row_tmp rfl _ _ w.heap.size 58 _ rfl hbf (by kernel_rfl) (by kernel_rfl)) rfl ?_
   exact hE
  case pos =>
   rw [if_pos hm] at hg
   simp only [hg, Option.getD_some, Option.isSome_some] at HG0
   have HE : getE regs a = 0 := by rw [getE, hst, if_pos hm]; rfl
   rw [HE]
   obtain ⟨z32, hz⟩ : ∃ z32 : Str, z32 = List.replicate 32 48 := ⟨_, rfl⟩
   have hz32 : z32.length = 32 := by rw [hz]; simp
   have HR0 := fun w => iread_ok (q := [0, 0, 0, 0]) hz32 rfl (by rw [infoZ]; omega) w
   unfold IrOut infoC at HR0
   rw [infoZ] at HR0
   obtain ⟨v0, hv0⟩ : ∃ v0, v0 = val0 := ⟨_, rfl⟩
   rw [show z32 ++ [0, 0, 0, 0] = v0 by rw [hv0, hz]; rfl] at HR0
   rw [← hv0] at HG0
   have HR := Pk.mk HR0
   have HG := Pk.mk HG0
   clear h hr hu hal hW0 ho0 HN0 hst HE hg HG0 hm hek hna hz hz32 HR0 hv0
   go_enter Tryz.func37, Tryz.ntmps37
   go_wp2_with fail
   rw [← HW0.out]
   refine HN.out.mono ?_
   rintro e w1 ⟨rfl, ho⟩
   have S1 := Pk.mk (S0.out.quit ho)
   have B1 := Pk.mk (B0.out.quit ho)
   clear ho
   go_wp2_with fail
   refine (HK.out _).mono ?_
   rintro e w2 ⟨rfl, ho⟩
   have S2 := Pk.mk (S1.out.quit ho)
   have B2 := Pk.mk (B1.out.quit ho)
   have HGC := Pk.mk (HG.out _ _ S2.out.at_)
   clear ho
   go_wp2_with fail
   refine HGC.out.mono ?_
   rintro e w3 ⟨rfl, F3, hk, ho, hgr⟩
   have S3 := Pk.mk (S2.out.step hk ho hgr)
   have B3 := Pk.mk (B2.out.step ho hgr)
   clear ho hk hgr
   go_wp2_with fail
   refine (HR.out _).mono ?_
   rintro e w4 ⟨rfl, ho⟩
   have s4 := S3.out.quit ho
   have HSZ := Pk.mk ho.size
   have S4 := Pk.mk (s4.quit ((Only.refl NoB w4).alloc (.cells #[.string ⟨z32.toArray⟩, .int .i64 (0 : Nat), .slice none 0 0] 58)))
   have B4 := Pk.mk ((B3.out.quit ho).quit ((Only.refl NoB w4).alloc (.cells #[.string ⟨z32.toArray⟩, .int .i64 (0 : Nat), .slice none 0 0] 58)))
   have I4 := Pk.mk (Bk.new s4 #[.string ⟨z32.toArray⟩, .int .i64 (0 : Nat), .slice none 0 0] 58)
   have HBC := Pk.mk (HBT.out _ _ S4.out.at_)
   clear ho s4
   go_wp2_with fail
   refine HBC.out.mono ?_
   rintro e w5 ⟨rfl, F5, hk, ho, hgr⟩
   have S5 := Pk.mk (S4.out.step hk ho hgr)
   have B5 := Pk.mk (B4.out.step ho hgr)
   have i5 := I4.out.step ho hgr
   have q2 := i5.blk.frozen 2
   have r2 := i5.blk.cell 2
   simp only [List.getElem?_toArray, List.getElem?_cons_zero, List.getElem?_cons_succ] at r2
   obtain ⟨W6, hW6⟩ : ∃ W6, W6 = w5.setCell ⟨w4.heap.size, 2, none⟩ (.slice none 0 0) := ⟨_, rfl⟩
   have hst6 : Only (fun k => k = w4.heap.size) w5 W6 := by rw [hW6]; exact (Only.refl (fun k => k = w4.heap.size) w5).setCell (p := ⟨w4.heap.size, 2, none⟩) (.inl rfl) _
   have i6 : Blk W6 w4.heap.size 58 #[.string ⟨z32.toArray⟩, .int .i64 (0 : Nat), .slice none 0 0] := by rw [hW6]; exact i5.blk.set_ 2 _
   have hlt : w.heap.size < w4.heap.size := Nat.lt_of_lt_of_le B3.out.blk.lt HSZ.out
   have b6 := B5.out.far hst6 (by omega)
   have S6 := Pk.mk (S5.out.cel i5 hst6)
   have o0 := b6.blk.cell 0
   have o1 := b6.blk.cell 1
   have o2 := b6.blk.cell 2
   have p0 := b6.blk.frozen 0
   have p1 := b6.blk.frozen 1
   have p2 := b6.blk.frozen 2
   have u0 := i6.cell 0
   have u1 := i6.cell 1
   have u2 := i6.cell 2
   simp only [List.getElem?_toArray, List.getElem?_cons_zero, List.getElem?_cons_succ] at o0 o1 o2 u0 u1 u2
   rw [hW6] at o0 o1 o2 p0 p1 p2 u0 u1 u2
   have B6 := Pk.mk b6
   have HW6 := Pk.mk hW6
   clear ho hk hgr i5 hst6 i6 b6 hlt hW6
   go_wp2_with fail
   (try simp only [Exit.inBlock, Exit.then])
   rw [← HW6.out]
   obtain ⟨hbf, hE⟩ := dget_end S6.out B6.out z32 (0 : Nat) 0
   refine bodyPost_ret (results_row_tmp rfl _ _ w.heap.size 58 _ rfl hbf (by kernel_rfl) (by kernel_rfl)) rfl ?_
   exact hE
end
end Go.Proofs.YtpjfheadolphgaaGreat
namespace Go.Proofs.YtpjfheadolphgaaGreat
open Go.RowKit Go.Proofs Go.Shelf
set_option maxRecDepth 20000
attribute [local go_sem] Oper.semAt_some
section
variable {w wr w' : World} {F F1 G : Nat → Prop} {X : XC} {t m np own c : Nat} {M : List KV} {a : Str} {regs : List Str} {H : Pfs}
theorem pkey_len (a : Str) : (pkey a).length = a.length + 1 := rfl
theorem pair_p (ha : nameOk a = true) (hm : 600 ≤ m) : PairOk m (pkey a, val0) := by
 have h1 := nameOk_len ha
 have hmo : 140 ≤ NodeD.most m := by unfold NodeD.most; omega
 have h2 := pkey_len a
 have h3 : val0.length = 36 := rfl
 exact ⟨by show 1 ≤ (pkey a).length; omega, by show (pkey a).length ≤ 255; omega, by show val0.length ≤ 255; omega, by show (pkey a).length + val0.length ≤ _; omega⟩
set_option maxHeartbeats 8000000 in
theorem dreg_ok (h : KvAt w F X t m np own M c) (hr : ∀ a, stOk a = true → get (pkey a) M = if a ∈ regs then some val0 else none) (hu : ∀ a, under (rpre a) M = []) (ha : stOk a = true) (hn : a ∉ regs) (hm : 600 ≤ m) (hc : c + 1 ≤ np - (own + 1)) :
  Calls Tryz.prog 32 #[.pointer (some ⟨t, 0, none⟩), .string ⟨a.toArray⟩, .agg (infoC (List.replicate 32 48) 0 (.slice none 0 0))] w (KvOut w F X t m np own (.int .i64 0) (ins (pkey a) val0 M) (c + 1)) := by
 obtain ⟨z32, hz⟩ : ∃ z32 : Str, z32 = List.replicate 32 48 := ⟨_, rfl⟩
 rw [← hz]
 have hz32 : z32.length = 32 := by rw [hz]; simp
 obtain ⟨W0, hW0⟩ : ∃ W0, W0 = w.alloc (.cells (infoC z32 0 (.slice none 0 0)) 58) := ⟨_, rfl⟩
 have ho0 : Only NoB w W0 := by rw [hW0]; exact (Only.refl NoB w).alloc _
 have B0 := Pk.mk (Bk.new (KvSt.start h) (infoC z32 0 (.slice none 0 0)) 58)
 rw [← hW0] at B0
 have S0 := Pk.mk ((KvSt.start h).quit ho0)
 have HW0 := Pk.mk hW0
 have hna := stOk_name ha
 have HIC := Pk.mk (icheck0 ha hz32 W0)
 have HG : Pk (∀ w1 F1, KvAt w1 F1 X t m np own M c → Calls Tryz.prog 37 #[.pointer (some ⟨t, 0, none⟩), .string ⟨a.toArray⟩] w1 (DgOut w1 F1 X t m np own M c 5)) := Pk.mk fun w1 F1 h1 => by
  have := dget_ok (regs := regs) (a := a) h1 hr hu (by have := stOk_len ha; omega)
  rwa [show getE regs a = 5 by rw [getE, ha, if_neg hn]; rfl] at this
 have HV0 := fun w => ivalue0 hz32 w
 rw [show z32 ++ [0, 0, 0, 0] = val0 by rw [hz]; rfl] at HV0
 have HK0 := fun w => dkey5 hna w
 have HP0 : ∀ w1 F1, KvAt w1 F1 X t m np own M c → Calls Tryz.prog 53 #[.pointer (some ⟨t, 0, none⟩), .string ⟨(pkey a).toArray⟩, .string ⟨val0.toArray⟩] w1 (KvOut w1 F1 X t m np own (.tuple #[.bool (get (pkey a) M).isSome, .int .i64 0]) (ins (pkey a) val0 M) (c + 1)) := fun w1 F1 h1 => kv_put h1 hc (pair_p hna hm) (by rw [pkey_len]; have := nameOk_len hna; omega)
 obtain ⟨ek, hek⟩ : ∃ ek, ek = pkey a := ⟨_, rfl⟩
 obtain ⟨v0, hv0⟩ : ∃ v0, v0 = val0 := ⟨_, rfl⟩
 rw [← hek] at HK0 HP0 ⊢
 rw [← hv0] at HV0 HP0 ⊢
 have HV := Pk.mk HV0
 have HK := Pk.mk HK0
 have HP := Pk.mk HP0
 unfold infoC at HIC HV HW0 B0 ⊢
 have x0 := B0.out.blk.cell 0
 have x1 := B0.out.blk.cell 1
 have x2 := B0.out.blk.cell 2
 simp only [List.getElem?_toArray, List.getElem?_cons_zero, List.getElem?_cons_succ] at x0 x1 x2
 clear h hr hu ha hn hm hc hz hz32 hW0 ho0 hna HV0 HK0 HP0 hek hv0
 go_enter Tryz.func32, Tryz.ntmps32
 go_wp2_with fail
 rw [← HW0.out]
 go_wp2_with fail
 refine HIC.out.mono ?_
 rintro e w1 ⟨rfl, ho⟩
 have S1 := Pk.mk (S0.out.quit ho)
 have B1 := Pk.mk (B0.out.quit ho)
 have HGC := Pk.mk (HG.out _ _ S1.out.at_)
 clear ho x0 x1 x2
 go_wp2_with fail
 refine HGC.out.mono ?_
 rintro e w2 ⟨x, y, F2, rfl, s2⟩
 have S2 := Pk.mk ((S1.out.step s2.at_ s2.on s2.gr).quit ((Only.refl NoB w2).alloc (.cells #[.string ⟨x.toArray⟩, .int .i64 y, .slice none 0 0] 58)))
 have b2 := (B1.out.step s2.on s2.gr).quit ((Only.refl NoB w2).alloc (.cells #[.string ⟨x.toArray⟩, .int .i64 y, .slice none 0 0] 58))
 obtain ⟨W2, hW2⟩ : ∃ W2, W2 = w2.alloc (.cells #[.string ⟨x.toArray⟩, .int .i64 y, .slice none 0 0] 58) := ⟨_, rfl⟩
 rw [← hW2] at S2 b2
 have B2 := Pk.mk b2
 have x2 := b2.blk.cell 2
 simp only [List.getElem?_toArray, List.getElem?_cons_zero, List.getElem?_cons_succ] at x2
 have HW2 := Pk.mk hW2
 rw [hW2] at x2
 clear s2 b2 hW2
 go_wp2_with fail
 rw [← HW2.out]
 go_loopw [41] (fun i wr => i = .int .i64 0 ∧ wr = W2) (fun _ _ => 0)
 case atStart => exact ⟨rfl, rfl⟩
 case round =>
  obtain ⟨rfl, rfl⟩ := hrel
  have x0 := B2.out.blk.cell 0
  have x1 := B2.out.blk.cell 1
  have x2 := B2.out.blk.cell 2
  simp only [List.getElem?_toArray, List.getElem?_cons_zero, List.getElem?_cons_succ] at x0 x1 x2
  go_wp2_with fail
  refine (HV.out _).mono ?_
  rintro e w3 ⟨rfl, ho⟩
  have S3 := Pk.mk (S2.out.quit ho)
  have B3 := Pk.mk (B2.out.quit ho)
  clear ho x0 x1 x2
  go_wp2_with fail
  refine (HK.out _).mono ?_
  rintro e w4 ⟨rfl, ho⟩
  have S4 := Pk.mk (S3.out.quit ho)
  have B4 := Pk.mk (B3.out.quit ho)
  have HPC := Pk.mk (HP.out _ _ S4.out.at_)
  clear ho
  go_wp2_with fail
  refine HPC.out.mono ?_
  rintro e w5 ⟨rfl, F5, hk, ho, hgr⟩
  have S5 := Pk.mk (S4.out.step hk ho hgr)
  have b5 := B4.out.step ho hgr
  have x2 := b5.blk.cell 2
  simp only [List.getElem?_toArray, List.getElem?_cons_zero, List.getElem?_cons_succ] at x2
  clear hk ho hgr b5
  go_wp2_with fail
  go_loopw [87] (fun i wr => i = .int .i64 0 ∧ wr = w5) (fun _ _ => 0)
  case atStart => exact ⟨rfl, rfl⟩
  case round =>
   obtain ⟨rfl, rfl⟩ := hrel
   go_wp2_with fail
   go_ret
   exact S5.out.out
end
end Go.Proofs.YtpjfheadolphgaaGreat
namespace Go.Proofs.YtpjfheadolphgaaGreat
open Go.RowKit Go.Proofs Go.Shelf
set_option maxRecDepth 20000
attribute [local go_sem] Oper.semAt_some
structure PfAt (w : World) (F : Nat → Prop) (X : XC) (t : Nat) (regs : List Str) (G : Pfs) (c : Nat) : Prop where
 ex : ∃ M, KvAt w F X t 640 400 (ownOf 400 640) M c ∧ PfM regs M G c
 few : c ≤ 390
def PfOut (w : World) (F : Nat → Prop) (X : XC) (t : Nat) (regs : List Str) (v : Value) (G : Pfs) (c : Nat) (e : Ending) (w' : World) : Prop :=
 e = .returned v ∧ ∃ F', PfAt w' F' X t regs G c ∧ Only F w w' ∧ Grows F F' w
section
variable {w wr w' : World} {F F1 : Nat → Prop} {X : XC} {t c c' : Nat} {M M' : List KV} {p a : Str} {s : List Gn × Nat} {regs : List Str} {G G' : Pfs} {v : Value}
theorem own400_640 : ownOf 400 640 + 1 ≤ 5 := by decide
theorem PfAt.mono (h : PfAt w F X t regs G c) (hc : c ≤ c') (h3 : c' ≤ 390) : PfAt w F X t regs G c' := by
 obtain ⟨M, hk, hp⟩ := h.ex
 exact ⟨⟨M, hk.mono hc, hp.mono hc⟩, h3⟩
theorem PfAt.quit (h : PfAt w F X t regs G c) (ho : Only NoB w w') : PfAt w' F X t regs G c := by
 obtain ⟨M, hk, hp⟩ := h.ex
 exact ⟨⟨M, hk.quit ho, hp⟩, h.few⟩
theorem PfOut.of (h : KvSt w F X t 640 400 (ownOf 400 640) M c wr F1) (hp : PfM regs M G c) (hc : c ≤ 390) : PfOut w F X t regs v G c (.returned v) wr := ⟨rfl, F1, ⟨⟨M, h.at_, hp⟩, hc⟩, h.on, h.gr⟩
theorem updP_id (G : Pfs) (p : Str) : updP G p (G p) = G := by
 funext q
 by_cases e : q = p
 ·subst e; rw [updP_same]
 ·rw [updP_other e]
theorem PfM.state (h : PfM regs M G c) (hc : c ≤ 390) (p : Str) (hp : nameOk p = true) : PfL (G p) := by
 have hl : (G p).1.length ≤ c := by
  have h1 := congrArg List.length (h.gens p hp)
  have h2 : (under (gpre p) M).length ≤ M.length := List.length_filter_le _ _
  have h3 : (gensOf p (G p).1).length = (G p).1.length := by simp [gensOf]
  have := h.len
  omega
 refine ⟨fun g hg => ⟨(h.nms p g hg).1, by have := (h.nms p g hg).2.2; omega⟩, by omega, fun hn => ?_⟩
 obtain ⟨a, ha⟩ := h.has p hn
 exact ⟨⟨a, ha⟩, by have := (h.nms p _ ha).2.2; have : (G p).2 ≤ c := this; omega⟩
def nextN (l : List Gn) : Nat := match l.getLast? with | none => 1 | some g => g.1 + 1
theorem nextN_nil : nextN [] = 1 := rfl
theorem nextN_at {l : List Gn} (h : l ≠ []) : nextN l = (l[l.length - 1]'(by have := List.length_pos_iff.2 h; omega)).1 + 1 := by
 unfold nextN
 rw [List.getLast?_eq_getElem?, List.getElem?_eq_getElem (by have := List.length_pos_iff.2 h; omega)]
theorem nextN_gt {l : List Gn} (h : l.Pairwise fun a b => a.1 < b.1) : ∀ g ∈ l, g.1 < nextN l := by
 intro g hg
 obtain ⟨j, hj, rfl⟩ := List.getElem_of_mem hg
 have hn : l ≠ [] := fun e => by subst e; cases hg
 rw [nextN_at hn]
 by_cases e : j = l.length - 1
 ·subst e; omega
 ·have := List.pairwise_iff_getElem.1 h j (l.length - 1) hj (by omega) (by omega)
  omega
def isCur (s : List Gn × Nat) (a : Str) : Bool := decide ((s.2, a) ∈ s.1)
theorem isCur_at (hr : s.1.Pairwise fun a b => a.1 < b.1) {k : Nat} (hk : k < s.1.length) (h : s.1[k].1 = s.2) : isCur s a = decide (s.1[k].2 = a) := by
 unfold isCur
 refine decide_eq_decide.2 ⟨fun hm => ?_, fun hm => ?_⟩
 ·obtain ⟨j, hj, hje⟩ := List.getElem_of_mem hm
  have hjk : j = k := by
   rcases Nat.lt_trichotomy j k with h1 | h1 | h1
   ·have := List.pairwise_iff_getElem.1 hr j k hj hk h1
    rw [hje, h] at this; exact absurd this (Nat.lt_irrefl _)
   ·exact h1
   ·have := List.pairwise_iff_getElem.1 hr k j hk hj h1
    rw [hje, h] at this; exact absurd this (Nat.lt_irrefl _)
  subst hjk
  rw [hje]
 ·have : s.1[k] = (s.2, a) := by rw [← h, ← hm]
  rw [← this]; exact List.getElem_mem hk
def addA (regs : List Str) (s : List Gn × Nat) (p a : Str) : Nat × Nat :=
 if nameOk p then (if getE regs a = 0 then (if isCur s a then (s.2, 0) else (nextN s.1, 0)) else (0, getE regs a)) else (0, 1)
def addS (regs : List Str) (s : List Gn × Nat) (p a : Str) : List Gn × Nat :=
 if nameOk p then (if getE regs a = 0 then (if isCur s a then s else (s.1 ++ [(nextN s.1, a)], nextN s.1)) else s) else s
def ansV (r : Nat × Nat) : Value := .tuple #[.int .i64 (r.1 : Nat), .int .i64 (r.2 : Nat)]
theorem pair_g {n : Nat} {m : Nat} (hp : nameOk p = true) (ha : stOk a = true) (hm : 600 ≤ m) : PairOk m (gkey p n, a) := by
 have h1 := nameOk_len hp
 have h4 := stOk_len ha
 have hmo : 140 ≤ NodeD.most m := by unfold NodeD.most; omega
 have h2 := gkey_len p n
 exact ⟨by show 1 ≤ (gkey p n).length; omega, by show (gkey p n).length ≤ 255; omega, by show a.length ≤ 255; omega, by show (gkey p n).length + a.length ≤ _; omega⟩
theorem getE_st (h : getE regs a = 0) : stOk a = true ∧ a ∈ regs := by
 unfold getE at h
 split at h
 ·rename_i h1
  split at h
  ·rename_i h2; exact ⟨h1, h2⟩
  ·cases h
 ·cases h
set_option maxHeartbeats 8000000 in
theorem padd_ok (h : PfAt w F X t regs G c) (hc : c + 2 ≤ 390) (p a : Str) (hpl : p.length ≤ 140737488351232) (hal : a.length ≤ 140737488351232) :
  Calls Tryz.prog 59 #[.pointer (some ⟨t, 0, none⟩), .string ⟨p.toArray⟩, .string ⟨a.toArray⟩] w (PfOut w F X t regs (ansV (addA regs (G p) p a)) (updP G p (addS regs (G p) p a)) (c + 2)) := by
 have h3 := own400_640
 obtain ⟨M, hk, hP⟩ := h.ex
 have S0 := Pk.mk (KvSt.start hk)
 have HC0 := check_nm (.inr rfl : (8 : Int) = 5 ∨ (8 : Int) = 8) p w
 unfold NmAns keyV at HC0
 cases hp : nameOk p with
 | false =>
  rw [hp] at HC0
  have HC := Pk.mk HC0
  have hA : addA regs (G p) p a = (0, 1) := by rw [addA, hp]; rfl
  have hS : addS regs (G p) p a = G p := by rw [addS, hp]; rfl
  rw [hA, hS, updP_id]
  have HH := Pk.mk (h.mono (by omega) hc)
  unfold ansV
  clear h hk hP HC0 hp hA hS hpl hal hc h3 S0
  go_enter Tryz.func59, Tryz.ntmps59
  go_wp2_with fail
  refine HC.out.mono ?_
  rintro e w1 ⟨rfl, ho⟩
  have HE : Pk (PfOut w F X t regs (.tuple #[.int .i64 (0 : Nat), .int .i64 (1 : Nat)]) G (c + 2) (.returned (.tuple #[.int .i64 (0 : Nat), .int .i64 (1 : Nat)])) w1) := Pk.mk ⟨rfl, F, HH.out.quit ho, ho.mono fun _ _ h => h.elim, Grows.refl _ _⟩
  clear ho
  go_wp2_with fail
  go_ret2
  exact HE.out
 | true =>
  rw [hp] at HC0
  have HC := Pk.mk HC0
  have HG : Pk (∀ w1 F1, KvAt w1 F1 X t 640 400 (ownOf 400 640) M c → Calls Tryz.prog 37 #[.pointer (some ⟨t, 0, none⟩), .string ⟨a.toArray⟩] w1 (DgOut w1 F1 X t 640 400 (ownOf 400 640) M c (getE regs a))) := Pk.mk fun w1 F1 h1 => dget_ok h1 hP.reg hP.refs (by omega)
  by_cases hg : getE regs a = 0
  case neg =>
   have hA : addA regs (G p) p a = (0, getE regs a) := by rw [addA, hp, if_neg hg]; rfl
   have hS : addS regs (G p) p a = G p := by rw [addS, hp, if_neg hg]; rfl
   rw [hA, hS, updP_id]
   obtain ⟨en, hen⟩ : ∃ en, en = getE regs a := ⟨_, rfl⟩
   rw [← hen] at HG hg ⊢
   have hen0 : ¬ ((en : Nat) : Int) = 0 := by omega
   have HP := Pk.mk (hP.mono (c' := c + 2) (by omega))
   have HC2 := Pk.mk hc
   unfold ansV
   clear h hk hP HC0 hp hA hS hpl hal hc h3 hg hen
   go_enter Tryz.func59, Tryz.ntmps59
   go_wp2_with fail
   refine HC.out.mono ?_
   rintro e w1 ⟨rfl, ho⟩
   have S1 := Pk.mk (S0.out.quit ho)
   have HGC := Pk.mk (HG.out _ _ S1.out.at_)
   clear ho
   go_wp2_with fail
   refine HGC.out.mono ?_
   rintro e w2 ⟨x, y, F2, rfl, s2⟩
   have S2 := Pk.mk ((S1.out.step s2.at_ s2.on s2.gr).quit ((Only.refl NoB w2).alloc (.cells #[.string ⟨x.toArray⟩, .int .i64 y, .slice none 0 0] 58)))
   clear s2
   go_wp2_with fail
   go_ret2
   exact PfOut.of ⟨S2.out.at_.mono (by omega), S2.out.on, S2.out.gr⟩ HP.out HC2.out
  case pos =>
   obtain ⟨hast, _⟩ := getE_st hg
   rw [hg] at HG
   have hsl := hP.state (by omega) p hp
   have HST : Pk (∀ w1 F1, KvAt w1 F1 X t 640 400 (ownOf 400 640) M c → Calls Tryz.prog 150 #[.pointer (some ⟨t, 0, none⟩), .string ⟨p.toArray⟩] w1 (PsOut w1 F1 X t 640 400 (ownOf 400 640) M c (G p))) := Pk.mk fun w1 F1 h1 => pstate_ok h1 hp (hP.gens p hp) (hP.cur p hp) hsl
   have hgt := nextN_gt (hP.rise p)
   have hnx : 1 ≤ nextN (G p).1 ∧ nextN (G p).1 ≤ c + 1 := by
    by_cases hn : (G p).1 = []
    ·rw [hn, nextN_nil]; omega
    ·rw [nextN_at hn]
     have := (hP.nms p _ (List.getElem_mem (by have := List.length_pos_iff.2 hn; omega : (G p).1.length - 1 < (G p).1.length))).2.2
     omega
   obtain ⟨N, hN⟩ : ∃ N, N = nextN (G p).1 := ⟨_, rfl⟩
   rw [← hN] at hgt hnx
   have hadd := hP.add hk.srt hp hast hgt hnx.2 hnx.1 (by omega)
   have HGN0 := fun w => pgen_any p (N : Nat) (by have := nameOk_len hp; omega) w
   unfold GkOut at HGN0
   rw [show genOk p (N : Nat) = true by unfold genOk numIn; rw [hp, decide_eq_true (by omega)]; rfl] at HGN0
   simp only [if_true] at HGN0
   have HP0 : ∀ w1 F1, KvAt w1 F1 X t 640 400 (ownOf 400 640) M c → Calls Tryz.prog 53 #[.pointer (some ⟨t, 0, none⟩), .string ⟨(gkey p (N : Nat)).toArray⟩, .string ⟨a.toArray⟩] w1 (KvOut w1 F1 X t 640 400 (ownOf 400 640) (.tuple #[.bool (get (gkey p (N : Nat)) M).isSome, .int .i64 0]) (ins (gkey p (N : Nat)) a M) (c + 1)) := fun w1 F1 h1 => kv_put h1 (by omega) (pair_g hp hast (by omega)) (by rw [gkey_len]; have := nameOk_len hp; omega)
   have HU0 : ∀ w1 F1, KvAt w1 F1 X t 640 400 (ownOf 400 640) (ins (gkey p (N : Nat)) a M) (c + 1) → Calls Tryz.prog 152 #[.pointer (some ⟨t, 0, none⟩), .string ⟨p.toArray⟩, .int .i64 (N : Nat)] w1 (KvOut w1 F1 X t 640 400 (ownOf 400 640) (.int .i64 0) (ins (fkey p) (be3i (N : Nat)) (ins (gkey p (N : Nat)) a M)) (c + 1 + 1)) := fun w1 F1 h1 => puse_ok h1 hp (by omega) (by omega)
   have HPU := Pk.mk hP
   have HHP := Pk.mk hp
   have HHG := Pk.mk hg
   have HSL := Pk.mk hsl
   have HC2 := Pk.mk hc
   have HADD := Pk.mk hadd
   have HRI := Pk.mk (hP.rise p)
   have hAC : isCur (G p) a = true → addA regs (G p) p a = ((G p).2, 0) ∧ addS regs (G p) p a = G p := fun h => by
    rw [addA, addS, hp, if_pos hg, if_pos hg, h]; exact ⟨rfl, rfl⟩
   have hAN : isCur (G p) a = false → addA regs (G p) p a = (N, 0) ∧ addS regs (G p) p a = ((G p).1 ++ [(N, a)], N) := fun h => by
    rw [addA, addS, hp, if_pos hg, if_pos hg, h, ← hN]; exact ⟨rfl, rfl⟩
   have HAC := Pk.mk hAC
   have HAN := Pk.mk hAN
   have HNN := Pk.mk hN
   obtain ⟨ek, hek⟩ : ∃ ek, ek = gkey p (N : Nat) := ⟨_, rfl⟩
   rw [← hek] at HGN0 HP0 HU0 HADD
   have HGN := Pk.mk HGN0
   have HPT := Pk.mk HP0
   have HU := Pk.mk HU0
   have HNX := Pk.mk hnx
   have HID := Pk.mk (updP_id G p)
   clear h hk hP HC0 hp hpl hal hc h3 hg hast hsl hgt hnx hadd HGN0 HP0 HU0 hAC hAN hN hek
   obtain ⟨s, hs⟩ : ∃ s, s = G p := ⟨_, rfl⟩
   rw [← hs] at HST HSL HAC HAN HADD HRI HID HNN ⊢
   clear hs
   obtain ⟨l, cu⟩ := s
   simp only at HADD HAN HAC
   by_cases hn : l = []
   case pos =>
    subst hn
    have hN1 : N = 1 := HNN.out
    subst hN1
    obtain ⟨h1, h2⟩ := HAN.out (by simp [isCur])
    have hat : atOf (([] : List Gn), cu) = -1 := rfl
    rw [h1, h2]
    unfold PsOut at HST
    rw [hat] at HST
    unfold ansV
    have HAD : Pk (PfM regs (ins (fkey p) (be3i (1 : Nat)) (ins ek a M)) (updP G p ([] ++ [(1, a)], 1)) (c + 2)) := HADD
    clear HAC HAN HNN h1 h2 hat HADD
    go_enter Tryz.func59, Tryz.ntmps59
    go_wp2_with fail
    refine HC.out.mono ?_
    rintro e w1 ⟨rfl, ho⟩
    have S1 := Pk.mk (S0.out.quit ho)
    have HGC := Pk.mk (HG.out _ _ S1.out.at_)
    clear ho
    go_wp2_with fail
    refine HGC.out.mono ?_
    rintro e w2 ⟨x, y, F2, rfl, s2⟩
    have S2 := Pk.mk ((S1.out.step s2.at_ s2.on s2.gr).quit ((Only.refl NoB w2).alloc (.cells #[.string ⟨x.toArray⟩, .int .i64 y, .slice none 0 0] 58)))
    have HSC := Pk.mk (HST.out _ _ S2.out.at_)
    clear s2
    go_wp2_with fail
    refine HSC.out.mono ?_
    rintro e w3 ⟨v, F3, rfl, hown, hk, ho, hgr⟩
    obtain ⟨A, cp, rfl, _⟩ := hown.shape
    have S3 := Pk.mk (S2.out.step hk ho hgr)
    clear hown hk ho hgr
    go_wp2_with fail
    refine (HGN.out _).mono ?_
    rintro e w4 ⟨rfl, ho⟩
    have S4 := Pk.mk (S3.out.quit ho)
    have HPC := Pk.mk (HPT.out _ _ S4.out.at_)
    clear ho
    go_wp2_with fail
    refine HPC.out.mono ?_
    rintro e w5 ⟨rfl, F5, hk, ho, hgr⟩
    have S5 := Pk.mk (S4.out.step hk ho hgr)
    have HUC := Pk.mk (HU.out _ _ S5.out.at_)
    clear hk ho hgr
    go_wp2_with fail
    refine HUC.out.mono ?_
    rintro e w6 ⟨rfl, F6, hk, ho, hgr⟩
    have S6 := Pk.mk (S5.out.step hk ho hgr)
    clear hk ho hgr
    go_wp2_with fail
    go_ret2
    exact PfOut.of S6.out HAD.out HC2.out
   case neg =>
    obtain ⟨k, hkl, hat, hke⟩ := HSL.out.at_ hn
    have hic := isCur_at (a := a) HRI.out hkl hke
    unfold PsOut at HST
    rw [hat] at HST
    have hN2 := HNN.out
    rw [nextN_at hn] at hN2
    have hl0 := List.length_pos_iff.2 hn
    obtain ⟨L, hL⟩ : ∃ L, L = l.length := ⟨_, rfl⟩
    obtain ⟨y, hy⟩ : ∃ y, y = (l[l.length - 1]'(by omega)).1 := ⟨_, rfl⟩
    have hcells : Pk (∀ (w1 : World) (A : Option Addr) (cp : Nat) (F : Nat → Prop), Own w1 F 105 2 (.slice A L cp) L (genL l) → ∃ g off, A = some ⟨g, off, none⟩ ∧ w1.cell? ⟨g, off + k * 2, none⟩ = some (.int .i64 (cu : Nat)) ∧ w1.cell? ⟨g, off + k * 2 + 1, none⟩ = some (.string ⟨(l[k].2).toArray⟩) ∧ w1.cell? ⟨g, off + (L - 1) * 2, none⟩ = some (.int .i64 (y : Nat))) := Pk.mk fun w1 A cp F hown => by
     obtain ⟨g, off, c', hve, _, _, hcell⟩ := hown.rd.open_ (by omega)
     injection hve with q1 q2 q3
     obtain ⟨p1, p2⟩ := genL_get (List.getElem?_eq_getElem hkl)
     obtain ⟨p3, _⟩ := genL_get (List.getElem?_eq_getElem (by omega : l.length - 1 < l.length))
     have c1 := hcell _ _ p1
     have c2 := hcell _ _ p2
     have c3 := hcell _ _ p3
     rw [hke] at c1
     rw [← hy] at c3
     exact ⟨g, off, q1, c1, by rw [Nat.add_assoc]; exact c2, by rw [hL]; exact c3⟩
    obtain ⟨b, hb⟩ : ∃ b, b = l[k].2 := ⟨_, rfl⟩
    rw [← hb] at hic hcells
    rw [← hy] at hN2
    rw [← hL] at HST hkl hl0
    have hkL : (k : Int) < (L : Int) := by omega
    have hk0 : (0 : Int) ≤ (k : Int) := by omega
    have hkn : ¬ ((k : Int) < 0) := by omega
    by_cases hba : b = a
    case pos =>
     obtain ⟨h1, h2⟩ := HAC.out (by rw [hic]; simpa using hba)
     rw [h1, h2, HID.out]
     subst hba
     unfold ansV
     have HPM := Pk.mk (HPU.out.mono (c' := c + 2) (by omega))
     clear HAC HAN HNN h1 h2 hat HADD hic hN2 hl0 hke hb hy hn hL HPU
     go_enter Tryz.func59, Tryz.ntmps59
     go_wp2_with fail
     refine HC.out.mono ?_
     rintro e w1 ⟨rfl, ho⟩
     have S1 := Pk.mk (S0.out.quit ho)
     have HGC := Pk.mk (HG.out _ _ S1.out.at_)
     clear ho
     go_wp2_with fail
     refine HGC.out.mono ?_
     rintro e w2 ⟨x, y, F2, rfl, s2⟩
     have S2 := Pk.mk ((S1.out.step s2.at_ s2.on s2.gr).quit ((Only.refl NoB w2).alloc (.cells #[.string ⟨x.toArray⟩, .int .i64 y, .slice none 0 0] 58)))
     have HSC := Pk.mk (HST.out _ _ S2.out.at_)
     clear s2
     go_wp2_with fail
     refine HSC.out.mono ?_
     rintro e w3 ⟨v, F3, rfl, hown, hk, ho, hgr⟩
     obtain ⟨A, cp, rfl, _⟩ := hown.shape
     have S3 := Pk.mk (S2.out.step hk ho hgr)
     obtain ⟨g, off, rfl, c1, c2, _⟩ := hcells.out _ _ _ _ hown
     clear hown hk ho hgr
     go_wp2_with fail
     go_ret2
     exact PfOut.of ⟨S3.out.at_.mono (by omega), S3.out.on, S3.out.gr⟩ HPM.out HC2.out
    case neg =>
     obtain ⟨h1, h2⟩ := HAN.out (by rw [hic]; simpa using hba)
     rw [h1, h2]
     have hbq : (b == a) = false := by simpa using hba
     unfold ansV
     obtain ⟨j, hj⟩ : ∃ j, j = L - 1 := ⟨_, rfl⟩
     rw [← hj] at hcells
     have hj2 : (L : Int) - 1 = (j : Int) := by omega
     have hj3 : (j : Int) < (L : Int) := by omega
     have hj4 : (0 : Int) ≤ (j : Int) := by omega
     have hL0 : (L : Int) > 0 := by omega
     have hL0' : (0 : Int) < (L : Int) := by omega
     have hnw : IntKind.i64.wrap (N : Int) = (N : Int) := by rw [IntKind.wrap_i64]; have := HNX.out; have := HC2.out; omega
     have hnw2 : (y : Int) + 1 = (N : Int) := by omega
     have hjw : IntKind.i64.wrap (j : Int) = (j : Int) := by rw [IntKind.wrap_i64]; have := HSL.out.len; simp only at this; omega
     have HAD : Pk (PfM regs (ins (fkey p) (be3i (N : Nat)) (ins ek a M)) (updP G p (l ++ [(N, a)], N)) (c + 2)) := HADD
     clear HAC HAN HNN h1 h2 hat HADD hic hN2 hl0 hke hb hy hn hba hj hL
     go_enter Tryz.func59, Tryz.ntmps59
     go_wp2_with fail
     refine HC.out.mono ?_
     rintro e w1 ⟨rfl, ho⟩
     have S1 := Pk.mk (S0.out.quit ho)
     have HGC := Pk.mk (HG.out _ _ S1.out.at_)
     clear ho
     go_wp2_with fail
     refine HGC.out.mono ?_
     rintro e w2 ⟨x, y, F2, rfl, s2⟩
     have S2 := Pk.mk ((S1.out.step s2.at_ s2.on s2.gr).quit ((Only.refl NoB w2).alloc (.cells #[.string ⟨x.toArray⟩, .int .i64 y, .slice none 0 0] 58)))
     have HSC := Pk.mk (HST.out _ _ S2.out.at_)
     clear s2
     go_wp2_with fail
     refine HSC.out.mono ?_
     rintro e w3 ⟨v, F3, rfl, hown, hk, ho, hgr⟩
     obtain ⟨A, cp, rfl, _⟩ := hown.shape
     have S3 := Pk.mk (S2.out.step hk ho hgr)
     obtain ⟨g, off, rfl, c1, c2, c3⟩ := hcells.out _ _ _ _ hown
     clear hown hk ho hgr
     go_wp2_with fail
     refine (HGN.out _).mono ?_
     rintro e w4 ⟨rfl, ho⟩
     have S4 := Pk.mk (S3.out.quit ho)
     have HPC := Pk.mk (HPT.out _ _ S4.out.at_)
     clear ho
     go_wp2_with fail
     refine HPC.out.mono ?_
     rintro e w5 ⟨rfl, F5, hk, ho, hgr⟩
     have S5 := Pk.mk (S4.out.step hk ho hgr)
     have HUC := Pk.mk (HU.out _ _ S5.out.at_)
     clear hk ho hgr
     go_wp2_with fail
     refine HUC.out.mono ?_
     rintro e w6 ⟨rfl, F6, hk, ho, hgr⟩
     have S6 := Pk.mk (S5.out.step hk ho hgr)
     clear hk ho hgr
     go_wp2_with fail
     go_ret2
     exact PfOut.of S6.out HAD.out HC2.out
end
end Go.Proofs.YtpjfheadolphgaaGreat
namespace Go.Proofs.YtpjfheadolphgaaGreat
open Go.RowKit Go.Proofs Go.Shelf
set_option maxRecDepth 20000
attribute [local go_sem] Oper.semAt_some
section
variable {w w' : World} {s all : Str}
theorem any_take_step {k : Nat} {b c : UInt8} (h : all[k]? = some b) (hc : (all.take k).contains c = false) (hne : b ≠ c) : (all.take (k + 1)).contains c = false := by
 rw [List.take_add_one, h]
 simp only [Option.toList_some]
 rw [List.contains_eq_any_beq] at hc ⊢
 rw [List.any_append, hc]
 simp [Ne.symm hne]
def RinOut (c : UInt8) (all : Str) (w : World) (e : Ending) (w' : World) : Prop := e = .returned (.bool (all.contains c)) ∧ w' = w
theorem rin_ok (c : UInt8) (all : Str) (hl : all.length ≤ 1000000) (w : World) : Calls Tryz.prog 279 #[.int .u8 c.toNat, .string ⟨all.toArray⟩] w (RinOut c all w) := by
 obtain ⟨n, hn⟩ : ∃ n, all.length = n := ⟨_, rfl⟩
 have HN := Pk.mk hn
 have HL := Pk.mk hl
 clear hl
 go_enter Tryz.func279, Tryz.ntmps279
 go_wp2_with fail
 go_loop [5] (fun i => ∃ k : Nat, k ≤ n ∧ i = .int .i64 k ∧ Pk ((all.take k).contains c = false)) (fun i => n - (intOf i).toNat)
 case atStart => exact ⟨0, Nat.zero_le _, rfl, Pk.mk rfl⟩
 case round =>
  obtain ⟨k, hk, rfl, HI⟩ := hrel
  have hlm := HL.out
  have hnm := HN.out
  by_cases hlt : k < n
  ·obtain ⟨b, hb⟩ : ∃ b, all[k]? = some b := ⟨_, List.getElem?_eq_getElem (by omega)⟩
   have hx := byte_at hb
   by_cases hbc : b = c
   ·have HR : Pk (all.contains c = true) := Pk.mk (by
     rw [List.contains_iff_mem]
     exact hbc ▸ List.mem_of_getElem? hb)
    subst hbc
    clear hb hlm
    go_wp2_with fail
    go_ret
    exact ⟨by rw [HR.out]; rfl, rfl⟩
   ·have HNX := Pk.mk (any_take_step hb HI.out hbc)
    have e0 : ¬ (b.toNat : Int) = (c.toNat : Int) := fun e => hbc (UInt8.toNat.inj (by omega))
    have q0 : ((b.toNat : Int) == (c.toNat : Int)) = false := beq_eq_false_iff_ne.2 e0
    clear hb hbc
    go_wp2_with fail
    exact ⟨⟨k + 1, by omega, by go_num, HNX⟩, by simp [intOf]; omega⟩
  ·obtain rfl : k = n := by omega
   have HR : Pk (all.contains c = false) := Pk.mk (by have := HI.out; rwa [List.take_of_length_le (by omega)] at this)
   clear hlm
   go_wp2_with fail
   go_ret
   exact ⟨by rw [HR.out]; rfl, rfl⟩
theorem every_take {k : Nat} {b : UInt8} (h : s[k]? = some b) : (s.take (k + 1)).all (fun b => all.contains b) = ((s.take k).all (fun b => all.contains b) && all.contains b) := by
 rw [List.take_add_one, h]
 simp
theorem every_no {k : Nat} {b : UInt8} (h : s[k]? = some b) (hb : all.contains b = false) : s.all (fun b => all.contains b) = false := by
 rw [Bool.eq_false_iff]
 intro ha
 have := List.all_eq_true.1 ha b (List.mem_of_getElem? h)
 rw [hb] at this; cases this
def RevOut (s all : Str) (w : World) (e : Ending) (w' : World) : Prop := e = .returned (.bool (s.all fun b => all.contains b)) ∧ w' = w
theorem revery_ok (s all : Str) (hs : s.length ≤ 140737488351232) (hl : all.length ≤ 1000000) (w : World) : Calls Tryz.prog 217 #[.string ⟨s.toArray⟩, .string ⟨all.toArray⟩] w (RevOut s all w) := by
 obtain ⟨n, hn⟩ : ∃ n, s.length = n := ⟨_, rfl⟩
 have HN := Pk.mk hn
 have HS := Pk.mk hs
 have HI := Pk.mk fun c w => rin_ok c all hl w
 clear hs hl
 go_enter Tryz.func217, Tryz.ntmps217
 go_wp2_with fail
 go_loop [5] (fun i => ∃ k : Nat, k ≤ n ∧ i = .int .i64 k ∧ Pk ((s.take k).all (fun b => all.contains b) = true)) (fun i => n - (intOf i).toNat)
 case atStart => exact ⟨0, Nat.zero_le _, rfl, Pk.mk rfl⟩
 case round =>
  obtain ⟨k, hk, rfl, HJ⟩ := hrel
  have hlm := HS.out
  by_cases hlt : k < n
  ·obtain ⟨b, hb⟩ : ∃ b, s[k]? = some b := ⟨_, List.getElem?_eq_getElem (by omega)⟩
   have hx := byte_at hb
   have HX0 := HI.out b w
   unfold RinOut at HX0
   have ht := every_take (all := all) hb
   have hno := every_no (all := all) hb
   obtain ⟨v, hv⟩ : ∃ v, v = all.contains b := ⟨_, rfl⟩
   rw [← hv] at HX0 ht hno
   have HX := Pk.mk HX0
   cases v with
   | true =>
    have HNX : Pk ((s.take (k + 1)).all (fun b => all.contains b) = true) := Pk.mk (by rw [ht, HJ.out]; rfl)
    clear hb ht hno hv HX0
    go_wp2_with fail
    refine HX.out.mono ?_
    rintro e w1 ⟨rfl, rfl⟩
    go_wp2_with fail
    exact ⟨⟨k + 1, by omega, by go_num, HNX⟩, by simp [intOf]; omega⟩
   | false =>
    have HR := Pk.mk (hno rfl)
    clear hb ht hno hv HX0
    go_wp2_with fail
    refine HX.out.mono ?_
    rintro e w1 ⟨rfl, rfl⟩
    go_wp2_with fail
    go_ret
    exact ⟨by rw [HR.out]; rfl, rfl⟩
  ·obtain rfl : k = n := by omega
   have HR : Pk (s.all (fun b => all.contains b) = true) := Pk.mk (by have := HJ.out; rwa [List.take_of_length_le (by omega)] at this)
   go_wp2_with fail
   go_ret
   exact ⟨by rw [HR.out]; rfl, rfl⟩
def alphaL : Str := [97, 98, 99, 100, 101, 102, 103, 104, 105, 106, 107, 108, 109, 110, 111, 112, 113, 114, 115, 116, 117, 118, 119, 120, 121, 122, 65, 66, 67, 68, 69, 70, 71, 72, 73, 74, 75, 76, 77, 78, 79, 80, 81, 82, 83, 84, 85, 86, 87, 88, 89, 90, 48, 49, 50, 51, 52, 53, 54, 55, 56, 57, 43, 45, 46, 95, 63, 61]
theorem alpha_may (b : UInt8) : alphaL.contains b = mayB b := by
 have h : ∀ n : Fin 256, alphaL.contains (UInt8.ofNat n.1) = mayB (UInt8.ofNat n.1) := by decide +kernel
 have := h ⟨b.toNat, b.toNat_lt⟩
 simpa using this
theorem every_may (s : Str) : (s.all fun b => alphaL.contains b) = s.all mayB := by
 congr 1; funext b; exact alpha_may b
def RbOut (s : Str) (w : World) (e : Ending) (w' : World) : Prop := e = .returned (.bool (baseOk s)) ∧ w' = w
set_option maxHeartbeats 2000000 in
theorem rbase_ok (s : Str) (hs : s.length ≤ 140737488351232) (w : World) : Calls Tryz.prog 218 #[.string ⟨s.toArray⟩] w (RbOut s w) := by
 obtain ⟨n, hn⟩ : ∃ n, s.length = n := ⟨_, rfl⟩
 have HE0 := revery_ok s alphaL hs (by decide) w
 unfold RevOut at HE0
 rw [every_may] at HE0
 by_cases h1 : 1 ≤ n
 case neg =>
  have HB : Pk (baseOk s = false) := Pk.mk (by unfold baseOk; rw [decide_eq_false (by omega : ¬ 1 ≤ s.length)]; rfl)
  have h1i : ¬ (1 : Int) ≤ (n : Int) := by omega
  clear HE0 h1 hs
  go_enter Tryz.func218, Tryz.ntmps218
  go_wp2_with fail
  go_ret
  exact ⟨by rw [HB.out]; rfl, rfl⟩
 have h1i : (1 : Int) ≤ (n : Int) := by omega
 by_cases h2 : n ≤ 31
 case neg =>
  have HB : Pk (baseOk s = false) := Pk.mk (by unfold baseOk; rw [decide_eq_false (by omega : ¬ s.length ≤ 31)]; simp)
  have h2i : ¬ (n : Int) ≤ (31 : Int) := by omega
  clear HE0 h1 h2 hs
  go_enter Tryz.func218, Tryz.ntmps218
  go_wp2_with fail
  go_ret
  exact ⟨by rw [HB.out]; rfl, rfl⟩
 have h2i : (n : Int) ≤ (31 : Int) := by omega
 have h0i : (0 : Int) < (n : Int) := by omega
 obtain ⟨b0, hb0⟩ : ∃ b0, s[0]? = some b0 := ⟨_, List.getElem?_eq_getElem (by omega)⟩
 have hx0 := byte_at hb0
 have hhd : s.head? = some b0 := by rw [List.head?_eq_getElem?]; exact hb0
 by_cases hdot : b0 = 46
 ·have HB : Pk (baseOk s = false) := Pk.mk (by unfold baseOk; rw [hhd, hdot]; simp)
  subst hdot
  clear HE0 h1 h2 hs hb0 hhd
  go_enter Tryz.func218, Tryz.ntmps218
  go_wp2_with fail
  go_ret
  exact ⟨by rw [HB.out]; rfl, rfl⟩
 ·have HB : Pk (baseOk s = s.all mayB) := Pk.mk (by
   unfold baseOk
   rw [decide_eq_true (by omega : 1 ≤ s.length), decide_eq_true (by omega : s.length ≤ 31), hhd]
   have : (some b0 == some (46 : UInt8)) = false := by simpa using hdot
   rw [this]; simp)
  have hdn : ¬ ((b0.toNat : Int) = 46) := fun e => hdot (UInt8.toNat_inj.1 (by show b0.toNat = 46; omega))
  have hdq : ((b0.toNat : Int) != 46) = true := bne_iff_ne.2 hdn
  unfold alphaL at HE0
  have HE := Pk.mk HE0
  clear HE0 h1 h2 hs hb0 hhd hdot
  go_enter Tryz.func218, Tryz.ntmps218
  go_wp2_with fail
  refine HE.out.mono ?_
  rintro e w1 ⟨rfl, rfl⟩
  go_wp2_with fail
  go_ret
  exact ⟨by rw [HB.out]; rfl, rfl⟩
def RnmOut (s : Str) (w : World) (e : Ending) (w' : World) : Prop := e = .returned (.bool (stOk s)) ∧ w' = w
set_option maxHeartbeats 2000000 in
theorem rnm_ok (s : Str) (hs : s.length ≤ 140737488351232) (w : World) : Calls Tryz.prog 128 #[.string ⟨s.toArray⟩] w (RnmOut s w) := by
 obtain ⟨n, hn⟩ : ∃ n, s.length = n := ⟨_, rfl⟩
 by_cases h33 : 33 < n
 case neg =>
  have HB : Pk (stOk s = false) := Pk.mk (stOk_short (by omega))
  have h1i : ¬ (33 : Int) < (n : Int) := by omega
  clear h33 hs
  go_enter Tryz.func128, Tryz.ntmps128
  go_wp2_with fail
  go_ret
  exact ⟨by rw [HB.out]; rfl, rfl⟩
 have h1i : (33 : Int) < (n : Int) := by omega
 have h2i : (32 : Int) < (n : Int) := by omega
 have h3i : (32 : Int) ≤ (n : Int) := by omega
 have h4i : (33 : Int) ≤ (n : Int) := by omega
 obtain ⟨b, hb⟩ : ∃ b, s[32]? = some b := ⟨_, List.getElem?_eq_getElem (by omega)⟩
 have hx := byte_at hb
 have e1 : (⟨s.toArray⟩ : ByteArray).extract 33 n = ⟨(s.drop 33).toArray⟩ := by rw [ext_str, List.take_of_length_le]; rw [List.length_drop]; omega
 have e2 : (⟨s.toArray⟩ : ByteArray).extract 0 32 = ⟨(s.take 32).toArray⟩ := by rw [ext_str]; simp
 have HE0 := revery_ok (s.take 32) digL (by rw [List.length_take]; omega) (by decide) w
 have hst : stOk s = ((s.take 32).all (fun b => digL.contains b) && (decide (b = 45) && baseOk (s.drop 33))) := by
  by_cases h45 : b = 45
  ·rw [stOk_long (by omega) hb h45, decide_eq_true h45, Bool.true_and, Bool.and_comm]; rfl
  ·rw [stOk_dash hb h45, decide_eq_false h45]; simp
 have HB := Pk.mk (rbase_ok (s.drop 33) (by rw [List.length_drop]; omega) w)
 unfold RbOut at HB
 obtain ⟨v, hv⟩ : ∃ v, v = (s.take 32).all (fun b => digL.contains b) := ⟨_, rfl⟩
 unfold RevOut at HE0
 rw [← hv] at HE0 hst
 unfold digL at HE0
 have HE := Pk.mk HE0
 cases v with
 | false =>
  have HST : Pk (stOk s = false) := Pk.mk (by rw [hst]; rfl)
  clear HE0 hst hv hb hs h33 HB
  go_enter Tryz.func128, Tryz.ntmps128
  go_wp2_with fail
  refine HE.out.mono ?_
  rintro e w1 ⟨rfl, rfl⟩
  go_wp2_with fail
  go_ret
  exact ⟨by rw [HST.out]; rfl, rfl⟩
 | true =>
  rw [Bool.true_and] at hst
  by_cases h45 : b = 45
  ·rw [decide_eq_true h45, Bool.true_and] at hst
   have HST := Pk.mk hst
   subst h45
   clear HE0 hst hv hb hs h33
   go_enter Tryz.func128, Tryz.ntmps128
   go_wp2_with fail
   refine HE.out.mono ?_
   rintro e w1 ⟨rfl, rfl⟩
   go_wp2_with fail
   refine HB.out.mono ?_
   rintro e w1 ⟨rfl, rfl⟩
   go_wp2_with fail
   go_ret
   exact ⟨by rw [HST.out]; rfl, rfl⟩
  ·have HST : Pk (stOk s = false) := Pk.mk (by rw [hst, decide_eq_false h45]; rfl)
   have hn45 : ¬ ((b.toNat : Int) = 45) := fun e => h45 (UInt8.toNat_inj.1 (by show b.toNat = 45; omega))
   have hq45 : ((b.toNat : Int) == 45) = false := beq_eq_false_iff_ne.2 hn45
   clear HE0 hst hv hb hs h33 HB h45
   go_enter Tryz.func128, Tryz.ntmps128
   go_wp2_with fail
   refine HE.out.mono ?_
   rintro e w1 ⟨rfl, rfl⟩
   go_wp2_with fail
   go_ret
   exact ⟨by rw [HST.out]; rfl, rfl⟩
end
end Go.Proofs.YtpjfheadolphgaaGreat
namespace Go.Proofs.YtpjfheadolphgaaGreat
open Go.RowKit Go.Proofs Go.Shelf
set_option maxRecDepth 20000
attribute [local go_sem] Oper.semAt_some
section
variable {w wr w' : World} {G : Nat → Prop} {x : Nat} {L : List Str} {a h : Str}
set_option maxHeartbeats 1000000 in
theorem rplain_ok (hh : h.length = 32) (w : World) : Calls Tryz.prog 278 #[.agg (infoC h 0 (.slice none 0 0))] w fun e w' => e = .returned (.bool true) ∧ Only NoB w w' := by
 have hb := Blk.new w 58 (infoC h 0 (.slice none 0 0))
 unfold infoC at hb ⊢
 have x0 := hb.cell 0
 have x1 := hb.cell 1
 clear hb
 go_enter Tryz.func278, Tryz.ntmps278
 go_wp2_with fail
 go_ret
 exact ⟨rfl, (Only.refl NoB w).alloc _⟩
set_option maxHeartbeats 1000000 in
theorem rmay_ok (hh : h.length = 32) (w : World) : Calls Tryz.prog 216 #[.agg (infoC h 0 (.slice none 0 0))] w fun e w' => e = .returned (.bool true) ∧ Only NoB w w' := by
 obtain ⟨W0, hW0⟩ : ∃ W0, W0 = w.alloc (.cells (infoC h 0 (.slice none 0 0)) 58) := ⟨_, rfl⟩
 have hb := Blk.new w 58 (infoC h 0 (.slice none 0 0))
 rw [← hW0] at hb
 have ho : Only NoB w W0 := by rw [hW0]; exact (Only.refl NoB w).alloc _
 have HP := Pk.mk fun w => rplain_ok hh w
 unfold infoC at hb hW0 HP ⊢
 have x0 := hb.cell 0
 have x1 := hb.cell 1
 have x2 := hb.cell 2
 have HB := Pk.mk hb
 have HO := Pk.mk ho
 have HW := Pk.mk hW0
 clear hb ho hW0 hh
 go_enter Tryz.func216, Tryz.ntmps216
 go_wp2_with fail
 rw [← HW.out]
 go_loopw [3] (fun i wr => i = .int .i64 0 ∧ wr = W0) (fun _ _ => 0)
 case atStart => exact ⟨rfl, rfl⟩
 case round =>
  obtain ⟨rfl, rfl⟩ := hrel
  go_wp2_with fail
  refine (HP.out _).mono ?_
  rintro e w1 ⟨rfl, ho⟩
  have y2 := (HB.out.only ho id).cell 2
  have HO1 := Pk.mk (HO.out.trans ho)
  clear ho x0 x1 x2
  go_wp2_with fail
  go_ret
  exact ⟨rfl, HO1.out⟩
def RckOut (a : Str) (w : World) (e : Ending) (w' : World) : Prop := e = .returned (.int .i64 (if stOk a then 0 else 190)) ∧ Only NoB w w'
set_option maxHeartbeats 1000000 in
theorem rcheck_ok (hh : h.length = 32) (a : Str) (ha : a.length ≤ 140737488351232) (w : World) : Calls Tryz.prog 125 #[.string ⟨a.toArray⟩, .agg (infoC h 0 (.slice none 0 0))] w (RckOut a w) := by
 obtain ⟨W0, hW0⟩ : ∃ W0, W0 = w.alloc (.cells (infoC h 0 (.slice none 0 0)) 58) := ⟨_, rfl⟩
 have hb := Blk.new w 58 (infoC h 0 (.slice none 0 0))
 rw [← hW0] at hb
 have ho : Only NoB w W0 := by rw [hW0]; exact (Only.refl NoB w).alloc _
 have HM := Pk.mk fun w => rmay_ok hh w
 have HN0 := rnm_ok a ha W0
 unfold RnmOut at HN0
 unfold infoC at hb hW0 HM ⊢
 have x0 := hb.cell 0
 have x1 := hb.cell 1
 have x2 := hb.cell 2
 have HO := Pk.mk ho
 have HW := Pk.mk hW0
 clear hb ho hW0 hh ha
 cases hst : stOk a with
 | false =>
  rw [hst] at HN0
  have HN := Pk.mk HN0
  have HS := Pk.mk hst
  clear HN0 hst
  go_enter Tryz.func125, Tryz.ntmps125
  go_wp2_with fail
  rw [← HW.out]
  refine HN.out.mono ?_
  rintro e w1 ⟨rfl, rfl⟩
  go_wp2_with fail
  go_ret
  exact ⟨by rw [HS.out]; rfl, HO.out⟩
 | true =>
  rw [hst] at HN0
  have HN := Pk.mk HN0
  have HS := Pk.mk hst
  clear HN0 hst
  go_enter Tryz.func125, Tryz.ntmps125
  go_wp2_with fail
  rw [← HW.out]
  refine HN.out.mono ?_
  rintro e w1 ⟨rfl, rfl⟩
  go_wp2_with fail
  refine (HM.out _).mono ?_
  rintro e w2 ⟨rfl, ho⟩
  have HO1 := Pk.mk (HO.out.trans ho)
  clear ho
  go_wp2_with fail
  go_ret
  exact ⟨by rw [HS.out]; rfl, HO1.out⟩
end
def z32V : Value := .string ⟨#[48, 48, 48, 48, 48, 48, 48, 48, 48, 48, 48, 48, 48, 48, 48, 48, 48, 48, 48, 48, 48, 48, 48, 48, 48, 48, 48, 48, 48, 48, 48, 48]⟩
def pathL : List Str → List Value
 | [] => []
 | a :: l => strV a :: z32V :: .int .i64 0 :: .slice none 0 0 :: pathL l
theorem pathL_append : ∀ a b : List Str, pathL (a ++ b) = pathL a ++ pathL b
 | [], _ => rfl
 | p :: ps, b => by simp [pathL, pathL_append ps b]
theorem pathL_get : ∀ {l : List Str} {i : Nat} {p : Str}, l[i]? = some p → (pathL l)[i * 4]? = some (strV p) ∧ (pathL l)[i * 4 + 1]? = some z32V ∧ (pathL l)[i * 4 + 2]? = some (.int .i64 0) ∧ (pathL l)[i * 4 + 3]? = some (.slice none 0 0)
 | [], i, p, h => by simp at h
 | q :: ps, 0, p, h => by
  obtain rfl : q = p := by simpa using h
  exact ⟨rfl, rfl, rfl, rfl⟩
 | q :: ps, i + 1, p, h => by
  have := pathL_get (l := ps) (i := i) (by simpa using h)
  rw [show (i + 1) * 4 = i * 4 + 1 + 1 + 1 + 1 by omega]
  simpa [pathL] using this
theorem pathL_one : ∀ (l : List Str), ∀ u ∈ pathL l, u.oneCell' = true
 | [], u, hu => by cases hu
 | p :: ps, u, hu => by
  rcases List.mem_cons.1 hu with rfl | hu
  ·rfl
  rcases List.mem_cons.1 hu with rfl | hu
  ·rfl
  rcases List.mem_cons.1 hu with rfl | hu
  ·rfl
  rcases List.mem_cons.1 hu with rfl | hu
  ·rfl
  exact pathL_one ps u hu
structure RefP (w : World) (G : Nat → Prop) (x : Nat) (L : List Str) : Prop where
 lt : ∀ k, G k → k < w.heap.size
 in_ : G x
 srt : L.Pairwise lts
 cells : ∃ lv, Blk w x 72 #[lv] ∧ Own w (fun g => G g ∧ g ≠ x) 187 4 lv L.length (pathL L)
section
variable {w wr w' : World} {G : Nat → Prop} {x : Nat} {L : List Str} {a h : Str}
theorem RefP.quit (h : RefP w G x L) (ho : Only NoB w w') : RefP w' G x L := by
 obtain ⟨lv, hb, hown⟩ := h.cells
 exact ⟨fun k hk => Nat.lt_of_lt_of_le (h.lt k hk) ho.size, h.in_, h.srt, lv, hb.only ho id, hown.only ho fun _ _ => id⟩
theorem RefP.only {S : Nat → Prop} (h : RefP w G x L) (ho : Only S w w') (hd : ∀ k, G k → ¬ S k) : RefP w' G x L := by
 obtain ⟨lv, hb, hown⟩ := h.cells
 exact ⟨fun k hk => Nat.lt_of_lt_of_le (h.lt k hk) ho.size, h.in_, h.srt, lv, hb.only ho (hd x h.in_), hown.only ho fun k hk => hd k hk.1⟩
def RplOut (L : List Str) (a : Str) (w : World) (e : Ending) (w' : World) : Prop :=
 ∃ (k : Nat) (is : Bool), e = .returned (.tuple #[.int .i64 (k : Nat), .bool is]) ∧ Only NoB w w' ∧ k ≤ L.length ∧ is = decide (L[k]? = some a) ∧ (∀ j (h : j < L.length), j < k → lts L[j] a) ∧ ∀ h : k < L.length, ¬ lts L[k] a
set_option maxHeartbeats 4000000 in
theorem rplace23_ok (h : RefP w G x L) (a : Str) (hl : L.length ≤ 1000) :
  Calls Tryz.prog 126 #[.pointer (some ⟨x, 0, none⟩), .string ⟨a.toArray⟩] w (RplOut L a w) := by
 obtain ⟨_, _, _, lv, hb, hown⟩ := h
 have hr := hown.rd
 obtain ⟨lA, lc, rfl, _⟩ := hown.shape
 have c0 : w.cell? ⟨x, 0, none⟩ = some (.slice lA L.length lc) := hb.cell 0
 have c0d : w.drew.cell? ⟨x, 0, none⟩ = some (.slice lA L.length lc) := (Only.refl NoB w).drew.cell c0 id
 have HR := Pk.mk hr
 clear hb hown hr
 go_enter Tryz.func126, Tryz.ntmps126
 go_wp2_with fail
 go_loop [6] (fun i => ∃ k : Nat, k ≤ L.length ∧ i = .int .i64 k ∧ Pk (∀ j (h : j < L.length), j < k → lts L[j] a)) (fun i => L.length - (intOf i).toNat)
 case atStart => exact ⟨0, Nat.zero_le _, rfl, Pk.mk fun _ _ h => absurd h (Nat.not_lt_zero _)⟩
 case round =>
  obtain ⟨k, hk, rfl, HI⟩ := hrel
  by_cases hlt : k < L.length
  ·obtain ⟨g, off, c', hve, _, _, hcell⟩ := HR.out.open_ (by omega)
   injection hve with q1 q2 q3
   subst q1; subst q3
   obtain ⟨p1, _⟩ := pathL_get (List.getElem?_eq_getElem hlt)
   have u1 := hcell _ _ p1
   have hnext : lts L[k] a → ∀ j (h : j < L.length), j < k + 1 → lts L[j] a := fun h0 j hj hjk => by
    by_cases e : j = k
    ·subst e; exact h0
    ·exact HI.out j hj (by omega)
   have hLk : L[k]? = some L[k] := List.getElem?_eq_getElem hlt
   have hend : ∀ is, is = decide (L[k] = a) → ¬ lts L[k] a → ∀ w', Only NoB w w' → RplOut L a w (.returned (.tuple #[.int .i64 (k : Nat), .bool is])) w' := fun is his h0 w' ho => ⟨k, is, rfl, ho, hk, by rw [his, hLk]; simp, HI.out, fun _ => h0⟩
   obtain ⟨ne, hne⟩ : ∃ ne, ne = L[k] := ⟨_, rfl⟩
   rw [← hne] at u1 hnext hend
   unfold strV at u1
   have u1d : w.drew.cell? ⟨g, off + k * 4, none⟩ = some (.string ⟨ne.toArray⟩) := (Only.refl NoB w).drew.cell u1 id
   have hk1 : (k : Int) < (L.length : Int) := by omega
   have hk0 : (0 : Int) ≤ (k : Int) := by omega
   have HNX := Pk.mk hnext
   have HEN := Pk.mk hend
   clear hcell p1 hnext hend hne q2 hLk
   by_cases a3 : Go.Op.bytesLess ne a = true
   ·have HN1 := Pk.mk (HNX.out a3)
    go_wp2_with fail
    exact ⟨⟨k + 1, by omega, by go_num, HN1⟩, by simp [intOf]; omega⟩
   ·have a3f : Go.Op.bytesLess ne a = false := by simpa using a3
    by_cases a4 : ne = a
    ·have HP := Pk.mk (HEN.out true (by rw [decide_eq_true a4]) a3)
     have a4b : (ne == a) = true := by simpa using a4
     clear a3 a4
     go_upto_region 4 with fail
     refine hB _ 22 (fun w' => w'.cell? ⟨x, 0, none⟩ = some (.slice (some ⟨g, off, none⟩) L.length lc) ∧ w'.cell? ⟨g, off + k * 4, none⟩ = some (.string ⟨ne.toArray⟩)) (⟨c0d, u1d⟩) (fun hHeld => ?_)
     refine hT 0 28 ?_
     refine hT 1 29 ?_
     refine hT 2 30 ?_
     refine hT 3 31 ?_
     refine hT 4 32 ?_
     refine hT 5 33 ?_
     refine hT 6 34 ?_
     refine hV 7 35 (.bool true) ?_
     refine hT 8 36 ?_
     refine hT 9 37 ?_
     refine hT 10 38 ?_
     refine hT 11 39 ?_
     refine hT 12 40 ?_
     refine hT 13 41 ?_
     refine hT 14 42 ?_
     refine hT 15 43 ?_
     refine hT 16 44 ?_
     refine hT 17 45 ?_
     refine hV 18 46 (.bool true) ?_
     refine hT 19 47 ?_
     refine hT 20 4 ?_
     refine hT 21 5 ?_
     refine wpAnyH_done (by kernel_rfl) ?_ _
     refine NoPanic.normal ?_
     go_wp2_with fail
     go_ret2
     exact HP.out _ (Only.refl NoB w).drew
    ·have HP := Pk.mk (HEN.out false (by rw [decide_eq_false a4]) a3)
     have a4b : (ne == a) = false := by simpa using a4
     clear a3 a4
     go_upto_region 4 with fail
     refine hB _ 22 (fun w' => w'.cell? ⟨x, 0, none⟩ = some (.slice (some ⟨g, off, none⟩) L.length lc) ∧ w'.cell? ⟨g, off + k * 4, none⟩ = some (.string ⟨ne.toArray⟩)) (⟨c0d, u1d⟩) (fun hHeld => ?_)
     refine hT 0 28 ?_
     refine hT 1 29 ?_
     refine hT 2 30 ?_
     refine hT 3 31 ?_
     refine hT 4 32 ?_
     refine hT 5 33 ?_
     refine hT 6 34 ?_
     refine hV 7 35 (.bool true) ?_
     refine hT 8 36 ?_
     refine hT 9 37 ?_
     refine hT 10 38 ?_
     refine hT 11 39 ?_
     refine hT 12 40 ?_
     refine hT 13 41 ?_
     refine hT 14 42 ?_
     refine hT 15 43 ?_
     refine hT 16 44 ?_
     refine hT 17 45 ?_
     refine hV 18 46 (.bool false) ?_
     refine hT 19 47 ?_
     refine hT 20 4 ?_
     refine hT 21 5 ?_
     refine wpAnyH_done (by kernel_rfl) ?_ _
     refine NoPanic.normal ?_
     go_wp2_with fail
     go_ret2
     exact HP.out _ (Only.refl NoB w).drew
  ·obtain rfl : k = L.length := by omega
   have HP : Pk (∀ w', Only NoB w w' → RplOut L a w (.returned (.tuple #[.int .i64 (L.length : Nat), .bool false])) w') := Pk.mk fun w' ho => ⟨L.length, false, rfl, ho, Nat.le_refl _, by simp, HI.out, fun h => absurd h (Nat.lt_irrefl _)⟩
   clear hlt
   go_upto_region 4 with fail
   refine hB _ 22 (fun w' => w'.cell? ⟨x, 0, none⟩ = some (.slice lA L.length lc)) (c0d) (fun hHeld => ?_)
   refine hT 0 28 ?_
   refine hT 1 29 ?_
   refine hT 2 30 ?_
   refine hT 3 31 ?_
   refine hT 4 32 ?_
   refine hT 5 33 ?_
   refine hT 6 34 ?_
   refine hV 7 35 (.bool false) ?_
   refine hT 8 36 ?_
   refine hK 9 37 ?_
   refine hK 10 38 ?_
   refine hK 11 39 ?_
   refine hK 12 40 ?_
   refine hK 13 41 ?_
   refine hK 14 42 ?_
   refine hK 15 43 ?_
   refine hK 16 44 ?_
   refine hK 17 45 ?_
   refine hK 18 46 ?_
   refine hT 19 47 ?_
   refine hT 20 4 ?_
   refine hT 21 5 ?_
   refine wpAnyH_done (by kernel_rfl) ?_ _
   refine NoPanic.normal ?_
   go_wp2_with fail
   go_ret2
   exact HP.out _ (Only.refl NoB w).drew
end
end Go.Proofs.YtpjfheadolphgaaGreat
