import Derived.Test.YtklfkocebhhgcaaGreatMe6
set_option linter.unusedVariables false
set_option linter.unusedSimpArgs false
namespace Go.Proofs.YtklfkocebhhgcaaGreat
open Go.RowKit Go.Proofs Go.Shelf
set_option maxRecDepth 20000
section
variable {w w' wr : World} {F F' : Nat → Prop} {X : XC} {t c b : Nat} {M M' : List KV} {ty : TypeId} {cs : Array Value}
structure HR (w wr : World) (X : XC) (t : Nat) (F : Nat → Prop) (M : List KV) (c : Nat) : Prop where
  dr : DrAt wr F X t M c
  on : Only NoB w wr
  low : ∀ q, F q → w.heap.size ≤ q
theorem HR.step {c' : Nat} (h : HR w wr X t F M c) (hd : DrAt w' F' X t M' c') (ho : Only F wr w') (hg : Grows F F' wr) : HR w w' X t F' M' c' :=
  have h2 := low_trans h.on h.low ho hg
  ⟨hd, h2.1, h2.2⟩
theorem HR.quit (h : HR w wr X t F M c) (ho : Only NoB wr w') : HR w w' X t F M c := ⟨h.dr.quit ho, h.on.trans ho, h.low⟩
theorem HR.more {c' : Nat} (h : HR w wr X t F M c) (hc : c ≤ c') (h2 : c' ≤ 280) : HR w wr X t F M c' := ⟨⟨h.dr.kv.mono hc, h.dr.dir, Nat.le_trans h.dr.len hc, h2⟩, h.on, h.low⟩
structure Boxed (w : World) (F : Nat → Prop) (b : Nat) (ty : TypeId) (cs : Array Value) : Prop where
  blk : Blk w b ty cs
  out : ¬ F b
theorem Boxed.step (h : Boxed w F b ty cs) (ho : Only F w w') (hg : Grows F F' w) : Boxed w' F' b ty cs :=
  ⟨h.blk.only ho h.out, fun hf => (hg b hf).elim h.out fun hl => by have := h.blk.lt; omega⟩
theorem Boxed.quit (h : Boxed w F b ty cs) (ho : Only NoB w w') : Boxed w' F b ty cs := ⟨h.blk.only ho id, h.out⟩
theorem HR.box {cs : Array Value} (h : HR w wr X t F M c) (hw : w' = wr.alloc (.cells cs ty)) : HR w w' X t F M c ∧ Boxed w' F wr.heap.size ty cs := by
  subst hw
  exact ⟨h.quit ((Only.refl NoB wr).alloc _), Blk.new _ _ _, fun hf => by have := h.dr.kv.lt _ hf; omega⟩
end
end Go.Proofs.YtklfkocebhhgcaaGreat
namespace Go.Proofs.YtklfkocebhhgcaaGreat
open Go.RowKit Go.Proofs Go.Shelf
set_option maxRecDepth 20000
attribute [local go_sem] Oper.semAt_some
section
variable {w w' : World}
def Rn11Out (s : Str) (w : World) (e : Ending) (w' : World) : Prop := e = .returned (.bool (nameOk s)) ∧ w' = w
theorem hasZS_no {s : Str} (h : ∀ j (hj : j < s.length), s[j] ≠ 0 ∧ s[j] ≠ 47) : hasZS s = false := by
  cases hz : hasZS s with
  | false => rfl
  | true =>
    exfalso
    unfold hasZS at hz
    obtain ⟨b, hb, hb2⟩ := List.any_eq_true.1 hz
    obtain ⟨j, hj, rfl⟩ := List.getElem_of_mem hb
    have := h j hj
    simp only [Bool.or_eq_true, beq_iff_eq] at hb2
    exact hb2.elim this.1 this.2
theorem hasZS_at {s : Str} {j : Nat} (hj : j < s.length) (h : s[j] = 0 ∨ s[j] = 47) : hasZS s = true := by
  unfold hasZS
  refine List.any_eq_true.2 ⟨s[j], List.getElem_mem hj, ?_⟩
  simp only [Bool.or_eq_true, beq_iff_eq]
  exact h
set_option maxHeartbeats 2000000 in
theorem rname11_ok (s : Str) (hl : s.length ≤ 140737488351232) (w : World) : Calls Tryz.prog 130 #[.string ⟨s.toArray⟩] w (Rn11Out s w) := by
  obtain ⟨n, hn⟩ : ∃ n, n = s.length := ⟨_, rfl⟩
  have hn' : s.length = n := hn.symm
  have HN := Lib.hid hn'
  clear hn
  go_enter Tryz.func130, Tryz.ntmps130
  go_wp2_with fail
  go_loop [3] (fun i => ∃ k : Nat, k ≤ n ∧ i = .int .i64 k ∧ Hid (∀ j (hj : j < s.length), j < k → s[j] ≠ 0 ∧ s[j] ≠ 47)) (fun i => n - (intOf i).toNat)
  case atStart => exact ⟨0, Nat.zero_le _, rfl, Lib.hid fun _ _ h => absurd h (Nat.not_lt_zero _)⟩
  case round =>
    obtain ⟨k, hk, rfl, HI⟩ := hrel
    by_cases hlt : k < n
    · have hks : k < s.length := by omega
      obtain ⟨b, hb⟩ : ∃ b, b = s[k] := ⟨_, rfl⟩
      have hx : ∀ h, ((⟨s.toArray⟩ : ByteArray)[k]'h) = b := byte_at (s := s) (i := k) (b := b) (by rw [List.getElem?_eq_getElem hks, hb])
      have HB := Lib.hid hb
      clear hb
      by_cases h0 : b = 0
      · have hz : hasZS s = true := hasZS_at hks (.inl (by rw [← HB.out]; exact h0))
        have HR : Hid (Rn11Out s w (.returned (.bool false)) w) := Lib.hid ⟨by simp [nameOk, hz], rfl⟩
        subst h0
        clear hz
        go_wp2_with fail
        go_ret
        exact HR.out
      · by_cases h47 : b = 47
        · have hz : hasZS s = true := hasZS_at hks (.inr (by rw [← HB.out]; exact h47))
          have HR : Hid (Rn11Out s w (.returned (.bool false)) w) := Lib.hid ⟨by simp [nameOk, hz], rfl⟩
          subst h47
          clear hz
          go_wp2_with fail
          go_ret
          exact HR.out
        · have e0 : ¬ (b.toNat : Int) = 0 := fun e => h0 (UInt8.toNat.inj (show b.toNat = 0 by omega))
          have e47 : ¬ (b.toNat : Int) = 47 := fun e => h47 (UInt8.toNat.inj (show b.toNat = 47 by omega))
          have q0 : ((b.toNat : Int) == 0) = false := beq_eq_false_iff_ne.2 e0
          have q47 : ((b.toNat : Int) == 47) = false := beq_eq_false_iff_ne.2 e47
          have HNX : Hid (∀ j (hj : j < s.length), j < k + 1 → s[j] ≠ 0 ∧ s[j] ≠ 47) := Lib.hid fun j hj hjk => by
            by_cases e : j = k
            · subst e; rw [← HB.out]; exact ⟨h0, h47⟩
            · exact HI.out j hj (by omega)
          go_wp2_with fail
          exact ⟨⟨k + 1, by omega, by go_num, HNX⟩, by simp [intOf]; omega⟩
    · obtain rfl : k = n := by omega
      have hz : hasZS s = false := hasZS_no fun j hj => HI.out j hj (by have := HN.out; omega)
      have HR : Hid (nameOk s = (decide (1 ≤ (k : Int)) && decide ((k : Int) ≤ 64))) := Lib.hid (by
        rw [nameOk, hz, HN.out]
        rw [Bool.not_false, Bool.and_true]
        congr 1 <;> exact decide_eq_decide.2 (by omega))
      clear hz HI
      by_cases h1 : 1 ≤ (k : Int)
      · by_cases h2 : (k : Int) ≤ 64
        · go_wp2_with fail
          go_ret
          exact ⟨by rw [HR.out]; simp [h1, h2], rfl⟩
        · go_wp2_with fail
          go_ret
          exact ⟨by rw [HR.out]; simp [h1, h2], rfl⟩
      · go_wp2_with fail
        go_ret
        exact ⟨by rw [HR.out, decide_eq_false (show ¬ 1 ≤ (k : Int) by omega)]; rfl, rfl⟩
def Rn14Out (s : Str) (w : World) (e : Ending) (w' : World) : Prop := e = .returned (.bool (nameOk s && (!decide (s = [46]) && !decide (s = [46, 46])))) ∧ w' = w
theorem rname14_ok (s : Str) (hl : s.length ≤ 140737488351232) (w : World) : Calls Tryz.prog 65 #[.string ⟨s.toArray⟩] w (Rn14Out s w) := by
  have HN := rname11_ok s hl w
  unfold Rn11Out at HN
  unfold Rn14Out
  cases hb : nameOk s with
  | false =>
    rw [hb] at HN
    have HN := Lib.hid HN
    clear hb hl
    simp only [Bool.false_and]
    go_enter Tryz.func65, Tryz.ntmps65
    go_wp2_with fail
    refine HN.out.mono ?_
    rintro e w1 ⟨rfl, rfl⟩
    go_wp2_with fail
    go_ret
    exact ⟨rfl, rfl⟩
  | true =>
    rw [hb] at HN
    have HN := Lib.hid HN
    clear hl
    by_cases h1 : s = [46]
    · subst h1
      clear hb
      go_enter Tryz.func65, Tryz.ntmps65
      go_wp2_with fail
      refine HN.out.mono ?_
      rintro e w1 ⟨rfl, rfl⟩
      go_wp2_with fail
      go_ret
      exact ⟨rfl, rfl⟩
    · by_cases h2 : s = [46, 46]
      · subst h2
        clear hb h1
        go_enter Tryz.func65, Tryz.ntmps65
        go_wp2_with fail
        refine HN.out.mono ?_
        rintro e w1 ⟨rfl, rfl⟩
        go_wp2_with fail
        go_ret
        exact ⟨rfl, rfl⟩
      · have hv : (true && (!decide (s = [46]) && !decide (s = [46, 46]))) = true := by simp [h1, h2]
        rw [hv]
        have hq1 : (s == [46]) = false := by simpa using h1
        have hq2 : (s == [46, 46]) = false := by simpa using h2
        clear hb hv
        go_enter Tryz.func65, Tryz.ntmps65
        go_wp2_with fail
        refine HN.out.mono ?_
        rintro e w1 ⟨rfl, rfl⟩
        go_wp2_with fail
        go_ret
        exact ⟨rfl, rfl⟩
end
end Go.Proofs.YtklfkocebhhgcaaGreat
namespace Go.Proofs.YtklfkocebhhgcaaGreat
open Go.RowKit Go.Proofs Go.Shelf
set_option maxRecDepth 20000
attribute [local go_sem] Oper.semAt_some
def eD (x : KV) : Int := (foldN ((x.1.drop 1).take 3) : Nat)
def eN (x : KV) : Str := x.1.drop 4
def entL : List KV → List Value
  | [] => []
  | p :: ps => .int .i64 (eD p) :: strV (eN p) :: .int .i64 (numV p.2 : Nat) :: entL ps
theorem entL_append : ∀ a b : List KV, entL (a ++ b) = entL a ++ entL b
  | [], _ => rfl
  | p :: ps, b => by simp [entL, entL_append ps b]
theorem entL_get : ∀ {ps : List KV} {i : Nat} {p : KV}, ps[i]? = some p → (entL ps)[i * 3]? = some (.int .i64 (eD p)) ∧ (entL ps)[i * 3 + 1]? = some (strV (eN p)) ∧ (entL ps)[i * 3 + 2]? = some (.int .i64 (numV p.2 : Nat))
  | [], i, p, h => by simp at h
  | q :: ps, 0, p, h => by
    obtain rfl : q = p := by simpa using h
    exact ⟨rfl, rfl, rfl⟩
  | q :: ps, i + 1, p, h => by
    have := entL_get (ps := ps) (i := i) (by simpa using h)
    rw [show (i + 1) * 3 = i * 3 + 1 + 1 + 1 by omega]
    simpa [entL] using this
theorem entL_takeN : ∀ (ps : List KV) (k : Nat), entL (ps.take k) = (entL ps).take (k * 3)
  | [], k => by simp [entL]
  | p :: ps, 0 => by simp [entL]
  | p :: ps, k + 1 => by rw [show (k + 1) * 3 = k * 3 + 1 + 1 + 1 by omega]; simp [entL, entL_takeN ps k]
theorem entL_dropN : ∀ (ps : List KV) (k : Nat), entL (ps.drop k) = (entL ps).drop (k * 3)
  | [], k => by simp [entL]
  | p :: ps, 0 => by simp
  | p :: ps, k + 1 => by rw [show (k + 1) * 3 = k * 3 + 1 + 1 + 1 by omega]; simp [entL, entL_dropN ps k]
theorem eD_ekey {d : Int} (h : dirN d) (A : Str) (v : Str) : eD (ekey d A, v) = d := by
  unfold eD
  have : ((ekey d A).drop 1).take 3 = be3i d := by simp [ekey, be3i]
  rw [this]
  exact foldN_be3 (by have := h.1; omega) h.2
theorem eN_ekey (d : Int) (A : Str) (v : Str) : eN (ekey d A, v) = A := rfl
theorem u8_lt {a b : Nat} (ha : a < 256) (hb : b < 256) : UInt8.ofNat a < UInt8.ofNat b ↔ a < b := by
  rw [UInt8.lt_iff_toNat_lt, UInt8.toNat_ofNat', UInt8.toNat_ofNat', Nat.mod_eq_of_lt ha, Nat.mod_eq_of_lt hb]
theorem u8_eq {a b : Nat} (ha : a < 256) (hb : b < 256) : UInt8.ofNat a = UInt8.ofNat b ↔ a = b := by
  constructor
  · intro h; have := ofNat_mod h; omega
  · intro h; rw [h]
theorem u8_mod (a : Nat) : UInt8.ofNat a = UInt8.ofNat (a % 256) := UInt8.toNat.inj (by simp)
theorem ekey_lts {a b : Int} (ha : dirN a) (hb : dirN b) (A B : Str) : lts (ekey a A) (ekey b B) ↔ a < b ∨ a = b ∧ lts A B := by
  obtain ⟨n, rfl⟩ := Int.eq_ofNat_of_zero_le (show 0 ≤ a by have := ha.1; omega)
  obtain ⟨m, rfl⟩ := Int.eq_ofNat_of_zero_le (show 0 ≤ b by have := hb.1; omega)
  have hn : n ≤ 16777215 := by have := ha.2; omega
  have hm : m ≤ 16777215 := by have := hb.2; omega
  unfold ekey
  rw [be3i_nat hn, be3i_nat hm]
  unfold be3
  rw [u8_mod (n / 256), u8_mod (m / 256), u8_mod n, u8_mod m]
  simp only [List.cons_append, List.nil_append, lts_cons]
  rw [u8_lt (by omega) (by omega), u8_eq (by omega) (by omega), u8_lt (by omega) (by omega), u8_eq (by omega) (by omega), u8_lt (by omega) (by omega), u8_eq (by omega) (by omega)]
  have h0 : ¬ ((100 : UInt8) < 100) := UInt8.lt_irrefl _
  constructor
  · rintro (h | ⟨_, h⟩)
    · exact absurd h h0
    · rcases h with h | ⟨e1, h | ⟨e2, h | ⟨e3, h⟩⟩⟩
      · left; omega
      · left; omega
      · left; omega
      · right; exact ⟨by omega, h⟩
  · rintro (h | ⟨e, h⟩)
    · refine .inr ⟨trivial, ?_⟩
      by_cases e1 : n / 65536 = m / 65536
      · refine .inr ⟨e1, ?_⟩
        by_cases e2 : n / 256 % 256 = m / 256 % 256
        · refine .inr ⟨e2, .inl (by omega)⟩
        · exact .inl (by omega)
      · exact .inl (by omega)
    · obtain rfl : n = m := by omega
      exact .inr ⟨trivial, .inr ⟨rfl, .inr ⟨rfl, .inr ⟨rfl, h⟩⟩⟩⟩
theorem ent_before {M : List KV} (hm : DirM M) {d : Int} (hd : dirN d) {x : KV} (hx : x ∈ M) (A : Str) : lts x.1 (ekey d A) ↔ eD x < d ∨ eD x = d ∧ lts (eN x) A := by
  obtain ⟨n, i, B, h1, h2, h3, h4⟩ := hm x hx
  obtain rfl : x = (ekey n B, be3i i) := by rw [← h2, ← h4]
  rw [eD_ekey (dirOk_n h1), eN_ekey]
  exact ekey_lts (dirOk_n h1) hd B A
theorem ent_is {M : List KV} (hm : DirM M) {d : Int} (hd : dirN d) {x : KV} (hx : x ∈ M) (A : Str) : x.1 = ekey d A ↔ eD x = d ∧ eN x = A := by
  obtain ⟨n, i, B, h1, h2, h3, h4⟩ := hm x hx
  obtain rfl : x = (ekey n B, be3i i) := by rw [← h2, ← h4]
  rw [eD_ekey (dirOk_n h1), eN_ekey]
  constructor
  · intro h
    have hn : n = d := dpre_inj (dirOk_n h1) hd (by
      have := congrArg (List.take 4) h
      simpa [ekey_pre, dpre, be3i] using this)
    subst hn
    exact ⟨rfl, ekey_inj h⟩
  · rintro ⟨rfl, rfl⟩; rfl
theorem dirOk_parts (dir : Int) (name : Str) : dirOk dir name = (numIn dir 1 16777215 && (nameOk name && (!decide (name = [46]) && !decide (name = [46, 46])))) := by
  unfold dirOk entOk
  rw [Bool.and_assoc]
section
variable {w w' : World}
def MayOut (d : Int) (A : Str) (w : World) (e : Ending) (w' : World) : Prop := e = .returned (.bool (dirOk d A)) ∧ w' = w
theorem may_ok (d : Int) (A : Str) (hA : A.length ≤ 140737488351232) (w : World) : Calls Tryz.prog 53 #[.int .i64 d, .string ⟨A.toArray⟩] w (MayOut d A w) := by
  have hR := rname14_ok A hA w
  have hN := number12_ok (w := w) d
  unfold Rn14Out at hR
  unfold MayOut
  rw [dirOk_parts]
  obtain ⟨r, hr⟩ : ∃ r, r = (nameOk A && (!decide (A = [46]) && !decide (A = [46, 46]))) := ⟨_, rfl⟩
  rw [← hr] at hR ⊢
  have hq : numIn d 1 16777215 = decide (numOk d) := rfl
  rw [hq]
  obtain ⟨q, hq2⟩ : ∃ q, q = decide (numOk d) := ⟨_, rfl⟩
  rw [← hq2] at hN ⊢
  have HR := Lib.hid hR
  have HN := Lib.hid hN
  clear hR hN hr hq hq2 hA
  cases q with
  | false =>
    go_enter Tryz.func53, Tryz.ntmps53
    go_wp2_with fail
    refine HN.out.mono ?_
    rintro e w1 ⟨rfl, rfl⟩
    go_wp2_with fail
    go_ret
    exact ⟨rfl, rfl⟩
  | true =>
    go_enter Tryz.func53, Tryz.ntmps53
    go_wp2_with fail
    refine HN.out.mono ?_
    rintro e w1 ⟨rfl, rfl⟩
    go_wp2_with fail
    refine HR.out.mono ?_
    rintro e w1 ⟨rfl, rfl⟩
    go_wp2_with fail
    go_ret
    exact ⟨rfl, rfl⟩
end
end Go.Proofs.YtklfkocebhhgcaaGreat
namespace Go.Proofs.YtklfkocebhhgcaaGreat
open Go.RowKit Go.Proofs Go.Shelf
set_option maxRecDepth 20000
attribute [local go_sem] Oper.semAt_some
structure RefD (w : World) (G : Nat → Prop) (x : Nat) (M : List KV) : Prop where
  lt : ∀ k, G k → k < w.heap.size
  in_ : G x
  cells : ∃ lv, Blk w x 29 #[lv] ∧ Own w (fun g => G g ∧ g ≠ x) 108 3 lv M.length (entL M)
section
variable {w w' : World} {F G : Nat → Prop} {x : Nat} {M : List KV}
theorem RefD.quit (h : RefD w G x M) (ho : Only NoB w w') : RefD w' G x M := by
  obtain ⟨lv, hb, hown⟩ := h.cells
  exact ⟨fun k hk => Nat.lt_of_lt_of_le (h.lt k hk) ho.size, h.in_, lv, hb.only ho id, hown.only ho fun _ _ => id⟩
def PlcOut (M : List KV) (key : Str) (w : World) (e : Ending) (w' : World) : Prop := ∃ (i : Nat) (is : Bool), PlaceP M key i is ∧ e = .returned (.tuple #[.int .i64 (i : Nat), .bool is]) ∧ Only NoB w w'
theorem cut_of {key : Str} (hs : Srt M) {k : Nat} (hk : k ≤ M.length) (hlo : ∀ j (h : j < M.length), j < k → lts M[j].1 key) (hhi : ∀ h : k < M.length, ¬ lts M[k].1 key) : Cut (M.map (·.1)) key k where
  le := by rw [List.length_map]; exact hk
  lo := fun j h hj => by
    rw [List.getElem_map]
    exact hlo j (by simpa using h) hj
  hi := fun j h hj => by
    rw [List.length_map] at h
    rw [List.getElem_map]
    intro hlt
    rcases Nat.lt_or_eq_of_le hj with h1 | h1
    · exact hhi (Nat.lt_trans h1 h) (lts_trans (List.pairwise_iff_getElem.1 hs k j (Nat.lt_trans h1 h) h h1) hlt)
    · subst h1; exact hhi h hlt
set_option maxHeartbeats 4000000 in
theorem rplace_ok {d : Int} (h : RefD w G x M) (hm : DirM M) (hs : Srt M) (hd : dirN d) (A : Str) (hl : M.length ≤ 1000) :
    Calls Tryz.prog 54 #[.pointer (some ⟨x, 0, none⟩), .int .i64 d, .string ⟨A.toArray⟩] w (PlcOut M (ekey d A) w) := by
  obtain ⟨_, _, lv, hb, hown⟩ := h
  have hr := hown.rd
  obtain ⟨lA, lc, rfl, _⟩ := hown.shape
  have c0 := hb.cell 0
  have c0d : w.drew.cell? ⟨x, 0, none⟩ = some (.slice lA M.length lc) := (Only.refl NoB w).drew.cell c0 id
  have HB := Lib.hid hb
  have HR := Lib.hid hr
  have HE : Hid (∀ k (hk : k < M.length), (lts M[k].1 (ekey d A) ↔ eD M[k] < d ∨ eD M[k] = d ∧ lts (eN M[k]) A) ∧ (M[k].1 = ekey d A ↔ eD M[k] = d ∧ eN M[k] = A)) := Lib.hid fun k hk => ⟨ent_before hm hd (List.getElem_mem hk) A, ent_is hm hd (List.getElem_mem hk) A⟩
  have HPL : Hid (∀ k, k ≤ M.length → (∀ j (h : j < M.length), j < k → lts M[j].1 (ekey d A)) → (∀ h : k < M.length, ¬ lts M[k].1 (ekey d A)) → PlaceP M (ekey d A) k (decide ((M.map (·.1))[k]? = some (ekey d A)))) := Lib.hid fun k hk h1 h2 => (cut_of hs hk h1 h2).placeP hs
  clear hb hown hr hm hs hd
  go_enter Tryz.func54, Tryz.ntmps54
  go_wp2_with fail
  go_loop [8] (fun i => ∃ k : Nat, k ≤ M.length ∧ i = .int .i64 k ∧ Hid (∀ j (h : j < M.length), j < k → lts M[j].1 (ekey d A))) (fun i => M.length - (intOf i).toNat)
  case atStart => exact ⟨0, Nat.zero_le _, rfl, Lib.hid fun _ _ h => absurd h (Nat.not_lt_zero _)⟩
  case round =>
    obtain ⟨k, hk, rfl, HI⟩ := hrel
    by_cases hlt : k < M.length
    · obtain ⟨g, off, c', hve, _, _, hcell⟩ := HR.out.open_ (by omega)
      injection hve with q1 q2 q3
      subst q1; subst q3
      obtain ⟨p1, p2, _⟩ := entL_get (List.getElem?_eq_getElem hlt)
      have u1 := hcell _ _ p1
      have u2 := hcell _ _ p2
      rw [← Nat.add_assoc] at u2
      obtain ⟨he1, he2⟩ := HE.out k hlt
      have hnext : lts M[k].1 (ekey d A) → ∀ j (h : j < M.length), j < k + 1 → lts M[j].1 (ekey d A) := fun h0 j hj hjk => by
        by_cases e : j = k
        · subst e; exact h0
        · exact HI.out j hj (by omega)
      have hend : ¬ lts M[k].1 (ekey d A) → PlaceP M (ekey d A) k (decide (M[k].1 = ekey d A)) := fun h0 => by
        have := HPL.out k hk HI.out fun _ => h0
        rw [List.getElem?_map, List.getElem?_eq_getElem hlt] at this
        simpa using this
      obtain ⟨de, hde⟩ : ∃ de, de = eD M[k] := ⟨_, rfl⟩
      obtain ⟨ne, hne⟩ : ∃ ne, ne = eN M[k] := ⟨_, rfl⟩
      rw [← hde] at u1 he1 he2
      rw [← hne] at u2 he1 he2
      unfold strV at u2
      have u1d : w.drew.cell? ⟨g, off + k * 3, none⟩ = some (.int .i64 de) := (Only.refl NoB w).drew.cell u1 id
      have u2d : w.drew.cell? ⟨g, off + k * 3 + 1, none⟩ = some (.string ⟨ne.toArray⟩) := (Only.refl NoB w).drew.cell u2 id
      have hk1 : (k : Int) < (M.length : Int) := by omega
      have hk0 : (0 : Int) ≤ (k : Int) := by omega
      have HNX := Lib.hid hnext
      have HEN := Lib.hid hend
      have H1 := Lib.hid he1
      have H2 := Lib.hid he2
      clear hcell p1 p2 hnext hend hde hne he1 he2 q2
      by_cases a1 : de < d
      · have HN1 := Lib.hid (HNX.out (H1.out.2 (.inl a1)))
        go_wp2_with fail
        exact ⟨⟨k + 1, by omega, by go_num, HN1⟩, by simp [intOf]; omega⟩
      · by_cases a2 : de = d
        · have a2b : (de == d) = true := by simpa using a2
          by_cases a3 : Go.Op.bytesLess ne A = true
          · have HN1 := Lib.hid (HNX.out (H1.out.2 (.inr ⟨a2, a3⟩)))
            go_wp2_with fail
            exact ⟨⟨k + 1, by omega, by go_num, HN1⟩, by simp [intOf]; omega⟩
          · have a3f : Go.Op.bytesLess ne A = false := by simpa using a3
            have HP := Lib.hid (HEN.out fun h => by
              rcases H1.out.1 h with h | ⟨_, h⟩
              · exact a1 h
              · exact a3 h)
            by_cases a4 : ne = A
            · have HP : Hid (PlaceP M (ekey d A) k true) := Lib.hid (by have := HP.out; rwa [decide_eq_true (H2.out.2 ⟨a2, a4⟩)] at this)
              have a4b : (ne == A) = true := by simpa using a4
              clear a3 a4
              go_upto_region 4 with fail
              refine hB _ 34 (fun w' => w'.cell? ⟨x, 0, none⟩ = some (.slice (some ⟨g, off, none⟩) M.length lc) ∧ w'.cell? ⟨g, off + k * 3, none⟩ = some (.int .i64 de) ∧ w'.cell? ⟨g, off + k * 3 + 1, none⟩ = some (.string ⟨ne.toArray⟩)) (⟨c0d, u1d, u2d⟩) (fun hHeld => ?_)
              refine hT 0 54 ?_
              refine hT 1 55 ?_
              refine hT 2 56 ?_
              refine hT 3 57 ?_
              refine hT 4 58 ?_
              refine hT 5 59 ?_
              refine hT 6 60 ?_
              refine hV 7 61 (.bool true) ?_
              refine hT 8 62 ?_
              refine hT 9 63 ?_
              refine hT 10 64 ?_
              refine hT 11 65 ?_
              refine hT 12 66 ?_
              refine hT 13 67 ?_
              refine hT 14 68 ?_
              refine hT 15 69 ?_
              refine hT 16 70 ?_
              refine hT 17 71 ?_
              refine hV 18 72 (.bool true) ?_
              refine hT 19 73 ?_
              refine hT 20 74 ?_
              refine hT 21 75 ?_
              refine hT 22 76 ?_
              refine hT 23 77 ?_
              refine hT 24 78 ?_
              refine hT 25 79 ?_
              refine hT 26 80 ?_
              refine hT 27 81 ?_
              refine hT 28 82 ?_
              refine hT 29 83 ?_
              refine hV 30 84 (.bool true) ?_
              refine hT 31 85 ?_
              refine hT 32 6 ?_
              refine hT 33 7 ?_
              refine wpAnyH_done (by kernel_rfl) ?_ _
              refine NoPanic.normal ?_
              go_wp2_with fail
              go_ret2
              exact ⟨k, true, HP.out, rfl, (Only.refl NoB w).drew⟩
            · have HP : Hid (PlaceP M (ekey d A) k false) := Lib.hid (by have := HP.out; rwa [decide_eq_false fun h => a4 (H2.out.1 h).2] at this)
              have a4b : (ne == A) = false := by simpa using a4
              clear a3 a4
              go_upto_region 4 with fail
              refine hB _ 34 (fun w' => w'.cell? ⟨x, 0, none⟩ = some (.slice (some ⟨g, off, none⟩) M.length lc) ∧ w'.cell? ⟨g, off + k * 3, none⟩ = some (.int .i64 de) ∧ w'.cell? ⟨g, off + k * 3 + 1, none⟩ = some (.string ⟨ne.toArray⟩)) (⟨c0d, u1d, u2d⟩) (fun hHeld => ?_)
              refine hT 0 54 ?_
              refine hT 1 55 ?_
              refine hT 2 56 ?_
              refine hT 3 57 ?_
              refine hT 4 58 ?_
              refine hT 5 59 ?_
              refine hT 6 60 ?_
              refine hV 7 61 (.bool true) ?_
              refine hT 8 62 ?_
              refine hT 9 63 ?_
              refine hT 10 64 ?_
              refine hT 11 65 ?_
              refine hT 12 66 ?_
              refine hT 13 67 ?_
              refine hT 14 68 ?_
              refine hT 15 69 ?_
              refine hT 16 70 ?_
              refine hT 17 71 ?_
              refine hV 18 72 (.bool true) ?_
              refine hT 19 73 ?_
              refine hT 20 74 ?_
              refine hT 21 75 ?_
              refine hT 22 76 ?_
              refine hT 23 77 ?_
              refine hT 24 78 ?_
              refine hT 25 79 ?_
              refine hT 26 80 ?_
              refine hT 27 81 ?_
              refine hT 28 82 ?_
              refine hT 29 83 ?_
              refine hV 30 84 (.bool false) ?_
              refine hT 31 85 ?_
              refine hT 32 6 ?_
              refine hT 33 7 ?_
              refine wpAnyH_done (by kernel_rfl) ?_ _
              refine NoPanic.normal ?_
              go_wp2_with fail
              go_ret2
              exact ⟨k, false, HP.out, rfl, (Only.refl NoB w).drew⟩
        · have a2b : (de == d) = false := by simpa using a2
          have HP : Hid (PlaceP M (ekey d A) k false) := Lib.hid (by
            have := HEN.out fun h => by
              rcases H1.out.1 h with h | ⟨h, _⟩
              · exact a1 h
              · exact a2 h
            rwa [decide_eq_false fun h => a2 (H2.out.1 h).1] at this)
          go_upto_region 4 with fail
          refine hB _ 34 (fun w' => w'.cell? ⟨x, 0, none⟩ = some (.slice (some ⟨g, off, none⟩) M.length lc) ∧ w'.cell? ⟨g, off + k * 3, none⟩ = some (.int .i64 de) ∧ w'.cell? ⟨g, off + k * 3 + 1, none⟩ = some (.string ⟨ne.toArray⟩)) (⟨c0d, u1d, u2d⟩) (fun hHeld => ?_)
          refine hT 0 54 ?_
          refine hT 1 55 ?_
          refine hT 2 56 ?_
          refine hT 3 57 ?_
          refine hT 4 58 ?_
          refine hT 5 59 ?_
          refine hT 6 60 ?_
          refine hV 7 61 (.bool true) ?_
          refine hT 8 62 ?_
          refine hT 9 63 ?_
          refine hT 10 64 ?_
          refine hT 11 65 ?_
          refine hT 12 66 ?_
          refine hT 13 67 ?_
          refine hT 14 68 ?_
          refine hT 15 69 ?_
          refine hT 16 70 ?_
          refine hT 17 71 ?_
          refine hV 18 72 (.bool false) ?_
          refine hT 19 73 ?_
          refine hT 20 74 ?_
          refine hK 21 75 ?_
          refine hK 22 76 ?_
          refine hK 23 77 ?_
          refine hK 24 78 ?_
          refine hK 25 79 ?_
          refine hK 26 80 ?_
          refine hK 27 81 ?_
          refine hK 28 82 ?_
          refine hK 29 83 ?_
          refine hK 30 84 ?_
          refine hT 31 85 ?_
          refine hT 32 6 ?_
          refine hT 33 7 ?_
          refine wpAnyH_done (by kernel_rfl) ?_ _
          refine NoPanic.normal ?_
          go_wp2_with fail
          go_ret2
          exact ⟨k, false, HP.out, rfl, (Only.refl NoB w).drew⟩
    · obtain rfl : k = M.length := by omega
      have HP : Hid (PlaceP M (ekey d A) M.length false) := Lib.hid (by
        have := HPL.out M.length (Nat.le_refl _) HI.out fun h => absurd h (Nat.lt_irrefl _)
        rwa [List.getElem?_eq_none (by simp), decide_eq_false (by simp)] at this)
      clear hlt
      go_upto_region 4 with fail
      refine hB _ 34 (fun w' => w'.cell? ⟨x, 0, none⟩ = some (.slice lA M.length lc)) (c0d) (fun hHeld => ?_)
      refine hT 0 54 ?_
      refine hT 1 55 ?_
      refine hT 2 56 ?_
      refine hT 3 57 ?_
      refine hT 4 58 ?_
      refine hT 5 59 ?_
      refine hT 6 60 ?_
      refine hV 7 61 (.bool false) ?_
      refine hT 8 62 ?_
      refine hK 9 63 ?_
      refine hK 10 64 ?_
      refine hK 11 65 ?_
      refine hK 12 66 ?_
      refine hK 13 67 ?_
      refine hK 14 68 ?_
      refine hK 15 69 ?_
      refine hK 16 70 ?_
      refine hK 17 71 ?_
      refine hK 18 72 ?_
      refine hT 19 73 ?_
      refine hT 20 74 ?_
      refine hK 21 75 ?_
      refine hK 22 76 ?_
      refine hK 23 77 ?_
      refine hK 24 78 ?_
      refine hK 25 79 ?_
      refine hK 26 80 ?_
      refine hK 27 81 ?_
      refine hK 28 82 ?_
      refine hK 29 83 ?_
      refine hK 30 84 ?_
      refine hT 31 85 ?_
      refine hT 32 6 ?_
      refine hT 33 7 ?_
      refine wpAnyH_done (by kernel_rfl) ?_ _
      refine NoPanic.normal ?_
      go_wp2_with fail
      go_ret2
      exact ⟨M.length, false, HP.out, rfl, (Only.refl NoB w).drew⟩
end
end Go.Proofs.YtklfkocebhhgcaaGreat
namespace Go.Proofs.YtklfkocebhhgcaaGreat
open Go.RowKit Go.Proofs Go.Shelf
set_option maxRecDepth 20000
attribute [local go_sem] Oper.semAt_some
section
variable {w w' : World} {F G : Nat → Prop} {x : Nat} {M : List KV}
theorem dirM_num (hm : DirM M) {k v : Str} (h : get k M = some v) : numV v ≠ 0 := by
  obtain ⟨n, i, B, _, _, h3, h4⟩ := hm _ (get_some h)
  have h4 : v = be3i i := h4
  rw [h4]; exact numV_ne h3
def RfOut (M : List KV) (d : Int) (A : Str) (w : World) (e : Ending) (w' : World) : Prop := e = .returned (findA (findI M d A)) ∧ Only NoB w w'
set_option maxHeartbeats 2000000 in
theorem rfind_ok (d : Int) (A : Str) (h : RefD w G x M) (hm : DirM M) (hs : Srt M) (hA : A.length ≤ 140737488351232) (hl : M.length ≤ 1000) :
    Calls Tryz.prog 15 #[.pointer (some ⟨x, 0, none⟩), .int .i64 d, .string ⟨A.toArray⟩] w (RfOut M d A w) := by
  have hMa := may_ok d A hA w
  unfold MayOut at hMa
  by_cases hd : dirOk d A = true
  · rw [hd] at hMa
    have HMA := Lib.hid hMa
    have HPL := Lib.hid (rplace_ok h hm hs (dirOk_n hd) A hl)
    have H := Lib.hid h
    have HD := Lib.hid hd
    have HDM := Lib.hid hm
    clear hMa hm hs h hd
    go_enter Tryz.func15, Tryz.ntmps15
    go_wp2_with fail
    refine HMA.out.mono ?_
    rintro e w1 ⟨rfl, rfl⟩
    go_wp2_with fail
    refine HPL.out.mono ?_
    rintro e w2 ⟨i, is, hp, rfl, ho⟩
    cases is with
    | false =>
      have HR : Hid (RfOut M d A w1 (.returned (.tuple #[.int .i64 (0 : Nat), .int .i64 (5 : Nat)])) w2) := Lib.hid ⟨by rw [find_none HD.out (placeP_no hp)]; rfl, ho⟩
      clear hp ho
      go_wp2_with fail
      go_ret2
      exact HR.out
    | true =>
      obtain ⟨v, hv1, hv2⟩ := placeP_at hp
      have hi : i < M.length := (List.getElem?_eq_some_iff.1 hv1).1
      have hnz := dirM_num HDM.out hv2
      have hf : findI M d A = (numV v, 0) := by
        unfold findI
        rw [HD.out, hv2]
        simp only [if_true]
        rw [if_neg hnz]
      have h2 := H.out.quit ho
      obtain ⟨_, _, lv, hb, hown⟩ := h2
      obtain ⟨g, off, c', rfl, _, _, hcell⟩ := hown.rd.open_ (by omega)
      obtain ⟨_, _, p3⟩ := entL_get hv1
      have u3 := hcell _ _ p3
      rw [← Nat.add_assoc] at u3
      have c0 := hb.cell 0
      have HR : Hid (RfOut M d A w1 (.returned (.tuple #[.int .i64 (numV v : Nat), .int .i64 (0 : Nat)])) w2) := Lib.hid ⟨by rw [hf]; rfl, ho⟩
      have hi1 : (i : Int) < (M.length : Int) := by omega
      clear hp ho hv1 hv2 hnz hf hown hcell p3 hb
      go_wp2_with fail
      go_ret2
      exact HR.out
  · have hd : dirOk d A = false := by simpa using hd
    have hf : findI M d A = (0, 1) := by rw [findI, hd]; rfl
    unfold RfOut
    rw [hf]
    rw [hd] at hMa
    have HMA := Lib.hid hMa
    clear hMa hd hf hm hs h hl
    show Calls _ _ _ _ (fun e w' => e = .returned (.tuple #[.int .i64 (0 : Nat), .int .i64 (1 : Nat)]) ∧ _)
    go_enter Tryz.func15, Tryz.ntmps15
    go_wp2_with fail
    refine HMA.out.mono ?_
    rintro e w1 ⟨rfl, rfl⟩
    go_wp2_with fail
    go_ret2
    exact ⟨rfl, Only.refl _ _⟩
end
end Go.Proofs.YtklfkocebhhgcaaGreat
namespace Go.Proofs.YtklfkocebhhgcaaGreat
open Go.RowKit Go.Proofs Go.Shelf
set_option maxRecDepth 20000
attribute [local go_sem] Oper.semAt_some
section
variable {w w' : World} {F G : Nat → Prop} {x : Nat} {M : List KV}
theorem rd_take {size n k c : Nat} {A : Option Addr} {xs : List Value} (h : Rd w F size (.slice A n c) n xs) (hk : k ≤ n) : Rd w F size (.slice A k c) k (xs.take (k * size)) := by
  obtain ⟨A', c', hv, hc, hl, hx⟩ := h
  injection hv with q1 _ q3
  subst q1; subst q3
  have hm : k * size ≤ n * size := Nat.mul_le_mul_right _ hk
  refine ⟨A, c, rfl, by omega, by rw [List.length_take]; omega, fun h0 => ?_⟩
  obtain ⟨a, h1, h2, h3⟩ := hx (by omega)
  refine ⟨a, h1, h2, fun j u hj => h3 j u ?_⟩
  have : j < k * size := by have := (List.getElem?_eq_some_iff.1 hj).1; rw [List.length_take] at this; omega
  rwa [List.getElem?_take_of_lt this] at hj
theorem rd_drop {size n k c g off : Nat} {xs : List Value} (h : Rd w F size (.slice (some ⟨g, off, none⟩) n c) n xs) (hk : k ≤ n) : Rd w F size (.slice (some ⟨g, off + k * size, none⟩) (n - k) (c - k)) (n - k) (xs.drop (k * size)) := by
  obtain ⟨A', c', hv, hc, hl, hx⟩ := h
  injection hv with q1 _ q3
  subst q1; subst q3
  have hm : k * size ≤ n * size := Nat.mul_le_mul_right _ hk
  refine ⟨_, _, rfl, by omega, by rw [List.length_drop, hl, Nat.sub_mul], fun h0 => ?_⟩
  rw [Nat.sub_mul] at h0
  obtain ⟨a, h1, h2, h3⟩ := hx (by omega)
  injection h1 with h1
  subst h1
  refine ⟨_, rfl, h2, fun j u hj => ?_⟩
  rw [List.getElem?_drop] at hj
  have := h3 _ u hj
  rw [Addr.add_lit] at this ⊢
  rw [Nat.add_assoc]
  exact this
theorem RefD.put {w0 : World} {M' : List KV} {v : Value} (h : RefD w0 G x M) (ho : Only NoB w0 w) (hown : Own w (From w0.heap.size) 108 3 v M'.length (entL M')) :
    ∃ G', RefD (w.setCell ⟨x, 0, none⟩ v) G' x M' ∧ Only G w0 (w.setCell ⟨x, 0, none⟩ v) ∧ Grows G G' w0 := by
  obtain ⟨lv, hb, _⟩ := h.cells
  have hb2 := hb.only ho id
  have hx := h.lt x h.in_
  have hv : ∀ k, v.ownBlock = some k → k ≠ x := fun k hk => by
    have : w0.heap.size ≤ k := hown.2 k hk
    omega
  refine ⟨fun k => G k ∨ (w0.heap.size ≤ k ∧ k < w.heap.size), ⟨fun k hk => ?_, .inl h.in_, v, hb2.set_ 0 v, ?_⟩, (ho.mono fun _ _ h => h.elim).setCell (.inl h.in_) _, fun k hk => hk.imp id (·.1)⟩
  · rw [World.size_setCell]
    rcases hk with hk | hk
    · exact Nat.lt_of_lt_of_le (h.lt k hk) ho.size
    · exact hk.2
  · have h1 := hown.keep (w' := w.setCell ⟨x, 0, none⟩ v) fun k hk => Below.heap_setCell w _ _ k (hv k hk)
    refine h1.mono fun k hk hlt => ?_
    rw [World.size_setCell] at hlt
    have hk : w0.heap.size ≤ k := hk
    exact ⟨.inr ⟨hk, hlt⟩, by omega⟩
end
end Go.Proofs.YtklfkocebhhgcaaGreat
namespace Go.Proofs.YtklfkocebhhgcaaGreat
open Go.RowKit Go.Proofs Go.Shelf
set_option maxRecDepth 20000
attribute [local go_sem] Oper.semAt_some
section
variable {w w' : World} {F G : Nat → Prop} {x : Nat} {M : List KV}
theorem Ty.entry : Elt Tryz.prog 108 (.agg #[.int .i64 0, .string ⟨#[]⟩, .int .i64 0]) 3 32 := ⟨by kernel_rfl, rfl, by omega, by omega⟩
def RefDO (w : World) (G : Nat → Prop) (x : Nat) (v : Value) (M' : List KV) (e : Ending) (w' : World) : Prop := e = .returned v ∧ ∃ G', RefD w' G' x M' ∧ Only G w w' ∧ Grows G G' w
theorem RefDO.stay {v : Value} (h : RefD w G x M) (ho : Only NoB w w') : RefDO w G x v M (.returned v) w' := ⟨rfl, G, h.quit ho, ho.mono fun _ _ h => h.elim, Grows.refl G w⟩
theorem RefDO.from_ {v : Value} {M' : List KV} {e : Ending} {w1 : World} (ho : Only NoB w w1) (h : RefDO w1 G x v M' e w') : RefDO w G x v M' e w' := by
  obtain ⟨he, G', h1, h2, h3⟩ := h
  exact ⟨he, G', h1, (ho.mono fun _ _ h => h.elim).trans h2, fun k hk => (h3 k hk).imp id fun h => Nat.le_trans ho.size h⟩
theorem radd_stay (d n : Int) (A : Str) (h : RefD w G x M) (hm : DirM M) (hs : Srt M) (hA : A.length ≤ 140737488351232) (hl : M.length ≤ 1000) (h0 : addE M d A n ≠ 0) :
    Calls Tryz.prog 13 #[.pointer (some ⟨x, 0, none⟩), .int .i64 d, .string ⟨A.toArray⟩, .int .i64 n] w (RefDO w G x (.int .i64 (addE M d A n : Nat)) M) := by
  have hMa := may_ok d A hA w
  unfold MayOut at hMa
  by_cases hd : dirOk d A = true
  · rw [hd] at hMa
    have HMA := Lib.hid hMa
    by_cases hn : numOk n
    · have hN := number12_ok (w := w) n
      rw [decide_eq_true hn] at hN
      have HN := Lib.hid hN
      have HPL := Lib.hid (rplace_ok h hm hs (dirOk_n hd) A hl)
      have hae : addE M d A n = (if (get (ekey d A) M).isSome then 151 else 0) := by rw [addE, if_pos ⟨hd, hn⟩]
      have H := Lib.hid h
      have H0 := Lib.hid h0
      have HAE := Lib.hid hae
      clear hMa hm hs h hd hN hn h0 hae
      go_enter Tryz.func13, Tryz.ntmps13
      go_wp2_with fail
      refine HMA.out.mono ?_
      rintro e w1 ⟨rfl, rfl⟩
      go_wp2_with fail
      refine HN.out.mono ?_
      rintro e w1 ⟨rfl, rfl⟩
      go_wp2_with fail
      refine HPL.out.mono ?_
      rintro e w2 ⟨i, is, hp, rfl, ho⟩
      have hg := placeP_get hp
      cases is with
      | false =>
        exfalso
        have := HAE.out
        rw [hg] at this
        exact H0.out this
      | true =>
        have he : addE M d A n = 151 := by rw [HAE.out, hg]; rfl
        have HR : Hid (RefDO _ G x (.int .i64 (addE M d A n : Nat)) M (.returned (.int .i64 (151 : Nat))) w2) := Lib.hid (by rw [he]; exact RefDO.stay H.out ho)
        clear hp ho hg he
        go_wp2_with fail
        go_ret
        exact HR.out
    · have hN := number12_ok (w := w) n
      rw [decide_eq_false hn] at hN
      have HN := Lib.hid hN
      have hae : addE M d A n = 1 := by rw [addE, if_neg fun h => hn h.2]
      rw [hae]
      have H := Lib.hid h
      clear hMa hm hs h hd hN hn h0 hae
      go_enter Tryz.func13, Tryz.ntmps13
      go_wp2_with fail
      refine HMA.out.mono ?_
      rintro e w1 ⟨rfl, rfl⟩
      go_wp2_with fail
      refine HN.out.mono ?_
      rintro e w1 ⟨rfl, rfl⟩
      have HR := Lib.hid (RefDO.stay (v := .int .i64 (1 : Nat)) H.out (Only.refl NoB _))
      go_wp2_with fail
      go_ret
      exact HR.out
  · have hd : dirOk d A = false := by simpa using hd
    have hae : addE M d A n = 1 := by rw [addE, if_neg fun h => by rw [hd] at h; cases h.1]
    rw [hae]
    rw [hd] at hMa
    have HMA := Lib.hid hMa
    have H := Lib.hid h
    clear hMa hm hs h hd h0 hae
    go_enter Tryz.func13, Tryz.ntmps13
    go_wp2_with fail
    refine HMA.out.mono ?_
    rintro e w1 ⟨rfl, rfl⟩
    have HR := Lib.hid (RefDO.stay (v := .int .i64 (1 : Nat)) H.out (Only.refl NoB _))
    go_wp2_with fail
    go_ret
    exact HR.out
end
end Go.Proofs.YtklfkocebhhgcaaGreat
namespace Go.Proofs.YtklfkocebhhgcaaGreat
open Go.RowKit Go.Proofs Go.Shelf
set_option maxRecDepth 20000
attribute [local go_sem] Oper.semAt_some
section
variable {w w' : World} {F G : Nat → Prop} {x : Nat} {M : List KV}
theorem entL_one : ∀ (M : List KV), ∀ u ∈ entL M, u.oneCell' = true
  | [], u, hu => by cases hu
  | p :: ps, u, hu => by
    rcases List.mem_cons.1 hu with rfl | hu
    · rfl
    rcases List.mem_cons.1 hu with rfl | hu
    · rfl
    rcases List.mem_cons.1 hu with rfl | hu
    · rfl
    exact entL_one ps u hu
theorem entL_new {d n : Int} (hd : dirN d) (hn : dirN n) (A : Str) : entL [(ekey d A, be3i n)] = [.int .i64 d, .string ⟨A.toArray⟩, .int .i64 n] := by
  show [Value.int .i64 (eD (ekey d A, be3i n)), strV (eN (ekey d A, be3i n)), Value.int .i64 (numV (be3i n) : Nat)] = _
  rw [eD_ekey hd, eN_ekey, numV_be3 hn]; rfl
set_option maxHeartbeats 4000000 in
theorem radd_new (d n : Int) (A : Str) (h : RefD w G x M) (hm : DirM M) (hs : Srt M) (hA : A.length ≤ 140737488351232) (hl : M.length ≤ 1000) (h0 : addE M d A n = 0) :
    Calls Tryz.prog 13 #[.pointer (some ⟨x, 0, none⟩), .int .i64 d, .string ⟨A.toArray⟩, .int .i64 n] w (RefDO w G x (.int .i64 (0 : Nat)) (addM M d A n)) := by
  obtain ⟨hd, hn, hgn⟩ := addE_ok h0
  have hMa := may_ok d A hA w
  unfold MayOut at hMa
  rw [hd] at hMa
  have HMA := Lib.hid hMa
  have hN := number12_ok (w := w) n
  rw [decide_eq_true (show numOk n from hn)] at hN
  have HN := Lib.hid hN
  have HPL := Lib.hid (rplace_ok h hm hs (dirOk_n hd) A hl)
  have H := Lib.hid h
  have HIN : Hid (∀ i is, PlaceP M (ekey d A) i is → is = false ∧ i ≤ M.length ∧ addM M d A n = M.take i ++ (ekey d A, be3i n) :: M.drop i) := Lib.hid fun i is hp => by
    have hg := placeP_get hp
    rw [hgn] at hg
    have hg : is = false := hg.symm
    subst hg
    refine ⟨rfl, ?_, ?_⟩
    · obtain ⟨a, b, he, hl, _⟩ := hp
      rw [he, List.length_append]; omega
    · rw [addM, if_pos h0, ins_place hp]; rfl
  have HEN := Lib.hid (entL_new (dirOk_n hd) hn A)
  have HLN := Lib.hid hl
  clear hMa hm hs h hd hN hn h0 hgn hl
  go_enter Tryz.func13, Tryz.ntmps13
  go_wp2_with fail
  refine HMA.out.mono ?_
  rintro e w1 ⟨rfl, rfl⟩
  go_wp2_with fail
  refine HN.out.mono ?_
  rintro e w1 ⟨rfl, rfl⟩
  go_wp2_with fail
  refine HPL.out.mono ?_
  rintro e w2 ⟨i, is, hp, rfl, ho⟩
  obtain ⟨rfl, hi, hae⟩ := HIN.out i is hp
  have HAEQ := Lib.hid hae
  have h2 := H.out.quit ho
  have H2 := Lib.hid h2
  have HO := Lib.hid ho
  obtain ⟨lv, hb, hown⟩ := h2.cells
  have c0 := hb.cell 0
  have HB := Lib.hid hb
  have hown2 := Lib.hid hown
  have HLE := HLN.out
  rcases hown.1.2 with ⟨rfl, hz⟩ | ⟨g, cap, cur, rfl, _, _, hnc, _⟩
  · have hM0 : M = [] := List.eq_nil_of_length_eq_zero hz
    obtain rfl : i = 0 := by omega
    have hM0 : M = [] := hM0
    have ht : entL (M.take 0) = [] := by simp [entL]
    have hdr : entL (M.drop 0) = [] := by rw [hM0]; rfl
    have HRA : Hid (∀ w', Only NoB w2 w' → Rd w' (fun _ => True) 3 (.slice none 0 0) 0 (entL (M.take 0))) := Lib.hid fun w' _ => by rw [ht]; exact Rd.nil _ _ _
    have HRD : Hid (∀ w', Only NoB w2 w' → Rd w' (fun _ => True) 3 (.slice none 0 0) 0 (entL (M.drop 0))) := Lib.hid fun w' _ => by rw [hdr]; exact Rd.nil _ _ _
    have ONEA := entL_one (M.take 0)
    have ONEB := entL_one (M.drop 0)
    have LENS : (M.take 0 ++ (ekey d A, be3i n) :: M.drop 0).length = 0 + 1 + 0 := by rw [hM0]; rfl
    have ENTS : entL (M.take 0 ++ (ekey d A, be3i n) :: M.drop 0) = entL (M.take 0) ++ [.int .i64 d, .string ⟨A.toArray⟩, .int .i64 n] ++ entL (M.drop 0) := by
      rw [entL_append, show (ekey d A, be3i n) :: M.drop 0 = [(ekey d A, be3i n)] ++ M.drop 0 from rfl, entL_append, HEN.out, List.append_assoc]
    clear hp ho hae h2 hown hb hM0 hz ht hdr
    go_upto_region 8 with (at_builtin; refine wpList_app rfl _ _ _ rfl (by kernel_rfl) Ty.entry rfl rfl (Own.nil w2 (From w2.heap.size) _ _) (HRA.out w2 (Only.refl NoB w2)) ONEA (by omega) ?_; intro v7 w7 ha7; obtain ⟨A7, c7, rfl, _⟩ := id ha7.shape; have HA7 := Lib.hid ha7; clear ha7)
    have hown7 : Own w7 (From w2.heap.size) 108 3 (.slice A7 (0 + 0) c7) (0 + 0) (entL (M.take 0)) := by
      have := HA7.out.own
      rw [List.nil_append] at this
      exact this.mono fun k hk _ => by
        rcases hk with hk | hk
        · exact hk
        · exact Nat.le_of_eq hk.symm
    rw [Nat.zero_add] at hown7
    try rw [Nat.zero_add]
    have ho7 : Only NoB w2 w7 := HA7.out.only.mono fun k _ hk => by cases hk
    have HW8 := Lib.hid (hown7.alloc (.cells #[.int .i64 d, .string ⟨A.toArray⟩, .int .i64 n] 108))
    have HR8 := Lib.hid (rd_new w7 108 3 1 [.int .i64 d, .string ⟨A.toArray⟩, .int .i64 n] rfl)
    have HO7 := Lib.hid ho7
    clear hown7 ho7
    go_upto_region 9 with (at_builtin; refine wpList_app rfl _ _ _ rfl (by kernel_rfl) Ty.entry rfl rfl HW8.out HR8.out (by simp [Value.oneCell']) (by omega) ?_; intro v9 w9 ha9; obtain ⟨A9, c9, rfl, _⟩ := id ha9.shape; have HA9 := Lib.hid ha9; clear ha9)
    have ho9 : Only NoB w2 w9 := only_new (HO7.out.alloc _) HA9.out.only fun k hk => HW8.out.2 k hk
    have hown9 : Own w9 (From w2.heap.size) 108 3 (.slice A9 (0 + 1) c9) (0 + 1) (entL (M.take 0) ++ [.int .i64 d, .string ⟨A.toArray⟩, .int .i64 n]) := HA9.out.own.mono fun k hk _ => by
      rcases hk with hk | hk
      · exact hk
      · rw [World.size_alloc] at hk
        have h2 := HO7.out.size
        show w2.heap.size ≤ k
        omega
    have c9' : w9.cell? ⟨x, 0, none⟩ = some (.slice none 0 0) := (HB.out.only ho9 id).cell 0
    have HO9 := Lib.hid ho9
    have HW9 := Lib.hid hown9
    have HR9 := Lib.hid (HRD.out w9 ho9)
    clear ho9 hown9 c0
    go_upto_region 10 with (at_builtin; refine wpList_app rfl _ _ _ rfl (by kernel_rfl) Ty.entry rfl rfl HW9.out HR9.out ONEB (by omega) ?_; intro v11 w11 ha11; obtain ⟨A11, c11, rfl, _⟩ := id ha11.shape; have HA11 := Lib.hid ha11; clear ha11)
    have ho11 : Only NoB w2 w11 := only_new HO9.out HA11.out.only fun k hk => HW9.out.2 k hk
    have hown11 : Own w11 (From w2.heap.size) 108 3 (.slice A11 (0 + 1 + 0) c11) (M.take 0 ++ (ekey d A, be3i n) :: M.drop 0).length (entL (M.take 0 ++ (ekey d A, be3i n) :: M.drop 0)) := by
      have h1 := HA11.out.own
      rw [LENS, ENTS]
      exact h1.mono fun k hk _ => by
        rcases hk with hk | hk
        · exact hk
        · have h2 := HO9.out.size
          show w2.heap.size ≤ k
          omega
    have hbx := HB.out.only ho11 id
    have f0 := hbx.frozen 0
    have c11' : w11.cell? ⟨x, 0, none⟩ = some (.slice none 0 0) := hbx.cell 0
    obtain ⟨G', hg1, hg2, hg3⟩ := H2.out.put ho11 hown11
    have HR : Hid (RefDO w1 G x (.int .i64 (0 : Nat)) (addM M d A n) (.returned (.int .i64 (0 : Nat))) (w11.setCell ⟨x, 0, none⟩ (.slice A11 (0 + 1 + 0) c11))) := Lib.hid (by rw [HAEQ.out]; exact RefDO.from_ HO.out ⟨rfl, G', hg1, hg2, hg3⟩)
    clear hown11 ho11 hbx hg1 hg2 hg3 c9'
    go_wp2_with fail
    go_ret
    exact HR.out
  · have hrd := hown.rd
    have LENS0 : (M.take i ++ (ekey d A, be3i n) :: M.drop i).length = i + 1 + (M.length - i) := by simp; omega
    have ENTS : entL (M.take i ++ (ekey d A, be3i n) :: M.drop i) = entL (M.take i) ++ [.int .i64 d, .string ⟨A.toArray⟩, .int .i64 n] ++ entL (M.drop i) := by
      rw [entL_append, show (ekey d A, be3i n) :: M.drop i = [(ekey d A, be3i n)] ++ M.drop i from rfl, entL_append, HEN.out, List.append_assoc]
    have HRA : Hid (∀ w', Only NoB w2 w' → Rd w' (fun _ => True) 3 (.slice (some ⟨g, 0, none⟩) i cap) i (entL (M.take i))) := Lib.hid fun w' ho => by
      rw [entL_takeN]
      exact rd_take (Rd.only (hrd.mono (G := fun _ => True) fun _ _ _ => trivial) ho fun _ _ => id) hi
    have ONEA := entL_one (M.take i)
    have ONEB := entL_one (M.drop i)
    have hic : (i : Int) ≤ (cap : Int) := by omega
    have him : (i : Int) ≤ (M.length : Int) := by omega
    have hmc : (M.length : Int) ≤ (cap : Int) := by omega
    by_cases hie : i = cap
    · subst hie
      have hieM : M.length - i = 0 := by omega
      have hied : entL (M.drop i) = [] := by rw [List.drop_eq_nil_of_le (by omega)]; rfl
      have HRD : Hid (∀ w', Only NoB w2 w' → Rd w' (fun _ => True) 3 (.slice (some ⟨g, 0, none⟩) 0 0) 0 (entL (M.drop i))) := Lib.hid fun w' ho => by
        rw [hied]
        exact ⟨_, _, rfl, Nat.le_refl _, by simp, fun h => by omega⟩
      have LENS : (M.take i ++ (ekey d A, be3i n) :: M.drop i).length = i + 1 + 0 := by rw [LENS0, hieM]
      clear hp ho hae h2 hown hb hrd LENS0 hieM hied
      go_upto_region 8 with (at_builtin; refine wpList_app rfl _ _ _ rfl (by kernel_rfl) Ty.entry rfl rfl (Own.nil w2 (From w2.heap.size) _ _) (HRA.out w2 (Only.refl NoB w2)) ONEA (by omega) ?_; intro v7 w7 ha7; obtain ⟨A7, c7, rfl, _⟩ := id ha7.shape; have HA7 := Lib.hid ha7; clear ha7)
      have hown7 : Own w7 (From w2.heap.size) 108 3 (.slice A7 (0 + i) c7) (0 + i) (entL (M.take i)) := by
        have := HA7.out.own
        rw [List.nil_append] at this
        exact this.mono fun k hk _ => by
          rcases hk with hk | hk
          · exact hk
          · exact Nat.le_of_eq hk.symm
      rw [Nat.zero_add] at hown7
      try rw [Nat.zero_add]
      have ho7 : Only NoB w2 w7 := HA7.out.only.mono fun k _ hk => by cases hk
      have HW8 := Lib.hid (hown7.alloc (.cells #[.int .i64 d, .string ⟨A.toArray⟩, .int .i64 n] 108))
      have HR8 := Lib.hid (rd_new w7 108 3 1 [.int .i64 d, .string ⟨A.toArray⟩, .int .i64 n] rfl)
      have HO7 := Lib.hid ho7
      clear hown7 ho7
      go_upto_region 9 with (at_builtin; refine wpList_app rfl _ _ _ rfl (by kernel_rfl) Ty.entry rfl rfl HW8.out HR8.out (by simp [Value.oneCell']) (by omega) ?_; intro v9 w9 ha9; obtain ⟨A9, c9, rfl, _⟩ := id ha9.shape; have HA9 := Lib.hid ha9; clear ha9)
      have ho9 : Only NoB w2 w9 := only_new (HO7.out.alloc _) HA9.out.only fun k hk => HW8.out.2 k hk
      have hown9 : Own w9 (From w2.heap.size) 108 3 (.slice A9 (i + 1) c9) (i + 1) (entL (M.take i) ++ [.int .i64 d, .string ⟨A.toArray⟩, .int .i64 n]) := HA9.out.own.mono fun k hk _ => by
        rcases hk with hk | hk
        · exact hk
        · rw [World.size_alloc] at hk
          have h2 := HO7.out.size
          show w2.heap.size ≤ k
          omega
      have c9' : w9.cell? ⟨x, 0, none⟩ = some (.slice (some ⟨g, 0, none⟩) M.length i) := (HB.out.only ho9 id).cell 0
      have HO9 := Lib.hid ho9
      have HW9 := Lib.hid hown9
      have HR9 := Lib.hid (HRD.out w9 ho9)
      clear ho9 hown9 c0
      go_upto_region 10 with (at_builtin; refine wpList_app rfl _ _ _ rfl (by kernel_rfl) Ty.entry rfl rfl HW9.out HR9.out ONEB (by omega) ?_; intro v11 w11 ha11; obtain ⟨A11, c11, rfl, _⟩ := id ha11.shape; have HA11 := Lib.hid ha11; clear ha11)
      have ho11 : Only NoB w2 w11 := only_new HO9.out HA11.out.only fun k hk => HW9.out.2 k hk
      have hown11 : Own w11 (From w2.heap.size) 108 3 (.slice A11 (i + 1 + 0) c11) (M.take i ++ (ekey d A, be3i n) :: M.drop i).length (entL (M.take i ++ (ekey d A, be3i n) :: M.drop i)) := by
        have h1 := HA11.out.own
        rw [LENS, ENTS]
        exact h1.mono fun k hk _ => by
          rcases hk with hk | hk
          · exact hk
          · have h2 := HO9.out.size
            show w2.heap.size ≤ k
            omega
      have hbx := HB.out.only ho11 id
      have f0 := hbx.frozen 0
      have c11' : w11.cell? ⟨x, 0, none⟩ = some (.slice (some ⟨g, 0, none⟩) M.length i) := hbx.cell 0
      obtain ⟨G', hg1, hg2, hg3⟩ := H2.out.put ho11 hown11
      have HR : Hid (RefDO w1 G x (.int .i64 (0 : Nat)) (addM M d A n) (.returned (.int .i64 (0 : Nat))) (w11.setCell ⟨x, 0, none⟩ (.slice A11 (i + 1 + 0) c11))) := Lib.hid (by rw [HAEQ.out]; exact RefDO.from_ HO.out ⟨rfl, G', hg1, hg2, hg3⟩)
      clear hown11 ho11 hbx hg1 hg2 hg3 c9'
      go_wp2_with fail
      go_ret
      exact HR.out
    · have HRD : Hid (∀ w', Only NoB w2 w' → Rd w' (fun _ => True) 3 (.slice (some ⟨g, i * 3, none⟩) (M.length - i) (cap - i)) (M.length - i) (entL (M.drop i))) := Lib.hid fun w' ho => by
        rw [entL_dropN]
        have := rd_drop (Rd.only (hrd.mono (G := fun _ => True) fun _ _ _ => trivial) ho fun _ _ => id) hi
        rwa [Nat.zero_add] at this
      have LENS := LENS0
      clear hp ho hae h2 hown hb hrd LENS0
      go_upto_region 8 with (at_builtin; refine wpList_app rfl _ _ _ rfl (by kernel_rfl) Ty.entry rfl rfl (Own.nil w2 (From w2.heap.size) _ _) (HRA.out w2 (Only.refl NoB w2)) ONEA (by omega) ?_; intro v7 w7 ha7; obtain ⟨A7, c7, rfl, _⟩ := id ha7.shape; have HA7 := Lib.hid ha7; clear ha7)
      have hown7 : Own w7 (From w2.heap.size) 108 3 (.slice A7 (0 + i) c7) (0 + i) (entL (M.take i)) := by
        have := HA7.out.own
        rw [List.nil_append] at this
        exact this.mono fun k hk _ => by
          rcases hk with hk | hk
          · exact hk
          · exact Nat.le_of_eq hk.symm
      rw [Nat.zero_add] at hown7
      try rw [Nat.zero_add]
      have ho7 : Only NoB w2 w7 := HA7.out.only.mono fun k _ hk => by cases hk
      have HW8 := Lib.hid (hown7.alloc (.cells #[.int .i64 d, .string ⟨A.toArray⟩, .int .i64 n] 108))
      have HR8 := Lib.hid (rd_new w7 108 3 1 [.int .i64 d, .string ⟨A.toArray⟩, .int .i64 n] rfl)
      have HO7 := Lib.hid ho7
      clear hown7 ho7
      go_upto_region 9 with (at_builtin; refine wpList_app rfl _ _ _ rfl (by kernel_rfl) Ty.entry rfl rfl HW8.out HR8.out (by simp [Value.oneCell']) (by omega) ?_; intro v9 w9 ha9; obtain ⟨A9, c9, rfl, _⟩ := id ha9.shape; have HA9 := Lib.hid ha9; clear ha9)
      have ho9 : Only NoB w2 w9 := only_new (HO7.out.alloc _) HA9.out.only fun k hk => HW8.out.2 k hk
      have hown9 : Own w9 (From w2.heap.size) 108 3 (.slice A9 (i + 1) c9) (i + 1) (entL (M.take i) ++ [.int .i64 d, .string ⟨A.toArray⟩, .int .i64 n]) := HA9.out.own.mono fun k hk _ => by
        rcases hk with hk | hk
        · exact hk
        · rw [World.size_alloc] at hk
          have h2 := HO7.out.size
          show w2.heap.size ≤ k
          omega
      have c9' : w9.cell? ⟨x, 0, none⟩ = some (.slice (some ⟨g, 0, none⟩) M.length cap) := (HB.out.only ho9 id).cell 0
      have HO9 := Lib.hid ho9
      have HW9 := Lib.hid hown9
      have HR9 := Lib.hid (HRD.out w9 ho9)
      clear ho9 hown9 c0
      go_upto_region 10 with (at_builtin; refine wpList_app rfl _ _ _ rfl (by kernel_rfl) Ty.entry rfl rfl HW9.out HR9.out ONEB (by omega) ?_; intro v11 w11 ha11; obtain ⟨A11, c11, rfl, _⟩ := id ha11.shape; have HA11 := Lib.hid ha11; clear ha11)
      have ho11 : Only NoB w2 w11 := only_new HO9.out HA11.out.only fun k hk => HW9.out.2 k hk
      have hown11 : Own w11 (From w2.heap.size) 108 3 (.slice A11 (i + 1 + (M.length - i)) c11) (M.take i ++ (ekey d A, be3i n) :: M.drop i).length (entL (M.take i ++ (ekey d A, be3i n) :: M.drop i)) := by
        have h1 := HA11.out.own
        rw [LENS, ENTS]
        exact h1.mono fun k hk _ => by
          rcases hk with hk | hk
          · exact hk
          · have h2 := HO9.out.size
            show w2.heap.size ≤ k
            omega
      have hbx := HB.out.only ho11 id
      have f0 := hbx.frozen 0
      have c11' : w11.cell? ⟨x, 0, none⟩ = some (.slice (some ⟨g, 0, none⟩) M.length cap) := hbx.cell 0
      obtain ⟨G', hg1, hg2, hg3⟩ := H2.out.put ho11 hown11
      have HR : Hid (RefDO w1 G x (.int .i64 (0 : Nat)) (addM M d A n) (.returned (.int .i64 (0 : Nat))) (w11.setCell ⟨x, 0, none⟩ (.slice A11 (i + 1 + (M.length - i)) c11))) := Lib.hid (by rw [HAEQ.out]; exact RefDO.from_ HO.out ⟨rfl, G', hg1, hg2, hg3⟩)
      clear hown11 ho11 hbx hg1 hg2 hg3 c9'
      go_wp2_with fail
      go_ret
      exact HR.out
end
end Go.Proofs.YtklfkocebhhgcaaGreat
namespace Go.Proofs.YtklfkocebhhgcaaGreat
open Go.RowKit Go.Proofs Go.Shelf
set_option maxRecDepth 20000
attribute [local go_sem] Oper.semAt_some
section
variable {w w' : World} {F G : Nat → Prop} {x : Nat} {M : List KV}
set_option maxHeartbeats 4000000 in
theorem rremove_ok (d : Int) (A : Str) (h : RefD w G x M) (hm : DirM M) (hs : Srt M) (hA : A.length ≤ 140737488351232) (hl : M.length ≤ 1000) :
    Calls Tryz.prog 17 #[.pointer (some ⟨x, 0, none⟩), .int .i64 d, .string ⟨A.toArray⟩] w (RefDO w G x (findA (findI M d A)) (remM M d A)) := by
  have hf := rfind_ok d A h hm hs hA hl
  unfold RfOut at hf
  have H := Lib.hid h
  by_cases hz : (findI M d A).2 = 0
  · obtain ⟨hd, hg⟩ := findI_ok hz
    obtain ⟨q, hq⟩ : ∃ q, q = (findI M d A).1 := ⟨_, rfl⟩
    have hfi : findI M d A = (q, 0) := by rw [hq, ← hz]
    rw [hfi] at hf ⊢
    have HF := Lib.hid hf
    have HPL0 : Hid (∀ w1, Only NoB w w1 → Calls Tryz.prog 54 #[.pointer (some ⟨x, 0, none⟩), .int .i64 d, .string ⟨A.toArray⟩] w1 (PlcOut M (ekey d A) w1)) := Lib.hid fun w1 ho => rplace_ok (h.quit ho) hm hs (dirOk_n hd) A hl
    have HIN : Hid (∀ i is, PlaceP M (ekey d A) i is → is = true ∧ i < M.length ∧ remM M d A = M.take i ++ M.drop (i + 1)) := Lib.hid fun i is hp => by
      have hg2 := placeP_get hp
      rw [hg] at hg2
      have hg2 : is = true := hg2.symm
      subst hg2
      obtain ⟨v, hv, _⟩ := placeP_at hp
      refine ⟨rfl, (List.getElem?_eq_some_iff.1 hv).1, ?_⟩
      rw [remM, if_pos hz, place_del hp hs]; rfl
    have HLN := Lib.hid hl
    clear hf hz hd hg hq hfi hm hs h hl hA
    unfold findA at HF ⊢
    go_enter Tryz.func17, Tryz.ntmps17
    go_wp2_with fail
    refine HF.out.mono ?_
    rintro e w1 ⟨rfl, ho1⟩
    have HO1 := Lib.hid ho1
    have HPL := Lib.hid (HPL0.out w1 ho1)
    clear ho1
    go_wp2_with fail
    refine HPL.out.mono ?_
    rintro e w2 ⟨i, is, hp, rfl, ho⟩
    obtain ⟨rfl, hi, hae⟩ := HIN.out i is hp
    have HAEQ := Lib.hid hae
    have ho2 := HO1.out.trans ho
    have h2 := H.out.quit ho2
    have H2 := Lib.hid h2
    have HO := Lib.hid ho2
    obtain ⟨lv, hb, hown⟩ := h2.cells
    have c0 := hb.cell 0
    have HB := Lib.hid hb
    have HLE := HLN.out
    rcases hown.1.2 with ⟨rfl, hz⟩ | ⟨g, cap, cur, rfl, _, _, hnc, _⟩
    · exfalso; omega
    have hrd := hown.rd
    obtain ⟨k, hk⟩ : ∃ k, k = i + 1 := ⟨_, rfl⟩
    have hke : (i : Int) + 1 = (k : Int) := by omega
    have hkw : IntKind.i64.wrap (k : Int) = (k : Int) := by rw [IntKind.wrap_i64]; omega
    have LENS0 : (M.take i ++ M.drop (i + 1)).length = i + (M.length - k) := by rw [hk]; simp; omega
    have ENTS : entL (M.take i ++ M.drop (i + 1)) = entL (M.take i) ++ entL (M.drop k) := by rw [entL_append, hk]
    have HRA : Hid (∀ w', Only NoB w2 w' → Rd w' (fun _ => True) 3 (.slice (some ⟨g, 0, none⟩) i cap) i (entL (M.take i))) := Lib.hid fun w' ho => by
      rw [entL_takeN]
      exact rd_take (Rd.only (hrd.mono (G := fun _ => True) fun _ _ _ => trivial) ho fun _ _ => id) (by omega)
    have ONEA := entL_one (M.take i)
    have ONEB := entL_one (M.drop k)
    have hic : (i : Int) ≤ (cap : Int) := by omega
    have hkc : (k : Int) ≤ (cap : Int) := by omega
    have hkm : (k : Int) ≤ (M.length : Int) := by omega
    have hmc : (M.length : Int) ≤ (cap : Int) := by omega
    have hkn : k ≤ M.length := by omega
    by_cases hie : k = cap
    · subst hie
      have hieM : M.length - k = 0 := by omega
      have hied : entL (M.drop k) = [] := by rw [List.drop_eq_nil_of_le (by omega)]; rfl
      have HRD : Hid (∀ w', Only NoB w2 w' → Rd w' (fun _ => True) 3 (.slice (some ⟨g, 0, none⟩) 0 0) 0 (entL (M.drop k))) := Lib.hid fun w' ho => by
        rw [hied]
        exact ⟨_, _, rfl, Nat.le_refl _, by simp, fun h => by omega⟩
      have LENS : (M.take i ++ M.drop (i + 1)).length = i + 0 := by rw [LENS0, hieM]
      clear hp ho hae h2 hown hb hrd LENS0 hieM hied ho2 hk
      go_upto_region 7 with (at_builtin; refine wpList_app rfl _ _ _ rfl (by kernel_rfl) Ty.entry rfl rfl (Own.nil w2 (From w2.heap.size) _ _) (HRA.out w2 (Only.refl NoB w2)) ONEA (by omega) ?_; intro v7 w7 ha7; obtain ⟨A7, c7, rfl, _⟩ := id ha7.shape; have HA7 := Lib.hid ha7; clear ha7)
      have hown7 : Own w7 (From w2.heap.size) 108 3 (.slice A7 (0 + i) c7) (0 + i) (entL (M.take i)) := by
        have := HA7.out.own
        rw [List.nil_append] at this
        exact this.mono fun k hk _ => by
          rcases hk with hk | hk
          · exact hk
          · exact Nat.le_of_eq hk.symm
      rw [Nat.zero_add] at hown7
      try rw [Nat.zero_add]
      have ho7 : Only NoB w2 w7 := HA7.out.only.mono fun k _ hk => by cases hk
      have c7' : w7.cell? ⟨x, 0, none⟩ = some (.slice (some ⟨g, 0, none⟩) M.length k) := (HB.out.only ho7 id).cell 0
      have HW7 := Lib.hid hown7
      have HR7 := Lib.hid (HRD.out w7 ho7)
      have HO7 := Lib.hid ho7
      clear hown7 ho7 c0
      go_upto_region 8 with (at_builtin; refine wpList_app rfl _ _ _ rfl (by kernel_rfl) Ty.entry rfl rfl HW7.out HR7.out ONEB (by omega) ?_; intro v9 w9 ha9; obtain ⟨A9, c9, rfl, _⟩ := id ha9.shape; have HA9 := Lib.hid ha9; clear ha9)
      have ho9 : Only NoB w2 w9 := only_new HO7.out HA9.out.only fun k hk => HW7.out.2 k hk
      have hown9 : Own w9 (From w2.heap.size) 108 3 (.slice A9 (i + 0) c9) (M.take i ++ M.drop (i + 1)).length (entL (M.take i ++ M.drop (i + 1))) := by
        have h1 := HA9.out.own
        rw [LENS, ENTS]
        exact h1.mono fun k hk _ => by
          rcases hk with hk | hk
          · exact hk
          · have h2 := HO7.out.size
            show w2.heap.size ≤ k
            omega
      have hbx := HB.out.only ho9 id
      have f0 := hbx.frozen 0
      have c9' : w9.cell? ⟨x, 0, none⟩ = some (.slice (some ⟨g, 0, none⟩) M.length k) := hbx.cell 0
      obtain ⟨G', hg1, hg2, hg3⟩ := H2.out.put ho9 hown9
      have HR : Hid (RefDO w G x (.tuple #[.int .i64 (q : Nat), .int .i64 (0 : Nat)]) (remM M d A) (.returned (.tuple #[.int .i64 (q : Nat), .int .i64 (0 : Nat)])) (w9.setCell ⟨x, 0, none⟩ (.slice A9 (i + 0) c9))) := Lib.hid (by rw [HAEQ.out]; exact RefDO.from_ HO.out ⟨rfl, G', hg1, hg2, hg3⟩)
      clear hown9 ho9 hbx hg1 hg2 hg3 c7'
      go_wp2_with fail
      go_ret2
      exact HR.out
    · have HRD : Hid (∀ w', Only NoB w2 w' → Rd w' (fun _ => True) 3 (.slice (some ⟨g, k * 3, none⟩) (M.length - k) (cap - k)) (M.length - k) (entL (M.drop k))) := Lib.hid fun w' ho => by
        rw [entL_dropN]
        have := rd_drop (Rd.only (hrd.mono (G := fun _ => True) fun _ _ _ => trivial) ho fun _ _ => id) hkn
        rwa [Nat.zero_add] at this
      have LENS := LENS0
      clear hp ho hae h2 hown hb hrd LENS0 ho2 hk
      go_upto_region 7 with (at_builtin; refine wpList_app rfl _ _ _ rfl (by kernel_rfl) Ty.entry rfl rfl (Own.nil w2 (From w2.heap.size) _ _) (HRA.out w2 (Only.refl NoB w2)) ONEA (by omega) ?_; intro v7 w7 ha7; obtain ⟨A7, c7, rfl, _⟩ := id ha7.shape; have HA7 := Lib.hid ha7; clear ha7)
      have hown7 : Own w7 (From w2.heap.size) 108 3 (.slice A7 (0 + i) c7) (0 + i) (entL (M.take i)) := by
        have := HA7.out.own
        rw [List.nil_append] at this
        exact this.mono fun k hk _ => by
          rcases hk with hk | hk
          · exact hk
          · exact Nat.le_of_eq hk.symm
      rw [Nat.zero_add] at hown7
      try rw [Nat.zero_add]
      have ho7 : Only NoB w2 w7 := HA7.out.only.mono fun k _ hk => by cases hk
      have c7' : w7.cell? ⟨x, 0, none⟩ = some (.slice (some ⟨g, 0, none⟩) M.length cap) := (HB.out.only ho7 id).cell 0
      have HW7 := Lib.hid hown7
      have HR7 := Lib.hid (HRD.out w7 ho7)
      have HO7 := Lib.hid ho7
      clear hown7 ho7 c0
      go_upto_region 8 with (at_builtin; refine wpList_app rfl _ _ _ rfl (by kernel_rfl) Ty.entry rfl rfl HW7.out HR7.out ONEB (by omega) ?_; intro v9 w9 ha9; obtain ⟨A9, c9, rfl, _⟩ := id ha9.shape; have HA9 := Lib.hid ha9; clear ha9)
      have ho9 : Only NoB w2 w9 := only_new HO7.out HA9.out.only fun k hk => HW7.out.2 k hk
      have hown9 : Own w9 (From w2.heap.size) 108 3 (.slice A9 (i + (M.length - k)) c9) (M.take i ++ M.drop (i + 1)).length (entL (M.take i ++ M.drop (i + 1))) := by
        have h1 := HA9.out.own
        rw [LENS, ENTS]
        exact h1.mono fun k hk _ => by
          rcases hk with hk | hk
          · exact hk
          · have h2 := HO7.out.size
            show w2.heap.size ≤ k
            omega
      have hbx := HB.out.only ho9 id
      have f0 := hbx.frozen 0
      have c9' : w9.cell? ⟨x, 0, none⟩ = some (.slice (some ⟨g, 0, none⟩) M.length cap) := hbx.cell 0
      obtain ⟨G', hg1, hg2, hg3⟩ := H2.out.put ho9 hown9
      have HR : Hid (RefDO w G x (.tuple #[.int .i64 (q : Nat), .int .i64 (0 : Nat)]) (remM M d A) (.returned (.tuple #[.int .i64 (q : Nat), .int .i64 (0 : Nat)])) (w9.setCell ⟨x, 0, none⟩ (.slice A9 (i + (M.length - k)) c9))) := Lib.hid (by rw [HAEQ.out]; exact RefDO.from_ HO.out ⟨rfl, G', hg1, hg2, hg3⟩)
      clear hown9 ho9 hbx hg1 hg2 hg3 c7'
      go_wp2_with fail
      go_ret2
      exact HR.out
  · have hrb := rem_bad hz
    have hfb := findI_bad hz
    obtain ⟨q, hq⟩ : ∃ q, q = (findI M d A).2 := ⟨_, rfl⟩
    have hfi : findI M d A = (0, q) := by rw [hq, ← hfb]
    rw [← hq] at hz
    rw [hrb]
    rw [hfi] at hf ⊢
    have HF := Lib.hid hf
    have hz : ¬ (q : Int) = 0 := by omega
    have hz2 : ((q : Int) == 0) = false := by simpa using hz
    clear hf hq hfi hrb hfb hm hs h hl hA
    unfold findA at HF ⊢
    go_enter Tryz.func17, Tryz.ntmps17
    go_wp2_with fail
    refine HF.out.mono ?_
    rintro e w1 ⟨rfl, ho1⟩
    have HR : Hid (RefDO w G x (.tuple #[.int .i64 (0 : Nat), .int .i64 (q : Nat)]) M (.returned (.tuple #[.int .i64 (0 : Nat), .int .i64 (q : Nat)])) w1) := Lib.hid (RefDO.stay H.out ho1)
    clear ho1
    go_wp2_with fail
    go_ret2
    exact HR.out
end
end Go.Proofs.YtklfkocebhhgcaaGreat
namespace Go.Proofs.YtklfkocebhhgcaaGreat
open Go.RowKit Go.Proofs Go.Shelf
set_option maxRecDepth 20000
attribute [local go_sem] Oper.semAt_some
section
variable {w w' : World} {F G : Nat → Prop} {x : Nat} {M : List KV}
theorem ent_under {M : List KV} (hm : DirM M) {d : Int} (hd : dirN d) {x : KV} (hx : x ∈ M) : hasP (dpre d) x.1 = decide (eD x = d) := by
  obtain ⟨n, i, B, h1, h2, h3, h4⟩ := hm x hx
  obtain rfl : x = (ekey n B, be3i i) := by rw [← h2, ← h4]
  rw [eD_ekey (dirOk_n h1)]
  by_cases e : n = d
  · subst e; rw [hasP_same]; simp
  · rw [hasP_other hd (dirOk_n h1) (fun h => e h.symm)]; simp [e]
def RlSt (w : World) (d : Int) (M : List KV) (k : Nat) (out : Value) (wr : World) : Prop :=
  Own wr (From w.heap.size) 108 3 out (under (dpre d) (M.take k)).length (entL (under (dpre d) (M.take k))) ∧ Only NoB w wr
def RlOut (w : World) (d : Int) (M : List KV) (e : Ending) (w' : World) : Prop := ∃ v, e = .returned v ∧ Own w' (From w.heap.size) 108 3 v (under (dpre d) M).length (entL (under (dpre d) M)) ∧ Only NoB w w'
set_option maxHeartbeats 4000000 in
theorem rlist_ok {d : Int} (h : RefD w G x M) (hm : DirM M) (hd : dirN d) (hl : M.length ≤ 1000) :
    Calls Tryz.prog 22 #[.pointer (some ⟨x, 0, none⟩), .int .i64 d] w (RlOut w d M) := by
  have HU : Hid (∀ k (hk : k < M.length), under (dpre d) (M.take (k + 1)) = if eD M[k] = d then under (dpre d) (M.take k) ++ [M[k]] else under (dpre d) (M.take k)) := Lib.hid fun k hk => by
    rw [List.take_succ_eq_append_getElem hk]
    unfold under
    rw [List.filter_append]
    have := ent_under hm hd (List.getElem_mem hk)
    by_cases e : eD M[k] = d
    · rw [if_pos e, List.filter_cons_of_pos (by rw [this]; simpa using e)]; rfl
    · rw [if_neg e, List.filter_cons_of_neg (by rw [this]; simpa using e)]; simp
  have HUL : Hid (∀ k, (under (dpre d) (M.take k)).length ≤ 1000) := Lib.hid fun k => Nat.le_trans (List.length_filter_le _ _) (by rw [List.length_take]; omega)
  have H := Lib.hid h
  obtain ⟨lv, hb, hown⟩ := h.cells
  obtain ⟨lA, lc, rfl, _⟩ := hown.shape
  have HB := Lib.hid hb
  have HR := Lib.hid hown.rd
  clear h hm hd hb hown
  go_enter Tryz.func22, Tryz.ntmps22
  go_wp2_with fail
  go_loopw [5, 6] (fun out i wr => ∃ k : Nat, k ≤ M.length ∧ i = .int .i64 k ∧ Hid (RlSt w d M k out wr)) (fun _ i _ => M.length - (intOf i).toNat)
  case atStart => exact ⟨0, Nat.zero_le _, rfl, Lib.hid ⟨by simpa [under, entL] using Own.nil w (From w.heap.size) 108 3, Only.refl _ _⟩⟩
  case round =>
    obtain ⟨k, hk, rfl, hst⟩ := hrel
    obtain ⟨hown, ho⟩ := hst.out
    obtain ⟨oA, oc, rfl, _⟩ := hown.shape
    have c0 : wr.cell? ⟨x, 0, none⟩ = some (.slice lA M.length lc) := (HB.out.only ho id).cell 0
    have HW := Lib.hid hown
    have HO := Lib.hid ho
    have hul := HUL.out k
    clear hst hown
    by_cases hlt : k < M.length
    · obtain ⟨g, off, c', hve, _, _, hcell⟩ := HR.out.open_ (by omega)
      injection hve with q1 q2 q3
      subst q1; subst q3
      obtain ⟨p1, p2, p3⟩ := entL_get (List.getElem?_eq_getElem hlt)
      have u1 := ho.cell (hcell _ _ p1) id
      have u2 := ho.cell (hcell _ _ p2) id
      have u3 := ho.cell (hcell _ _ p3) id
      rw [← Nat.add_assoc] at u2 u3
      have hu := HU.out k hlt
      obtain ⟨y, hy⟩ : ∃ y, y = M[k] := ⟨_, rfl⟩
      rw [← hy] at u1 u2 u3 hu
      have HEY : Hid (entL [y] = [.int .i64 (eD y), strV (eN y), .int .i64 (numV y.2 : Nat)]) := Lib.hid rfl
      obtain ⟨de, hde⟩ : ∃ de, de = eD y := ⟨_, rfl⟩
      obtain ⟨ne, hne⟩ : ∃ ne, ne = eN y := ⟨_, rfl⟩
      obtain ⟨nq, hnq⟩ : ∃ nq, nq = numV y.2 := ⟨_, rfl⟩
      rw [← hde] at u1 hu HEY
      rw [← hne] at u2 HEY
      rw [← hnq] at u3 HEY
      unfold strV at u2 HEY
      have HU1 := Lib.hid hu
      clear hcell p1 p2 p3 hy hde hne hnq ho q2 hu
      by_cases he : de = d
      · have HU2 : Hid (under (dpre d) (M.take (k + 1)) = under (dpre d) (M.take k) ++ [y]) := Lib.hid (by rw [HU1.out, if_pos he])
        subst he
        have HR8 := Lib.hid (rd_new wr 108 3 1 [.int .i64 de, .string ⟨ne.toArray⟩, .int .i64 (nq : Nat)] rfl)
        have HW8 := Lib.hid (HW.out.alloc (.cells #[.int .i64 de, .string ⟨ne.toArray⟩, .int .i64 (nq : Nat)] 108))
        go_wp2_with (at_builtin; refine wpList_app rfl _ _ _ rfl (by kernel_rfl) Ty.entry rfl rfl HW8.out HR8.out (by simp [Value.oneCell']) (by omega) ?_; intro v9 w9 ha9; obtain ⟨A9, c9, rfl, _⟩ := id ha9.shape; have HA9 := Lib.hid ha9; clear ha9)
        have hn : RlSt w de M (k + 1) (.slice A9 ((under (dpre de) (M.take k)).length + 1) c9) w9 := by
          refine ⟨?_, only_new (HO.out.alloc _) HA9.out.only fun i hi => HW.out.2 i hi⟩
          rw [HU2.out, List.length_append, entL_append, HEY.out]
          exact HA9.out.own.mono fun i hi _ => by
            rcases hi with hi | hi
            · exact hi
            · rw [World.size_alloc] at hi
              have := HO.out.size
              show w.heap.size ≤ i
              omega
        have HN := Lib.hid hn
        exact ⟨⟨k + 1, by omega, by go_num, HN⟩, by simp [intOf]; omega⟩
      · have he2 : (de == d) = false := by simpa using he
        have HN : Hid (RlSt w d M (k + 1) (.slice oA (under (dpre d) (M.take k)).length oc) wr) := Lib.hid ⟨by rw [HU1.out, if_neg he]; exact HW.out, HO.out⟩
        go_wp2_with fail
        exact ⟨⟨k + 1, by omega, by go_num, HN⟩, by simp [intOf]; omega⟩
    · obtain rfl : k = M.length := by omega
      have HN : Hid (RlOut w d M (.returned (.slice oA (under (dpre d) M).length oc)) wr) := Lib.hid ⟨_, rfl, by have := HW.out; rw [List.take_length] at this; exact this, HO.out⟩
      rw [List.take_length]
      clear hlt ho
      go_wp2_with fail
      go_ret
      exact HN.out
end
end Go.Proofs.YtklfkocebhhgcaaGreat
namespace Go.Proofs.YtklfkocebhhgcaaGreat
open Go.RowKit Go.Proofs Go.Shelf
set_option maxRecDepth 20000
attribute [local go_sem] Oper.semAt_some
section
variable {w w' : World} {F G : Nat → Prop} {L : List KV}
set_option maxHeartbeats 2000000 in
theorem same14_ok {va vb : Value} (ha : Rd w F 2 va L.length (nameL L)) (hb : Rd w G 3 vb L.length (entL L)) (hl : L.length ≤ 1000) :
    Calls Tryz.prog 21 #[va, vb] w fun e w' => e = .returned (.bool true) ∧ Only NoB w w' := by
  obtain ⟨A, c, rfl, _⟩ := id ha
  obtain ⟨B, c2, rfl, _⟩ := id hb
  have HA := Lib.hid ha
  have HB := Lib.hid hb
  clear ha hb
  go_enter Tryz.func21, Tryz.ntmps21
  go_wp2_with fail
  go_loopw [5] (fun i wr => ∃ j : Nat, j ≤ L.length ∧ i = .int .i64 j ∧ Only NoB w wr) (fun i _ => L.length - (intOf i).toNat)
  case atStart => exact ⟨0, Nat.zero_le _, rfl, Only.refl _ _⟩
  case round =>
    obtain ⟨j, hj, rfl, hoj⟩ := hrel
    by_cases hjl : j < L.length
    · obtain ⟨gw, offw, c3, hve1, _, _, hcell1⟩ := HA.out.open_ (by omega)
      injection hve1 with q1 q2 q3
      subst q1; subst q3
      obtain ⟨gn, offn, c4, hve2, _, _, hcell2⟩ := HB.out.open_ (by omega)
      injection hve2 with q4 q5 q6
      subst q4; subst q6
      obtain ⟨p1, p2⟩ := nameL_get (List.getElem?_eq_getElem hjl)
      obtain ⟨_, p3, p4⟩ := entL_get (List.getElem?_eq_getElem hjl)
      have u1 : wr.drew.cell? _ = _ := hoj.drew.cell (hcell1 _ _ p1) id
      have u2 : wr.drew.cell? _ = _ := hoj.drew.cell (hcell1 _ _ p2) id
      have v1 : wr.drew.cell? _ = _ := hoj.drew.cell (hcell2 _ _ p3) id
      have v2 : wr.drew.cell? _ = _ := hoj.drew.cell (hcell2 _ _ p4) id
      rw [← Nat.add_assoc] at u2 v1 v2
      unfold eN at v1
      obtain ⟨nm, hnm⟩ : ∃ nm, nm = L[j].1.drop 4 := ⟨_, rfl⟩
      obtain ⟨nq, hnq⟩ : ∃ nq, nq = numV L[j].2 := ⟨_, rfl⟩
      rw [← hnm] at u1 v1
      rw [← hnq] at u2 v2
      unfold strV at u1 v1
      have HOJ := Lib.hid hoj
      have hj1 : (j : Int) < (L.length : Int) := by omega
      have hj0 : (0 : Int) ≤ (j : Int) := by omega
      clear hcell1 hcell2 p1 p2 p3 p4 hnm hnq hoj q2 q5
      go_upto_region 6 with fail
      refine hB _ 24 (fun w' => w'.cell? ⟨gw, offw + j * 2, none⟩ = some (.string ⟨nm.toArray⟩) ∧ w'.cell? ⟨gw, offw + j * 2 + 1, none⟩ = some (.int .i64 (nq : Nat)) ∧ w'.cell? ⟨gn, offn + j * 3 + 1, none⟩ = some (.string ⟨nm.toArray⟩) ∧ w'.cell? ⟨gn, offn + j * 3 + 2, none⟩ = some (.int .i64 (nq : Nat))) (⟨u1, u2, v1, v2⟩) (fun hHeld => ?_)
      refine hT 0 17 ?_
      refine hT 1 18 ?_
      refine hT 2 19 ?_
      refine hT 3 20 ?_
      refine hT 4 21 ?_
      refine hT 5 22 ?_
      refine hT 6 23 ?_
      refine hT 7 24 ?_
      refine hT 8 25 ?_
      refine hT 9 26 ?_
      refine hV 10 27 (.bool false) ?_
      refine hT 11 28 ?_
      refine hT 12 29 ?_
      refine hT 13 30 ?_
      refine hT 14 31 ?_
      refine hT 15 32 ?_
      refine hT 16 33 ?_
      refine hT 17 34 ?_
      refine hT 18 35 ?_
      refine hT 19 36 ?_
      refine hT 20 37 ?_
      refine hT 21 38 ?_
      refine hV 22 39 (.bool false) ?_
      refine hT 23 40 ?_
      refine wpAnyH_done (by kernel_rfl) ?_ _
      refine NoPanic.normal ?_
      go_wp2_with fail
      exact ⟨⟨j + 1, by omega, by go_num, HOJ.out.drew⟩, by simp [intOf]; omega⟩
    · obtain rfl : j = L.length := by omega
      have HOJ := Lib.hid hoj
      clear hjl hoj
      go_wp2_with fail
      go_ret
      exact ⟨rfl, HOJ.out⟩
end
end Go.Proofs.YtklfkocebhhgcaaGreat
namespace Go.Proofs.YtklfkocebhhgcaaGreat
open Go.RowKit
set_option maxRecDepth 20000
structure Ap (w0 w : World) (F G : Nat → Prop) : Prop where
  only : Only NoB w0 w
  newF : ∀ k, F k → w0.heap.size ≤ k ∧ k < w.heap.size
  newG : ∀ k, G k → w0.heap.size ≤ k ∧ k < w.heap.size
  apart : ∀ k, F k → ¬ G k
section
variable {w0 w w' : World} {F F' G G' : Nat → Prop}
theorem Ap.swap (h : Ap w0 w F G) : Ap w0 w G F := ⟨h.only, h.newG, h.newF, fun k hg hf => h.apart k hf hg⟩
theorem Ap.left (h : Ap w0 w F G) (ho : Only F w w') (hg : Grows F F' w) (hl : ∀ k, F' k → k < w'.heap.size) : Ap w0 w' F' G :=
  ⟨h.only.trans' ho fun k hk hf => by have := (h.newF k hf).1; omega, fun k hk => ⟨(hg k hk).elim (fun h1 => (h.newF k h1).1) fun h1 => Nat.le_trans h.only.size h1, hl k hk⟩,
    fun k hk => ⟨(h.newG k hk).1, Nat.lt_of_lt_of_le (h.newG k hk).2 ho.size⟩, fun k hk hG => (hg k hk).elim (fun h1 => h.apart k h1 hG) fun h1 => by have := (h.newG k hG).2; omega⟩
theorem Ap.right (h : Ap w0 w F G) (ho : Only G w w') (hg : Grows G G' w) (hl : ∀ k, G' k → k < w'.heap.size) : Ap w0 w' F G' := (h.swap.left ho hg hl).swap
theorem Ap.quit (h : Ap w0 w F G) (ho : Only NoB w w') : Ap w0 w' F G :=
  ⟨h.only.trans ho, fun k hk => ⟨(h.newF k hk).1, Nat.lt_of_lt_of_le (h.newF k hk).2 ho.size⟩, fun k hk => ⟨(h.newG k hk).1, Nat.lt_of_lt_of_le (h.newG k hk).2 ho.size⟩, h.apart⟩
theorem Ap.start (ho : Only NoB w0 w) (hF : ∀ k, F k → w0.heap.size ≤ k ∧ k < w.heap.size) (ho2 : Only NoB w w') (hG : ∀ k, G k → w.heap.size ≤ k ∧ k < w'.heap.size) : Ap w0 w' F G :=
  ⟨ho.trans ho2, fun k hk => ⟨(hF k hk).1, Nat.lt_of_lt_of_le (hF k hk).2 ho2.size⟩, fun k hk => ⟨Nat.le_trans ho.size (hG k hk).1, (hG k hk).2⟩, fun k hf hg => by have := (hF k hf).2; have := (hG k hg).1; omega⟩
end
end Go.Proofs.YtklfkocebhhgcaaGreat
namespace Go.Proofs.YtklfkocebhhgcaaGreat
open Go.RowKit Go.Proofs Go.Shelf
set_option maxRecDepth 20000
section
variable {w wr w' : World} {F F' G G' : Nat → Prop} {X : XC} {t x c b : Nat} {M M' : List KV} {ty : TypeId} {cs : Array Value}
structure DDI (w wr : World) (X : XC) (t x : Nat) (F G : Nat → Prop) (M M1 : List KV) (c : Nat) : Prop where
  ap : Ap w wr F G
  dr : DrAt wr F X t M c
  rf : RefD wr G x M1
theorem DDI.quit {M1 : List KV} (h : DDI w wr X t x F G M M1 c) (ho : Only NoB wr w') : DDI w w' X t x F G M M1 c := ⟨h.ap.quit ho, h.dr.quit ho, h.rf.quit ho⟩
theorem DDI.left {M1 : List KV} {c' : Nat} (h : DDI w wr X t x F G M M1 c) (hd : DrAt w' F' X t M' c') (ho : Only F wr w') (hg : Grows F F' wr) : DDI w w' X t x F' G M' M1 c' := by
  obtain ⟨lv, hb, hown⟩ := h.rf.cells
  have hn : ∀ k, G k → ¬ F k := fun k hG hF => h.ap.apart k hF hG
  exact ⟨h.ap.left ho hg hd.kv.lt, hd, fun k hk => Nat.lt_of_lt_of_le (h.rf.lt k hk) ho.size, h.rf.in_, lv, hb.only ho (hn x h.rf.in_), hown.only ho fun k hk => hn k hk.1⟩
theorem DDI.right {M1 M2 : List KV} (h : DDI w wr X t x F G M M1 c) (hr : RefD w' G' x M2) (ho : Only G wr w') (hg : Grows G G' wr) : DDI w w' X t x F G' M M2 c :=
  ⟨h.ap.right ho hg hr.lt, ⟨h.dr.kv.only ho h.ap.apart, h.dr.dir, h.dr.len, h.dr.few⟩, hr⟩
def Both (F G : Nat → Prop) : Nat → Prop := fun k => F k ∨ G k
theorem Grows.bothL (hg : Grows F F' w) : Grows (Both F G) (Both F' G) w := fun k hk => hk.elim (fun h => (hg k h).imp .inl id) fun h => .inl (.inr h)
theorem Grows.bothR (hg : Grows G G' w) : Grows (Both F G) (Both F G') w := fun k hk => hk.elim (fun h => .inl (.inl h)) fun h => (hg k h).imp .inr id
theorem Boxed.left (h : Boxed w (Both F G) b ty cs) (ho : Only F w w') (hg : Grows F F' w) : Boxed w' (Both F' G) b ty cs := h.step (ho.mono fun _ _ h => .inl h) hg.bothL
theorem Boxed.right (h : Boxed w (Both F G) b ty cs) (ho : Only G w w') (hg : Grows G G' w) : Boxed w' (Both F G') b ty cs := h.step (ho.mono fun _ _ h => .inr h) hg.bothR
theorem DDI.box {M1 : List KV} (h : DDI w wr X t x F G M M1 c) (hw : w' = wr.alloc (.cells cs ty)) : DDI w w' X t x F G M M1 c ∧ Boxed w' (Both F G) wr.heap.size ty cs := by
  subst hw
  exact ⟨h.quit ((Only.refl NoB wr).alloc _), Blk.new _ _ _, fun hf => hf.elim (fun h1 => by have := (h.ap.newF _ h1).2; omega) fun h1 => by have := (h.ap.newG _ h1).2; omega⟩
theorem radd_ok (d n : Int) (A : Str) (h : RefD w G x M) (hm : DirM M) (hs : Srt M) (hA : A.length ≤ 140737488351232) (hl : M.length ≤ 1000) :
    Calls Tryz.prog 13 #[.pointer (some ⟨x, 0, none⟩), .int .i64 d, .string ⟨A.toArray⟩, .int .i64 n] w (RefDO w G x (.int .i64 (addE M d A n : Nat)) (addM M d A n)) := by
  by_cases h0 : addE M d A n = 0
  · rw [h0]; exact radd_new d n A h hm hs hA hl h0
  · have : addM M d A n = M := by rw [addM, if_neg h0]
    rw [this]; exact radd_stay d n A h hm hs hA hl h0
end
end Go.Proofs.YtklfkocebhhgcaaGreat
namespace Go.Proofs.YtklfkocebhhgcaaGreat
open Go.RowKit Go.Proofs Go.Shelf
set_option maxRecDepth 20000
attribute [local go_sem] Oper.semAt_some
section
variable {w : World}
def DMid (w : World) (X : XC) (t x b : Nat) (cs : Array Value) (c : Nat) (wc : World) : Prop :=
  ∃ F G M, DDI w wc X t x F G M M c ∧ Boxed wc (Both F G) b 31 cs
def DLoop (w : World) (X : XC) (t x c : Nat) (wc : World) : Prop := ∃ F G M, DDI w wc X t x F G M M c
set_option maxHeartbeats 8000000 in
theorem dirsDoes_main (v : Value) (l : List OpS) (hl : SOps w (Old w) v l) : Calls Tryz.prog 3 #[v] w (Quit w (.bool true)) := by
  obtain ⟨A, cap, rfl, _⟩ := hl.shape
  have HA := Lib.hid fun w1 => awake14_ok (w := w1)
  have HF := Lib.hid (few14_any w _ _ l hl)
  have HT := Lib.hid (open14_ok (w := w))
  have HL := Lib.hid hl
  clear hl
  go_enter Tryz.func3, Tryz.ntmps3
  go_wp2_with fail
  refine HF.out.mono ?_
  rintro e w1 ⟨b, rfl, rfl, hb⟩
  cases b with
  | false =>
    clear hb
    go_wp2_with fail
    go_ret
    exact ⟨rfl, Only.refl _ _⟩
  | true =>
    have FEW := Lib.hid (hb rfl)
    have hl80 := (hb rfl).1
    clear hb
    go_wp2_with fail
    refine HT.out.mono ?_
    rintro e w1 ⟨t, F, X, rfl, hk, ho, hF⟩
    have H0 : Hid (DLoop w X t w1.heap.size 0 (w1.alloc (.cells #[.slice none 0 0] 29))) := Lib.hid ⟨F, fun k => k = w1.heap.size, [], Ap.start ho (fun k hkk => ⟨hF k hkk, hk.lt k hkk⟩) ((Only.refl NoB w1).alloc _) (fun k hkk => by rw [hkk]; simp), (dr_new hk).quit ((Only.refl NoB w1).alloc _), fun k hkk => by rw [hkk]; simp, rfl, .slice none 0 0, Blk.new _ _ _, Own.nil _ _ _ _⟩
    clear hk ho hF HF HT
    go_wp2_with fail
    obtain ⟨x, hx⟩ : ∃ x, x = w1.heap.size := ⟨_, rfl⟩
    rw [← hx] at H0 ⊢
    obtain ⟨W0, hW0⟩ : ∃ W0, W0 = w1.alloc (.cells #[.slice none 0 0] 29) := ⟨_, rfl⟩
    rw [← hW0] at H0 ⊢
    clear hW0 hx
    go_loopw [5] (fun i wr => ∃ k : Nat, k ≤ l.length ∧ i = .int .i64 k ∧ Hid (DLoop w X t x k wr)) (fun i _ => l.length - (intOf i).toNat)
    case atStart => exact ⟨0, Nat.zero_le _, rfl, H0⟩
    case round =>
      obtain ⟨k, hk, rfl, HI⟩ := hrel
      clear H0
      by_cases hlt : k < l.length
      · obtain ⟨wq, rfl⟩ : ∃ wq, wq = wr := ⟨_, rfl⟩
        obtain ⟨F1, G1, M, hI⟩ := HI.out
        obtain ⟨g, off, cc, hve, _, hg, ho⟩ := HL.out.open_ hlt
        injection hve with e1 e2 e3
        subst e1; subst e3
        obtain ⟨o, hoe⟩ : ∃ o, o = l[k] := ⟨_, rfl⟩
        rw [← hoe] at ho
        have hfo := FEW.out.2 o (by rw [hoe]; exact List.getElem_mem hlt)
        have HO := ho.only hI.ap.only id
        have x0 := HO.a
        have x1 := HO.b
        have x2 := HO.c
        have x3 := HO.s
        obtain ⟨cl, hcl2⟩ : ∃ cl, cl = o.a := ⟨_, rfl⟩
        obtain ⟨od, hod⟩ : ∃ od, od = o.b := ⟨_, rfl⟩
        obtain ⟨on, hon⟩ : ∃ on, on = o.c := ⟨_, rfl⟩
        obtain ⟨os, hos⟩ : ∃ os, os = o.s := ⟨_, rfl⟩
        rw [← hcl2] at x0
        rw [← hod] at x1
        rw [← hon] at x2
        rw [← hos] at x3 hfo
        obtain ⟨W1, hW1⟩ : ∃ W1, W1 = wq.alloc (.cells #[.int .i64 cl, .int .i64 od, .int .i64 on, .string ⟨os.toArray⟩] 31) := ⟨_, rfl⟩
        obtain ⟨h1, h2⟩ := hI.box hW1
        have y0 : W1.cell? ⟨wq.heap.size, 0, none⟩ = some (.int .i64 cl) := h2.blk.cell 0
        rw [hW1] at y0
        have H1 := Lib.hid h1
        have B1 := Lib.hid h2
        have HW1 := Lib.hid hW1
        have HOS := Lib.hid hfo
        clear hoe HO hcl2 hod hon hos h1 h2 hW1 ho hg hfo hI HI
        go_upto_block 2 with fail
        rw [← HW1.out]
        go_cut [] (fun wc => DMid w X t x wq.heap.size #[.int .i64 cl, .int .i64 od, .int .i64 on, .string ⟨os.toArray⟩] (k + 1) wc)
        case first =>
          -- @FIRST
          have hk280 : k + 1 ≤ 280 := by omega
          have hsr := H1.out.dr.kv.srt
          have hdm := H1.out.dr.dir
          have hml : M.length ≤ 1000 := by have := H1.out.dr.len; have := H1.out.dr.few; omega
          have hoa : os.length ≤ 140737488351232 := by have := HOS.out; omega
          have B1X := B1.out
          have z1 : W1.cell? ⟨wq.heap.size, 1, none⟩ = some (.int .i64 od) := B1X.blk.cell 1
          have z3 : W1.cell? ⟨wq.heap.size, 3, none⟩ = some (.string ⟨os.toArray⟩) := B1X.blk.cell 3
          have HMORE : Hid (∀ (F G : Nat → Prop) (M : List KV) (z : World), DDI w z X t x F G M M k → DDI w z X t x F G M M (k + 1)) := Lib.hid fun F G M z h => ⟨h.ap, ⟨h.dr.kv.mono (by omega), h.dr.dir, Nat.le_trans h.dr.len (by omega), hk280⟩, h.rf⟩
          by_cases c0 : cl = 0
          · subst c0
            have HAD0 : ∀ z F, DrAt z F X t M k → Calls Tryz.prog 12 #[.pointer (some ⟨t, 0, none⟩), .int .i64 od, .string ⟨os.toArray⟩, .int .i64 on] z (DrOut z F X t (.int .i64 (addE M od os on : Nat)) (addM M od os on) (k + 1)) := fun z F h => dr_add h (by omega) od os on
            have HAR0 : ∀ z G, RefD z G x M → Calls Tryz.prog 13 #[.pointer (some ⟨x, 0, none⟩), .int .i64 od, .string ⟨os.toArray⟩, .int .i64 on] z (RefDO z G x (.int .i64 (addE M od os on : Nat)) (addM M od os on)) := fun z G h => radd_ok od on os h hdm hsr hoa hml
            obtain ⟨ad, had⟩ : ∃ ad, ad = addE M od os on := ⟨_, rfl⟩
            obtain ⟨M2, hM2⟩ : ∃ M2, M2 = addM M od os on := ⟨_, rfl⟩
            rw [← had, ← hM2] at HAD0 HAR0
            have HAD := Lib.hid HAD0
            have HAR := Lib.hid HAR0
            have B9 := Lib.hid (B1.out.quit ((Only.refl NoB W1).drew))
            clear had hM2 HAD0 HAR0 hsr hdm hml hoa B1X HMORE
            go_upto_region 13 with fail
            refine hB _ 17 (fun w' => w'.cell? ⟨wq.heap.size, 1, none⟩ = some (.int .i64 od) ∧ w'.cell? ⟨wq.heap.size, 2, none⟩ = some (.int .i64 on) ∧ w'.cell? ⟨wq.heap.size, 3, none⟩ = some (.string ⟨os.toArray⟩)) (⟨B9.out.blk.cell 1, B9.out.blk.cell 2, B9.out.blk.cell 3⟩) (fun hHeld => ?_)
            refine hT 0 43 ?_
            obtain ⟨z0, hz0⟩ : ∃ z, z = W1.drew := ⟨_, rfl⟩
            rw [← hz0] at hHeld ⊢
            have ha : Only NoB W1 z0 := by rw [hz0]; exact (Only.refl NoB W1).drew
            have D0 := Lib.hid (H1.out.quit ha)
            have B0 := Lib.hid (B1.out.quit ha)
            clear hz0 ha
            refine hT 1 44 ?_
            refine hT 2 45 ?_
            refine hT 3 46 ?_
            refine hT 4 47 ?_
            refine hT 5 48 ?_
            refine hT 6 49 ?_
            refine hT 8 51 ?_
            refine hT 9 52 ?_
            refine hT 10 53 ?_
            refine hT 11 54 ?_
            refine hT 12 55 ?_
            refine hT 13 56 ?_
            refine hT 14 57 ?_
            refine hE 7 (fun o ho K hK => ?_)
            cases ho
            go_simp
            refine (HAD.out _ _ D0.out.dr).mono ?_
            rintro e z1 ⟨rfl, F5, hd, ho, hgr⟩
            have D1 := Lib.hid (D0.out.left hd ho hgr)
            have B1 := Lib.hid (B0.out.left ho hgr)
            clear hd ho hgr
            refine hK.out _ _ (⟨B1.out.blk.cell 1, B1.out.blk.cell 2, B1.out.blk.cell 3⟩) (fun hHeld => ?_)
            clear hK K
            try simp only [Act.put, List.setIfInBounds_toArray, List.set_cons_zero, List.set_cons_succ]
            refine hE 15 (fun o ho K hK => ?_)
            cases ho
            go_simp
            refine (HAR.out _ _ D1.out.rf).mono ?_
            rintro e z2 ⟨rfl, G6, hd, ho, hgr⟩
            have D2 := Lib.hid (D1.out.right hd ho hgr)
            have B2 := Lib.hid (B1.out.right ho hgr)
            clear hd ho hgr
            refine hK.out _ _ (⟨B2.out.blk.cell 1, B2.out.blk.cell 2, B2.out.blk.cell 3⟩) (fun hHeld => ?_)
            clear hK K
            try simp only [Act.put, List.setIfInBounds_toArray, List.set_cons_zero, List.set_cons_succ]
            refine hV 16 59 (.bool false) ?_
            refine wpAnyH_done (by kernel_rfl) ?_ _
            refine NoPanic.normal ?_
            have HMD : Hid (DMid w X t x wq.heap.size #[.int .i64 0, .int .i64 od, .int .i64 on, .string ⟨os.toArray⟩] (k + 1) z2) := Lib.hid ⟨_, _, _, D2.out, B2.out⟩
            go_wp2_with fail
            go_meet
            exact HMD.out
          · have e0 : (cl == 0) = false := by simpa using c0
            by_cases c1 : cl = 1
            · subst c1
              have HFI := dr_find H1.out.dr od os
              have HRF0 : ∀ z G, RefD z G x M → Calls Tryz.prog 15 #[.pointer (some ⟨x, 0, none⟩), .int .i64 od, .string ⟨os.toArray⟩] z (RfOut M od os z) := fun z G h => rfind_ok od os h hdm hsr hoa hml
              unfold RfOut at HRF0
              obtain ⟨⟨ra, rb⟩, hr⟩ : ∃ r : Nat × Nat, r = findI M od os := ⟨_, rfl⟩
              rw [← hr] at HFI HRF0
              unfold findA at HFI HRF0
              have HFI := Lib.hid HFI
              have HRF0 := Lib.hid HRF0
              clear hr hsr hdm hml hoa B1X
              go_wp2_with fail
              refine HFI.out.mono ?_
              rintro e w2 ⟨rfl, F2, hd, ho, hgr⟩
              have h2 := H1.out.left hd ho hgr
              have b2 := B1.out.left ho hgr
              have z1 : w2.cell? ⟨wq.heap.size, 1, none⟩ = some (.int .i64 od) := b2.blk.cell 1
              have z3 : w2.cell? ⟨wq.heap.size, 3, none⟩ = some (.string ⟨os.toArray⟩) := b2.blk.cell 3
              have HRF := Lib.hid (HRF0.out w2 _ h2.rf)
              have H2 := Lib.hid h2
              have B2 := Lib.hid b2
              clear hd ho hgr h2 b2
              go_wp2_with fail
              refine HRF.out.mono ?_
              rintro e w3 ⟨rfl, ho⟩
              have HMD : Hid (DMid w X t x wq.heap.size #[.int .i64 1, .int .i64 od, .int .i64 on, .string ⟨os.toArray⟩] (k + 1) w3) := Lib.hid ⟨_, _, _, HMORE.out _ _ _ _ (H2.out.quit ho), B2.out.quit ho⟩
              clear ho
              go_wp2_with fail
              go_meet
              exact HMD.out
            · have e1 : (cl == 1) = false := by simpa using c1
              by_cases c2 : cl = 2
              · subst c2
                have HFI := dr_remove H1.out.dr od os
                have HRF0 : ∀ z G, RefD z G x M → Calls Tryz.prog 17 #[.pointer (some ⟨x, 0, none⟩), .int .i64 od, .string ⟨os.toArray⟩] z (RefDO z G x (findA (findI M od os)) (remM M od os)) := fun z G h => rremove_ok od os h hdm hsr hoa hml
                obtain ⟨⟨ra, rb⟩, hr⟩ : ∃ r : Nat × Nat, r = findI M od os := ⟨_, rfl⟩
                obtain ⟨M2, hM2⟩ : ∃ M2, M2 = remM M od os := ⟨_, rfl⟩
                rw [← hr, ← hM2] at HFI HRF0
                unfold findA at HFI HRF0
                have HFI := Lib.hid HFI
                have HRF0 := Lib.hid HRF0
                clear hr hM2 hsr hdm hml hoa B1X HMORE
                go_wp2_with fail
                refine HFI.out.mono ?_
                rintro e w2 ⟨rfl, F2, hd, ho, hgr⟩
                have h2 := H1.out.left hd ho hgr
                have b2 := B1.out.left ho hgr
                have z1 : w2.cell? ⟨wq.heap.size, 1, none⟩ = some (.int .i64 od) := b2.blk.cell 1
                have z3 : w2.cell? ⟨wq.heap.size, 3, none⟩ = some (.string ⟨os.toArray⟩) := b2.blk.cell 3
                have HRF := Lib.hid (HRF0.out w2 _ h2.rf)
                have H2 := Lib.hid h2
                have B2 := Lib.hid b2
                clear hd ho hgr h2 b2
                go_wp2_with fail
                refine HRF.out.mono ?_
                rintro e w3 ⟨rfl, G3, hr3, ho, hgr⟩
                have h3 := H2.out.right hr3 ho hgr
                have HMD : Hid (DMid w X t x wq.heap.size #[.int .i64 2, .int .i64 od, .int .i64 on, .string ⟨os.toArray⟩] (k + 1) w3) := Lib.hid ⟨_, _, _, ⟨h3.ap, ⟨h3.dr.kv.mono (by omega), h3.dr.dir, Nat.le_trans h3.dr.len (by omega), hk280⟩, h3.rf⟩, B2.out.right ho hgr⟩
                clear hr3 ho hgr h3
                go_wp2_with fail
                go_meet
                exact HMD.out
              · have e2 : (cl == 2) = false := by simpa using c2
                have HMD : Hid (DMid w X t x wq.heap.size #[.int .i64 cl, .int .i64 od, .int .i64 on, .string ⟨os.toArray⟩] (k + 1) W1) := Lib.hid ⟨_, _, _, HMORE.out _ _ _ _ H1.out, B1.out⟩
                clear hsr hdm hml hoa B1X HMORE
                go_wp2_with fail
                go_meet
                exact HMD.out
        case rest =>
          -- @REST
          obtain ⟨F2, G2, M2, h2, b2⟩ := hcut
          have x1 : wc.cell? ⟨wq.heap.size, 1, none⟩ = some (.int .i64 od) := b2.blk.cell 1
          have HLS := Lib.hid (dr_list h2.dr od)
          have H2 := Lib.hid h2
          have B2 := Lib.hid b2
          clear h2 b2 x0 x2 x3 y0
          go_wp2_with fail
          refine HLS.out.mono ?_
          rintro e w3 ⟨lv, F3, rfl, has, hd, ho, hgr⟩
          have b3 := B2.out.left ho hgr
          have x1 : w3.cell? ⟨wq.heap.size, 1, none⟩ = some (.int .i64 od) := b3.blk.cell 1
          obtain ⟨lA, lcp, rfl, _⟩ := has.shape
          have HCN := dr_count hd od
          obtain ⟨le, hle⟩ : ∃ le, le = lsE od := ⟨_, rfl⟩
          obtain ⟨LS, hLS⟩ : ∃ LS, LS = lsL M2 od := ⟨_, rfl⟩
          rw [← hle, ← hLS] at HCN
          rw [← hLS] at has
          rw [← hle, ← hLS]
          have H3 := Lib.hid (H2.out.left hd ho hgr)
          have B3 := Lib.hid b3
          have A3 := Lib.hid has
          have HCN := Lib.hid HCN
          have HLE := Lib.hid hle
          have HLSE := Lib.hid hLS
          clear b3 hd ho hgr has hle hLS HLS
          go_wp2_with fail
          refine HCN.out.mono ?_
          rintro e w4 ⟨rfl, F4, hd, ho, hgr⟩
          have h4 := H3.out.left hd ho hgr
          have b4 := B3.out.left ho hgr
          have a4 := A3.out.step ho hgr
          have x1 : w4.cell? ⟨wq.heap.size, 1, none⟩ = some (.int .i64 od) := b4.blk.cell 1
          have HNU := Lib.hid (number12_ok (w := w4) od)
          have hlen : LS.length ≤ 280 := by rw [HLSE.out]; exact h4.dr.ls_len od
          have H4 := Lib.hid h4
          have A4 := Lib.hid a4
          have HLEN := Lib.hid hlen
          clear hd ho hgr h4 b4 a4 HCN hlen
          go_wp2_with fail
          refine HNU.out.mono ?_
          rintro e w5 ⟨rfl, rfl⟩
          by_cases hn : numOk od
          · have hle0 : le = 0 := HLE.out.trans (by rw [lsE, if_pos (show dirN od from hn)])
            have hls2 : LS = under (dpre od) M2 := HLSE.out.trans (by rw [lsL, if_pos (show dirN od from hn)])
            have hRL := rlist_ok H4.out.rf H4.out.dr.dir (show dirN od from hn) (by have := H4.out.dr.len; have := H4.out.dr.few; omega)
            unfold RlOut at hRL
            rw [← hls2] at hRL
            have HRL := Lib.hid hRL
            subst hle0
            rw [decide_eq_true hn]
            clear hRL hls2 hn HLE HLSE
            go_wp2_with fail
            refine HRL.out.mono ?_
            rintro e w6 ⟨rv, rfl, hown, ho⟩
            obtain ⟨K, hr, _⟩ := A4.out.quit ho
            have HSM := Lib.hid (same14_ok (L := LS) hr hown.rd (by have := HLEN.out; omega))
            obtain ⟨rA, rc, rfl, _⟩ := hown.shape
            have HL6 := Lib.hid (H4.out.quit ho)
            clear hown ho hr
            go_wp2_with fail
            refine HSM.out.mono ?_
            rintro e w7 ⟨rfl, ho7⟩
            have HLP : Hid (DLoop w X t x (k + 1) w7) := Lib.hid ⟨_, _, _, HL6.out.quit ho7⟩
            clear ho7
            go_wp2_with fail
            go_roundw
            case rel => exact ⟨k + 1, by omega, by go_num, HLP⟩
            case measure => simp [intOf]; omega
          · have hle1 : le = 1 := HLE.out.trans (by rw [lsE, if_neg (show ¬ dirN od from hn)])
            have hls2 : LS = [] := HLSE.out.trans (by rw [lsL, if_neg (show ¬ dirN od from hn)])
            have HLP : Hid (DLoop w X t x (k + 1) w4) := Lib.hid ⟨_, _, _, H4.out⟩
            subst hle1
            subst hls2
            rw [decide_eq_false hn]
            clear hn HLE HLSE
            go_wp2_with fail
            go_roundw
            case rel => exact ⟨k + 1, by omega, by go_num, HLP⟩
            case measure => simp [intOf]; omega
      · obtain rfl : k = l.length := by omega
        obtain ⟨F1, G1, M, hI⟩ := HI.out
        have HCH := Lib.hid (kv_check hI.dr.kv (by have := hI.dr.len; have := hI.dr.few; omega))
        have HII := Lib.hid hI
        clear hlt hI
        go_wp2_with fail
        refine HCH.out.mono ?_
        rintro e w3 ⟨rfl, F3, hk3, ho, hg⟩
        have h3 := HII.out.left ⟨hk3, HII.out.dr.dir, HII.out.dr.len, HII.out.dr.few⟩ ho hg
        have HAW := Lib.hid (HA.out w3)
        have H3 := Lib.hid h3
        clear hk3 ho hg h3
        go_wp2_with fail
        refine HAW.out.mono ?_
        rintro e w4 ⟨rfl, ho⟩
        have h4 := H3.out.quit ho
        obtain ⟨lv, hb, hown⟩ := h4.rf.cells
        obtain ⟨xA, xc, rfl, _⟩ := hown.shape
        have c0 : w4.cell? ⟨x, 0, none⟩ = some (.slice xA M.length xc) := hb.cell 0
        have HE := Lib.hid h4.ap.only
        clear h4 hb hown ho
        go_wp2_with fail
        go_ret
        exact ⟨rfl, HE.out⟩
end
theorem dirsDoes_walk (w : World) (v : Value) (l : List OpS) (hl : SOps w (Old w) v l) (_ : ∀ o ∈ l, (Lit.int .i64 o.b).wf = true ∧ (Lit.int .i64 o.c).wf = true ∧ o.s.length ≤ maxLen) :
    Calls Tryz.prog 3 #[v] w (Quit w (.bool true)) := dirsDoes_main v l hl
end Go.Proofs.YtklfkocebhhgcaaGreat
