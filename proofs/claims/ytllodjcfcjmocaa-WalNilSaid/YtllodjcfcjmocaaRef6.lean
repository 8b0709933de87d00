import Derived.Test.YtllodjcfcjmocaaRef5
import Derived.Deep.OwnRows
/- THE DOCUMENT's DISK: New. -/
namespace Go.Proofs.Ytllodjcfcjmocaa
open Go.RowKit Go.Proofs
theorem Ty.string : Elt Try.prog 9 (.string ⟨#[]⟩) 1 16 := ⟨by kernel_rfl, rfl, by omega, by omega⟩
/-- A new slice of noughts, as a text. -/
theorem conv_made {w : World} {c m : Nat} (h : Blk w c 5 (madeCells #[.int .u8 0] m)) : (convert 28 9 (.slice (some ⟨c, 0, none⟩) m m)).run Try.prog w = .ok (strOf (DD.zero m)) w := by
  have hb : Bytes w (fun k => k = c) (.slice (some ⟨c, 0, none⟩) (DD.zero m).length m) (DD.zero m) := by
    refine ⟨_, _, rfl, by simp [DD.zero], by simp, fun _ => ⟨_, rfl, rfl, fun j u hu => ?_⟩⟩
    have e := madeCells_one (.int .u8 0) m
    rw [Nat.mul_one] at e
    rw [e] at h
    rw [Addr.add_lit, Nat.zero_add, h.cell]
    rw [← hu]
    simp [DD.zero, byteV, Array.getElem?_replicate, List.getElem?_replicate]
  have := conv_bytes hb
  rwa [show (DD.zero m).length = m by simp [DD.zero]] at this

section
variable {R F : Nat → Prop} {b : Nat} {D : DD} {lv cv kv : Value} {xs : List Value} {w w' : World}
/-- One sector more. -/
theorem RefIn.grow (h : RefIn w R b D lv cv kv xs) (hR : ∀ k, ¬ R k) (hn : D.n + 1 ≤ 65536) {lv' : Value} (ha : App w (fun k => lv.ownBlock = some k) 9 1 lv D.n 1 (rowL D.n D.done) [strOf (D.done D.n)] lv' w') (hcn : cv = .slice none 0 0) :
    RefIn (w'.setCell ⟨b, 1, none⟩ lv') R b { D with n := D.n + 1 } lv' cv kv xs := by
  have ho := ha.only
  have hne : ∀ k, k ≠ b → (w'.setCell ⟨b, 1, none⟩ lv').heap[k]? = w'.heap[k]? := fun k hk => Below.heap_setCell w' _ _ k hk
  have hlvb : ∀ g, lv'.ownBlock = some g → g ≠ b := by
    intro g hg
    rcases ha.own.2 g hg with hg | rfl
    · exact fun e => h.lv_ne (e ▸ hg)
    · exact fun e => by have := h.blk.lt; omega
  have hR' : ∀ k, R k → k < w.heap.size → (w'.setCell ⟨b, 1, none⟩ lv').heap[k]? = w.heap[k]? := fun k hk => absurd hk (hR k)
  refine ⟨h.rb, fun g _ => hR g, h.rc, fun k hk => absurd hk (hR k), (h.blk.only ho h.lv_ne).set_ 1 lv', ?_, ?_, h.cache.keep hR', fun c hc => Nat.lt_succ_of_lt (h.cn c hc), Rd.keep h.kept hR', h.left, h.cap, h.deeds, hn, h.m⟩
  · have := ownsRow_keep (w' := w'.setCell ⟨b, 1, none⟩ lv') ha.own.1 fun k hk => hne k (hlvb k hk)
    rw [rowL_snoc] at this
    exact this
  · subst hcn
    exact ownsRow_keep h.own fun k hk => by cases hk
/-- What New answers: a new disk. -/
def RMade (w : World) (n m : Nat) (e : Ending) (w' : World) : Prop :=
  ∃ b F, e = .returned (.pointer (some ⟨b, 0, none⟩)) ∧ RefAt w' F b (DD.new n m) ∧ Only NoB w w' ∧ ∀ k, F k → w.heap.size ≤ k
/-- What New's loop holds. -/
def NewInv (w : World) (b m k : Nat) (wr : World) : Prop :=
  ∃ lv, RefIn wr (fun _ => False) b (DD.new k m) lv (.slice none 0 0) (.slice none 0 0) [] ∧ Only NoB w wr ∧ ∀ g, lv.ownBlock = some g → w.heap.size ≤ g
theorem NewInv.next {b m k : Nat} {w1 w2 : World} {lv lv' : Value} (h : RefIn w' (fun _ => False) b (DD.new k m) lv (.slice none 0 0) (.slice none 0 0) []) (ho : Only NoB w w') (hb : w.heap.size ≤ b) (hl : ∀ g, lv.ownBlock = some g → w.heap.size ≤ g) (hk : k + 1 ≤ 65536)
    (ho1 : Only NoB w' w1) (ha : App w1 (fun k => lv.ownBlock = some k) 9 1 lv k 1 (rowL k fun _ => DD.zero m) [strOf (DD.zero m)] lv' w2) : NewInv w b m (k + 1) (w2.setCell ⟨b, 1, none⟩ lv') := by
  have h1 := h.only ho1 fun _ _ => id
  refine ⟨lv', h1.grow (fun _ => id) hk ha rfl, ?_, fun g hg => ?_⟩
  · exact (only_new (ho.trans ho1) ha.only hl).setCell (.inr hb) _
  · rcases ha.own.2 g hg with hg | rfl
    · exact hl g hg
    · have := ho.size; have := ho1.size; omega

set_option maxHeartbeats 2000000 in
theorem rnew_ok (n m : Nat) (h1 : 1 ≤ n) (h2 : n ≤ 65536) (h3 : 16 ≤ m) (h4 : m ≤ 4096) (w : World) : Calls Try.prog 22 #[.int .i64 n, .int .i64 m] w (RMade w n m) := by
  go_enter Try.func22, Try.ntmps22
  go_wp2_with fail
  have h0 : NewInv w w.heap.size m 0 (w.alloc (.cells (refCells (DD.new 0 m) (.slice none 0 0) (.slice none 0 0) (.slice none 0 0)) 56)) :=
    ⟨.slice none 0 0, ⟨id, fun g hg => (by cases hg), fun g hg => (by cases hg), fun k hk => hk.elim, Blk.new _ _ _, World.ownsRow_nil _ _ _ _, World.ownsRow_nil _ _ _ _, trivial, fun c hc => (by cases hc), Rd.nil _ _ _, by simp [DD.new], by simp [DD.new], by simp [DD.new], by simp [DD.new], h4⟩, (Only.refl NoB w).alloc _, fun g hg => (by cases hg)⟩
  have H0 := Lib.hid h0
  clear h0
  go_loopw [6] (fun i wr => ∃ k : Nat, k ≤ n ∧ i = .int .i64 k ∧ NewInv w w.heap.size m k wr) (fun i _ => n - (intOf i).toNat)
  case atStart => exact ⟨0, Nat.zero_le _, rfl, H0.out⟩
  case round =>
    obtain ⟨k, hk, rfl, lv, hR, ho, hl⟩ := hrel
    clear H0
    by_cases hlt : k < n
    · obtain ⟨lA, lc, rfl, _⟩ := Own.shape (F := fun _ => True) ⟨hR.sec, fun _ _ => trivial⟩
      have hb1 : wr.cell? ⟨w.heap.size, 1, none⟩ = some (.slice lA k lc) := hR.cell 1 _ rfl
      have HR := Lib.hid hR
      have HO := Lib.hid ho
      have HL := Lib.hid hl
      clear hR ho hl
      have hmk := run_make_row' (P := Try.prog) 28 5 (.int .u8 0) 1 Ty.bytesU Ty.byte.1 rfl .i64 .i64 m (by omega) (by omega)
      obtain ⟨O, hO⟩ : ∃ O, O = Obj.cells (madeCells #[.int .u8 0] m) 5 := ⟨_, rfl⟩
      rw [← hO] at hmk
      have hcv : (convert 28 9 (.slice (some ⟨wr.heap.size, 0, none⟩) m m)).run Try.prog ((wr.alloc O).drew) = .ok (strOf (DD.zero m)) ((wr.alloc O).drew) := conv_made (by rw [hO]; exact (Blk.new wr _ _).drew)
      unfold strOf at hcv
      obtain ⟨S, hS⟩ : ∃ S, Value.string S = strOf (DD.zero m) := ⟨_, rfl⟩
      unfold strOf at hS
      rw [← hS] at hcv
      have HS := Lib.hid hS
      have HX : Hid (Only NoB wr (((wr.alloc O).alloc (Obj.cells #[Value.string S] 9)).drew)) := Lib.hid ((((Only.refl NoB wr).alloc _).alloc _).drew)
      have c1 : (wr.alloc O).cell? ⟨w.heap.size, 1, none⟩ = some (.slice lA k lc) := ((Only.refl NoB wr).alloc O).cell hb1 id
      have c1' : ((wr.alloc O).alloc (Obj.cells #[Value.string S] 9)).cell? ⟨w.heap.size, 1, none⟩ = some (.slice lA k lc) := HX.out.cell hb1 id
      have hrd := rd_new (wr.alloc O) 9 1 1 [Value.string S] rfl
      rw [World.size_alloc] at hrd
      have HRD : Hid (Rd (((wr.alloc O).alloc (Obj.cells #[Value.string S] 9)).drew) (fun k => k = wr.heap.size + 1) 1 (.slice (some ⟨wr.heap.size + 1, 0, none⟩) 1 1) 1 [Value.string S]) := Lib.hid hrd
      clear hrd
      clear hO hS
      go_wp2_with fail
      go_region_law
        (first
          | (refine step_app (by rfl) _ _ _ (by rfl) (by kernel_rfl) Ty.string (by rfl) (by rfl) (v := .slice lA k lc) (F := fun q => (Value.slice lA k lc).ownBlock = some q) (xs := rowL k fun _ => DD.zero m) (n := k) (m := 1) (sv := .slice (some ⟨wr.heap.size + 1, 0, none⟩) 1 1) (news := [Value.string S]) (own_of HR.out.sec HX.out fun _ _ => id) HRD.out (by simp [Value.oneCell']) (by omega) ?_; intro cv' w2 ha; obtain ⟨A2, c2, rfl, _⟩ := id ha.shape; have hb2 := (HR.out.blk.only HX.out id).only ha.only HR.out.lv_ne; have c3 : w2.cell? ⟨w.heap.size, 1, none⟩ = some (.slice lA k lc) := (hb2.cell 1).trans rfl; have f3 := hb2.frozen 1)
          | fail)
      all_goals
        go_wp2_with fail
        have hx := HX.out
        rw [show Value.string S = strOf (DD.zero m) from HS.out] at ha hx
        exact ⟨⟨k + 1, by omega, by go_num, NewInv.next HR.out HO.out (Nat.le_refl _) HL.out (by omega) hx ha⟩, by simp [intOf]; omega⟩
    · obtain rfl : k = n := by omega
      go_wp2_with fail
      go_ret
      refine ⟨w.heap.size, fun q => w.heap.size ≤ q ∧ q < wr.heap.size, rfl, ⟨fun _ hq => hq.2, _, _, _, _, _, hR, fun q hq => ⟨?_, hR.ltF q hq⟩⟩, ho, fun _ hq => hq.1⟩
      rcases hq with hq | rfl | hq | hq
      · exact hq.elim
      · exact Nat.le_refl _
      · exact hl q hq
      · cases hq
end
end Go.Proofs.Ytllodjcfcjmocaa
