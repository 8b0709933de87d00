/-
  For every script of calls ProfilesRise returns true, and leaves its argument as it was.
  Conditions: none but the row's own.
-/
import Derived.Test.YtpjfheadolphgaaGreatRows
import Derived.Test.YtpjfheadolphgaaGreatMhRise
import Derived.ProofKit
import Derived.SizedLaws
import Derived.OpenShut
import Derived.ShutString
import Derived.ChangeOld
namespace Go.Proofs.YtpjfheadolphgaaGreat.profilesRiseRow
open Go.ChangeShapes Go.WideShapes Go.ChangeAt Go.RowKit
open Go.ChangeMaps (open_string shut_string)
theorem own : ownKnob Tryz.prog.godebug = none := by kernel_rfl
theorem laidOut : laidOutB Tryz.prog = true := by kernel_rfl
set_option maxRecDepth 100000 in
theorem lifted (os : Os) (started : os.Started) (H : Type) (enc : TypeId × Value → H) :
    ReturnsInHanded {} Tryz.checked os 11 .any (Rows.profilesRiseSpec.pre6 enc Tryz.prog Tryz.f11 Rows.profilesRiseRow.domain false) (Rows.profilesRiseSpec.post enc Tryz.prog Tryz.f11 false true false false) := by
  refine returnsInHanded_of_change_sized (C := Tryz.checked) own started (by kernel_rfl) Tryz.func11
    (ChangeSpec.witness6 (enc := enc) (C := Tryz.checked) false ⟨#[], #[.slice none 0 0], []⟩ 8 (by kernel_rfl) (by kernel_rfl) (by kernel_rfl) (by kernel_rfl)) ?_
  intro W base args ds gs before hval0 hW hcnd hz0 _
  have hval : ∀ (j : Nat) t v, Tryz.f11.params[j]? = some t → args[j]? = some v → Value.okWide Tryz.prog W .any base t v := hval0
  have hz : (DataW.weightsEach Tryz.prog (Tryz.f11.params.toList ++ Rows.profilesRiseSpec.plain.varTypes Tryz.prog) (ds ++ gs)).all (· ≤ reachBytes) = true := hz0
  rw [Tryz.params11] at hz
  have hW' := hW
  obtain ⟨p, q, hA0, hV, rfl, hfz, hnd⟩ := hW
  have hA : DataW.TrodAll enc Tryz.prog W 0 (fun _ => true) true Tryz.f11.params.toList args.toList ds p := hA0
  rw [Tryz.params11] at hA hval
  obtain ⟨v0, vs0, d0, ds0, p0, q0, hargs, rfl, rfl, h0, r0⟩ := trodAll_cons hA
  obtain ⟨rfl, rfl, rfl⟩ := trodAll_nil r0
  obtain rfl : args = #[v0] := by cases args; simp_all
  obtain ⟨rfl, rfl⟩ := trodVars_none hV
  obtain ⟨a0, len0, cap0, hv0⟩ := okWide_slice Tryz.underlying93 (hval 0 93 v0 rfl rfl)
  have k0 := h0
  have lt0 : ∀ x ∈ p0, x.block < W.heap.size := by obtain ⟨m, hm⟩ := k0; exact DataW.trod_lt m _ _ _ hm
  obtain ⟨l0, w0, g0⟩ := arg_scp (by kernel_rfl) Tryz.underlying98 (by kernel_rfl) (by kernel_rfl) (by kernel_rfl) (ti := 3) (ts := 9) (by kernel_rfl) (by kernel_rfl) h0 (by rw [hv0]; rfl) (fun n hn => by
    have := List.all_eq_true.1 hz _ (DataW.weights_mem_each (j := 0) (t := 93) (d := d0) rfl rfl n hn)
    simpa using this)
  clear hA0 hval0 hz0 hz
  refine (profilesRise_walk W v0 l0 w0 g0).mono fun e W' ⟨he, only⟩ => ?_
  have bel : Below W.heap.size W W' := only.below (Nat.le_refl _) (fun _ h => h.elim)
  subst he
  exact ⟨_, rfl, _, _, _, [], _, [], hW', trodAll_mk1 (shut_bool Tryz.underlying4 _), (trodAll_cons_mk (Below.trod laidOut (by kernel_rfl) (of_decide_eq_true (by kernel_rfl)) k0 bel lt0) trodAll_mk0), rfl, bel.frame _, fun h => by cases h⟩
theorem joined_of {P : Program} {f : FuncId} {fn : Func} {s : ChangeSpec} {c : OpenClaim}
    (h0 : (c.wf (OpenSpec.ofChange s)) = true)
    (h1 : (laidOutB P) = true)
    (h2 : (mapsRowed P) = true)
    (h3 : (fn.params.all (P.readableRec ·)) = true)
    (h4 : (namedTie P c.named s.vars) = true)
    (h5 : ((c.stops == [])) = true)
    (h6 : ((P.stops == [])) = true)
    (h7 : ((c.knobs == [])) = true)
    (h8 : ((P.stopKnobs == [])) = true)
    (h9 : ((c.inPlace == P.inPlace f)) = true)
    (h10 : ((c.unfollowed == P.unfollowed f)) = true)
    (h11 : ((c.recurses == P.recurses f)) = true)
    (h12 : ((c.named == P.varsNamed f)) = true)
    (h13 : ((c.maps == (fn.params.toList ++ s.plain.varTypes P).any (P.mapsRec ·))) = true)
    (h14 : ((c.ifaces == (fn.params.toList ++ s.plain.varTypes P).any (P.ifacesRec ·))) = true)
    (h15 : ((c.mapsOut == P.mapsAmong fn.resultTypes.toList)) = true)
    (h16 : ((c.loops == (fn.params.toList ++ s.plain.varTypes P).any (P.loopsFrom ·))) = true)
    (h17 : ((c.wideKeys == (fn.params.toList ++ s.plain.varTypes P ++ fn.resultTypes.toList).any (P.wideKeysFrom ·))) = true)
    (h18 : (s.vars.all (P.varReadable ·)) = true)
    (h19 : (fn.resultTypes.all (fun t => P.readableRec t && decide (t < P.types.size))) = true)
    (h20 : ((c.ifacesOut == fn.resultTypes.toList.any (P.ifacesRec ·))) = true)
    (h21 : ((c.loopsOut == fn.resultTypes.toList.any (P.loopsFrom ·))) = true)
    (h22 : ((c.plainKeys == P.plainKeys)) = true)
    (h23 : (c.shortTexts.isNone) = true)
    (h24 : (P.stopsHeard) = true)
    (h25 : (P.mayEnter) = true)
    (h26 : ((c.lifted == P.liftsFinal)) = true)
    (h27 : ((P.make == some c.make)) = true)
    (h28 : ((c.kinds == (if c.domain.isEmpty then [] else fn.params.toList.map fun t => match P.underlying t with | some (.int k) => some k | _ => none))) = true)
    (h29 : ((c.pinned == c.pinnedBy)) = true)
    (h30 : ((c.veiled == (fn.params.toList ++ s.plain.varTypes P ++ fn.resultTypes.toList).any (P.veiledRec ·))) = true)
    (h31 : (c.veiledFits P fn.params.toList (fn.params.toList ++ s.plain.varTypes P ++ fn.resultTypes.toList)) = true)
    : joinedFacts P f fn s c = true := by
  unfold joinedFacts
  refine Bool.and_eq_true_iff.2 ⟨?_, h31⟩
  refine Bool.and_eq_true_iff.2 ⟨?_, h30⟩
  refine Bool.and_eq_true_iff.2 ⟨?_, h29⟩
  refine Bool.and_eq_true_iff.2 ⟨?_, h28⟩
  refine Bool.and_eq_true_iff.2 ⟨?_, h27⟩
  refine Bool.and_eq_true_iff.2 ⟨?_, h26⟩
  refine Bool.and_eq_true_iff.2 ⟨?_, h25⟩
  refine Bool.and_eq_true_iff.2 ⟨?_, h24⟩
  refine Bool.and_eq_true_iff.2 ⟨?_, h23⟩
  refine Bool.and_eq_true_iff.2 ⟨?_, h22⟩
  refine Bool.and_eq_true_iff.2 ⟨?_, h21⟩
  refine Bool.and_eq_true_iff.2 ⟨?_, h20⟩
  refine Bool.and_eq_true_iff.2 ⟨?_, h19⟩
  refine Bool.and_eq_true_iff.2 ⟨?_, h18⟩
  refine Bool.and_eq_true_iff.2 ⟨?_, h17⟩
  refine Bool.and_eq_true_iff.2 ⟨?_, h16⟩
  refine Bool.and_eq_true_iff.2 ⟨?_, h15⟩
  refine Bool.and_eq_true_iff.2 ⟨?_, h14⟩
  refine Bool.and_eq_true_iff.2 ⟨?_, h13⟩
  refine Bool.and_eq_true_iff.2 ⟨?_, h12⟩
  refine Bool.and_eq_true_iff.2 ⟨?_, h11⟩
  refine Bool.and_eq_true_iff.2 ⟨?_, h10⟩
  refine Bool.and_eq_true_iff.2 ⟨?_, h9⟩
  refine Bool.and_eq_true_iff.2 ⟨?_, h8⟩
  refine Bool.and_eq_true_iff.2 ⟨?_, h7⟩
  refine Bool.and_eq_true_iff.2 ⟨?_, h6⟩
  refine Bool.and_eq_true_iff.2 ⟨?_, h5⟩
  refine Bool.and_eq_true_iff.2 ⟨?_, h4⟩
  refine Bool.and_eq_true_iff.2 ⟨?_, h3⟩
  refine Bool.and_eq_true_iff.2 ⟨?_, h2⟩
  refine Bool.and_eq_true_iff.2 ⟨?_, h1⟩
  exact h0
theorem fact0 : (Rows.profilesRiseRow.wf (OpenSpec.ofChange Rows.profilesRiseSpec)) = true := by kernel_rfl
theorem fact1 : (laidOutB Tryz.pinned.checked.prog) = true := by kernel_rfl
theorem fact2 : (mapsRowed Tryz.pinned.checked.prog) = true := by kernel_rfl
theorem fact3 : (Tryz.f11.params.all (Tryz.pinned.checked.prog.readableRec ·)) = true := by kernel_rfl
theorem fact4 : (namedTie Tryz.pinned.checked.prog Rows.profilesRiseRow.named Rows.profilesRiseSpec.vars) = true := by kernel_rfl
theorem fact5 : ((Rows.profilesRiseRow.stops == [])) = true := by kernel_rfl
theorem fact6 : ((Tryz.pinned.checked.prog.stops == [])) = true := by kernel_rfl
theorem fact7 : ((Rows.profilesRiseRow.knobs == [])) = true := by kernel_rfl
theorem fact8 : ((Tryz.pinned.checked.prog.stopKnobs == [])) = true := by kernel_rfl
theorem fact9 : ((Rows.profilesRiseRow.inPlace == Tryz.pinned.checked.prog.inPlace 11)) = true := by kernel_rfl
theorem fact10 : ((Rows.profilesRiseRow.unfollowed == Tryz.pinned.checked.prog.unfollowed 11)) = true := by kernel_rfl
theorem fact11 : ((Rows.profilesRiseRow.recurses == Tryz.pinned.checked.prog.recurses 11)) = true := by kernel_rfl
theorem fact12 : ((Rows.profilesRiseRow.named == Tryz.pinned.checked.prog.varsNamed 11)) = true := by kernel_rfl
theorem fact13 : ((Rows.profilesRiseRow.maps == (Tryz.f11.params.toList ++ Rows.profilesRiseSpec.plain.varTypes Tryz.pinned.checked.prog).any (Tryz.pinned.checked.prog.mapsRec ·))) = true := by kernel_rfl
theorem fact14 : ((Rows.profilesRiseRow.ifaces == (Tryz.f11.params.toList ++ Rows.profilesRiseSpec.plain.varTypes Tryz.pinned.checked.prog).any (Tryz.pinned.checked.prog.ifacesRec ·))) = true := by kernel_rfl
theorem fact15 : ((Rows.profilesRiseRow.mapsOut == Tryz.pinned.checked.prog.mapsAmong Tryz.f11.resultTypes.toList)) = true := by kernel_rfl
theorem fact16 : ((Rows.profilesRiseRow.loops == (Tryz.f11.params.toList ++ Rows.profilesRiseSpec.plain.varTypes Tryz.pinned.checked.prog).any (Tryz.pinned.checked.prog.loopsFrom ·))) = true := by kernel_rfl
theorem fact17 : ((Rows.profilesRiseRow.wideKeys == (Tryz.f11.params.toList ++ Rows.profilesRiseSpec.plain.varTypes Tryz.pinned.checked.prog ++ Tryz.f11.resultTypes.toList).any (Tryz.pinned.checked.prog.wideKeysFrom ·))) = true := by kernel_rfl
theorem fact18 : (Rows.profilesRiseSpec.vars.all (Tryz.pinned.checked.prog.varReadable ·)) = true := by kernel_rfl
theorem fact19 : (Tryz.f11.resultTypes.all (fun t => Tryz.pinned.checked.prog.readableRec t && decide (t < Tryz.pinned.checked.prog.types.size))) = true := by kernel_rfl
theorem fact20 : ((Rows.profilesRiseRow.ifacesOut == Tryz.f11.resultTypes.toList.any (Tryz.pinned.checked.prog.ifacesRec ·))) = true := by kernel_rfl
theorem fact21 : ((Rows.profilesRiseRow.loopsOut == Tryz.f11.resultTypes.toList.any (Tryz.pinned.checked.prog.loopsFrom ·))) = true := by kernel_rfl
theorem fact22 : ((Rows.profilesRiseRow.plainKeys == Tryz.pinned.checked.prog.plainKeys)) = true := by kernel_rfl
theorem fact23 : (Rows.profilesRiseRow.shortTexts.isNone) = true := by kernel_rfl
theorem fact24 : (Tryz.pinned.checked.prog.stopsHeard) = true := by kernel_rfl
theorem fact25 : (Tryz.pinned.checked.prog.mayEnter) = true := by kernel_rfl
theorem fact26 : ((Rows.profilesRiseRow.lifted == Tryz.pinned.checked.prog.liftsFinal)) = true := by kernel_rfl
theorem fact27 : ((Tryz.pinned.checked.prog.make == some Rows.profilesRiseRow.make)) = true := by kernel_rfl
theorem fact28 : ((Rows.profilesRiseRow.kinds == (if Rows.profilesRiseRow.domain.isEmpty then [] else Tryz.f11.params.toList.map fun t => match Tryz.pinned.checked.prog.underlying t with | some (.int k) => some k | _ => none))) = true := by kernel_rfl
theorem fact29 : ((Rows.profilesRiseRow.pinned == Rows.profilesRiseRow.pinnedBy)) = true := by kernel_rfl
theorem fact30 : ((Rows.profilesRiseRow.veiled == (Tryz.f11.params.toList ++ Rows.profilesRiseSpec.plain.varTypes Tryz.pinned.checked.prog ++ Tryz.f11.resultTypes.toList).any (Tryz.pinned.checked.prog.veiledRec ·))) = true := by kernel_rfl
theorem fact31 : (Rows.profilesRiseRow.veiledFits Tryz.pinned.checked.prog Tryz.f11.params.toList (Tryz.f11.params.toList ++ Rows.profilesRiseSpec.plain.varTypes Tryz.pinned.checked.prog ++ Tryz.f11.resultTypes.toList)) = true := by kernel_rfl
theorem facts : joinedFacts Tryz.pinned.checked.prog 11 Tryz.f11 Rows.profilesRiseSpec Rows.profilesRiseRow = true := joined_of fact0 fact1 fact2 fact3 fact4 fact5 fact6 fact7 fact8 fact9 fact10 fact11 fact12 fact13 fact14 fact15 fact16 fact17 fact18 fact19 fact20 fact21 fact22 fact23 fact24 fact25 fact26 fact27 fact28 fact29 fact30 fact31
theorem over : Rows.profilesRiseRow.holds Tryz.pinned (OpenSpec.ofChange Rows.profilesRiseSpec) :=
  OpenClaim.holds_of_wide 11 Tryz.f11 rfl rfl rfl rfl rfl rfl rfl ⟨rfl, rfl, rfl, rfl, rfl⟩ rfl rfl rfl rfl rfl (by kernel_rfl) Tryz.func11 (facts)
    (of_decide_eq_true (by kernel_rfl)) (by unfold Func.isWrapper; first | (rw [if_pos (by decide +kernel)]; kernel_rfl) | (rw [if_neg (by decide +kernel)]; exact ⟨rfl, rfl⟩))
    (fun os started H enc _ => lifted os started H enc)
/-- The statement. -/
theorem proved : Rows.ProfilesRiseSaid := over
#print axioms proved
end Go.Proofs.YtpjfheadolphgaaGreat.profilesRiseRow
