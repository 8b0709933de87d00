import Derived.Test.YtpjfheadolphgaaGreatMg7
set_option linter.unusedVariables false
set_option linter.unusedSimpArgs false
namespace Go.Proofs.YtpjfheadolphgaaGreat
open Go.RowKit Go.Proofs Go.Shelf
set_option maxRecDepth 20000
attribute [local go_sem] Oper.semAt_some
section
variable {w w' : World}
set_option maxHeartbeats 4000000 in
theorem profilesNil_main (a : Str) (n : Int) : Calls Tryz.prog 14 #[.string ⟨a.toArray⟩, .int .i64 n] w fun e w' => e = .returned (.bool true) ∧ Only NoB w w' := by
 have HC := Pk.mk fun w => pcurrent_nil (p := [112]) (by decide) w
 have HL := Pk.mk fun w => plist_nil (p := [112]) (by decide) w
 have HA := Pk.mk fun w => padd_nil a (a := nmK 0) (by decide) w
 have HALL := Pk.mk fun w => pall_nil w
 have HW := Pk.mk fun w => awake25_ok (w := w)
 have HS := Pk.mk fun n w => pswitch_nil (p := [112]) (by decide) n w
 go_enter Tryz.func14, Tryz.ntmps14
 go_wp2_with fail
 refine (HC.out _).mono ?_
 rintro e w1 ⟨rfl, ho⟩
 have HO1 := Pk.mk (ho.alloc (.cells #[.int .i64 0, .string ⟨#[]⟩] 105))
 clear ho
 go_wp2_with fail
 refine (HL.out _).mono ?_
 rintro e w2 ⟨rfl, ho⟩
 have HO2 := Pk.mk (HO1.out.trans ho)
 clear ho
 go_wp2_with fail
 refine (HA.out _).mono ?_
 rintro e w3 ⟨m, rfl, hm, ho⟩
 have HO3 := Pk.mk (HO2.out.trans ho)
 clear ho
 go_wp2_with fail
 refine (HALL.out _).mono ?_
 rintro e w4 ⟨rfl, ho⟩
 have HO4 := Pk.mk (HO3.out.trans ho)
 clear ho
 go_wp2_with fail
 refine (HW.out _).mono ?_
 rintro e w5 ⟨rfl, ho⟩
 have HO5 := Pk.mk (HO4.out.trans ho)
 clear ho
 rcases hm with rfl | rfl
 all_goals go_wp2_with fail
 all_goals
  refine (HS.out _ _).mono ?_
  rintro e w6 ⟨rfl, ho⟩
  have HO6 := Pk.mk (HO5.out.trans ho)
  clear ho
  go_wp2_with fail
  go_ret
  exact ⟨rfl, HO6.out⟩
end
theorem profilesNil_walk (w : World) (s0 : ByteArray) (_ : s0.size ≤ maxLen) (n : Int) (_ : (Lit.int .i64 n).wf = true) : Calls Tryz.prog 14 #[.string s0, .int .i64 n] w (Quit w (.bool true)) := by
 obtain ⟨⟨a⟩, rfl⟩ : ∃ x : Array UInt8, s0 = ⟨x⟩ := ⟨s0.data, rfl⟩
 exact profilesNil_main a n
end Go.Proofs.YtpjfheadolphgaaGreat
