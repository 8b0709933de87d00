import Derived.Test.YtllodjcfcjmocaaWalAwake
import Derived.Test.YtllodjcfcjmocaaArgs
/- A WAL THAT IS NIL answers ErrNil, or nothing; none is opened of a disk that is nil, or without power. -/
namespace Go.Proofs.Ytllodjcfcjmocaa
open Go.RowKit Go.Proofs

set_option maxHeartbeats 4000000 in
theorem walNil_walk (w : World) (n : Int) (_ : (Lit.int .i64 n).wf = true) (v : Value) (hv : ∃ A k c, v = .slice A k c) : Calls Try.prog 8 #[.int .i64 n, v] w (Quit w (.bool true)) := by
  obtain ⟨A, k, c, rfl⟩ := hv
  go_enter Try.func8, Try.ntmps8
  go_wp2_with fail
  refine (wread_nil _ _).mono ?_
  rintro e w1 ⟨rfl, rfl⟩
  go_wp2_with fail
  refine (wsize_nil _).mono ?_
  rintro e w1 ⟨rfl, rfl⟩
  go_wp2_with fail
  refine (wopen_nil _ _).mono ?_
  rintro e w1 ⟨rfl, rfl⟩
  go_wp2_with fail
  refine (new_ok 8 16 (by omega) (by omega) (by omega) (by omega) _).mono ?_
  rintro e w2 ⟨b, F, rfl, hd, ho1, hF⟩
  have HC := Lib.hid (crash_any hd (fun _ => False) (.slice none 0 0) [] (Rd.nil _ _ _) (fun _ h => h.elim) (by simp))
  have O1 := Lib.hid ho1
  have HF := Lib.hid hF
  clear hd ho1 hF
  go_wp2_with fail
  refine HC.out.mono ?_
  rintro e w3 ⟨rfl, F', hd, ho2, hg⟩
  have HOP := Lib.hid (wopen_down hd 1 (by omega) (by decide) (by decide) rfl)
  have O2 := Lib.hid (only_new O1.out ho2 HF.out)
  clear hd ho2 hg HC O1 HF
  go_wp2_with fail
  refine HOP.out.mono ?_
  rintro e w4 ⟨rfl, ho3⟩
  have O3 := Lib.hid (O2.out.trans ho3)
  clear ho3 HOP O2
  go_wp2_with fail
  refine (wawake_any _).mono ?_
  rintro e w5 ⟨rfl, ho4⟩
  have O4 := Lib.hid (O3.out.trans ho4)
  clear ho4 O3
  go_wp2_with fail
  refine (wlog_nil _).mono ?_
  rintro e w6 ⟨rfl, rfl⟩
  go_wp2_with fail
  refine (wcommit_nil _ _ _ _).mono ?_
  rintro e w6 ⟨rfl, rfl⟩
  go_wp2_with fail
  go_ret
  exact ⟨rfl, O4.out⟩
end Go.Proofs.Ytllodjcfcjmocaa
