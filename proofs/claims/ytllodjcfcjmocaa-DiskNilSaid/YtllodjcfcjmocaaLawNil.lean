import Derived.Test.YtllodjcfcjmocaaAwake
import Derived.Test.YtllodjcfcjmocaaArgs
/- A DISK THAT IS NIL answers ErrNil, or nothing. -/
namespace Go.Proofs.Ytllodjcfcjmocaa
open Go.RowKit Go.Proofs

set_option maxHeartbeats 1000000 in
theorem diskNil_walk (w : World) (n : Int) (_ : (Lit.int .i64 n).wf = true) (v : Value) (l : List UInt8) (hv : Bytes w (Old w) v l) : Calls Try.prog 7 #[.int .i64 n, v] w (Quit w (.bool true)) := by
  obtain ⟨A, cap, rfl, _⟩ := hv
  go_enter Try.func7, Try.ntmps7
  go_wp2_with fail
  refine (on_nil _).mono ?_
  rintro e w1 ⟨rfl, rfl⟩
  go_wp2_with fail
  refine (arm_nil _ _ _ _ _).mono ?_
  rintro e w1 ⟨rfl, rfl⟩
  go_wp2_with fail
  refine (crash_nil _ _ _ _).mono ?_
  rintro e w1 ⟨rfl, ho1⟩
  have O1 := Lib.hid ho1
  clear ho1
  go_wp2_with fail
  refine (read_nil _ _).mono ?_
  rintro e w2 ⟨v2, rfl, hb, ho2⟩
  obtain ⟨A2, c2, rfl, _⟩ := id hb
  simp only [List.length_nil]
  have O2 := Lib.hid (O1.out.trans ho2)
  clear hb ho2 O1
  go_wp2_with fail
  refine (size_nil _).mono ?_
  rintro e w3 ⟨rfl, rfl⟩
  go_wp2_with fail
  refine (awake_any _).mono ?_
  rintro e w3 ⟨rfl, ho3⟩
  have O3 := Lib.hid (O2.out.trans ho3)
  clear ho3 O2
  go_wp2_with fail
  refine (write_nil _ _ _).mono ?_
  rintro e w4 ⟨rfl, rfl⟩
  go_wp2_with fail
  refine (flush_nil _).mono ?_
  rintro e w4 ⟨rfl, rfl⟩
  go_wp2_with fail
  refine (up_nil _).mono ?_
  rintro e w4 ⟨rfl, rfl⟩
  go_wp2_with fail
  refine (deeds_nil _).mono ?_
  rintro e w4 ⟨rfl, rfl⟩
  go_wp2_with fail
  go_ret
  exact ⟨rfl, O3.out⟩
end Go.Proofs.Ytllodjcfcjmocaa
