/- Part 27 of 27 of the contracts below the law: each theorem states, of one function of the program, at a world of the form that its premises name, what the call answers and what it leaves. -/
import Derived.Test.YtoffondipgjcoaaGreatDoorP25
import Derived.Test.YtoffondipgjcoaaGreatDoorP26
/- The law BaseNil, walked: lives answers true; a base and a transaction that aren't there answer as the law asks. -/
set_option linter.unusedVariables false
set_option maxRecDepth 100000
set_option linter.unusedSimpArgs false
namespace Go.Proofs.YtoffondipgjcoaaGreatDoor
open Go.RowKit

set_option maxHeartbeats 4000000 in
theorem bnil_c (a n : Int) (s1 s2 s3 : ByteArray) (w : World) :
    Calls Tryz.prog 3 #[.agg #[.int .i64 a, .string s1, .string s2, .string s3, .int .i64 n]] w fun x w' => x = .returned (.bool true) ∧ Mod [] w w' := by
  go_enter Tryz.func3, Tryz.ntmps3
  go_wp2_with fail
  have hm0 : Mod [] w (w.alloc (Obj.cells #[.int .i64 a, .string s1, .string s2, .string s3, .int .i64 n] 23)) := (Mod.refl _ _).alloc _
  have hb0 := hp_new w (Obj.cells #[.int .i64 a, .string s1, .string s2, .string s3, .int .i64 n] 23)
  generalize w.alloc (Obj.cells #[.int .i64 a, .string s1, .string s2, .string s3, .int .i64 n] 23) = w1 at *
  generalize w.heap.size = o at *
  have HM1 := Lib.hid hm0; have HB1 := Lib.hid hb0
  clear hm0 hb0
  refine (lives_c w1).mono ?_
  rintro x w2 ⟨rfl, hm⟩
  have HM2 := Lib.hid (HM1.out.trans hm (by simp)); have HB2 := Lib.hid (hm.at HB1.out (by simp))
  clear hm
  go_wp2_with fail
  refine (nbegin_c w2).mono ?_
  rintro x w3 ⟨rfl, hm⟩
  have HM3 := Lib.hid (HM2.out.trans hm (by simp)); have HB3 := Lib.hid (hm.at HB2.out (by simp))
  clear hm
  obtain ⟨cb, fb⟩ := cells_of HB3.out
  have c1 : w3.cell? ⟨o, 1, none⟩ = some (.string s1) := cb 1
  have c2 : w3.cell? ⟨o, 2, none⟩ = some (.string s2) := cb 2
  have c3 : w3.cell? ⟨o, 3, none⟩ = some (.string s3) := cb 3
  have c4 : w3.cell? ⟨o, 4, none⟩ = some (.int .i64 n) := cb 4
  clear cb fb
  go_wp2_with fail
  clear c1 c2 c3 c4
  refine (nget_c s1 s2 w3).mono ?_
  rintro x w4 ⟨rfl, hm⟩
  have HM4 := Lib.hid (HM3.out.trans hm (by simp)); have HB4 := Lib.hid (hm.at HB3.out (by simp))
  clear hm
  obtain ⟨cb, fb⟩ := cells_of HB4.out
  have c1 : w4.cell? ⟨o, 1, none⟩ = some (.string s1) := cb 1
  have c2 : w4.cell? ⟨o, 2, none⟩ = some (.string s2) := cb 2
  have c3 : w4.cell? ⟨o, 3, none⟩ = some (.string s3) := cb 3
  have c4 : w4.cell? ⟨o, 4, none⟩ = some (.int .i64 n) := cb 4
  clear cb fb
  go_wp2_with fail
  clear c1 c2 c3 c4
  refine (nscan_c s1 s2 s3 w4).mono ?_
  rintro x w5 ⟨rfl, hm⟩
  have HM5 := Lib.hid (HM4.out.trans hm (by simp)); have HB5 := Lib.hid (hm.at HB4.out (by simp))
  clear hm
  obtain ⟨cb, fb⟩ := cells_of HB5.out
  have c1 : w5.cell? ⟨o, 1, none⟩ = some (.string s1) := cb 1
  have c2 : w5.cell? ⟨o, 2, none⟩ = some (.string s2) := cb 2
  have c3 : w5.cell? ⟨o, 3, none⟩ = some (.string s3) := cb 3
  have c4 : w5.cell? ⟨o, 4, none⟩ = some (.int .i64 n) := cb 4
  clear cb fb
  go_wp2_with fail
  clear c1 c2 c3 c4
  refine (ndelete_c s1 s2 w5).mono ?_
  rintro x w6 ⟨rfl, hm⟩
  have HM6 := Lib.hid (HM5.out.trans hm (by simp)); have HB6 := Lib.hid (hm.at HB5.out (by simp))
  clear hm
  obtain ⟨cb, fb⟩ := cells_of HB6.out
  have c1 : w6.cell? ⟨o, 1, none⟩ = some (.string s1) := cb 1
  have c2 : w6.cell? ⟨o, 2, none⟩ = some (.string s2) := cb 2
  have c3 : w6.cell? ⟨o, 3, none⟩ = some (.string s3) := cb 3
  have c4 : w6.cell? ⟨o, 4, none⟩ = some (.int .i64 n) := cb 4
  clear cb fb
  go_wp2_with fail
  clear c1 c2 c3 c4
  refine (ncount_c s1 w6).mono ?_
  rintro x w7 ⟨rfl, hm⟩
  have HM7 := Lib.hid (HM6.out.trans hm (by simp)); have HB7 := Lib.hid (hm.at HB6.out (by simp))
  clear hm
  obtain ⟨cb, fb⟩ := cells_of HB7.out
  have c1 : w7.cell? ⟨o, 1, none⟩ = some (.string s1) := cb 1
  have c2 : w7.cell? ⟨o, 2, none⟩ = some (.string s2) := cb 2
  have c3 : w7.cell? ⟨o, 3, none⟩ = some (.string s3) := cb 3
  have c4 : w7.cell? ⟨o, 4, none⟩ = some (.int .i64 n) := cb 4
  clear cb fb
  go_wp2_with fail
  clear c1 c2 c3 c4
  refine (nmake_c s1 w7).mono ?_
  rintro x w8 ⟨rfl, hm⟩
  have HM8 := Lib.hid (HM7.out.trans hm (by simp)); have HB8 := Lib.hid (hm.at HB7.out (by simp))
  clear hm
  obtain ⟨cb, fb⟩ := cells_of HB8.out
  have c1 : w8.cell? ⟨o, 1, none⟩ = some (.string s1) := cb 1
  have c2 : w8.cell? ⟨o, 2, none⟩ = some (.string s2) := cb 2
  have c3 : w8.cell? ⟨o, 3, none⟩ = some (.string s3) := cb 3
  have c4 : w8.cell? ⟨o, 4, none⟩ = some (.int .i64 n) := cb 4
  clear cb fb
  go_wp2_with fail
  clear c1 c2 c3 c4
  refine (nkill_c s1 w8).mono ?_
  rintro x w9 ⟨rfl, hm⟩
  have HM9 := Lib.hid (HM8.out.trans hm (by simp)); have HB9 := Lib.hid (hm.at HB8.out (by simp))
  clear hm
  obtain ⟨cb, fb⟩ := cells_of HB9.out
  have c1 : w9.cell? ⟨o, 1, none⟩ = some (.string s1) := cb 1
  have c2 : w9.cell? ⟨o, 2, none⟩ = some (.string s2) := cb 2
  have c3 : w9.cell? ⟨o, 3, none⟩ = some (.string s3) := cb 3
  have c4 : w9.cell? ⟨o, 4, none⟩ = some (.int .i64 n) := cb 4
  clear cb fb
  go_wp2_with fail
  clear c1 c2 c3 c4
  refine (nput_c s1 s2 s3 w9).mono ?_
  rintro x w10 ⟨rfl, hm⟩
  have HM10 := Lib.hid (HM9.out.trans hm (by simp)); have HB10 := Lib.hid (hm.at HB9.out (by simp))
  clear hm
  obtain ⟨cb, fb⟩ := cells_of HB10.out
  have c1 : w10.cell? ⟨o, 1, none⟩ = some (.string s1) := cb 1
  have c2 : w10.cell? ⟨o, 2, none⟩ = some (.string s2) := cb 2
  have c3 : w10.cell? ⟨o, 3, none⟩ = some (.string s3) := cb 3
  have c4 : w10.cell? ⟨o, 4, none⟩ = some (.int .i64 n) := cb 4
  clear cb fb
  go_wp2_with fail
  clear c1 c2 c3 c4
  refine (nback_c n w10).mono ?_
  rintro x w11 ⟨rfl, hm⟩
  have HM11 := Lib.hid (HM10.out.trans hm (by simp)); have HB11 := Lib.hid (hm.at HB10.out (by simp))
  clear hm
  obtain ⟨cb, fb⟩ := cells_of HB11.out
  have c1 : w11.cell? ⟨o, 1, none⟩ = some (.string s1) := cb 1
  have c2 : w11.cell? ⟨o, 2, none⟩ = some (.string s2) := cb 2
  have c3 : w11.cell? ⟨o, 3, none⟩ = some (.string s3) := cb 3
  have c4 : w11.cell? ⟨o, 4, none⟩ = some (.int .i64 n) := cb 4
  clear cb fb
  go_wp2_with fail
  clear c1 c2 c3 c4
  refine (ncommit_c w11).mono ?_
  rintro x w12 ⟨rfl, hm⟩
  have HM12 := Lib.hid (HM11.out.trans hm (by simp)); have HB12 := Lib.hid (hm.at HB11.out (by simp))
  clear hm
  obtain ⟨cb, fb⟩ := cells_of HB12.out
  have c1 : w12.cell? ⟨o, 1, none⟩ = some (.string s1) := cb 1
  have c2 : w12.cell? ⟨o, 2, none⟩ = some (.string s2) := cb 2
  have c3 : w12.cell? ⟨o, 3, none⟩ = some (.string s3) := cb 3
  have c4 : w12.cell? ⟨o, 4, none⟩ = some (.int .i64 n) := cb 4
  clear cb fb
  go_wp2_with fail
  clear c1 c2 c3 c4
  refine (nabort_c w12).mono ?_
  rintro x w13 ⟨rfl, hm⟩
  have HM13 := Lib.hid (HM12.out.trans hm (by simp)); have HB13 := Lib.hid (hm.at HB12.out (by simp))
  clear hm
  obtain ⟨cb, fb⟩ := cells_of HB13.out
  have c1 : w13.cell? ⟨o, 1, none⟩ = some (.string s1) := cb 1
  have c2 : w13.cell? ⟨o, 2, none⟩ = some (.string s2) := cb 2
  have c3 : w13.cell? ⟨o, 3, none⟩ = some (.string s3) := cb 3
  have c4 : w13.cell? ⟨o, 4, none⟩ = some (.int .i64 n) := cb 4
  clear cb fb
  go_wp2_with fail
  clear c1 c2 c3 c4
  refine (nsave_c w13).mono ?_
  rintro x w14 ⟨rfl, hm⟩
  have HM14 := Lib.hid (HM13.out.trans hm (by simp)); have HB14 := Lib.hid (hm.at HB13.out (by simp))
  clear hm
  obtain ⟨cb, fb⟩ := cells_of HB14.out
  have c1 : w14.cell? ⟨o, 1, none⟩ = some (.string s1) := cb 1
  have c2 : w14.cell? ⟨o, 2, none⟩ = some (.string s2) := cb 2
  have c3 : w14.cell? ⟨o, 3, none⟩ = some (.string s3) := cb 3
  have c4 : w14.cell? ⟨o, 4, none⟩ = some (.int .i64 n) := cb 4
  clear cb fb
  go_wp2_with fail
  clear c1 c2 c3 c4
  refine (nnames_c w14).mono ?_
  rintro x w15 ⟨rfl, hm⟩
  have HM15 := Lib.hid (HM14.out.trans hm (by simp)); have HB15 := Lib.hid (hm.at HB14.out (by simp))
  clear hm
  obtain ⟨cb, fb⟩ := cells_of HB15.out
  have c1 : w15.cell? ⟨o, 1, none⟩ = some (.string s1) := cb 1
  have c2 : w15.cell? ⟨o, 2, none⟩ = some (.string s2) := cb 2
  have c3 : w15.cell? ⟨o, 3, none⟩ = some (.string s3) := cb 3
  have c4 : w15.cell? ⟨o, 4, none⟩ = some (.int .i64 n) := cb 4
  clear cb fb
  go_wp2_with fail
  clear c1 c2 c3 c4
  refine (nsound_c w15).mono ?_
  rintro x w16 ⟨rfl, hm⟩
  have HM16 := Lib.hid (HM15.out.trans hm (by simp)); have HB16 := Lib.hid (hm.at HB15.out (by simp))
  clear hm
  go_wp2_with fail
  go_ret
  exact ⟨rfl, HM16.out⟩
end Go.Proofs.YtoffondipgjcoaaGreatDoor
