/- Part 26 of 27 of the contracts below the law: each theorem states, of one function of the program, at a world of the form that its premises name, what the call answers and what it leaves. -/
import Derived.Test.YtoffondipgjcoaaGreatDoorP25
/- Package base on nil. -/
set_option linter.unusedVariables false
set_option maxRecDepth 100000
set_option linter.unusedSimpArgs false
namespace Go.Proofs.YtoffondipgjcoaaGreatDoor
open Go.RowKit

theorem nmay_c (w : World) : Calls Tryz.prog 40 #[.pointer none] w fun x w' => x = .returned (.int .i64 1) ∧ w = w' := by
  go_enter Tryz.func40, Tryz.ntmps40
  go_wp2_with fail
  go_ret
  exact ⟨rfl, rfl⟩
theorem nbegin_c (w : World) : Calls Tryz.prog 6 #[.pointer none] w fun x w' => x = .returned (.tuple #[.pointer none, .int .i64 1]) ∧ Mod [] w w' := by
  go_enter Tryz.func6, Tryz.ntmps6
  go_wp2_with fail
  go_ret2
  exact ⟨rfl, Mod.refl _ _⟩
theorem nthere_c (s : ByteArray) (w : World) : Calls Tryz.prog 36 #[.pointer none, .string s] w fun x w' => x = .returned (.tuple #[.agg #[.int .i64 0, .int .i64 0], .int .i64 1]) ∧ Mod [] w w' := by
  go_enter Tryz.func36, Tryz.ntmps36
  go_wp2_with fail
  have hm0 : Mod [] w (w.alloc (Obj.cells #[.int .i64 0, .int .i64 0] 84)) := (Mod.refl _ _).alloc _
  have hb0 := hp_new w (Obj.cells #[.int .i64 0, .int .i64 0] 84)
  generalize w.alloc (Obj.cells #[.int .i64 0, .int .i64 0] 84) = w1 at *
  refine (nmay_c w1).mono ?_
  rintro x w2 ⟨rfl, rfl⟩
  obtain ⟨cb, fb⟩ := cells_of hb0
  have c0 : w1.cell? ⟨w.heap.size, 0, none⟩ = some (.int .i64 0) := cb 0
  have c1 : w1.cell? ⟨w.heap.size, 1, none⟩ = some (.int .i64 0) := cb 1
  have f0 := fb 0; have f1 := fb 1
  have hlt := lt_of_block hb0
  have HM0 := Lib.hid hm0
  clear cb fb hm0 hb0
  go_wp2_with fail
  exact bodyPost_ret (v := .tuple #[.agg #[.int .i64 0, .int .i64 0], .int .i64 1]) (by simp [results, Tryz.results36, go_sem, c0, c1, f0, f1, hlt]) rfl ⟨rfl, (HM0.out.setCell _ _ (.inr (Nat.le_refl _))).setCell _ _ (.inr (Nat.le_refl _))⟩
theorem nget_c (s : ByteArray) (k : ByteArray) (w : World) : Calls Tryz.prog 7 #[.pointer none, .string s, .string k] w fun x w' => x = .returned (.tuple #[.string ⟨#[]⟩, .bool false, .int .i64 1]) ∧ Mod [] w w' := by
  go_enter Tryz.func7, Tryz.ntmps7
  go_wp2_with fail
  refine (nthere_c s w).mono ?_
  rintro x w1 ⟨rfl, hm⟩
  have HM := Lib.hid hm
  clear hm
  go_wp2_with fail
  go_ret3
  exact ⟨rfl, HM.out.alloc _⟩
theorem nscan_c (s : ByteArray) (a b : ByteArray) (w : World) : Calls Tryz.prog 8 #[.pointer none, .string s, .string a, .string b] w fun x w' => x = .returned (.tuple #[.slice none 0 0, .int .i64 1]) ∧ Mod [] w w' := by
  go_enter Tryz.func8, Tryz.ntmps8
  go_wp2_with fail
  refine (nthere_c s w).mono ?_
  rintro x w1 ⟨rfl, hm⟩
  have HM := Lib.hid hm
  clear hm
  go_wp2_with fail
  go_ret2
  exact ⟨rfl, HM.out.alloc _⟩
theorem ndelete_c (s : ByteArray) (k : ByteArray) (w : World) : Calls Tryz.prog 9 #[.pointer none, .string s, .string k] w fun x w' => x = .returned (.tuple #[.bool false, .int .i64 1]) ∧ Mod [] w w' := by
  go_enter Tryz.func9, Tryz.ntmps9
  go_wp2_with fail
  refine (nthere_c s w).mono ?_
  rintro x w1 ⟨rfl, hm⟩
  have HM := Lib.hid hm
  clear hm
  go_wp2_with fail
  go_ret2
  exact ⟨rfl, HM.out.alloc _⟩
theorem ncount_c (s : ByteArray) (w : World) : Calls Tryz.prog 10 #[.pointer none, .string s] w fun x w' => x = .returned (.tuple #[.int .i64 0, .int .i64 1]) ∧ Mod [] w w' := by
  go_enter Tryz.func10, Tryz.ntmps10
  go_wp2_with fail
  refine (nthere_c s w).mono ?_
  rintro x w1 ⟨rfl, hm⟩
  have HM := Lib.hid hm
  clear hm
  go_wp2_with fail
  go_ret2
  exact ⟨rfl, HM.out.alloc _⟩
theorem nkill_c (s : ByteArray) (w : World) : Calls Tryz.prog 12 #[.pointer none, .string s] w fun x w' => x = .returned (.int .i64 1) ∧ Mod [] w w' := by
  go_enter Tryz.func12, Tryz.ntmps12
  go_wp2_with fail
  refine (nthere_c s w).mono ?_
  rintro x w1 ⟨rfl, hm⟩
  have HM := Lib.hid hm
  clear hm
  go_wp2_with fail
  go_ret
  exact ⟨rfl, HM.out.alloc _⟩
theorem nmake_c (s : ByteArray) (w : World) : Calls Tryz.prog 11 #[.pointer none, .string s] w fun x w' => x = .returned (.int .i64 1) ∧ Mod [] w w' := by
  go_enter Tryz.func11, Tryz.ntmps11
  go_wp2_with fail
  refine (nmay_c w).mono ?_
  rintro x w1 ⟨rfl, rfl⟩
  go_wp2_with fail
  go_ret
  exact ⟨rfl, Mod.refl _ _⟩
theorem nput_c (s k v : ByteArray) (w : World) : Calls Tryz.prog 13 #[.pointer none, .string s, .string k, .string v] w fun x w' => x = .returned (.int .i64 1) ∧ Mod [] w w' := by
  go_enter Tryz.func13, Tryz.ntmps13
  go_wp2_with fail
  refine (nget_c s k w).mono ?_
  rintro x w1 ⟨rfl, hm⟩
  have HM := Lib.hid hm
  clear hm
  go_wp2_with fail
  go_ret
  exact ⟨rfl, HM.out⟩
theorem nback_c (n : Int) (w : World) : Calls Tryz.prog 14 #[.pointer none, .int .i64 n] w fun x w' => x = .returned (.int .i64 1) ∧ Mod [] w w' := by
  go_enter Tryz.func14, Tryz.ntmps14
  go_wp2_with fail
  refine (nmay_c w).mono ?_
  rintro x w1 ⟨rfl, rfl⟩
  go_wp2_with fail
  go_ret
  exact ⟨rfl, Mod.refl _ _⟩
theorem ncommit_c (w : World) : Calls Tryz.prog 15 #[.pointer none] w fun x w' => x = .returned (.int .i64 1) ∧ Mod [] w w' := by
  go_enter Tryz.func15, Tryz.ntmps15
  go_wp2_with fail
  refine (nmay_c w).mono ?_
  rintro x w1 ⟨rfl, rfl⟩
  go_wp2_with fail
  go_ret
  exact ⟨rfl, Mod.refl _ _⟩
theorem nabort_c (w : World) : Calls Tryz.prog 16 #[.pointer none] w fun x w' => x = .returned (.int .i64 1) ∧ Mod [] w w' := by
  go_enter Tryz.func16, Tryz.ntmps16
  go_wp2_with fail
  refine (nmay_c w).mono ?_
  rintro x w1 ⟨rfl, rfl⟩
  go_wp2_with fail
  go_ret
  exact ⟨rfl, Mod.refl _ _⟩
theorem nsave_c (w : World) : Calls Tryz.prog 17 #[.pointer none] w fun x w' => x = .returned (.int .i64 0) ∧ Mod [] w w' := by
  go_enter Tryz.func17, Tryz.ntmps17
  go_wp2_with fail
  refine (nmay_c w).mono ?_
  rintro x w1 ⟨rfl, rfl⟩
  go_wp2_with fail
  go_ret
  exact ⟨rfl, Mod.refl _ _⟩
theorem nnames_c (w : World) : Calls Tryz.prog 18 #[.pointer none] w fun x w' => x = .returned (.slice none 0 0) ∧ Mod [] w w' := by
  go_enter Tryz.func18, Tryz.ntmps18
  go_wp2_with fail
  refine (nmay_c w).mono ?_
  rintro x w1 ⟨rfl, rfl⟩
  go_wp2_with fail
  go_ret
  exact ⟨rfl, Mod.refl _ _⟩
theorem nsound_c (w : World) : Calls Tryz.prog 19 #[.pointer none] w fun x w' => x = .returned (.bool false) ∧ Mod [] w w' := by
  go_enter Tryz.func19, Tryz.ntmps19
  go_wp2_with fail
  refine (nmay_c w).mono ?_
  rintro x w1 ⟨rfl, rfl⟩
  go_wp2_with fail
  go_ret
  exact ⟨rfl, Mod.refl _ _⟩
end Go.Proofs.YtoffondipgjcoaaGreatDoor
