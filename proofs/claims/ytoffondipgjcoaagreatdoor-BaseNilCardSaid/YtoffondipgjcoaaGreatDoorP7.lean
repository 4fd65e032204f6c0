/- Part 7 of 27 of the contracts below the law: each theorem states, of one function of the program, at a world of the form that its premises name, what the call answers and what it leaves. -/
import Derived.Test.YtoffondipgjcoaaGreatDoorP5
import Derived.Test.YtoffondipgjcoaaGreatDoorP3
import Derived.Test.YtoffondipgjcoaaGreatDoorP1
import Derived.Test.YtoffondipgjcoaaGreatDoorShelf
/- The contracts of package undo. -/
set_option linter.unusedVariables false
set_option maxRecDepth 100000
set_option linter.unusedSimpArgs false
namespace Go.Proofs.YtoffondipgjcoaaGreatDoor
open Go.RowKit

def zeros (n : Nat) : List UInt8 := List.replicate n 0
theorem repeatL_zero (n : Nat) : Lib.repeatL [0] n = zeros n := by
  induction n with
  | zero => rfl
  | succ n ih => simp [Lib.repeatL, zeros, List.replicate_succ] at ih ⊢; try exact ih
theorem Repeat_zero (n : Nat) (w : World) (hn : n ≤ 140737488355328) :
    Calls Tryz.prog 153 #[.string ⟨#[0]⟩, .int .i64 (n : Int)] w fun e w' => e = .returned (.string (str (zeros n))) ∧ Mod [] w w' := by
  refine (Tryz.strings_Repeat ⟨#[0]⟩ n w (by omega) (by simp [ByteArray.size]; omega)).mono ?_
  rintro e w' ⟨rfl, hb⟩
  exact ⟨ret_str (by rw [← repeatL_zero]; rfl), Mod.ofBelow hb⟩

theorem image_c (k j : Int) (w : World) (hk : 0 ≤ k ∧ k ≤ 1000) (hj : 0 ≤ j ∧ j ≤ 1000) :
    Calls Tryz.prog 168 #[.int .i64 k, .int .i64 j] w fun e w' => e = .returned (.int .i64 (2 + 4 * k + j)) ∧ w = w' := by
  go_enter Tryz.func168, Tryz.ntmps168
  go_wp2
  go_ret
  exact ⟨rfl, rfl⟩
theorem place_c (k j : Int) (w : World) (hk : 0 ≤ k ∧ k ≤ 1000) (hj : 0 ≤ j ∧ j ≤ 1000) :
    Calls Tryz.prog 68 #[.int .i64 k, .int .i64 j] w fun e w' => e = .returned (.int .i64 (126 + 4 * k + j)) ∧ w = w' := by
  go_enter Tryz.func68, Tryz.ntmps68
  go_wp2
  go_ret
  exact ⟨rfl, rfl⟩
theorem need_c (k : Int) (w : World) (hk : 0 ≤ k ∧ k ≤ 1000) :
    Calls Tryz.prog 32 #[.int .i64 k] w fun e w' => e = .returned (.int .i64 (126 + 4 * k)) ∧ w = w' := by
  go_enter Tryz.func32, Tryz.ntmps32
  go_wp2_with fail
  refine (place_c k 0 w hk (by omega)).mono ?_
  rintro e w' ⟨rfl, rfl⟩
  go_wp2_with fail
  go_ret
  exact ⟨ret_int (by omega), rfl⟩

def wholeL (l : List UInt8) : List UInt8 := l ++ zeros (64 - l.length)
set_option maxHeartbeats 1000000 in
theorem whole_c (ao : Option Addr) (c : Nat) (l : List UInt8) (w : World) (hl : l.length ≤ 64) (h : RdS w 1 ao l.length (bcs l)) (h0 : (ao = none ∧ c = 0) ∨ 0 < l.length) :
    Calls Tryz.prog 267 #[.slice ao l.length c] w fun e w' => e = .returned (.string (str (wholeL l))) ∧ Mod [] w w' := by
  have hcv : ∀ w', Mod [] w w' → ∀ n, n = l.length → (convert 118 9 (.slice ao n c)).run Tryz.prog w' = .ok (.string (str l)) w' := by
    rintro w' hm n rfl
    have h' := h.mod hm (by simp)
    cases ao with
    | none =>
      have : l = [] := by
        cases l with
        | nil => rfl
        | cons a l => obtain ⟨b, off, hb, _⟩ := h.cell (by simp); cases hb
      subst this
      exact run_convert_bytes_nil w' 118 5 Tryz.underlying118 Tryz.underlying5 _ _ _ Tryz.underlying9
    | some a =>
      by_cases hp : 0 < l.length
      · obtain ⟨b, off, hb, hc⟩ := h'.cell hp
        cases hb
        exact run_bytes_str w' _ _ 5 Tryz.underlying118 Tryz.underlying5 Tryz.underlying9 b off _ c l rfl (fun i hi => hc i (by omega))
      · have : l = [] := List.eq_nil_of_length_eq_zero (by omega)
        subst this
        rcases h0 with h0 | h0
        · cases h0.1
        · exact absurd h0 hp
  have HCV := Lib.hid hcv
  clear hcv h h0
  go_enter Tryz.func267, Tryz.ntmps267
  go_wp2_with fail
  have hS : Mod [] w w.drew := (Mod.refl _ _).drew
  refine region_plan (n := 6) (Mod [] w) [(true, 0), (true, 1), (true, 2), (true, 3), (true, 4), (false, 5)] Tryz.mixed (by kernel_rfl) hS ?_
  (apply Go.Proofs.YtoffondipgjcoaaGreatDoor.plan_q _ rfl hS; · (intro K hK w' hw'; (skip); go_simp; (first | exact hK | exact ⟨rfl, hK⟩)))
  (apply Go.Proofs.YtoffondipgjcoaaGreatDoor.plan_q _ rfl hS; · (intro K hK w' hw'; (have q1 := HCV.out w' hw' _ rfl); go_simp; (first | exact hK | exact ⟨rfl, hK⟩)))
  (apply Go.Proofs.YtoffondipgjcoaaGreatDoor.plan_q _ rfl hS; · (intro K hK w' hw'; (skip); go_simp; (first | exact hK | exact ⟨rfl, hK⟩)))
  (apply Go.Proofs.YtoffondipgjcoaaGreatDoor.plan_q _ rfl hS; · (intro K hK w' hw'; (skip); go_simp; (first | exact hK | exact ⟨rfl, hK⟩)))
  (apply Go.Proofs.YtoffondipgjcoaaGreatDoor.plan_q _ rfl hS; · (intro K hK w' hw'; (skip); go_simp; (first | exact hK | exact ⟨rfl, hK⟩)))
  refine plan_e rfl ?_
  go_wp2_with fail
  rw [show (64 : Int) - (l.length : Int) = ((64 - l.length : Nat) : Int) from by omega]
  refine (Repeat_zero (64 - l.length) _ (by omega)).mono ?_
  rintro e w1 ⟨rfl, hm⟩
  go_wp2_with fail
  refine plan_n ⟨hS.trans hm (by simp), plan_t ?_⟩
  simp only [List.drop_succ_cons, List.drop_zero]
  have hz : ¬ 9223372036854775807 < (str l).size + (str (zeros (64 - l.length))).size := by simp [str, ByteArray.size, zeros]; omega
  go_wp2_with fail
  go_ret
  exact ⟨ret_str (by simp [str, wholeL, ByteArray.ext_iff]), hS.trans hm (by simp)⟩
end Go.Proofs.YtoffondipgjcoaaGreatDoor
