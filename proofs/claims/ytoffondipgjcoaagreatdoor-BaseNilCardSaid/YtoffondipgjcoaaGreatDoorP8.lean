/- Part 8 of 27 of the contracts below the law: each theorem states, of one function of the program, at a world of the form that its premises name, what the call answers and what it leaves. -/
import Derived.Test.YtoffondipgjcoaaGreatDoorP7
import Derived.Test.YtoffondipgjcoaaGreatDoorP6
/- The contracts of package undo: marks, cutting, joining. -/
set_option linter.unusedVariables false
set_option maxRecDepth 100000
set_option linter.unusedSimpArgs false
namespace Go.Proofs.YtoffondipgjcoaaGreatDoor
open Go.RowKit

def markL (yes : Bool) : List UInt8 := if yes then wholeL [1] else wholeL []
set_option maxHeartbeats 1000000 in
theorem Mark_c (yes : Bool) (w : World) :
    Calls Tryz.prog 221 #[.bool yes] w fun e w' => e = .returned (.string (str (markL yes))) ∧ Mod [] w w' := by
  cases yes
  · go_enter Tryz.func221, Tryz.ntmps221
    go_wp2_with fail
    refine (whole_c none 0 [] _ (by simp) ⟨rfl, by simp, by simp⟩ (.inl ⟨rfl, rfl⟩)).mono ?_
    rintro e w1 ⟨rfl, hm⟩
    go_wp2_with fail
    go_ret
    exact ⟨rfl, hm⟩
  · go_enter Tryz.func221, Tryz.ntmps221
    go_wp2_with fail
    refine (whole_c (some ⟨w.heap.size, 0, none⟩) 1 [1] _ (by simp) ⟨rfl, by simp, fun _ => ⟨_, _, rfl, fun j hj => ?_⟩⟩ (.inr (by simp))).mono ?_
    · obtain rfl : j = 0 := by simp at hj; omega
      rw [World.cell?, hp_new]; rfl
    rintro e w1 ⟨rfl, hm⟩
    go_wp2_with fail
    go_ret
    exact ⟨rfl, ((Mod.refl _ _).alloc _).trans hm (by simp)⟩

theorem Marked_c (s : List UInt8) (w : World) :
    Calls Tryz.prog 123 #[.string (str s)] w fun e w' => e = .returned (.bool (s.headD 0 != 0)) ∧ w = w' := by
  cases s with
  | nil =>
    have h0 : str [] = ⟨#[]⟩ := rfl
    rw [h0]
    go_enter Tryz.func123, Tryz.ntmps123
    go_wp2_with fail
    go_ret
    exact ⟨rfl, rfl⟩
  | cons x l =>
    have h0 : (str (x :: l)).toList.isEmpty = false := str_empty _
    have h1 : 0 < (str (x :: l)).size := by simp [str, ByteArray.size]
    have h2 : (str (x :: l))[0] = x := rfl
    go_enter Tryz.func123, Tryz.ntmps123
    go_wp2_with fail
    go_ret
    refine ⟨ret_bool ?_, rfl⟩
    have := x.toNat_inj (b := 0)
    simp only [List.headD_cons, bne, UInt8.toNat_zero] at this ⊢
    rw [Bool.eq_iff_iff]; simp [← this]

def cutN : Nat → List UInt8 → List (List UInt8)
  | 0, _ => []
  | n + 1, l => l.take 64 :: cutN n (l.drop 64)
theorem cutN_len (n : Nat) (l : List UInt8) : (cutN n l).length = n := by induction n generalizing l <;> simp [cutN, *]
theorem cutN_snoc (n : Nat) (l : List UInt8) : cutN (n + 1) l = cutN n l ++ [(l.drop (64 * n)).take 64] := by
  induction n generalizing l with
  | zero => rfl
  | succ n ih => rw [cutN, ih]; simp only [cutN, List.cons_append, List.drop_drop]; rw [show 64 + 64 * n = 64 * (n + 1) from by omega]
set_option maxHeartbeats 1000000 in
theorem Cut_c (s : List UInt8) (hs : s.length = 256) (w : World) :
    Calls Tryz.prog 218 #[.string (str s)] w fun e w' => ∃ v, e = .returned (.tuple #[v, .int .i64 0]) ∧ Strs w' w.heap.size v (cutN 4 s) ∧ Mod [] w w' := by
  have hsz : (str s).size = 256 := hs
  go_enter Tryz.func218, Tryz.ntmps218
  go_wp2_with fail
  go_loopw [0, 4] (fun t v wr => ∃ i : Nat, i ≤ 4 ∧ t = .string (str (s.drop (64 * i))) ∧ Strs wr w.heap.size v (cutN i s) ∧ Mod [] w wr) (fun t v _ => match t with | .string b => b.size | _ => 0)
  case atStart => exact ⟨0, by simp, rfl, ⟨rfl, .inl ⟨rfl, rfl⟩⟩, Mod.refl _ _⟩
  case round =>
    obtain ⟨i, hi, rfl, hv, hm⟩ := hrel
    have HV := Lib.hid hv
    have HM := Lib.hid hm
    have hz : w.heap.size ≤ wr.heap.size := hm.size
    clear hv hm
    rcases Nat.lt_or_ge i 4 with hlt | hge
    · have h0 : (str (s.drop (64 * i))).toList.isEmpty = false := by rw [str_empty]; simp [List.isEmpty_iff]; omega
      have h1 : (str (s.drop (64 * i))).size = 256 - 64 * i := by simp [str_size, hs]
      go_wp2_with (at_builtin; refine wpList_app_new w.heap.size 44 9 (.string ⟨#[]⟩) 1 16 _ [.string _] _ rfl _ _ rfl Tryz.underlying44 Tryz.i_str rfl (by decide) (by decide) _ (cutN i s).length _ HV.out rfl 1 1 rfl rfl rfl ?_ (by omega) ?_)
      case refine_1 => rw [cutN_len]; omega
      case refine_2 =>
      intro v1 w1 hown hg
      have HO1 := Lib.hid hown
      have HG1 := Lib.hid hg
      clear hown hg
      go_wp2_with fail
      go_roundw
      case rel =>
        refine ⟨i + 1, by omega, ?_, ?_, HM.out.trans HG1.out.mod (fun x hx => ?_)⟩
        · rw [str_sub, List.take_of_length_le (by simp [hs] <;> omega), List.drop_drop]; rfl
        · have := HO1.out
          rw [str_sub, List.drop_zero] at this
          unfold Strs
          rw [cutN_snoc, List.map_append, List.length_append]
          exact this
        · simp at hx; exact .inr (own_lt HV.out x hx).1
      case measure => simp [ByteArray.size_extract, h1] <;> omega
    · obtain rfl : i = 4 := by omega
      have h0 : s.drop (64 * 4) = [] := by simp [hs]
      have h1 : (str []).toList.isEmpty = true := str_empty _
      rw [h0]
      go_wp2_with fail
      go_ret2
      exact ⟨_, rfl, HV.out, HM.out⟩

theorem Join1_c (s : List UInt8) (w : World) :
    Calls Tryz.prog 215 #[.string (str s)] w fun e w' => e = .returned (.bool (s.length != 64)) ∧ w = w' := by
  have h := str_size s
  go_enter Tryz.func215, Tryz.ntmps215
  go_wp2_with fail
  go_ret
  exact ⟨ret_bool (by rw [Bool.eq_iff_iff]; simp <;> omega), rfl⟩
end Go.Proofs.YtoffondipgjcoaaGreatDoor
