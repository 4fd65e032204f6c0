/- Part 16 of 27 of the contracts below the law: each theorem states, of one function of the program, at a world of the form that its premises name, what the call answers and what it leaves. -/
import Derived.Test.YtoffondipgjcoaaGreatDoorP15
import Derived.Lib.SliceRun
/- The contracts of package node: Put into an empty leaf. -/
set_option linter.unusedVariables false
set_option maxRecDepth 100000
set_option linter.unusedSimpArgs false
namespace Go.Proofs.YtoffondipgjcoaaGreatDoor
open Go.RowKit

theorem ClonePair_nil (w : World) :
    Calls Tryz.prog 183 #[.slice none 0 0] w fun e w' => e = .returned (.slice none 0 0) ∧ w = w' := by
  have q22 : ∀ (w : World) (a : Option Addr) (n c n' c' : Nat), (binOp .eql 32 (.slice a n c) (.slice none n' c')).run Tryz.prog w = .ok (.bool a.isNone) w := fun w a n c n' c' => Lib.run_eql_slice_nil w 32 152 a n c n' c' Tryz.underlying32
  go_enter Tryz.func183, Tryz.ntmps183
  go_wp2
  go_ret
  exact ⟨rfl, rfl⟩
set_option maxHeartbeats 1000000 in
theorem InsertPair_nil (w1 : World) (p : Bytes × Bytes) :
    Calls Tryz.prog 151 #[.slice none 0 0, .int .i64 0, .slice (some ⟨w1.heap.size, 0, none⟩) 1 1] (w1.alloc (.cells (pairC p).toArray 152)) fun e w' => ∃ v, e = .returned v ∧ w'.ownsRow w1.heap.size 152 2 v 1 (pairC p) ∧ Mod [] w1 w' := by
  go_enter Tryz.func151, Tryz.ntmps151
  go_wp2_with (at_builtin; refine wpList_app_new w1.heap.size 32 152 (.agg #[.string ⟨#[]⟩, .string ⟨#[]⟩]) 2 32 _ (pairC p) _ rfl _ _ rfl Tryz.underlying32 Tryz.i_pair rfl (by decide) (by decide) (.slice none 0 0) 0 [] ⟨rfl, .inl ⟨rfl, rfl⟩⟩ rfl 1 1 rfl rfl rfl (by omega) (Nat.le_refl _) ?_)
  intro v1 w2 ho hg
  have hm : Mod [] w1 w2 := (Mod.refl [] w1).app (show w1.ownsRow w1.heap.size 152 2 (.slice none 0 0) 0 [] from ⟨rfl, .inl ⟨rfl, rfl⟩⟩) (Nat.le_refl _) hg
  have HO := Lib.hid ho; have HM := Lib.hid hm
  clear ho hg hm
  go_wp2_with fail
  go_ret
  exact ⟨_, rfl, HO.out, HM.out⟩
set_option maxHeartbeats 1000000 in
theorem Cut_nil (key : Bytes) (w : World) :
    Calls Tryz.prog 143 #[leafV (.slice none 0 0), .string (str key)] w fun e w' => e = .returned (leafV (.slice none 0 0)) ∧ Mod [] w w' := by
  go_enter Tryz.func143, Tryz.ntmps143
  go_wp2_with fail
  have hm0 : Mod [] w ((w.alloc (Obj.cells #[.bool true, .slice none 0 0, .slice none 0 0, .slice none 0 0] 147)).alloc (Obj.cells #[.bool false, .slice none 0 0, .slice none 0 0, .slice none 0 0] 147)) := ((Mod.refl _ _).alloc _).alloc _
  have hb0 := hp_old (o' := Obj.cells #[.bool false, .slice none 0 0, .slice none 0 0, .slice none 0 0] 147) (hp_new w (Obj.cells #[.bool true, .slice none 0 0, .slice none 0 0, .slice none 0 0] 147))
  have hb1 := hp_new1 w (Obj.cells #[.bool true, .slice none 0 0, .slice none 0 0, .slice none 0 0] 147) (Obj.cells #[.bool false, .slice none 0 0, .slice none 0 0, .slice none 0 0] 147)
  generalize (w.alloc (Obj.cells #[.bool true, .slice none 0 0, .slice none 0 0, .slice none 0 0] 147)).alloc (Obj.cells #[.bool false, .slice none 0 0, .slice none 0 0, .slice none 0 0] 147) = w1 at *
  refine (ClonePair_nil w1).mono ?_
  rintro e w2 ⟨rfl, rfl⟩
  have HM0 := Lib.hid hm0; have HB0 := Lib.hid hb0; have HB1 := Lib.hid hb1
  clear hm0 hb0 hb1
  obtain ⟨cb, fb⟩ := cells_of HB0.out
  go_wp2_with fail
  refine (Find_c (.slice none 0 0) [] key w1 ⟨none, 0, rfl, ⟨rfl, by simp, fun h => absurd h (by simp)⟩⟩ (by simp)).mono ?_
  rintro e w2 ⟨rfl, hm2⟩
  have hf : (leafN []).find key = (0, false) := by simp [leafN, Nd.find]
  rw [hf]
  clear hf cb fb
  have HB2 := Lib.hid (hm2.at HB1.out (by simp)); have HM2 := Lib.hid hm2
  obtain ⟨cb, fb⟩ := cells_of HB2.out
  have hlo : w.heap.size + 1 < w2.heap.size := lt_of_block HB2.out
  clear hm2
  go_wp2_with fail
  have hm4 : Mod [] w ((((w2.setCell ⟨w.heap.size + 1, 0, none⟩ (.bool true)).setCell ⟨w.heap.size + 1, 1, none⟩ (.slice none 0 0)).setCell ⟨w.heap.size + 1, 2, none⟩ (.slice none 0 0)).setCell ⟨w.heap.size + 1, 3, none⟩ (.slice none 0 0)) :=
    (((((HM0.out.trans HM2.out (by simp))).setCell _ _ (.inr (by simp))).setCell _ _ (.inr (by simp))).setCell _ _ (.inr (by simp))).setCell _ _ (.inr (by simp))
  exact bodyPost_ret (v := leafV (.slice none 0 0)) (by simp [results, Tryz.results143, go_sem, cb, fb, hlo]) rfl ⟨rfl, hm4⟩
set_option maxHeartbeats 1000000 in
theorem Put_nil (key value : Bytes) (w : World) :
    Calls Tryz.prog 96 #[leafV (.slice none 0 0), .string (str key), .string (str value)] w fun e w' => ∃ pv, e = .returned (leafV pv) ∧ w'.ownsRow w.heap.size 152 2 pv 1 ([(key, value)].flatMap pairC) ∧ Mod [] w w' := by
  go_enter Tryz.func96, Tryz.ntmps96
  go_wp2_with fail
  have hm0 : Mod [] w ((w.alloc (Obj.cells #[.bool true, .slice none 0 0, .slice none 0 0, .slice none 0 0] 147)).alloc (Obj.cells #[.bool false, .slice none 0 0, .slice none 0 0, .slice none 0 0] 147)) := ((Mod.refl _ _).alloc _).alloc _
  have hb0 := hp_old (o' := Obj.cells #[.bool false, .slice none 0 0, .slice none 0 0, .slice none 0 0] 147) (hp_new w (Obj.cells #[.bool true, .slice none 0 0, .slice none 0 0, .slice none 0 0] 147))
  have hb1 := hp_new1 w (Obj.cells #[.bool true, .slice none 0 0, .slice none 0 0, .slice none 0 0] 147) (Obj.cells #[.bool false, .slice none 0 0, .slice none 0 0, .slice none 0 0] 147)
  generalize (w.alloc (Obj.cells #[.bool true, .slice none 0 0, .slice none 0 0, .slice none 0 0] 147)).alloc (Obj.cells #[.bool false, .slice none 0 0, .slice none 0 0, .slice none 0 0] 147) = w1 at *
  have HM0 := Lib.hid hm0; have HB0 := Lib.hid hb0; have HB1 := Lib.hid hb1
  clear hm0 hb0 hb1
  refine (Cut_nil key w1).mono ?_
  rintro e w2 ⟨rfl, hm2⟩
  have hfd : ∀ w : World, (Instr.field 147 (.agg #[.bool true, .slice none 0 0, .slice none 0 0, .slice none 0 0]) 1).run Tryz.prog w = .ok (.slice none 0 0) w := fun _ => by kernel_rfl
  dsimp only [leafV]
  have HM2 := Lib.hid (HM0.out.trans hm2 (by simp)); have HB02 := Lib.hid (hm2.at HB0.out (by simp)); have HB12 := Lib.hid (hm2.at HB1.out (by simp))
  obtain ⟨cb, fb⟩ := cells_of HB02.out
  clear hm2
  go_wp2_with fail
  clear hfd
  refine (Find_c (.slice none 0 0) [] key w2 ⟨none, 0, rfl, ⟨rfl, by simp, fun h => absurd h (by simp)⟩⟩ (by simp)).mono ?_
  rintro e w3 ⟨rfl, hm3⟩
  have hf : (leafN []).find key = (0, false) := by simp [leafN, Nd.find]
  rw [hf]
  clear hf cb fb
  have HM3 := Lib.hid (HM2.out.trans hm3 (by simp)); have HB13 := Lib.hid (hm3.at HB12.out (by simp))
  clear hm3
  go_wp2_with fail
  refine (InsertPair_nil w3 (key, value)).mono ?_
  rintro e w4 ⟨v, rfl, ho4, hm4⟩
  obtain ⟨a4, c4, rfl⟩ := own_form ho4
  have HB4 := Lib.hid (hm4.at HB13.out (by simp)); have HM4 := Lib.hid (HM3.out.trans hm4 (by simp)); have HO4 := Lib.hid ho4
  have hsz : w.heap.size ≤ w3.heap.size := HM3.out.size
  obtain ⟨cb, fb⟩ := cells_of HB4.out
  have hlo : w.heap.size + 1 < w4.heap.size := lt_of_block HB4.out
  clear hm4 ho4
  go_wp2_with fail
  have hm5 : Mod [w.heap.size + 1] w4 ((((w4.setCell ⟨w.heap.size + 1, 0, none⟩ (.bool true)).setCell ⟨w.heap.size + 1, 1, none⟩ (.slice a4 1 c4)).setCell ⟨w.heap.size + 1, 2, none⟩ (.slice none 0 0)).setCell ⟨w.heap.size + 1, 3, none⟩ (.slice none 0 0)) :=
    ((((Mod.refl _ _).setCell _ _ (.inl (by simp))).setCell _ _ (.inl (by simp))).setCell _ _ (.inl (by simp))).setCell _ _ (.inl (by simp))
  have hno : ∀ c, (Value.slice a4 1 c4).ownBlock = some c → c ≠ w.heap.size + 1 := own_ne HO4.out HB4.out (by decide)
  have hfin := own_rebase (own_mod HO4.out hm5 (fun c hc => by simpa using hno c hc)) (B' := w.heap.size) (fun b hb => Nat.le_trans hsz (own_lt HO4.out b hb).1)
  exact bodyPost_ret (v := leafV (.slice a4 1 c4)) (by simp [results, Tryz.results96, go_sem, cb, fb, hlo]) rfl ⟨_, rfl, by simpa using hfin, HM4.out.trans hm5 (fun x hx => .inr (by simp at hx; omega))⟩
end Go.Proofs.YtoffondipgjcoaaGreatDoor
