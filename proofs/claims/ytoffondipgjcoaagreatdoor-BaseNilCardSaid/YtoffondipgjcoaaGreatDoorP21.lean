/- Part 21 of 27 of the contracts below the law: each theorem states, of one function of the program, at a world of the form that its premises name, what the call answers and what it leaves. -/
import Derived.Test.YtoffondipgjcoaaGreatDoorP20
import Derived.Test.YtoffondipgjcoaaGreatDoorP16
import Derived.Test.YtoffondipgjcoaaGreatDoorP10
/- The contracts of package tree: ok, note, read of a leaf. -/
set_option linter.unusedVariables false
set_option maxRecDepth 100000
set_option linter.unusedSimpArgs false
namespace Go.Proofs.YtoffondipgjcoaaGreatDoor
open Go.RowKit

/-- The walk at b (of a sight too): on the work k, its error, its reads. -/
structure XAt (w : World) (b k : Nat) (e r : Int) (cs : Array Value) (T : TypeId) : Prop where
  at_ : w.heap[b]? = some (.cells cs T (0, 0))
  h0 : cs[0]? = some (pt k)
  h1 : cs[1]? = some (.int .i64 e)
  h2 : cs[2]? = some (.int .i64 r)
theorem XAt.cells {w : World} {b k : Nat} {e r : Int} {cs : Array Value} {T : TypeId} (h : XAt w b k e r cs T) : w.cell? ⟨b, 0, none⟩ = some (pt k) ∧ w.cell? ⟨b, 1, none⟩ = some (.int .i64 e) ∧ w.cell? ⟨b, 2, none⟩ = some (.int .i64 r) ∧ ∀ j, w.frozen? ⟨b, j, none⟩ = false := by
  obtain ⟨c, f⟩ := cells_of h.at_
  exact ⟨(c 0).trans h.h0, (c 1).trans h.h1, (c 2).trans h.h2, f⟩
theorem XAt.mod {w w' : World} {b k : Nat} {e r : Int} {cs : Array Value} {T : TypeId} {R : List Nat} (h : XAt w b k e r cs T) (hm : Mod R w w') (hb : b ∉ R) : XAt w' b k e r cs T := ⟨hm.at h.at_ hb, h.h0, h.h1, h.h2⟩
theorem setIf_same {cs : Array Value} {i : Nat} {v : Value} (h : cs[i]? = some v) : cs.setIfInBounds i v = cs := by
  apply Array.ext_getElem?
  intro j
  rw [Array.getElem?_setIfInBounds]
  by_cases hij : i = j
  · subst hij
    obtain ⟨h1, h2⟩ := Array.getElem?_eq_some_iff.1 h
    simp [h1, h2]
  · simp [hij]
theorem XAt.note0 {w : World} {b k : Nat} {r : Int} {cs : Array Value} {T : TypeId} (h : XAt w b k 0 r cs T) : XAt (w.setCell ⟨b, 1, none⟩ (.int .i64 0)) b k 0 r cs T := by
  refine ⟨?_, h.h0, h.h1, h.h2⟩
  rw [hp_set h.at_, setIf_same h.h1]
theorem XAt.reads {w : World} {b k : Nat} {e r : Int} {cs : Array Value} {T : TypeId} (h : XAt w b k e r cs T) (r' : Int) : XAt (w.setCell ⟨b, 2, none⟩ (.int .i64 r')) b k e r' (cs.setIfInBounds 2 (.int .i64 r')) T := by
  have hlt := (Array.getElem?_eq_some_iff.1 h.h2).1
  refine ⟨by rw [hp_set h.at_], ?_, ?_, ?_⟩
  · rw [Array.getElem?_setIfInBounds]; simpa using h.h0
  · rw [Array.getElem?_setIfInBounds]; simpa using h.h1
  · rw [Array.getElem?_setIfInBounds]; simp [hlt]
theorem ok_c (b k : Nat) (e r : Int) (cs : Array Value) (T : TypeId) (w : World) (h : XAt w b k e r cs T) :
    Calls Tryz.prog 79 #[pt b] w fun x w' => x = .returned (.bool (e == 0)) ∧ w = w' := by
  obtain ⟨-, c1, -⟩ := h.cells
  clear h
  go_enter Tryz.func79, Tryz.ntmps79
  go_wp2
  go_ret
  exact ⟨rfl, rfl⟩
theorem note_c (b k : Nat) (e r : Int) (cs : Array Value) (T : TypeId) (w : World) (h : XAt w b k 0 r cs T) :
    Calls Tryz.prog 139 #[pt b, .int .i64 e] w fun x w' => (∃ v, x = .returned v) ∧ w' = w.setCell ⟨b, 1, none⟩ (.int .i64 e) := by
  obtain ⟨-, c1, -, ff⟩ := h.cells
  have f1 := ff 1
  have HC := Lib.hid (ok_c b k 0 r cs T w h)
  clear h ff
  go_enter Tryz.func139, Tryz.ntmps139
  go_wp2_with fail
  refine HC.out.mono ?_
  rintro x w1 ⟨rfl, rfl⟩
  clear HC
  go_wp2_with fail
  go_end0
  exact ⟨⟨_, rfl⟩, rfl⟩
/-- what a leaf's reading leaves -/
def RdP (b k : Nat) (J : WkI) (W : Wk) (r : Int) (cs : Array Value) (T : TypeId) (l : List (Bytes × Bytes)) (w : World) (x : Ending) (w' : World) : Prop :=
  ∃ pv J', x = .returned (leafV pv) ∧ WkR w' k J' W ∧ Stp (b :: J.F k) (b :: J'.F k) w w' ∧ J'.key = J.key ∧ b ∉ J'.F k ∧ XAt w' b k 0 (r + 1) (cs.setIfInBounds 2 (.int .i64 (r + 1))) T ∧
    FarRow w' (b :: J'.F k) w.heap.size 152 2 pv l.length (l.flatMap pairC)
theorem Stp.cons {F F' : List Nat} {w w' : World} (b : Nat) (h : Stp F F' w w') : Stp (b :: F) (b :: F') w w' :=
  ⟨h.mod.mono (fun x hx => .inl (by simp [hx])), fun x hx => by
    rcases List.mem_cons.1 hx with rfl | hx
    · exact .inl (by simp)
    · exact (h.sub x hx).imp (fun h => by simp [h]) id⟩
set_option maxHeartbeats 2000000 in
theorem read_leaf (b k page left : Nat) (J : WkI) (W : Wk) (r : Int) (cs : Array Value) (T : TypeId) (s : Bytes) (l : List (Bytes × Bytes)) (w : World) (h : WkR w k J W) (hx : XAt w b k 0 r cs T) (hbF : b ∉ J.F k)
    (hr0 : 0 ≤ r) (hr1 : r < 1000) (hl0 : 0 < left) (hrd : W.read page = (s, 0)) (hlf : LeafPage s l) (hT : T ≠ 152) :
    Calls Tryz.prog 78 #[pt b, .int .i64 (page : Int), .int .i64 (left : Int)] w fun e w' => RdP b k J W r cs T l w e w' := by
  have H := Lib.hid h; have HX := Lib.hid hx; have HBF := Lib.hid hbF; have HLF := Lib.hid hlf; have HRD := Lib.hid hrd
  clear h hx hbF hlf hrd
  have hll : l.length ≤ 255 := by
    obtain ⟨rf, h1, -⟩ := HLF.out.facts
    have := rdPairs_len ((LR.num ⟨s, 0⟩ 1).2.num 1).1 ((LR.num ⟨s, 0⟩ 1).2.num 1).2
    rw [h1] at this
    have h2 := num1_lt (LR.num ⟨s, 0⟩ 1).2
    simp only at this; omega
  have hbl : (((left : Nat) : Int) == 0) = false := by rw [beq_eq_false_iff_ne]; omega
  go_enter Tryz.func78, Tryz.ntmps78
  go_wp2_with (with_reducible refine stop_dst 13 rfl ?_)
  refine Stop.go ?_
  have hx0 := HX.out.mod (R := []) ((Mod.refl _ w).alloc (Obj.cells #[.bool false, .slice none 0 0, .slice none 0 0, .slice none 0 0] 147)) (by simp)
  have hb0 := hp_new w (Obj.cells #[.bool false, .slice none 0 0, .slice none 0 0, .slice none 0 0] 147)
  have hm0 : Mod [] w (w.alloc (Obj.cells #[.bool false, .slice none 0 0, .slice none 0 0, .slice none 0 0] 147)) := (Mod.refl _ _).alloc _
  have hbw : b < w.heap.size := lt_of_block HX.out.at_
  generalize w.alloc (Obj.cells #[.bool false, .slice none 0 0, .slice none 0 0, .slice none 0 0] 147) = w1 at *
  obtain ⟨c0, c1, c2, ff⟩ := hx0.cells
  have f2 := ff 2
  have HX0 := Lib.hid hx0; have HB0 := Lib.hid hb0; have HM0 := Lib.hid hm0
  clear hx0 hb0 hm0 ff
  go_wp2_with fail
  have hx1 := HX0.out.reads (r + 1)
  have hm1 : Mod [b] w1 (w1.setCell ⟨b, 2, none⟩ (.int .i64 (r + 1))) := (Mod.refl _ _).setCell _ _ (.inl (by simp))
  generalize w1.setCell ⟨b, 2, none⟩ (.int .i64 (r + 1)) = w2 at *
  generalize hcs : cs.setIfInBounds 2 (.int .i64 (r + 1)) = cs' at *
  have HCS := Lib.hid hcs
  clear hcs
  have hs12 : Stp (b :: J.F k) (b :: J.F k) w w2 := (Stp.pure HM0.out).trans (Stp.of hm1 (by simp))
  have HX1 := Lib.hid hx1; have HS := Lib.hid hs12
  have HR2 := Lib.hid ((H.out.stay HM0.out (by simp)).stay hm1 (by simpa using HBF.out)); have HB2 := Lib.hid (hm1.at HB0.out (by simp; omega))
  clear hx1 hm1 hs12 c0 c1 c2 f2
  refine (ok_c b k 0 (r + 1) cs' T w2 HX1.out).mono ?_
  rintro x w3 ⟨rfl, rfl⟩
  obtain ⟨c0, c1, c2, ff⟩ := HX1.out.cells
  clear ff
  go_wp2_with fail
  refine (wRead_c k page J W w2 HR2.out).mono ?_
  rw [HRD.out]
  rintro x w3 ⟨rfl, J3, hr3, hs3, hca3⟩
  have hbF3 := hs3.far ⟨lt_of_block HX1.out.at_, HBF.out⟩
  have HX3 := Lib.hid (HX1.out.mod hs3.mod HBF.out)
  have HR3 := Lib.hid hr3; have HS3 := Lib.hid (HS.out.trans (hs3.cons b)); have HCA := Lib.hid hca3; have HBF3 := Lib.hid hbF3.2
  have hwF : w.heap.size ∉ J.F k := fun hm => by have := H.out.lt _ hm; omega
  have HB3 := Lib.hid (hs3.mod.at HB2.out hwF)
  have hwF3 := (hs3.far ⟨lt_of_block HB2.out, hwF⟩).2
  clear hr3 hs3 hca3 hbF3 c0 c1 c2
  dsimp only
  go_wp2_with fail
  refine (note_c b k 0 (r + 1) cs' T w3 HX3.out).mono ?_
  rintro x w4 ⟨⟨v, rfl⟩, hw4⟩
  have HX4 := Lib.hid (show XAt w4 b k 0 (r + 1) cs' T from by subst hw4; exact HX3.out.note0)
  have hm4 : Mod [b] w3 w4 := by subst hw4; exact (Mod.refl _ _).setCell _ _ (.inl (by simp))
  have HR4 := Lib.hid (HR3.out.stay hm4 (by simpa using HBF3.out)); have HS4 := Lib.hid (HS3.out.trans (Stp.of hm4 (by simp))); have HB4 := Lib.hid (hm4.at HB3.out (by simp; omega))
  clear hw4 hm4
  go_wp2_with fail
  refine (ok_c b k 0 (r + 1) cs' T w4 HX4.out).mono ?_
  rintro x w5 ⟨rfl, rfl⟩
  go_wp2_with fail
  refine (Read_leaf s l w4 HLF.out).mono ?_
  rintro x w5 ⟨pv, rfl, ho5, hm5⟩
  obtain ⟨pa5, pc5, rfl⟩ := own_form ho5
  dsimp only [leafV]
  have HX5 := Lib.hid (HX4.out.mod hm5 (by simp)); have HR5 := Lib.hid (HR4.out.stay hm5 (by simp)); have HS5 := Lib.hid (HS4.out.trans (Stp.pure hm5)); have HB5 := Lib.hid (hm5.at HB4.out (by simp))
  have HO5 := Lib.hid ho5
  have hlt4 : ∀ x ∈ b :: J3.F k, x < w4.heap.size := fun x hx => by
    rcases List.mem_cons.1 hx with rfl | hx
    · exact lt_of_block HX4.out.at_
    · exact HR4.out.lt x hx
  have hfar5 : FarRow w5 (b :: J3.F k) w.heap.size 152 2 (.slice pa5 l.length pc5) l.length (l.flatMap pairC) :=
    ⟨own_rebase ho5 (fun x hx => Nat.le_trans HS4.out.mod.size (own_lt ho5 x hx).1), fun x hx => ⟨(own_lt ho5 x hx).2, fun hm => by have := hlt4 x hm; have := (own_lt ho5 x hx).1; omega⟩⟩
  have HFAR5 := Lib.hid hfar5
  have hw4s : w.heap.size < w4.heap.size := lt_of_block HB4.out
  clear ho5 hm5 hlt4 hfar5
  go_wp2_with fail
  have hm6 : Mod [] w5 (w5.alloc (Obj.cells #[.bool true, .slice pa5 l.length pc5, .slice none 0 0, .slice none 0 0] 147)) := (Mod.refl _ _).alloc _
  have hn6 := hp_new w5 (Obj.cells #[.bool true, .slice pa5 l.length pc5, .slice none 0 0, .slice none 0 0] 147)
  generalize w5.alloc (Obj.cells #[.bool true, .slice pa5 l.length pc5, .slice none 0 0, .slice none 0 0] 147) = w6 at *
  have HX6 := Lib.hid (HX5.out.mod hm6 (by simp)); have HR6 := Lib.hid (HR5.out.stay hm6 (by simp)); have HS6 := Lib.hid (HS5.out.trans (Stp.pure hm6)); have HB6 := Lib.hid (hm6.at HB5.out (by simp)); have HF6 := Lib.hid (HFAR5.out.mod0 hm6); have HN6 := Lib.hid hn6
  have hwn5 : w.heap.size < w5.heap.size := lt_of_block HB5.out
  have hbn5 : b < w5.heap.size := lt_of_block HX5.out.at_
  clear hm6 hn6
  refine (note_c b k 0 (r + 1) cs' T w6 HX6.out).mono ?_
  rintro x w7 ⟨⟨v, rfl⟩, hw7⟩
  have HX7 := Lib.hid (show XAt w7 b k 0 (r + 1) cs' T from by subst hw7; exact HX6.out.note0)
  have hm7 : Mod [b] w6 w7 := by subst hw7; exact (Mod.refl _ _).setCell _ _ (.inl (by simp))
  have hs7 : Stp (b :: J3.F k) (b :: J3.F k) w6 w7 := Stp.of hm7 (by simp)
  have HR7 := Lib.hid (HR6.out.stay hm7 (by simpa using HBF3.out)); have HS7 := Lib.hid (HS6.out.trans hs7); have HB7 := Lib.hid (hm7.at HB6.out (by simp; omega)); have HF7 := Lib.hid (HF6.out.stp hs7); have HN7 := Lib.hid (hm7.at HN6.out (by simp; omega))
  clear hw7 hm7 hs7
  go_wp2_with fail
  refine (ok_c b k 0 (r + 1) cs' T w7 HX7.out).mono ?_
  rintro x w8 ⟨rfl, rfl⟩
  obtain ⟨cn, fn⟩ := cells_of HN7.out
  obtain ⟨cq, fq⟩ := cells_of HB7.out
  have hlo : w.heap.size < w7.heap.size := lt_of_block HB7.out
  go_wp2_with fail
  have hm9 : Mod [w.heap.size] w7 ((((w7.setCell ⟨w.heap.size, 0, none⟩ (.bool true)).setCell ⟨w.heap.size, 1, none⟩ (.slice pa5 l.length pc5)).setCell ⟨w.heap.size, 2, none⟩ (.slice none 0 0)).setCell ⟨w.heap.size, 3, none⟩ (.slice none 0 0)) :=
    ((((Mod.refl _ _).setCell _ _ (.inl (by simp))).setCell _ _ (.inl (by simp))).setCell _ _ (.inl (by simp))).setCell _ _ (.inl (by simp))
  have hwb : w.heap.size ≠ b := by omega
  have hrow9 := HF7.out.own
  have hno : ∀ c, (Value.slice pa5 l.length pc5).ownBlock = some c → c ≠ w.heap.size := own_ne hrow9 HB7.out (by decide)
  refine bodyPost_ret (v := leafV (.slice pa5 l.length pc5)) (by simp [results, Tryz.results78, go_sem, cq, fq, hlo]) rfl ?_
  refine ⟨_, J3, rfl, HR7.out.stay hm9 (by simpa using hwF3), ⟨HS7.out.mod.trans hm9 (fun x hx => .inr (by simp at hx; omega)), HS7.out.sub⟩, HCA.out, HBF3.out, ?_, ⟨own_mod hrow9 hm9 (fun c hc => by simpa using hno c hc), fun x hx => ?_⟩⟩
  · rw [HCS.out]; exact HX7.out.mod hm9 (by simpa using hwb.symm)
  · have := HF7.out.far x hx
    exact ⟨Nat.lt_of_lt_of_le this.1 hm9.size, this.2⟩
end Go.Proofs.YtoffondipgjcoaaGreatDoor

/- The contracts of package tree: take, write, Put of a first pair. -/
set_option linter.unusedVariables false
set_option maxRecDepth 100000
set_option linter.unusedSimpArgs false
namespace Go.Proofs.YtoffondipgjcoaaGreatDoor
open Go.RowKit

/-- what a step of the walk at b leaves: the work W' -/
def XP (b k : Nat) (J : WkI) (W' : Wk) (r : Int) (cs : Array Value) (T : TypeId) (w w' : World) : Prop :=
  ∃ J', WkR w' k J' W' ∧ Stp (b :: J.F k) (b :: J'.F k) w w' ∧ J'.key = J.key ∧ b ∉ J'.F k ∧ XAt w' b k 0 r cs T
set_option maxHeartbeats 1000000 in
theorem xtake_c (b k p : Nat) (J : WkI) (W W' : Wk) (r : Int) (cs : Array Value) (T : TypeId) (w : World) (h : WkR w k J W) (hx : XAt w b k 0 r cs T) (hbF : b ∉ J.F k) (ht : W.take = (p, W', 0)) :
    Calls Tryz.prog 94 #[pt b] w fun e w' => e = .returned (.int .i64 (p : Int)) ∧ XP b k J W' r cs T w w' := by
  have H := Lib.hid h; have HX := Lib.hid hx; have HBF := Lib.hid hbF; have HT := Lib.hid ht
  obtain ⟨c0, c1, -, -⟩ := hx.cells
  have hblt := lt_of_block hx.at_
  clear h hx hbF ht
  go_enter Tryz.func94, Tryz.ntmps94
  go_wp2_with fail
  refine (ok_c b k 0 r cs T w HX.out).mono ?_
  rintro x w1 ⟨rfl, rfl⟩
  go_wp2_with fail
  refine (wTake_c k J W w H.out).mono ?_
  rw [HT.out]
  rintro x w2 ⟨rfl, J2, hr2, hs2, hca2⟩
  have hf2 := hs2.far ⟨hblt, HBF.out⟩
  have HX2 := Lib.hid (HX.out.mod hs2.mod HBF.out); have HR2 := Lib.hid hr2; have HS2 := Lib.hid (hs2.cons b); have HCA := Lib.hid hca2; have HF2 := Lib.hid hf2.2
  clear hr2 hs2 hca2 hf2 c0 c1
  dsimp only
  go_wp2_with fail
  refine (note_c b k 0 r cs T w2 HX2.out).mono ?_
  rintro x w3 ⟨⟨v, rfl⟩, hw3⟩
  have hm3 : Mod [b] w2 w3 := by subst hw3; exact (Mod.refl _ _).setCell _ _ (.inl (by simp))
  have HX3 := Lib.hid (show XAt w3 b k 0 r cs T from by subst hw3; exact HX2.out.note0)
  have HR3 := Lib.hid (HR2.out.stay hm3 (by simpa using HF2.out)); have HS3 := Lib.hid (HS2.out.trans (Stp.of hm3 (by simp)))
  clear hw3 hm3
  go_wp2_with fail
  go_ret
  exact ⟨rfl, J2, HR3.out, HS3.out, HCA.out, HF2.out, HX3.out⟩
set_option maxHeartbeats 1000000 in
theorem xwrite_leaf (b k page : Nat) (J : WkI) (W W' : Wk) (pv : Value) (l : List (Bytes × Bytes)) (s : Bytes) (r : Int) (cs : Array Value) (T : TypeId) (w : World) (h : WkR w k J W) (hx : XAt w b k 0 r cs T) (hbF : b ∉ J.F k)
    (hp : PrS w pv l) (hl : l.length ≤ 1000000) (hw : (leafN l).write = (s, 0)) (ht : W.write page s = (W', 0)) :
    Calls Tryz.prog 95 #[pt b, .int .i64 (page : Int), leafV pv] w fun e w' => (∃ v, e = .returned v) ∧ XP b k J W' r cs T w w' := by
  obtain ⟨pa, pc, hpv, -⟩ := id hp
  have H := Lib.hid h; have HX := Lib.hid hx; have HBF := Lib.hid hbF; have HT := Lib.hid ht; have HP := Lib.hid hp; have HW := Lib.hid hw
  have hblt := lt_of_block hx.at_
  subst hpv
  clear h hx hbF ht hp hw
  go_enter Tryz.func95, Tryz.ntmps95
  go_wp2_with fail
  have hm0 : Mod [] w (w.alloc (Obj.cells #[.bool true, .slice pa l.length pc, .slice none 0 0, .slice none 0 0] 147)) := (Mod.refl _ _).alloc _
  generalize w.alloc (Obj.cells #[.bool true, .slice pa l.length pc, .slice none 0 0, .slice none 0 0] 147) = w1 at *
  have HM0 := Lib.hid hm0
  clear hm0
  refine (Write_leaf (.slice pa l.length pc) l w1 (HP.out.mod0 HM0.out) hl).mono ?_
  rw [HW.out]
  rintro x w2 ⟨rfl, hm2⟩
  have HM2 := Lib.hid (HM0.out.trans hm2 (by simp))
  have HX2 := Lib.hid (HX.out.mod HM2.out (by simp)); have HR2 := Lib.hid (H.out.stay HM2.out (by simp))
  clear hm2
  dsimp only
  go_wp2_with fail
  refine (note_c b k 0 r cs T w2 HX2.out).mono ?_
  rintro x w3 ⟨⟨v, rfl⟩, hw3⟩
  have hm3 : Mod [b] w2 w3 := by subst hw3; exact (Mod.refl _ _).setCell _ _ (.inl (by simp))
  have HX3 := Lib.hid (show XAt w3 b k 0 r cs T from by subst hw3; exact HX2.out.note0)
  have HR3 := Lib.hid (HR2.out.stay hm3 (by simpa using HBF.out)); have HS3 := Lib.hid ((Stp.pure HM2.out).trans (Stp.of (F := b :: J.F k) hm3 (by simp)))
  clear hw3 hm3
  go_wp2_with fail
  refine (ok_c b k 0 r cs T w3 HX3.out).mono ?_
  rintro x w4 ⟨rfl, rfl⟩
  obtain ⟨c0, c1, -, -⟩ := HX3.out.cells
  go_wp2_with fail
  refine (wWrite_c k page J W s w3 HR3.out).mono ?_
  rw [HT.out]
  rintro x w5 ⟨rfl, J5, hr5, hs5, hca5⟩
  have hf5 := hs5.far ⟨lt_of_block HX3.out.at_, HBF.out⟩
  have HX5 := Lib.hid (HX3.out.mod hs5.mod HBF.out); have HR5 := Lib.hid hr5; have HS5 := Lib.hid (HS3.out.trans (hs5.cons b)); have HCA := Lib.hid hca5; have HF5 := Lib.hid hf5.2
  clear hr5 hs5 hca5 hf5 c0 c1
  dsimp only
  go_wp2_with fail
  refine (note_c b k 0 r cs T w5 HX5.out).mono ?_
  rintro x w6 ⟨⟨v, rfl⟩, hw6⟩
  have hm6 : Mod [b] w5 w6 := by subst hw6; exact (Mod.refl _ _).setCell _ _ (.inl (by simp))
  have HX6 := Lib.hid (show XAt w6 b k 0 r cs T from by subst hw6; exact HX5.out.note0)
  have HR6 := Lib.hid (HR5.out.stay hm6 (by simpa using HF5.out)); have HS6 := Lib.hid (HS5.out.trans (Stp.of hm6 (by simp)))
  clear hw6 hm6
  go_wp2_with fail
  go_end0
  exact ⟨⟨_, rfl⟩, J5, HR6.out, HS6.out, HCA.out, HF5.out, HX6.out⟩
set_option maxHeartbeats 1000000 in
theorem Put1_c (b k p b1 b2 b3 : Nat) (J : WkI) (W W1 W2 : Wk) (key value s : Bytes) (r : Int) (cs : Array Value) (T : TypeId) (w : World) (h : WkR w k J W) (hx : XAt w b k 0 r cs T) (hbF : b ∉ J.F k)
    (h1 : w.heap[b1]? = some (.cells #[.int .i64 0] 3 (0, 0))) (h2 : w.heap[b2]? = some (.cells #[.string (str key)] 9 (0, 0))) (h3 : w.heap[b3]? = some (.cells #[.string (str value)] 9 (0, 0)))
    (n2 : b2 ∉ b :: J.F k) (n3 : b3 ∉ b :: J.F k)
    (ht : W.take = (p, W1, 0)) (hw : (leafN [(key, value)]).write = (s, 0)) (hp : W1.write p s = (W2, 0)) :
    Calls Tryz.prog 92 #[pt b, pt b1, pt b2, pt b3] w fun e w' => e = .returned (.int .i64 (p : Int)) ∧ XP b k J W2 r cs T w w' := by
  have H := Lib.hid h; have HX := Lib.hid hx; have HBF := Lib.hid hbF; have HT := Lib.hid ht; have HW := Lib.hid hw; have HP := Lib.hid hp
  have HB2 := Lib.hid h2; have HB3 := Lib.hid h3
  obtain ⟨c1, f1⟩ := cells_of h1
  have hblt := lt_of_block hx.at_
  clear h hx hbF ht hw hp h2 h3
  go_enter Tryz.func92, Tryz.ntmps92
  go_wp2_with fail
  refine (xtake_c b k p J W W1 r cs T w H.out HX.out HBF.out HT.out).mono ?_
  rintro x w2 ⟨rfl, J2, hr2, hs2, hca2, hbF2, hx2⟩
  have HB22 := Lib.hid (hs2.mod.at HB2.out n2); have HB32 := Lib.hid (hs2.mod.at HB3.out n3)
  have HR2 := Lib.hid hr2; have HS2 := Lib.hid hs2; have HCA2 := Lib.hid hca2; have HBF2 := Lib.hid hbF2; have HX2 := Lib.hid hx2
  obtain ⟨d2, g2⟩ := cells_of HB22.out
  obtain ⟨d3, g3⟩ := cells_of HB32.out
  clear hr2 hs2 hca2 hbF2 hx2 c1 f1
  go_wp2_with fail
  refine (Put_nil key value w2).mono ?_
  rintro x w3 ⟨pv, rfl, ho3, hm3⟩
  have hps : PrS w3 pv [(key, value)] := prs_own ho3 rfl (by simp)
  have HPS := Lib.hid hps
  have HR3 := Lib.hid (HR2.out.stay hm3 (by simp)); have HS3 := Lib.hid (HS2.out.trans (Stp.pure hm3)); have HX3 := Lib.hid (HX2.out.mod hm3 (by simp))
  clear ho3 hm3 hps d2 g2 d3 g3
  go_wp2_with fail
  refine (xwrite_leaf b k p J2 W1 W2 pv [(key, value)] s r cs T w3 HR3.out HX3.out HBF2.out HPS.out (by simp) HW.out HP.out).mono ?_
  rintro x w4 ⟨⟨v, rfl⟩, J4, hr4, hs4, hca4, hbF4, hx4⟩
  have HR4 := Lib.hid hr4; have HS4 := Lib.hid (HS3.out.trans hs4); have HCA4 := Lib.hid (hca4.trans HCA2.out); have HBF4 := Lib.hid hbF4; have HX4 := Lib.hid hx4
  clear hr4 hs4 hca4 hbF4 hx4
  go_wp2_with fail
  go_ret
  exact ⟨rfl, J4, HR4.out, HS4.out, HCA4.out, HBF4.out, HX4.out⟩
set_option maxHeartbeats 1000000 in
theorem do_put (k p b1 b2 b3 : Nat) (J : WkI) (W W1 W2 : Wk) (key value s : Bytes) (w : World) (h : WkR w k J W) (ho : W.over = false) (hn : W.notes.length ≤ 1000000)
    (h1 : w.heap[b1]? = some (.cells #[.int .i64 0] 3 (0, 0))) (h2 : w.heap[b2]? = some (.cells #[.string (str key)] 9 (0, 0))) (h3 : w.heap[b3]? = some (.cells #[.string (str value)] 9 (0, 0)))
    (n1 : b1 ∉ J.F k) (n2 : b2 ∉ J.F k) (n3 : b3 ∉ J.F k)
    (ht : W.save.2.take = (p, W1, 0)) (hw : (leafN [(key, value)]).write = (s, 0)) (hp : W1.write p s = (W2, 0)) :
    Calls Tryz.prog 83 #[pt k, .int .i64 0, .func (.func 92) #[] #[pt b1, pt b2, pt b3]] w fun e w' => e = .returned (.tuple #[.int .i64 (p : Int), .int .i64 0]) ∧ WkP k J W2 w w' := by
  have H := Lib.hid h; have HT := Lib.hid ht; have HW := Lib.hid hw; have HP := Lib.hid hp; have HO := Lib.hid ho
  have HB1 := Lib.hid h1; have HB2 := Lib.hid h2; have HB3 := Lib.hid h3
  clear h ht hw hp h1 h2 h3 ho
  go_enter Tryz.func83, Tryz.ntmps83
  go_wp2_with fail
  have hm0 : Mod [] w (w.alloc (Obj.cells #[pt k, .int .i64 0, .int .i64 0] 145)) := (Mod.refl _ _).alloc _
  have hb0 := hp_new w (Obj.cells #[pt k, .int .i64 0, .int .i64 0] 145)
  generalize w.alloc (Obj.cells #[pt k, .int .i64 0, .int .i64 0] 145) = w1 at *
  have hx1 : XAt w1 w.heap.size k 0 0 #[pt k, .int .i64 0, .int .i64 0] 145 := ⟨hb0, rfl, rfl, rfl⟩
  have hbF : w.heap.size ∉ J.F k := fun hm => by have := H.out.lt _ hm; omega
  have HR1 := Lib.hid (H.out.stay hm0 (by simp)); have HX1 := Lib.hid hx1; have HS1 := Lib.hid (show Stp (J.F k) (J.F k) w w1 from Stp.pure hm0); have HBF := Lib.hid hbF
  have HB11 := Lib.hid (hm0.at HB1.out (by simp)); have HB21 := Lib.hid (hm0.at HB2.out (by simp)); have HB31 := Lib.hid (hm0.at HB3.out (by simp))
  have l2 := lt_of_block HB2.out; have l3 := lt_of_block HB3.out
  clear hm0 hb0 hx1 hbF
  refine (wSave_c k J W w1 HR1.out HO.out hn).mono ?_
  rintro x w2 ⟨rfl, J2, hr2, hs2, hca2⟩
  have f1 := hs2.far ⟨lt_of_block HB11.out, n1⟩
  have f2 := hs2.far ⟨lt_of_block HB21.out, n2⟩
  have f3 := hs2.far ⟨lt_of_block HB31.out, n3⟩
  have f0 := hs2.far ⟨lt_of_block HX1.out.at_, HBF.out⟩
  have HB12 := Lib.hid (hs2.mod.at HB11.out n1); have HB22 := Lib.hid (hs2.mod.at HB21.out n2); have HB32 := Lib.hid (hs2.mod.at HB31.out n3)
  have HX2 := Lib.hid (HX1.out.mod hs2.mod HBF.out); have HR2 := Lib.hid hr2; have HS2 := Lib.hid (HS1.out.trans hs2); have HCA2 := Lib.hid hca2
  have HP1 := Lib.hid (Put1_c w.heap.size k p b1 b2 b3 J2 W.save.2 W1 W2 key value s 0 _ _ w2 HR2.out HX2.out f0.2 HB12.out HB22.out HB32.out (by simp only [List.mem_cons, not_or]; exact ⟨by omega, f2.2⟩) (by simp only [List.mem_cons, not_or]; exact ⟨by omega, f3.2⟩) HT.out HW.out HP.out)
  clear hr2 hs2 hca2 f1 f2 f3 f0
  go_wp2_with fail
  refine HP1.out.mono ?_
  rintro x w3 ⟨rfl, J3, hr3, hs3, hca3, hbF3, hx3⟩
  have HR3 := Lib.hid hr3; have HX3 := Lib.hid hx3; have HCA3 := Lib.hid (hca3.trans HCA2.out)
  have hs03 : Stp (J.F k) (J3.F k) w w3 := by
    refine ⟨HS2.out.mod.trans hs3.mod (fun x hx => ?_), fun x hx => ?_⟩
    · rcases List.mem_cons.1 hx with rfl | hx
      · exact .inr (Nat.le_refl _)
      · exact HS2.out.sub x hx
    · rcases hs3.sub x (by simp [hx]) with h1 | h1
      · rcases List.mem_cons.1 h1 with rfl | h1
        · exact absurd hx hbF3
        · exact HS2.out.sub x h1
      · exact .inr (Nat.le_trans HS2.out.mod.size h1)
  have HS3 := Lib.hid hs03
  clear hr3 hs3 hca3 hbF3 hx3 hs03
  go_wp2_with fail
  refine (ok_c w.heap.size k 0 0 _ _ w3 HX3.out).mono ?_
  rintro x w4 ⟨rfl, rfl⟩
  go_wp2_with fail
  go_ret2
  exact ⟨rfl, J3, HR3.out, HS3.out, HCA3.out⟩
set_option maxHeartbeats 1000000 in
theorem tput_c (k p : Nat) (J : WkI) (W W1 W2 : Wk) (key value s : Bytes) (w : World) (h : WkR w k J W) (ho : W.over = false) (hn : W.notes.length ≤ 1000000) (hk0 : key ≠ []) (hk1 : key.length ≤ 32) (hv : value.length ≤ 40)
    (ht : W.save.2.take = (p, W1, 0)) (hw : (leafN [(key, value)]).write = (s, 0)) (hp : W1.write p s = (W2, 0)) :
    Calls Tryz.prog 43 #[pt k, .int .i64 0, .string (str key), .string (str value)] w fun e w' => e = .returned (.tuple #[.int .i64 (p : Int), .int .i64 0]) ∧ WkP k J W2 w w' := by
  have H := Lib.hid h; have HT := Lib.hid ht; have HW := Lib.hid hw; have HP := Lib.hid hp; have HO := Lib.hid ho
  have e1 := str_size key; have e2 := str_size value; have e3 := str_toList key
  have e4 : (key == []) = false := by simpa using hk0
  clear h ht hw hp ho hk0
  go_enter Tryz.func43, Tryz.ntmps43
  go_wp2_with fail
  have hb1 := hp_old (o' := Obj.cells #[.string (str value)] 9) (hp_old (o' := Obj.cells #[.string (str key)] 9) (hp_new w (Obj.cells #[.int .i64 0] 3)))
  have hb2 := hp_old (o' := Obj.cells #[.string (str value)] 9) (hp_new1 w (Obj.cells #[.int .i64 0] 3) (Obj.cells #[.string (str key)] 9))
  have hb3 := hp_new2 w (Obj.cells #[.int .i64 0] 3) (Obj.cells #[.string (str key)] 9) (Obj.cells #[.string (str value)] 9)
  have hm0 : Mod [] w (((w.alloc (Obj.cells #[.int .i64 0] 3)).alloc (Obj.cells #[.string (str key)] 9)).alloc (Obj.cells #[.string (str value)] 9)) := (((Mod.refl _ _).alloc _).alloc _).alloc _
  generalize ((w.alloc (Obj.cells #[.int .i64 0] 3)).alloc (Obj.cells #[.string (str key)] 9)).alloc (Obj.cells #[.string (str value)] 9) = w1 at *
  have hlt := H.out.lt
  refine (do_put k p _ _ _ J W W1 W2 key value s w1 (H.out.stay hm0 (by simp)) HO.out hn hb1 hb2 hb3 (fun hm => by have := hlt _ hm; omega) (fun hm => by have := hlt _ hm; omega) (fun hm => by have := hlt _ hm; omega) HT.out HW.out HP.out).mono ?_
  rintro x w2 ⟨rfl, hp2⟩
  have HF := Lib.hid (hp2.pre hm0)
  clear hp2 hm0 hb1 hb2 hb3 hlt
  go_wp2_with fail
  go_ret2
  exact ⟨rfl, HF.out⟩
end Go.Proofs.YtoffondipgjcoaaGreatDoor

/- The contracts of package tree: Get and Scan of a tree of one leaf. -/
set_option linter.unusedVariables false
set_option maxRecDepth 100000
set_option linter.unusedSimpArgs false
namespace Go.Proofs.YtoffondipgjcoaaGreatDoor
open Go.RowKit

theorem Stp.drop {F F' : List Nat} {b : Nat} {w w1 w2 : World} (hm : Mod [] w w1) (hb : w.heap.size ≤ b) (h : Stp (b :: F) (b :: F') w1 w2) (hn : b ∉ F') : Stp F F' w w2 := by
  refine ⟨(hm.mono (R' := F) (by simp)).trans h.mod (fun x hx => ?_), fun x hx => ?_⟩
  · rcases List.mem_cons.1 hx with rfl | hx
    · exact .inr hb
    · exact .inl hx
  · rcases h.sub x (by simp [hx]) with h1 | h1
    · rcases List.mem_cons.1 h1 with rfl | h1
      · exact absurd hx hn
      · exact .inl h1
    · exact .inr (Nat.le_trans hm.size h1)
theorem Get_none (k : Nat) (key : Bytes) (w : World) :
    Calls Tryz.prog 37 #[pt k, .int .i64 0, .string (str key)] w fun e w' => e = .returned (.tuple #[.string ⟨#[]⟩, .bool false, .int .i64 0]) ∧ Mod [] w w' := by
  go_enter Tryz.func37, Tryz.ntmps37
  go_wp2_with fail
  go_loopw [1, 10] (fun r l wr => r = .int .i64 0 ∧ Mod [] w wr) (fun _ l _ => 0)
  case atStart => exact ⟨rfl, (Mod.refl _ _).alloc _⟩
  case round =>
    obtain ⟨rfl, hm⟩ := hrel
    go_wp2_with fail
    go_ret3
    exact ⟨rfl, hm⟩
set_option maxHeartbeats 2000000 in
theorem Get_leaf (k root : Nat) (J : WkI) (W : Wk) (key value s : Bytes) (l : List (Bytes × Bytes)) (w : World) (h : WkR w k J W) (hr : root ≠ 0) (hrb : root ≤ 1000) (hrd : W.read root = (s, 0)) (hlf : LeafPage s l)
    (hf : ((leafN l).find key).2 = true) (hg : (l[((leafN l).find key).1]?).map (·.2) = some value) (hll : l.length ≤ 1000) :
    Calls Tryz.prog 37 #[pt k, .int .i64 (root : Int), .string (str key)] w fun e w' => e = .returned (.tuple #[.string (str value), .bool true, .int .i64 0]) ∧ WkP k J W w w' := by
  have H := Lib.hid h; have HRD := Lib.hid hrd; have HLF := Lib.hid hlf; have HFI := Lib.hid hf; have HG := Lib.hid hg
  clear h hrd hlf hf hg
  go_enter Tryz.func37, Tryz.ntmps37
  go_wp2_with fail
  have hm0 : Mod [] w (w.alloc (Obj.cells #[pt k, .int .i64 0, .int .i64 0] 145)) := (Mod.refl _ _).alloc _
  have hb0 := hp_new w (Obj.cells #[pt k, .int .i64 0, .int .i64 0] 145)
  generalize w.alloc (Obj.cells #[pt k, .int .i64 0, .int .i64 0] 145) = w1 at *
  have hx1 : XAt w1 w.heap.size k 0 0 #[pt k, .int .i64 0, .int .i64 0] 145 := ⟨hb0, rfl, rfl, rfl⟩
  have hbF : w.heap.size ∉ J.F k := fun hm => by have := H.out.lt _ hm; omega
  have HM0 := Lib.hid hm0; have HX1 := Lib.hid hx1; have HBF := Lib.hid hbF
  clear hm0 hb0 hx1 hbF
  go_loopw [1, 10] (fun r l wr => r = .int .i64 (root : Int) ∧ l = .int .i64 40 ∧ wr = w1) (fun _ l _ => 0)
  case atStart => exact ⟨rfl, rfl, rfl⟩
  case round =>
    obtain ⟨rfl, rfl, rfl⟩ := hrel
    have hb : (((root : Nat) : Int) != 0) = true := by rw [bne_iff_ne]; omega
    clear hr
    go_wp2_with fail
    refine (read_leaf w.heap.size k root 40 J W 0 _ _ s l _ (H.out.stay HM0.out (by simp)) HX1.out HBF.out (by omega) (by omega) (by omega) HRD.out HLF.out (by decide)).mono ?_
    rintro x w2 ⟨pv, J2, rfl, hr2, hs2, hca2, hbF2, hx2, hrow2⟩
    obtain ⟨pa, pc, rfl⟩ := own_form hrow2.own
    dsimp only [leafV]
    have HR2 := Lib.hid hr2; have HS2 := Lib.hid hs2; have HCA := Lib.hid hca2; have HBF2 := Lib.hid hbF2; have HX2 := Lib.hid hx2; have HRW := Lib.hid hrow2
    clear hr2 hs2 hca2 hbF2 hx2 hrow2
    go_wp2_with fail
    have hm3 : Mod [] w2 (w2.alloc (Obj.cells #[.bool true, .slice pa l.length pc, .slice none 0 0, .slice none 0 0] 147)) := (Mod.refl _ _).alloc _
    have hn3 := hp_new w2 (Obj.cells #[.bool true, .slice pa l.length pc, .slice none 0 0, .slice none 0 0] 147)
    generalize w2.alloc (Obj.cells #[.bool true, .slice pa l.length pc, .slice none 0 0, .slice none 0 0] 147) = w3 at *
    have HM3 := Lib.hid hm3; have HN3 := Lib.hid hn3
    clear hm3 hn3
    refine (ok_c w.heap.size k 0 _ _ _ w3 (HX2.out.mod HM3.out (by simp))).mono ?_
    rintro x w4 ⟨rfl, rfl⟩
    obtain ⟨cn, fn⟩ := cells_of HN3.out
    go_wp2_with fail
    have hps : PrS w3 (.slice pa l.length pc) l := prs_own (HRW.out.mod0 HM3.out).own rfl (by omega)
    refine (Find_c (.slice pa l.length pc) l key w3 hps (by omega)).mono ?_
    have hC := HFI.out
    have hG := HG.out
    generalize hFF : (leafN l).find key = FF at *
    obtain ⟨C, fb⟩ := FF
    dsimp only at hC hG
    subst hC
    have hCl : C < l.length := by
      rcases Nat.lt_or_ge C l.length with h | h
      · exact h
      · rw [List.getElem?_eq_none h] at hG; simp at hG
    rintro x w5 ⟨rfl, hm5⟩
    have hgt : l[C]? = some l[C] := List.getElem?_eq_getElem hCl
    rw [hgt] at hG
    simp only [Option.map_some, Option.some.injEq] at hG
    have hrd5 : ∃ b off, pa = some ⟨b, off, none⟩ ∧ w5.cell? ⟨b, off + C * 2 + 1, none⟩ = some (.string (str value)) := by
      obtain ⟨ao, c', hv, hr, hbk⟩ := RdS.ofOwn ((HRW.out.mod0 HM3.out).mod0 hm5).own (by omega)
      cases hv
      obtain ⟨b, off, hb, hcc⟩ := hr.at pairC_len hgt
      refine ⟨b, off, hb, ?_⟩
      rw [hcc 1 (by omega), ← hG]; rfl
    obtain ⟨b, off, rfl, hcv⟩ := hrd5
    obtain ⟨cn5, fn5⟩ := cells_of (hm5.at HN3.out (by simp))
    have HM5 := Lib.hid (HM3.out.trans hm5 (by simp))
    clear hm5 hgt hG cn fn hps hFF
    dsimp only
    go_wp2_with fail
    go_ret3
    have hs02 := Stp.drop HM0.out (Nat.le_refl _) HS2.out HBF2.out
    exact ⟨rfl, J2, HR2.out.stay HM5.out (by simp), hs02.trans (Stp.pure HM5.out), HCA.out⟩
end Go.Proofs.YtoffondipgjcoaaGreatDoor

/- The contracts of package tree: Scan of a tree of one leaf. -/
set_option linter.unusedVariables false
set_option maxRecDepth 100000
set_option linter.unusedSimpArgs false
namespace Go.Proofs.YtoffondipgjcoaaGreatDoor
open Go.RowKit

/-- what a leaf's pairs leave -/
def PsP (b k : Nat) (J : WkI) (W : Wk) (r : Int) (cs : Array Value) (T : TypeId) (l : List (Bytes × Bytes)) (w : World) (x : Ending) (w' : World) : Prop :=
  ∃ v J', x = .returned v ∧ WkR w' k J' W ∧ Stp (b :: J.F k) (b :: J'.F k) w w' ∧ J'.key = J.key ∧ b ∉ J'.F k ∧ XAt w' b k 0 (r + 1) (cs.setIfInBounds 2 (.int .i64 (r + 1))) T ∧
    w'.ownsRow w.heap.size 152 2 v l.length (l.flatMap pairC)
set_option maxHeartbeats 2000000 in
theorem pairs_leaf (b k page : Nat) (J : WkI) (W : Wk) (r : Int) (cs : Array Value) (T : TypeId) (s : Bytes) (l : List (Bytes × Bytes)) (w : World) (h : WkR w k J W) (hx : XAt w b k 0 r cs T) (hbF : b ∉ J.F k)
    (hr0 : 0 ≤ r) (hr1 : r < 1000) (hrd : W.read page = (s, 0)) (hlf : LeafPage s l) (hT : T ≠ 152) (hll : l.length ≤ 1000) :
    Calls Tryz.prog 82 #[pt b, .int .i64 (page : Int), .int .i64 40, .string ⟨#[]⟩, .string ⟨#[]⟩] w fun e w' => PsP b k J W r cs T l w e w' := by
  have HC := Lib.hid (read_leaf b k page 40 J W r cs T s l w h hx hbF hr0 hr1 (by omega) hrd hlf hT)
  clear h hx hbF hrd hlf
  go_enter Tryz.func82, Tryz.ntmps82
  go_wp2_with fail
  refine HC.out.mono ?_
  rintro x w2 ⟨pv, J2, rfl, hr2, hs2, hca2, hbF2, hx2, hrow2⟩
  obtain ⟨pa, pc, rfl⟩ := own_form hrow2.own
  dsimp only [leafV]
  have HR2 := Lib.hid hr2; have HS2 := Lib.hid hs2; have HCA := Lib.hid hca2; have HBF2 := Lib.hid hbF2; have HX2 := Lib.hid hx2; have HRW := Lib.hid hrow2
  clear hr2 hs2 hca2 hbF2 hx2 hrow2 HC
  go_wp2_with fail
  have hm3 : Mod [] w2 (w2.alloc (Obj.cells #[.bool true, .slice pa l.length pc, .slice none 0 0, .slice none 0 0] 147)) := (Mod.refl _ _).alloc _
  have hn3 := hp_new w2 (Obj.cells #[.bool true, .slice pa l.length pc, .slice none 0 0, .slice none 0 0] 147)
  generalize w2.alloc (Obj.cells #[.bool true, .slice pa l.length pc, .slice none 0 0, .slice none 0 0] 147) = w3 at *
  have hrd3 : RdS w3 2 pa l.length (l.flatMap pairC) := by
    obtain ⟨ao, c', hv, hr, hbk⟩ := RdS.ofOwn (HRW.out.mod0 hm3).own (by omega)
    cases hv
    exact hr
  have HM3 := Lib.hid hm3; have HN3 := Lib.hid hn3; have HRD3 := Lib.hid hrd3
  clear hm3 hn3 hrd3
  go_loopw [11, 26] (fun v i wr => ∃ j : Nat, j ≤ l.length ∧ i = .int .i64 j ∧ wr.ownsRow w3.heap.size 152 2 v j ((l.take j).flatMap pairC) ∧ Mod [] w3 wr) (fun _ i _ => l.length - (intOf i).toNat)
  case atStart => exact ⟨0, Nat.zero_le _, rfl, ⟨rfl, .inl ⟨rfl, rfl⟩⟩, Mod.refl _ _⟩
  case round =>
    obtain ⟨j, hj, rfl, hv, hm⟩ := hrel
    have hsz := hm.size
    by_cases hlt : j < l.length
    · obtain ⟨b', off, rfl, hcc⟩ := (HRD3.out.mod hm (by simp)).at pairC_len (List.getElem?_eq_getElem hlt)
      have hc0 := hcc 0 (by omega)
      have hc1 := hcc 1 (by omega)
      simp only [Nat.add_zero, pairC, List.getElem?_cons_zero, List.getElem?_cons_succ] at hc0 hc1
      have hX : (l.take (j + 1)) = l.take j ++ [l[j]] := List.take_succ_eq_append_getElem hlt
      generalize l[j] = X at *
      obtain ⟨X1, X2⟩ := X
      dsimp only at *
      have htX := str_toList X1
      have hbl : Op.bytesLess X1 [] = false := by cases X1 <;> rfl
      have HX := Lib.hid hX; have HV := Lib.hid hv; have HM := Lib.hid hm
      clear hX hv hm hcc
      go_wp2_with (with_reducible refine stop_dst 46 rfl ?_)
      refine Stop.go ?_
      have hm4 : Mod [] w3 (wr.alloc (Obj.cells #[.string (str X1), .string (str X2)] 152)) := HM.out.alloc _
      have hv4 := own_alloc HV.out (Obj.cells #[.string (str X1), .string (str X2)] 152)
      generalize wr.alloc (Obj.cells #[.string (str X1), .string (str X2)] 152) = w4 at *
      have HM4 := Lib.hid hm4; have HV4 := Lib.hid hv4
      have hsz4 := hm4.size
      clear hm4 hv4 hc0 hc1 htX hbl
      go_wp2_with (at_builtin; refine wpList_app_new w3.heap.size 32 152 (.agg #[.string ⟨#[]⟩, .string ⟨#[]⟩]) 2 32 _ [.string (str X1), .string (str X2)] _ rfl _ _ rfl Tryz.underlying32 Tryz.i_pair rfl (by decide) (by decide) _ j _ HV4.out rfl 1 1 rfl rfl rfl (by omega) hsz4 ?_)
      intro v5 w5 ho5 hg5
      have HO5 := Lib.hid ho5; have HM5 := Lib.hid (HM4.out.app HV4.out (Nat.le_refl _) hg5)
      clear ho5 hg5
      go_wp2_with fail
      go_roundw
      case rel => exact ⟨j + 1, by omega, by go_num, by rw [HX.out, flatPair_snoc]; exact HO5.out, HM5.out⟩
      case measure => simp [intOf]; omega
    · obtain rfl : j = l.length := by omega
      rw [List.take_length] at hv
      obtain ⟨a9, c9, rfl⟩ := own_form hv
      obtain ⟨cn, fn⟩ := cells_of (hm.at HN3.out (by simp))
      have HM := Lib.hid hm
      have HFN := Lib.hid (own_rebase hv (B' := w.heap.size) (fun x hx => by have h1 := (own_lt hv x hx).1; have h2 := HM3.out.size; have h3 := HS2.out.mod.size; omega))
      clear hv hm
      go_wp2_with fail
      clear cn fn
      go_loopw [11, 52] (fun v i wr' => v = .slice a9 l.length c9 ∧ i = .int .i64 0 ∧ wr' = wr) (fun _ _ _ => 0)
      case atStart => exact ⟨rfl, rfl, rfl⟩
      case round =>
        obtain ⟨rfl, rfl, rfl⟩ := hrel
        go_wp2_with fail
        go_ret
        have hm23 := HM3.out.trans HM.out (by simp)
        exact ⟨_, J2, rfl, HR2.out.stay hm23 (by simp), HS2.out.trans (Stp.pure hm23), HCA.out, HBF2.out, HX2.out.mod hm23 (by simp), HFN.out⟩
set_option maxHeartbeats 2000000 in
theorem Scan_none (k : Nat) (w : World) :
    Calls Tryz.prog 38 #[pt k, .int .i64 0, .string ⟨#[]⟩, .string ⟨#[]⟩] w fun e w' => e = .returned (.tuple #[.slice none 0 0, .int .i64 0]) ∧ w = w' := by
  go_enter Tryz.func38, Tryz.ntmps38
  go_wp2_with fail
  go_ret2
  exact ⟨rfl, rfl⟩
def ScP (k : Nat) (J : WkI) (W : Wk) (n : Nat) (w : World) (x : Ending) (w' : World) : Prop := ∃ a c, x = .returned (.tuple #[.slice a n c, .int .i64 0]) ∧ WkP k J W w w'
set_option maxHeartbeats 2000000 in
theorem Scan_leaf (k root : Nat) (J : WkI) (W : Wk) (s : Bytes) (l : List (Bytes × Bytes)) (w : World) (h : WkR w k J W) (hr : root ≠ 0) (hrd : W.read root = (s, 0)) (hlf : LeafPage s l) (hll : l.length ≤ 1000) :
    Calls Tryz.prog 38 #[pt k, .int .i64 (root : Int), .string ⟨#[]⟩, .string ⟨#[]⟩] w fun e w' => ScP k J W l.length w e w' := by
  have H := Lib.hid h; have HRD := Lib.hid hrd; have HLF := Lib.hid hlf
  have hb : (((root : Nat) : Int) == 0) = false := by rw [beq_eq_false_iff_ne]; omega
  clear h hrd hlf hr
  go_enter Tryz.func38, Tryz.ntmps38
  go_wp2_with fail
  have hm0 : Mod [] w (w.alloc (Obj.cells #[pt k, .int .i64 0, .int .i64 0] 145)) := (Mod.refl _ _).alloc _
  have hb0 := hp_new w (Obj.cells #[pt k, .int .i64 0, .int .i64 0] 145)
  generalize w.alloc (Obj.cells #[pt k, .int .i64 0, .int .i64 0] 145) = w1 at *
  have hx1 : XAt w1 w.heap.size k 0 0 #[pt k, .int .i64 0, .int .i64 0] 145 := ⟨hb0, rfl, rfl, rfl⟩
  have hbF : w.heap.size ∉ J.F k := fun hm => by have := H.out.lt _ hm; omega
  have HM0 := Lib.hid hm0
  refine (pairs_leaf w.heap.size k root J W 0 _ _ s l w1 (H.out.stay hm0 (by simp)) hx1 hbF (by omega) (by omega) HRD.out HLF.out (by decide) hll).mono ?_
  clear hm0 hb0 hx1 hbF
  rintro x w2 ⟨v, J2, rfl, hr2, hs2, hca2, hbF2, hx2, ho2⟩
  obtain ⟨a2, c2, rfl⟩ := own_form ho2
  have HS := Lib.hid (Stp.drop HM0.out (Nat.le_refl _) hs2 hbF2); have HR2 := Lib.hid hr2; have HCA := Lib.hid hca2; have HX2 := Lib.hid hx2
  clear hr2 hs2 hca2 hbF2 hx2 ho2
  go_wp2_with fail
  refine (ok_c w.heap.size k 0 _ _ _ w2 HX2.out).mono ?_
  rintro x w3 ⟨rfl, rfl⟩
  go_wp2_with fail
  go_ret2
  exact ⟨a2, c2, rfl, J2, HR2.out, HS.out, HCA.out⟩
end Go.Proofs.YtoffondipgjcoaaGreatDoor

/- The contracts of package tree: Sound of a tree of one leaf. -/
set_option linter.unusedVariables false
set_option maxRecDepth 100000
set_option linter.unusedSimpArgs false
namespace Go.Proofs.YtoffondipgjcoaaGreatDoor
open Go.RowKit

theorem look_intP {w : World} {r : Nat} {m : List (Int × Int)} (h : MapP intK intK w r m) (k x : Int) (hx : (alook m k).getD 0 = x) :
    ∀ b : Nat, b = r → (Instr.lookup 176 (.map (some b)) (.int .i64 k) false).run Tryz.prog w = .ok (.int .i64 x) w := by
  rintro b rfl
  have h1 := run_lookup_mapP (P := Tryz.prog) 176 3 Tryz.underlying176 (keyOK_int Tryz.underlying3) (.int .i64 0) zero_int h k false
  refine h1.trans ?_
  subst hx
  cases alook m k <;> rfl
abbrev sgC (k pm : Nat) (r d : Int) : Array Value := #[pt k, .int .i64 0, .int .i64 r, .map (some pm), .int .i64 d, .bool false]
/-- what a leaf's look leaves -/
def LkP (b k pm page : Nat) (J : WkI) (W : Wk) (w w' : World) : Prop :=
  ∃ J', WkR w' k J' W ∧ Stp (b :: pm :: J.F k) (b :: pm :: J'.F k) w w' ∧ J'.key = J.key ∧ b ∉ J'.F k ∧ pm ∉ J'.F k ∧ w'.heap[b]? = some (.cells (sgC k pm 1 1) 178 (0, 0)) ∧ MapP intK intK w' pm [((page : Int), (1 : Int))]
set_option maxHeartbeats 4000000 in
theorem look_leaf (b k pm page : Nat) (J : WkI) (W : Wk) (s : Bytes) (l : List (Bytes × Bytes)) (w : World) (h : WkR w k J W) (hx : w.heap[b]? = some (.cells (sgC k pm 0 0) 178 (0, 0))) (hbF : b ∉ J.F k) (hpF : pm ∉ J.F k)
    (hp : MapP (α := Int) intK intK w pm []) (hrd : W.read page = (s, 0)) (hlf : LeafPage s l) (hll : l.length ≤ 1000) (hl0 : l ≠ []) :
    Calls Tryz.prog 107 #[pt b, .int .i64 (page : Int), .int .i64 1, .string ⟨#[]⟩, .string ⟨#[]⟩] w fun e w' => (∃ v, e = .returned v) ∧ LkP b k pm page J W w w' := by
  have hpb : pm ≠ b := hp.ne hx
  have HC := Lib.hid (read_leaf b k page 40 J W 0 (sgC k pm 0 0) 178 s l w h ⟨hx, rfl, rfl, rfl⟩ hbF (by omega) (by omega) (by omega) hrd hlf (by decide))
  have HP := Lib.hid hp; have HPF := Lib.hid hpF
  have hbl := lt_of_block hx
  have hpl := hp.lt
  clear h hx hbF hrd hlf hp hpF
  go_enter Tryz.func107, Tryz.ntmps107
  go_wp2_with fail
  refine HC.out.mono ?_
  rintro x w2 ⟨pv, J2, rfl, hr2, hs2, hca2, hbF2, hx2, hrow2⟩
  obtain ⟨pa, pc, rfl⟩ := own_form hrow2.own
  dsimp only [leafV]
  have hpf2 := hs2.far ⟨hpl, by simp only [List.mem_cons, not_or]; exact ⟨hpb, HPF.out⟩⟩
  have HP2 := Lib.hid (HP.out.mod hs2.mod (by simp only [List.mem_cons, not_or]; exact ⟨hpb, HPF.out⟩))
  have HR2 := Lib.hid hr2; have HS2 := Lib.hid hs2; have HCA := Lib.hid hca2; have HBF2 := Lib.hid hbF2; have HRW := Lib.hid hrow2; have HPF2 := Lib.hid (show pm ∉ J2.F k from fun hm => hpf2.2 (by simp [hm]))
  have HX2 := Lib.hid (show w2.heap[b]? = some (.cells (sgC k pm 1 0) 178 (0, 0)) from hx2.at_)
  clear hr2 hs2 hca2 hbF2 hx2 hrow2 HC hpf2
  go_wp2_with (with_reducible refine stop_dst 30 rfl ?_)
  refine Stop.go ?_
  have hm3 : Mod [] w2 (w2.alloc (Obj.cells #[.bool true, .slice pa l.length pc, .slice none 0 0, .slice none 0 0] 147)) := (Mod.refl _ _).alloc _
  have hn3 := hp_new w2 (Obj.cells #[.bool true, .slice pa l.length pc, .slice none 0 0, .slice none 0 0] 147)
  generalize w2.alloc (Obj.cells #[.bool true, .slice pa l.length pc, .slice none 0 0, .slice none 0 0] 147) = w3 at *
  have hrd3 : RdS w3 2 pa l.length (l.flatMap pairC) := by
    obtain ⟨ao, c', hv, hr, hbk⟩ := RdS.ofOwn (HRW.out.mod0 hm3).own (by omega)
    cases hv
    exact hr
  have HM3 := Lib.hid hm3; have HN3 := Lib.hid hn3; have HRD3 := Lib.hid hrd3; have HX3 := Lib.hid (hm3.at HX2.out (by simp)); have HP3 := Lib.hid (HP2.out.mod hm3 (by simp))
  have hpno : ∀ x ∈ [pm], ∀ off, pa ≠ some ⟨x, off, none⟩ := by
    intro x hx off he
    simp at hx; subst hx; subst he
    have hrow := HRW.out.own
    rcases hrow.2 with ⟨hv, _⟩ | ⟨g, cap, cur, hv, hbg, hh, _⟩
    · cases hv
    · simp only [Value.slice.injEq, Option.some.injEq, Addr.mk.injEq] at hv
      obtain ⟨⟨rfl, _⟩, _⟩ := hv
      obtain ⟨kv, ⟨es, cl, h1, _⟩, _⟩ := HP2.out
      exact map_ne hh h1 rfl
  have HPN := Lib.hid hpno
  obtain ⟨cx, fx⟩ := cells_of HX3.out
  have hlk := look_intP HP3.out (page : Int) 0 rfl
  clear hm3 hn3 hrd3 hpno
  go_wp2_with (with_reducible refine stop_map _ _ _ _ rfl ?_)
  refine Stop.go ?_
  refine wpList_mapUpdateP rfl 176 3 _ _ _ rfl Tryz.underlying176 (keyOK_int Tryz.underlying3) (enc := intK) ilt ilt_ord pm [] (page : Int) (1 : Int) rfl rfl rfl HP3.out List.Pairwise.nil ?_
  intro w4 hm4 hp4 hz4
  have hxb4 := hm4.at HX3.out (by simpa using hpb.symm)
  have hn4 := hm4.at HN3.out (by
    simp
    rintro rfl
    obtain ⟨kv, ⟨es, cl, h1, _⟩, _⟩ := HP3.out
    exact map_ne HN3.out h1 rfl)
  have hx4 : XAt w4 b k 0 1 (sgC k pm 1 0) 178 := ⟨hxb4, rfl, rfl, rfl⟩
  have hlk4 := look_intP hp4 (page : Int) 1 (by simp [sput, alook])
  have hrd4 := HRD3.out.mod hm4 (fun x off hx hm => HPN.out x hm off hx)
  have HX4 := Lib.hid hxb4; have HN4 := Lib.hid hn4; have HP4 := Lib.hid hp4; have HXA := Lib.hid hx4; have HRD4 := Lib.hid hrd4; have HM4 := Lib.hid hm4
  clear hlk cx fx hm4 hp4 hz4 hxb4 hn4 hx4 hrd4 HX3 HN3 HRD3
  go_wp2_with fail
  refine (ok_c b k 0 1 _ _ w4 HXA.out).mono ?_
  rintro x w5 ⟨rfl, rfl⟩
  obtain ⟨cx, fx⟩ := cells_of HX4.out
  obtain ⟨cn, fn⟩ := cells_of HN4.out
  go_wp2_with fail
  clear cx fx cn fn hlk4
  go_loopw [11, 56] (fun v i wr => ∃ j : Nat, j ≤ l.length ∧ i = .int .i64 j ∧ Strs wr w4.heap.size v ((l.take j).map (·.1)) ∧ Mod [] w4 wr) (fun _ i _ => l.length - (intOf i).toNat)
  case atStart => exact ⟨0, Nat.zero_le _, rfl, ⟨rfl, .inl ⟨rfl, rfl⟩⟩, Mod.refl _ _⟩
  case round =>
    obtain ⟨j, hj, rfl, hv, hm⟩ := hrel
    have hsz := hm.size
    by_cases hlt : j < l.length
    · obtain ⟨b', off, rfl, hcc⟩ := (HRD4.out.mod hm (by simp)).at pairC_len (List.getElem?_eq_getElem hlt)
      have hc0 := hcc 0 (by omega)
      have hc1 := hcc 1 (by omega)
      simp only [Nat.add_zero, pairC, List.getElem?_cons_zero, List.getElem?_cons_succ] at hc0 hc1
      have hX : (l.take (j + 1)) = l.take j ++ [l[j]] := List.take_succ_eq_append_getElem hlt
      generalize l[j] = X at *
      obtain ⟨X1, X2⟩ := X
      dsimp only at *
      have HX := Lib.hid hX; have HV := Lib.hid hv; have HM := Lib.hid hm
      have htl : ((l.take j).map (·.1)).length = j := by rw [List.length_map, List.length_take]; omega
      clear hX hv hm hcc
      go_wp2_with (with_reducible refine stop_dst 63 rfl ?_)
      refine Stop.go ?_
      have hm5 : Mod [] w4 (wr.alloc (Obj.cells #[.string (str X1), .string (str X2)] 152)) := HM.out.alloc _
      have hv5 := own_alloc HV.out (Obj.cells #[.string (str X1), .string (str X2)] 152)
      generalize wr.alloc (Obj.cells #[.string (str X1), .string (str X2)] 152) = w5 at *
      have HM5 := Lib.hid hm5; have HV5 := Lib.hid hv5
      have hsz5 := hm5.size
      clear hm5 hv5 hc0 hc1
      go_wp2_with (at_builtin; refine wpList_app_new w4.heap.size 44 9 (.string ⟨#[]⟩) 1 16 _ [.string (str X1)] _ rfl _ _ rfl Tryz.underlying44 Tryz.i_str rfl (by decide) (by decide) _ _ _ HV5.out rfl 1 1 rfl rfl rfl (by rw [htl]; omega) hsz5 ?_)
      intro v6 w6 ho6 hg6
      have HO6 := Lib.hid ho6; have HM6 := Lib.hid (HM5.out.app HV5.out (Nat.le_refl _) hg6)
      clear ho6 hg6
      go_wp2_with fail
      go_roundw
      case rel =>
        refine ⟨j + 1, by omega, by go_num, ?_, HM6.out⟩
        rw [HX.out]
        have := HO6.out
        unfold Strs
        simpa [show min j l.length = j from by omega] using this
      case measure => simp [intOf]; omega
    · obtain rfl : j = l.length := by omega
      rw [List.take_length] at hv
      obtain ⟨va, vc, hvv, hrs⟩ := Strs.rds hv (by rw [List.length_map]; omega)
      rw [List.length_map] at hvv hrs
      subst hvv
      have hnb : ∀ x off, va = some ⟨x, off, none⟩ → x ≠ b := by
        intro x off he
        subst he
        rcases hv.2 with ⟨hq, _⟩ | ⟨g, cap, cur, hq, hbg, hh, _⟩
        · cases hq
        · simp only [Value.slice.injEq, Option.some.injEq, Addr.mk.injEq] at hq
          obtain ⟨⟨rfl, _⟩, _⟩ := hq
          exact cells_ne hh (hm.at HX4.out (by simp)) (by decide)
      have HM := Lib.hid hm; have HRS := Lib.hid hrs; have HNB := Lib.hid hnb
      have HXB := Lib.hid (hm.at HX4.out (by simp)); have HNN := Lib.hid (hm.at HN4.out (by simp))
      have hlne : ((l.length : Int) == 0) = false := by rw [beq_eq_false_iff_ne]; have := List.length_pos_iff.2 hl0; omega
      clear hv hm hrs hnb hl0
      go_wp2_with fail
      go_loopw [68] (fun i wq => ∃ j : Nat, j ≤ l.length ∧ i = .int .i64 j ∧ Mod [b] wr wq ∧ wq.heap[b]? = some (.cells (sgC k pm 1 0) 178 (0, 0))) (fun i _ => l.length - (intOf i).toNat)
      case atStart => exact ⟨0, Nat.zero_le _, rfl, Mod.refl _ _, HXB.out⟩
      case round =>
        obtain ⟨j, hj, rfl, hm, hxq⟩ := hrel
        obtain ⟨cx, fx⟩ := cells_of hxq
        have c5 : wr.cell? ⟨b, 5, none⟩ = some (.bool false) := cx 5
        have f5 := fx 5
        have c4 : wr.cell? ⟨b, 4, none⟩ = some (.int .i64 0) := cx 4
        have f4 := fx 4
        clear cx fx
        have HMQ := Lib.hid hm; have HXQ := Lib.hid hxq
        clear hm hxq
        by_cases hlt : j < l.length
        · have hlj : j < (l.map (·.1)).length := by rw [List.length_map]; exact hlt
          have hrs2 := HRS.out.mod HMQ.out (fun x off hx => by simpa using HNB.out x off hx)
          rw [show l.length = (l.map (·.1)).length from by rw [List.length_map]] at hrs2
          obtain ⟨b', off, rfl, hcc⟩ := hrs2.at (fun x => rfl) (List.getElem?_eq_getElem hlj)
          have hc0 := hcc 0 (by omega)
          simp only [Nat.mul_one, Nat.add_zero, stc, List.getElem?_cons_zero] at hc0
          generalize (l.map (·.1))[j] = X1 at *
          have htX := str_toList X1
          have hbl : Op.bytesLess X1 [] = false := by cases X1 <;> rfl
          clear hcc hrs2 hlj
          go_wp2_with fail
          go_roundw
          case rel =>
            refine ⟨j + 1, by omega, by go_num, HMQ.out.setCell _ _ (.inl (by simp)), ?_⟩
            rw [hp_set HXQ.out]; rfl
          case measure => simp [intOf]; omega
        · obtain rfl : j = l.length := by omega
          obtain ⟨cn, fn⟩ := cells_of (HMQ.out.at HNN.out (by
            simp
            intro he
            have := lt_of_block HX2.out
            omega))
          go_wp2_with fail
          have hm5 : Mod [b] wr (((wr.setCell ⟨b, 5, none⟩ (.bool false)).setCell ⟨b, 4, none⟩ (.int .i64 1)).setCell ⟨b, 5, none⟩ (.bool false)) := (((Mod.refl _ _).setCell _ _ (.inl (by simp))).setCell _ _ (.inl (by simp))).setCell _ _ (.inl (by simp))
          have hxe := hp_set (v := .bool false) (i := 5) (hp_set (v := .int .i64 1) (i := 4) (hp_set (v := .bool false) (i := 5) HXQ.out))
          generalize ((wr.setCell ⟨b, 5, none⟩ (.bool false)).setCell ⟨b, 4, none⟩ (.int .i64 1)).setCell ⟨b, 5, none⟩ (.bool false) = we at *
          have hm4e := (HM.out.mono (R' := [b]) (by simp)).trans (HMQ.out.trans hm5 (fun x hx => .inl hx)) (fun x hx => .inl hx)
          have hfin : LkP b k pm page J W w we := by
            have hr4 := (HR2.out.stay HM3.out (by simp)).stay HM4.out (by simpa using HPF2.out)
            have hs4 : Stp (b :: pm :: J.F k) (b :: pm :: J2.F k) w _ := (HS2.out.mod.mono (R' := b :: pm :: J.F k) (fun x hx => .inl (by simp only [List.mem_cons] at hx ⊢; rcases hx with h | h <;> simp [h]))) |> fun hm => ⟨(hm.trans HM3.out (by simp)).trans HM4.out (fun x hx => .inl (by simp at hx; simp [hx])), fun x hx => by
              simp only [List.mem_cons] at hx ⊢
              rcases hx with h | h | h
              · simp [h]
              · simp [h]
              · rcases HS2.out.sub x (by simp [h]) with h1 | h1
                · simp only [List.mem_cons] at h1
                  rcases h1 with h1 | h1 <;> simp [h1]
                · exact .inr h1⟩
            refine ⟨J2, hr4.stay hm4e (by simpa using HBF2.out), ⟨hs4.mod.trans hm4e (fun x hx => .inl (by simp at hx; simp [hx])), hs4.sub⟩, HCA.out, HBF2.out, HPF2.out, hxe, ?_⟩
            exact HP4.out.mod hm4e (by simpa using hpb)
          exact bodyPost_ret (v := .tuple #[]) (by simp [results, Tryz.results107, go_sem]) rfl ⟨⟨_, rfl⟩, hfin⟩
end Go.Proofs.YtoffondipgjcoaaGreatDoor

/- The contracts of package tree: Sound. -/
set_option linter.unusedVariables false
set_option maxRecDepth 100000
set_option linter.unusedSimpArgs false
namespace Go.Proofs.YtoffondipgjcoaaGreatDoor
open Go.RowKit

theorem len_mapP {κ α : Type} {P : Program} {kenc : κ → Value} {enc : α → Value} {w : World} {r : Nat} {m : List (κ × α)} (T K E : TypeId) (hT : P.underlying T = some (.map K E)) (h : MapP kenc enc w r m) (ty : TypeId) :
    ∀ b : Nat, b = r → (Builtin.len_ #[T] ty #[.map (some b)]).run P w = .ok (.int .i64 (m.length : Int)) w := by
  rintro b rfl
  obtain ⟨kv, ⟨es, cl, h1, h2, -⟩, h3, -⟩ := h
  have hs : es.size = m.length := by
    have := congrArg List.length h2
    rw [← h3.length_eq]
    simpa [mkv] using this
  simp [Builtin.len_, run_underlying hT, MapKept.run_getObj_map h1, goInt, Result.andThen, hs]
theorem Sound_none (k : Nat) (w : World) :
    Calls Tryz.prog 53 #[pt k, .int .i64 0] w fun e w' => e = .returned (.tuple #[.int .i64 0, .int .i64 0, .bool true]) ∧ w = w' := by
  go_enter Tryz.func53, Tryz.ntmps53
  go_wp2_with fail
  go_ret3
  exact ⟨rfl, rfl⟩
set_option maxHeartbeats 2000000 in
theorem Sound_leaf (k root : Nat) (J : WkI) (W : Wk) (s : Bytes) (l : List (Bytes × Bytes)) (w : World) (h : WkR w k J W) (hr : root ≠ 0) (hrd : W.read root = (s, 0)) (hlf : LeafPage s l) (hll : l.length ≤ 1000) (hl0 : l ≠ []) :
    Calls Tryz.prog 53 #[pt k, .int .i64 (root : Int)] w fun e w' => e = .returned (.tuple #[.int .i64 1, .int .i64 1, .bool true]) ∧ WkP k J W w w' := by
  have H := Lib.hid h; have HRD := Lib.hid hrd; have HLF := Lib.hid hlf
  have hb : (((root : Nat) : Int) == 0) = false := by rw [beq_eq_false_iff_ne]; omega
  have hmm := @run_makeMap Tryz.prog
  clear h hrd hlf hr
  go_enter Tryz.func53, Tryz.ntmps53
  go_wp2_with fail
  have hm0 : Mod [] w ((w.alloc (Obj.map #[] 0)).alloc (Obj.cells (sgC k w.heap.size 0 0) 178)) := ((Mod.refl _ _).alloc _).alloc _
  have hb0 := hp_new1 w (Obj.map #[] 0) (Obj.cells (sgC k w.heap.size 0 0) 178)
  have hp0 : MapP (α := Int) intK intK ((w.alloc (Obj.map #[] 0)).alloc (Obj.cells (sgC k w.heap.size 0 0) 178)) w.heap.size [] := (MapP.new w).mod (R := []) ((Mod.refl _ _).alloc _) (by simp)
  generalize (w.alloc (Obj.map #[] 0)).alloc (Obj.cells (sgC k w.heap.size 0 0) 178) = w1 at *
  have hlt := H.out.lt
  refine (look_leaf (w.heap.size + 1) k w.heap.size root J W s l w1 (H.out.stay hm0 (by simp)) hb0 (fun hm => by have := hlt _ hm; omega) (fun hm => by have := hlt _ hm; omega) hp0 HRD.out HLF.out hll hl0).mono ?_
  rintro x w2 ⟨⟨v, rfl⟩, J2, hr2, hs2, hca2, hbF2, hpF2, hx2, hp2⟩
  have hfin : WkP k J W w w2 := by
    refine ⟨J2, hr2, ⟨(hm0.mono (R' := J.F k) (by simp)).trans hs2.mod (fun x hx => ?_), fun x hx => ?_⟩, hca2⟩
    · simp only [List.mem_cons] at hx
      rcases hx with h | h | h
      · exact .inr (by omega)
      · exact .inr (by omega)
      · exact .inl h
    · rcases hs2.sub x (by simp [hx]) with h1 | h1
      · simp only [List.mem_cons] at h1
        rcases h1 with h1 | h1 | h1
        · exact .inr (by omega)
        · exact .inr (by omega)
        · exact .inl h1
      · exact .inr (Nat.le_trans hm0.size h1)
  have HF := Lib.hid hfin; have HX := Lib.hid hx2; have HP := Lib.hid hp2
  obtain ⟨cx, fx⟩ := cells_of (((Mod.refl [] w2).drew).at hx2 (by simp))
  obtain ⟨cy, fy⟩ := cells_of hx2
  have c3 : w2.drew.cell? ⟨w.heap.size + 1, 3, none⟩ = some (.map (some w.heap.size)) := cx 3
  have c4 : w2.drew.cell? ⟨w.heap.size + 1, 4, none⟩ = some (.int .i64 1) := cx 4
  have c5 : w2.cell? ⟨w.heap.size + 1, 5, none⟩ = some (.bool false) := cy 5
  have hln := len_mapP (P := Tryz.prog) 176 _ _ Tryz.underlying176 (hp2.mod ((Mod.refl [] w2).drew) (by simp)) 3
  clear hm0 hb0 hp0 hlt hr2 hs2 hca2 hbF2 hpF2 hx2 hp2 hfin cx fx cy fy hl0
  go_wp2_with fail
  (refine region_still_tail 10 Tryz.mixed (by kernel_rfl) ?_; simp only [List.take_succ_cons, List.take_zero, List.drop_succ_cons, List.drop_zero]; (iterate 10 still_step); refine wpStill_nil ?_)
  go_wp2_with fail
  go_ret3
  exact ⟨rfl, HF.out.post ((Mod.refl _ _).drew)⟩
end Go.Proofs.YtoffondipgjcoaaGreatDoor
