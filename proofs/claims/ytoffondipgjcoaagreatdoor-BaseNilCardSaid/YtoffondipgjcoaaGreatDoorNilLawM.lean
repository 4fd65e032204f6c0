/- The law BaseNil of package base: its row, and its card, tied to the program's text by the given tie. -/
import Derived.Test.YtoffondipgjcoaaGreatDoorP27
import Derived.Test.YtoffondipgjcoaaGreatDoorCards
import Derived.Test.YtoffondipgjcoaaGreatDoorTie
import Derived.ProofKit
import Derived.ChangeMaps5
import Derived.Lay
import Derived.SevenTiedAt
set_option linter.unusedVariables false
set_option maxRecDepth 100000
set_option linter.unusedSimpArgs false
namespace Go.Proofs.YtoffondipgjcoaaGreatDoor
open Go.ChangeShapes Go.WideShapes Go.ChangeAt Go.RowKit

theorem own : ownKnob Tryz.prog.godebug = none := by kernel_rfl
theorem cells_op : Tryz.prog.cellsOf 23 = 5 := by kernel_rfl
theorem cells_i : Tryz.prog.cellsOf 3 = 1 := by kernel_rfl
theorem cells_s : Tryz.prog.cellsOf 9 = 1 := by kernel_rfl
theorem lit_str {H : Type} {enc : TypeId × Value → H} {P : Program} {w : World} {base : Nat} {sp : Nat → Bool} {held : Bool} {t : TypeId} {s : ByteArray} (m : Nat) (ht : P.underlying t = some .string) (hs : s.size ≤ maxLen) :
    DataW.trod enc P w base sp held (m + 1) t [.string s] = some (.lit (.string s.data.toList), []) := by
  simp [DataW.trod, ht]
  exact hs
/-- a step of the script, read: its number, its texts -/
theorem open_op {H : Type} {enc : TypeId × Value → H} {W : World} {base b0 : Nat} {sp : Nat → Bool} {held : Bool} {r : Reach} {v : Value} {d : DataW H} {p : List MemPlace} (hv : Value.okWide Tryz.prog W r b0 23 v)
    (h : DataW.Trod enc Tryz.prog W base sp held 23 v d p) :
    ∃ (a n : Int) (s1 s2 s3 : ByteArray), v = .agg #[.int .i64 a, .string s1, .string s2, .string s3, .int .i64 n] ∧ p = [] ∧
      ∀ (W' : World) (b : Nat) (sp' : Nat → Bool) (hd : Bool), DataW.Trod enc Tryz.prog W' b sp' hd 23 v d [] := by
  obtain ⟨cs, rfl, hsz⟩ := okWide_struct Tryz.underlying23 hv
  rw [cells_op] at hsz
  obtain ⟨l⟩ := cs
  match l, hsz with
  | [v0, v1, v2, v3, v4], _ =>
  obtain ⟨fuel, hf⟩ := h
  obtain ⟨xs, m, -, hx, hl, hlen, hat⟩ := DataW.trod_struct Tryz.underlying23 hf
  match xs, hlen with
  | [y0, y1, y2, y3, y4], _ =>
  have h0 := hat 0 _ rfl
  have h1 := hat 1 _ rfl
  have h2 := hat 2 _ rfl
  have h3 := hat 3 _ rfl
  have h4 := hat 4 _ rfl
  simp only [Value.cells, cells_i, cells_s, List.drop_zero, List.drop_succ_cons, List.take_succ_cons, List.take_zero, List.getElem?_cons_zero, List.getElem?_cons_succ] at h0 h1 h2 h3 h4
  obtain ⟨a, e0, rfl, w0⟩ := DataW.trod_int Tryz.underlying3 h0
  obtain ⟨s1, e1, rfl, w1⟩ := DataW.trod_string Tryz.underlying9 h1
  obtain ⟨s2, e2, rfl, w2⟩ := DataW.trod_string Tryz.underlying9 h2
  obtain ⟨s3, e3, rfl, w3⟩ := DataW.trod_string Tryz.underlying9 h3
  obtain ⟨n, e4, rfl, w4⟩ := DataW.trod_int Tryz.underlying3 h4
  cases e0; cases e1; cases e2; cases e3; cases e4
  simp only [Prod.mk.injEq, List.map_cons, List.map_nil, List.flatMap_cons, List.flatMap_nil, List.append_nil, List.nil_append] at hx
  obtain ⟨rfl, rfl⟩ := hx
  refine ⟨a, n, s1, s2, s3, rfl, rfl, fun W' b sp' hd => ⟨2, ?_⟩⟩
  have q0 := trod_int_mk (enc := enc) (P := Tryz.prog) (w := W') (base := b) (spare := sp') (held := hd) 0 Tryz.underlying3 w0
  have q1 := lit_str (enc := enc) (P := Tryz.prog) (w := W') (base := b) (sp := sp') (held := hd) 0 Tryz.underlying9 w1
  have q2 := lit_str (enc := enc) (P := Tryz.prog) (w := W') (base := b) (sp := sp') (held := hd) 0 Tryz.underlying9 w2
  have q3 := lit_str (enc := enc) (P := Tryz.prog) (w := W') (base := b) (sp := sp') (held := hd) 0 Tryz.underlying9 w3
  have q4 := trod_int_mk (enc := enc) (P := Tryz.prog) (w := W') (base := b) (spare := sp') (held := hd) 0 Tryz.underlying3 w4
  have := trod_struct_mk (enc := enc) (w := W') (base := b) (spare := sp') (held := hd) (n := 1) (xs := [(.lit (.int .i64 a), []), (.lit (.string s1.data.toList), []), (.lit (.string s2.data.toList), []), (.lit (.string s3.data.toList), []), (.lit (.int .i64 n), [])])
    (cs := [.int .i64 a, .string s1, .string s2, .string s3, .int .i64 n]) Tryz.underlying23 (by rw [cells_op]; rfl) (by simp [cells_i, cells_s, q0, q1, q2, q3, q4])
  simpa [Value.cells] using this
theorem bnil_lifted (os : Os) (started : os.Started) (H : Type) (enc : TypeId × Value → H) :
    ReturnsInHanded {} Tryz.checked os 3 .any (fun w args => (Rows.baseNilSpec.pre enc Tryz.prog Tryz.f3 [] false w args ∧ laidMetH Tryz.prog Rows.baseNilRow.laid w) ∧ sizedMet enc Tryz.prog Tryz.f3 (OpenSpec.ofChange Rows.baseNilSpec) false w args)
      (Rows.baseNilSpec.post enc Tryz.prog Tryz.f3 false true false false) := by
  refine returnsInHanded_of_change_and (C := Tryz.checked) (X := fun w _ => laidMetH Tryz.prog Rows.baseNilRow.laid w) (fun _ _ _ hh h => h.of_heap hh) own started (by kernel_rfl) Tryz.func3
    (ChangeSpec.witness_shaped (enc := enc) (C := Tryz.checked) (os := os) (X := fun w _ => laidMetH Tryz.prog Rows.baseNilRow.laid w) false (World.laidAll Tryz.prog os Rows.baseNilRow.laid) #[.agg #[.int .i64 0, .string ⟨#[]⟩, .string ⟨#[]⟩, .string ⟨#[]⟩, .int .i64 0]] 8 (World.laidAll_os _ _ _)
      (World.shaped_of_ZipB (by kernel_rfl) (by kernel_rfl)) (by kernel_rfl) (by kernel_rfl) (by kernel_rfl)
      (by rw [MakeChecks.laidMetH_plain _ _ _ (by kernel_rfl)]; exact laidMet_laidAll _ (by kernel_rfl) (by kernel_rfl))) ?_
  intro W base args ds gs before hval0 hW _ _ hL _
  have hval : ∀ (j : Nat) t v, Tryz.f3.params[j]? = some t → args[j]? = some v → Value.okWide Tryz.prog W .any base t v := hval0
  have hW' := hW
  obtain ⟨p, q, hA0, hV, rfl, _, _⟩ := hW
  have hA : DataW.TrodAll enc Tryz.prog W 0 (fun _ => true) true Tryz.f3.params.toList args.toList ds p := hA0
  rw [Tryz.params3] at hA hval
  obtain ⟨v0, d0, rfl, rfl, h0⟩ := trodAll_one hA
  obtain ⟨rfl, rfl⟩ := trodVars_none hV
  obtain ⟨a, n, s1, s2, s3, rfl, rfl, hsh⟩ := open_op (hval 0 23 v0 rfl rfl) h0
  simp only [List.append_nil] at hW'
  refine (bnil_c a n s1 s2 s3 W).mono fun e W' ⟨he, hm⟩ => ?_
  subst he
  exact ⟨_, rfl, _, _, _, [], [], [], hW', trodAll_mk1 (shut_bool Tryz.underlying4 _), trodAll_mk1 (hsh _ _ _ _), rfl, hm.toBelow.frame _, fun h => by cases h⟩
theorem bnil_holds : Rows.BaseNilSaid :=
  OpenClaim.holds_of_wide 3 Tryz.f3 rfl rfl rfl rfl rfl rfl rfl ⟨rfl, rfl, rfl, rfl, rfl⟩ rfl rfl rfl rfl rfl (by kernel_rfl) Tryz.func3 (by kernel_rfl)
    (of_decide_eq_true (by kernel_rfl)) (by unfold Func.isWrapper; first | (rw [if_pos (by decide +kernel)]; kernel_rfl) | (rw [if_neg (by decide +kernel)]; exact ⟨rfl, rfl⟩))
    (fun os started H enc _ => bnil_lifted os started H enc)
theorem bnil_card : Rows.BaseNilCardSaid :=
  Claim7.holds_tied_plain_at .later [] [.data, .pinned] true (true, "737048d3540a7c3b66680499e1f0907eeab0862f97e60c4edfef27d17b753313") true
    bnil_holds (fun _ h => by cases h) (by kernel_rfl) (fun _ h => by cases h) baseNil_row_tie rfl ⟨rfl, rfl⟩ (by kernel_rfl) rfl
    (fun f fn hf hfn => by
      obtain rfl : f = 3 := Option.some.inj ((show Tryz.prog.funcNamed "factotum/factotumlaw11.BaseNil" = some 3 by kernel_rfl).symm.trans hf) |>.symm
      obtain rfl : fn = Tryz.f3 := (Option.some.inj (Tryz.func3.symm.trans hfn)).symm
      exact ⟨by kernel_rfl, fun j t ht => by
        rw [Tryz.params3] at ht
        have hm : t ∈ [23] := by simpa using Array.mem_of_getElem? ht
        have hall : ([23].all fun u => !Tryz.prog.wantsStandIn u) = true := by kernel_rfl
        exact (show Tryz.prog.wantsStandIn t = false by simpa using List.all_eq_true.1 hall t hm)⟩)
    (by kernel_rfl)
#print axioms bnil_card
end Go.Proofs.YtoffondipgjcoaaGreatDoor
