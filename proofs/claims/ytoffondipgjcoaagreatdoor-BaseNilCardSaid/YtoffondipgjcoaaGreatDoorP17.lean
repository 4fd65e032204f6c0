/- Part 17 of 27 of the contracts below the law: each theorem states, of one function of the program, at a world of the form that its premises name, what the call answers and what it leaves. -/
import Derived.Test.YtoffondipgjcoaaGreatDoorP11
import Derived.Test.YtoffondipgjcoaaGreatDoorP4
/- My words: a slice of one struct built; a struct loaded within a plan. -/
set_option linter.unusedVariables false
set_option maxRecDepth 100000
set_option linter.unusedSimpArgs false
namespace Go.Proofs.YtoffondipgjcoaaGreatDoor
open Go.RowKit

theorem fold_set (l : List Value) : ∀ (k : Nat) (cs : Array Value), k + l.length ≤ cs.size →
    ((l.zipIdx k).foldl (fun cs (p : Value × Nat) => cs.setIfInBounds (0 + p.2) p.1) cs).toList = cs.toList.take k ++ l ++ cs.toList.drop (k + l.length) := by
  induction l with
  | nil => intro k cs h; simp
  | cons x l ih =>
    intro k cs h
    rw [List.zipIdx_cons, List.foldl_cons, ih (k + 1) _ (by simp at h ⊢; omega)]
    simp only [Nat.zero_add, Array.toList_setIfInBounds, List.length_cons] at h ⊢
    have hk : k < cs.toList.length := by simp; omega
    rw [List.take_succ_eq_append_getElem (by simpa using hk)]
    simp only [List.getElem_set_self, List.take_set_of_le (Nat.le_refl k), List.append_assoc, List.cons_append, List.nil_append]
    rw [List.drop_set_of_lt (by omega), show k + 1 + l.length = k + (l.length + 1) from by omega]
theorem fold_all (cs vs : Array Value) (h : cs.size = vs.size) : vs.zipIdx.foldl (fun cs (p : Value × Nat) => cs.setIfInBounds (0 + p.2) p.1) cs = vs := by
  apply Array.toList_inj.1
  rw [← Array.foldl_toList, Array.toList_zipIdx, fold_set vs.toList 0 cs (by simp; omega)]
  simp only [List.take_zero, List.nil_append, Nat.zero_add, Array.length_toList]
  rw [List.drop_of_length_le (by simp; omega), List.append_nil]
section
variable {P : Program} {ops : Array Oper} {rest : List Oper} {o : Oper} {a : Act} {Q : Exit → Act → World → Prop} {w : World} {S : World → Prop}
theorem run_build1 (t e : TypeId) (n : Nat) (z : Value) (cs : Array Value) (ht : P.underlying t = some (.slice e)) (hn : (P.info? e).map (·.size) = some n) (hz : (P.info? e).map (·.zero) = some (some z)) (hs : cs.size = n) (h0 : 0 < n) (h1 : n ≤ 1000) (w : World) :
    (Instr.buildSlice t 1 #[(0, .agg cs)]).run P w = .ok (.slice (some ⟨w.heap.size, 0, none⟩) 1 1) (w.alloc (.cells cs e)) := by
  have hzz : (zeroValue e).run P w = .ok z w := by
    cases hq : P.info? e with
    | none => simp [hq] at hz
    | some i => simp [hq] at hz; simp [zeroValue, typeInfo, hq, hz]
  have hf : Instr.fill (fun i => some (i * n, n)) ((Array.range (1 * n)).map (z.cells[· % z.cells.size]!)) [(0, .agg cs)] = some cs := by
    have hsz : ((Array.range (1 * n)).map (z.cells[· % z.cells.size]!)).size = cs.size := by simp [hs]
    generalize (Array.range (1 * n)).map (z.cells[· % z.cells.size]!) = base at *
    simp only [Instr.fill, Value.cells, hs, Nat.zero_mul, ne_eq, not_true_eq_false, Nat.zero_add, hsz, gt_iff_lt, Nat.lt_irrefl, or_false, if_false]
    congr 1
    have := fold_all _ cs hsz
    simpa using this
  unfold Instr.buildSlice
  simp only [Sem.run_bind, run_underlying ht, Result.andThen_ok, run_sizeOf hn, Nat.one_mul]
  rw [if_neg (by omega), if_neg (by omega)]
  simp only [Sem.run_bind, Result.andThen_ok, hzz, Sem.run_pure]
  rw [Nat.one_mul] at hf
  rw [hf]
  simp [newRow, newObj, Sem.run_bind]
  rfl
theorem wpList_build1 (hgd : o.guard = none) (t e : TypeId) (n : Nat) (x : Operand) (ho : o.op = .buildSlice t 1 #[(0, x)]) (z : Value) (cs : Array Value) (hx : a.eval x = .agg cs) (ht : P.underlying t = some (.slice e)) (hn : (P.info? e).map (·.size) = some n)
    (hz : (P.info? e).map (·.zero) = some (some z)) (hs : cs.size = n) (h0 : 0 < n) (h1 : n ≤ 1000)
    (h : wpList P ops Q rest (a.put o.dst (.slice (some ⟨w.heap.size, 0, none⟩) 1 1)) (w.alloc (.cells cs e))) : wpList P ops Q (o :: rest) a w := by
  refine wpList_plain hgd fun K hK => ?_
  unfold Oper.wp execOp
  simp only [ho, List.map_toArray, List.map_cons, List.map_nil, hx, Sem.run_bind, run_build1 t e n z cs ht hn hz hs h0 h1 w, Result.andThen_ok, Sem.run_pure]
  exact hK _ _ h
theorem plan_load {n i : Nat} {ol : List Oper} {o : Oper} {l : List (Bool × Nat)} {t : Pl} {a : Act} {w : World} (hi : ol[i]? = some o) (hgd : o.guard = none) (ty : TypeId) (x : Operand) (ho : o.op = .load ty x) (g off m : Nat) (hx : a.eval x = .pointer (some ⟨g, off, none⟩))
    (T : TypeId) (cs : Array Value) (fr : Nat × Nat) (d : TypeDesc) (hS : S w) (hg : ∀ w', S w' → w'.heap[g]? = some (.cells cs T fr)) (hu : P.underlying ty = some d) (hd : isAggD d = true) (hm : (P.info? ty).map (·.size) = some m) (hfit : off + m ≤ cs.size)
    (k : wpPlan P ol.toArray S Q n (Pl.of l t) (a.put o.dst (.agg (cs.extract off (off + m)))) w) : wpPlan P ol.toArray S Q n (Pl.of ((true, i) :: l) t) a w := by
  refine plan_q _ hi hS (fun K hK w' hS' => ?_) k
  unfold quietAt
  rw [if_pos (by simp [Region.wanted, hgd])]
  unfold Oper.still execOp
  simp only [ho, hx, run_loadAt_at w' g off m T ty cs fr d (hg w' hS') hu hd hm hfit, Sem.run_bind, Result.andThen_ok, Sem.run_pure, Oper.stillUpon]
  exact ⟨trivial, hK⟩
end
end Go.Proofs.YtoffondipgjcoaaGreatDoor
