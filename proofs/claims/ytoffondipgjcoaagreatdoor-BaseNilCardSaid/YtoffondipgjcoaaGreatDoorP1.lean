/- Part 1 of 27 of the contracts below the law: each theorem states, of one function of the program, at a world of the form that its premises name, what the call answers and what it leaves. -/
import Derived.Test.YtoffondipgjcoaaGreatDoorProg
import Derived.WalkKit
import Derived.WalkSpells
import Derived.WalkLawsBesides
import Derived.Lib.Hide
import Derived.Deep.QuietTactic
import Derived.BigQuiet
import Derived.Deep.RegionWith
import Derived.Deep.Draws
import Derived.KernelRfl
import Derived.Deep.RegionHeld3
import Derived.Deep.AppendLies
import Derived.Deep.DeepCutAuto
import Derived.Deep.CutBlock
import Derived.Deep.LoopGhost
import Derived.Maps.AppendAt
import Derived.Lib.AppendStr
import Derived.OwnWalk
/-
My words: a world that is another one but for some blocks (Mod); a block told whole; small facts on cells.
-/
set_option linter.unusedVariables false
set_option maxRecDepth 100000
set_option linter.unusedSimpArgs false
namespace Go.Proofs.YtoffondipgjcoaaGreatDoor
open Go.RowKit

/-- w' is w but for the blocks of R, and new ones. -/
structure Mod (R : List Nat) (w w' : World) : Prop where
  os : w'.os = w.os
  tape : w'.tape = w.tape
  output : w'.output = w.output
  size : w.heap.size ≤ w'.heap.size
  block : ∀ k, k < w.heap.size → k ∉ R → w'.heap[k]? = w.heap[k]?

theorem nope {p : Prop} {i n : Nat} (hn : ¬p) (h : p ∨ n ≤ i) (hi : i < n) : False := by
  rcases h with h | h
  · exact hn h
  · omega
theorem Mod.refl (R : List Nat) (w : World) : Mod R w w := ⟨rfl, rfl, rfl, Nat.le_refl _, fun _ _ _ => rfl⟩
theorem Mod.trans {R R' : List Nat} {a b c : World} (h : Mod R a b) (k : Mod R' b c) (hR : ∀ x, x ∈ R' → x ∈ R ∨ a.heap.size ≤ x) : Mod R a c :=
  ⟨k.os.trans h.os, k.tape.trans h.tape, k.output.trans h.output, Nat.le_trans h.size k.size, fun i hi hn =>
    (k.block i (Nat.lt_of_lt_of_le hi h.size) (fun hm => nope hn (hR i hm) hi)).trans (h.block i hi hn)⟩
theorem Mod.mono {R R' : List Nat} {a b : World} (h : Mod R a b) (hR : ∀ x, x ∈ R → x ∈ R' ∨ a.heap.size ≤ x) : Mod R' a b :=
  ⟨h.os, h.tape, h.output, h.size, fun i hi hn => h.block i hi (fun hm => nope hn (hR i hm) hi)⟩
theorem Mod.drew {R : List Nat} {a w : World} (h : Mod R a w) : Mod R a w.drew := ⟨h.os, h.tape, h.output, h.size, h.block⟩
theorem Mod.drewN {R : List Nat} {a w : World} (h : Mod R a w) (n : Nat) : Mod R a (w.drewN n) := ⟨h.os, h.tape, h.output, h.size, h.block⟩
theorem Mod.alloc {R : List Nat} {a w : World} (h : Mod R a w) (o : Obj) : Mod R a (w.alloc o) :=
  ⟨h.os, h.tape, h.output, by have := h.size; simp; omega, fun k hk hn => (Below.heap_alloc _ _ _ (Nat.lt_of_lt_of_le hk h.size)).trans (h.block k hk hn)⟩
theorem Mod.setCell {R : List Nat} {a w : World} (h : Mod R a w) (p : Addr) (u : Value) (hp : p.block ∈ R ∨ a.heap.size ≤ p.block) : Mod R a (w.setCell p u) :=
  ⟨h.os, h.tape, h.output, by have := h.size; simpa using this, fun k hk hn => (Below.heap_setCell _ _ _ _ (by rintro rfl; exact nope hn hp hk)).trans (h.block k hk hn)⟩
theorem Mod.below {R : List Nat} {a w w' : World} (h : Mod R a w) (k : Below w.heap.size w w') : Mod R a w' :=
  ⟨k.os.trans h.os, k.tape.trans h.tape, k.output.trans h.output, Nat.le_trans h.size k.size, fun i hi hn => (k.block i (Nat.lt_of_lt_of_le hi h.size)).trans (h.block i hi hn)⟩
theorem Mod.toBelow {w w' : World} (h : Mod [] w w') : Below w.heap.size w w' := ⟨h.os, h.tape, h.output, h.size, fun k hk => h.block k hk (by simp)⟩
theorem Mod.ofBelow {R : List Nat} {w w' : World} (h : Below w.heap.size w w') : Mod R w w' := ⟨h.os, h.tape, h.output, h.size, fun k hk _ => h.block k hk⟩
theorem Mod.at {R : List Nat} {a w : World} (h : Mod R a w) {b : Nat} {o : Obj} (hb : a.heap[b]? = some o) (hn : b ∉ R) : w.heap[b]? = some o :=
  (h.block b (lt_of_block hb) hn).trans hb
theorem Mod.grown {R : List Nat} {a w w' : World} {row : Option Nat} (h : Mod R a w) (hg : w.grownBy w' row) (hr : ∀ k, row = some k → k ∈ R ∨ a.heap.size ≤ k) : Mod R a w' :=
  ⟨hg.os.trans h.os, hg.tape.trans h.tape, hg.output.trans h.output, Nat.le_trans h.size hg.size, fun k hk hn =>
    (hg.block k (Nat.lt_of_lt_of_le hk h.size) (fun e => nope hn (hr k e.symm) hk)).trans (h.block k hk hn)⟩

/-- What a block told whole says of its cells. -/
theorem cells_of {w : World} {b : Nat} {cs : Array Value} {T : TypeId} (h : w.heap[b]? = some (.cells cs T (0, 0))) :
    (∀ i, w.cell? ⟨b, i, none⟩ = cs[i]?) ∧ (∀ i, w.frozen? ⟨b, i, none⟩ = false) :=
  ⟨fun i => by simp [World.cell?, h], fun i => by simp [World.frozen?, h]⟩

/-! a block behind a step -/
theorem hp_set {w : World} {b i : Nat} {v : Value} {cs : Array Value} {T : TypeId} (h : w.heap[b]? = some (.cells cs T (0, 0))) :
    (w.setCell ⟨b, i, none⟩ v).heap[b]? = some (.cells (cs.setIfInBounds i v) T (0, 0)) := by
  simp [World.setCell, Array.getElem?_modify, h]
theorem hp_ne {w : World} {p : Addr} {v : Value} {b : Nat} {o : Obj} (h : w.heap[b]? = some o) (hne : b ≠ p.block) : (w.setCell p v).heap[b]? = some o :=
  (Below.heap_setCell _ _ _ _ hne).trans h
theorem hp_old {w : World} {b : Nat} {o o' : Obj} (h : w.heap[b]? = some o) : (w.alloc o').heap[b]? = some o :=
  (Below.heap_alloc _ _ _ (lt_of_block h)).trans h
theorem hp_new (w : World) (o : Obj) : (w.alloc o).heap[w.heap.size]? = some o := heap_alloc_new w o

/-! rows that the call owns -/
/-- Only v's own block has changed; v' lies there, or in a new block. -/
structure Grew (w w' : World) (v v' : Value) : Prop where
  mod : Mod v.ownBlock.toList w w'
  place : ∀ b, v'.ownBlock = some b → v.ownBlock = some b ∨ w.heap.size ≤ b
theorem mod_of_grown {w w' : World} {row : Option Nat} (hg : w.grownBy w' row) : Mod row.toList w w' :=
  ⟨hg.os, hg.tape, hg.output, hg.size, fun k hk hn => hg.block k hk (fun e => hn (by subst e; simp))⟩
theorem Mod.row {R : List Nat} {a w w' : World} {row : Option Nat} (h : Mod R a w) (hg : Mod row.toList w w') (hr : ∀ k, row = some k → k ∈ R ∨ a.heap.size ≤ k) : Mod R a w' :=
  h.trans hg (fun x hx => hr x (by cases row with | none => simp at hx | some y => simp at hx; rw [hx]))
theorem Grew.refl (w : World) (v : Value) : Grew w w v v := ⟨Mod.refl _ _, fun b hb => .inl hb⟩
theorem Grew.trans {a b c : World} {u v x : Value} (h : Grew a b u v) (k : Grew b c v x) : Grew a c u x :=
  ⟨h.mod.trans k.mod (fun y hy => by
      cases hv : v.ownBlock with
      | none => rw [hv] at hy; simp at hy
      | some z =>
        rw [hv] at hy; simp at hy; subst hy
        rcases h.place _ hv with h1 | h1
        · exact .inl (by rw [h1]; simp)
        · exact .inr h1),
    fun y hy => by
      rcases k.place y hy with h1 | h1
      · exact h.place y h1
      · exact .inr (Nat.le_trans h.mod.size h1)⟩
theorem Grew.pre {a b c : World} {u v : Value} (h : Mod [] a b) (k : Grew b c u v) : Grew a c u v :=
  ⟨(h.mono (by simp)).trans k.mod (fun y hy => .inl hy), fun y hy => (k.place y hy).imp id (Nat.le_trans h.size)⟩
theorem Grew.post {a b c : World} {u v : Value} (h : Grew a b u v) (k : Mod [] b c) : Grew a c u v :=
  ⟨h.mod.trans k (by simp), h.place⟩
theorem own_mod {w w' : World} {R : List Nat} {B e k n : Nat} {v : Value} {xs : List Value} (h : w.ownsRow B e k v n xs) (hm : Mod R w w') (hn : ∀ b, v.ownBlock = some b → b ∉ R) : w'.ownsRow B e k v n xs := by
  refine ⟨h.1, ?_⟩
  rcases h.2 with h2 | ⟨g, cap, cur, rfl, hg, hh, r⟩
  · exact Or.inl h2
  · exact Or.inr ⟨g, cap, cur, rfl, hg, hm.at hh (hn g rfl), r⟩
theorem own_lt {w : World} {B e k n : Nat} {v : Value} {xs : List Value} (h : w.ownsRow B e k v n xs) (b : Nat) (hb : v.ownBlock = some b) : B ≤ b ∧ b < w.heap.size := h.lt b hb
theorem own_alloc {w : World} {B e k n : Nat} {v : Value} {xs : List Value} (h : w.ownsRow B e k v n xs) (o : Obj) : (w.alloc o).ownsRow B e k v n xs := own_mod h ((Mod.refl [] w).alloc o) (by simp)
/-- A row and a block of another type. -/
theorem own_ne {w : World} {B e k n : Nat} {v : Value} {xs : List Value} (h : w.ownsRow B e k v n xs) {b T : Nat} {cs : Array Value} {f : Nat × Nat} (hb : w.heap[b]? = some (.cells cs T f)) (hT : e ≠ T) : ∀ c, v.ownBlock = some c → c ≠ b := by
  rintro c hc rfl
  rcases h.2 with ⟨rfl, _⟩ | ⟨g, cap, cur, rfl, _, hh, _⟩
  · simp [Value.ownBlock] at hc
  · simp [Value.ownBlock] at hc
    subst hc
    rw [hh] at hb
    simp at hb
    exact hT hb.2.1
theorem own_ne' {w : World} {B e k n B' e' k' n' : Nat} {v v' : Value} {xs xs' : List Value} (h : w.ownsRow B e k v n xs) (h' : w.ownsRow B' e' k' v' n' xs') (hT : e ≠ e') : ∀ c, v.ownBlock = some c → v'.ownBlock ≠ some c := by
  intro c hc hc'
  rcases h'.2 with ⟨rfl, _⟩ | ⟨g, cap, cur, rfl, _, hh, _⟩
  · simp [Value.ownBlock] at hc'
  · simp [Value.ownBlock] at hc'
    subst hc'
    exact own_ne h hh hT g hc rfl
theorem own_rebase {w : World} {B B' e k n : Nat} {v : Value} {xs : List Value} (h : w.ownsRow B e k v n xs) (hb : ∀ b, v.ownBlock = some b → B' ≤ b) : w.ownsRow B' e k v n xs := by
  refine ⟨h.1, ?_⟩
  rcases h.2 with h2 | ⟨g, cap, cur, rfl, hg, hh, r⟩
  · exact Or.inl h2
  · exact Or.inr ⟨g, cap, cur, rfl, hb g rfl, hh, r⟩

section
variable {P : Program} {ops : Array Oper} {rest : List Oper} {o : Oper} {a : Act} {Q : Exit → Act → World → Prop}
/-- append onto a row of the call's own. -/
theorem wpList_app {W : World} (B t e : Nat) (z : Value) (k bytes : Nat) (hgd : o.guard = none) (s x : Operand)
    (ho : o.op = .call { callee := .builtin .append, args := #[s, x], argTypes := #[t, t] })
    (ht : P.underlying t = some (.slice e)) (hinfo : (P.info? e).map (fun i => (i.zero, i.size, i.bytes)) = some (some z, k, bytes)) (hz : z.cells.size = k) (hk : 0 < k) (hb : 0 < bytes)
    (v : Value) (n : Nat) (xs : List Value) (hs : a.eval s = v) (ad : Addr) (m c : Nat) (news : List Value) (hx : a.eval x = .slice (some ad) m c)
    (HO : W.ownsRow B e k v n xs) (hnl : news.length = m * k) (hnews : ∀ j u, news[j]? = some u → W.cell? (ad.add j) = some u) (h1 : ∀ u ∈ news, u.oneCell' = true)
    (hl : (n + m) * bytes ≤ 140737488355328) (hB : B ≤ W.heap.size)
    (h : ∀ v1 w1, w1.ownsRow B e k v1 (n + m) (xs ++ news) → Grew W w1 v v1 → wpList P ops Q rest (a.put o.dst v1) w1) : wpList P ops Q (o :: rest) a W := by
  obtain ⟨i0, hi, hz0, hz1, hz2⟩ := info_parts hinfo
  have hlen : n + m ≤ 140737488355328 := Nat.le_trans (Nat.le_mul_of_pos_right _ hb) hl
  refine wpList_append_own_at W hgd s x t ho B e i0 z k bytes ht hi hz0 hz1 hz2 hz hk v n xs hs HO ad m c news hx hnl hnews h1 (by simp only [maxLen]; omega) hl hB ?_
  intro v1 w1 hown hg _ hat
  refine h v1 w1 hown ⟨mod_of_grown hg, fun b hb => ?_⟩
  rcases hat with hat | hat
  · exact .inl (hat ▸ hb)
  · rw [hat] at hb; simp at hb; exact .inr (by omega)
/-- the new cells are a block's head -/
theorem news_new (w : World) (cs : List Value) (T : Nat) : ∀ j u, cs[j]? = some u → (w.alloc (.cells cs.toArray T)).cell? ((⟨w.heap.size, 0, none⟩ : Addr).add j) = some u := by
  intro j u hu
  have : (⟨w.heap.size, 0, none⟩ : Addr).add j = ⟨w.heap.size, j, none⟩ := by unfold Addr.add; split <;> simp_all
  rw [this, World.cell?, hp_new]
  simpa using hu
end
theorem ret_int {k : IntKind} {a b : Int} (h : a = b) : Ending.returned (.int k a) = .returned (.int k b) := by rw [h]
theorem ret_str {a b : ByteArray} (h : a = b) : Ending.returned (.string a) = .returned (.string b) := by rw [h]
theorem ret_bool {a b : Bool} (h : a = b) : Ending.returned (.bool a) = .returned (.bool b) := by rw [h]

end Go.Proofs.YtoffondipgjcoaaGreatDoor

/- My words, second part: arrays loaded, stored, copied; bytes as a text. -/
set_option linter.unusedVariables false
set_option maxRecDepth 100000
set_option linter.unusedSimpArgs false
namespace Go.Proofs.YtoffondipgjcoaaGreatDoor
open Go.RowKit

theorem add_at (g off j : Nat) : (⟨g, off, none⟩ : Addr).add j = ⟨g, off + j, none⟩ := by unfold Addr.add; split <;> simp_all

section
variable {P : Program}
/-- struct or array -/
def isAggD : TypeDesc → Bool
  | .struct _ | .array _ _ => true
  | _ => false
theorem run_isAgg {ty : TypeId} {d : TypeDesc} (hu : P.underlying ty = some d) (hd : isAggD d = true) (w : World) : (isAgg ty).run P w = .ok true w := by
  unfold isAgg
  rw [Sem.run_bind, run_underlying hu w]
  cases d <;> simp_all [isAggD]
theorem run_sizeOf {ty : TypeId} {n : Nat} (hi : (P.info? ty).map (·.size) = some n) (w : World) : (sizeOf ty).run P w = .ok n w := by
  cases hq : P.info? ty with
  | none => simp [hq] at hi
  | some i => simp [hq] at hi; simp [sizeOf, typeInfo, hq, hi]

theorem run_loadVar_at (w : World) (g off n : Nat) (t ty : TypeId) (cs : Array Value) (fr : Nat × Nat) (d : TypeDesc) (hg : w.heap[g]? = some (.cells cs t fr))
    (hu : P.underlying ty = some d) (hd : isAggD d = true) (hi : (P.info? ty).map (·.size) = some n) (hfit : off + n ≤ cs.size) :
    (loadVar ty ⟨g, off, none⟩).run P w = .ok (.agg (cs.extract off (off + n))) w := by
  have hl : (loadCells ⟨g, off, none⟩ (cs.extract off (off + n)).toList.length).run P w = .ok (cs.extract off (off + n)).toList.toArray w :=
    run_loadCells_list (P := P) w ⟨g, off, none⟩ (cs.extract off (off + n)).toList (fun j v hv => by
      rw [add_at, cell_of_row w g (off + j) cs t fr hg]
      have hj : j < n := by
        have := (List.getElem?_eq_some_iff.1 hv).1
        simp at this; omega
      simp only [Array.getElem?_toList] at hv
      rw [Array.getElem?_extract_of_lt (by omega)] at hv
      rw [Array.getElem?_eq_getElem (by omega)]
      exact hv)
  have hlen : (cs.extract off (off + n)).toList.length = n := by simp; omega
  rw [hlen] at hl
  simp only [Array.toArray_toList] at hl
  simp only [loadVar, Sem.run_bind, run_isAgg hu hd, Result.andThen_ok, if_true, run_sizeOf hi, hl]
  rfl

theorem run_storeVar_at (w : World) (g off n : Nat) (t ty : TypeId) (cs vs : Array Value) (hg : w.heap[g]? = some (.cells cs t (0, 0)))
    (hi : (P.info? ty).map (·.size) = some n) (hn : vs.size = n) (hfit : off + n ≤ cs.size) (h1 : ∀ v ∈ vs.toList, v.oneCell' = true) :
    (storeVar ty ⟨g, off, none⟩ (.agg vs)).run P w = .ok () (w.setRow g (cs.toList.take off ++ vs.toList ++ cs.toList.drop (off + n)).toArray) := by
  have h := run_storeCells_at P g off t vs.toList 0 cs w hg (by simp; omega) h1
  simp only [Nat.add_zero, Array.length_toList, hn] at h
  simp only [storeVar, Sem.run_bind, run_sizeOf hi, Result.andThen_ok, Value.cells, hn, ne_eq, not_true_eq_false, if_false]
  exact h

theorem run_loadAt_at (w : World) (g off n : Nat) (t ty : TypeId) (cs : Array Value) (fr : Nat × Nat) (d : TypeDesc) (hg : w.heap[g]? = some (.cells cs t fr))
    (hu : P.underlying ty = some d) (hd : isAggD d = true) (hi : (P.info? ty).map (·.size) = some n) (hfit : off + n ≤ cs.size) :
    (Instr.loadAt ty (.pointer (some ⟨g, off, none⟩))).run P w = .ok (.agg (cs.extract off (off + n))) w := by
  simp only [Instr.loadAt, Instr.sureAddr, Sem.run_bind, Sem.run_pure, Result.andThen_ok, run_loadVar_at w g off n t ty cs fr d hg hu hd hi hfit]
variable {ops : Array Oper} {rest : List Oper} {o : Oper} {a : Act} {Q : Exit → Act → World → Prop} {w : World}
theorem wpList_load_at (hgd : o.guard = none) (ty : TypeId) (x : Operand) (ho : o.op = .load ty x) (g off n : Nat) (hx : a.eval x = .pointer (some ⟨g, off, none⟩))
    (t : TypeId) (cs : Array Value) (fr : Nat × Nat) (d : TypeDesc) (hg : w.heap[g]? = some (.cells cs t fr)) (hu : P.underlying ty = some d) (hd : isAggD d = true)
    (hi : (P.info? ty).map (·.size) = some n) (hfit : off + n ≤ cs.size)
    (h : wpList P ops Q rest (a.put o.dst (.agg (cs.extract off (off + n)))) w) : wpList P ops Q (o :: rest) a w := by
  refine wpList_plain hgd fun K hK => ?_
  unfold Oper.wp execOp
  simp only [ho, hx, Instr.loadAt, Instr.sureAddr, Sem.run_bind, Sem.run_pure, Result.andThen_ok, run_loadVar_at w g off n t ty cs fr d hg hu hd hi hfit]
  exact hK _ _ h
theorem wpList_store_at (hgd : o.guard = none) (hdst : o.dst = none) (ty : TypeId) (x y : Operand) (ho : o.op = .store ty x y) (g off n : Nat) (hx : a.eval x = .pointer (some ⟨g, off, none⟩))
    (t : TypeId) (cs vs : Array Value) (hy : a.eval y = .agg vs) (hg : w.heap[g]? = some (.cells cs t (0, 0)))
    (hi : (P.info? ty).map (·.size) = some n) (hn : vs.size = n) (hfit : off + n ≤ cs.size) (h1 : ∀ v ∈ vs.toList, v.oneCell' = true)
    (h : wpList P ops Q rest a (w.setRow g (cs.toList.take off ++ vs.toList ++ cs.toList.drop (off + n)).toArray)) : wpList P ops Q (o :: rest) a w := by
  refine wpList_plain hgd fun K hK => ?_
  unfold Oper.wp execOp
  simp only [ho, hx, hy, Instr.storeAt, Instr.sureAddr, Sem.run_bind, Sem.run_pure, Result.andThen_ok, run_storeVar_at w g off n t ty cs vs hg hi hn hfit h1]
  have := hK _ _ h
  simpa [Oper.upon, Act.put, hdst] using this
theorem setRow_new (w : World) (cs vs : Array Value) (T : TypeId) : (w.alloc (.cells cs T)).setRow w.heap.size vs = w.alloc (.cells vs T) := by
  have hm : ∀ (a : Array Obj) (x : Obj) (f : Obj → Obj), (a.push x).modify a.size f = a.push (f x) := by
    intro a x f
    apply Array.ext
    · simp
    · intro i h1 h2
      rw [Array.getElem_modify]
      by_cases hi : a.size = i
      · subst hi; simp
      · rw [if_neg hi, Array.getElem_push_lt (by simp at h1; omega), Array.getElem_push_lt (by simp at h1; omega)]
  show ({ w.alloc (.cells cs T) with heap := ((w.heap.push (.cells cs T)).modify w.heap.size _) } : World) = _
  rw [hm]
  rfl
theorem Mod.setRow {R : List Nat} {a w : World} (h : Mod R a w) (g : Nat) (cs : Array Value) (hp : g ∈ R ∨ a.heap.size ≤ g) : Mod R a (w.setRow g cs) :=
  ⟨h.os, h.tape, h.output, by have := h.size; simpa using this, fun k hk hn => (setRow_other w g k cs (by rintro rfl; exact nope hn hp hk)).trans (h.block k hk hn)⟩
/-- a store into what has just been laid -/
theorem wpList_store_new (hgd : o.guard = none) (hdst : o.dst = none) (ty : TypeId) (x y : Operand) (ho : o.op = .store ty x y) (hx : a.eval x = .pointer (some ⟨w.heap.size, 0, none⟩))
    (t n : Nat) (cs vs : Array Value) (hy : a.eval y = .agg vs) (hi : (P.info? ty).map (·.size) = some n) (hn : vs.size = n) (hc : cs.size = n) (h1 : ∀ v ∈ vs.toList, v.oneCell' = true)
    (h : wpList P ops Q rest a (w.alloc (.cells vs t))) : wpList P ops Q (o :: rest) a (w.alloc (.cells cs t)) := by
  refine wpList_store_at hgd hdst ty x y ho w.heap.size 0 n hx t cs vs hy (hp_new _ _) hi hn (by omega) h1 ?_
  rw [setRow_new]
  have : (cs.toList.take 0 ++ vs.toList ++ cs.toList.drop (0 + n)).toArray = vs := by
    rw [List.drop_of_length_le (by simp; omega)]; simp
  rw [this]; exact h
theorem wpList_alloc (hgd : o.guard = none) (ty : TypeId) (ho : o.op = .alloc ty) (z : Value) (hz : (P.info? ty).map (·.zero) = some (some z))
    (h : wpList P ops Q rest (a.put o.dst (.pointer (some ⟨w.heap.size, 0, none⟩))) (w.alloc (.cells z.cells ty))) : wpList P ops Q (o :: rest) a w := by
  refine wpList_plain hgd fun K hK => ?_
  have hzz : (zeroValue ty).run P w = .ok z w := by
    cases hq : P.info? ty with
    | none => simp [hq] at hz
    | some i => simp [hq] at hz; simp [zeroValue, typeInfo, hq, hz]
  unfold Oper.wp execOp
  simp only [ho]
  have := hK _ _ h
  simp [Instr.alloc, hzz, Sem.run_bind, newVar, newRow]
  exact this
end

/-- where a walk is to stand -/
structure Stop (p : Prop) : Prop where go :: (out : p)
section
variable {P : Program} {ops : Array Oper} {rest : List Oper} {o : Oper} {a : Act} {Q : Exit → Act → World → Prop} {w : World}
theorem stop_store (ty : TypeId) (x y : Operand) (ho : o.op = .store ty x y) (h : Stop (wpList P ops Q (o :: rest) a w)) : wpList P ops Q (o :: rest) a w := h.out
theorem stop_dst (t : Nat) (ho : o.dst = some t) (h : Stop (wpList P ops Q (o :: rest) a w)) : wpList P ops Q (o :: rest) a w := h.out
end
/-- a text of bytes -/
def str (l : List UInt8) : ByteArray := ⟨l.toArray⟩
def bcs (l : List UInt8) : List Value := l.map fun c => .int .u8 (c.toNat : Int)
theorem bcs_app (l m : List UInt8) : bcs (l ++ m) = bcs l ++ bcs m := by simp [bcs]
theorem bcs_len (l : List UInt8) : (bcs l).length = l.length := by simp [bcs]
theorem bcs_one (l : List UInt8) : ∀ u ∈ bcs l, u.oneCell' = true := by
  intro u hu
  simp only [bcs, List.mem_map] at hu
  obtain ⟨c, _, rfl⟩ := hu
  rfl
theorem str_size (l : List UInt8) : (str l).size = l.length := rfl
theorem run_bytes_str {P : Program} (w : World) (src dst e : TypeId) (hs : P.underlying src = some (.slice e)) (he : P.underlying e = some (.int .u8)) (hd : P.underlying dst = some .string)
    (b off len cap : Nat) (l : List UInt8) (hl : l.length = len) (hc : ∀ i, i < len → w.cell? ⟨b, off + i, none⟩ = (bcs l)[i]?) :
    (convert src dst (.slice (some ⟨b, off, none⟩) len cap)).run P w = .ok (.string (str l)) w := by
  have := run_convert_bytes_arg (P := P) w src e hs he b off len cap (l.map fun c => (c.toNat : Int)) (by simpa using hl) (fun i hi => by
    rw [hc i hi]; subst hl; simp [bcs, hi]) dst hd
  rw [this]
  congr 2
  simp only [strOfNums, str, List.map_map]
  congr 1
  rw [show (List.map ((fun n => UInt8.ofNat n.toNat) ∘ fun c => (c.toNat : Int)) l) = l.map id from List.map_congr_left fun c _ => by simp]
  simp
/-- the bytes of a text -/
def sl (s : ByteArray) : List UInt8 := s.data.toList
theorem sl_len (s : ByteArray) : (sl s).length = s.size := rfl
theorem sl_str (l : List UInt8) : sl (str l) = l := rfl
theorem str_sl (s : ByteArray) : str (sl s) = s := rfl
theorem run_copy_str {P : Program} (w : World) (T U ty e : TypeId) (hT : P.underlying T = some (.slice e)) (hi : (P.info? e).map (·.size) = some 1)
    (g off n c : Nat) (t : TypeId) (cs : Array Value) (hg : w.heap[g]? = some (.cells cs t (0, 0))) (s : ByteArray) (hn : s.size ≤ n) (hfit : off + s.size ≤ cs.size) :
    (Builtin.copy_ #[T, U] ty #[.slice (some ⟨g, off, none⟩) n c, .string s]).run P w =
      .ok (goInt s.size) (w.setRow g (cs.toList.take off ++ bcs (sl s) ++ cs.toList.drop (off + s.size)).toArray) := by
  have hmin : Nat.min s.size n = s.size := Nat.min_eq_left hn
  have hcells : (s.extract 0 s.size).data.map (fun b => Value.int .u8 b.toNat) = (bcs (sl s)).toArray := by
    apply Array.toList_inj.1; simp [bcs, sl]
  have h := run_storeCells_at P g off t (bcs (sl s)) 0 cs w hg (by rw [bcs_len, sl_len]; omega) (bcs_one _)
  simp only [Nat.add_zero, bcs_len, sl_len] at h
  simp only [Builtin.copy_, List.getElem?_toArray, List.getElem?_cons_zero, List.getElem?_cons_succ, Sem.run_bind, run_underlying hT, Result.andThen_ok, Builtin.lenOf, Sem.run_pure, run_sizeOf hi, hmin, Builtin.firstCells, hcells, h]
section
variable {P : Program} {ops : Array Oper} {rest : List Oper} {o : Oper} {a : Act} {Q : Exit → Act → World → Prop} {w : World}
/-- a text copied to the head of what has just been laid -/
theorem wpList_copy_new (hgd : o.guard = none) (T U e : TypeId) (x y : Operand) (ho : o.op = .call { callee := .builtin .copy, args := #[x, y], argTypes := #[T, U] })
    (hT : P.underlying T = some (.slice e)) (hi : (P.info? e).map (·.size) = some 1) (n c : Nat) (hx : a.eval x = .slice (some ⟨w.heap.size, 0, none⟩) n c) (s : ByteArray) (hy : a.eval y = .string s)
    (t : TypeId) (cs : Array Value) (hn : s.size ≤ n) (hc : s.size ≤ cs.size)
    (h : wpList P ops Q rest (a.put o.dst (goInt s.size)) (w.alloc (.cells (bcs (sl s) ++ cs.toList.drop s.size).toArray t))) : wpList P ops Q (o :: rest) a (w.alloc (.cells cs t)) := by
  refine wpList_plain hgd fun K hK => ?_
  have hr := run_copy_str (P := P) (w.alloc (.cells cs t)) T U o.type e hT hi w.heap.size 0 n c t cs (hp_new _ _) s hn (by omega)
  rw [setRow_new] at hr
  simp only [List.take_zero, List.nil_append, Nat.zero_add] at hr
  unfold Oper.wp execOp
  simp only [ho, resolve, invoke, builtin, Sem.run_bind, Sem.run_pure, Result.andThen_ok, List.map_toArray, List.map_cons, List.map_nil, hx, hy, hr]
  exact hK _ _ h
theorem stop_call (c : Call) (ho : o.op = .call c) (h : Stop (wpList P ops Q (o :: rest) a w)) : wpList P ops Q (o :: rest) a w := h.out
end
end Go.Proofs.YtoffondipgjcoaaGreatDoor

/- The contracts of package pack. -/
set_option linter.unusedVariables false
set_option maxRecDepth 100000
set_option linter.unusedSimpArgs false
namespace Go.Proofs.YtoffondipgjcoaaGreatDoor
open Go.RowKit

/-- A reader: what is left, and its error. -/
structure Rd where
  rest : ByteArray
  err : Int
def emp : ByteArray := ⟨#[]⟩
def Rd.take (r : Rd) (k : Nat) : ByteArray × Bool × Rd :=
  if r.err ≠ 0 then (emp, false, r) else if r.rest.size < k then (emp, false, { r with err := 2 })
  else (r.rest.extract 0 k, true, { r with rest := r.rest.extract k r.rest.size })
/-- The reader at b. -/
structure Rdr (w : World) (b : Nat) (r : Rd) : Prop where
  at_ : w.heap[b]? = some (.cells #[.string r.rest, .int .i64 r.err] 207 (0, 0))
  small : r.rest.size ≤ 140737488355328

theorem Rdr.mod {w w' : World} {b : Nat} {r : Rd} {R : List Nat} (h : Rdr w b r) (hm : Mod R w w') (hb : b ∉ R) : Rdr w' b r := ⟨hm.at h.at_ hb, h.small⟩

theorem Rd.take_small (r : Rd) (k : Nat) (h : r.rest.size ≤ 140737488355328) : (r.take k).2.2.rest.size ≤ 140737488355328 ∧ (r.take k).1.size ≤ k := by
  unfold Rd.take
  split
  · exact ⟨h, by simp [emp, ByteArray.size]⟩
  · split
    · exact ⟨h, by simp [emp, ByteArray.size]⟩
    · simp [ByteArray.size_extract]; omega

set_option maxHeartbeats 400000 in
theorem take_c (b : Nat) (r : Rd) (k : Int) (w : World) (h : Rdr w b r) (hk : 0 ≤ k) :
    Calls Tryz.prog 130 #[.pointer (some ⟨b, 0, none⟩), .int .i64 k] w fun e w' =>
      e = .returned (.tuple #[.string (r.take k.toNat).1, .bool (r.take k.toNat).2.1]) ∧ Mod [b] w w' ∧ Rdr w' b (r.take k.toNat).2.2 ∧ w'.heap.size = w.heap.size := by
  obtain ⟨hb, hs⟩ := h
  obtain ⟨k, rfl⟩ := Int.eq_ofNat_of_zero_le hk
  obtain ⟨s, e⟩ := r
  obtain ⟨c, f⟩ := cells_of hb
  have HB := Lib.hid hb
  clear hb hk
  by_cases he : e = 0
  · subst he
    by_cases hk : s.size < k
    · go_enter Tryz.func130, Tryz.ntmps130
      go_wp2
      go_ret2
      refine ⟨by simp [Rd.take, hk, emp], ((Mod.refl _ _).setCell _ _ (by simp)), ⟨?_, by simpa [Rd.take, hk] using hs⟩, by simp⟩
      rw [hp_set HB.out]; simp [Rd.take, hk]
    · go_enter Tryz.func130, Tryz.ntmps130
      go_wp2
      go_ret2
      refine ⟨by simp [Rd.take, hk, emp], ((Mod.refl _ _).setCell _ _ (by simp)), ⟨?_, by simp [Rd.take, hk, ByteArray.size_extract]; omega⟩, by simp⟩
      rw [hp_set HB.out]; simp [Rd.take, hk]
  · have he' : (e != 0) = true := by simpa using he
    go_enter Tryz.func130, Tryz.ntmps130
    go_wp2
    go_ret2
    exact ⟨by simp [Rd.take, he, emp], Mod.refl _ _, ⟨by rw [HB.out]; simp [Rd.take, he], by simpa [Rd.take, he] using hs⟩, rfl⟩

def wideN (k : Int) : Nat := (min (max k 1) 8).toNat
theorem wide_c (k : Int) (w : World) :
    Calls Tryz.prog 131 #[.int .i64 k] w fun e w' => e = .returned (.int .i64 (wideN k)) ∧ w = w' := by
  go_enter Tryz.func131, Tryz.ntmps131
  go_wp2
  all_goals go_ret
  all_goals exact ⟨ret_int (by unfold wideN; split at * <;> omega), rfl⟩

def numL (l : List UInt8) : Nat := l.foldl (fun n c => (n * 256 + c.toNat) % 18446744073709551616) 0


theorem numL_lt (l : List UInt8) : numL l < 18446744073709551616 := by
  unfold numL
  rcases List.eq_nil_or_concat l with rfl | ⟨m, c, rfl⟩
  · simp
  · rw [List.concat_eq_append, List.foldl_append]; simp only [List.foldl_cons, List.foldl_nil]; omega
theorem numL_snoc (l : List UInt8) (c : UInt8) : numL (l ++ [c]) = (numL l * 256 + c.toNat) % 18446744073709551616 := by
  simp [numL, List.foldl_append]

theorem wrap_u64 (n : Int) : IntKind.u64.wrap n = n % 18446744073709551616 := by simp [IntKind.wrap, IntKind.bits, IntKind.signed]
theorem wraps_u64 (n : Int) (h₀ : 0 ≤ n) (h₁ : n < 2 ^ 64) : IntKind.u64.wrap n = n := by rw [wrap_u64]; omega
theorem num_step (n : Nat) (c : UInt8) : bits .or .u64 (IntKind.u64.wrap ((n : Int) * 256)) (IntKind.u64.wrap (c.toNat : Int)) = (((n * 256 + c.toNat) % 18446744073709551616 : Nat) : Int) := by
  have hc := c.toNat_lt
  rw [wrap_u64, wraps_u64 _ (by omega) (by omega), bits_join .u64 64 (by decide) wraps_u64 8 _ _ (by omega) (by omega) (by omega) (by omega) (by omega) (by omega)]
  omega
theorem take_snoc' (l : List UInt8) (k : Nat) (h : k < l.length) : l.take (k + 1) = l.take k ++ [l[k]] := by
  rw [List.take_succ_eq_append_getElem h]
def Rd.num (r : Rd) (k : Nat) : Nat × Rd := (numL (r.take k).1.data.toList, (r.take k).2.2)

theorem bytes_cell (w1 : World) (s : ByteArray) (j : Nat) (hj : j < s.size) : ((w1.alloc
    (Obj.cells (bytesRow s (grownCap w1 s.size 0 5)) 5
      ((bytesRow s (grownCap w1 s.size 0 5)).size, (bytesRow s (grownCap w1 s.size 0 5)).size + 1))).drew).cell? ⟨w1.heap.size, j, none⟩ = some (.int .u8 ((s.data.toList.getD j 0).toNat : Int)) := by
  have h1 := bytesRow_at s (grownCap w1 s.size 0 5) j hj
  have h2 : s.data.toList.getD j 0 = s.data[j] := by
    rw [List.getD_eq_getElem?_getD, List.getElem?_eq_getElem (by simpa using hj)]; simp
  rw [World.cell?_drew, World.cell?, hp_new, h2]
  simpa using h1
set_option maxHeartbeats 1000000 in
theorem Num_c (b : Nat) (r : Rd) (k : Int) (w : World) (h : Rdr w b r) :
    Calls Tryz.prog 71 #[.pointer (some ⟨b, 0, none⟩), .int .i64 k] w fun e w' =>
      e = .returned (.int .u64 (r.num (wideN k)).1) ∧ Mod [b] w w' ∧ Rdr w' b (r.num (wideN k)).2 := by
  have hw : 1 ≤ wideN k ∧ wideN k ≤ 8 := by unfold wideN; omega
  have hsz := (r.take_small (wideN k) h.small).2
  have H := Lib.hid h
  clear h
  go_enter Tryz.func71, Tryz.ntmps71
  go_wp2_with fail
  refine (wide_c _ _).mono ?_
  rintro e w' ⟨rfl, rfl⟩
  go_wp2_with fail
  refine (take_c b r _ _ H.out (by omega)).mono ?_
  rintro e w1 ⟨rfl, hm, hr, hz⟩
  have HM := Lib.hid hm; have HR := Lib.hid hr
  clear hm hr hz
  rw [Int.toNat_natCast] at *
  generalize hT : r.take (wideN k) = T at *
  obtain ⟨s, ok, r'⟩ := T
  have HT := Lib.hid hT; clear hT
  dsimp only at *
  have hcv := fun w => run_bytes_of_string (P := Tryz.prog) w 9 118 5 s Tryz.underlying9 Tryz.underlying118 Tryz.underlying5
  go_wp2_with fail
  have hs : s.size ≤ 8 := by omega
  have hcell := fun j hj => bytes_cell w1 s j hj
  have hB := Lib.hid (((Mod.refl [] w1).alloc (Obj.cells (bytesRow s (grownCap w1 s.size 0 5)) 5
      ((bytesRow s (grownCap w1 s.size 0 5)).size, (bytesRow s (grownCap w1 s.size 0 5)).size + 1))).drew)
  generalize (World.alloc w1 _).drew = w2 at *
  clear hcv
  go_loop [7, 20] (fun n i => ∃ j : Nat, j ≤ s.size ∧ i = .int .i64 j ∧ n = .int .u64 (numL (s.data.toList.take j))) (fun _ i => s.size - (intOf i).toNat)
  case atStart => exact ⟨0, Nat.zero_le _, rfl, by simp [numL]⟩
  case round =>
    obtain ⟨j, hj, rfl, rfl⟩ := hrel
    by_cases hlt : j < s.size
    · have hc := hcell j hlt
      clear hcell
      go_wp2
      go_round
      case rel => exact ⟨j + 1, by omega, by go_num, by rw [take_snoc' _ j (by simpa using hlt), numL_snoc, num_step]; simp⟩
      case measure => simp [intOf]; omega
    · clear hcell
      go_wp2
      go_ret
      have hj' : j = s.size := by omega
      subst hj'
      have h1 := HT.out
      refine ⟨ret_int ?_, HM.out.trans hB.out (by simp), ?_⟩
      · rw [List.take_of_length_le (by simp)]; simp [Rd.num, h1]
      · have : (r.num (wideN k)).2 = r' := by simp [Rd.num, h1]
        rw [this]; exact HR.out.mod hB.out (by simp)

def be (n : Nat) : Nat → List UInt8
  | 0 => []
  | k + 1 => UInt8.ofNat (n / 256 ^ k) :: be n k
/-- A []byte of the call's own. -/
def Bts (w : World) (B : Nat) (v : Value) (l : List UInt8) : Prop := w.ownsRow B 5 1 v l.length (bcs l)
theorem Tryz.i_u8 : (Tryz.prog.info? 5).map (fun i => (i.zero, i.size, i.bytes)) = some (some (.int .u8 0), 1, 1) := by kernel_rfl

theorem byte_be (n j : Nat) : (n : Int) / 2 ^ (8 * j) % 256 = ((n / 256 ^ j % 256 : Nat) : Int) := by
  have : (2 : Int) ^ (8 * j) = ((256 ^ j : Nat) : Int) := by
    rw [Int.pow_mul]; simp
  rw [this]; simp
set_option maxHeartbeats 1000000 in
theorem pNum_c (B : Nat) (v : Value) (l : List UInt8) (n : Nat) (k : Int) (w : World) (hB : B ≤ w.heap.size) (HO : Bts w B v l) (hn : n < 18446744073709551616) (hl : l.length ≤ 1000000000) :
    Calls Tryz.prog 101 #[v, .int .u64 n, .int .i64 k] w fun e w' =>
      ∃ v', e = .returned v' ∧ Bts w' B v' (l ++ be n (wideN k)) ∧ Grew w w' v v' := by
  have hw : 1 ≤ wideN k ∧ wideN k ≤ 8 := by unfold wideN; omega
  have H := Lib.hid HO
  clear HO
  go_enter Tryz.func101, Tryz.ntmps101
  go_wp2_with fail
  refine (wide_c _ _).mono ?_
  rintro e w' ⟨rfl, rfl⟩
  generalize hK : wideN k = K at *
  have HK := Lib.hid hK; clear hK
  go_wp2_with fail
  go_loopw [0, 7] (fun x i wr => ∃ (j : Nat) (m : List UInt8), j ≤ K ∧ i = .int .i64 ((j : Int) - 1) ∧ m ++ be n j = l ++ be n K ∧ m.length + j = l.length + K ∧ Bts wr B x m ∧ Grew w wr v x) (fun _ i _ => (intOf i + 1).toNat)
  case atStart => exact ⟨K, l, by omega, rfl, rfl, by omega, H.out, Grew.refl _ _⟩
  case round =>
    obtain ⟨j, m, hj, rfl, hm, hml, hown, hg⟩ := hrel
    have HM := Lib.hid hm
    have HG := Lib.hid hg
    have HO := Lib.hid hown
    have HS := Lib.hid hg.mod.size
    clear hm hg hown H
    rcases j with _ | j
    · go_wp2
      go_ret
      exact ⟨_, rfl, by have := HM.out; simp [be] at this; rw [HK.out, ← this]; exact HO.out, HG.out⟩
    · go_wp2_with (at_builtin; refine wpList_app B 118 5 (.int .u8 0) 1 1 rfl _ _ rfl Tryz.underlying118 Tryz.i_u8 rfl (by decide) (by decide) _ m.length (bcs m) rfl ⟨wr.heap.size, 0, none⟩ 1 1 _ rfl (own_alloc HO.out _) ?_ (news_new wr _ _) ?_ ?_ ?_ ?_)
      case refine_1 => rfl
      case refine_2 => intro u hu; simp at hu; subst hu; rfl
      case refine_3 => omega
      case refine_4 => have := HS.out; simp only [World.size_alloc]; omega
      case refine_5 =>
      intro v1 w1 hown hg
      have HO1 := Lib.hid hown
      have HG1 := Lib.hid hg
      clear hown hg
      go_wp2
      go_roundw
      case rel =>
        refine ⟨j, m ++ [UInt8.ofNat (n / 256 ^ j)], by omega, rfl, ?_, by simp only [List.length_append, List.length_singleton]; omega, ?_, HG.out.trans (Grew.pre ((Mod.refl _ _).alloc _) HG1.out)⟩
        · rw [← HM.out]; simp [be]
        · have := HO1.out
          unfold Bts
          rw [bcs_app, List.length_append]
          simpa [bcs, byte_be] using this
      case measure => simp [intOf]
end Go.Proofs.YtoffondipgjcoaaGreatDoor

/- The contracts of package pack: the rest of the reader, texts. -/
set_option linter.unusedVariables false
set_option maxRecDepth 100000
set_option linter.unusedSimpArgs false
namespace Go.Proofs.YtoffondipgjcoaaGreatDoor
open Go.RowKit

theorem From_c (s : ByteArray) (w : World) (hs : s.size ≤ 140737488355328) :
    Calls Tryz.prog 70 #[.string s] w fun e w' => e = .returned (.pointer (some ⟨w.heap.size, 0, none⟩)) ∧ Mod [] w w' ∧ Rdr w' w.heap.size ⟨s, 0⟩ := by
  go_enter Tryz.func70, Tryz.ntmps70
  go_wp2
  go_ret
  exact ⟨rfl, (Mod.refl _ _).alloc _, ⟨hp_new _ _, hs⟩⟩

theorem Left_c (b : Nat) (r : Rd) (w : World) (h : Rdr w b r) :
    Calls Tryz.prog 74 #[.pointer (some ⟨b, 0, none⟩)] w fun e w' => e = .returned (.int .i64 r.rest.size) ∧ w = w' := by
  obtain ⟨c, f⟩ := cells_of h.at_
  clear h
  go_enter Tryz.func74, Tryz.ntmps74
  go_wp2
  go_ret
  exact ⟨rfl, rfl⟩

theorem Err_c (b : Nat) (r : Rd) (w : World) (h : Rdr w b r) :
    Calls Tryz.prog 75 #[.pointer (some ⟨b, 0, none⟩)] w fun e w' => e = .returned (.int .i64 r.err) ∧ w = w' := by
  obtain ⟨c, f⟩ := cells_of h.at_
  clear h
  go_enter Tryz.func75, Tryz.ntmps75
  go_wp2
  go_ret
  exact ⟨rfl, rfl⟩

theorem Raw_c (b : Nat) (r : Rd) (k : Nat) (w : World) (h : Rdr w b r) :
    Calls Tryz.prog 73 #[.pointer (some ⟨b, 0, none⟩), .int .i64 (k : Int)] w fun e w' => e = .returned (.string (r.take k).1) ∧ Mod [b] w w' ∧ Rdr w' b (r.take k).2.2 := by
  have H := Lib.hid h
  clear h
  go_enter Tryz.func73, Tryz.ntmps73
  go_wp2_with (go_at_call 130; refine (take_c b r _ _ H.out (by omega)).mono ?_; rintro e w1 ⟨rfl, hm, hr, hz⟩; have HM := Lib.hid hm; have HR := Lib.hid hr; clear hm hr hz)
  go_ret
  exact ⟨rfl, HM.out, HR.out⟩

def Rd.str (r : Rd) (most : Int) : ByteArray × Rd :=
  if r.err ≠ 0 then (emp, r) else if r.rest.size < 1 then (emp, { r with err := 2 }) else
  if most < ((r.rest.data.toList.headD 0).toNat : Int) then (emp, { r with err := 3 }) else
  let t := (r.take 1).2.2.take (r.rest.data.toList.headD 0).toNat
  if t.2.1 then (t.1, t.2.2) else (t.1, { t.2.2 with rest := r.rest })

theorem head_byte (s : ByteArray) (h : 1 ≤ s.size) (g : 0 < (s.extract 0 1).size) : ((s.extract 0 1)[0]'g).toNat = (s.data.toList.headD 0).toNat := by
  have h1 : (s.extract 0 1)[0]'g = s[0]'(by omega) := by rw [ByteArray.getElem_extract]
  rw [h1]
  obtain ⟨⟨l⟩⟩ := s
  cases l with
  | nil => simp [ByteArray.size] at h
  | cons x l => rfl

set_option maxHeartbeats 1000000 in
theorem Str_c (b : Nat) (r : Rd) (most : Int) (w : World) (h : Rdr w b r) :
    Calls Tryz.prog 72 #[.pointer (some ⟨b, 0, none⟩), .int .i64 most] w fun e w' => e = .returned (.string (r.str most).1) ∧ Mod [b] w w' ∧ Rdr w' b (r.str most).2 := by
  have hsm := h.small
  obtain ⟨c, f⟩ := cells_of h.at_
  have H := Lib.hid h
  clear h
  by_cases he : r.err = 0
  · have he' : (r.err != 0) = false := by simp [he]
    by_cases hz : r.rest.size < 1
    · have HV := Lib.hid (show r.str most = (emp, { r with err := 2 }) from by unfold Rd.str; rw [if_neg (by simp [he]), if_pos hz])
      have HT := Lib.hid (show r.take 1 = (emp, false, { r with err := 2 }) from by simp [Rd.take, he, hz])
      clear he hz
      go_enter Tryz.func72, Tryz.ntmps72
      go_wp2_with fail
      refine (take_c b r _ _ H.out (by omega)).mono ?_
      rw [show (1 : Int).toNat = 1 from rfl, HT.out]
      rintro e w1 ⟨rfl, hm, hr, hz⟩
      have HM := Lib.hid hm; have HR := Lib.hid hr; clear hm hr hz
      go_wp2_with fail
      go_ret
      rw [HV.out]
      exact ⟨rfl, HM.out, HR.out⟩
    · have hT : r.take 1 = (r.rest.extract 0 1, true, ⟨r.rest.extract 1 r.rest.size, 0⟩) := by simp [Rd.take, he, hz]
      have hb := head_byte r.rest (by omega)
      have hg : 0 < (r.rest.extract 0 1).size := by simp [ByteArray.size_extract]; omega
      have hi : ∀ w : World, (Instr.index 9 (.string (r.rest.extract 0 1)) (.int .i64 0)).run Tryz.prog w = .ok (.int .u8 ((r.rest.data.toList.headD 0).toNat : Int)) w := by
        intro w
        rw [← hb hg]
        simp [go_sem, Tryz.underlying9]
        rw [dif_pos (by omega)]
      have h256 := (r.rest.data.toList.headD 0).toNat_lt
      have HV := Lib.hid (show r.str most = _ from by unfold Rd.str; rw [if_neg (by simp [he]), if_neg hz])
      have HT := Lib.hid hT
      clear he hT hb hz
      generalize (r.rest.data.toList.headD 0).toNat = n at *
      go_enter Tryz.func72, Tryz.ntmps72
      go_wp2_with fail
      refine (take_c b r _ _ H.out (by omega)).mono ?_
      rw [show (1 : Int).toNat = 1 from rfl, HT.out]
      rintro e w1 ⟨rfl, hm, hr, hz⟩
      obtain ⟨c1, f1⟩ := cells_of hr.at_
      have HM := Lib.hid hm; have HR := Lib.hid hr; clear hm hr hz c f
      by_cases hmo : most < (n : Int)
      · go_wp2_with fail
        go_ret
        rw [HV.out, if_pos hmo]
        refine ⟨rfl, (HM.out.setCell _ _ (by simp)).setCell _ _ (by simp), ⟨?_, hsm⟩⟩
        rw [hp_set (hp_set HR.out.at_)]; rfl
      · rw [HT.out, if_neg hmo] at HV
        go_wp2_with fail
        refine (take_c b _ _ _ HR.out (by omega)).mono ?_
        rw [Int.toNat_natCast]
        try dsimp only at HV
        generalize Rd.take _ n = T at *
        obtain ⟨t, ok, r2⟩ := T
        rintro e w2 ⟨rfl, hm, hr, hz⟩
        dsimp only at *
        obtain ⟨c2, f2⟩ := cells_of hr.at_
        have HM2 := Lib.hid (HM.out.trans hm (by simp)); have HR2 := Lib.hid hr; clear hm hr hz c1 f1 HM HR
        cases ok
        · go_wp2_with fail
          go_ret
          rw [HV.out]
          refine ⟨rfl, HM2.out.setCell _ _ (by simp), ⟨?_, hsm⟩⟩
          rw [hp_set HR2.out.at_]; rfl
        · go_wp2_with fail
          go_ret
          rw [HV.out]
          exact ⟨rfl, HM2.out, HR2.out⟩
  · go_enter Tryz.func72, Tryz.ntmps72
    have he' : (r.err != 0) = true := by simpa using he
    go_wp2
    go_ret
    exact ⟨by simp [Rd.str, he, emp], Mod.refl _ _, by simpa [Rd.str, he] using H.out⟩
end Go.Proofs.YtoffondipgjcoaaGreatDoor
