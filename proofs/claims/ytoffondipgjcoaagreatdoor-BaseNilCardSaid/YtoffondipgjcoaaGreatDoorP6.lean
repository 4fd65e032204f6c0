/- Part 6 of 27 of the contracts below the law: each theorem states, of one function of the program, at a world of the form that its premises name, what the call answers and what it leaves. -/
import Derived.Test.YtoffondipgjcoaaGreatDoorP5
import Derived.Test.YtoffondipgjcoaaGreatDoorP3
import Derived.Deep.DeepAppendWide
/- Appending a block that was just built; texts. -/
set_option linter.unusedVariables false
set_option maxRecDepth 100000
set_option linter.unusedSimpArgs false
namespace Go.Proofs.YtoffondipgjcoaaGreatDoor
open Go.RowKit

section
variable {P : Program} {ops : Array Oper} {rest : List Oper} {o : Oper} {a : Act} {Q : Exit → Act → World → Prop}
theorem wpList_app_new {w0 : World} (B t e : Nat) (z : Value) (k bytes : Nat) (T : TypeId) (cs : List Value) (fr : Nat × Nat) (hgd : o.guard = none) (s x : Operand)
    (ho : o.op = .call { callee := .builtin .append, args := #[s, x], argTypes := #[t, t] })
    (ht : P.underlying t = some (.slice e)) (hinfo : (P.info? e).map (fun i => (i.zero, i.size, i.bytes)) = some (some z, k, bytes)) (hz : z.cells.size = k) (hk : 0 < k) (hb : 0 < bytes)
    (v : Value) (n : Nat) (xs : List Value) (HO : w0.ownsRow B e k v n xs) (hs : a.eval s = v) (m c : Nat) (hx : a.eval x = .slice (some ⟨w0.heap.size, 0, none⟩) m c)
    (hnl : cs.length = m * k) (h1 : cs.all (·.oneCell') = true)
    (hl : (n + m) * bytes ≤ 140737488355328) (hB : B ≤ w0.heap.size)
    (h : ∀ v1 w1, w1.ownsRow B e k v1 (n + m) (xs ++ cs) → Grew w0 w1 v v1 → wpList P ops Q rest (a.put o.dst v1) w1) : wpList P ops Q (o :: rest) a (w0.alloc (.cells cs.toArray T fr)) := by
  refine wpList_app B t e z k bytes hgd s x ho ht hinfo hz hk hb v n xs hs _ m c cs hx (own_alloc HO _) hnl ?_ (fun u hu => List.all_eq_true.1 h1 u hu) hl (by simp only [World.size_alloc]; omega) ?_
  · intro j u hu
    have : (⟨w0.heap.size, 0, none⟩ : Addr).add j = ⟨w0.heap.size, j, none⟩ := by unfold Addr.add; split <;> simp_all
    rw [this, World.cell?, hp_new]
    simpa using hu
  · intro v1 w1 hown hg
    exact h v1 w1 hown (Grew.pre ((Mod.refl _ _).alloc _) hg)
theorem wpList_app_str {W : World} (B t u e : Nat) (hgd : o.guard = none) (s x : Operand)
    (ho : o.op = .call { callee := .builtin .append, args := #[s, x], argTypes := #[t, u] })
    (ht : P.underlying t = some (.slice e)) (hu : P.underlying u = some .string) (hinfo : (P.info? e).map (fun i => (i.zero, i.size, i.bytes)) = some (some (.int .u8 0), 1, 1))
    (v : Value) (n : Nat) (xs : List Value) (HO : W.ownsRow B e 1 v n xs) (hs : a.eval s = v) (l : List UInt8) (hx : a.eval x = .string (str l))
    (hl : n + l.length ≤ 140737488355328) (hB : B ≤ W.heap.size)
    (h : ∀ v1 w1, w1.ownsRow B e 1 v1 (n + l.length) (xs ++ bcs l) → Grew W w1 v v1 → wpList P ops Q rest (a.put o.dst v1) w1) : wpList P ops Q (o :: rest) a W := by
  obtain ⟨i, hi, hz, h1, h2⟩ := info_parts hinfo
  have hmx : n + (str l).size ≤ maxLen := by simp only [maxLen, str_size]; omega
  obtain ⟨v', w', hr, ho', hg', _⟩ := Lib.run_append_own_string (P := P) W B t u o.type e i ht hu hi hz h1 h2 v n xs HO (str l) hmx hl hB
  have hplace : ∀ b, v'.ownBlock = some b → v.ownBlock = some b ∨ W.heap.size ≤ b := by
    intro b hb
    rcases HO.2 with ⟨rfl, rfl⟩ | ⟨g, cap, cur, rfl, hbg, hh, h3, h4, h5, h6⟩
    · obtain ⟨v2, w2, hr2, ho2, _, _⟩ := Lib.run_append_own_string (P := P) W W.heap.size t u o.type e i ht hu hi hz h1 h2 (.slice none 0 0) 0 xs ⟨HO.1, .inl ⟨rfl, rfl⟩⟩ (str l) hmx hl (Nat.le_refl _)
      rw [hr] at hr2
      simp only [Result.ok.injEq] at hr2
      obtain ⟨rfl, rfl⟩ := hr2
      exact .inr (ho2.lt b hb).1
    · rcases Nat.lt_or_ge cap (n + (str l).size) with hlt | hge
      · have hr2 := Lib.run_append_grow_string (P := P) W t u o.type e i (.int .u8 0) ht hu hi hz ⟨g, 0, none⟩ n cap xs (by rw [HO.1, h1]) (by
          intro j v hj
          rw [add_at, Nat.zero_add, (cells_of hh).1]
          have hjl : j < n * 1 := by rw [← HO.1]; exact (List.getElem?_eq_some_iff.1 hj).1
          rw [← h6, List.getElem?_take, if_pos hjl] at hj
          simpa using hj) (str l) hlt (by simp only [str_size]; omega) (by
            rw [h2, Nat.mul_one]
            have := nextslicecap_le_wide hlt
            simp only [str_size] at this ⊢; omega)
        rw [hr] at hr2
        simp only [Result.ok.injEq] at hr2
        obtain ⟨rfl, rfl⟩ := hr2
        simp [Value.ownBlock] at hb
        exact .inr (by omega)
      · have hr2 := Lib.run_append_room_string (P := P) W t u o.type e i ht hu hi h1 g n cap cur hh (str l) hge (by rw [h5, Nat.mul_one]; exact hge)
        rw [hr] at hr2
        simp only [Result.ok.injEq] at hr2
        obtain ⟨rfl, rfl⟩ := hr2
        exact .inl hb
  refine wpList_plain hgd fun K hK => ?_
  unfold Oper.wp execOp
  simp only [ho, resolve, invoke, builtin, Sem.run_bind, Sem.run_pure, Result.andThen_ok, List.map_toArray, List.map_cons, List.map_nil, hs, hx, hr]
  exact hK _ _ (h v' w' ho' ⟨mod_of_grown hg', hplace⟩)
theorem stop_map {w : World} (ty : TypeId) (x y z : Operand) (ho : o.op = .mapUpdate ty x y z) (h : Stop (wpList P ops Q (o :: rest) a w)) : wpList P ops Q (o :: rest) a w := h.out
end
theorem hp_new1 (w : World) (o o' : Obj) : ((w.alloc o).alloc o').heap[w.heap.size + 1]? = some o' := by
  have := hp_new (w.alloc o) o'
  rwa [World.size_alloc] at this
theorem hp_new2 (w : World) (o o' o'' : Obj) : (((w.alloc o).alloc o').alloc o'').heap[w.heap.size + 1 + 1]? = some o'' := by
  have := hp_new ((w.alloc o).alloc o') o''
  rwa [World.size_alloc, World.size_alloc] at this
theorem Tryz.i_str : (Tryz.prog.info? 9).map (fun i => (i.zero, i.size, i.bytes)) = some (some (.string ⟨#[]⟩), 1, 16) := by kernel_rfl
theorem Tryz.i_int : (Tryz.prog.info? 3).map (fun i => (i.zero, i.size, i.bytes)) = some (some (.int .i64 0), 1, 8) := by kernel_rfl
theorem str_app (l m : List UInt8) : str l ++ str m = str (l ++ m) := by simp [str, ByteArray.ext_iff]
theorem str_empty (l : List UInt8) : (str l).toList.isEmpty = l.isEmpty := by rw [ByteArray.toList_eq]; rfl
theorem str_inj {l m : List UInt8} (h : str l = str m) : l = m := by simpa [str] using h
theorem str_sub (l : List UInt8) (i j : Nat) : (str l).extract i j = str ((l.take j).drop i) := by
  simp [str, ByteArray.ext_iff, ByteArray.data_extract, List.extract_eq_take_drop]
  apply List.ext_getElem?
  intro k
  simp [List.getElem?_take, List.getElem?_drop]
  split <;> split <;> first | rfl | omega
/-- a row of strings -/
def Strs (w : World) (B : Nat) (v : Value) (l : List (List UInt8)) : Prop := w.ownsRow B 9 1 v l.length (l.map fun s => .string (str s))
def Ints (w : World) (B : Nat) (v : Value) (l : List Int) : Prop := w.ownsRow B 3 1 v l.length (l.map fun n => .int .i64 n)
end Go.Proofs.YtoffondipgjcoaaGreatDoor
