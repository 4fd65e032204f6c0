/- Part 11 of 27 of the contracts below the law: each theorem states, of one function of the program, at a world of the form that its premises name, what the call answers and what it leaves. -/
import Derived.Test.YtoffondipgjcoaaGreatDoorP2
import Derived.Test.YtoffondipgjcoaaGreatDoorP6
/- My words: a step of what owns a list of blocks (Stp); blocks that are not its own (Far); a map told up to the order of its pairs (MapP); sorted pairs. -/
set_option linter.unusedVariables false
set_option maxRecDepth 100000
set_option linter.unusedSimpArgs false
namespace Go.Proofs.YtoffondipgjcoaaGreatDoor
open Go.RowKit

/-- What owned the blocks F has gone on, and owns F' now. -/
structure Stp (F F' : List Nat) (w w' : World) : Prop where
  mod : Mod F w w'
  sub : ∀ b ∈ F', b ∈ F ∨ w.heap.size ≤ b
theorem Stp.refl (F : List Nat) (w : World) : Stp F F w w := ⟨Mod.refl _ _, fun _ h => .inl h⟩
theorem Stp.trans {F F' F'' : List Nat} {a b c : World} (h : Stp F F' a b) (k : Stp F' F'' b c) : Stp F F'' a c :=
  ⟨h.mod.trans k.mod h.sub, fun x hx => (k.sub x hx).elim (h.sub x) (fun h' => .inr (Nat.le_trans h.mod.size h'))⟩
theorem Stp.pure {F : List Nat} {a b : World} (h : Mod [] a b) : Stp F F a b := ⟨h.mono (by simp), fun _ h => .inl h⟩
theorem Stp.of {F R : List Nat} {a b : World} (h : Mod R a b) (hR : ∀ x ∈ R, x ∈ F) : Stp F F a b := ⟨h.mono (fun x hx => .inl (hR x hx)), fun _ h => .inl h⟩
theorem Stp.le {F F' G : List Nat} {a b : World} (h : Stp F F' a b) (hG : ∀ x ∈ G, x ∈ F' ∨ a.heap.size ≤ x) : Stp F G a b := ⟨h.mod, fun x hx => (hG x hx).elim (h.sub x) .inr⟩
/-- A block that stands, and is not of F. -/
def Far (w : World) (F : List Nat) (b : Nat) : Prop := b < w.heap.size ∧ b ∉ F
theorem Stp.far {F F' : List Nat} {w w' : World} (h : Stp F F' w w') {b : Nat} (hb : Far w F b) : Far w' F' b :=
  ⟨Nat.lt_of_lt_of_le hb.1 h.mod.size, fun hm => (h.sub b hm).elim hb.2 (fun h' => Nat.not_le.2 hb.1 h')⟩
theorem Stp.at {F F' : List Nat} {w w' : World} (h : Stp F F' w w') {b : Nat} {o : Obj} (hb : b ∉ F) (ho : w.heap[b]? = some o) : w'.heap[b]? = some o := h.mod.at ho hb
theorem Far.mod {w w' : World} {F : List Nat} {b : Nat} (h : Far w F b) (hm : Mod [] w w') : Far w' F b := ⟨Nat.lt_of_lt_of_le h.1 hm.size, h.2⟩

section
variable {κ α : Type}
/-- keys rise -/
def Srt (lt : κ → κ → Bool) (m : List (κ × α)) : Prop := m.Pairwise fun p q => lt p.1 q.1 = true
structure OrdB (lt : κ → κ → Bool) : Prop where
  irr : ∀ a, lt a a = false
  tr : ∀ a b c, lt a b = true → lt b c = true → lt a c = true
  tot : ∀ a b, a ≠ b → lt a b = false → lt b a = true
theorem Srt.nodup {lt : κ → κ → Bool} (ho : OrdB lt) {m : List (κ × α)} (h : Srt lt m) : (m.map (·.1)).Nodup := by
  unfold List.Nodup
  rw [List.pairwise_map]
  refine h.imp ?_
  intro a b hab he
  rw [he, ho.irr] at hab
  cases hab
theorem Srt.eq {lt : κ → κ → Bool} (ho : OrdB lt) {m m' : List (κ × α)} (h : m.Perm m') (hm : Srt lt m) (hm' : Srt lt m') : m = m' := by
  refine h.eq_of_pairwise (fun a b _ _ hab hba => ?_) hm hm'
  have := ho.tr _ _ _ hab hba
  rw [ho.irr] at this; cases this
end
/-! pairs, their order forgotten -/
section
variable {κ α : Type} [DecidableEq κ]
theorem alook_mem {m : List (κ × α)} (hn : (m.map (·.1)).Nodup) {k : κ} {v : α} : alook m k = some v ↔ (k, v) ∈ m := by
  induction m with
  | nil => simp [alook]
  | cons p m ih =>
    simp only [List.map_cons, List.nodup_cons] at hn
    by_cases hp : p.1 = k
    · subst hp
      simp only [alook, List.find?_cons, decide_true, Option.map_some, Option.some.injEq, List.mem_cons]
      constructor
      · rintro rfl; exact .inl rfl
      · rintro (h | h)
        · rw [← h]
        · exact absurd (List.mem_map_of_mem h) hn.1
    · have := ih hn.2
      simp only [alook, List.find?_cons, decide_eq_false hp, List.mem_cons] at this ⊢
      rw [this]
      constructor
      · exact .inr
      · rintro (h | h)
        · exact absurd (by rw [← h]) hp
        · exact h
theorem alook_permS {m m' : List (κ × α)} (h : m.Perm m') (hn : (m.map (·.1)).Nodup) (k : κ) : alook m k = alook m' k := by
  have hn' : (m'.map (·.1)).Nodup := (h.map _).nodup_iff.1 hn
  cases hk : alook m' k with
  | some v => exact (alook_mem hn).2 (h.mem_iff.2 ((alook_mem hn').1 hk))
  | none =>
    cases hk2 : alook m k with
    | none => rfl
    | some v => rw [(alook_mem hn').2 (h.mem_iff.1 ((alook_mem hn).1 hk2))] at hk; cases hk
theorem any_perm {m m' : List (κ × α)} (h : m.Perm m') (k : κ) : (m.any fun p => p.1 = k) = (m'.any fun p => p.1 = k) := by
  rw [Bool.eq_iff_iff, List.any_eq_true, List.any_eq_true]
  constructor <;> rintro ⟨x, hx, h'⟩
  · exact ⟨x, h.mem_iff.1 hx, h'⟩
  · exact ⟨x, h.mem_iff.2 hx, h'⟩
theorem aput_perm {m m' : List (κ × α)} (h : m.Perm m') (k : κ) (v : α) : (aput m k v).Perm (aput m' k v) := by
  unfold aput
  rw [any_perm h k]
  split
  · exact h.map _
  · exact h.append_right _
theorem adel_perm {m m' : List (κ × α)} (h : m.Perm m') (k : κ) : (adel m k).Perm (adel m' k) := h.filter _
/-- the pair put where its key belongs -/
def sput (lt : κ → κ → Bool) (k : κ) (v : α) : List (κ × α) → List (κ × α)
  | [] => [(k, v)]
  | p :: m => if p.1 = k then (k, v) :: m else if lt k p.1 then (k, v) :: p :: m else p :: sput lt k v m
theorem sput_mem {lt : κ → κ → Bool} {k : κ} {v : α} : ∀ {m : List (κ × α)} {p : κ × α}, p ∈ sput lt k v m → p = (k, v) ∨ p ∈ m
  | [], p, h => by simpa [sput] using h
  | q :: m, p, h => by
    unfold sput at h
    split at h
    · rcases List.mem_cons.1 h with h | h
      · exact .inl h
      · exact .inr (by simp [h])
    · split at h
      · rcases List.mem_cons.1 h with h | h
        · exact .inl h
        · exact .inr h
      · rcases List.mem_cons.1 h with h | h
        · exact .inr (by simp [h])
        · rcases sput_mem h with h | h
          · exact .inl h
          · exact .inr (by simp [h])
theorem Srt.sput {lt : κ → κ → Bool} (ho : OrdB lt) {k : κ} {v : α} : ∀ {m : List (κ × α)}, Srt lt m → Srt lt (sput lt k v m)
  | [], _ => by simp [Srt, Proofs.YtoffondipgjcoaaGreatDoor.sput]
  | p :: m, h => by
    have h1 := List.pairwise_cons.1 h
    unfold Proofs.YtoffondipgjcoaaGreatDoor.sput
    split
    · rename_i hp
      exact List.pairwise_cons.2 ⟨fun q hq => by rw [← hp]; exact h1.1 q hq, h1.2⟩
    · rename_i hp
      split
      · rename_i hl
        refine List.pairwise_cons.2 ⟨fun q hq => ?_, h⟩
        rcases List.mem_cons.1 hq with rfl | hq
        · exact hl
        · exact ho.tr _ _ _ hl (h1.1 q hq)
      · rename_i hl
        refine List.pairwise_cons.2 ⟨fun q hq => ?_, Srt.sput ho h1.2⟩
        rcases sput_mem hq with rfl | hq
        · exact ho.tot _ _ (Ne.symm hp) (by simpa using hl)
        · exact h1.1 q hq
theorem aput_sput {lt : κ → κ → Bool} (ho : OrdB lt) (k : κ) (v : α) : ∀ {m : List (κ × α)}, Srt lt m → (aput m k v).Perm (sput lt k v m)
  | [], _ => by simp [aput, sput]
  | p :: m, h => by
    have h1 := List.pairwise_cons.1 h
    have hnd := h.nodup ho
    simp only [List.map_cons, List.nodup_cons] at hnd
    unfold sput
    split
    · rename_i hp
      have : m.map (fun q => if q.1 = k then (k, v) else q) = m := by
        conv => rhs; rw [← List.map_id m]
        exact List.map_congr_left fun q hq => by
          have : q.1 ≠ k := by rintro rfl; exact hnd.1 (hp ▸ List.mem_map_of_mem hq)
          simp [this]
      simp [aput, hp, this]
    · rename_i hp
      have ih := aput_sput ho k v h1.2
      have hstep : (aput (p :: m) k v) = p :: aput m k v := by
        unfold aput
        simp only [List.any_cons, decide_eq_false hp, Bool.false_or]
        split <;> simp [hp]
      rw [hstep]
      split
      · rename_i hl
        have hno : ∀ q ∈ m, q.1 ≠ k := by
          rintro q hq rfl
          have := ho.tr _ _ _ hl (h1.1 q hq)
          rw [ho.irr] at this; cases this
        rw [aput_none hno]
        exact (List.perm_append_comm (l₁ := p :: m) (l₂ := [(k, v)]))
      · exact ih.cons p
theorem Srt.adel {lt : κ → κ → Bool} {m : List (κ × α)} (h : Srt lt m) (k : κ) : Srt lt (adel m k) := h.filter _
end

/-- The map at r has just the pairs m. -/
def MapP {κ α : Type} (kenc : κ → Value) (enc : α → Value) (w : World) (r : Nat) (m : List (κ × α)) : Prop :=
  ∃ kv, MapAt w r (mkv kenc enc kv) ∧ kv.Perm m ∧ (kv.map (·.1)).Nodup
section
variable {κ α : Type} {kenc : κ → Value} {enc : α → Value}
theorem MapP.mod {w w' : World} {r : Nat} {m : List (κ × α)} {R : List Nat} (h : MapP kenc enc w r m) (hm : Mod R w w') (hr : r ∉ R) : MapP kenc enc w' r m := by
  obtain ⟨kv, h1, h2⟩ := h
  exact ⟨kv, h1.mod hm hr, h2⟩
theorem MapP.lt {w : World} {r : Nat} {m : List (κ × α)} (h : MapP kenc enc w r m) : r < w.heap.size := by obtain ⟨_, h1, _⟩ := h; exact h1.lt
theorem MapP.new (w : World) : MapP kenc enc (w.alloc (.map #[] 0)) w.heap.size [] := ⟨[], MapAt.new w, .refl _, by simp⟩
theorem MapP.nd {w : World} {r : Nat} {m : List (κ × α)} (h : MapP kenc enc w r m) : (m.map (·.1)).Nodup := by
  obtain ⟨kv, _, h2, h3⟩ := h; exact (h2.map _).nodup_iff.1 h3
theorem MapAt.ne {w : World} {r b : Nat} {kv : List (Value × Value)} (h : MapAt w r kv) {cs : Array Value} {T : TypeId} {f : Nat × Nat} (hb : w.heap[b]? = some (.cells cs T f)) : r ≠ b := by
  obtain ⟨es, cl, h1, _⟩ := h
  rintro rfl
  rw [h1] at hb; simp at hb
theorem MapP.ne {w : World} {r b : Nat} {m : List (κ × α)} (h : MapP kenc enc w r m) {cs : Array Value} {T : TypeId} {f : Nat × Nat} (hb : w.heap[b]? = some (.cells cs T f)) : r ≠ b := by
  obtain ⟨kv, h1, _⟩ := h; exact h1.ne hb
variable [DecidableEq κ] {P : Program} {K : TypeId} {ops : Array Oper} {rest : List Oper} {o : Oper} {a : Act} {Q : Exit → Act → World → Prop} {w : World}
theorem run_lookup_mapP (T E : TypeId) (hT : P.underlying T = some (.map K E)) (hk : KeyOK P K kenc) (z : Value) (hz : ∀ w, (zeroValue E).run P w = .ok z w)
    {w : World} {r : Nat} {m : List (κ × α)} (h : MapP kenc enc w r m) (k : κ) (ok : Bool) :
    (Instr.lookup T (.map (some r)) (kenc k) ok).run P w = .ok (if ok then .tuple #[((alook m k).map enc).getD z, .bool (alook m k).isSome] else ((alook m k).map enc).getD z) w := by
  obtain ⟨kv, h1, h2, h3⟩ := h
  rw [← alook_permS h2 h3 k]
  exact run_lookup_map T E hT hk z hz h1 k ok
theorem wpList_mapUpdateP (hgd : o.guard = none) (T E : TypeId) (x y z : Operand) (ho : o.op = .mapUpdate T x y z) (hT : P.underlying T = some (.map K E)) (hk : KeyOK P K kenc)
    (lt : κ → κ → Bool) (hlt : OrdB lt) (r : Nat) (m : List (κ × α)) (k : κ) (v : α) (hx : a.eval x = .map (some r)) (hy : a.eval y = kenc k) (hz : a.eval z = enc v) (hm : MapP kenc enc w r m) (hs : Srt lt m)
    (h : ∀ w', Mod [r] w w' → MapP kenc enc w' r (sput lt k v m) → w'.heap.size = w.heap.size → wpList P ops Q rest (a.put o.dst undef) w') : wpList P ops Q (o :: rest) a w := by
  obtain ⟨kv, h1, h2, h3⟩ := hm
  exact wpList_mapUpdate hgd T E x y z ho hT hk r kv k v hx hy hz h1 h3 fun w' hm' h' hsz => h w' hm' ⟨_, h', (aput_perm h2 k v).trans (aput_sput hlt k v hs), aput_nodup h3 k v⟩ hsz
theorem wpList_deleteP (hgd : o.guard = none) (T U E : TypeId) (x y : Operand) (ho : o.op = .call { callee := .builtin .delete, args := #[x, y], argTypes := #[T, U] }) (hT : P.underlying T = some (.map K E)) (hk : KeyOK P K kenc)
    (r : Nat) (m : List (κ × α)) (k : κ) (hx : a.eval x = .map (some r)) (hy : a.eval y = kenc k) (hm : MapP kenc enc w r m)
    (h : ∀ w', Mod [r] w w' → MapP kenc enc w' r (adel m k) → w'.heap.size = w.heap.size → wpList P ops Q rest (a.put o.dst (.tuple #[])) w') : wpList P ops Q (o :: rest) a w := by
  obtain ⟨kv, h1, h2, h3⟩ := hm
  exact wpList_delete hgd T U E x y ho hT hk r kv k hx hy h1 h3 fun w' hm' h' hsz => h w' hm' ⟨_, h', adel_perm h2 k, adel_nodup h3 k⟩ hsz
end
def ilt (a b : Int) : Bool := decide (a < b)
theorem ilt_ord : OrdB ilt := ⟨by simp [ilt], by simp [ilt]; omega, by simp [ilt]; omega⟩
/-- bytes, in their order -/
def blt : List UInt8 → List UInt8 → Bool
  | _, [] => false
  | [], _ :: _ => true
  | a :: l, b :: m => if a.toNat < b.toNat then true else if a.toNat = b.toNat then blt l m else false
theorem blt_irr : ∀ a, blt a a = false
  | [] => rfl
  | a :: l => by simp [blt, blt_irr l]
theorem blt_tr : ∀ a b c, blt a b = true → blt b c = true → blt a c = true
  | _, [], _, h, _ => by simp [blt] at h
  | _, _ :: _, [], _, h => by simp [blt] at h
  | [], _ :: _, _ :: _, _, _ => rfl
  | a :: l, b :: m, c :: n, h, k => by
    simp only [blt] at h k ⊢
    split at h
    · split at k
      · rw [if_pos (by omega)]
      · split at k
        · rw [if_pos (by omega)]
        · cases k
    · split at h
      · split at k
        · rw [if_pos (by omega)]
        · split at k
          · rw [if_neg (by omega), if_pos (by omega)]; exact blt_tr _ _ _ h k
          · cases k
      · cases h
theorem blt_tot : ∀ a b, a ≠ b → blt a b = false → blt b a = true
  | [], [], h, _ => absurd rfl h
  | [], _ :: _, _, h => by simp [blt] at h
  | _ :: _, [], _, _ => rfl
  | a :: l, b :: m, h, k => by
    simp only [blt] at k ⊢
    split at k
    · cases k
    · split at k
      · rename_i h1 h2
        rw [if_neg (by omega), if_pos h2.symm]
        refine blt_tot l m ?_ k
        rintro rfl
        exact h (by rw [UInt8.toNat_inj.1 h2])
      · rw [if_pos (by omega)]
theorem blt_ord : OrdB blt := ⟨blt_irr, blt_tr, blt_tot⟩
end Go.Proofs.YtoffondipgjcoaaGreatDoor
