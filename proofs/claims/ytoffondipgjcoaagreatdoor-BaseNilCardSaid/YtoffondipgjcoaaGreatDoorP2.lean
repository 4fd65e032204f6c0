/- Part 2 of 27 of the contracts below the law: each theorem states, of one function of the program, at a world of the form that its premises name, what the call answers and what it leaves. -/
import Derived.Test.YtoffondipgjcoaaGreatDoorP1
/- My words on maps: a map told as a list of pairs; what the operations do to it. -/
set_option linter.unusedVariables false
set_option maxRecDepth 100000
set_option linter.unusedSimpArgs false
namespace Go.Proofs.YtoffondipgjcoaaGreatDoor
open Go.RowKit

/-- w with another object at r. -/
abbrev intK (n : Int) : Value := .int .i64 n
def _root_.Go.World.putOb (w : World) (r : Nat) (o : Obj) : World := { w with heap := w.heap.setIfInBounds r o }
theorem hp_put {w : World} {r : Nat} {o o' : Obj} (h : w.heap[r]? = some o') : (w.putOb r o).heap[r]? = some o := by
  have := lt_of_block h
  simp [World.putOb, this]
theorem hp_put_ne {w : World} {r b : Nat} {o o' : Obj} (h : w.heap[b]? = some o') (hne : b ≠ r) : (w.putOb r o).heap[b]? = some o' := by
  simp only [World.putOb]; rw [Array.getElem?_setIfInBounds]; simp [Ne.symm hne, h]
theorem Mod.putOb {R : List Nat} {a w : World} (h : Mod R a w) (r : Nat) (o : Obj) (hp : r ∈ R ∨ a.heap.size ≤ r) : Mod R a (w.putOb r o) :=
  ⟨h.os, h.tape, h.output, by have := h.size; simpa [World.putOb] using this, fun k hk hn => by
    have : r ≠ k := by rintro rfl; exact nope hn hp hk
    simp only [World.putOb]; rw [Array.getElem?_setIfInBounds]; simp [this, h.block k hk hn]⟩

/-- The map r reads as these pairs, in the order in which they came. -/
def MapAt (w : World) (r : Nat) (kv : List (Value × Value)) : Prop :=
  ∃ es clock, w.heap[r]? = some (.map es clock) ∧ es.toList.map (fun e => (e.key, e.val)) = kv ∧ (∀ e ∈ es.toList, e.born < clock) ∧ (es.toList.map (·.born)).Nodup
theorem MapAt.mod {w w' : World} {r : Nat} {kv : List (Value × Value)} {R : List Nat} (h : MapAt w r kv) (hm : Mod R w w') (hr : r ∉ R) : MapAt w' r kv := by
  obtain ⟨es, cl, h1, h2⟩ := h
  exact ⟨es, cl, hm.at h1 hr, h2⟩
theorem MapAt.lt {w : World} {r : Nat} {kv : List (Value × Value)} (h : MapAt w r kv) : r < w.heap.size := by obtain ⟨_, _, h1, _⟩ := h; exact lt_of_block h1
theorem MapAt.new (w : World) : MapAt (w.alloc (.map #[] 0)) w.heap.size [] := ⟨#[], 0, hp_new _ _, rfl, by simp, by simp⟩

/-! pairs by keys -/
section
variable {κ α : Type} [DecidableEq κ]
def alook (m : List (κ × α)) (k : κ) : Option α := (m.find? fun p => p.1 = k).map (·.2)
def aput (m : List (κ × α)) (k : κ) (v : α) : List (κ × α) :=
  if (m.any fun p => p.1 = k) then m.map fun p => if p.1 = k then (k, v) else p else m ++ [(k, v)]
def adel (m : List (κ × α)) (k : κ) : List (κ × α) := m.filter fun p => p.1 ≠ k
/-- where the key stands -/
def aidx (k : κ) : List (κ × α) → Nat → Option Nat
  | [], _ => none
  | p :: m, i => if p.1 = k then some i else aidx k m (i + 1)
theorem aidx_shift (k : κ) (m : List (κ × α)) : ∀ i, aidx k m i = (aidx k m 0).map (· + i) := by
  induction m with
  | nil => intro i; rfl
  | cons p m ih =>
    intro i
    simp only [aidx]
    split
    · simp
    · rw [ih (i + 1), ih (0 + 1)]
      cases aidx k m 0 <;> simp; omega
theorem aidx_none {k : κ} {m : List (κ × α)} (h : aidx k m 0 = none) : ∀ p ∈ m, p.1 ≠ k := by
  induction m with
  | nil => simp
  | cons p m ih =>
    simp only [aidx] at h
    split at h
    · simp at h
    · rw [aidx_shift] at h
      intro q hq
      rcases List.mem_cons.1 hq with rfl | hq
      · assumption
      · exact ih (by cases hh : aidx k m 0 <;> simp_all) q hq
theorem aidx_some {k : κ} {m : List (κ × α)} {i : Nat} (h : aidx k m 0 = some i) : ∃ v, m[i]? = some (k, v) ∧ alook m k = some v ∧ (m.any fun p => p.1 = k) = true := by
  induction m generalizing i with
  | nil => simp [aidx] at h
  | cons p m ih =>
    simp only [aidx] at h
    split at h
    · rename_i hp
      simp at h; subst h
      exact ⟨p.2, by simp [← hp], by simp [alook, hp], by simp [hp]⟩
    · rename_i hp
      rw [aidx_shift] at h
      cases hh : aidx k m 0 with
      | none => simp [hh] at h
      | some j =>
        simp [hh] at h; subst h
        obtain ⟨v, h1, h2, h3⟩ := ih hh
        exact ⟨v, by simpa using h1, by simpa [alook, hp] using h2, by simp only [List.any_cons, h3, Bool.or_true]⟩
theorem alook_none {k : κ} {m : List (κ × α)} (h : ∀ p ∈ m, p.1 ≠ k) : alook m k = none := by
  simp only [alook, Option.map_eq_none_iff, List.find?_eq_none]
  simpa using h
theorem any_none {k : κ} {m : List (κ × α)} (h : ∀ p ∈ m, p.1 ≠ k) : (m.any fun p => p.1 = k) = false := by simpa using h
theorem modify_key {k : κ} {v : α} : ∀ {m : List (κ × α)} {i : Nat}, aidx k m 0 = some i → (m.map (·.1)).Nodup → m.modify i (fun p => (k, v)) = aput m k v := by
  intro m
  induction m with
  | nil => intro i h; simp [aidx] at h
  | cons p m ih =>
    intro i h hn
    simp only [List.map_cons, List.nodup_cons] at hn
    simp only [aidx] at h
    split at h
    · rename_i hp
      simp at h; subst h
      have hm : ∀ q ∈ m, q.1 ≠ k := fun q hq he => hn.1 (by rw [hp, ← he]; exact List.mem_map_of_mem hq)
      have : m.map (fun p => if p.1 = k then (k, v) else p) = m := by
        conv => rhs; rw [← List.map_id m]
        exact List.map_congr_left fun q hq => by simp [hm q hq]
      simp [aput, hp, this]
    · rename_i hp
      rw [aidx_shift] at h
      cases hh : aidx k m 0 with
      | none => simp [hh] at h
      | some j =>
        simp [hh] at h; subst h
        obtain ⟨_, _, _, h3⟩ := aidx_some hh
        have := ih hh hn.2
        simp only [List.modify_succ_cons, this, aput, h3, List.any_cons, Bool.or_true, if_true, List.map_cons, hp, if_false]
theorem erase_key {k : κ} : ∀ {m : List (κ × α)} {i : Nat}, aidx k m 0 = some i → (m.map (·.1)).Nodup → m.eraseIdx i = adel m k := by
  intro m
  induction m with
  | nil => intro i h; simp [aidx] at h
  | cons p m ih =>
    intro i h hn
    simp only [List.map_cons, List.nodup_cons] at hn
    simp only [aidx] at h
    split at h
    · rename_i hp
      simp at h; subst h
      have hm : ∀ q ∈ m, q.1 ≠ k := fun q hq he => hn.1 (by rw [hp, ← he]; exact List.mem_map_of_mem hq)
      simp only [List.eraseIdx_zero, List.tail_cons, adel, List.filter_cons, hp, ne_eq, not_true_eq_false, decide_false, Bool.false_eq_true, if_false]
      exact (List.filter_eq_self.2 (by simpa using hm)).symm
    · rename_i hp
      rw [aidx_shift] at h
      cases hh : aidx k m 0 with
      | none => simp [hh] at h
      | some j =>
        simp [hh] at h; subst h
        have := ih hh hn.2
        simp [adel, hp, List.filter_cons] at this ⊢
        exact this
theorem adel_none {k : κ} {m : List (κ × α)} (h : ∀ p ∈ m, p.1 ≠ k) : adel m k = m := List.filter_eq_self.2 (by simpa using h)
theorem aput_none {k : κ} {v : α} {m : List (κ × α)} (h : ∀ p ∈ m, p.1 ≠ k) : aput m k v = m ++ [(k, v)] := by simp [aput, any_none h]
theorem aput_keys (m : List (κ × α)) (k : κ) (v : α) : (aput m k v).map (·.1) = if (m.any fun p => p.1 = k) then m.map (·.1) else m.map (·.1) ++ [k] := by
  unfold aput
  split
  · rw [List.map_map]; refine List.map_congr_left fun p _ => ?_; simp only [Function.comp]; split <;> simp_all
  · simp
theorem aput_nodup {m : List (κ × α)} (h : (m.map (·.1)).Nodup) (k : κ) (v : α) : ((aput m k v).map (·.1)).Nodup := by
  rw [aput_keys]
  split
  · exact h
  · rename_i hk
    rw [List.nodup_append]
    refine ⟨h, by simp, ?_⟩
    intro a ha b hb
    simp at hb; subst hb
    rintro rfl
    apply hk
    simp only [List.mem_map] at ha
    obtain ⟨p, hp, rfl⟩ := ha
    simp only [List.any_eq_true]
    exact ⟨p, hp, by simp⟩
theorem adel_nodup {m : List (κ × α)} (h : (m.map (·.1)).Nodup) (k : κ) : ((adel m k).map (·.1)).Nodup := List.Nodup.sublist ((List.filter_sublist).map _) h
theorem alook_aput (m : List (κ × α)) (k j : κ) (v : α) : alook (aput m k v) j = if j = k then some v else alook m j := by
  unfold aput
  split
  · rename_i hk
    induction m with
    | nil => simp at hk
    | cons p m ih =>
      by_cases hp : p.1 = k
      · by_cases hj : j = k
        · subst hj; simp [alook, hp]
        · have hpj : ¬ p.1 = j := fun h => hj (by rw [← h, hp])
          have hkj : ¬ k = j := fun h => hj h.symm
          simp only [alook, List.map_cons, hp, if_true, List.find?_cons, decide_eq_false hkj, hj, if_false]
          simp only [← hp] 
          by_cases ha : (m.any fun p => p.1 = k) = true
          · have := ih ha; simp only [alook, hj, if_false, ← hp] at this; simpa [hpj, hj, Ne.symm hpj, fun h : j = p.1 => hpj h.symm] using this
          · have hm : ∀ q ∈ m, q.1 ≠ k := fun q hq he => ha (by simp only [List.any_eq_true]; exact ⟨q, hq, by simp [he]⟩)
            have : m.map (fun q => if q.1 = p.1 then (p.1, v) else q) = m := by
              conv => rhs; rw [← List.map_id m]
              exact List.map_congr_left fun q hq => by simp [hp, hm q hq]
            rw [this]
      · have ha : (m.any fun p => p.1 = k) = true := by simpa [hp] using hk
        have := ih ha
        by_cases hj : p.1 = j
        · subst hj; simp [alook, hp]
        · simp only [alook, List.map_cons, hp, if_false, List.find?_cons, decide_eq_false hj] at this ⊢
          exact this
  · rename_i hk
    have hm : ∀ p ∈ m, p.1 ≠ k := fun q hq he => hk (by simp only [List.any_eq_true]; exact ⟨q, hq, by simp [he]⟩)
    by_cases hj : j = k
    · subst hj
      simp only [alook, List.find?_append, if_true]
      have := alook_none hm; simp only [alook, Option.map_eq_none_iff] at this
      simp [this]
    · have hkj : ¬ k = j := fun h => hj h.symm
      simp [alook, List.find?_append, hj, hkj]
theorem alook_adel (m : List (κ × α)) (k j : κ) : alook (adel m k) j = if j = k then none else alook m j := by
  unfold adel alook
  rw [List.find?_filter]
  split
  · rename_i h; subst h
    simp only [Option.map_eq_none_iff, List.find?_eq_none]
    intro p _; simp
  · rename_i h
    congr 2
    funext p
    by_cases hp : p.1 = j <;> simp [hp, h]
end

/-! the machine's operations -/
theorem ba_beq (a b : ByteArray) : (a == b) = decide (a = b) := by
  obtain ⟨a⟩ := a; obtain ⟨b⟩ := b
  show (a == b) = _
  rw [Bool.eq_iff_iff]; simp
theorem map_eraseIdx' {α β : Type} (f : α → β) : ∀ (l : List α) (i : Nat), (l.eraseIdx i).map f = (l.map f).eraseIdx i
  | [], i => by simp
  | a :: l, 0 => by simp
  | a :: l, i + 1 => by simp [map_eraseIdx' f l i]
theorem run_checkKey {P : Program} {K : TypeId} {d : TypeDesc} (hd : P.underlying K = some d) (hp : (match d with | .int _ | .string => true | _ => false) = true) (e : Bool) (n : Nat) (v : Value) (w : World) :
    (Instr.checkKey e (n + 1) K v).run P w = .ok () w := by
  rw [Instr.checkKey]
  simp only [Sem.run_bind, run_underlying hd, Result.andThen_ok]
  cases d <;> simp at hp <;> rfl
structure KeyOK {κ : Type} [DecidableEq κ] (P : Program) (K : TypeId) (kenc : κ → Value) : Prop where
  desc : ∃ d, P.underlying K = some d ∧ ∀ a b, Instr.sameNow d (kenc a) (kenc b) = some (decide (a = b))
  chk : ∀ e a w, (Instr.checkKey e 10000 K (kenc a)).run P w = .ok () w
  bits : ∀ a, Instr.sameBits 10000 (kenc a) (kenc a) = true
theorem keyOK_int {P : Program} {K : TypeId} {ki : IntKind} (h : P.underlying K = some (.int ki)) : KeyOK P K (fun n : Int => .int .i64 n) :=
  ⟨⟨_, h, fun a b => by simp only [Instr.sameNow, if_true]; rfl⟩, fun e a w => run_checkKey h rfl e 9999 _ w, fun a => by rw [show (10000 : Nat) = 9999 + 1 from rfl]; simp [Instr.sameBits]⟩
theorem keyOK_str {P : Program} {K : TypeId} (h : P.underlying K = some .string) : KeyOK P K (fun s : ByteArray => .string s) :=
  ⟨⟨_, h, fun a b => by simp only [Instr.sameNow, ba_beq]⟩, fun e a w => run_checkKey h rfl e 9999 _ w, fun a => by rw [show (10000 : Nat) = 9999 + 1 from rfl]; simp [Instr.sameBits, ba_beq]⟩

section
variable {κ α : Type} [DecidableEq κ] {P : Program} {K : TypeId} {kenc : κ → Value} {enc : α → Value}
def mkv (kenc : κ → Value) (enc : α → Value) (m : List (κ × α)) : List (Value × Value) := m.map fun p => (kenc p.1, enc p.2)
theorem findNow_of {d : TypeDesc} (hd : ∀ a b, Instr.sameNow d (kenc a) (kenc b) = some (decide (a = b))) (k : κ) :
    ∀ (es : List MapEntry) (m : List (κ × α)) (i : Nat), es.map (fun e => (e.key, e.val)) = mkv kenc enc m →
      Instr.findNow d (kenc k) es i = some ((aidx k m i).bind fun j => (m[j - i]?).map fun p => (j, enc p.2))
  | [], m, i, h => by
    cases m with
    | nil => rfl
    | cons p m => simp [mkv] at h
  | e :: es, m, i, h => by
    cases m with
    | nil => simp [mkv] at h
    | cons p m =>
      simp only [mkv, List.map_cons, List.cons.injEq, Prod.mk.injEq] at h
      obtain ⟨⟨hk, hv⟩, ht⟩ := h
      simp only [Instr.findNow, hk, hd]
      by_cases hp : p.1 = k
      · simp [aidx, hp, hv]
      · have hp' : ¬ k = p.1 := fun h => hp h.symm
        simp only [decide_eq_false hp', aidx, hp, if_false]
        rw [findNow_of hd k es m (i + 1) ht]
        congr 1
        rw [aidx_shift]
        cases aidx k m 0 with
        | none => rfl
        | some j =>
          simp only [Option.map_some, Option.bind_some]
          rw [show j + (i + 1) - (i + 1) = j from by omega, show j + (i + 1) - i = j + 1 from by omega]
          rfl

theorem run_findKey (hk : KeyOK P K kenc) (k : κ) (es : List MapEntry) (m : List (κ × α)) (h : es.map (fun e => (e.key, e.val)) = mkv kenc enc m) (w : World) :
    (Instr.findKey K (kenc k) es).run P w = .ok ((aidx k m 0).bind fun j => (m[j]?).map fun p => (j, enc p.2)) w := by
  obtain ⟨d, hd, hs⟩ := hk.desc
  simp only [Instr.findKey, Sem.run_bind, run_underlying hd, Result.andThen_ok, findNow_of hs k es m 0 h]
  rfl

theorem run_lookup_map (T E : TypeId) (hT : P.underlying T = some (.map K E)) (hk : KeyOK P K kenc) (z : Value) (hz : ∀ w, (zeroValue E).run P w = .ok z w)
    {w : World} {r : Nat} {m : List (κ × α)} (h : MapAt w r (mkv kenc enc m)) (k : κ) (ok : Bool) :
    (Instr.lookup T (.map (some r)) (kenc k) ok).run P w = .ok (if ok then .tuple #[((alook m k).map enc).getD z, .bool (alook m k).isSome] else ((alook m k).map enc).getD z) w := by
  obtain ⟨es, cl, h1, h2, -, -⟩ := h
  have hget : (getObj r).run P w = .ok (.map es cl) w := by simp [getObj, Sem.run, h1]
  simp only [Instr.lookup, Sem.run_bind, run_underlying hT, Result.andThen_ok, hget, Sem.run_pure, hk.chk, run_findKey hk k es.toList m h2]
  cases hi : aidx k m 0 with
  | none =>
    have := alook_none (aidx_none hi)
    simp [this, hz, Sem.run_bind]
  | some i =>
    obtain ⟨v, hv, hl, -⟩ := aidx_some hi
    simp [hv, hl]

theorem run_mapUpdate_map (T E : TypeId) (hT : P.underlying T = some (.map K E)) (hk : KeyOK P K kenc)
    {w : World} {r : Nat} {m : List (κ × α)} (h : MapAt w r (mkv kenc enc m)) (hn : (m.map (·.1)).Nodup) (k : κ) (v : α) :
    ∃ es cl, (Instr.mapUpdate T (.map (some r)) (kenc k) (enc v)).run P w = .ok () (w.putOb r (.map es cl)) ∧ MapAt (w.putOb r (.map es cl)) r (mkv kenc enc (aput m k v)) := by
  obtain ⟨es, cl, h1, h2, h3, h4⟩ := h
  have hget : (getObj r).run P w = .ok (.map es cl) w := by simp [getObj, Sem.run, h1]
  have hset : ∀ o, (setObj r o).run P w = .ok () (w.putOb r o) := fun o => by simp [setObj, Sem.run, h1, World.putOb]
  simp only [Instr.mapUpdate, Sem.run_bind, run_underlying hT, Result.andThen_ok, hget, hk.chk, run_findKey hk k es.toList m h2]
  cases hi : aidx k m 0 with
  | none =>
    have hm := aidx_none hi
    refine ⟨es.push { key := kenc k, val := enc v, born := cl }, cl + 1, by simp [hset], _, _, hp_put h1, ?_, ?_, ?_⟩
    · simp [h2, aput_none hm, mkv]
    · intro e he
      simp at he
      rcases he with he | rfl
      · have := h3 e (by simpa using he); omega
      · simp
    · simp only [Array.toList_push, List.map_append, List.map_cons, List.map_nil, List.nodup_append]
      refine ⟨h4, by simp, ?_⟩
      intro x hx y hy
      simp at hy; subst hy
      obtain ⟨e, he, rfl⟩ := List.mem_map.1 hx
      have := h3 e he
      omega
  | some i =>
    obtain ⟨v0, hv, hl, -⟩ := aidx_some hi
    have hkey : (es[i]?).map (·.key) = some (kenc k) := by
      have := congrArg (fun l => l[i]?) h2
      simp [mkv, hv] at this
      obtain ⟨e, he, hh⟩ := this
      simp [he, hh.1]
    refine ⟨es.modify i fun e => { e with key := kenc k, val := enc v }, cl, ?_, _, _, hp_put h1, ?_, ?_, ?_⟩
    · simp [hv, hkey, Instr.keyThatStays, hk.bits, hset]
    · have := modify_key (v := v) hi hn
      rw [mkv, ← this]
      apply List.ext_getElem?
      intro j
      simp only [Array.toList_modify, List.getElem?_map, List.getElem?_modify]
      have hj := congrArg (fun l => l[j]?) h2
      simp only [List.getElem?_map, mkv] at hj
      by_cases hij : i = j
      · subst hij
        cases he : es.toList[i]? <;> cases hm : m[i]? <;> simp_all
      · cases he : es.toList[j]? <;> cases hm : m[j]? <;> simp_all
    · intro e he
      simp only [Array.toList_modify] at he
      obtain ⟨j, hj⟩ := List.getElem?_of_mem he
      rw [List.getElem?_modify] at hj
      cases h0 : es.toList[j]? with
      | none => simp [h0] at hj
      | some e0 =>
        have hb := h3 e0 (List.mem_of_getElem? h0)
        rw [h0] at hj
        obtain rfl := Option.some.inj hj
        split <;> simpa using hb
    · have : (es.modify i fun e => { e with key := kenc k, val := enc v }).toList.map (·.born) = es.toList.map (·.born) := by
        apply List.ext_getElem?
        intro j
        simp only [Array.toList_modify, List.getElem?_map, List.getElem?_modify]
        cases es.toList[j]? <;> simp; split <;> rfl
      rw [this]; exact h4

theorem run_delete_map (T E ty U : TypeId) (hT : P.underlying T = some (.map K E)) (hk : KeyOK P K kenc)
    {w : World} {r : Nat} {m : List (κ × α)} (h : MapAt w r (mkv kenc enc m)) (hn : (m.map (·.1)).Nodup) (k : κ) :
    ∃ es cl, (Builtin.delete_ #[T, U] ty #[.map (some r), kenc k]).run P w = .ok (.tuple #[]) (w.putOb r (.map es cl)) ∧ MapAt (w.putOb r (.map es cl)) r (mkv kenc enc (adel m k)) := by
  obtain ⟨es, cl, h1, h2, h3, h4⟩ := h
  have hget : (getObj r).run P w = .ok (.map es cl) w := by simp [getObj, Sem.run, h1]
  have hset : ∀ o, (setObj r o).run P w = .ok () (w.putOb r o) := fun o => by simp [setObj, Sem.run, h1, World.putOb]
  have hr := run_findKey hk k es.toList m h2 w
  cases hi : aidx k m 0 with
  | none =>
    rw [hi] at hr
    refine ⟨es, cl, ?_, _, _, hp_put h1, by rw [h2, adel_none (aidx_none hi)], h3, h4⟩
    simp [Builtin.delete_, run_underlying hT, hget, hk.chk, hr, hset]
  | some i =>
    obtain ⟨v0, hv, hl, -⟩ := aidx_some hi
    rw [hi] at hr
    refine ⟨es.eraseIdxIfInBounds i, cl, ?_, _, _, hp_put h1, ?_, ?_, ?_⟩
    · simp [Builtin.delete_, run_underlying hT, hget, hk.chk, hr, hset, hv]
    · rw [← erase_key hi hn, mkv]
      have : (es.eraseIdxIfInBounds i).toList = es.toList.eraseIdx i := by
        unfold Array.eraseIdxIfInBounds
        split
        · simp
        · rw [List.eraseIdx_of_length_le (by simpa using by omega)]
      rw [this, map_eraseIdx', h2, mkv, map_eraseIdx']
    · intro e he
      have : (es.eraseIdxIfInBounds i).toList = es.toList.eraseIdx i := by
        unfold Array.eraseIdxIfInBounds
        split
        · simp
        · rw [List.eraseIdx_of_length_le (by simpa using by omega)]
      rw [this] at he
      exact h3 e (List.mem_of_mem_eraseIdx he)
    · have : (es.eraseIdxIfInBounds i).toList = es.toList.eraseIdx i := by
        unfold Array.eraseIdxIfInBounds
        split
        · simp
        · rw [List.eraseIdx_of_length_le (by simpa using by omega)]
      rw [this]
      exact List.Nodup.sublist ((List.eraseIdx_sublist _ _).map _) h4
end
section
variable {κ α : Type} [DecidableEq κ] {P : Program} {K : TypeId} {kenc : κ → Value} {enc : α → Value} {ops : Array Oper} {rest : List Oper} {o : Oper} {a : Act} {Q : Exit → Act → World → Prop} {w : World}
theorem wpList_mapUpdate (hgd : o.guard = none) (T E : TypeId) (x y z : Operand) (ho : o.op = .mapUpdate T x y z) (hT : P.underlying T = some (.map K E)) (hk : KeyOK P K kenc)
    (r : Nat) (m : List (κ × α)) (k : κ) (v : α) (hx : a.eval x = .map (some r)) (hy : a.eval y = kenc k) (hz : a.eval z = enc v) (hm : MapAt w r (mkv kenc enc m)) (hn : (m.map (·.1)).Nodup)
    (h : ∀ w', Mod [r] w w' → MapAt w' r (mkv kenc enc (aput m k v)) → w'.heap.size = w.heap.size → wpList P ops Q rest (a.put o.dst undef) w') : wpList P ops Q (o :: rest) a w := by
  refine wpList_plain hgd fun K' hK => ?_
  obtain ⟨es, cl, hr, hm'⟩ := run_mapUpdate_map (P := P) T E hT hk hm hn k v
  have h' := h _ ((Mod.refl [r] w).putOb r (.map es cl) (by simp)) hm' (by simp [World.putOb])
  unfold Oper.wp execOp
  simp only [ho, hx, hy, hz, Sem.run_bind, hr, Result.andThen_ok, Sem.run_pure]
  exact hK _ _ h'
theorem wpList_delete (hgd : o.guard = none) (T U E : TypeId) (x y : Operand) (ho : o.op = .call { callee := .builtin .delete, args := #[x, y], argTypes := #[T, U] }) (hT : P.underlying T = some (.map K E)) (hk : KeyOK P K kenc)
    (r : Nat) (m : List (κ × α)) (k : κ) (hx : a.eval x = .map (some r)) (hy : a.eval y = kenc k) (hm : MapAt w r (mkv kenc enc m)) (hn : (m.map (·.1)).Nodup)
    (h : ∀ w', Mod [r] w w' → MapAt w' r (mkv kenc enc (adel m k)) → w'.heap.size = w.heap.size → wpList P ops Q rest (a.put o.dst (.tuple #[])) w') : wpList P ops Q (o :: rest) a w := by
  refine wpList_plain hgd fun K' hK => ?_
  obtain ⟨es, cl, hr, hm'⟩ := run_delete_map (P := P) (enc := enc) T E o.type U hT hk hm hn k
  have h' := h _ ((Mod.refl [r] w).putOb r (.map es cl) (by simp)) hm' (by simp [World.putOb])
  unfold Oper.wp execOp
  simp only [ho, resolve, invoke, builtin, Sem.run_bind, Sem.run_pure, Result.andThen_ok, List.map_toArray, List.map_cons, List.map_nil, hx, hy, hr]
  exact hK _ _ h'
theorem clear_map (T ty : TypeId) (E : TypeId) (hT : P.underlying T = some (.map K E)) {r : Nat} {kv : List (Value × Value)} (hm : MapAt w r kv) :
    ∃ w', (Builtin.clear_ #[T] ty #[.map (some r)]).run P w = .ok (.tuple #[]) w' ∧ Mod [r] w w' ∧ MapAt w' r [] ∧ w'.heap.size = w.heap.size := by
  obtain ⟨es, cl, h1, h2, h3, h4⟩ := hm
  have hget : (getObj r).run P w = .ok (.map es cl) w := by simp [getObj, Sem.run, h1]
  have hset : ∀ o, (setObj r o).run P w = .ok () (w.putOb r o) := fun o => by simp [setObj, Sem.run, h1, World.putOb]
  refine ⟨w.putOb r (.map #[] cl), ?_, (Mod.refl _ _).putOb _ _ (by simp), ⟨#[], cl, hp_put h1, rfl, by simp, by simp⟩, by simp [World.putOb]⟩
  simp [Builtin.clear_, run_underlying hT, hget, hset]
theorem wpList_clear (hgd : o.guard = none) (T E : TypeId) (x : Operand) (ho : o.op = .call { callee := .builtin .clear, args := #[x], argTypes := #[T] }) (hT : P.underlying T = some (.map K E))
    (r : Nat) (kv : List (Value × Value)) (hx : a.eval x = .map (some r)) (hm : MapAt w r kv)
    (h : ∀ w', Mod [r] w w' → MapAt w' r [] → w'.heap.size = w.heap.size → wpList P ops Q rest (a.put o.dst (.tuple #[])) w') : wpList P ops Q (o :: rest) a w := by
  refine wpList_plain hgd fun K' hK => ?_
  obtain ⟨w', hr, h1, h2, h3⟩ := clear_map (P := P) T o.type E hT hm
  unfold Oper.wp execOp
  simp only [ho, resolve, invoke, builtin, Sem.run_bind, Sem.run_pure, Result.andThen_ok, List.map_toArray, List.map_cons, List.map_nil, hx, hr]
  exact hK _ _ (h w' h1 h2 h3)
end
end Go.Proofs.YtoffondipgjcoaaGreatDoor

/- My words on maps: a loop over a map. -/
set_option linter.unusedVariables false
set_option maxRecDepth 100000
set_option linter.unusedSimpArgs false
namespace Go.Proofs.YtoffondipgjcoaaGreatDoor
open Go.RowKit

/-! run equations in a form that the walk's 'contradiction' doesn't look into -/
theorem all_next {P : Program} {w : World} {it : Nat} {s : Bool} {ty : TypeId} {r : Result Value} (h : (Instr.next (.pointer (some ⟨it, 0, none⟩)) s ty).run P w = r) :
    ∀ b : Nat, b = it → (Instr.next (.pointer (some ⟨b, 0, none⟩)) s ty).run P w = r := by rintro b rfl; exact h
theorem all_entry {P : Program} {w : World} {it : Nat} {r : Result Value} (h : (Instr.entry (.pointer (some ⟨it, 0, none⟩))).run P w = r) :
    ∀ b : Nat, b = it → (Instr.entry (.pointer (some ⟨b, 0, none⟩))).run P w = r := by rintro b rfl; exact h
theorem all_range {P : Program} {w : World} {T : TypeId} {m : Nat} {r : Result Value} (h : (Instr.range T (.map (some m))).run P w = r) :
    ∀ b : Nat, b = m → (Instr.range T (.map (some b))).run P w = r := by rintro b rfl; exact h
section
variable {κ α : Type} {P : Program} {kenc : κ → Value} {enc : α → Value}
/-- The iterator 'it' over the map r, which reads m: 'dn' has been handed out (in this order), 'lf' not yet. -/
def MIter (kenc : κ → Value) (enc : α → Value) (w : World) (it r : Nat) (m dn lf : List (κ × α)) : Prop :=
  ∃ (es : Array MapEntry) (cl : Nat) (el ed : List MapEntry), w.heap[it]? = some (.mapIter (some r) cl (ed.map (·.born)).toArray cl) ∧ w.heap[r]? = some (.map es cl) ∧
    es.toList.map (fun e => (e.key, e.val)) = mkv kenc enc m ∧ (∀ e ∈ es.toList, e.born < cl) ∧ (es.toList.map (·.born)).Nodup ∧
    es.toList.filter (fun e => !(ed.map (·.born)).toArray.contains e.born) = el ∧ el.map (fun e => (e.key, e.val)) = mkv kenc enc lf ∧ ed.map (fun e => (e.key, e.val)) = mkv kenc enc dn ∧
    (∀ e ∈ ed, e ∈ es.toList) ∧ (dn ++ lf).Perm m

theorem MIter.mod {w w' : World} {it r : Nat} {m dn lf : List (κ × α)} {R : List Nat} (h : MIter kenc enc w it r m dn lf) (hm : Mod R w w') (hi : it ∉ R) (hr : r ∉ R) : MIter kenc enc w' it r m dn lf := by
  obtain ⟨es, cl, el, ed, h1, h2, h3⟩ := h
  exact ⟨es, cl, el, ed, hm.at h1 hi, hm.at h2 hr, h3⟩
theorem MIter.perm {w : World} {it r : Nat} {m dn lf : List (κ × α)} (h : MIter kenc enc w it r m dn lf) : (dn ++ lf).Perm m := by
  obtain ⟨es, cl, el, ed, _, _, _, _, _, _, _, _, _, h⟩ := h
  exact h
theorem MIter.lt {w : World} {it r : Nat} {m dn lf : List (κ × α)} (h : MIter kenc enc w it r m dn lf) : it < w.heap.size ∧ r < w.heap.size ∧ it ≠ r := by
  obtain ⟨es, cl, el, ed, h1, h2, _⟩ := h
  exact ⟨lt_of_block h1, lt_of_block h2, by rintro rfl; rw [h1] at h2; simp at h2⟩
theorem MIter.map {w : World} {it r : Nat} {m dn lf : List (κ × α)} (h : MIter kenc enc w it r m dn lf) : MapAt w r (mkv kenc enc m) := by
  obtain ⟨es, cl, el, ed, h1, h2, h3, h4, h5, _⟩ := h
  exact ⟨es, cl, h2, h3, h4, h5⟩

theorem MIter.seen {w : World} {it r : Nat} {m dn lf : List (κ × α)} (h : MIter kenc enc w it r m dn lf) : (w.iterSeen it).size = dn.length ∧ dn.length + lf.length = m.length := by
  obtain ⟨es, cl, el, ed, h1, h2, h3, h4, h5, h6, h7, h8, h9, h10⟩ := h
  refine ⟨?_, by have := h10.length_eq; simpa using this⟩
  have : dn.length = ed.length := by have := congrArg List.length h8; simpa [mkv] using this.symm
  simp [World.iterSeen, h1, this]
theorem split_at {β : Type} (l : List β) (j : Nat) (h : j < l.length) : ∃ a x b, l = a ++ x :: b ∧ a.length = j := by
  refine ⟨l.take j, l[j], l.drop (j + 1), ?_, by simp; omega⟩
  rw [List.getElem_cons_drop, List.take_append_drop]
theorem run_range_any (T K E : TypeId) (hT : P.underlying T = some (.map K E)) {w : World} {r : Nat} {m : List (κ × α)} (h : MapAt w r (mkv kenc enc m)) :
    ∃ w', (Instr.range T (.map (some r))).run P w = .ok (.pointer (some ⟨w.heap.size, 0, none⟩)) w' ∧ MIter kenc enc w' w.heap.size r m [] m ∧ Mod [] w w' := by
  obtain ⟨es, cl, h1, h2, h3, h4⟩ := h
  refine ⟨_, run_range_map w T K E r es cl hT h1, ⟨es, cl, es.toList, [], hp_new _ _, hp_old h1, h2, h3, h4, ?_, h2, rfl, by simp, by simp⟩, (Mod.refl _ _).alloc _⟩
  exact List.filter_eq_self.2 (by simp)

theorem run_next_any' (ty : TypeId) {w : World} {it r : Nat} {m dn lf : List (κ × α)} (h : MIter kenc enc w it r m dn lf) :
    (lf = [] ∧ (Instr.next (.pointer (some ⟨it, 0, none⟩)) false ty).run P w = .ok (.tuple #[.bool false]) w) ∨
    ∃ p l1 l2 w', lf = l1 ++ p :: l2 ∧ (Instr.next (.pointer (some ⟨it, 0, none⟩)) false ty).run P w = .ok (.tuple #[.bool true, kenc p.1, enc p.2]) w' ∧ MIter kenc enc w' it r m (dn ++ [p]) (l1 ++ l2) ∧ Mod [it] w w' := by
  obtain ⟨es, cl, el, ed, h1, h2, h3, h4, h5, h6, h7, h8, h9, h10⟩ := h
  have hg1 : (getObj it).run P w = .ok (.mapIter (some r) cl (ed.map (·.born)).toArray cl) w := by simp [getObj, Sem.run, h1]
  have hg2 : (getObj r).run P w = .ok (.map es cl) w := by simp [getObj, Sem.run, h2]
  have htest := next_test_false (ed.map (·.born)).toArray es cl cl h4 (Nat.le_refl _)
  have hL : (Array.filter (fun e => !(ed.map (·.born)).toArray.contains e.born) es) = el.toArray := by
    apply Array.toList_inj.1; rw [Array.toList_filter]; exact h6
  have hel : ∀ x ∈ el, x ∈ es.toList ∧ x.born ∉ ed.map (·.born) := by
    intro x hx; rw [← h6] at hx; simp at hx; simpa using hx
  have e1 : el.toArray.filter (fun x => decide (x.born < cl)) = el.toArray := Array.filter_eq_self.2 (fun x hx => by simpa using h4 x (hel x (by simpa using hx)).1)
  have e2 : el.toArray.filter (fun x => decide (x.born ≥ cl)) = #[] := by
    rw [Array.filter_eq_empty_iff]
    intro x hx
    have := h4 x (hel x (by simpa using hx)).1
    simp; omega
  simp only [Instr.next, Sem.run_bind, hg1, hg2, Result.andThen_ok, htest, Bool.false_eq_true, if_false, hL, e1, e2, Array.append_empty]
  rcases Nat.eq_zero_or_pos el.length with h0 | h0
  · left
    have : el = [] := List.eq_nil_of_length_eq_zero h0
    subst this
    have : lf = [] := by cases lf with | nil => rfl | cons => simp [mkv] at h7
    refine ⟨this, ?_⟩
    simp [choose, Sem.run, Question.forced]
  · right
    have hne : el.toArray.isEmpty = false := by simp; intro h; subst h; simp at h0
    simp only [hne, Bool.false_eq_true, if_false, Array.empty_append, Array.size_map, List.size_toArray]
    have hch : ∃ (j : Nat) (w1 : World), j < el.length ∧ Mod [] w w1 ∧ w1.heap = w.heap ∧ (choose (Question.mapNext el.length)).run P w = .ok j w1 := by
      by_cases hf : el.length ≤ 1
      · exact ⟨0, w, by omega, Mod.refl _ _, rfl, by simp [choose, Sem.run, Question.forced, hf]⟩
      · exact ⟨_, w.drew, Nat.mod_lt _ (by omega), (Mod.refl _ _).drew, rfl, by
          simp only [choose, Sem.run, Question.forced, decide_eq_true_eq, hf, if_false, Question.cut]
          rfl⟩
    obtain ⟨j, w1, hj, hal, hheap, hrun⟩ := hch
    have hlen : lf.length = el.length := by have := congrArg List.length h7; simpa [mkv] using this.symm
    have hset : ∀ o', (setObj it o').run P w1 = .ok () (w1.putOb it o') := fun o' => by simp [setObj, Sem.run, hheap, h1, World.putOb]
    obtain ⟨a1, E, a2, hE, ha⟩ := split_at el j hj
    obtain ⟨b1, p, b2, hp, hb⟩ := split_at lf j (by omega)
    have h7' : (a1.map fun e => (e.key, e.val)) = mkv kenc enc b1 ∧ (E.key, E.val) = (kenc p.1, enc p.2) ∧ (a2.map fun e => (e.key, e.val)) = mkv kenc enc b2 := by
      rw [hE, hp] at h7
      simp only [List.map_append, List.map_cons, mkv] at h7
      have := List.append_inj h7 (by simp; omega)
      simpa [mkv] using this
    obtain ⟨q1, hkv, q2⟩ := h7'
    obtain ⟨hk, hv⟩ := Prod.mk.inj hkv
    have hget : el[j]? = some E := by rw [hE, ← ha]; simp
    refine ⟨p, b1, b2, w1.putOb it (.mapIter (some r) cl ((ed ++ [E]).map (·.born)).toArray cl), hp, ?_, ?_, ?_⟩
    · simp only [hrun, Array.getElem?_map, List.getElem?_toArray, hget, Option.map_some, Sem.run_bind, Result.andThen_ok, hset]
      simp only [List.push_toArray, List.map_append, List.map_cons, List.map_nil, hset, Result.andThen_ok, Sem.run_pure, hk, hv]
    · have hnd : (el.map (·.born)).Nodup := by
        rw [← h6]; exact List.Nodup.sublist ((List.filter_sublist).map _) h5
      refine ⟨es, cl, a1 ++ a2, ed ++ [E], hp_put (by rw [hheap]; exact h1), hp_put_ne (by rw [hheap]; exact h2) (by rintro rfl; rw [h1] at h2; simp at h2), h3, h4, h5, ?_, ?_, ?_, ?_, ?_⟩
      · have hf : es.toList.filter (fun e => !((ed ++ [E]).map (·.born)).toArray.contains e.born) = el.filter (fun e => e.born != E.born) := by
          rw [← h6, List.filter_filter]
          apply List.filter_congr
          intro x hx
          have hc : ((ed ++ [E]).map (·.born)).toArray.contains x.born = ((ed.map (·.born)).toArray.contains x.born || x.born == E.born) := by
            rw [Bool.eq_iff_iff]; simp
          rw [hc]
          simp only [bne]
          cases (ed.map (·.born)).toArray.contains x.born <;> cases (x.born == E.born) <;> rfl
        rw [hf]
        rw [hE, List.map_append, List.map_cons, List.nodup_append] at hnd
        obtain ⟨n1, n2, n3⟩ := hnd
        have hb1 : ∀ x ∈ a1, (x.born != E.born) = true := fun x hx => by
          simp only [bne_iff_ne, ne_eq]
          exact n3 _ (List.mem_map_of_mem hx) _ (by simp)
        have hb2 : ∀ x ∈ a2, (x.born != E.born) = true := fun x hx => by
          simp only [bne_iff_ne, ne_eq]
          intro he
          exact (List.nodup_cons.1 n2).1 (he ▸ List.mem_map_of_mem hx)
        rw [hE, List.filter_append, List.filter_cons_of_neg (by simp), List.filter_eq_self.2 hb1, List.filter_eq_self.2 hb2]
      · simp only [List.map_append, q1, q2, mkv]
      · simp only [List.map_append, List.map_cons, List.map_nil, h8, mkv, hkv]
      · intro e he
        rcases List.mem_append.1 he with he | he
        · exact h9 e he
        · simp at he; subst he; exact (hel _ (by rw [hE]; simp)).1
      · refine List.Perm.trans ?_ h10
        rw [List.append_assoc, hp]
        exact List.Perm.append_left _ (by simpa using List.perm_middle.symm)
    · exact (hal.mono (by simp)).putOb _ _ (by simp)

theorem run_entry_any {w : World} {it r : Nat} {m dn lf : List (κ × α)} {p : κ × α} (h : MIter kenc enc w it r m (dn ++ [p]) lf) :
    (Instr.entry (.pointer (some ⟨it, 0, none⟩))).run P w = .ok (.tuple #[kenc p.1, enc p.2]) w := by
  obtain ⟨es, cl, el, ed, h1, h2, h3, h4, h5, h6, h7, h8, h9, h10⟩ := h
  have hed : ∃ ed' e, ed = ed' ++ [e] := by
    rcases List.eq_nil_or_concat ed with rfl | ⟨l, e, rfl⟩
    · simp [mkv] at h8
    · exact ⟨l, e, by simp⟩
  obtain ⟨ed', e, rfl⟩ := hed
  simp only [List.map_append, List.map_cons, List.map_nil, mkv] at h8
  have hh := (List.append_inj' h8 rfl).2
  simp at hh
  have he := h9 e (by simp)
  have hg1 : (getObj it).run P w = .ok (.mapIter (some r) cl ((ed' ++ [e]).map (·.born)).toArray cl) w := by simp [getObj, Sem.run, h1]
  have hg2 : (getObj r).run P w = .ok (.map es cl) w := by simp [getObj, Sem.run, h2]
  have hb : ((ed' ++ [e]).map (·.born)).toArray.back? = some e.born := by simp
  have hf : es.find? (·.born == e.born) = some e := by rw [← Array.find?_toList]; exact find_born e es.toList h5 he
  simp only [Instr.entry, Sem.run_bind, hg1, Result.andThen_ok, hb, hg2, bne_self_eq_false, Bool.false_eq_true, if_false, hf, Sem.run_pure, hh.1, hh.2]
end
end Go.Proofs.YtoffondipgjcoaaGreatDoor
