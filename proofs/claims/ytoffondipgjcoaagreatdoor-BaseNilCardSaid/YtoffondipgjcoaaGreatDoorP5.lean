/- Part 5 of 27 of the contracts below the law: each theorem states, of one function of the program, at a world of the form that its premises name, what the call answers and what it leaves. -/
import Derived.Test.YtoffondipgjcoaaGreatDoorP1
/- Slices that are read; slices.IndexFunc, ContainsFunc. -/
set_option linter.unusedVariables false
set_option maxRecDepth 100000
set_option linter.unusedSimpArgs false
namespace Go.Proofs.YtoffondipgjcoaaGreatDoor
open Go.RowKit

/-- The slice (ao, n, c) reads as these cells, k an element. -/
structure RdS (w : World) (k : Nat) (ao : Option Addr) (n : Nat) (cs : List Value) : Prop where
  len : cs.length = n * k
  big : n ≤ 140737488355328
  cell : 0 < n → ∃ b off, ao = some ⟨b, off, none⟩ ∧ ∀ j, j < n * k → w.cell? ⟨b, off + j, none⟩ = cs[j]?
theorem cell_mod {w w' : World} {R : List Nat} (h : Mod R w w') {b o : Nat} {v : Value} (hc : w.cell? ⟨b, o, none⟩ = some v) (hb : b ∉ R) : w'.cell? ⟨b, o, none⟩ = some v :=
  (World.cell?_of_block (w := w) (a := ⟨b, o, none⟩) (h.block b (World.block_lt_of_cell? w _ hc) hb)).trans hc
theorem RdS.mod {w w' : World} {k : Nat} {ao : Option Addr} {n : Nat} {cs : List Value} {R : List Nat} (h : RdS w k ao n cs) (hm : Mod R w w') (hr : ∀ b off, ao = some ⟨b, off, none⟩ → b ∉ R) : RdS w' k ao n cs :=
  ⟨h.len, h.big, fun hn => by
    obtain ⟨b, off, rfl, hc⟩ := h.cell hn
    refine ⟨b, off, rfl, fun j hj => ?_⟩
    have h1 := hc j hj
    have hjl : j < cs.length := by rw [h.len]; exact hj
    rw [List.getElem?_eq_getElem hjl] at h1 ⊢
    exact cell_mod hm h1 (hr b off rfl)⟩
theorem RdS.ofOwn {w : World} {B e k n : Nat} {v : Value} {cs : List Value} (h : w.ownsRow B e k v n cs) (hb : n ≤ 140737488355328) : ∃ ao c, v = .slice ao n c ∧ RdS w k ao n cs ∧ (∀ b off, ao = some ⟨b, off, none⟩ → v.ownBlock = some b) := by
  obtain ⟨hl, h2⟩ := h
  rcases h2 with ⟨rfl, rfl⟩ | ⟨g, cap, cur, rfl, hbg, hh, h1, h2, h3, h4⟩
  · exact ⟨none, 0, rfl, ⟨hl, hb, fun h => absurd h (by omega)⟩, by simp⟩
  · refine ⟨_, cap, rfl, ⟨hl, hb, fun _ => ⟨g, 0, rfl, fun j hj => ?_⟩⟩, by simp [Value.ownBlock]⟩
    rw [(cells_of hh).1, Nat.zero_add, ← h4, List.getElem?_take, if_pos hj]
    simp
section
variable {α : Type} {ec : α → List Value}
theorem flat_at (k : Nat) (hk : ∀ x, (ec x).length = k) : ∀ (xs : List α) (i : Nat) (x : α), xs[i]? = some x → ∀ j, j < k → (xs.flatMap ec)[i * k + j]? = (ec x)[j]?
  | [], i, x, h, j, hj => by simp at h
  | y :: ys, 0, x, h, j, hj => by
    simp at h; subst h
    rw [List.flatMap_cons, Nat.zero_mul, Nat.zero_add, List.getElem?_append_left (by rw [hk]; exact hj)]
  | y :: ys, i + 1, x, h, j, hj => by
    rw [List.flatMap_cons, List.getElem?_append_right (by rw [hk, Nat.add_mul]; omega), ← flat_at k hk ys i x (by simpa using h) j hj]
    congr 1
    rw [hk, Nat.add_mul]; omega
theorem flat_length (k : Nat) (hk : ∀ x, (ec x).length = k) (xs : List α) : (xs.flatMap ec).length = xs.length * k := by
  induction xs with
  | nil => simp
  | cons x xs ih => rw [List.flatMap_cons, List.length_append, ih, hk, List.length_cons, Nat.add_mul]; omega
/-- the cells of element i -/
theorem RdS.at {w : World} {k : Nat} {ao : Option Addr} {xs : List α} (h : RdS w k ao xs.length (xs.flatMap ec)) (hk : ∀ x, (ec x).length = k) {i : Nat} {x : α} (hx : xs[i]? = some x) :
    ∃ b off, ao = some ⟨b, off, none⟩ ∧ ∀ j, j < k → w.cell? ⟨b, off + i * k + j, none⟩ = (ec x)[j]? := by
  have hi := (List.getElem?_eq_some_iff.1 hx).1
  obtain ⟨b, off, rfl, hc⟩ := h.cell (by omega)
  refine ⟨b, off, rfl, fun j hj => ?_⟩
  have h1 : i * k + j < xs.length * k := by
    have : (i + 1) * k ≤ xs.length * k := Nat.mul_le_mul_right k (by omega)
    rw [Nat.add_mul] at this; omega
  rw [Nat.add_assoc, hc _ h1, flat_at k hk xs i x hx j hj]
end
def strc (s : ByteArray) : List Value := [.string s]
def intc (n : Int) : List Value := [.int .i64 n]
def idxI (o : Option Nat) : Int := match o with | some i => i | none => -1
theorem idx_step {α : Type} (p : α → Bool) (xs : List α) (j : Nat) (hj : j < xs.length) (h : ∀ i, i < j → ∀ x, xs[i]? = some x → p x = false) (hp : p xs[j] = true) : xs.findIdx? p = some j := by
  rw [List.findIdx?_eq_some_iff_getElem]
  exact ⟨hj, hp, fun i hi => by simpa using h i hi _ (List.getElem?_eq_getElem (by omega))⟩
theorem idx_none {α : Type} (p : α → Bool) (xs : List α) (h : ∀ i, i < xs.length → ∀ x, xs[i]? = some x → p x = false) : xs.findIdx? p = none := by
  rw [List.findIdx?_eq_none_iff]
  intro x hx
  obtain ⟨i, hi⟩ := List.getElem?_of_mem hx
  exact h i (List.getElem?_eq_some_iff.1 hi).1 x hi
theorem idx_any {α : Type} (p : α → Bool) (xs : List α) : decide (0 ≤ idxI (xs.findIdx? p)) = xs.any p := by
  cases h : xs.findIdx? p with
  | none => rw [List.findIdx?_eq_none_iff] at h; simp [idxI]; simpa using h
  | some i =>
    obtain ⟨hi, hp, _⟩ := List.findIdx?_eq_some_iff_getElem.1 h
    have h1 : decide (0 ≤ idxI (some i)) = true := by simp [idxI]
    rw [h1]
    exact (List.any_eq_true.2 ⟨_, List.getElem_mem hi, hp⟩).symm

set_option maxHeartbeats 1000000 in
theorem IndexFunc_str (g : Nat) (eg : ∀ args w, (callFunc g args).run Tryz.prog w = .ok (.enter g args) w) (p : ByteArray → Bool) (ao : Option Addr) (c : Nat) (xs : List ByteArray) (w : World) (h : RdS w 1 ao xs.length (xs.flatMap strc))
    (hp : ∀ x ∈ xs, ∀ w', Calls Tryz.prog g #[.string x] w' fun e w'' => e = .returned (.bool (p x)) ∧ Mod [] w' w'') :
    Calls Tryz.prog 263 #[.slice ao xs.length c, .func (.func g) #[] #[]] w fun e w' => e = .returned (.int .i64 (idxI (xs.findIdx? p))) ∧ Mod [] w w' := by
  have hbig := h.big
  have H := Lib.hid h
  have HP := Lib.hid hp
  clear h hp
  go_enter Tryz.func263, Tryz.ntmps263
  go_wp2
  go_loopw [8] (fun i wr => ∃ j : Nat, j ≤ xs.length ∧ i = .int .i64 j ∧ (∀ i, i < j → ∀ x, xs[i]? = some x → p x = false) ∧ Mod [] w wr) (fun i _ => xs.length - (intOf i).toNat)
  case atStart => exact ⟨0, Nat.zero_le _, rfl, by simp, Mod.refl _ _⟩
  case round =>
    obtain ⟨j, hj, rfl, hno, hm⟩ := hrel
    have HN := Lib.hid hno
    have HM := Lib.hid hm
    by_cases hlt : j < xs.length
    · obtain ⟨b, off, rfl, hc⟩ := (H.out.mod hm (by simp)).at (fun x => rfl) (List.getElem?_eq_getElem hlt)
      have hc0 := hc 0 (by omega)
      simp only [Nat.mul_one, Nat.add_zero, strc, List.getElem?_cons_zero] at hc0
      clear hno hm hc
      go_wp2_with fail
      refine (HP.out _ (List.getElem_mem hlt) _).mono ?_
      rintro e w1 ⟨rfl, hm1⟩
      have HM1 := Lib.hid hm1
      clear hm1
      cases hpx : p xs[j]
      · go_wp2_with fail
        go_roundw
        case rel =>
          refine ⟨j + 1, by omega, by go_num, ?_, HM.out.trans HM1.out (by simp)⟩
          intro i hi x hx
          rcases Nat.lt_or_ge i j with h1 | h1
          · exact HN.out i h1 x hx
          · have : i = j := by omega
            subst this
            rw [List.getElem?_eq_getElem hlt] at hx; cases hx; exact hpx
        case measure => simp [intOf]; omega
      · go_wp2_with fail
        go_ret
        exact ⟨ret_int (by rw [idx_step p xs j hlt HN.out hpx]; rfl), HM.out.trans HM1.out (by simp)⟩
    · clear hno hm
      go_wp2_with fail
      go_ret
      have : j = xs.length := by omega
      subst this
      exact ⟨ret_int (by rw [idx_none p xs HN.out]; rfl), HM.out⟩
theorem ContainsFunc_str (g : Nat) (eg : ∀ args w, (callFunc g args).run Tryz.prog w = .ok (.enter g args) w) (p : ByteArray → Bool) (ao : Option Addr) (c : Nat) (xs : List ByteArray) (w : World) (h : RdS w 1 ao xs.length (xs.flatMap strc))
    (hp : ∀ x ∈ xs, ∀ w', Calls Tryz.prog g #[.string x] w' fun e w'' => e = .returned (.bool (p x)) ∧ Mod [] w' w'') :
    Calls Tryz.prog 214 #[.slice ao xs.length c, .func (.func g) #[] #[]] w fun e w' => e = .returned (.bool (xs.any p)) ∧ Mod [] w w' := by
  have H := Lib.hid h
  have HP := Lib.hid hp
  clear h hp
  go_enter Tryz.func214, Tryz.ntmps214
  go_wp2_with fail
  refine (IndexFunc_str g eg p ao c xs w H.out HP.out).mono ?_
  rintro e w1 ⟨rfl, hm1⟩
  have HM1 := Lib.hid hm1
  clear hm1
  generalize hI : idxI (xs.findIdx? p) = I
  have HI := Lib.hid hI; clear hI
  go_wp2_with fail
  go_ret
  refine ⟨ret_bool ?_, HM1.out⟩
  have := idx_any p xs
  rw [HI.out] at this
  exact this
end Go.Proofs.YtoffondipgjcoaaGreatDoor
