/- Part 22 of 27 of the contracts below the law: each theorem states, of one function of the program, at a world of the form that its premises name, what the call answers and what it leaves. -/
import Derived.Test.YtoffondipgjcoaaGreatDoorP19
import Derived.StringKeys
/- slices.Sorted(maps.Keys(m)) of a map with string keys told as sorted pairs. -/
set_option linter.unusedVariables false
set_option maxRecDepth 100000
set_option linter.unusedSimpArgs false
namespace Go.Proofs.YtoffondipgjcoaaGreatDoor
open Go.RowKit Go.Maps Go.Sort Go.Shelf

theorem lt_blt : ∀ a b : List UInt8, a < b ↔ blt a b = true
  | [], [] => by simp [blt]
  | [], _ :: _ => by simp [blt]
  | _ :: _, [] => by simp [blt]
  | a :: l, b :: m => by
    rw [List.cons_lt_cons_iff, lt_blt l m]
    simp only [blt, UInt8.lt_iff_toNat_lt, ← UInt8.toNat_inj]
    split
    · simp [*]
    · split
      · simp [*]
      · simp [*]
theorem le_blt (a b : List UInt8) : decide (a ≤ b) = !blt b a := by
  rw [← Bool.not_eq_eq_eq_not, Bool.eq_iff_iff]
  simp only [Bool.not_eq_true', decide_eq_false_iff_not, List.not_le, lt_blt]
def strE : List UInt8 → Value := fun s => .string (str s)
theorem sortedS_c {α : Type} {enc : α → Value} (r B : Nat) (m : List (List UInt8 × α)) (w : World) (h : MapP strE enc w r m) (hs : Srt blt m) (hb : ∀ p ∈ m, p.1.length ≤ 1000000) (hl : m.length ≤ 1000000) (hB : w.cell? ⟨B, 0, none⟩ = some (.map (some r))) (hBl : B < w.heap.size) :
    Calls Tryz.prog 51 #[.func (.func 106) #[] #[.pointer (some ⟨B, 0, none⟩)]] w fun e w' => ∃ v, e = .returned v ∧ w'.ownsRow w.heap.size 9 1 v m.length ((m.map (·.1)).map strE) ∧ Mod [] w w' := by
  obtain ⟨kv, h1, h2, h3⟩ := h
  have hlen : kv.length = m.length := h2.length_eq
  obtain ⟨es, hown, hperm⟩ := owns_of (P := Tryz.prog) (k := 9) (fun s : List UInt8 => Lit.string s) h1 h3 (fun a b h => str_inj (by simpa [strE] using h)) (fun p hp => by
    have := hb p (h2.mem_iff.1 hp)
    exact Go.WideMaps.keyOf_string_mk Tryz.underlying9 (by rw [str_size]; simp only [maxLen]; omega)) (by rw [hlen]; simp only [maxLen]; omega)
  have hsz : Maps.size (DataW.map es) = m.length := by rw [size_eq]; have := hperm.length_eq; simpa [hlen] using this
  have hkeys : (strKeys (DataW.map es)).Perm (m.map (·.1)) := by
    have h5 := hperm.map strOf
    rw [List.map_map, List.map_map] at h5
    refine h5.trans ?_
    exact h2.map _
  refine (callsIn_wide (n := 5)).1 ?_
  have hseq : SeqGives Fence.wide 2 Tryz.prog 106 #[.pointer (some ⟨B, 0, none⟩)] encStr (fun ss => ss.Perm (strKeys (DataW.map es))) (Maps.size (DataW.map es)) w :=
    AnyZ.keys_gives (ρ := Tryz.keysS_ren) { Tryz.keysS with } Fence.wide _ trivial rfl (by omega) B r kv.length _ w hBl hB hown
  have cS := AnyZ.sorted_in Tryz.sortedS Fence.wide 5 trivial trivial trivial trivial rfl (by omega) (sortsS_c _) (enters_of Tryz.func105 (by kernel_rfl) rfl) 106 #[.pointer (some ⟨B, 0, none⟩)] trivial (enters_of Tryz.func106 (by kernel_rfl) rfl) _ _ (by rw [hsz]; simp only [maxLen]; omega) (by rw [hsz]; omega) w hseq
  refine CallsIn.mono cS ?_
  rintro e w' ⟨v, ss, rfl, hS, hrow, -, hbl⟩
  have hss : ss.Perm (m.map (·.1)) := hS.trans hkeys
  have hsrt : (m.map (·.1)).Pairwise fun a b => decide (a ≤ b) = true := by
    rw [List.pairwise_map]
    exact hs.imp fun {a b} h => by
      rw [le_blt]
      cases hq : blt b.1 a.1 with
      | false => rfl
      | true => have := blt_tr _ _ _ h hq; rw [blt_irr] at this; cases this
  rw [msort_eq _ (fun a b c h1 h2 => by
      rw [le_blt] at *
      cases hq : blt c a with
      | false => rfl
      | true =>
        by_cases hbc : b = c
        · subst hbc; rw [hq] at h1; cases h1
        · have h3 := blt_tot c b (fun e => hbc e.symm) (by simpa using h2)
          have := blt_tr _ _ _ h3 hq
          rw [this] at h1; cases h1) (fun a b => by
      rw [le_blt, le_blt]
      cases hq : blt b a with
      | false => rfl
      | true => cases hq2 : blt a b with
        | false => rfl
        | true => have := blt_tr _ _ _ hq hq2; rw [blt_irr] at this; cases this) (fun a b h1 h2 => by
      rw [le_blt] at *
      by_cases hab : a = b
      · exact hab
      · have := blt_tot b a (fun e => hab e.symm) (by simpa using h1)
        rw [this] at h2; cases h2) hss hsrt, hss.length_eq, List.length_map] at hrow
  exact ⟨v, rfl, hrow, Mod.ofBelow hbl⟩
end Go.Proofs.YtoffondipgjcoaaGreatDoor
