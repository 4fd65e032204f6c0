/- Part 19 of 27 of the contracts below the law: each theorem states, of one function of the program, at a world of the form that its premises name, what the call answers and what it leaves. -/
import Derived.Test.YtoffondipgjcoaaGreatDoorP11
import Derived.Test.YtoffondipgjcoaaGreatDoorSorts
import Derived.Laws.Externs
import Derived.MapKept
import Derived.CallsIn
/- slices.Sorted(maps.Keys(m)) of a map told as sorted pairs; maps.Clone. -/
set_option linter.unusedVariables false
set_option maxRecDepth 100000
set_option linter.unusedSimpArgs false
namespace Go.Proofs.YtoffondipgjcoaaGreatDoor
open Go.RowKit Go.Maps Go.Sort Go.Shelf

theorem insert_perm {H : Type} (x : Lit × DataW H) : ∀ l, (DataW.insert x l).Perm (x :: l)
  | [] => .refl _
  | y :: r => by
    unfold DataW.insert
    split
    · exact .refl _
    · exact ((insert_perm x r).cons y).trans (List.Perm.swap x y r)
theorem foldr_insert_perm {H : Type} : ∀ l : List (Lit × DataW H), (l.foldr DataW.insert []).Perm l
  | [] => .refl _
  | x :: l => (insert_perm x _).trans ((foldr_insert_perm l).cons x)
def anyR : Value → Option (DataW Unit × List MemPlace) := fun _ => some (.nil, [])
theorem nodup_inj {α β : Type} (f : α → β) (hf : ∀ a b, f a = f b → a = b) {l : List α} (h : l.Nodup) : (l.map f).Nodup := by
  unfold List.Nodup at *
  rw [List.pairwise_map]
  exact h.imp fun hne he => hne (hf _ _ he)
theorem owns_of {κ α : Type} {P : Program} {k : TypeId} {kenc : κ → Value} {enc : α → Value} (kl : κ → Lit) {w : World} {r : Nat} {kv : List (κ × α)} (h : MapAt w r (mkv kenc enc kv)) (hn : (kv.map (·.1)).Nodup)
    (hinj : ∀ a b, kenc a = kenc b → a = b) (hkey : ∀ p ∈ kv, keyOf P k (kenc p.1) = some (kl p.1)) (hl : kv.length ≤ maxLen) :
    ∃ es : List (Lit × DataW Unit), w.ownsMap P k anyR r kv.length (.map es) ∧ (es.map (·.1)).Perm (kv.map fun p => kl p.1) := by
  obtain ⟨es, cl, h1, h2, h3, h4⟩ := h
  have hlen : es.size = kv.length := by have := congrArg List.length h2; simpa [mkv] using this
  have hk : es.toList.map (·.key) = kv.map fun p => kenc p.1 := by
    have := congrArg (List.map (·.1)) h2
    rw [List.map_map, mkv, List.map_map] at this
    exact this
  have hrd : ∀ x ∈ es.toList, ∃ p ∈ kv, x.key = kenc p.1 := by
    intro x hx
    have : x.key ∈ es.toList.map (·.key) := List.mem_map_of_mem hx
    rw [hk] at this
    obtain ⟨p, hp, he⟩ := List.mem_map.1 this
    exact ⟨p, hp, he.symm⟩
  have hrg : ∀ x ∈ es.toList, ∀ p ∈ kv, x.key = kenc p.1 → WideElems.rd P k anyR x = some (kl p.1, .nil) := by
    intro x hx p hp he
    simp [WideElems.rd, he, hkey p hp, anyR]
  refine ⟨(es.toList.map (WideElems.rg P k anyR)).foldr DataW.insert [], ⟨es, cl, h1, ⟨by omega, ⟨h3, h4, ?_⟩, ?_⟩, by omega, rfl⟩, ?_⟩
  · rw [hk]
    have : (kv.map fun p => kenc p.1) = (kv.map (·.1)).map kenc := by rw [List.map_map]; rfl
    rw [this]
    exact nodup_inj kenc hinj hn
  · intro x hx
    obtain ⟨p, hp, he⟩ := hrd x hx
    exact ⟨_, hrg x hx p hp he⟩
  · refine ((foldr_insert_perm _).map _).trans ?_
    rw [List.map_map]
    have h5 : ∀ (es : List MapEntry) (kv : List (κ × α)), es.map (·.key) = kv.map (fun p => kenc p.1) → (∀ x ∈ es, ∀ p ∈ kv, x.key = kenc p.1 → WideElems.rd P k anyR x = some (kl p.1, .nil)) →
        es.map ((fun x => x.1) ∘ WideElems.rg P k anyR) = kv.map fun p => kl p.1 := by
      intro es
      induction es with
      | nil => intro kv h _; cases kv with
        | nil => rfl
        | cons p kv => simp at h
      | cons e es ih =>
        intro kv h hr
        cases kv with
        | nil => simp at h
        | cons p kv =>
          simp only [List.map_cons, List.cons.injEq] at h ⊢
          refine ⟨?_, ih kv h.2 (fun x hx q hq => hr x (by simp [hx]) q (by simp [hq]))⟩
          have := hr e (by simp) p (by simp) h.1
          simp [WideElems.rg, this]
    rw [h5 es.toList kv hk hrg]
theorem sortsI_c (m : Nat) : AnyZI.SortsIn Tryz.prog Tryz.sortedI_ren Fence.wide m :=
  ⟨fun blk off cap ss W hH hblk hsz => callsIn_wide.2 (AnyM.slices_Sort_int Tryz.sortI blk off cap ss W hH hblk hsz),
   fun p cap W => callsIn_wide.2 (AnyM.slices_Sort_int_none Tryz.sortI p cap W)⟩
theorem sortsS_c (m : Nat) : AnyZ.SortsIn Tryz.prog Tryz.sortedS_ren Fence.wide m :=
  ⟨fun blk off cap ss W hH hblk hsz => callsIn_wide.2 (AnyM.slices_Sort_string Tryz.sortS blk off cap ss W hH hblk hsz),
   fun p cap W => callsIn_wide.2 (AnyM.slices_Sort_string_none Tryz.sortS p cap W)⟩
theorem keysI_c (mb : Option Nat) (w : World) :
    Calls Tryz.prog 156 #[.map mb] w fun e w' => e = .returned (.func (.func 200) #[] #[.pointer (some ⟨w.heap.size, 0, none⟩)]) ∧ w' = w.alloc (.cells #[.map mb] 130) :=
  (callsIn_wide (n := 6)).1 (AnyZI.keys_in Tryz.keysI Fence.wide 6 trivial rfl mb w)
theorem keysS_c (mb : Option Nat) (w : World) :
    Calls Tryz.prog 52 #[.map mb] w fun e w' => e = .returned (.func (.func 106) #[] #[.pointer (some ⟨w.heap.size, 0, none⟩)]) ∧ w' = w.alloc (.cells #[.map mb] 76) :=
  (callsIn_wide (n := 6)).1 (AnyZ.keys_in Tryz.keysS Fence.wide 6 trivial rfl mb w)
theorem msort_eq {α : Type} (le : α → α → Bool) (htr : ∀ a b c, le a b = true → le b c = true → le a c = true) (htot : ∀ a b, (le a b || le b a) = true) (hanti : ∀ a b, le a b = true → le b a = true → a = b)
    {ss l : List α} (hp : ss.Perm l) (hl : l.Pairwise fun a b => le a b = true) : ss.mergeSort le = l :=
  ((List.mergeSort_perm ss le).trans hp).eq_of_pairwise (fun a b _ _ h1 h2 => hanti a b h1 h2) (List.pairwise_mergeSort htr htot ss) hl
set_option maxHeartbeats 1000000 in
theorem sortedI_c {α : Type} {enc : α → Value} (r B : Nat) (m : List (Int × α)) (w : World) (h : MapP intK enc w r m) (hs : Srt ilt m) (hb : ∀ p ∈ m, 0 ≤ p.1 ∧ p.1 ≤ 1000000) (hl : m.length ≤ 1000000) (hB : w.cell? ⟨B, 0, none⟩ = some (.map (some r))) (hBl : B < w.heap.size) :
    Calls Tryz.prog 118 #[.func (.func 200) #[] #[.pointer (some ⟨B, 0, none⟩)]] w fun e w' => ∃ v, e = .returned v ∧ w'.ownsRow w.heap.size 3 1 v m.length ((m.map (·.1)).map fun n => .int .i64 n) ∧ Mod [] w w' := by
  obtain ⟨kv, h1, h2, h3⟩ := h
  have hlen : kv.length = m.length := h2.length_eq
  obtain ⟨es, hown, hperm⟩ := owns_of (P := Tryz.prog) (k := 3) (fun n : Int => Lit.int .i64 n) h1 h3 (fun a b h => by simpa [intK] using h) (fun p hp => by
    have := hb p (h2.mem_iff.1 hp)
    exact keyOf_int_mk Tryz.underlying3 (by simp [Lit.wf, IntKind.min, IntKind.max, IntKind.bits, IntKind.signed]; omega)) (by rw [hlen]; simp only [maxLen]; omega)
  have hsz : Maps.size (DataW.map es) = m.length := by rw [size_eq]; have := hperm.length_eq; simpa [hlen] using this
  have hkeys : (intKeys (DataW.map es)).Perm (m.map (·.1)) := by
    have h5 := hperm.map Go.intOf
    rw [List.map_map, List.map_map] at h5
    refine h5.trans ?_
    exact h2.map _
  refine (callsIn_wide (n := 5)).1 ?_
  have hseq : SeqGives Fence.wide 2 Tryz.prog 200 #[.pointer (some ⟨B, 0, none⟩)] encZ (fun ss => ss.Perm (intKeys (DataW.map es))) (Maps.size (DataW.map es)) w :=
    AnyZI.keys_gives (ρ := Tryz.keysI_ren) { Tryz.keysI with } Fence.wide _ trivial rfl (by omega) B r kv.length _ w hBl hB hown
  have cS := AnyZI.sorted_in Tryz.sortedI Fence.wide 5 trivial trivial trivial trivial rfl (by omega) (sortsI_c _) (enters_of Tryz.func163 (by kernel_rfl) rfl) 200 #[.pointer (some ⟨B, 0, none⟩)] trivial (enters_of Tryz.func200 (by kernel_rfl) rfl) _ _ (by rw [hsz]; simp only [maxLen]; omega) (by rw [hsz]; omega) w hseq
  refine CallsIn.mono cS ?_
  rintro e w' ⟨v, ss, rfl, hS, hrow, -, hbl⟩
  have hss : ss.Perm (m.map (·.1)) := hS.trans hkeys
  have hsrt : (m.map (·.1)).Pairwise fun a b => decide (a ≤ b) = true := by
    rw [List.pairwise_map]
    exact hs.imp fun h => by simp [ilt] at h ⊢; omega
  rw [msort_eq _ (by simp; omega) (by simp; omega) (by simp; omega) hss hsrt, hss.length_eq, List.length_map] at hrow
  exact ⟨v, rfl, hrow, Mod.ofBelow hbl⟩
end Go.Proofs.YtoffondipgjcoaaGreatDoor
