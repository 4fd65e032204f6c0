/- Part 10 of 27 of the contracts below the law: each theorem states, of one function of the program, at a world of the form that its premises name, what the call answers and what it leaves. -/
import Derived.Test.YtoffondipgjcoaaGreatDoorP9
import Derived.Test.YtoffondipgjcoaaGreatDoorP4
/- The contracts of package pager: deeds. -/
set_option linter.unusedVariables false
set_option maxRecDepth 100000
set_option linter.unusedSimpArgs false
namespace Go.Proofs.YtoffondipgjcoaaGreatDoor
open Go.RowKit

inductive Deed where
  | wr (i : Nat) (s : List UInt8)
  | sync
def Deed.run : Deed → Dev → Int × Dev
  | .wr i s, D => D.write i (str s)
  | .sync, D => D.sync
def Deed.ok (n : Nat) : Deed → Prop
  | .wr i s => i < n ∧ s.length ≤ 64
  | .sync => True
def runDeeds : List Deed → Dev → Int × Dev
  | [], D => (0, D)
  | x :: l, D => if (x.run D).1 ≠ 0 then x.run D else runDeeds l (x.run D).2
abbrev pt (b : Nat) : Value := .pointer (some ⟨b, 0, none⟩)
/-- The value is that step, of the pager p on the device d. -/
def DeedAt (w : World) (p d : Nat) (A : Nat → Prop) : Deed → Value → Prop
  | .wr i s, v => ∃ x y z, v = .func (.func 265) #[] #[pt x, pt y, pt z] ∧ w.heap[x]? = some (.cells #[pt p] 119 (0, 0)) ∧
      w.heap[y]? = some (.cells #[.int .i64 (i : Int)] 3 (0, 0)) ∧ w.heap[z]? = some (.cells #[.string (str s)] 9 (0, 0)) ∧ A x ∧ A y ∧ A z
  | .sync, v => v = .func (.func 171) #[pt d] #[]
theorem DevR.blocks {w : World} {d sb ub : Nat} {D : Dev} (h : DevR w d sb ub D) {b : Nat} {cs : Array Value} {T : TypeId} {f : Nat × Nat} (hb : w.heap[b]? = some (.cells cs T f)) (h1 : T ≠ 113) (h2 : T ≠ 117) : b ∉ [d, sb, ub] := by
  intro hm
  simp only [List.mem_cons, List.not_mem_nil, or_false] at hm
  rcases hm with rfl | rfl | rfl
  · rw [h.at_] at hb; simp at hb; exact h1 hb.2.1.symm
  · rw [h.sure] at hb; simp at hb; exact h2 hb.2.1.symm
  · obtain ⟨es, cl, hu, _⟩ := h.unsure; rw [hu] at hb; simp at hb
abbrev boxT (T : TypeId) : Prop := T = 119 ∨ T = 3 ∨ T = 9
theorem boxT.ne {T : TypeId} (h : boxT T) : T ≠ 113 ∧ T ≠ 117 ∧ T ≠ 291 := by
  rcases h with rfl | rfl | rfl <;> decide
theorem DeedAt.mod {w w' : World} {p d : Nat} {A : Nat → Prop} {x : Deed} {v : Value} {R : List Nat} (h : DeedAt w p d A x v) (hm : Mod R w w')
    (hR : ∀ b cs T f, w.heap[b]? = some (.cells cs T f) → boxT T → A b → b ∉ R) : DeedAt w' p d A x v := by
  cases x with
  | sync => exact h
  | wr i s =>
    obtain ⟨x, y, z, hv, h1, h2, h3, a1, a2, a3⟩ := h
    exact ⟨x, y, z, hv, hm.at h1 (hR _ _ _ _ h1 (.inl rfl) a1), hm.at h2 (hR _ _ _ _ h2 (.inr (.inl rfl)) a2), hm.at h3 (hR _ _ _ _ h3 (.inr (.inr rfl)) a3), a1, a2, a3⟩
theorem DeedAt.mono {w : World} {p d : Nat} {A A' : Nat → Prop} {x : Deed} {v : Value} (h : DeedAt w p d A x v) (hA : ∀ b, b < w.heap.size → A b → A' b) : DeedAt w p d A' x v := by
  cases x with
  | sync => exact h
  | wr i s =>
    obtain ⟨x, y, z, hv, h1, h2, h3, a1, a2, a3⟩ := h
    exact ⟨x, y, z, hv, h1, h2, h3, hA _ (lt_of_block h1) a1, hA _ (lt_of_block h2) a2, hA _ (lt_of_block h3) a3⟩
theorem DeedAt.own {w w' : World} {p d B k n : Nat} {A : Nat → Prop} {x : Deed} {u v : Value} {xs : List Value} (h : DeedAt w p d A x v) (ho : w.ownsRow B 291 k u n xs) (hm : Mod u.ownBlock.toList w w') : DeedAt w' p d A x v :=
  h.mod hm (fun b cs T f hb hT _ hmem => by
    simp at hmem
    exact own_ne ho hb hT.ne.2.2.symm b hmem rfl)
theorem DeedAt.mod0 {w w' : World} {p d : Nat} {A : Nat → Prop} {x : Deed} {v : Value} (h : DeedAt w p d A x v) (hm : Mod [] w w') : DeedAt w' p d A x v := h.mod hm (by simp)
inductive All2 {α β : Type} (R : α → β → Prop) : List α → List β → Prop
  | nil : All2 R [] []
  | cons {a b l m} : R a b → All2 R l m → All2 R (a :: l) (b :: m)
theorem All2.len {α β : Type} {R : α → β → Prop} {l : List α} {m : List β} (h : All2 R l m) : l.length = m.length := by induction h <;> simp_all
theorem All2.imp {α β : Type} {R S : α → β → Prop} {l : List α} {m : List β} (h : All2 R l m) (k : ∀ a b, R a b → S a b) : All2 S l m := by
  induction h with
  | nil => exact .nil
  | cons h1 _ ih => exact .cons (k _ _ h1) ih
theorem All2.app {α β : Type} {R : α → β → Prop} {l l' : List α} {m m' : List β} (h : All2 R l m) (h' : All2 R l' m') : All2 R (l ++ l') (m ++ m') := by
  induction h with
  | nil => exact h'
  | cons h1 _ ih => exact .cons h1 ih
theorem All2.at {α β : Type} {R : α → β → Prop} {l : List α} {m : List β} (h : All2 R l m) : ∀ {i : Nat} {a : α}, l[i]? = some a → ∃ b, m[i]? = some b ∧ R a b := by
  induction h with
  | nil => intro i a h; simp at h
  | cons h1 _ ih =>
    intro i a h
    cases i with
    | zero => simp at h; subst h; exact ⟨_, rfl, h1⟩
    | succ i => simpa using ih (by simpa using h)
structure PgAt (w : World) (p d : Nat) (pv : Value) (stands : Bool) (commits : Int) : Prop where
  at_ : w.heap[p]? = some (.cells #[pt d, pv, .bool stands, .int .i64 commits] 192 (0, 0))

theorem write1_c (p d sb ub : Nat) (pv : Value) (st : Bool) (cm : Int) (D : Dev) (i : Nat) (s : List UInt8) (x y z : Nat) (w : World) (hp : PgAt w p d pv st cm) (h : DevR w d sb ub D)
    (hx : w.heap[x]? = some (.cells #[pt p] 119 (0, 0))) (hy : w.heap[y]? = some (.cells #[.int .i64 (i : Int)] 3 (0, 0))) (hz : w.heap[z]? = some (.cells #[.string (str s)] 9 (0, 0)))
    (hc : 0 ≤ D.calls) (hc' : D.calls ≤ 4611686018427387904) (hi : i < D.sure.length) (hs : s.length ≤ 64) :
    Calls Tryz.prog 265 #[pt x, pt y, pt z] w fun e w' => e = .returned (.int .i64 (D.write i (str s)).1) ∧ Mod [d, sb, ub] w w' ∧ DevR w' d sb ub (D.write i (str s)).2 := by
  have H := Lib.hid h
  obtain ⟨c1, f1⟩ := cells_of hp.at_
  obtain ⟨c2, f2⟩ := cells_of hx
  obtain ⟨c3, f3⟩ := cells_of hy
  obtain ⟨c4, f4⟩ := cells_of hz
  clear h hp hx hy hz
  go_enter Tryz.func265, Tryz.ntmps265
  go_wp2_with fail
  refine region_still_tail 6 Tryz.mixed (by kernel_rfl) ?_
  simp only [List.take_succ_cons, List.take_zero, List.drop_succ_cons, List.drop_zero]
  iterate 6 still_step
  refine wpStill_nil ?_
  go_wp2_with fail
  refine (dwrite_c d sb ub D i (str s) _ (H.out.mod ((Mod.refl [] w).drew) (by simp) (by simp) (by simp)) hc hc' (by omega) (by omega) hs).mono ?_
  rintro e w1 ⟨rfl, hm, hr⟩
  have HM := Lib.hid hm; have HR := Lib.hid hr
  clear hm hr
  go_wp2_with fail
  go_ret
  exact ⟨rfl, ((Mod.refl _ _).drew).trans HM.out (by simp), HR.out⟩

theorem pwrite_c (p d i : Nat) (s : List UInt8) (w : World) :
    Calls Tryz.prog 219 #[pt p, .int .i64 (i : Int), .string (str s)] w fun e w' => ∃ v, e = .returned v ∧ DeedAt w' p d (w.heap.size ≤ ·) (.wr i s) v ∧ Mod [] w w' := by
  go_enter Tryz.func219, Tryz.ntmps219
  go_wp2_with fail
  go_ret
  exact ⟨_, rfl, ⟨_, _, _, rfl, hp_old (hp_old (hp_new _ _)), hp_old (hp_new1 _ _ _), hp_new2 _ _ _ _, Nat.le_refl _, Nat.le_succ _, Nat.le_trans (Nat.le_succ _) (Nat.le_succ _)⟩, (((Mod.refl _ _).alloc _).alloc _).alloc _⟩

theorem Deed.run_inv (x : Deed) (D : Dev) : (x.run D).2.sure.length = D.sure.length ∧ (x.run D).2.calls = D.calls + 1 ∧ (x.run D).2.halt = D.halt := by
  cases x with
  | wr i s => simp only [Deed.run, Dev.write, Dev.call]; repeat' split
              all_goals simp
  | sync => simp only [Deed.run, Dev.sync, Dev.call]; repeat' split
            all_goals simp [applyU_len]
theorem runDeeds_inv (l : List Deed) : ∀ D : Dev, (runDeeds l D).2.sure.length = D.sure.length ∧ D.calls ≤ (runDeeds l D).2.calls ∧ (runDeeds l D).2.calls ≤ D.calls + l.length ∧ (runDeeds l D).2.halt = D.halt := by
  induction l with
  | nil => intro D; simp [runDeeds]
  | cons x l ih =>
    intro D
    have h1 := x.run_inv D
    have h2 := ih (x.run D).2
    unfold runDeeds
    simp only [List.length_cons]
    split
    · refine ⟨h1.1, ?_, ?_, h1.2.2⟩ <;> omega
    · refine ⟨by rw [h2.1, h1.1], ?_, ?_, by rw [h2.2.2.2, h1.2.2]⟩ <;> omega
/-- A slice of deeds. -/
def Deeds (w : World) (B p d : Nat) (A : Nat → Prop) (v : Value) (l : List Deed) : Prop := ∃ vs, w.ownsRow B 291 1 v l.length vs ∧ All2 (DeedAt w p d A) l vs
theorem callFunc_val (f : Fn) (n : Nat) (hf : f = .func n) : True := trivial
set_option maxHeartbeats 1000000 in
theorem all_c (B p d sb ub : Nat) (A : Nat → Prop) (pv : Value) (st : Bool) (cm : Int) (D : Dev) (l : List Deed) (v : Value) (w : World) (hp : PgAt w p d pv st cm) (h : DevR w d sb ub D) (hl : Deeds w B p d A v l)
    (hc : 0 ≤ D.calls) (hc' : D.calls + l.length ≤ 4611686018427387904) (hok : ∀ x ∈ l, x.ok D.sure.length) (hlen : l.length ≤ 1000000) :
    Calls Tryz.prog 173 #[v] w fun e w' => e = .returned (.int .i64 (runDeeds l D).1) ∧ Mod [d, sb, ub] w w' ∧ DevR w' d sb ub (runDeeds l D).2 := by
  obtain ⟨vs, hown, hall⟩ := hl
  obtain ⟨ao, c, rfl, hrd, hblk⟩ := RdS.ofOwn hown (by omega)
  have hvl := hall.len
  have hblk' : ∀ b off, ao = some ⟨b, off, none⟩ → b ∉ [d, sb, ub] := by
    intro b off hb
    rcases hown.2 with ⟨hv, _⟩ | ⟨g, cap, cur, hv, _, hh, _⟩
    · simp only [Value.slice.injEq] at hv; rw [hv.1] at hb; cases hb
    · simp only [Value.slice.injEq] at hv; rw [hv.1] at hb; cases hb; exact h.blocks hh (by decide) (by decide)
  have hdn : ∀ w', Mod [d, sb, ub] w w' → All2 (DeedAt w' p d A) l vs := fun w' hm => hall.imp fun a b hab => hab.mod hm (fun _ _ _ _ hb hT _ => h.blocks hb hT.ne.1 hT.ne.2.1)
  have hpg : ∀ w', Mod [d, sb, ub] w w' → PgAt w' p d pv st cm := fun w' hm => ⟨hm.at hp.at_ (h.blocks hp.at_ (by decide) (by decide))⟩
  have hfm : vs.flatMap (fun v => [v]) = vs := by induction vs <;> simp_all
  have hrd' : ∀ w', Mod [d, sb, ub] w w' → RdS w' 1 ao vs.length (vs.flatMap fun v => [v]) := fun w' hm => by
    rw [hfm, ← hvl]; exact hrd.mod hm hblk'
  have HR := Lib.hid hrd'; have HDN := Lib.hid hdn; have HP := Lib.hid hpg; have H := Lib.hid h; have HOK := Lib.hid hok; have HVL := Lib.hid hvl
  clear hrd' hdn hpg h hok hvl hp hown hall hrd hblk hblk' hfm
  go_enter Tryz.func173, Tryz.ntmps173
  go_wp2_with fail
  go_loopw [8] (fun i wr => ∃ (j : Nat) (Dj : Dev), j ≤ l.length ∧ i = .int .i64 j ∧ Mod [d, sb, ub] w wr ∧ DevR wr d sb ub Dj ∧ runDeeds l D = runDeeds (l.drop j) Dj ∧ Dj.sure.length = D.sure.length ∧ 0 ≤ Dj.calls ∧ Dj.calls ≤ D.calls + j) (fun i _ => l.length - (intOf i).toNat)
  case atStart => exact ⟨0, D, Nat.zero_le _, rfl, Mod.refl _ _, H.out, rfl, rfl, hc, by simp⟩
  case round =>
    obtain ⟨j, Dj, hj, rfl, hm, hr, hrun, hsl, hc0, hcj⟩ := hrel
    have HM := Lib.hid hm; have HRR := Lib.hid hr; have HRUN := Lib.hid hrun; have HSL := Lib.hid hsl
    clear hm hr hrun hsl
    by_cases hlt : j < l.length
    · have hd : l.drop j = l[j] :: l.drop (j + 1) := List.drop_eq_getElem_cons hlt
      obtain ⟨vj, hvj, hdj⟩ := (HDN.out _ HM.out).at (List.getElem?_eq_getElem hlt)
      obtain ⟨b, off, rfl, hcc⟩ := (HR.out _ HM.out).at (fun x => rfl) hvj
      have hc0' := hcc 0 (by omega)
      simp only [Nat.mul_one, Nat.add_zero, List.getElem?_cons_zero] at hc0'
      have hokj := HOK.out _ (List.getElem_mem hlt)
      have hinv := (l[j]).run_inv Dj
      have HD := Lib.hid hd; have HINV := Lib.hid hinv
      clear hd hcc hvj hinv
      have hfin : ∀ (w1 : World), True := fun _ => trivial
      generalize hX : l[j] = X at *
      have HX := Lib.hid hX; clear hX
      have HRUN2 := Lib.hid (show runDeeds l D = if (X.run Dj).1 ≠ 0 then X.run Dj else runDeeds (l.drop (j + 1)) (X.run Dj).2 from by rw [HRUN.out, HD.out]; rfl)
      cases X with
      | wr i s =>
        obtain ⟨x, y, z, rfl, hx, hy, hz, -⟩ := hdj
        have hokj' : i < Dj.sure.length ∧ s.length ≤ 64 := by rw [HSL.out]; exact hokj
        have hw1 := write1_c p d sb ub pv st cm Dj i s x y z wr (HP.out _ HM.out) HRR.out hx hy hz hc0 (by omega) hokj'.1 hokj'.2
        have HW := Lib.hid hw1
        clear hx hy hz hw1
        go_wp2_with fail
        refine HW.out.mono ?_
        rintro e w1 ⟨rfl, hm1, hr1⟩
        have HM1 := Lib.hid hm1; have HR1 := Lib.hid hr1
        clear hm1 hr1
        by_cases he : (Dj.write i (str s)).1 = 0
        · rw [he]
          go_wp2_with fail
          go_roundw
          case rel =>
            have hi := HINV.out
            refine ⟨j + 1, _, by omega, by go_num, HM.out.trans HM1.out (fun x hx => .inl hx), HR1.out, ?_, by rw [← HSL.out]; exact hi.1, ?_, ?_⟩
            · rw [HRUN2.out, if_neg (by simp [Deed.run, he])]; rfl
            · have := hi.2.1; simp only [Deed.run] at this; omega
            · have := hi.2.1; simp only [Deed.run] at this; omega
          case measure => simp [intOf]; omega
        · have he' : ((Dj.write i (str s)).1 != 0) = true := by simpa using he
          generalize hE : (Dj.write i (str s)).1 = E at *
          have HE := Lib.hid hE; clear hE
          go_wp2_with fail
          go_ret
          rw [HRUN2.out, if_pos (by simp only [Deed.run, HE.out]; exact he)]
          exact ⟨ret_int (by simp only [Deed.run, HE.out]), HM.out.trans HM1.out (fun x hx => .inl hx), HR1.out⟩
      | sync =>
        subst hdj
        have hw1 := dsync_c d sb ub Dj wr HRR.out hc0 (by omega)
        have HW := Lib.hid hw1
        clear hw1
        go_wp2_with fail
        refine HW.out.mono ?_
        rintro e w1 ⟨rfl, hm1, hr1⟩
        have HM1 := Lib.hid hm1; have HR1 := Lib.hid hr1
        clear hm1 hr1
        by_cases he : Dj.sync.1 = 0
        · rw [he]
          go_wp2_with fail
          go_roundw
          case rel =>
            have hi := HINV.out
            refine ⟨j + 1, _, by omega, by go_num, HM.out.trans HM1.out (fun x hx => .inl hx), HR1.out, ?_, by rw [← HSL.out]; exact hi.1, ?_, ?_⟩
            · rw [HRUN2.out, if_neg (by simp [Deed.run, he])]; rfl
            · have := hi.2.1; simp only [Deed.run] at this; omega
            · have := hi.2.1; simp only [Deed.run] at this; omega
          case measure => simp [intOf]; omega
        · have he' : (Dj.sync.1 != 0) = true := by simpa using he
          generalize hE : Dj.sync.1 = E at *
          have HE := Lib.hid hE; clear hE
          go_wp2_with fail
          go_ret
          rw [HRUN2.out, if_pos (by simp only [Deed.run, HE.out]; exact he)]
          exact ⟨ret_int (by simp only [Deed.run, HE.out]), HM.out.trans HM1.out (fun x hx => .inl hx), HR1.out⟩
    · obtain rfl : j = l.length := by omega
      go_wp2_with fail
      go_ret
      have := HRUN.out
      rw [List.drop_length] at this
      rw [this]
      exact ⟨rfl, HM.out, HRR.out⟩
end Go.Proofs.YtoffondipgjcoaaGreatDoor

/- The contracts of package pager: a page's deeds, a mark's, joining. -/
set_option linter.unusedVariables false
set_option maxRecDepth 100000
set_option linter.unusedSimpArgs false
namespace Go.Proofs.YtoffondipgjcoaaGreatDoor
open Go.RowKit

def part (l : List UInt8) (j : Nat) : List UInt8 := (l.drop (64 * j)).take 64
theorem cutN_at : ∀ (n : Nat) (l : List UInt8) (j : Nat), j < n → (cutN n l)[j]? = some (part l j)
  | 0, _, _, h => by omega
  | n + 1, l, 0, _ => by simp [cutN, part]
  | n + 1, l, j + 1, h => by rw [cutN, List.getElem?_cons_succ, cutN_at n _ j (by omega), part, List.drop_drop]; simp only [part]; rw [show 64 + 64 * j = 64 * (j + 1) from by omega]
def pageDeeds (pl : Nat → Nat) (data : List UInt8) (n : Nat) : List Deed := (List.range n).map fun i => .wr (pl i) (part data i)
theorem Tryz.i_deed : (Tryz.prog.info? 291).map (fun i => (i.zero, i.size, i.bytes)) = some (some (.nilFunc), 1, 8) := by kernel_rfl
theorem Deeds.nil (w : World) (B p d : Nat) (A : Nat → Prop) : Deeds w B p d A (.slice none 0 0) [] := ⟨[], ⟨rfl, .inl ⟨rfl, rfl⟩⟩, .nil⟩
theorem Deeds.mod {w w' : World} {B p d : Nat} {A : Nat → Prop} {v : Value} {l : List Deed} {R : List Nat} (h : Deeds w B p d A v l) (hm : Mod R w w')
    (hR : ∀ b cs T f, w.heap[b]? = some (.cells cs T f) → boxT T ∧ A b ∨ T = 291 → b ∉ R) : Deeds w' B p d A v l := by
  obtain ⟨vs, ho, ha⟩ := h
  refine ⟨vs, own_mod ho hm (fun b hb => ?_), ha.imp fun a b hab => hab.mod hm (fun b cs T f hb hT hA => hR b cs T f hb (.inl ⟨hT, hA⟩))⟩
  rcases ho.2 with ⟨rfl, _⟩ | ⟨g, cap, cur, rfl, _, hh, _⟩
  · simp [Value.ownBlock] at hb
  · simp [Value.ownBlock] at hb; subst hb; exact hR _ _ _ _ hh (.inr rfl)
theorem Deeds.mod2 {w w' : World} {B p d : Nat} {A : Nat → Prop} {v : Value} {l : List Deed} {R : List Nat} (h : Deeds w B p d A v l) (hm : Mod R w w') (hv : ∀ b, v.ownBlock = some b → b ∉ R)
    (hR : ∀ b cs T f, w.heap[b]? = some (.cells cs T f) → boxT T → A b → b ∉ R) : Deeds w' B p d A v l := by
  obtain ⟨vs, ho, ha⟩ := h
  exact ⟨vs, own_mod ho hm hv, ha.imp fun a b hab => hab.mod hm hR⟩
theorem Deeds.mono {w : World} {B p d : Nat} {A A' : Nat → Prop} {v : Value} {l : List Deed} (h : Deeds w B p d A v l) (hA : ∀ b, b < w.heap.size → A b → A' b) : Deeds w B p d A' v l := by
  obtain ⟨vs, ho, ha⟩ := h
  exact ⟨vs, ho, ha.imp fun a b hab => hab.mono hA⟩
theorem Deeds.rebase {w : World} {B B' p d : Nat} {A : Nat → Prop} {v : Value} {l : List Deed} (h : Deeds w B p d A v l) (hB : ∀ b, v.ownBlock = some b → B' ≤ b) : Deeds w B' p d A v l := by
  obtain ⟨vs, ho, ha⟩ := h
  exact ⟨vs, own_rebase ho hB, ha⟩
theorem Deeds.ne {w : World} {B p d : Nat} {A : Nat → Prop} {v : Value} {l : List Deed} (h : Deeds w B p d A v l) {B' e k n : Nat} {u : Value} {xs : List Value} (ho : w.ownsRow B' e k u n xs) (he : e ≠ 291) : ∀ b, v.ownBlock = some b → b ∉ u.ownBlock.toList := by
  obtain ⟨vs, ho', _⟩ := h
  intro b hb hm
  simp at hm
  exact own_ne' ho' ho he.symm b hb hm
theorem Deeds.lt {w : World} {B p d : Nat} {A : Nat → Prop} {v : Value} {l : List Deed} (h : Deeds w B p d A v l) : ∀ b, v.ownBlock = some b → B ≤ b ∧ b < w.heap.size := by
  obtain ⟨vs, ho', _⟩ := h
  exact fun b hb => own_lt ho' b hb
theorem DeedAt.one {w : World} {p d : Nat} {A : Nat → Prop} {x : Deed} {v : Value} (h : DeedAt w p d A x v) : v.oneCell' = true := by
  cases x with
  | sync => rw [show v = _ from h]; rfl
  | wr i s => obtain ⟨x, y, z, rfl, _⟩ := h; rfl
theorem deeds_one {w : World} {p d : Nat} {A : Nat → Prop} {l : List Deed} {vs : List Value} (h : All2 (DeedAt w p d A) l vs) : vs.all (·.oneCell') = true := by
  induction h with
  | nil => rfl
  | cons h1 _ ih => simp [h1.one, ih]
theorem Deeds.mod0 {w w' : World} {B p d : Nat} {A : Nat → Prop} {v : Value} {l : List Deed} (h : Deeds w B p d A v l) (hm : Mod [] w w') : Deeds w' B p d A v l := h.mod hm (by simp)

section
variable {P : Program} {ops : Array Oper} {rest : List Oper} {o : Oper} {a : Act} {Q : Exit → Act → World → Prop}
theorem wpList_app_row {W : World} (B t e : Nat) (z : Value) (k bytes : Nat) (hgd : o.guard = none) (s x : Operand)
    (ho : o.op = .call { callee := .builtin .append, args := #[s, x], argTypes := #[t, t] })
    (ht : P.underlying t = some (.slice e)) (hinfo : (P.info? e).map (fun i => (i.zero, i.size, i.bytes)) = some (some z, k, bytes)) (hz : z.cells.size = k) (hk : 0 < k) (hb : 0 < bytes)
    (v : Value) (n : Nat) (xs : List Value) (HO : W.ownsRow B e k v n xs) (hs : a.eval s = v) (B2 : Nat) (y : Value) (m : Nat) (ys : List Value) (HY : W.ownsRow B2 e k y m ys) (hm : 0 < m) (hx : a.eval x = y)
    (h1 : ys.all (·.oneCell') = true) (hl : (n + m) * bytes ≤ 140737488355328) (hB : B ≤ W.heap.size)
    (h : ∀ v1 w1, w1.ownsRow B e k v1 (n + m) (xs ++ ys) → Grew W w1 v v1 → wpList P ops Q rest (a.put o.dst v1) w1) : wpList P ops Q (o :: rest) a W := by
  obtain ⟨g, cap, rfl, _, _, _, hc⟩ := own_slice HY hm
  refine wpList_app B t e z k bytes hgd s x ho ht hinfo hz hk hb v n xs hs ⟨g, 0, none⟩ m cap ys hx HO HY.1 ?_ (fun u hu => List.all_eq_true.1 h1 u hu) hl hB h
  intro j u hu
  have hj : j < m * k := by rw [← HY.1]; exact (List.getElem?_eq_some_iff.1 hu).1
  rw [add_at, Nat.zero_add, hc j hj, hu]
end
set_option maxHeartbeats 1000000 in
theorem page_c (p d g bx : Nat) (eg : ∀ args w, (callFunc g args).run Tryz.prog w = .ok (.enter g args) w) (pl : Nat → Nat) (data : List UInt8) (hd : data.length = 256) (w : World)
    (hpl : ∀ j : Nat, j < 4 → ∀ w', Mod [] w w' → Calls Tryz.prog g #[.int .i64 (j : Int), pt bx] w' fun e w'' => e = .returned (.int .i64 (pl j : Int)) ∧ w' = w'') :
    Calls Tryz.prog 169 #[pt p, .func (.func g) #[] #[pt bx], .string (str data)] w fun e w' => ∃ v, e = .returned v ∧ Deeds w' w.heap.size p d (w.heap.size ≤ ·) v (pageDeeds pl data 4) ∧ Mod [] w w' := by
  have HPL := Lib.hid hpl
  clear hpl
  go_enter Tryz.func169, Tryz.ntmps169
  go_wp2_with fail
  refine (Cut_c data hd w).mono ?_
  rintro e w1 ⟨v, rfl, hs, hm⟩
  obtain ⟨ao, c, rfl, hrd, hblk⟩ := RdS.ofOwn hs (by rw [cutN_len]; omega)
  rw [cutN_len] at *
  have HM1 := Lib.hid hm; have HR := Lib.hid hrd
  clear hs hm hrd
  go_wp2_with fail
  go_loopw [9, 19] (fun v i wr => ∃ j : Nat, j ≤ 4 ∧ i = .int .i64 j ∧ Mod [] w1 wr ∧ Deeds wr w1.heap.size p d (w.heap.size ≤ ·) v (pageDeeds pl data j)) (fun _ i _ => 4 - (intOf i).toNat)
  case atStart => exact ⟨0, by simp, rfl, Mod.refl _ _, Deeds.nil _ _ _ _ _⟩
  case round =>
    obtain ⟨j, hj, rfl, hm, hv⟩ := hrel
    have HM := Lib.hid hm; have HV := Lib.hid hv
    have hsz : w1.heap.size ≤ wr.heap.size := hm.size
    clear hm hv
    by_cases hlt : j < 4
    · have hrd2 := HR.out.mod HM.out (by simp)
      obtain ⟨b, off, rfl, hcc⟩ := hrd2.cell (by omega)
      have hc0 := hcc j (by omega)
      rw [List.getElem?_map, cutN_at 4 data j hlt] at hc0
      simp only [Option.map_some] at hc0
      clear hcc hrd2
      obtain ⟨vs, hown, hall⟩ := HV.out
      have hll : (pageDeeds pl data j).length = j := by simp [pageDeeds]
      rw [hll] at hown
      have HO := Lib.hid hown; have HA := Lib.hid hall
      clear HV hown hall hll
      go_wp2_with fail
      refine (HPL.out j hlt wr (HM1.out.trans HM.out (by simp))).mono ?_
      rintro e w2 ⟨rfl, rfl⟩
      go_wp2_with fail
      refine (pwrite_c p d (pl j) (part data j) wr).mono ?_
      rintro e w2 ⟨v2, rfl, hd2, hm2⟩
      have HD2 := Lib.hid (hd2.mono (A' := (w.heap.size ≤ ·)) (fun b _ hb => Nat.le_trans HM1.out.size (Nat.le_trans hsz hb))); have HM2 := Lib.hid hm2
      have hsz2 := Nat.le_trans hsz hm2.size
      clear hd2 hm2
      obtain ⟨x2, y2, z2, rfl, -⟩ : ∃ x y z, v2 = .func (.func 265) #[] #[pt x, pt y, pt z] ∧ True := by
        obtain ⟨x, y, z, h1, -⟩ := HD2.out; exact ⟨x, y, z, h1, trivial⟩
      have HO2 := Lib.hid (own_mod HO.out HM2.out (by simp))
      go_wp2_with (at_builtin; refine wpList_app_new w1.heap.size 246 291 .nilFunc 1 8 _ [.func _ _ _] _ rfl _ _ rfl Tryz.underlying246 Tryz.i_deed rfl (by decide) (by decide) _ j _ HO2.out rfl 1 1 rfl rfl rfl ?_ hsz2 ?_)
      case refine_1 => omega
      case refine_2 =>
      intro v1 w3 hown hg
      have HO3 := Lib.hid hown; have HG := Lib.hid hg
      clear hown hg
      go_wp2_with fail
      go_roundw
      case rel =>
        refine ⟨j + 1, by omega, by go_num, (HM.out.trans HM2.out (by simp)).trans HG.out.mod (fun x hx => by simp at hx; exact .inr (own_lt HO2.out x hx).1), vs ++ [.func (.func 265) #[] #[pt x2, pt y2, pt z2]], ?_, ?_⟩
        · rw [show (pageDeeds pl data (j + 1)).length = j + 1 by simp [pageDeeds]]; exact HO3.out
        · rw [pageDeeds, List.range_succ, List.map_append]
          exact All2.app (HA.out.imp fun a b hab => (hab.mod0 HM2.out).own HO2.out HG.out.mod) (.cons (HD2.out.own HO2.out HG.out.mod) .nil)
      case measure => simp [intOf]; omega
    · obtain rfl : j = 4 := by omega
      go_wp2_with fail
      go_ret
      obtain ⟨vs, ho, ha⟩ := HV.out
      exact ⟨_, rfl, ⟨vs, own_rebase ho (fun b hb => Nat.le_trans HM1.out.size (own_lt ho b hb).1), ha⟩, HM1.out.trans HM.out (by simp)⟩
end Go.Proofs.YtoffondipgjcoaaGreatDoor

/- The contracts of package pager: a mark's deeds, joining. -/
set_option linter.unusedVariables false
set_option maxRecDepth 100000
set_option linter.unusedSimpArgs false
namespace Go.Proofs.YtoffondipgjcoaaGreatDoor
open Go.RowKit

theorem PgAt.mod {w w' : World} {p d : Nat} {pv : Value} {st : Bool} {cm : Int} {R : List Nat} (h : PgAt w p d pv st cm) (hm : Mod R w w') (hp : p ∉ R) : PgAt w' p d pv st cm := ⟨hm.at h.at_ hp⟩
def markDeeds (yes : Bool) : List Deed := [.wr 0 (markL yes), .sync]
set_option maxHeartbeats 1000000 in
theorem pmark_c (p d : Nat) (pv : Value) (st : Bool) (cm : Int) (yes : Bool) (w : World) (hp : PgAt w p d pv st cm) :
    Calls Tryz.prog 172 #[pt p, .bool yes] w fun e w' => ∃ ao c vs, e = .returned (.slice (some ⟨ao, 0, none⟩) 2 c) ∧ w.heap.size ≤ ao ∧ w'.ownsRow w.heap.size 291 1 (.slice (some ⟨ao, 0, none⟩) 2 c) 2 vs ∧ All2 (DeedAt w' p d (w.heap.size ≤ ·)) (markDeeds yes) vs ∧ Mod [] w w' := by
  have HP := Lib.hid hp
  clear hp
  go_enter Tryz.func172, Tryz.ntmps172
  go_wp2_with fail
  have hS : Mod [] w w.drew := (Mod.refl _ _).drew
  refine region_plan (n := 9) (Mod [] w) [(true, 0), (true, 1), (true, 4), (true, 5), (true, 6), (true, 7), (true, 8), (false, 2), (false, 3)] Tryz.mixed (by kernel_rfl) hS ?_
  (apply Go.Proofs.YtoffondipgjcoaaGreatDoor.plan_q _ rfl hS; · (intro K hK w' hw'; (skip); go_simp; (first | exact hK | exact ⟨rfl, hK⟩)))
  (apply Go.Proofs.YtoffondipgjcoaaGreatDoor.plan_q _ rfl hS; · (intro K hK w' hw'; (skip); go_simp; (first | exact hK | exact ⟨rfl, hK⟩)))
  (apply Go.Proofs.YtoffondipgjcoaaGreatDoor.plan_q _ rfl hS; · (intro K hK w' hw'; (skip); go_simp; (first | exact hK | exact ⟨rfl, hK⟩)))
  (apply Go.Proofs.YtoffondipgjcoaaGreatDoor.plan_q _ rfl hS; · (intro K hK w' hw'; (skip); go_simp; (first | exact hK | exact ⟨rfl, hK⟩)))
  (apply Go.Proofs.YtoffondipgjcoaaGreatDoor.plan_q _ rfl hS; · (intro K hK w' hw'; (skip); go_simp; (first | exact hK | exact ⟨rfl, hK⟩)))
  (apply Go.Proofs.YtoffondipgjcoaaGreatDoor.plan_q _ rfl hS; · (intro K hK w' hw'; (obtain ⟨c, f⟩ := cells_of (HP.out.mod hw' (by simp)).at_); go_simp; (first | exact hK | exact ⟨rfl, hK⟩)))
  (apply Go.Proofs.YtoffondipgjcoaaGreatDoor.plan_q _ rfl hS; · (intro K hK w' hw'; (skip); go_simp; (first | exact hK | exact ⟨rfl, hK⟩)))
  refine plan_e rfl ?_
  go_wp2_with fail
  refine (Mark_c yes _).mono ?_
  rintro e w1 ⟨rfl, hm1⟩
  have HM1 := Lib.hid (hS.trans hm1 (by simp)); clear hm1
  go_wp2_with fail
  refine plan_n ⟨HM1.out, ?_⟩
  refine plan_e rfl ?_
  go_wp2_with fail
  refine (pwrite_c p d 0 (markL yes) _).mono ?_
  rintro e w2 ⟨v2, rfl, hd2, hm2⟩
  have HM2 := Lib.hid (HM1.out.trans hm2 (by simp)); have HD2 := Lib.hid (hd2.mono (A' := (w.heap.size ≤ ·)) (fun b _ hb => Nat.le_trans HM1.out.size hb)); clear hm2 hd2
  obtain ⟨x2, y2, z2, rfl, -⟩ : ∃ x y z, v2 = .func (.func 265) #[] #[pt x, pt y, pt z] ∧ True := by
    obtain ⟨x, y, z, h1, -⟩ := HD2.out; exact ⟨x, y, z, h1, trivial⟩
  have hz2 := HM2.out.size
  go_wp2_with fail
  refine plan_n ⟨HM2.out, plan_t ?_⟩
  simp only [List.drop_succ_cons, List.drop_zero]
  go_wp2_with fail
  go_ret
  refine ⟨_, _, _, rfl, hz2, own_lit w2 _ _ 1 [_, _] 2 hz2 rfl (by decide), .cons (HD2.out.mod0 ((Mod.refl _ _).alloc _)) (.cons rfl .nil), HM2.out.alloc _⟩

def joinL (D : Dev) (pl : Nat → Nat) (n : Nat) : List (List UInt8) := (List.range n).map fun j => D.read (pl j : Int)
set_option maxHeartbeats 1000000 in
theorem join_c (p d sb ub g bx : Nat) (pv : Value) (st : Bool) (cm : Int) (D : Dev) (eg : ∀ args w, (callFunc g args).run Tryz.prog w = .ok (.enter g args) w) (pl : Nat → Nat) (w : World) (hp : PgAt w p d pv st cm) (h : DevR w d sb ub D)
    (hlt : ∀ j, j < 4 → pl j < D.sure.length)
    (hpl : ∀ j : Nat, j < 4 → ∀ w', Mod [] w w' → Calls Tryz.prog g #[.int .i64 (j : Int), pt bx] w' fun e w'' => e = .returned (.int .i64 (pl j : Int)) ∧ w' = w'') :
    Calls Tryz.prog 121 #[pt p, .func (.func g) #[] #[pt bx]] w fun e w' => e = .returned (.string (str (joinL D pl 4).flatten)) ∧ Mod [] w w' := by
  have HPL := Lib.hid hpl; have HP := Lib.hid hp; have H := Lib.hid h; have HLT := Lib.hid hlt
  clear hpl hp h hlt
  go_enter Tryz.func121, Tryz.ntmps121
  go_wp2_with fail
  go_loopw [5, 9] (fun v i wr => ∃ j : Nat, j ≤ 4 ∧ i = .int .i64 j ∧ Mod [] w wr ∧ Strs wr w.heap.size v (joinL D pl j)) (fun _ i _ => 4 - (intOf i).toNat)
  case atStart => exact ⟨0, by simp, rfl, Mod.refl _ _, ⟨rfl, .inl ⟨rfl, rfl⟩⟩⟩
  case round =>
    obtain ⟨j, hj, rfl, hm, hv⟩ := hrel
    have HM := Lib.hid hm; have HV := Lib.hid hv
    have hsz : w.heap.size ≤ wr.heap.size := hm.size
    clear hm hv
    by_cases hlt : j < 4
    · go_wp2_with fail
      have hS : Mod [] w wr.drew := HM.out.drew
      refine region_plan (n := 10) (Mod [] w) [(true, 0), (true, 1), (true, 2), (true, 3), (true, 4), (true, 5), (true, 6), (false, 7), (false, 8), (false, 9)] Tryz.mixed (by kernel_rfl) hS ?_
      (apply Go.Proofs.YtoffondipgjcoaaGreatDoor.plan_q _ rfl hS; · (intro K hK w' hw'; (skip); go_simp; (first | exact hK | exact ⟨rfl, hK⟩)))
      (apply Go.Proofs.YtoffondipgjcoaaGreatDoor.plan_q _ rfl hS; · (intro K hK w' hw'; (skip); go_simp; (first | exact hK | exact ⟨rfl, hK⟩)))
      (apply Go.Proofs.YtoffondipgjcoaaGreatDoor.plan_q _ rfl hS; · (intro K hK w' hw'; (skip); go_simp; (first | exact hK | exact ⟨rfl, hK⟩)))
      (apply Go.Proofs.YtoffondipgjcoaaGreatDoor.plan_q _ rfl hS; · (intro K hK w' hw'; (skip); go_simp; (first | exact hK | exact ⟨rfl, hK⟩)))
      (apply Go.Proofs.YtoffondipgjcoaaGreatDoor.plan_q _ rfl hS; · (intro K hK w' hw'; (obtain ⟨c, f⟩ := cells_of (HP.out.mod hw' (by simp)).at_); go_simp; (first | exact hK | exact ⟨rfl, hK⟩)))
      (apply Go.Proofs.YtoffondipgjcoaaGreatDoor.plan_q _ rfl hS; · (intro K hK w' hw'; (skip); go_simp; (first | exact hK | exact ⟨rfl, hK⟩)))
      (apply Go.Proofs.YtoffondipgjcoaaGreatDoor.plan_q _ rfl hS; · (intro K hK w' hw'; (skip); go_simp; (first | exact hK | exact ⟨rfl, hK⟩)))
      refine plan_e rfl ?_
      go_wp2_with fail
      refine (HPL.out j hlt _ hS).mono ?_
      rintro e w2 ⟨rfl, rfl⟩
      go_wp2_with fail
      refine plan_n ⟨hS, ?_⟩
      refine plan_e rfl ?_
      go_wp2_with fail
      refine (dread_c d sb ub D (pl j : Int) _ (H.out.mod hS (by simp) (by simp) (by simp)) (by omega) (by have := HLT.out j hlt; omega)).mono ?_
      rintro e w2 ⟨rfl, hm2⟩
      have HM2 := Lib.hid (hS.trans hm2 (by simp))
      have HV2 := Lib.hid (own_mod HV.out (((Mod.refl [] _).drew).trans hm2 (by simp)) (by simp))
      have HG0 := Lib.hid hm2
      have hsz2 := HM2.out.size
      clear hm2
      go_wp2_with fail
      refine plan_n ⟨HM2.out, ?_⟩
      refine plan_e rfl ?_
      go_wp2_with fail
      refine plan_n ⟨HM2.out.alloc _, plan_t ?_⟩
      simp only [List.drop_succ_cons, List.drop_zero]
      go_wp2_with (at_builtin; refine wpList_app_new w.heap.size 44 9 (.string ⟨#[]⟩) 1 16 _ [.string _] _ rfl _ _ rfl Tryz.underlying44 Tryz.i_str rfl (by decide) (by decide) _ (joinL D pl j).length _ HV2.out rfl 1 1 rfl rfl rfl ?_ hsz2 ?_)
      case refine_1 => simp [joinL]; omega
      case refine_2 =>
      intro v1 w3 hown hg
      have HO3 := Lib.hid hown; have HG := Lib.hid hg
      clear hown hg
      go_wp2_with fail
      go_roundw
      case rel =>
        refine ⟨j + 1, by omega, by go_num, HM2.out.trans HG.out.mod (fun x hx => by simp at hx; exact .inr (own_lt HV2.out x hx).1), ?_⟩
        have := HO3.out
        unfold Strs joinL
        rw [List.range_succ, List.map_append, List.map_append, List.length_append]
        simpa [joinL] using this
      case measure => simp [intOf]; omega
    · obtain rfl : j = 4 := by omega
      go_wp2_with fail
      refine (Join_c w.heap.size _ (joinL D pl 4) (by simp [joinL]) ?_ wr HV.out).mono ?_
      · intro s hs
        simp only [joinL, List.mem_map, List.mem_range] at hs
        obtain ⟨j, hj4, rfl⟩ := hs
        exact H.out.read_len _ (by omega) (by have := HLT.out j hj4; omega)
      rintro e w2 ⟨rfl, hm2⟩
      have HM2 := Lib.hid hm2; clear hm2
      go_wp2_with fail
      go_ret
      exact ⟨rfl, HM.out.trans HM2.out (by simp)⟩
end Go.Proofs.YtoffondipgjcoaaGreatDoor

/- The contracts of package pager: Open. -/
set_option linter.unusedVariables false
set_option maxRecDepth 100000
set_option linter.unusedSimpArgs false
namespace Go.Proofs.YtoffondipgjcoaaGreatDoor
open Go.RowKit

structure Pg where
  dev : Dev
  pages : List (List UInt8)
  stands : Bool
  commits : Int
/-- The pager at p, its row of pages pv, its device. -/
structure PgR (w : World) (p d sb ub : Nat) (pv : Value) (G : Pg) : Prop where
  at_ : PgAt w p d pv G.stands G.commits
  dev : DevR w d sb ub G.dev
  row : Strs w 0 pv G.pages
theorem PgR.mod {w w' : World} {p d sb ub : Nat} {pv : Value} {G : Pg} {R : List Nat} (h : PgR w p d sb ub pv G) (hm : Mod R w w') (hR : p ∉ R ∧ d ∉ R ∧ sb ∉ R ∧ ub ∉ R) (hv : ∀ b, pv.ownBlock = some b → b ∉ R) : PgR w' p d sb ub pv G :=
  ⟨h.at_.mod hm hR.1, h.dev.mod hm hR.2.1 hR.2.2.1 hR.2.2.2, own_mod h.row hm hv⟩
theorem PgR.mod0 {w w' : World} {p d sb ub : Nat} {pv : Value} {G : Pg} (h : PgR w p d sb ub pv G) (hm : Mod [] w w') : PgR w' p d sb ub pv G := h.mod hm (by simp) (by simp)
def placeN (k j : Nat) : Nat := 126 + 4 * k + j
def imageN (k j : Nat) : Nat := 2 + 4 * k + j
theorem Open1_c (j k b : Nat) (w : World) (hb : w.heap[b]? = some (.cells #[.int .i64 (k : Int)] 3 (0, 0))) (hk : k < 160) (hj : j < 4) :
    Calls Tryz.prog 122 #[.int .i64 (j : Int), pt b] w fun e w' => e = .returned (.int .i64 (placeN k j : Int)) ∧ w = w' := by
  obtain ⟨c, f⟩ := cells_of hb
  clear hb
  go_enter Tryz.func122, Tryz.ntmps122
  go_wp2_with fail
  refine (place_c k j _ (by omega) (by omega)).mono ?_
  rintro e w' ⟨rfl, rfl⟩
  go_wp2_with fail
  go_ret
  exact ⟨ret_int (by simp [placeN]), rfl⟩
def pageOf (D : Dev) (k : Nat) : List UInt8 := (joinL D (placeN k) 4).flatten
def pagesOf (D : Dev) (n : Nat) : List (List UInt8) := (List.range n).map (pageOf D)
def openG (D : Dev) (n : Nat) : Pg := ⟨D, pagesOf D n, false, 0⟩
theorem Tryz.z_pager : True := trivial
set_option maxHeartbeats 2000000 in
theorem pOpen_c (d sb ub n : Nat) (D : Dev) (w : World) (h : DevR w d sb ub D) (h1 : 1 ≤ n) (h2 : n ≤ 160) (hn : D.sure.length = 126 + 4 * n) (hmk : (D.read 0).headD 0 = 0) :
    Calls Tryz.prog 65 #[pt d, .int .i64 (n : Int)] w fun e w' => ∃ p pv, e = .returned (.tuple #[pt p, .int .i64 0]) ∧ Mod [] w w' ∧ PgR w' p d sb ub pv (openG D n) ∧ w.heap.size ≤ p ∧ (∀ b, pv.ownBlock = some b → w.heap.size ≤ b) := by
  have H := Lib.hid h; have HN := Lib.hid hn; have HMK := Lib.hid hmk
  clear h hn hmk
  go_enter Tryz.func65, Tryz.ntmps65
  go_wp2_with (first | (go_at_call 120; refine (Size_c d sb ub D _ H.out).mono ?_; rintro e w1 ⟨rfl, rfl⟩; rw [HN.out]) | (go_at_call 32; refine (need_c n _ (by omega)).mono ?_; rintro e w1 ⟨rfl, rfl⟩))
  go_loopw [30] (fun i wr => ∃ (k : Nat) (pv : Value), k ≤ n ∧ i = .int .i64 k ∧ Mod [] w wr ∧ PgAt wr w.heap.size d pv false 0 ∧ Strs wr (w.heap.size + 1) pv (pagesOf D k)) (fun i _ => n - (intOf i).toNat)
  case atStart => exact ⟨0, .slice none 0 0, by simp, rfl, (Mod.refl _ _).alloc _, ⟨hp_new _ _⟩, ⟨rfl, .inl ⟨rfl, rfl⟩⟩⟩
  case round =>
    obtain ⟨k, pv, hk, rfl, hm, hp, hv⟩ := hrel
    have HM := Lib.hid hm; have HV := Lib.hid hv; have HP := Lib.hid hp
    have hsz : w.heap.size < wr.heap.size := lt_of_block hp.at_
    clear hm hv hp
    by_cases hlt : k < n
    · have hpn : ∀ x ∈ pv.ownBlock.toList, x ≠ w.heap.size := by
        intro x hx he; simp at hx; have := (own_lt HV.out x hx).1; omega
      have hnp : w.heap.size ∉ pv.ownBlock.toList := fun hx => hpn _ hx rfl
      have hpnew : ∀ x ∈ pv.ownBlock.toList, x ∈ ([] : List Nat) ∨ w.heap.size ≤ x := by
        intro x hx; simp at hx; have := (own_lt HV.out x hx).1; exact .inr (by omega)
      have HPN := Lib.hid hnp; have HPW := Lib.hid hpnew
      clear hpn hnp hpnew
      go_wp2_with fail
      have hM0 : Mod [] wr (wr.alloc (Obj.cells #[Value.int IntKind.i64 (k : Int)] 3)) := (Mod.refl _ _).alloc _
      have HB := Lib.hid (hp_new wr (Obj.cells #[Value.int IntKind.i64 (k : Int)] 3))
      have hW : wr.heap.size < (wr.alloc (Obj.cells #[Value.int IntKind.i64 (k : Int)] 3)).heap.size := by rw [World.size_alloc]; omega
      generalize hw2 : wr.alloc (Obj.cells #[Value.int IntKind.i64 (k : Int)] 3) = w2 at *
      clear hw2
      have HM0 := Lib.hid hM0
      have HP2 := Lib.hid (HP.out.mod hM0 (by simp))
      have HV2 := Lib.hid (own_mod HV.out hM0 (by simp))
      have HD2 := Lib.hid ((H.out.mod HM.out (by simp) (by simp) (by simp)).mod hM0 (by simp) (by simp) (by simp))
      clear hM0
      have hS : Mod pv.ownBlock.toList w2 w2.drew := (Mod.refl _ _).drew
      refine region_plan (n := 10) (Mod pv.ownBlock.toList w2) [(true, 0), (true, 1), (true, 2), (true, 3), (true, 4), (true, 5), (true, 6), (false, 7), (false, 8), (false, 9)] Tryz.mixed (by kernel_rfl) hS ?_
      (apply Go.Proofs.YtoffondipgjcoaaGreatDoor.plan_q _ rfl hS; · (intro K hK w' hw'; (skip); go_simp; (first | exact hK | exact ⟨rfl, hK⟩)))
      (apply Go.Proofs.YtoffondipgjcoaaGreatDoor.plan_q _ rfl hS; · (intro K hK w' hw'; (skip); go_simp; (first | exact hK | exact ⟨rfl, hK⟩)))
      (apply Go.Proofs.YtoffondipgjcoaaGreatDoor.plan_q _ rfl hS; · (intro K hK w' hw'; (skip); go_simp; (first | exact hK | exact ⟨rfl, hK⟩)))
      (apply Go.Proofs.YtoffondipgjcoaaGreatDoor.plan_q _ rfl hS; · (intro K hK w' hw'; (skip); go_simp; (first | exact hK | exact ⟨rfl, hK⟩)))
      (apply Go.Proofs.YtoffondipgjcoaaGreatDoor.plan_q _ rfl hS; · (intro K hK w' hw'; (obtain ⟨c, f⟩ := cells_of (HP2.out.mod hw' HPN.out).at_); go_simp; (first | exact hK | exact ⟨rfl, hK⟩)))
      (apply Go.Proofs.YtoffondipgjcoaaGreatDoor.plan_q _ rfl hS; · (intro K hK w' hw'; (skip); go_simp; (first | exact hK | exact ⟨rfl, hK⟩)))
      (apply Go.Proofs.YtoffondipgjcoaaGreatDoor.plan_q _ rfl hS; · (intro K hK w' hw'; (skip); go_simp; (first | exact hK | exact ⟨rfl, hK⟩)))
      refine plan_e rfl ?_
      go_wp2_with fail
      have hd0 : Mod [] w2 w2.drew := (Mod.refl _ _).drew
      refine (join_c w.heap.size d sb ub 122 wr.heap.size pv false 0 D (fun args w => rfl) (placeN k) _ (HP2.out.mod hd0 (by simp)) (HD2.out.mod hd0 (by simp) (by simp) (by simp)) ?_ ?_).mono ?_
      · intro j hj; rw [HN.out]; unfold placeN; omega
      · intro j hj w' hw'
        exact Open1_c j k wr.heap.size w' (hw'.at (hd0.at HB.out (by simp)) (by simp)) (by omega) hj
      rintro e w3 ⟨rfl, hm3⟩
      have HM3 := Lib.hid (hd0.trans hm3 (by simp)); clear hm3 hd0
      go_wp2_with fail
      refine plan_n ⟨HM3.out.mono (by simp), ?_⟩
      refine plan_e rfl ?_
      go_wp2_with fail
      refine plan_n ⟨(HM3.out.mono (by simp)).alloc _, ?_⟩
      refine plan_e rfl ?_
      have HV3 := Lib.hid (own_mod HV2.out HM3.out (by simp))
      have hsz3 := HM3.out.size
      go_wp2_with (at_builtin; refine wpList_app_new (w.heap.size + 1) 44 9 (.string ⟨#[]⟩) 1 16 _ [.string _] _ rfl _ _ rfl Tryz.underlying44 Tryz.i_str rfl (by decide) (by decide) _ (pagesOf D k).length _ HV3.out rfl 1 1 rfl rfl rfl ?_ ?_ ?_)
      case refine_1 => simp [pagesOf]; omega
      case refine_2 => omega
      intro v1 w4 hown hg
      obtain ⟨a1, c1, rfl⟩ := own_form hown
      have HO4 := Lib.hid hown; have HG := Lib.hid hg
      have hp4 := (HP2.out.mod HM3.out (by simp)).mod hg.mod HPN.out
      obtain ⟨c, f⟩ := cells_of hp4.at_
      have HP4 := Lib.hid hp4
      have hplt : w.heap.size < w4.heap.size := lt_of_block hp4.at_
      clear hown hg hp4
      go_wp2_with fail
      refine plan_n ⟨HM3.out.mono (by simp) |>.trans HG.out.mod (fun x hx => .inl hx), plan_t ?_⟩
      simp only [List.drop_succ_cons, List.drop_zero]
      go_wp2_with fail
      go_roundw
      case rel =>
        have hmm : Mod [] w w4 := ((HM.out.trans HM0.out (by simp)).trans HM3.out (by simp)).trans HG.out.mod HPW.out
        refine ⟨k + 1, Value.slice a1 ((pagesOf D k).length + 1) c1, by omega, by go_num, hmm.setCell _ _ (.inr (Nat.le_refl _)), ⟨?_⟩, ?_⟩
        · rw [hp_set HP4.out.at_]; simp
        · have hne : ∀ b, (Value.slice a1 ((pagesOf D k).length + 1) c1).ownBlock = some b → b ≠ w.heap.size := fun b hb he => by have := (own_lt HO4.out b hb).1; omega
          have h5 := own_mod HO4.out ((Mod.refl [w.heap.size] w4).setCell ⟨w.heap.size, 1, none⟩ (Value.slice a1 ((pagesOf D k).length + 1) c1) (by simp)) (fun b hb => by simpa using hne b hb)
          unfold Strs pagesOf
          rw [List.range_succ, List.map_append, List.map_append, List.length_append]
          simpa [pagesOf, pageOf] using h5
      case measure => simp [intOf]; omega
    · obtain rfl : k = n := by omega
      have HD := Lib.hid (H.out.mod HM.out (by simp) (by simp) (by simp))
      go_wp2_with fail
      refine (dread_c d sb ub D 0 _ HD.out (by omega) (by have := HN.out; omega)).mono ?_
      rintro e w2 ⟨rfl, hm2⟩
      have HM2 := Lib.hid hm2; clear hm2
      go_wp2_with fail
      refine (Marked_c (D.read 0) _).mono ?_
      rintro e w3 ⟨rfl, rfl⟩
      rw [show ((D.read 0).headD 0 != 0) = false by rw [HMK.out]; rfl]
      go_wp2_with fail
      go_ret2
      refine ⟨_, pv, rfl, HM.out.trans HM2.out (by simp), ⟨HP.out.mod HM2.out (by simp), HD.out.mod HM2.out (by simp) (by simp) (by simp), own_rebase (own_mod HV.out HM2.out (by simp)) (by simp)⟩, Nat.le_refl _, fun b hb => ?_⟩
      have := (own_lt HV.out b hb).1; omega
end Go.Proofs.YtoffondipgjcoaaGreatDoor

/- The contracts of package pager: Read, Size, may. -/
set_option linter.unusedVariables false
set_option maxRecDepth 100000
set_option linter.unusedSimpArgs false
namespace Go.Proofs.YtoffondipgjcoaaGreatDoor
open Go.RowKit

theorem strs_cell {w : World} {B : Nat} {v : Value} {l : List (List UInt8)} (h : Strs w B v l) {i : Nat} {s : List UInt8} (hi : l[i]? = some s) : ∃ g cap, v = .slice (some ⟨g, 0, none⟩) l.length cap ∧ w.cell? ⟨g, i, none⟩ = some (.string (str s)) := by
  have hlt := (List.getElem?_eq_some_iff.1 hi).1
  obtain ⟨g, cap, hv, _, _, _, hc⟩ := own_slice h (by omega)
  refine ⟨g, cap, hv, ?_⟩
  rw [hc i (by omega), List.getElem?_map, hi]; rfl
theorem pRead_c (p d sb ub n : Nat) (pv : Value) (G : Pg) (w : World) (h : PgR w p d sb ub pv G) (s : List UInt8) (hn : G.pages[n]? = some s) :
    Calls Tryz.prog 129 #[pt p, .int .i64 (n : Int)] w fun e w' => e = .returned (.tuple #[.string (str s), .int .i64 0]) ∧ w = w' := by
  obtain ⟨g, cap, rfl, hc⟩ := strs_cell h.row hn
  obtain ⟨c, f⟩ := cells_of h.at_.at_
  have hlt := (List.getElem?_eq_some_iff.1 hn).1
  have H := Lib.hid h; have HN := Lib.hid hn
  clear h hn
  go_enter Tryz.func129, Tryz.ntmps129
  go_wp2_with fail
  go_ret2
  exact ⟨rfl, rfl⟩
theorem pSize_c (p d sb ub : Nat) (pv : Value) (G : Pg) (w : World) (h : PgR w p d sb ub pv G) :
    Calls Tryz.prog 160 #[pt p] w fun e w' => e = .returned (.int .i64 G.pages.length) ∧ w = w' := by
  obtain ⟨ao, c, rfl⟩ := own_form h.row
  obtain ⟨c, f⟩ := cells_of h.at_.at_
  clear h
  go_enter Tryz.func160, Tryz.ntmps160
  go_wp2_with fail
  go_ret
  exact ⟨rfl, rfl⟩
abbrev Chg := Nat × List UInt8
def chgc (c : Chg) : List Value := [.int .i64 (c.1 : Int), .string (str c.2)]
structure ChgOK (n : Nat) (l : List Chg) : Prop where
  nd : (l.map (·.1)).Nodup
  lt : ∀ c ∈ l, c.1 < n
  len : ∀ c ∈ l, c.2.length = 256
theorem Tryz.z_chg : (Tryz.prog.info? 233).map (fun i => (i.zero, i.size)) = some (some (.agg #[.int .i64 0, .string ⟨#[]⟩]), 2) := by kernel_rfl
theorem look_int {w : World} {r : Nat} {m : List (Int × Int)} (h : MapAt w r (mkv intK intK m)) (k x : Int) (hx : (alook m k).getD 0 = x) :
    (Instr.lookup 176 (.map (some r)) (.int .i64 k) false).run Tryz.prog w = .ok (.int .i64 x) w := by
  have h1 := run_lookup_map (P := Tryz.prog) 176 3 Tryz.underlying176 (keyOK_int Tryz.underlying3) (.int .i64 0) zero_int h k false
  refine h1.trans ?_
  subst hx
  cases alook m k <;> rfl
def mayE (st : Bool) (l : List Chg) : Int := if st then 13 else if 31 < l.length then 3 else 0
set_option maxHeartbeats 2000000 in
theorem may_c (p d sb ub : Nat) (pv : Value) (G : Pg) (ao : Option Addr) (c : Nat) (l : List Chg) (w : World) (h : PgR w p d sb ub pv G) (hl : ChgOK G.pages.length l) (hrd : RdS w 2 ao l.length (l.flatMap chgc)) :
    Calls Tryz.prog 198 #[pt p, .slice ao l.length c] w fun e w' => e = .returned (.int .i64 (mayE G.stands l)) ∧ Mod [] w w' := by
  have hmm := @run_makeMap Tryz.prog
  obtain ⟨pao, pc, rfl⟩ := own_form h.row
  obtain ⟨c0, f0⟩ := cells_of h.at_.at_
  have H := Lib.hid h; have HL := Lib.hid hl; have HR := Lib.hid hrd
  clear h hl hrd
  cases hst : G.stands with
  | true =>
    rw [hst] at c0
    go_enter Tryz.func198, Tryz.ntmps198
    go_wp2_with fail
    go_ret
    exact ⟨rfl, Mod.refl _ _⟩
  | false =>
    rw [hst] at c0
    by_cases h31 : 31 < l.length
    · go_enter Tryz.func198, Tryz.ntmps198
      go_wp2_with fail
      go_ret
      exact ⟨ret_int (by simp [mayE, h31]), Mod.refl _ _⟩
    · go_enter Tryz.func198, Tryz.ntmps198
      go_wp2_with fail
      clear c0 f0
      go_loopw [6, 19] (fun o i wr => ∃ j : Nat, j ≤ l.length ∧ o = .bool false ∧ i = .int .i64 j ∧ Mod [] w wr ∧ MapAt wr w.heap.size (mkv intK intK ((l.take j).map fun n => ((n.1 : Int), (1 : Int))))) (fun _ i _ => l.length - (intOf i).toNat)
      case atStart => exact ⟨0, Nat.zero_le _, rfl, rfl, ((Mod.refl _ _).alloc _), MapAt.new _⟩
      case round =>
        obtain ⟨j, hj, rfl, rfl, hm, hmap⟩ := hrel
        by_cases hlt : j < l.length
        · obtain ⟨b, off, rfl, hcc⟩ := (HR.out.mod hm (by simp)).at (fun x => rfl) (List.getElem?_eq_getElem hlt)
          have hc0 := hcc 0 (by omega)
          have hc1 := hcc 1 (by omega)
          simp only [Nat.add_zero, chgc, List.getElem?_cons_zero, List.getElem?_cons_succ] at hc0 hc1
          obtain ⟨c0, f0⟩ := cells_of ((H.out.mod0 hm).at_.at_)
          rw [hst] at c0
          have HM := Lib.hid hm; have HMAP := Lib.hid hmap
          clear hm hmap hcc
          have hlj := HL.out.lt _ (List.getElem_mem hlt)
          have hlen := HL.out.len _ (List.getElem_mem hlt)
          have hno : ∀ q ∈ (l.take j).map (fun n => ((n.1 : Int), (1 : Int))), q.1 ≠ (l[j].1 : Int) := by
            intro q hq
            obtain ⟨x, hx, rfl⟩ := List.mem_map.1 hq
            intro he
            have he' : x.1 = l[j].1 := Int.ofNat_inj.1 he
            have h2 : ((l.take (j + 1)).map (·.1)).Nodup := HL.out.nd.sublist ((List.take_sublist _ _).map _)
            rw [List.take_succ_eq_append_getElem hlt, List.map_append, List.nodup_append] at h2
            exact h2.2.2 _ (List.mem_map_of_mem hx) _ (by simp) he'
          have HNO := Lib.hid hno; clear hno
          have hX : (l.take (j + 1)) = l.take j ++ [l[j]] := List.take_succ_eq_append_getElem hlt
          generalize l[j] = X at *
          obtain ⟨X1, X2⟩ := X
          dsimp only at *
          have hsz : (str X2).size = 256 := hlen
          have HX := Lib.hid hX; clear hX
          go_wp2_with fail
          have hM0 : Mod [] wr (wr.alloc (Obj.cells #[.int .i64 (X1 : Int), .string (str X2)] 233)) := (Mod.refl _ _).alloc _
          have hB := hp_new wr (Obj.cells #[.int .i64 (X1 : Int), .string (str X2)] 233)
          generalize hw2 : wr.alloc (Obj.cells #[.int .i64 (X1 : Int), .string (str X2)] 233) = w2 at *
          clear hw2 c0 f0
          obtain ⟨c0, f0⟩ := cells_of ((H.out.mod0 HM.out).mod0 hM0).at_.at_
          obtain ⟨c1, f1⟩ := cells_of hB
          rw [hst] at c0
          have HMAP2 := Lib.hid (HMAP.out.mod hM0 (by simp)); have HM0 := Lib.hid hM0; have HB := Lib.hid hB
          clear hM0 hB hc0 hc1
          go_quiet (fail)
          have hqm : Mod [] w2 (w2.drewN nq) := (Mod.refl _ _).drewN nq
          have hl1 := look_int (HMAP2.out.mod hqm (by simp)) (X1 : Int) 0 (by rw [alook_none HNO.out]; rfl)
          have HMQ := Lib.hid hqm
          clear hqm
          go_wp2_with (with_reducible refine stop_map _ _ _ _ rfl ?_)
          refine Stop.go ?_
          refine wpList_mapUpdate rfl 176 3 _ _ _ rfl Tryz.underlying176 (keyOK_int Tryz.underlying3) (enc := intK) w.heap.size _ (X1 : Int) (1 : Int) rfl rfl rfl (HMAP2.out.mod HMQ.out (by simp)) ?_ ?_
          · rw [List.map_map]
            exact List.Pairwise.map (R := fun a b : Chg => a.1 ≠ b.1) _ (fun a b hab he => hab (Int.ofNat_inj.1 he)) (List.pairwise_map.1 (HL.out.nd.sublist ((List.take_sublist j l).map _)))
          intro w3 hm3 hmap3 hz3
          rw [aput_none HNO.out] at hmap3
          have hq1 := look_int hmap3 (X1 : Int) 1 (by rw [← aput_none HNO.out, alook_aput]; simp)
          have hne : wr.heap.size ≠ w.heap.size := by have := HMAP.out.lt; omega
          obtain ⟨c1, f1⟩ := cells_of (hm3.at (HMQ.out.at HB.out (by simp)) (by simpa using hne))
          have HMAP3 := Lib.hid hmap3; have HM3 := Lib.hid hm3
          clear hmap3 hm3 hz3 hl1 c0 f0
          go_wp2_with fail
          go_roundw
          case rel =>
            refine ⟨j + 1, by omega, rfl, by go_num, ?_, ?_⟩
            · exact ((HM.out.trans HM0.out (by simp)).trans HMQ.out (by simp)).trans HM3.out (by simp)
            · rw [HX.out, List.map_append]; exact HMAP3.out
          case measure => simp [intOf]; omega
        · go_wp2_with fail
          go_ret
          exact ⟨ret_int (by simp [mayE, h31]), hm⟩
end Go.Proofs.YtoffondipgjcoaaGreatDoor

/- The contracts of package pager: the deeds of a commit. -/
set_option linter.unusedVariables false
set_option maxRecDepth 100000
set_option linter.unusedSimpArgs false
namespace Go.Proofs.YtoffondipgjcoaaGreatDoor
open Go.RowKit

theorem strs_at {w : World} {B g n cap : Nat} {l : List (List UInt8)} (h : Strs w B (.slice (some ⟨g, 0, none⟩) n cap) l) {i : Nat} {s : List UInt8} (hi : l[i]? = some s) : w.cell? ⟨g, i, none⟩ = some (.string (str s)) := by
  obtain ⟨g', cap', hv, hc⟩ := strs_cell h hi
  simp only [Value.slice.injEq, Option.some.injEq, Addr.mk.injEq] at hv
  obtain ⟨⟨rfl, _⟩, _⟩ := hv
  exact hc
theorem steps1_c (j k b : Nat) (w : World) (hb : w.heap[b]? = some (.cells #[.int .i64 (k : Int)] 3 (0, 0))) (hk : k < 160) (hj : j < 4) :
    Calls Tryz.prog 245 #[.int .i64 (j : Int), pt b] w fun e w' => e = .returned (.int .i64 (imageN k j : Int)) ∧ w = w' := by
  obtain ⟨c, f⟩ := cells_of hb
  clear hb
  go_enter Tryz.func245, Tryz.ntmps245
  go_wp2_with fail
  refine (image_c k j _ (by omega) (by omega)).mono ?_
  rintro e w' ⟨rfl, rfl⟩
  go_wp2_with fail
  go_ret
  exact ⟨ret_int (by simp [imageN]), rfl⟩
theorem steps2_c (j k b : Nat) (s : List UInt8) (w : World) (hb : w.heap[b]? = some (.cells #[.int .i64 (k : Int), .string (str s)] 233 (0, 0))) (hk : k < 160) (hj : j < 4) :
    Calls Tryz.prog 246 #[.int .i64 (j : Int), pt b] w fun e w' => e = .returned (.int .i64 (placeN k j : Int)) ∧ w = w' := by
  obtain ⟨c, f⟩ := cells_of hb
  clear hb
  go_enter Tryz.func246, Tryz.ntmps246
  go_wp2_with fail
  refine (place_c k j _ (by omega) (by omega)).mono ?_
  rintro e w' ⟨rfl, rfl⟩
  go_wp2_with fail
  go_ret
  exact ⟨ret_int (by simp [placeN]), rfl⟩
def imgsD (P : List (List UInt8)) (l : List Chg) (j : Nat) : List Deed := (List.range j).flatMap fun k => pageDeeds (imageN k) (P.getD (l.getD k (0, [])).1 []) 4
def pgsD (l : List Chg) (j : Nat) : List Deed := (List.range j).flatMap fun k => pageDeeds (placeN (l.getD k (0, [])).1) (l.getD k (0, [])).2 4
theorem pd_len (pl : Nat → Nat) (s : List UInt8) : (pageDeeds pl s 4).length = 4 := by simp [pageDeeds]
theorem imgs_len (P : List (List UInt8)) (l : List Chg) (j : Nat) : (imgsD P l j).length = 4 * j := by
  induction j with
  | zero => rfl
  | succ j ih => simp only [imgsD, List.range_succ, List.flatMap_append, List.length_append] at ih ⊢; rw [ih]; simp [pd_len]; omega
theorem pgs_len (l : List Chg) (j : Nat) : (pgsD l j).length = 4 * j := by
  induction j with
  | zero => rfl
  | succ j ih => simp only [pgsD, List.range_succ, List.flatMap_append, List.length_append] at ih ⊢; rw [ih]; simp [pd_len]; omega
def stepsD (P : List (List UInt8)) (l : List Chg) : List Deed :=
  .wr 1 (dirL (l.map (·.1))) :: (imgsD P l l.length ++ [.sync] ++ markDeeds true ++ pgsD l l.length ++ [.sync] ++ markDeeds false)

set_option maxHeartbeats 4000000 in
theorem steps_c (p d sb ub : Nat) (pv : Value) (G : Pg) (ao : Option Addr) (c : Nat) (l : List Chg) (w : World) (h : PgR w p d sb ub pv G) (hl : ChgOK G.pages.length l) (h0 : 0 < l.length) (h31 : l.length ≤ 31) (hps : ∀ s ∈ G.pages, s.length = 256) (hpn : G.pages.length ≤ 160) (hrd : RdS w 2 ao l.length (l.flatMap chgc)) :
    Calls Tryz.prog 199 #[pt p, .slice ao l.length c] w fun e w' => ∃ v, e = .returned v ∧ Mod [] w w' ∧ Deeds w' w.heap.size p d (fun _ => True) v (stepsD G.pages l) := by
  obtain ⟨pg, pcap, rfl, -⟩ : ∃ g cap, pv = .slice (some ⟨g, 0, none⟩) G.pages.length cap ∧ True := by
    obtain ⟨x, hx⟩ : ∃ x, l[0]? = some x := ⟨_, List.getElem?_eq_getElem h0⟩
    have := hl.lt x (List.mem_of_getElem? hx)
    obtain ⟨g, cap, hv, -⟩ := own_slice h.row (by omega)
    exact ⟨g, cap, hv, trivial⟩
  have H := Lib.hid h; have HL := Lib.hid hl; have HR := Lib.hid hrd; have HPS := Lib.hid hps
  clear h hl hrd hps
  go_enter Tryz.func199, Tryz.ntmps199
  go_wp2_with fail
  go_loopw [5, 6, 7, 15] (fun nv iv qv i wr => ∃ j : Nat, j ≤ l.length ∧ i = .int .i64 j ∧ Mod [] w wr ∧ Ints wr w.heap.size nv ((l.take j).map fun c => (c.1 : Int)) ∧ Deeds wr w.heap.size p d (fun b => nv.ownBlock ≠ some b) iv (imgsD G.pages l j) ∧ Deeds wr w.heap.size p d (fun b => nv.ownBlock ≠ some b) qv (pgsD l j) ∧ (∀ b, iv.ownBlock = some b → qv.ownBlock ≠ some b)) (fun _ _ _ i _ => l.length - (intOf i).toNat)
  case atStart => exact ⟨0, by simp, rfl, Mod.refl _ _, ⟨rfl, .inl ⟨rfl, rfl⟩⟩, Deeds.nil _ _ _ _ _, Deeds.nil _ _ _ _ _, by simp [Value.ownBlock]⟩
  case round =>
    obtain ⟨j, hj, rfl, hm, hnv, hiv, hqv, hdis⟩ := hrel
    by_cases hlt : j < l.length
    · obtain ⟨b, off, rfl, hcc⟩ := (HR.out.mod hm (by simp)).at (fun x => rfl) (List.getElem?_eq_getElem hlt)
      have hc0 := hcc 0 (by omega)
      have hc1 := hcc 1 (by omega)
      simp only [Nat.add_zero, chgc, List.getElem?_cons_zero, List.getElem?_cons_succ] at hc0 hc1
      have HM := Lib.hid hm; have HNV := Lib.hid hnv; have HIV := Lib.hid hiv; have HQV := Lib.hid hqv; have HDIS := Lib.hid hdis
      have hsz := hm.size
      clear hm hcc hnv hiv hqv hdis
      have hlj := HL.out.lt _ (List.getElem_mem hlt)
      have hlen := HL.out.len _ (List.getElem_mem hlt)
      have hXX : l[j]? = some l[j] := List.getElem?_eq_getElem hlt
      have hX : (l.take (j + 1)) = l.take j ++ [l[j]] := List.take_succ_eq_append_getElem hlt
      generalize l[j] = X at *
      obtain ⟨X1, X2⟩ := X
      dsimp only at *
      have HX := Lib.hid hX; have HXX := Lib.hid hXX
      clear hX hXX
      go_wp2_with (with_reducible refine stop_dst 23 rfl ?_)
      refine Stop.go ?_
      -- the world behind the two boxes
      have hM2 : Mod [] wr ((wr.alloc (Obj.cells #[.int .i64 (j : Int)] 3)).alloc (Obj.cells #[.int .i64 (X1 : Int), .string (str X2)] 233)) := ((Mod.refl _ _).alloc _).alloc _
      have hb1 := hp_old (o' := Obj.cells #[.int .i64 (X1 : Int), .string (str X2)] 233) (hp_new wr (Obj.cells #[.int .i64 (j : Int)] 3))
      have hb2 := hp_new1 wr (Obj.cells #[.int .i64 (j : Int)] 3) (Obj.cells #[.int .i64 (X1 : Int), .string (str X2)] 233)
      generalize hW : ((wr.alloc (Obj.cells #[.int .i64 (j : Int)] 3)).alloc (Obj.cells #[.int .i64 (X1 : Int), .string (str X2)] 233)) = w2 at *
      clear hW hc0 hc1
      have HB1 := Lib.hid hb1; have HB2 := Lib.hid hb2; have HM2 := Lib.hid hM2
      obtain ⟨c2, f2⟩ := cells_of hb2
      have hlt2 : wr.heap.size + 1 < w2.heap.size := lt_of_block hb2
      have HNV2 := Lib.hid (own_mod HNV.out hM2 (by simp))
      have HNL := Lib.hid (own_lt HNV.out)
      have HIV2 := Lib.hid (HIV.out.mod0 hM2); have HQV2 := Lib.hid (HQV.out.mod0 hM2)
      clear hb1 hb2 hM2
      go_wp2_with (at_builtin; refine wpList_app_new w.heap.size 114 3 (.int .i64 0) 1 8 _ [.int .i64 (X1 : Int)] _ rfl _ _ rfl Tryz.underlying114 Tryz.i_int rfl (by decide) (by decide) _ ((l.take j).map fun c => (c.1 : Int)).length _ HNV2.out rfl 1 1 rfl rfl rfl ?_ ?_ ?_)
      case refine_1 => simp; omega
      case refine_2 => omega
      intro nv3 w3 hown hg
      have HO3 := Lib.hid hown; have HG3 := Lib.hid hg
      have hpl3 := hg.place
      have hm3 := hg.mod
      have hsz3 := hm3.size
      -- the boxes are not the numbers' block
      have hn1 : ∀ b, u5.ownBlock = some b → b < wr.heap.size := fun b hb => (HNL.out b hb).2
      have hB1' := hm3.at HB1.out (by intro hx; simp at hx; have := hn1 _ hx; omega)
      have hB2' := hm3.at HB2.out (by intro hx; simp at hx; have := hn1 _ hx; omega)
      have hA : ∀ b, b < w2.heap.size → u5.ownBlock ≠ some b → nv3.ownBlock ≠ some b := by
        intro b hb h1 h2
        rcases hpl3 b h2 with h3 | h3
        · exact h1 h3
        · omega
      have HA := Lib.hid hA
      have HIV3 := Lib.hid (((HIV2.out.mono (A' := fun b => u5.ownBlock ≠ some b ∧ nv3.ownBlock ≠ some b) (fun b hb h => ⟨h, hA b hb h⟩)).mod2 hm3 (HIV2.out.ne HNV2.out (by decide)) (fun b cs T f _ _ hA' hm => by simp at hm; exact hA'.1 hm)).mono (A' := fun b => nv3.ownBlock ≠ some b) (fun b _ h => h.2))
      have HQV3 := Lib.hid (((HQV2.out.mono (A' := fun b => u5.ownBlock ≠ some b ∧ nv3.ownBlock ≠ some b) (fun b hb h => ⟨h, hA b hb h⟩)).mod2 hm3 (HQV2.out.ne HNV2.out (by decide)) (fun b cs T f _ _ hA' hm => by simp at hm; exact hA'.1 hm)).mono (A' := fun b => nv3.ownBlock ≠ some b) (fun b _ h => h.2))
      have HMW3 := Lib.hid ((HM.out.trans HM2.out (by simp)).trans hm3 (fun x hx => by simp at hx; exact .inr (HNL.out x hx).1))
      have HB1' := Lib.hid hB1'; have HB2' := Lib.hid hB2'
      have hlt3 : wr.heap.size + 1 < w3.heap.size := by omega
      have hnvlt : ∀ b, nv3.ownBlock = some b → b < w3.heap.size := fun b hb => (own_lt HO3.out b hb).2
      have HNV3 := Lib.hid hnvlt
      clear hown hg hpl3 hm3 hn1 hB1' hB2' hA hnvlt c2 f2
      obtain ⟨PD, hPD⟩ : ∃ PD, G.pages[X1]? = some PD := ⟨_, List.getElem?_eq_getElem hlj⟩
      have hPDl : PD.length = 256 := HPS.out _ (List.mem_of_getElem? hPD)
      have HPD := Lib.hid hPD; clear hPD
      go_wp2_with fail
      have hS : Mod [] w3 w3.drew := (Mod.refl _ _).drew
      refine region_plan (n := 12) (Mod [] w3) [(true, 0), (true, 1), (true, 2), (true, 3), (true, 4), (true, 5), (true, 6), (true, 7), (true, 8), (true, 9), (true, 10), (false, 11)] Tryz.mixed (by kernel_rfl) hS ?_
      (apply Go.Proofs.YtoffondipgjcoaaGreatDoor.plan_q _ rfl hS; · (intro K hK w' hw'; (skip); go_simp; (first | exact hK | exact ⟨rfl, hK⟩)))
      (apply Go.Proofs.YtoffondipgjcoaaGreatDoor.plan_q _ rfl hS; · (intro K hK w' hw'; (skip); go_simp; (first | exact hK | exact ⟨rfl, hK⟩)))
      (apply Go.Proofs.YtoffondipgjcoaaGreatDoor.plan_q _ rfl hS; · (intro K hK w' hw'; (skip); go_simp; (first | exact hK | exact ⟨rfl, hK⟩)))
      (apply Go.Proofs.YtoffondipgjcoaaGreatDoor.plan_q _ rfl hS; · (intro K hK w' hw'; (skip); go_simp; (first | exact hK | exact ⟨rfl, hK⟩)))
      (apply Go.Proofs.YtoffondipgjcoaaGreatDoor.plan_q _ rfl hS; · (intro K hK w' hw'; (skip); go_simp; (first | exact hK | exact ⟨rfl, hK⟩)))
      (apply Go.Proofs.YtoffondipgjcoaaGreatDoor.plan_q _ rfl hS; · (intro K hK w' hw'; (skip); go_simp; (first | exact hK | exact ⟨rfl, hK⟩)))
      (apply Go.Proofs.YtoffondipgjcoaaGreatDoor.plan_q _ rfl hS; · (intro K hK w' hw'; (obtain ⟨c, f⟩ := cells_of (H.out.mod0 (HMW3.out.trans hw' (by simp))).at_.at_); go_simp; (first | exact hK | exact ⟨rfl, hK⟩)))
      (apply Go.Proofs.YtoffondipgjcoaaGreatDoor.plan_q _ rfl hS; · (intro K hK w' hw'; (skip); go_simp; (first | exact hK | exact ⟨rfl, hK⟩)))
      (apply Go.Proofs.YtoffondipgjcoaaGreatDoor.plan_q _ rfl hS; · (intro K hK w' hw'; (obtain ⟨c, f⟩ := cells_of (hw'.at HB2'.out (by simp))); go_simp; (first | exact hK | exact ⟨rfl, hK⟩)))
      (apply Go.Proofs.YtoffondipgjcoaaGreatDoor.plan_q _ rfl hS; · (intro K hK w' hw'; (skip); go_simp; (first | exact hK | exact ⟨rfl, hK⟩)))
      (apply Go.Proofs.YtoffondipgjcoaaGreatDoor.plan_q _ rfl hS; · (intro K hK w' hw'; (have c := strs_at (H.out.mod0 (HMW3.out.trans hw' (by simp))).row HPD.out); go_simp; (first | exact hK | exact ⟨rfl, hK⟩)))
      refine plan_e rfl ?_
      go_wp2_with fail
      refine (page_c p d 245 wr.heap.size (fun args w => rfl) (imageN j) PD hPDl _ (fun i hi w' hw' => steps1_c i j _ w' (hw'.at (hS.at HB1'.out (by simp)) (by simp)) (by omega) hi)).mono ?_
      rintro e w4 ⟨v4, rfl, hd4, hm4⟩
      have HM4 := Lib.hid (hS.trans hm4 (by simp))
      have HD4 := Lib.hid (hd4.mono (A' := fun b => nv3.ownBlock ≠ some b) (fun b _ hb he => by have := HNV3.out b he; have := hS.size; omega))
      have hsz4 := hm4.size
      have hsd := hS.size
      have HV4 := Lib.hid hd4.lt
      clear hd4 hm4
      go_wp2_with fail
      refine plan_n ⟨HM4.out, plan_t ?_⟩
      simp only [List.drop_succ_cons, List.drop_zero]
      obtain ⟨vi, hoi, hai⟩ := HIV3.out.mod0 HM4.out
      obtain ⟨vs4, ho4, ha4⟩ := HD4.out
      have HOI := Lib.hid hoi; have HAI := Lib.hid hai; have HO4 := Lib.hid ho4; have HA4 := Lib.hid ha4
      clear hoi hai ho4 ha4
      go_wp2_with (at_builtin; refine wpList_app_row w.heap.size 246 291 .nilFunc 1 8 rfl _ _ rfl Tryz.underlying246 Tryz.i_deed rfl (by decide) (by decide) _ _ _ HOI.out rfl _ _ _ _ HO4.out ?_ rfl (deeds_one HA4.out) ?_ ?_ ?_)
      case refine_1 => rw [pd_len]; omega
      case refine_2 => rw [imgs_len, pd_len]; omega
      case refine_3 => omega
      intro iv5 w5 hown hg
      have HO5 := Lib.hid hown; have HG5 := Lib.hid hg
      have hsz5 := hg.mod.size
      have HA5 := Lib.hid ((HAI.out.app HA4.out).imp fun a b hab => hab.own HOI.out HG5.out.mod)
      have HQV5 := Lib.hid ((HQV3.out.mod0 HM4.out).mod2 HG5.out.mod (fun b hb hm => by simp at hm; exact HDIS.out b hm hb) (fun b cs T f hb hT _ hm => by simp at hm; exact own_ne HOI.out hb hT.ne.2.2.symm b hm rfl))
      have HNV5 := Lib.hid (own_mod (own_mod HO3.out HM4.out (by simp)) HG5.out.mod (fun b hb hm => by simp at hm; exact own_ne' HOI.out (own_mod HO3.out HM4.out (by simp)) (by decide) b hm hb))
      have hmw5 : Mod [] w w5 := (HMW3.out.trans HM4.out (by simp)).trans HG5.out.mod (fun x hx => by simp at hx; exact .inr (HIV.out.lt x hx).1)
      have HMW5 := Lib.hid hmw5
      have HB5 := Lib.hid (HG5.out.mod.at (HM4.out.at HB2'.out (by simp)) (by intro hx; simp at hx; have := (HIV.out.lt _ hx).2; omega))
      have hiv5 : ∀ b, iv5.ownBlock = some b → u7.ownBlock ≠ some b := by
        intro b hb h7
        have h71 := (HQV.out.lt b h7).2
        rcases HG5.out.place b hb with h | h
        · exact HDIS.out b h h7
        · omega
      have HI5 := Lib.hid hiv5
      have HL5 := Lib.hid (own_lt HO5.out)
      obtain ⟨c5, f5⟩ := cells_of HB5.out
      have hlt5 : wr.heap.size + 1 < w5.heap.size := by omega
      clear hown hg hiv5 hmw5
      go_wp2_with fail
      refine (page_c p d 246 (wr.heap.size + 1) (fun args w => rfl) (placeN X1) X2 hlen _ (fun i hi w' hw' => steps2_c i X1 _ X2 w' (hw'.at HB5.out (by simp)) (by omega) hi)).mono ?_
      rintro e w6 ⟨v6, rfl, hd6, hm6⟩
      have HM6 := Lib.hid hm6
      have HD6 := Lib.hid (hd6.mono (A' := fun b => nv3.ownBlock ≠ some b) (fun b _ hb he => by have := HNV3.out b he; omega))
      have hsz6 := hm6.size
      obtain ⟨vq, hoq, haq⟩ := HQV5.out.mod0 hm6
      obtain ⟨vs6, ho6, ha6⟩ := HD6.out
      have HOQ := Lib.hid hoq; have HAQ := Lib.hid haq; have HO6 := Lib.hid ho6; have HA6 := Lib.hid ha6
      clear hoq haq ho6 ha6 hd6 hm6 c5 f5
      go_wp2_with (at_builtin; refine wpList_app_row w.heap.size 246 291 .nilFunc 1 8 rfl _ _ rfl Tryz.underlying246 Tryz.i_deed rfl (by decide) (by decide) _ _ _ HOQ.out rfl _ _ _ _ HO6.out ?_ rfl (deeds_one HA6.out) ?_ ?_ ?_)
      case refine_1 => rw [pd_len]; omega
      case refine_2 => rw [pgs_len, pd_len]; omega
      case refine_3 => omega
      intro qv7 w7 hown hg
      have HO7 := Lib.hid hown; have HG7 := Lib.hid hg
      clear hown hg
      go_wp2_with fail
      go_roundw
      case rel =>
        have hg7 := HG7.out
        have hget : l.getD j (0, []) = (X1, X2) := by rw [List.getD_eq_getElem?_getD, HXX.out]; rfl
        have hgetP : G.pages.getD X1 [] = PD := by rw [List.getD_eq_getElem?_getD, HPD.out]; rfl
        have e1 : imgsD G.pages l (j + 1) = imgsD G.pages l j ++ pageDeeds (imageN j) PD 4 := by
          simp only [imgsD, List.range_succ, List.flatMap_append, List.flatMap_cons, List.flatMap_nil, List.append_nil, hget, hgetP]
        have e2 : pgsD l (j + 1) = pgsD l j ++ pageDeeds (placeN X1) X2 4 := by
          simp only [pgsD, List.range_succ, List.flatMap_append, List.flatMap_cons, List.flatMap_nil, List.append_nil, hget]
        refine ⟨j + 1, by omega, by go_num, (HMW5.out.trans HM6.out (by simp)).trans hg7.mod (fun x hx => by simp at hx; exact .inr (HQV.out.lt x hx).1), ?_, ⟨vi ++ vs4, ?_, ?_⟩, ⟨vq ++ vs6, ?_, ?_⟩, ?_⟩
        · have h1 := own_mod (own_mod HNV5.out HM6.out (by simp)) hg7.mod (fun b hb hm => by simp at hm; exact own_ne' HOQ.out (own_mod HNV5.out HM6.out (by simp)) (by decide) b hm hb)
          unfold Ints
          rw [HX.out]
          simpa [show min j l.length = j by omega] using h1
        · rw [e1, List.length_append]
          exact own_mod (own_mod HO5.out HM6.out (by simp)) hg7.mod (fun b hb hm => by simp at hm; exact HI5.out b hb hm)
        · rw [e1]
          exact (HA5.out.imp fun a b hab => (hab.mod0 HM6.out).own HOQ.out hg7.mod)
        · rw [e2, List.length_append]
          exact HO7.out
        · rw [e2]
          exact (HAQ.out.app HA6.out).imp fun a b hab => hab.own HOQ.out hg7.mod
        · intro b hb h7
          rcases hg7.place b h7 with h | h
          · exact HI5.out b hb h
          · have := (HL5.out b hb).2; omega
      case measure => simp [intOf]; omega
    · obtain rfl : j = l.length := by omega
      rw [List.take_length] at hnv
      have hnv' := hnv
      obtain ⟨nao, nc, rfl, hnr, -⟩ := RdS.ofOwn hnv (by simp; omega)
      have hfl : (l.map fun c : Chg => (c.1 : Int)).map (fun n : Int => Value.int .i64 n) = (l.map (·.1)).flatMap fun n : Nat => intc (n : Int) := by
        rw [List.map_map, List.flatMap_map, List.map_eq_flatMap]; rfl
      rw [hfl] at hnr
      have HN := Lib.hid hnr; have HIV := Lib.hid hiv; have HQV := Lib.hid hqv; have HM := Lib.hid hm
      have hsz := hm.size
      have HUW := Lib.hid (uWrite_c nao nc (l.map (·.1)) wr (fun n hn => by
        obtain ⟨c, hc, rfl⟩ := List.mem_map.1 hn
        have := HL.out.lt c hc; omega) HL.out.nd (by simpa using h31) (by simpa using hnr))
      have hln : (l.map (·.1)).length = l.length := by simp
      rw [List.length_map] at HUW
      clear hnv hnv' hfl hnr hiv hqv hdis hm hln HR
      rw [List.length_map]
      go_wp2_with fail
      refine HUW.out.mono ?_
      rintro e w1 ⟨rfl, hm1⟩
      have HM1 := Lib.hid hm1
      have hz1 := hm1.size
      clear hm1
      go_wp2_with fail
      generalize hDL : dirL (l.map (·.1)) = DL
      have HDL := Lib.hid hDL; clear hDL
      refine (pwrite_c p d 1 DL w1).mono ?_
      rintro e w2 ⟨v2, rfl, hd2, hm2⟩
      have HD2 := Lib.hid (hd2.mono (A' := fun _ => True) (fun _ _ _ => trivial)); have HM2 := Lib.hid (HM1.out.trans hm2 (by simp))
      have hz2 := HM2.out.size
      clear hd2 hm2
      obtain ⟨x2, y2, z2, rfl, -⟩ : ∃ x y z, v2 = .func (.func 265) #[] #[pt x, pt y, pt z] ∧ True := by
        obtain ⟨x, y, z, h1, -⟩ := HD2.out; exact ⟨x, y, z, h1, trivial⟩
      have HL2 := Lib.hid (own_lit w2 wr.heap.size 291 1 [.func (.func 265) #[] #[pt x2, pt y2, pt z2]] 1 hz2 rfl (by decide))
      have hMa : Mod [] w2 (w2.alloc (Obj.cells #[.func (.func 265) #[] #[pt x2, pt y2, pt z2]] 291)) := (Mod.refl _ _).alloc _
      obtain ⟨vi, hoi, hai⟩ := (HIV.out.mod0 HM2.out).mod0 hMa
      have HOI := Lib.hid hoi; have HAI := Lib.hid hai; have HMA := Lib.hid hMa
      have hza := hMa.size
      clear hoi hai hMa
      go_wp2_with (at_builtin; refine wpList_app_row wr.heap.size 246 291 .nilFunc 1 8 rfl _ _ rfl Tryz.underlying246 Tryz.i_deed rfl (by decide) (by decide) _ _ _ HL2.out rfl _ _ _ _ HOI.out ?_ rfl (deeds_one HAI.out) ?_ ?_ ?_)
      case refine_1 => rw [imgs_len]; omega
      case refine_2 => rw [imgs_len]; omega
      case refine_3 => omega
      intro o3 w3 hown hg
      have HM3 := Lib.hid ((HM2.out.trans HMA.out (by simp)).trans hg.mod (fun x hx => by simp at hx; exact .inr (own_lt HL2.out x hx).1))
      have HO3 := Lib.hid hown
      have HA3 := Lib.hid (All2.cons ((HD2.out.mod0 HMA.out).own HL2.out hg.mod) (HAI.out.imp fun a b hab => (hab.mono (A' := fun _ => True) (fun _ _ _ => trivial)).own HL2.out hg.mod))
      have hz3 := HM3.out.size
      clear hown hg
      obtain ⟨cp, fp⟩ := cells_of (H.out.mod0 (HM.out.trans HM3.out (by simp))).at_.at_
      go_wp2_with (at_builtin; refine wpList_app_new wr.heap.size 246 291 .nilFunc 1 8 _ [.func (.func 171) #[pt d] #[]] _ rfl _ _ rfl Tryz.underlying246 Tryz.i_deed rfl (by decide) (by decide) _ _ _ HO3.out rfl 1 1 rfl rfl rfl ?_ ?_ ?_)
      case refine_1 => rw [imgs_len]; omega
      case refine_2 => omega
      intro o4 w4 hown hg
      have HM4 := Lib.hid (HM3.out.trans hg.mod (fun x hx => by simp at hx; exact .inr (own_lt HO3.out x hx).1))
      have HO4 := Lib.hid hown
      have HA4 := Lib.hid ((HA3.out.imp fun a b hab => hab.own HO3.out hg.mod).app (All2.cons (R := DeedAt w4 p d fun _ => True) (a := Deed.sync) rfl .nil))
      have hz4 := HM4.out.size
      clear hown hg cp fp
      go_wp2_with fail
      refine (pmark_c p d _ _ _ true _ (H.out.mod0 (HM.out.trans HM4.out (by simp))).at_).mono ?_
      rintro e w5 ⟨mo, mc, ms, rfl, hmo, hown, hall, hm⟩
      have HM5 := Lib.hid (HM4.out.trans hm (by simp)); have HOM := Lib.hid hown; have HAM := Lib.hid (hall.imp fun a b hab => hab.mono (A' := fun _ => True) (fun _ _ _ => trivial))
      have HO5 := Lib.hid (own_mod HO4.out hm (by simp)); have HA5 := Lib.hid (HA4.out.imp fun a b hab => hab.mod0 hm)
      have hz5 := HM5.out.size
      clear hown hall hm hmo
      go_wp2_with (at_builtin; refine wpList_app_row wr.heap.size 246 291 .nilFunc 1 8 rfl _ _ rfl Tryz.underlying246 Tryz.i_deed rfl (by decide) (by decide) _ _ _ HO5.out rfl _ _ _ _ HOM.out ?_ rfl (deeds_one HAM.out) ?_ ?_ ?_)
      case refine_1 => decide
      case refine_2 => rw [imgs_len]; omega
      case refine_3 => omega
      intro o6 w6 hown hg
      have HM6 := Lib.hid (HM5.out.trans hg.mod (fun x hx => by simp at hx; exact .inr (own_lt HO5.out x hx).1))
      have HO6 := Lib.hid hown
      have HA6 := Lib.hid ((HA5.out.app HAM.out).imp fun a b hab => hab.own HO5.out hg.mod)
      have hz6 := HM6.out.size
      clear hown hg
      go_wp2_with fail
      have hS : Mod [] wr w6.drew := HM6.out.drew
      refine region_tree (n := 9) (Mod [] wr) (Pl.of [(true, 0), (true, 1), (true, 3), (true, 4), (true, 5), (true, 6), (true, 7)] (.two 2 8 (Pl.of [(false, 8)] .done) (Pl.of [(false, 2)] .done))) Tryz.mixed (by kernel_rfl) hS ?_
      (apply Go.Proofs.YtoffondipgjcoaaGreatDoor.plan_q _ rfl hS; · (intro K hK w' hw'; (skip); go_simp; (first | exact hK | exact ⟨rfl, hK⟩)))
      (apply Go.Proofs.YtoffondipgjcoaaGreatDoor.plan_q _ rfl hS; · (intro K hK w' hw'; (skip); go_simp; (first | exact hK | exact ⟨rfl, hK⟩)))
      (apply Go.Proofs.YtoffondipgjcoaaGreatDoor.plan_q _ rfl hS; · (intro K hK w' hw'; (skip); go_simp; (first | exact hK | exact ⟨rfl, hK⟩)))
      (apply Go.Proofs.YtoffondipgjcoaaGreatDoor.plan_q _ rfl hS; · (intro K hK w' hw'; (skip); go_simp; (first | exact hK | exact ⟨rfl, hK⟩)))
      (apply Go.Proofs.YtoffondipgjcoaaGreatDoor.plan_q _ rfl hS; · (intro K hK w' hw'; (skip); go_simp; (first | exact hK | exact ⟨rfl, hK⟩)))
      (apply Go.Proofs.YtoffondipgjcoaaGreatDoor.plan_q _ rfl hS; · (intro K hK w' hw'; (obtain ⟨cp, fp⟩ := cells_of (H.out.mod0 (HM.out.trans hw' (by simp))).at_.at_); go_simp; (first | exact hK | exact ⟨rfl, hK⟩)))
      (apply Go.Proofs.YtoffondipgjcoaaGreatDoor.plan_q _ rfl hS; · (intro K hK w' hw'; (skip); go_simp; (first | exact hK | exact ⟨rfl, hK⟩)))
      have hd6 : Mod [] w6 w6.drew := (Mod.refl _ _).drew
      have HO6d := Lib.hid (own_mod HO6.out hd6 (by simp)); have HA6d := Lib.hid (HA6.out.imp fun a b hab => hab.mod0 hd6)
      have hz6d := hS.size
      have HS6 := Lib.hid hS
      clear hd6
      generalize w6.drew = w6d at *
      refine plan_two rfl rfl ?_ ?_
      · obtain ⟨vq, hoq, haq⟩ := HQV.out.mod0 HS6.out
        have HOQ := Lib.hid hoq; have HAQ := Lib.hid haq
        clear hoq haq
        go_wp2_with (at_builtin; refine wpList_app_row wr.heap.size 246 291 .nilFunc 1 8 rfl _ _ rfl Tryz.underlying246 Tryz.i_deed rfl (by decide) (by decide) _ _ _ HO6d.out rfl _ _ _ _ HOQ.out ?_ rfl (deeds_one HAQ.out) ?_ ?_ ?_)
        case refine_1 => rw [pgs_len]; omega
        case refine_2 => rw [imgs_len, pgs_len]; omega
        case refine_3 => omega
        intro o7 w7 hown hg
        have hm7 := HS6.out.trans hg.mod (fun x hx => by simp at hx; exact .inr (own_lt HO6d.out x hx).1)
        have HM7 := Lib.hid hm7
        have HO7 := Lib.hid hown
        have HA7 := Lib.hid ((HA6d.out.app (HAQ.out.imp fun a b hab => hab.mono (A' := fun _ => True) (fun _ _ _ => trivial))).imp fun a b hab => hab.own HO6d.out hg.mod)
        have hz7 := hm7.size
        clear hown hg hm7
        go_wp2_with fail
        refine plan_n ⟨HM7.out, ?_⟩
        refine plan_e rfl ?_
        go_wp2_with fail
        have hMb : Mod [] w7 (w7.alloc (Obj.cells #[.func (.func 171) #[pt d] #[]] 291)) := (Mod.refl _ _).alloc _
        have HOS := Lib.hid (own_lit w7 wr.heap.size 291 1 [.func (.func 171) #[pt d] #[]] 1 hz7 rfl (by decide))
        have HO8 := Lib.hid (own_mod HO7.out hMb (by simp)); have HA8 := Lib.hid (HA7.out.imp fun a b hab => hab.mod0 hMb)
        have hm8 := HM7.out.trans hMb (by simp)
        have HM8 := Lib.hid hm8
        have hz8 := hm8.size
        generalize hw8 : (w7.alloc (Obj.cells #[.func (.func 171) #[pt d] #[]] 291)) = w8 at *
        generalize hbs : w7.heap.size = bs at *
        clear hMb hm8 hw8
        refine plan_n ⟨HM8.out, plan_t ?_⟩
        simp only [List.drop_succ_cons, List.drop_zero]
        go_wp2_with (at_builtin; refine wpList_app_row wr.heap.size 246 291 .nilFunc 1 8 rfl _ _ rfl Tryz.underlying246 Tryz.i_deed rfl (by decide) (by decide) _ _ _ HO8.out rfl _ _ _ _ HOS.out ?_ rfl rfl ?_ ?_ ?_)
        case refine_1 => decide
        case refine_2 => rw [imgs_len, pgs_len]; omega
        case refine_3 => omega
        intro o9 w9 hown hg
        have HM9 := Lib.hid (HM8.out.trans hg.mod (fun x hx => by simp at hx; exact .inr (own_lt HO8.out x hx).1))
        have HO9 := Lib.hid hown
        have HA9 := Lib.hid ((HA8.out.imp fun a b hab => hab.own HO8.out hg.mod).app (All2.cons (R := DeedAt w9 p d fun _ => True) (a := Deed.sync) rfl .nil))
        clear hown hg
        go_wp2_with fail
        refine (pmark_c p d _ _ _ false _ (H.out.mod0 (HM.out.trans HM9.out (by simp))).at_).mono ?_
        rintro e w10 ⟨no, nc2, ns, rfl, hno, hown, hall, hm⟩
        have HM10 := Lib.hid (HM9.out.trans hm (by simp)); have HON := Lib.hid hown; have HAN := Lib.hid (hall.imp fun a b hab => hab.mono (A' := fun _ => True) (fun _ _ _ => trivial))
        have HO10 := Lib.hid (own_mod HO9.out hm (by simp)); have HA10 := Lib.hid (HA9.out.imp fun a b hab => hab.mod0 hm)
        have hz10 := HM10.out.size
        clear hown hall hm hno
        go_wp2_with (at_builtin; refine wpList_app_row wr.heap.size 246 291 .nilFunc 1 8 rfl _ _ rfl Tryz.underlying246 Tryz.i_deed rfl (by decide) (by decide) _ _ _ HO10.out rfl _ _ _ _ HON.out ?_ rfl (deeds_one HAN.out) ?_ ?_ ?_)
        case refine_1 => decide
        case refine_2 => rw [imgs_len, pgs_len]; omega
        case refine_3 => omega
        intro o11 w11 hown hg
        have HM11 := Lib.hid (HM10.out.trans hg.mod (fun x hx => by simp at hx; exact .inr (own_lt HO10.out x hx).1))
        have HO11 := Lib.hid hown
        have HA11 := Lib.hid ((HA10.out.app HAN.out).imp fun a b hab => hab.own HO10.out hg.mod)
        clear hown hg
        go_wp2_with fail
        go_ret
        have hle : (stepsD G.pages l).length = 1 + (imgsD G.pages l l.length).length + 1 + 2 + (pgsD l l.length).length + 1 + 2 := by
          simp [stepsD, markDeeds]; omega
        refine ⟨_, rfl, HM.out.trans HM11.out (by simp), ?_⟩
        have h1 := own_rebase (B' := w.heap.size) HO11.out (fun b hb => Nat.le_trans hsz (own_lt HO11.out b hb).1)
        have h2 := HA11.out
        unfold Deeds
        rw [hle]
        have hle2 : (imgsD G.pages l l.length).length + 1 + 1 + 2 + (pgsD l l.length).length + 1 + 2 = 1 + (imgsD G.pages l l.length).length + 1 + 2 + (pgsD l l.length).length + 1 + 2 := by omega
        refine ⟨_, by first | exact h1 | (rw [← hle2]; exact h1), ?_⟩
        unfold stepsD
        rw [HDL.out]
        simpa [List.append_assoc] using h2
      · have hMb : Mod [] w6d (w6d.alloc (Obj.cells #[.func (.func 171) #[pt d] #[]] 291)) := (Mod.refl _ _).alloc _
        have HOS0 := Lib.hid (own_lit w6d w6d.heap.size 291 1 [.func (.func 171) #[pt d] #[]] 1 (Nat.le_refl _) rfl (by decide))
        have HO6e := Lib.hid (own_mod HO6d.out hMb (by simp)); have HA6e := Lib.hid (HA6d.out.imp fun a b hab => hab.mod0 hMb)
        have hm6e := HS6.out.trans hMb (by simp)
        have HM6e := Lib.hid hm6e
        have hz6e := hm6e.size
        have HL6 := Lib.hid (own_lt HO6d.out)
        go_wp2_with fail
        generalize hw8 : (w6d.alloc (Obj.cells #[.func (.func 171) #[pt d] #[]] 291)) = w6e at *
        clear hMb hm6e hw8
        refine plan_n ⟨HM6e.out, ?_⟩
        refine plan_e rfl ?_
        obtain ⟨vq, hoq, haq⟩ := HQV.out.mod0 HM6e.out
        have HOQ := Lib.hid hoq; have HAQ := Lib.hid haq
        clear hoq haq
        go_wp2_with (at_builtin; refine wpList_app_row wr.heap.size 246 291 .nilFunc 1 8 rfl _ _ rfl Tryz.underlying246 Tryz.i_deed rfl (by decide) (by decide) _ _ _ HO6e.out rfl _ _ _ _ HOQ.out ?_ rfl (deeds_one HAQ.out) ?_ ?_ ?_)
        case refine_1 => rw [pgs_len]; omega
        case refine_2 => rw [imgs_len, pgs_len]; omega
        case refine_3 => omega
        intro o7 w8 hown hg
        have hm8 := HM6e.out.trans hg.mod (fun x hx => by simp at hx; exact .inr (own_lt HO6e.out x hx).1)
        have HM8 := Lib.hid hm8
        have HO8 := Lib.hid hown
        have HA8 := Lib.hid ((HA6e.out.app (HAQ.out.imp fun a b hab => hab.mono (A' := fun _ => True) (fun _ _ _ => trivial))).imp fun a b hab => hab.own HO6e.out hg.mod)
        have hz8 := hm8.size
        have HOS := Lib.hid (own_mod HOS0.out hg.mod (fun b hb hm => by simp [Value.ownBlock] at hb hm; have := (HL6.out b hm).2; omega))
        generalize hbs : w6d.heap.size = bs at *
        clear hown hg hm8
        go_wp2_with fail
        refine plan_n ⟨HM8.out, plan_t ?_⟩
        simp only [List.drop_succ_cons, List.drop_zero]
        go_wp2_with (at_builtin; refine wpList_app_row wr.heap.size 246 291 .nilFunc 1 8 rfl _ _ rfl Tryz.underlying246 Tryz.i_deed rfl (by decide) (by decide) _ _ _ HO8.out rfl _ _ _ _ HOS.out ?_ rfl rfl ?_ ?_ ?_)
        case refine_1 => decide
        case refine_2 => rw [imgs_len, pgs_len]; omega
        case refine_3 => omega
        intro o9 w9 hown hg
        have HM9 := Lib.hid (HM8.out.trans hg.mod (fun x hx => by simp at hx; exact .inr (own_lt HO8.out x hx).1))
        have HO9 := Lib.hid hown
        have HA9 := Lib.hid ((HA8.out.imp fun a b hab => hab.own HO8.out hg.mod).app (All2.cons (R := DeedAt w9 p d fun _ => True) (a := Deed.sync) rfl .nil))
        clear hown hg
        go_wp2_with fail
        refine (pmark_c p d _ _ _ false _ (H.out.mod0 (HM.out.trans HM9.out (by simp))).at_).mono ?_
        rintro e w10 ⟨no, nc2, ns, rfl, hno, hown, hall, hm⟩
        have HM10 := Lib.hid (HM9.out.trans hm (by simp)); have HON := Lib.hid hown; have HAN := Lib.hid (hall.imp fun a b hab => hab.mono (A' := fun _ => True) (fun _ _ _ => trivial))
        have HO10 := Lib.hid (own_mod HO9.out hm (by simp)); have HA10 := Lib.hid (HA9.out.imp fun a b hab => hab.mod0 hm)
        have hz10 := HM10.out.size
        clear hown hall hm hno
        go_wp2_with (at_builtin; refine wpList_app_row wr.heap.size 246 291 .nilFunc 1 8 rfl _ _ rfl Tryz.underlying246 Tryz.i_deed rfl (by decide) (by decide) _ _ _ HO10.out rfl _ _ _ _ HON.out ?_ rfl (deeds_one HAN.out) ?_ ?_ ?_)
        case refine_1 => decide
        case refine_2 => rw [imgs_len, pgs_len]; omega
        case refine_3 => omega
        intro o11 w11 hown hg
        have HM11 := Lib.hid (HM10.out.trans hg.mod (fun x hx => by simp at hx; exact .inr (own_lt HO10.out x hx).1))
        have HO11 := Lib.hid hown
        have HA11 := Lib.hid ((HA10.out.app HAN.out).imp fun a b hab => hab.own HO10.out hg.mod)
        clear hown hg
        go_wp2_with fail
        go_ret
        have hle : (stepsD G.pages l).length = 1 + (imgsD G.pages l l.length).length + 1 + 2 + (pgsD l l.length).length + 1 + 2 := by
          simp [stepsD, markDeeds]; omega
        refine ⟨_, rfl, HM.out.trans HM11.out (by simp), ?_⟩
        have h1 := own_rebase (B' := w.heap.size) HO11.out (fun b hb => Nat.le_trans hsz (own_lt HO11.out b hb).1)
        have h2 := HA11.out
        unfold Deeds
        rw [hle]
        have hle2 : (imgsD G.pages l l.length).length + 1 + 1 + 2 + (pgsD l l.length).length + 1 + 2 = 1 + (imgsD G.pages l l.length).length + 1 + 2 + (pgsD l l.length).length + 1 + 2 := by omega
        refine ⟨_, by first | exact h1 | (rw [← hle2]; exact h1), ?_⟩
        unfold stepsD
        rw [HDL.out]
        simpa [List.append_assoc] using h2
end Go.Proofs.YtoffondipgjcoaaGreatDoor

/- The contracts of package pager: Commit. -/
set_option linter.unusedVariables false
set_option maxRecDepth 100000
set_option linter.unusedSimpArgs false
namespace Go.Proofs.YtoffondipgjcoaaGreatDoor
open Go.RowKit

def setP (P : List (List UInt8)) (l : List Chg) : List (List UInt8) := l.foldl (fun P c => P.set c.1 c.2) P
theorem setP_len (l : List Chg) : ∀ P, (setP P l).length = P.length := by
  induction l with
  | nil => intro P; rfl
  | cons c l ih => intro P; simp only [setP, List.foldl_cons] at ih ⊢; rw [ih]; simp
theorem setP_snoc (P : List (List UInt8)) (l : List Chg) (c : Chg) : setP P (l ++ [c]) = (setP P l).set c.1 c.2 := by simp [setP, List.foldl_append]
def Pg.commit (G : Pg) (l : List Chg) : Int × Pg :=
  if mayE G.stands l ≠ 0 ∨ l = [] then (mayE G.stands l, G) else
  if (runDeeds (stepsD G.pages l) G.dev).1 ≠ 0 then ((runDeeds (stepsD G.pages l) G.dev).1, { G with dev := (runDeeds (stepsD G.pages l) G.dev).2, stands := true })
  else (0, ⟨(runDeeds (stepsD G.pages l) G.dev).2, setP G.pages l, G.stands, G.commits + 1⟩)
structure PgOK (G : Pg) : Prop where
  pg : ∀ s ∈ G.pages, s.length = 256
  n1 : 1 ≤ G.pages.length
  n2 : G.pages.length ≤ 160
  sure : G.dev.sure.length = 126 + 4 * G.pages.length
  c0 : 0 ≤ G.dev.calls
  c1 : G.dev.calls + 1000 ≤ 4611686018427387904
  k0 : 0 ≤ G.commits
  k1 : G.commits + 1 ≤ 4611686018427387904
theorem part_len (s : List UInt8) (j : Nat) : (part s j).length ≤ 64 := by simp [part]; omega
theorem whole_len (l : List UInt8) (h : l.length ≤ 64) : (wholeL l).length = 64 := by simp [wholeL, zeros]; omega
theorem pd_ok (pl : Nat → Nat) (s : List UInt8) (n : Nat) (h : ∀ j, j < 4 → pl j < n) : ∀ x ∈ pageDeeds pl s 4, x.ok n := by
  intro x hx
  simp only [pageDeeds, List.mem_map, List.mem_range] at hx
  obtain ⟨j, hj, rfl⟩ := hx
  exact ⟨h j hj, part_len s j⟩
theorem mark_ok (yes : Bool) (n : Nat) (h : 2 ≤ n) : ∀ x ∈ markDeeds yes, x.ok n := by
  intro x hx
  simp only [markDeeds, List.mem_cons, List.not_mem_nil, or_false] at hx
  rcases hx with rfl | rfl
  · exact ⟨by omega, by cases yes <;> decide⟩
  · trivial
theorem steps_ok (G : Pg) (hG : PgOK G) (l : List Chg) (hl : ChgOK G.pages.length l) (h31 : l.length ≤ 31) : ∀ x ∈ stepsD G.pages l, x.ok G.dev.sure.length := by
  have hs := hG.sure
  have h1 := hG.n1
  have himg : ∀ x ∈ imgsD G.pages l l.length, x.ok G.dev.sure.length := by
    intro x hx
    simp only [imgsD, List.mem_flatMap, List.mem_range] at hx
    obtain ⟨k, hk, hx⟩ := hx
    exact pd_ok _ _ _ (fun j hj => by rw [hs]; unfold imageN; omega) x hx
  have hpg : ∀ x ∈ pgsD l l.length, x.ok G.dev.sure.length := by
    intro x hx
    simp only [pgsD, List.mem_flatMap, List.mem_range] at hx
    obtain ⟨k, hk, hx⟩ := hx
    have hget : l.getD k (0, []) = l[k] := by rw [List.getD_eq_getElem?_getD, List.getElem?_eq_getElem hk]; rfl
    have := hl.lt _ (List.getElem_mem hk)
    rw [hget] at hx
    exact pd_ok _ _ _ (fun j hj => by rw [hs]; unfold placeN; omega) x hx
  intro x hx
  simp only [stepsD, List.mem_cons, List.mem_append, List.not_mem_nil, or_false] at hx
  rcases hx with rfl | ((((hx | rfl) | hx) | hx) | rfl) | hx
  · refine ⟨by omega, ?_⟩
    rw [dirL, whole_len _ (by simp only [List.length_cons, dir_len, List.length_map]; omega)]
    exact Nat.le_refl _
  · exact himg x hx
  · trivial
  · exact mark_ok true _ (by omega) x hx
  · exact hpg x hx
  · trivial
  · exact mark_ok false _ (by omega) x hx
theorem steps_len (P : List (List UInt8)) (l : List Chg) : (stepsD P l).length = 8 * l.length + 7 := by
  simp [stepsD, markDeeds, imgs_len, pgs_len]; omega
theorem own_set {w : World} {B e n g cap : Nat} {xs : List Value} (h : w.ownsRow B e 1 (.slice (some ⟨g, 0, none⟩) n cap) n xs) {i : Nat} (hi : i < n) (u : Value) :
    (w.setCell ⟨g, i, none⟩ u).ownsRow B e 1 (.slice (some ⟨g, 0, none⟩) n cap) n (xs.set i u) := by
  obtain ⟨hl, h2⟩ := h
  rcases h2 with ⟨hv, rfl⟩ | ⟨g', cap', cur, hv, hbg, hh, h3, h4, h5, h6⟩
  · omega
  · simp only [Value.slice.injEq, Option.some.injEq, Addr.mk.injEq] at hv
    obtain ⟨⟨rfl, _⟩, _, rfl⟩ := hv
    refine ⟨by simpa using hl, .inr ⟨g, cap, cur.setIfInBounds i u, rfl, hbg, hp_set hh, h3, h4, by simpa using h5, ?_⟩⟩
    rw [← h6, Array.toList_setIfInBounds, List.take_set]
theorem strs_blk {w : World} {B g n cap : Nat} {l : List (List UInt8)} (h : Strs w B (.slice (some ⟨g, 0, none⟩) n cap) l) : ∃ cur, w.heap[g]? = some (.cells cur 9 (0, 0)) := by
  rcases h.2 with ⟨hv, _⟩ | ⟨g', cap', cur, hv, hbg, hh, _⟩
  · cases hv
  · simp only [Value.slice.injEq, Option.some.injEq, Addr.mk.injEq] at hv
    obtain ⟨⟨rfl, _⟩, _⟩ := hv
    exact ⟨cur, hh⟩
set_option maxHeartbeats 4000000 in
theorem pCommit_c (p d sb ub : Nat) (pg pcap : Nat) (G : Pg) (ao : Option Addr) (c : Nat) (l : List Chg) (w : World) (h : PgR w p d sb ub (.slice (some ⟨pg, 0, none⟩) G.pages.length pcap) G) (hG : PgOK G) (hl : ChgOK G.pages.length l) (hrd : RdS w 2 ao l.length (l.flatMap chgc))
    (hao : ∀ b off, ao = some ⟨b, off, none⟩ → b ∉ [p, d, sb, ub, pg]) :
    Calls Tryz.prog 154 #[pt p, .slice ao l.length c] w fun e w' => e = .returned (.int .i64 (G.commit l).1) ∧ Mod [p, d, sb, ub, pg] w w' ∧ PgR w' p d sb ub (.slice (some ⟨pg, 0, none⟩) G.pages.length pcap) (G.commit l).2 := by
  have H := Lib.hid h; have HG := Lib.hid hG; have HL := Lib.hid hl; have HR := Lib.hid hrd; have HAO := Lib.hid hao
  have HMAY := Lib.hid (may_c p d sb ub _ G ao c l w h hl hrd)
  clear h hG hl hrd hao
  by_cases hm : mayE G.stands l ≠ 0 ∨ l = []
  · have HC := Lib.hid (show G.commit l = (mayE G.stands l, G) from by unfold Pg.commit; rw [if_pos hm])
    by_cases he : mayE G.stands l = 0
    · obtain rfl : l = [] := hm.resolve_left (fun h => h he)
      rw [he] at HMAY HC
      clear hm he
      go_enter Tryz.func154, Tryz.ntmps154
      go_wp2_with fail
      refine HMAY.out.mono ?_
      rintro e w1 ⟨rfl, hm1⟩
      have HM1 := Lib.hid hm1; clear hm1
      go_wp2_with fail
      go_ret
      rw [HC.out]
      exact ⟨rfl, HM1.out.mono (by simp), H.out.mod0 HM1.out⟩
    · generalize mayE G.stands l = E at *
      have he' : (E != 0) = true := by simpa using he
      clear hm he
      go_enter Tryz.func154, Tryz.ntmps154
      go_wp2_with fail
      refine HMAY.out.mono ?_
      rintro e w1 ⟨rfl, hm1⟩
      have HM1 := Lib.hid hm1; clear hm1
      go_wp2_with fail
      go_ret
      rw [HC.out]
      exact ⟨rfl, HM1.out.mono (by simp), H.out.mod0 HM1.out⟩
  · have hm1 : mayE G.stands l = 0 ∧ l ≠ [] := ⟨Classical.byContradiction fun h => hm (.inl h), fun h => hm (.inr h)⟩
    have hst : l.length ≤ 31 := by
      have := hm1.1
      unfold mayE at this
      split at this
      · exact absurd this (by decide)
      · split at this
        · exact absurd this (by decide)
        · omega
    have hl0 : 0 < l.length := List.length_pos_iff.2 hm1.2
    have HC := Lib.hid (show G.commit l = if (runDeeds (stepsD G.pages l) G.dev).1 ≠ 0 then ((runDeeds (stepsD G.pages l) G.dev).1, { G with dev := (runDeeds (stepsD G.pages l) G.dev).2, stands := true })
      else (0, ⟨(runDeeds (stepsD G.pages l) G.dev).2, setP G.pages l, G.stands, G.commits + 1⟩) from by unfold Pg.commit; rw [if_neg hm])
    have HOK := Lib.hid (steps_ok G HG.out l HL.out hst)
    have hsl := steps_len G.pages l
    rw [hm1.1] at HMAY
    clear hm hm1
    have hnb := H.out.dev.ne
    go_enter Tryz.func154, Tryz.ntmps154
    go_wp2_with fail
    refine HMAY.out.mono ?_
    rintro e w1 ⟨rfl, hm1⟩
    have HM1 := Lib.hid hm1; clear hm1
    go_wp2_with fail
    refine (steps_c p d sb ub _ G ao c l w1 (H.out.mod0 HM1.out) HL.out hl0 hst HG.out.pg HG.out.n2 (HR.out.mod HM1.out (by simp))).mono ?_
    rintro e w2 ⟨v2, rfl, hm2, hd2⟩
    have HM2 := Lib.hid (HM1.out.trans hm2 (by simp)); have HD2 := Lib.hid hd2
    clear hm2 hd2
    go_wp2_with fail
    refine (all_c w1.heap.size p d sb ub (fun _ => True) _ _ _ G.dev (stepsD G.pages l) v2 w2 (H.out.mod0 HM2.out).at_ (H.out.mod0 HM2.out).dev HD2.out HG.out.c0 (by rw [hsl]; have := HG.out.c1; omega) HOK.out (by rw [hsl]; omega)).mono ?_
    generalize hRR : runDeeds (stepsD G.pages l) G.dev = RR at *
    obtain ⟨E, D2⟩ := RR
    dsimp only at *
    have HRR := Lib.hid hRR; clear hRR
    rintro e w3 ⟨rfl, hm3, hd3⟩
    have hp3 : p ∉ [d, sb, ub] := (H.out.mod0 HM2.out).dev.blocks (H.out.mod0 HM2.out).at_.at_ (by decide) (by decide)
    have hpg3 : pg ∉ [d, sb, ub] := by
      obtain ⟨cur, hcur⟩ := strs_blk (H.out.mod0 HM2.out).row
      exact (H.out.mod0 HM2.out).dev.blocks hcur (by decide) (by decide)
    have hppg : p ≠ pg := by
      rintro rfl
      obtain ⟨cur, hcur⟩ := strs_blk H.out.row
      have := H.out.at_.at_
      rw [hcur] at this
      simp at this
    have HM3 := Lib.hid ((HM2.out.mono (R' := [d, sb, ub]) (by simp)).trans hm3 (fun x hx => .inl hx))
    have HD3 := Lib.hid hd3
    have hP3 := (H.out.mod0 HM2.out).at_.mod hm3 hp3
    have HV3 := Lib.hid (own_mod (H.out.mod0 HM2.out).row hm3 (fun b hb => by simp [Value.ownBlock] at hb; subst hb; exact hpg3))
    obtain ⟨cp, fp⟩ := cells_of hP3.at_
    have HP3 := Lib.hid hP3
    have hplt : p < w3.heap.size := lt_of_block hP3.at_
    have HN3 := Lib.hid hp3; have HNG := Lib.hid hpg3; have HPP := Lib.hid hppg
    clear hm3 hd3 hP3 hp3 hpg3 hppg hnb
    by_cases he : E = 0
    · subst he
      rw [if_neg (by simp)] at HC
      clear cp fp
      go_wp2_with fail
      go_loopw [34] (fun i wr => ∃ j : Nat, j ≤ l.length ∧ i = .int .i64 j ∧ Mod [pg] w3 wr ∧ Strs wr 0 (.slice (some ⟨pg, 0, none⟩) G.pages.length pcap) (setP G.pages (l.take j))) (fun i _ => l.length - (intOf i).toNat)
      case atStart => exact ⟨0, Nat.zero_le _, rfl, Mod.refl _ _, HV3.out⟩
      case round =>
        obtain ⟨j, hj, rfl, hm, hv⟩ := hrel
        have hpl : p ∉ [pg] := by simpa using HPP.out
        obtain ⟨cp, fp⟩ := cells_of (HP3.out.mod hm hpl).at_
        have HM := Lib.hid hm; have HV := Lib.hid hv
        by_cases hlt : j < l.length
        · have hrr := (HR.out.mod HM3.out (fun b off hb => by have := HAO.out b off hb; simp at this ⊢; omega)).mod hm (fun b off hb => by have := HAO.out b off hb; simp at this ⊢; omega)
          obtain ⟨b, off, rfl, hcc⟩ := hrr.at (fun x => rfl) (List.getElem?_eq_getElem hlt)
          have hc0 := hcc 0 (by omega)
          have hc1 := hcc 1 (by omega)
          simp only [Nat.add_zero, chgc, List.getElem?_cons_zero, List.getElem?_cons_succ] at hc0 hc1
          have hlj := HL.out.lt _ (List.getElem_mem hlt)
          have hX : (l.take (j + 1)) = l.take j ++ [l[j]] := List.take_succ_eq_append_getElem hlt
          generalize l[j] = X at *
          obtain ⟨X1, X2⟩ := X
          dsimp only at *
          have HX := Lib.hid hX
          clear hX hcc hm hv hrr
          go_wp2_with fail
          have hM0 : Mod [] wr (wr.alloc (Obj.cells #[.int .i64 (X1 : Int), .string (str X2)] 233)) := (Mod.refl _ _).alloc _
          have hB := hp_new wr (Obj.cells #[.int .i64 (X1 : Int), .string (str X2)] 233)
          generalize hw2 : wr.alloc (Obj.cells #[.int .i64 (X1 : Int), .string (str X2)] 233) = w4 at *
          clear hw2 cp fp hc0 hc1
          have hd4 : Mod [] w4 w4.drew := (Mod.refl _ _).drew
          obtain ⟨cp, fp⟩ := cells_of (((HP3.out.mod HM.out hpl).mod hM0 (by simp)).mod hd4 (by simp)).at_
          obtain ⟨cb, fb⟩ := cells_of (hd4.at hB (by simp))
          have hv4 := own_mod (own_mod HV.out hM0 (by simp)) hd4 (by simp)
          have hpre : (setP G.pages (l.take j)).length = G.pages.length := setP_len _ _
          obtain ⟨cur, hcur⟩ := strs_blk hv4
          obtain ⟨cg, fg⟩ := cells_of hcur
          have hm4 := hM0.trans hd4 (by simp)
          obtain ⟨s0, hs0⟩ : ∃ s0, (setP G.pages (l.take j))[X1]? = some s0 := ⟨_, List.getElem?_eq_getElem (by rw [hpre]; exact hlj)⟩
          have cs := strs_at (show Strs w4.drew 0 _ (setP G.pages (l.take j)) from hv4) hs0
          have hv5 := own_mod HV.out hM0 (by simp)
          rw [hpre] at hv5
          have HV4 := Lib.hid hv5; have HM4 := Lib.hid hM0
          clear hv4 hv5 hM0 hB hd4 hm4 cg hcur hs0
          refine region_still_tail 9 Tryz.mixed (by kernel_rfl) ?_
          simp only [List.take_succ_cons, List.take_zero, List.drop_succ_cons, List.drop_zero]
          iterate 9 still_step
          refine wpStill_nil ?_
          go_wp2_with fail
          go_roundw
          case rel =>
            refine ⟨j + 1, by omega, by go_num, ((HM.out.trans HM4.out (by simp)).setCell ⟨pg, X1, none⟩ _ (.inl (by simp))).drew, ?_⟩
            have h5 := own_mod (own_set HV4.out (i := X1) hlj (.string (str X2))) ((Mod.refl [] _).drew) (by simp)
            unfold Strs
            rw [HX.out, setP_snoc, List.length_set, List.map_set, hpre]
            exact h5
          case measure => simp [intOf]; omega
        · obtain rfl : j = l.length := by omega
          rw [List.take_length] at HV
          clear hm hv
          have hk0 := HG.out.k0; have hk1 := HG.out.k1
          have hplr : p < wr.heap.size := Nat.lt_of_lt_of_le hplt HM.out.size
          go_wp2_with fail
          go_ret
          rw [HC.out]
          have hpa := HP3.out.mod HM.out hpl
          have hdev := HD3.out.mod HM.out (by have := HNG.out; simp at this ⊢; omega) (by have := HNG.out; simp at this ⊢; omega) (by have := HNG.out; simp at this ⊢; omega)
          have hnp := HN3.out
          have hsc : Mod [p] wr (wr.setCell ⟨p, 3, none⟩ (.int .i64 (G.commits + 1))) := (Mod.refl _ _).setCell _ _ (.inl (by simp))
          refine ⟨rfl, ((HM3.out.mono (by simp <;> omega)).trans HM.out (by simp)).setCell _ _ (.inl (by simp)), ⟨?_⟩, hdev.mod hsc (by simp at hnp ⊢; omega) (by simp at hnp ⊢; omega) (by simp at hnp ⊢; omega), ?_⟩
          · rw [hp_set hpa.at_]; simp
          · have := own_mod HV.out hsc (fun b hb => by simp [Value.ownBlock] at hb ⊢; subst hb; exact fun h => HPP.out h.symm)
            exact this
    · have he' : (E != 0) = true := by simpa using he
      rw [if_pos he] at HC
      go_wp2_with fail
      go_ret
      rw [HC.out]
      have hnp := HN3.out
      have hsc : Mod [p] w3 (w3.setCell ⟨p, 2, none⟩ (.bool true)) := (Mod.refl _ _).setCell _ _ (.inl (by simp))
      refine ⟨rfl, (HM3.out.mono (by simp <;> omega)).setCell _ _ (.inl (by simp)), ⟨?_⟩, HD3.out.mod hsc (by simp at hnp ⊢; omega) (by simp at hnp ⊢; omega) (by simp at hnp ⊢; omega), ?_⟩
      · rw [hp_set HP3.out.at_]; simp
      · exact own_mod HV3.out hsc (fun b hb => by simp [Value.ownBlock] at hb ⊢; subst hb; exact fun h => HPP.out h.symm)
end Go.Proofs.YtoffondipgjcoaaGreatDoor

/- The contracts of package cache: the ring. -/
set_option linter.unusedVariables false
set_option maxRecDepth 100000
set_option linter.unusedSimpArgs false
namespace Go.Proofs.YtoffondipgjcoaaGreatDoor
open Go.RowKit

abbrev pa (b o : Nat) : Value := .pointer (some ⟨b, o, none⟩)
set_option maxHeartbeats 1000000 in
theorem rout_c (c x pb po nb no : Nat) (k : Int) (w : World)
    (hx0 : w.cell? ⟨x, 0, none⟩ = some (pa pb po)) (hx1 : w.cell? ⟨x, 1, none⟩ = some (pa nb no))
    (v1 v2 : Option Addr) (hp : w.cell? ⟨pb, po + 1, none⟩ = some (.pointer v1)) (hn : w.cell? ⟨nb, no, none⟩ = some (.pointer v2))
    (hfp : w.frozen? ⟨pb, po + 1, none⟩ = false) (hfn : w.frozen? ⟨nb, no, none⟩ = false)
    (hk : w.cell? ⟨c, 6, none⟩ = some (.int .i64 k)) (hfk : w.frozen? ⟨c, 6, none⟩ = false) (h0 : 0 < k) (hk1 : k < 1000)
    (hab : (⟨pb, po + 1, none⟩ : Addr) ≠ ⟨nb, no, none⟩) (hc1 : (⟨pb, po + 1, none⟩ : Addr) ≠ ⟨c, 6, none⟩) (hc2 : (⟨nb, no, none⟩ : Addr) ≠ ⟨c, 6, none⟩) :
    Calls Tryz.prog 127 #[pa c 2, pt x] w fun e w' => w' = ((w.drew.setCell ⟨pb, po + 1, none⟩ (pa nb no)).setCell ⟨nb, no, none⟩ (pa pb po)).setCell ⟨c, 6, none⟩ (.int .i64 (k - 1)) ∧ ∃ v, e = .returned v := by
  go_enter Tryz.func127, Tryz.ntmps127
  go_wp2_with fail
  refine region_still_tail 16 Tryz.mixed (by kernel_rfl) ?_
  simp only [List.take_succ_cons, List.take_zero, List.drop_succ_cons, List.drop_zero]
  iterate 16 still_step
  refine wpStill_nil ?_
  go_wp2_with fail
  go_end0
  exact ⟨rfl, _, rfl⟩
set_option maxHeartbeats 1000000 in
theorem rfirst_c (c x nb no : Nat) (k : Int) (w : World) (hxc : x ≠ c)
    (p0 p1 : Option Addr) (hx0 : w.cell? ⟨x, 0, none⟩ = some (.pointer p0)) (hx1 : w.cell? ⟨x, 1, none⟩ = some (.pointer p1))
    (hfx0 : w.frozen? ⟨x, 0, none⟩ = false) (hfx1 : w.frozen? ⟨x, 1, none⟩ = false)
    (hh : w.cell? ⟨c, 3, none⟩ = some (pa nb no)) (hfh : w.frozen? ⟨c, 3, none⟩ = false)
    (v2 : Option Addr) (hn : w.cell? ⟨nb, no, none⟩ = some (.pointer v2)) (hfn : w.frozen? ⟨nb, no, none⟩ = false)
    (hk : w.cell? ⟨c, 6, none⟩ = some (.int .i64 k)) (hfk : w.frozen? ⟨c, 6, none⟩ = false) (h0 : 0 ≤ k) (hk1 : k < 1000)
    (hab : (⟨c, 3, none⟩ : Addr) ≠ ⟨nb, no, none⟩) (hc2 : (⟨nb, no, none⟩ : Addr) ≠ ⟨c, 6, none⟩) (hnx : nb ≠ x) :
    Calls Tryz.prog 174 #[pa c 2, pt x] w fun e w' => w' = (((((w.setCell ⟨x, 0, none⟩ (pa c 2)).setCell ⟨x, 1, none⟩ (pa nb no)).setCell ⟨c, 3, none⟩ (pt x)).setCell ⟨nb, no, none⟩ (pt x)).setCell ⟨c, 6, none⟩ (.int .i64 (k + 1))).drew.drew ∧ ∃ v, e = .returned v := by
  go_enter Tryz.func174, Tryz.ntmps174
  go_wp2_with fail
  have hS : (fun w' : World => w'.cell? ⟨c, 3, none⟩ = some (pa nb no)) w.drew := hh
  refine region_plan (n := 13) (fun w' => w'.cell? ⟨c, 3, none⟩ = some (pa nb no)) [(true, 0), (true, 1), (true, 2), (true, 3), (true, 4), (true, 5), (true, 6), (true, 7), (true, 8), (true, 9), (true, 10), (true, 11), (false, 12)] Tryz.mixed (by kernel_rfl) hS ?_
  (apply Go.Proofs.YtoffondipgjcoaaGreatDoor.plan_q _ rfl hS; · (intro K hK w' hw'; (skip); go_simp; (first | exact hK | exact ⟨rfl, hK⟩)))
  (apply Go.Proofs.YtoffondipgjcoaaGreatDoor.plan_q _ rfl hS; · (intro K hK w' hw'; (skip); go_simp; (first | exact hK | exact ⟨rfl, hK⟩)))
  (apply Go.Proofs.YtoffondipgjcoaaGreatDoor.plan_q _ rfl hS; · (intro K hK w' hw'; (skip); go_simp; (first | exact hK | exact ⟨rfl, hK⟩)))
  (apply Go.Proofs.YtoffondipgjcoaaGreatDoor.plan_q _ rfl hS; · (intro K hK w' hw'; (skip); go_simp; (first | exact hK | exact ⟨rfl, hK⟩)))
  (apply Go.Proofs.YtoffondipgjcoaaGreatDoor.plan_q _ rfl hS; · (intro K hK w' hw'; (skip); go_simp; (first | exact hK | exact ⟨rfl, hK⟩)))
  (apply Go.Proofs.YtoffondipgjcoaaGreatDoor.plan_q _ rfl hS; · (intro K hK w' hw'; (skip); go_simp; (first | exact hK | exact ⟨rfl, hK⟩)))
  (apply Go.Proofs.YtoffondipgjcoaaGreatDoor.plan_q _ rfl hS; · (intro K hK w' hw'; (skip); go_simp; (first | exact hK | exact ⟨rfl, hK⟩)))
  (apply Go.Proofs.YtoffondipgjcoaaGreatDoor.plan_q _ rfl hS; · (intro K hK w' hw'; (skip); go_simp; (first | exact hK | exact ⟨rfl, hK⟩)))
  (apply Go.Proofs.YtoffondipgjcoaaGreatDoor.plan_q _ rfl hS; · (intro K hK w' hw'; (skip); go_simp; (first | exact hK | exact ⟨rfl, hK⟩)))
  (apply Go.Proofs.YtoffondipgjcoaaGreatDoor.plan_q _ rfl hS; · (intro K hK w' hw'; (replace hw' : w'.cell? ⟨c, 3, none⟩ = some (pa nb no) := hw'); go_simp; (first | exact hK | exact ⟨rfl, hK⟩)))
  (apply Go.Proofs.YtoffondipgjcoaaGreatDoor.plan_q _ rfl hS; · (intro K hK w' hw'; (skip); go_simp; (first | exact hK | exact ⟨rfl, hK⟩)))
  (apply Go.Proofs.YtoffondipgjcoaaGreatDoor.plan_q _ rfl hS; · (intro K hK w' hw'; (skip); go_simp; (first | exact hK | exact ⟨rfl, hK⟩)))
  refine plan_e rfl ?_
  go_wp2_with fail
  refine plan_n ⟨?_, plan_t ?_⟩
  · show (w.setCell ⟨x, 0, none⟩ (.pointer (some ⟨c, 2, none⟩))).cell? ⟨c, 3, none⟩ = _
    rw [World.cell?_setCell_far _ _ _ _ hxc]; exact hh
  simp only [List.drop_succ_cons, List.drop_zero]
  clear hS
  go_wp2_with fail
  have e0 : ((w.setCell ⟨x, 0, none⟩ (pa c 2)).setCell ⟨x, 1, none⟩ (pa nb no)).cell? ⟨x, 0, none⟩ = some (pa c 2) := by
    exact (World.cell?_setCell_other _ _ _ _ (by simp)).trans (World.cell?_setCell_same _ _ _ hx0)
  have e1 : ((w.setCell ⟨x, 0, none⟩ (pa c 2)).setCell ⟨x, 1, none⟩ (pa nb no)).cell? ⟨x, 1, none⟩ = some (pa nb no) := by
    exact World.cell?_setCell_same _ _ _ ((World.cell?_setCell_other _ _ _ _ (by simp)).trans hx1)
  have e2 : ((w.setCell ⟨x, 0, none⟩ (pa c 2)).setCell ⟨x, 1, none⟩ (pa nb no)).cell? ⟨c, 3, none⟩ = some (pa nb no) := by
    rw [World.cell?_setCell_far _ _ _ _ hxc, World.cell?_setCell_far _ _ _ _ hxc]; exact hh
  have e3 : ((w.setCell ⟨x, 0, none⟩ (pa c 2)).setCell ⟨x, 1, none⟩ (pa nb no)).cell? ⟨nb, no, none⟩ = some (.pointer v2) := by
    rw [World.cell?_setCell_far _ _ _ _ (Ne.symm hnx), World.cell?_setCell_far _ _ _ _ (Ne.symm hnx)]; exact hn
  have e4 : ((w.setCell ⟨x, 0, none⟩ (pa c 2)).setCell ⟨x, 1, none⟩ (pa nb no)).cell? ⟨c, 6, none⟩ = some (.int .i64 k) := by
    rw [World.cell?_setCell_far _ _ _ _ hxc, World.cell?_setCell_far _ _ _ _ hxc]; exact hk
  have g2 : ((w.setCell ⟨x, 0, none⟩ (pa c 2)).setCell ⟨x, 1, none⟩ (pa nb no)).frozen? ⟨c, 3, none⟩ = false := by simpa using hfh
  have g3 : ((w.setCell ⟨x, 0, none⟩ (pa c 2)).setCell ⟨x, 1, none⟩ (pa nb no)).frozen? ⟨nb, no, none⟩ = false := by simpa using hfn
  have g4 : ((w.setCell ⟨x, 0, none⟩ (pa c 2)).setCell ⟨x, 1, none⟩ (pa nb no)).frozen? ⟨c, 6, none⟩ = false := by simpa using hfk
  generalize hW : (w.setCell ⟨x, 0, none⟩ (pa c 2)).setCell ⟨x, 1, none⟩ (pa nb no) = w1 at *
  have HW := Lib.hid hW
  clear hW hx0 hx1 hfx0 hfx1 hh hfh hn hfn hk hfk
  have hS : (fun w' : World => w'.cell? ⟨x, 0, none⟩ = some (pa c 2) ∧ w'.cell? ⟨x, 1, none⟩ = some (pa nb no)) w1.drew.drew := ⟨e0, e1⟩
  refine region_plan (n := 13) (fun w' => w'.cell? ⟨x, 0, none⟩ = some (pa c 2) ∧ w'.cell? ⟨x, 1, none⟩ = some (pa nb no)) [(true, 0), (true, 1), (true, 2), (true, 3), (true, 4), (true, 5), (true, 6), (true, 7), (true, 8), (true, 9), (true, 10), (true, 11), (false, 12)] Tryz.mixed (by kernel_rfl) hS ?_
  (apply Go.Proofs.YtoffondipgjcoaaGreatDoor.plan_q _ rfl hS; · (intro K hK w' hw'; (skip); go_simp; (first | exact hK | exact ⟨rfl, hK⟩)))
  (apply Go.Proofs.YtoffondipgjcoaaGreatDoor.plan_q _ rfl hS; · (intro K hK w' hw'; (skip); go_simp; (first | exact hK | exact ⟨rfl, hK⟩)))
  (apply Go.Proofs.YtoffondipgjcoaaGreatDoor.plan_q _ rfl hS; · (intro K hK w' hw'; (skip); go_simp; (first | exact hK | exact ⟨rfl, hK⟩)))
  (apply Go.Proofs.YtoffondipgjcoaaGreatDoor.plan_q _ rfl hS; · (intro K hK w' hw'; (have q := hw'.1); go_simp; (first | exact hK | exact ⟨rfl, hK⟩)))
  (apply Go.Proofs.YtoffondipgjcoaaGreatDoor.plan_q _ rfl hS; · (intro K hK w' hw'; (skip); go_simp; (first | exact hK | exact ⟨rfl, hK⟩)))
  (apply Go.Proofs.YtoffondipgjcoaaGreatDoor.plan_q _ rfl hS; · (intro K hK w' hw'; (skip); go_simp; (first | exact hK | exact ⟨rfl, hK⟩)))
  (apply Go.Proofs.YtoffondipgjcoaaGreatDoor.plan_q _ rfl hS; · (intro K hK w' hw'; (skip); go_simp; (first | exact hK | exact ⟨rfl, hK⟩)))
  (apply Go.Proofs.YtoffondipgjcoaaGreatDoor.plan_q _ rfl hS; · (intro K hK w' hw'; (have q := hw'.2); go_simp; (first | exact hK | exact ⟨rfl, hK⟩)))
  (apply Go.Proofs.YtoffondipgjcoaaGreatDoor.plan_q _ rfl hS; · (intro K hK w' hw'; (skip); go_simp; (first | exact hK | exact ⟨rfl, hK⟩)))
  (apply Go.Proofs.YtoffondipgjcoaaGreatDoor.plan_q _ rfl hS; · (intro K hK w' hw'; (skip); go_simp; (first | exact hK | exact ⟨rfl, hK⟩)))
  (apply Go.Proofs.YtoffondipgjcoaaGreatDoor.plan_q _ rfl hS; · (intro K hK w' hw'; (skip); go_simp; (first | exact hK | exact ⟨rfl, hK⟩)))
  (apply Go.Proofs.YtoffondipgjcoaaGreatDoor.plan_q _ rfl hS; · (intro K hK w' hw'; (skip); go_simp; (first | exact hK | exact ⟨rfl, hK⟩)))
  refine plan_e rfl ?_
  go_wp2_with fail
  refine plan_n ⟨⟨?_, ?_⟩, plan_t ?_⟩
  · show (w1.setCell _ _).cell? _ = _
    rw [World.cell?_setCell_far _ _ _ _ (Ne.symm hxc)]; exact e0
  · show (w1.setCell _ _).cell? _ = _
    rw [World.cell?_setCell_far _ _ _ _ (Ne.symm hxc)]; exact e1
  simp only [List.drop_succ_cons, List.drop_zero]
  clear hS
  go_wp2_with fail
  go_end0
  exact ⟨by rw [HW.out], _, rfl⟩
end Go.Proofs.YtoffondipgjcoaaGreatDoor

/- The contracts of package cache: the ring's rows, New, Pages. -/
set_option linter.unusedVariables false
set_option maxRecDepth 100000
set_option linter.unusedSimpArgs false
namespace Go.Proofs.YtoffondipgjcoaaGreatDoor
open Go.RowKit

set_option maxHeartbeats 1000000 in
theorem rbegin_c (c : Nat) (w : World) (p0 p1 : Option Addr) (h0 : w.cell? ⟨c, 2, none⟩ = some (.pointer p0)) (h1 : w.cell? ⟨c, 3, none⟩ = some (.pointer p1))
    (f0 : w.frozen? ⟨c, 2, none⟩ = false) (f1 : w.frozen? ⟨c, 3, none⟩ = false) :
    Calls Tryz.prog 126 #[pa c 2] w fun e w' => w' = ((w.setCell ⟨c, 2, none⟩ (pa c 2)).setCell ⟨c, 3, none⟩ (pa c 2)).drew ∧ ∃ v, e = .returned v := by
  go_enter Tryz.func126, Tryz.ntmps126
  have hS : (fun w' : World => w'.heap.size = w.heap.size) w.drew := rfl
  refine region_plan (n := 12) (fun w' => w'.heap.size = w.heap.size) [(true, 0), (true, 1), (true, 2), (true, 3), (true, 4), (true, 5), (true, 6), (true, 7), (true, 8), (true, 9), (true, 10), (false, 11)] Tryz.mixed (by kernel_rfl) hS ?_
  iterate 11 (apply Go.Proofs.YtoffondipgjcoaaGreatDoor.plan_q _ rfl hS; · (intro K hK w' hw'; (skip); go_simp; (first | exact hK | exact ⟨rfl, hK⟩)))
  refine plan_e rfl ?_
  go_wp2_with fail
  refine plan_n ⟨by simp, plan_t ?_⟩
  simp only [List.drop_succ_cons, List.drop_zero]
  clear hS
  go_wp2_with fail
  go_end0
  exact ⟨rfl, _, rfl⟩

/-- A link that is kept: its block, its page's number, its bytes. -/
structure Lk where
  blk : Nat
  num : Nat
  data : List UInt8
def hdA (l : List Lk) (e : Nat × Nat) : Nat × Nat := match l with | [] => e | x :: _ => (x.blk, 0)
def lastA : Nat × Nat → List Lk → Nat × Nat
  | p, [] => p
  | _, x :: l => lastA (x.blk, 0) l
abbrev pq (a : Nat × Nat) : Value := pa a.1 a.2
/-- The links of a piece of the ring: p stands ahead, e behind. -/
def segR (w : World) : Nat × Nat → List Lk → Nat × Nat → Prop
  | _, [], _ => True
  | p, x :: l, e => w.heap[x.blk]? = some (.cells #[pq p, pq (hdA l e), .int .i64 (x.num : Int), .string (str x.data)] 199 (0, 0)) ∧ segR w (x.blk, 0) l e
theorem hdA_app (l m : List Lk) (e : Nat × Nat) : hdA (l ++ m) e = hdA l (hdA m e) := by cases l <;> rfl
theorem lastA_app : ∀ (l m : List Lk) (p : Nat × Nat), lastA p (l ++ m) = lastA (lastA p l) m
  | [], _, _ => rfl
  | _ :: l, m, _ => lastA_app l m _
theorem segR_app (w : World) : ∀ (l m : List Lk) (p e : Nat × Nat), segR w p (l ++ m) e ↔ segR w p l (hdA m e) ∧ segR w (lastA p l) m e
  | [], m, p, e => by simp [segR, lastA]
  | x :: l, m, p, e => by
    simp only [List.cons_append, segR, segR_app w l m, lastA, hdA_app, and_assoc]
theorem segR.mod {w w' : World} {R : List Nat} (hm : Mod R w w') : ∀ {l : List Lk} {p e : Nat × Nat}, segR w p l e → (∀ x ∈ l, x.blk ∉ R) → segR w' p l e
  | [], _, _, _, _ => trivial
  | x :: l, p, e, h, hR => ⟨hm.at h.1 (hR x (by simp)), segR.mod hm h.2 (fun y hy => hR y (by simp [hy]))⟩
theorem segR.lt {w : World} : ∀ {l : List Lk} {p e : Nat × Nat}, segR w p l e → ∀ x ∈ l, x.blk < w.heap.size
  | [], _, _, _, x, hx => by simp at hx
  | y :: l, p, e, h, x, hx => by
    rcases List.mem_cons.1 hx with rfl | hx
    · exact lt_of_block h.1
    · exact segR.lt h.2 x hx
/-- The cache at c. -/
structure CaR (w : World) (c am p d sb ub pg pcap : Nat) (size : Nat) (xs : List Lk) (kv : List (Int × (Nat × Nat))) (hits misses : Int) (G : Pg) : Prop where
  at_ : w.heap[c]? = some (.cells #[pt p, .int .i64 (size : Int), pq (lastA (c, 2) xs), pq (hdA xs (c, 2)), .int .i64 0, .string ⟨#[]⟩, .int .i64 (xs.length : Int), .map (some am), .int .i64 hits, .int .i64 misses] 203 (0, 0))
  seg : segR w (c, 2) xs (c, 2)
  nd : (xs.map (·.blk)).Nodup
  nn : (xs.map (·.num)).Nodup
  map : MapAt w am (mkv intK pq kv)
  knd : (kv.map (·.1)).Nodup
  kok : ∀ n : Int, alook kv n = (xs.find? fun x => (x.num : Int) = n).map fun x => (x.blk, 0)
  data : ∀ x ∈ xs, G.pages[x.num]? = some x.data
  len : xs.length ≤ size
  pg : PgR w p d sb ub (.slice (some ⟨pg, 0, none⟩) G.pages.length pcap) G
theorem cNew_c (p d sb ub pg pcap : Nat) (G : Pg) (w : World) (h : PgR w p d sb ub (.slice (some ⟨pg, 0, none⟩) G.pages.length pcap) G) :
    Calls Tryz.prog 66 #[pt p, .int .i64 16] w fun e w' => ∃ c am, e = .returned (pt c) ∧ w.heap.size ≤ c ∧ w.heap.size ≤ am ∧ c ≠ am ∧ Mod [] w w' ∧ CaR w' c am p d sb ub pg pcap 16 [] [] 0 0 G := by
  have H := Lib.hid h
  clear h
  have hmm := @run_makeMap Tryz.prog
  go_enter Tryz.func66, Tryz.ntmps66
  go_wp2_with fail
  rw [show min (max (16 : Int) 0) 64 = 16 from by decide]
  have hb := hp_new1 w (Obj.map #[] 0) (Obj.cells #[pt p, .int .i64 16, .pointer none, .pointer none, .int .i64 0, .string ⟨#[]⟩, .int .i64 0, .map (some w.heap.size), .int .i64 0, .int .i64 0] 203)
  have hmp := (MapAt.new w).mod ((Mod.refl [] _).alloc (Obj.cells #[pt p, .int .i64 16, .pointer none, .pointer none, .int .i64 0, .string ⟨#[]⟩, .int .i64 0, .map (some w.heap.size), .int .i64 0, .int .i64 0] 203)) (by simp)
  have hm0 : Mod [] w ((w.alloc (Obj.map #[] 0)).alloc (Obj.cells #[pt p, .int .i64 16, .pointer none, .pointer none, .int .i64 0, .string ⟨#[]⟩, .int .i64 0, .map (some w.heap.size), .int .i64 0, .int .i64 0] 203)) := ((Mod.refl _ _).alloc _).alloc _
  generalize hW : ((w.alloc (Obj.map #[] 0)).alloc (Obj.cells #[pt p, .int .i64 16, .pointer none, .pointer none, .int .i64 0, .string ⟨#[]⟩, .int .i64 0, .map (some w.heap.size), .int .i64 0, .int .i64 0] 203)) = w1 at *
  clear hW
  obtain ⟨c0, f0⟩ := cells_of hb
  refine (rbegin_c (w.heap.size + 1) w1 none none (c0 2) (c0 3) (f0 2) (f0 3)).mono ?_
  rintro e w2 ⟨rfl, v, rfl⟩
  clear c0 f0
  have HB := Lib.hid hb; have HMP := Lib.hid hmp; have HM0 := Lib.hid hm0
  clear hb hmp hm0
  go_wp2_with fail
  go_ret
  have hm1 : Mod [w.heap.size + 1] w1 ((w1.setCell ⟨w.heap.size + 1, 2, none⟩ (pa (w.heap.size + 1) 2)).setCell ⟨w.heap.size + 1, 3, none⟩ (pa (w.heap.size + 1) 2)).drew := (((Mod.refl _ _).setCell _ _ (.inl (by simp))).setCell _ _ (.inl (by simp))).drew
  have hmm1 : Mod [] w ((w1.setCell ⟨w.heap.size + 1, 2, none⟩ (pa (w.heap.size + 1) 2)).setCell ⟨w.heap.size + 1, 3, none⟩ (pa (w.heap.size + 1) 2)).drew := HM0.out.trans hm1 (by simp)
  refine ⟨w.heap.size + 1, w.heap.size, rfl, by omega, by omega, by omega, hmm1, ⟨?_, trivial, by simp, by simp, HMP.out.mod hm1 (by simp), by simp, by simp [alook], by simp, by simp, H.out.mod0 hmm1⟩⟩
  show ((w1.setCell ⟨w.heap.size + 1, 2, none⟩ (pa (w.heap.size + 1) 2)).setCell ⟨w.heap.size + 1, 3, none⟩ (pa (w.heap.size + 1) 2)).heap[w.heap.size + 1]? = _
  rw [hp_set (hp_set HB.out)]
  simp [lastA, hdA]
end Go.Proofs.YtoffondipgjcoaaGreatDoor

/- The ring's rows: what setting a neighbour's pointer does. -/
set_option linter.unusedVariables false
set_option maxRecDepth 100000
set_option linter.unusedSimpArgs false
namespace Go.Proofs.YtoffondipgjcoaaGreatDoor
open Go.RowKit

theorem segR.setFar {w : World} (a : Addr) (v : Value) {l : List Lk} {p e : Nat × Nat} (h : segR w p l e) (hR : ∀ x ∈ l, x.blk ≠ a.block) : segR (w.setCell a v) p l e :=
  h.mod ((Mod.refl [a.block] w).setCell a v (.inl (by simp))) (fun x hx => by simpa using hR x hx)
/-- The first link's way back. -/
theorem segR.setHd {w : World} (p' : Nat × Nat) {x : Lk} {l : List Lk} {p e : Nat × Nat} (h : segR w p (x :: l) e) (hn : ∀ y ∈ l, y.blk ≠ x.blk) : segR (w.setCell ⟨x.blk, 0, none⟩ (pq p')) p' (x :: l) e := by
  refine ⟨?_, h.2.setFar _ _ hn⟩
  rw [hp_set h.1]; simp
/-- The last link's way on. -/
theorem segR.setLast {w : World} (e' : Nat × Nat) : ∀ {l : List Lk} {x : Lk} {p e : Nat × Nat}, segR w p (l ++ [x]) e → (∀ y ∈ l, y.blk ≠ x.blk) → segR (w.setCell ⟨x.blk, 1, none⟩ (pq e')) p (l ++ [x]) e'
  | [], x, p, e, h, _ => by
    refine ⟨?_, trivial⟩
    rw [hp_set h.1]; simp [hdA]
  | y :: l, x, p, e, h, hn => by
    refine ⟨?_, segR.setLast e' h.2 (fun z hz => hn z (by simp [hz]))⟩
    have h1 := hp_ne (w := w) (p := ⟨x.blk, 1, none⟩) (v := pq e') h.1 (hn y (by simp))
    cases l <;> exact h1
theorem lastA_snoc (p : Nat × Nat) (l : List Lk) (x : Lk) : lastA p (l ++ [x]) = (x.blk, 0) := by rw [lastA_app]; rfl
theorem segR.mid {w : World} {p e : Nat × Nat} {l m : List Lk} {x : Lk} (h : segR w p (l ++ x :: m) e) :
    w.heap[x.blk]? = some (.cells #[pq (lastA p l), pq (hdA m e), .int .i64 (x.num : Int), .string (str x.data)] 199 (0, 0)) := ((segR_app w l (x :: m) p e).1 h).2.1
end Go.Proofs.YtoffondipgjcoaaGreatDoor

/- The contracts of package cache: a link taken out of the ring, put first. -/
set_option linter.unusedVariables false
set_option maxRecDepth 100000
set_option linter.unusedSimpArgs false
namespace Go.Proofs.YtoffondipgjcoaaGreatDoor
open Go.RowKit

def headC (p size am : Nat) (a b : Nat × Nat) (k hits misses : Int) : Array Value :=
  #[pt p, .int .i64 (size : Int), pq a, pq b, .int .i64 0, .string ⟨#[]⟩, .int .i64 k, .map (some am), .int .i64 hits, .int .i64 misses]
structure RgR (w : World) (c p size am : Nat) (hits misses : Int) (xs : List Lk) : Prop where
  at_ : w.heap[c]? = some (.cells (headC p size am (lastA (c, 2) xs) (hdA xs (c, 2)) xs.length hits misses) 203 (0, 0))
  seg : segR w (c, 2) xs (c, 2)
  nd : (xs.map (·.blk)).Nodup
theorem RgR.ne {w : World} {c p size am : Nat} {hits misses : Int} {xs : List Lk} (h : RgR w c p size am hits misses xs) : ∀ x ∈ xs, x.blk ≠ c := by
  intro x hx he
  obtain ⟨l, m, rfl⟩ := List.append_of_mem hx
  have h1 := h.seg.mid
  rw [he, h.at_] at h1
  simp at h1
set_option maxHeartbeats 2000000 in
theorem out_R (c p size am : Nat) (hits misses : Int) (l m : List Lk) (x : Lk) (w : World) (h : RgR w c p size am hits misses (l ++ x :: m)) (hlen : (l ++ x :: m).length < 1000) :
    Calls Tryz.prog 127 #[pa c 2, pt x.blk] w fun e w' => (∃ v, e = .returned v) ∧ RgR w' c p size am hits misses (l ++ m) ∧ Mod (c :: (l ++ m).map (·.blk)) w w' := by
  have hmid := h.seg.mid
  have hne := h.ne
  have hseg := (segR_app w l (x :: m) (c, 2) (c, 2)).1 h.seg
  have hnd := h.nd
  simp only [List.map_append, List.map_cons, List.nodup_append, List.nodup_cons] at hnd
  obtain ⟨hn1, ⟨hn2, hn3⟩, hn4⟩ := hnd
  have hxl : ∀ y ∈ l, y.blk ≠ x.blk := fun y hy => hn4 _ (List.mem_map_of_mem hy) _ (by simp)
  have hxm : ∀ y ∈ m, y.blk ≠ x.blk := fun y hy he => hn2 (he ▸ List.mem_map_of_mem hy)
  have hlm : ∀ y ∈ l, ∀ z ∈ m, y.blk ≠ z.blk := fun y hy z hz => hn4 _ (List.mem_map_of_mem hy) _ (by simp; exact .inr ⟨z, hz, rfl⟩)
  have hlc : ∀ y ∈ l, y.blk ≠ c := fun y hy => hne y (by simp [hy])
  have hmc : ∀ y ∈ m, y.blk ≠ c := fun y hy => hne y (by simp [hy])
  obtain ⟨cm, fm⟩ := cells_of hmid
  obtain ⟨cc, fc⟩ := cells_of h.at_
  -- the neighbours' cells
  have hA : ∃ v1, w.cell? ⟨(lastA (c, 2) l).1, (lastA (c, 2) l).2 + 1, none⟩ = some (.pointer v1) ∧ w.frozen? ⟨(lastA (c, 2) l).1, (lastA (c, 2) l).2 + 1, none⟩ = false := by
    rcases List.eq_nil_or_concat l with rfl | ⟨l', y, rfl⟩
    · exact ⟨_, cc 3, fc 3⟩
    · rw [List.concat_eq_append] at *
      rw [lastA_snoc]
      have := ((segR_app w l' [y] (c, 2) _).1 hseg.1).2.1
      obtain ⟨cy, fy⟩ := cells_of this
      exact ⟨_, cy 1, fy 1⟩
  have hB : ∃ v2, w.cell? ⟨(hdA m (c, 2)).1, (hdA m (c, 2)).2, none⟩ = some (.pointer v2) ∧ w.frozen? ⟨(hdA m (c, 2)).1, (hdA m (c, 2)).2, none⟩ = false := by
    cases m with
    | nil => exact ⟨_, cc 2, fc 2⟩
    | cons z m' =>
      have := hseg.2.2.1
      obtain ⟨cz, fz⟩ := cells_of this
      exact ⟨_, cz 0, fz 0⟩
  obtain ⟨v1, hp, hfp⟩ := hA
  obtain ⟨v2, hn, hfn⟩ := hB
  have hc6 := cc 6; have hf6 := fc 6
  have hpo : (lastA (c, 2) l).2 = 0 ∨ (lastA (c, 2) l).2 = 2 := by
    rcases List.eq_nil_or_concat l with rfl | ⟨l', y, rfl⟩
    · exact .inr rfl
    · rw [List.concat_eq_append, lastA_snoc]; exact .inl rfl
  have hno : (hdA m (c, 2)).2 = 0 ∨ (hdA m (c, 2)).2 = 2 := by cases m <;> simp [hdA]
  refine (rout_c c x.blk (lastA (c, 2) l).1 (lastA (c, 2) l).2 (hdA m (c, 2)).1 (hdA m (c, 2)).2 _ w (cm 0) (cm 1) v1 v2 hp hn hfp hfn hc6 hf6 (by simp; omega) (by omega)
    (fun h => by simp only [Addr.mk.injEq] at h; omega) (fun h => by simp only [Addr.mk.injEq] at h; omega) (fun h => by simp only [Addr.mk.injEq] at h; omega)).mono ?_
  rintro e w' ⟨rfl, he⟩
  refine ⟨he, ?_, ?_⟩
  · have hl2 : ((l ++ x :: m).length : Int) - 1 = ((l ++ m).length : Int) := by simp; omega
    rw [hl2]
    have hsl := hseg.1
    have hsm := hseg.2.2
    refine ⟨?_, (segR_app _ l m _ _).2 ⟨?_, ?_⟩, ?_⟩
    · rcases List.eq_nil_or_concat l with rfl | ⟨l', y, rfl⟩
      · cases m with
        | nil =>
          have h0 : w.drew.heap[c]? = _ := h.at_
          simp only [lastA, hdA, List.nil_append] at h0 ⊢
          rw [hp_set (hp_set (hp_set h0))]; simp [headC]
        | cons z m' =>
          have hz := hmc z (by simp)
          have h0 : w.drew.heap[c]? = _ := h.at_
          simp only [lastA, hdA, List.nil_append] at h0 ⊢
          rw [hp_set (hp_ne (hp_set h0) (Ne.symm hz))]; simp [headC]
      · rw [List.concat_eq_append] at *
        have hy := hlc y (by simp)
        cases m with
        | nil =>
          have h0 : w.drew.heap[c]? = _ := h.at_
          simp only [lastA_snoc, hdA]
          rw [hp_set (hp_set (hp_ne h0 (Ne.symm hy)))]
          cases l' <;> simp [headC, lastA, lastA_app, hdA, hdA_app]
        | cons z m' =>
          have hz := hmc z (by simp)
          have h0 : w.drew.heap[c]? = _ := h.at_
          simp only [lastA_snoc, hdA]
          rw [hp_set (hp_ne (hp_ne h0 (Ne.symm hy)) (Ne.symm hz))]
          cases l' <;> simp [headC, lastA, lastA_app, hdA, hdA_app]
    · rcases List.eq_nil_or_concat l with rfl | ⟨l', y, rfl⟩
      · trivial
      · rw [List.concat_eq_append] at *
        rw [List.map_append, List.nodup_append] at hn1
        have h1 := segR.setLast (w := w.drew) (hdA m (c, 2)) (x := y) (l := l') (p := (c, 2)) (e := hdA (x :: m) (c, 2)) (hsl.mod ((Mod.refl [] w).drew) (by simp)) (fun z hz => hn1.2.2 _ (List.mem_map_of_mem hz) _ (by simp))
        rw [lastA_snoc]
        refine (h1.setFar _ _ ?_).setFar _ _ (fun z hz => hlc z hz)
        intro z hz
        cases m with
        | nil => exact hlc z hz
        | cons u m' => exact hlm z hz u (by simp)
    · cases m with
      | nil => trivial
      | cons u m' =>
        have h0 : segR (w.drew.setCell ⟨(lastA (c, 2) l).1, (lastA (c, 2) l).2 + 1, none⟩ (pa (hdA (u :: m') (c, 2)).1 (hdA (u :: m') (c, 2)).2)) (x.blk, 0) (u :: m') (c, 2) := by
          refine (hsm.mod ((Mod.refl [] w).drew) (by simp)).setFar _ _ ?_
          intro z hz
          rcases List.eq_nil_or_concat l with rfl | ⟨l', y, rfl⟩
          · exact hmc z hz
          · rw [List.concat_eq_append] at *
            rw [lastA_snoc]
            exact fun h => hlm y (by simp) z hz h.symm
        simp only [List.map_cons, List.nodup_cons] at hn3
        exact (h0.setHd (lastA (c, 2) l) (fun z hz he => hn3.1 (he ▸ List.mem_map_of_mem hz))).setFar _ _ (fun z hz => hmc z hz)
    · simp only [List.map_append, List.nodup_append]
      exact ⟨hn1, hn3, fun a ha b hb => hn4 a ha b (by simp at hb ⊢; exact .inr hb)⟩
  · have e1 : (lastA (c, 2) l).1 ∈ c :: (l ++ m).map (·.blk) := by
      rcases List.eq_nil_or_concat l with rfl | ⟨l', y, rfl⟩
      · simp [lastA]
      · rw [List.concat_eq_append, lastA_snoc]; simp
    have e2 : (hdA m (c, 2)).1 ∈ c :: (l ++ m).map (·.blk) := by cases m <;> simp [hdA]
    exact ((((Mod.refl _ _).drew.setCell _ _ (.inl e1)).setCell _ _ (.inl e2)).setCell _ _ (.inl (by simp)))
set_option maxHeartbeats 2000000 in
theorem first_R (c p size am : Nat) (hits misses : Int) (xs : List Lk) (x : Lk) (q0 q1 : Option Addr) (w : World) (h : RgR w c p size am hits misses xs) (hlen : xs.length < 999)
    (hx : w.heap[x.blk]? = some (.cells #[.pointer q0, .pointer q1, .int .i64 (x.num : Int), .string (str x.data)] 199 (0, 0))) (hxn : ∀ y ∈ xs, y.blk ≠ x.blk) :
    Calls Tryz.prog 174 #[pa c 2, pt x.blk] w fun e w' => (∃ v, e = .returned v) ∧ RgR w' c p size am hits misses (x :: xs) ∧ Mod (c :: x.blk :: xs.map (·.blk)) w w' := by
  have hxc : x.blk ≠ c := by
    intro he
    rw [he, h.at_] at hx
    simp at hx
  have hne := h.ne
  obtain ⟨cx, fx⟩ := cells_of hx
  obtain ⟨cc, fc⟩ := cells_of h.at_
  have hB : ∃ v2, w.cell? ⟨(hdA xs (c, 2)).1, (hdA xs (c, 2)).2, none⟩ = some (.pointer v2) ∧ w.frozen? ⟨(hdA xs (c, 2)).1, (hdA xs (c, 2)).2, none⟩ = false := by
    cases xs with
    | nil => exact ⟨_, cc 2, fc 2⟩
    | cons z m' =>
      obtain ⟨cz, fz⟩ := cells_of h.seg.1
      exact ⟨_, cz 0, fz 0⟩
  obtain ⟨v2, hn, hfn⟩ := hB
  have hno : (hdA xs (c, 2)).2 = 0 ∨ (hdA xs (c, 2)).2 = 2 := by cases xs <;> simp [hdA]
  have hnb : (hdA xs (c, 2)).1 ≠ x.blk := by
    cases xs with
    | nil => exact hxc.symm
    | cons z m' => exact hxn z (by simp)
  refine (rfirst_c c x.blk (hdA xs (c, 2)).1 (hdA xs (c, 2)).2 _ w hxc q0 q1 (cx 0) (cx 1) (fx 0) (fx 1) (cc 3) (fc 3) v2 hn hfn (cc 6) (fc 6) (by omega) (by omega)
    (fun h => by simp only [Addr.mk.injEq] at h; omega) (fun h => by simp only [Addr.mk.injEq] at h; omega) hnb).mono ?_
  rintro e w' ⟨rfl, he⟩
  refine ⟨he, ?_, ?_⟩
  · have hl2 : (xs.length : Int) + 1 = ((x :: xs).length : Int) := by simp
    rw [hl2]
    have hxx := hp_set (v := pa (hdA xs (c, 2)).1 (hdA xs (c, 2)).2) (i := 1) (hp_set (v := pa c 2) (i := 0) hx)
    refine ⟨?_, ⟨?_, ?_⟩, ?_⟩
    · have h0 := hp_ne (p := ⟨x.blk, 1, none⟩) (v := pa (hdA xs (c, 2)).1 (hdA xs (c, 2)).2) (hp_ne (p := ⟨x.blk, 0, none⟩) (v := pa c 2) h.at_ hxc.symm) hxc.symm
      cases xs with
      | nil =>
        simp only [hdA] at h0 ⊢
        show (World.setCell _ _ _).heap[c]? = _
        rw [hp_set (hp_set (hp_set h0))]; simp [headC, lastA]
      | cons z m' =>
        have hz := hne z (by simp)
        simp only [hdA] at h0 ⊢
        show (World.setCell _ _ _).heap[c]? = _
        rw [hp_set (hp_ne (hp_set h0) hz.symm)]; simp [headC, lastA]
    · have h1 := hp_ne (p := ⟨c, 6, none⟩) (v := .int .i64 ((x :: xs).length : Int)) (hp_ne (p := ⟨(hdA xs (c, 2)).1, (hdA xs (c, 2)).2, none⟩) (v := pt x.blk) (hp_ne (p := ⟨c, 3, none⟩) (v := pt x.blk) hxx hxc) hnb.symm) hxc
      refine h1.trans ?_
      simp
    · cases xs with
      | nil => trivial
      | cons z m' =>
        have h1 := (((h.seg.setFar ⟨x.blk, 0, none⟩ (pa c 2) hxn).setFar ⟨x.blk, 1, none⟩ (pa (hdA (z :: m') (c, 2)).1 (hdA (z :: m') (c, 2)).2) hxn).setFar ⟨c, 3, none⟩ (pt x.blk) hne)
        have hnd := h.nd
        simp only [List.map_cons, List.nodup_cons] at hnd
        exact ((h1.setHd (x.blk, 0) (fun y hy he => hnd.1 (he ▸ List.mem_map_of_mem hy))).setFar _ _ hne).mod ((Mod.refl [] _).drew.drew) (by simp)
    · simp only [List.map_cons, List.nodup_cons]
      exact ⟨fun hm => by obtain ⟨y, hy, he⟩ := List.mem_map.1 hm; exact hxn y hy he, h.nd⟩
  · have e2 : (hdA xs (c, 2)).1 ∈ c :: x.blk :: xs.map (·.blk) := by cases xs <;> simp [hdA]
    exact ((((((Mod.refl _ _).setCell _ _ (.inl (by simp))).setCell _ _ (.inl (by simp))).setCell _ _ (.inl (by simp))).setCell _ _ (.inl e2)).setCell _ _ (.inl (by simp))).drew.drew
end Go.Proofs.YtoffondipgjcoaaGreatDoor
