/- Part 3 of 27 of the contracts below the law: each theorem states, of one function of the program, at a world of the form that its premises name, what the call answers and what it leaves. -/
import Derived.Test.YtoffondipgjcoaaGreatDoorP1
import Derived.OrdersHeld
import Derived.StillTailTactics
/- A region that draws its order: quiet operations (those that yield the same in every world that meets S) are taken as the plan says, the others come up alone; a tail of operations that come up alone, where S is no longer asked. -/
set_option linter.unusedVariables false
set_option maxRecDepth 100000
set_option linter.unusedSimpArgs false
namespace Go.Proofs.YtoffondipgjcoaaGreatDoor
open Go.RowKit

section
variable {P : Program} {ops : Array Oper} {md : Region.Mode} {S : World → Prop} {Q : Exit → Act → World → Prop}

def noQ : Exit → Act → World → Prop := fun _ _ _ => False
theorem noQ_lets : ¬ LetsOut noQ := fun ⟨_, _, h⟩ => h

def quietAt (P : Program) (ops : Array Oper) (o : Oper) (a : Act) (w : World) (K : Act → Prop) : Prop :=
  if Region.wanted o (yielded ops a.tmps) then o.still P a w K else K (a.put o.dst undef)
def Gives (P : Program) (ops : Array Oper) (S : World → Prop) (o : Oper) (v : Value) (a : Act) : Prop :=
  ∀ w', S w' → quietAt P ops o a w' (· = a.put o.dst v)

theorem quietAt_val {o : Oper} {a : Act} {w : World} {K : Act → Prop} (h : quietAt P ops o a w K) : ∃ v, K (a.put o.dst v) := by
  unfold quietAt at h
  split at h
  · unfold Oper.still at h
    generalize (execOp a.eval o).run P w = r at h
    cases r with
    | ok n w' =>
      cases n <;> simp only [Oper.stillUpon] at h
      case value u => exact ⟨u, h.2⟩
      case skip => exact ⟨_, h.2⟩
      case enter f args => obtain ⟨_, v, _, h2⟩ := h; exact ⟨v, h2⟩
    | halt x w' => simp only [Oper.stillUpon] at h
  · exact ⟨_, h⟩

theorem Gives.wpOp {i : Nat} {o : Oper} {v : Value} {a : Act} (hi : ops[i]? = some o) (hy : Gives P ops S o v a)
    {K : Act → World → Prop} {w : World} (hS : S w) (h : K (a.put o.dst v) w) : wpOp P ops Q i K a w := by
  refine wpOp_of_stOp (K := (· = a.put o.dst v)) (fun a' ha => by subst ha; exact h) ?_
  have := hy w hS
  unfold quietAt at this
  unfold Go.stOp
  simp only [hi]
  exact this

theorem Gives.keep {oi oj : Oper} {v u : Value} {a : Act} (hap : oi.apart ops oj = true) (hsi : ∀ cs b, oi.op ≠ .select cs b)
    (hy : Gives P ops S oi v a) : Gives P ops S oi v (a.put oj.dst u) := by
  obtain ⟨h1, h2, h3⟩ := Oper.apart_spec hap
  intro w' hS
  have h := hy w' hS
  unfold quietAt at h ⊢
  rw [wanted_put oi a oj.dst u h3]
  unfold Oper.still at h ⊢
  rw [execOp_put oi hsi a oj.dst u h3]
  have com : ∀ z : Value, (a.put oj.dst u).put oi.dst z = (a.put oi.dst z).put oj.dst u := fun z => (Act.put_comm a z u h2).symm
  split
  · rename_i hw
    rw [if_pos hw] at h
    generalize (execOp a.eval oi).run P w' = r at h
    cases r with
    | ok n w'' =>
      cases n <;> simp only [Oper.stillUpon] at h ⊢
      case value z => refine ⟨h.1, ?_⟩; rw [com, com, h.2]
      case skip => refine ⟨h.1, ?_⟩; rw [com, com, h.2]
      case enter f args => obtain ⟨hw', z, hc, hn⟩ := h; refine ⟨hw', z, hc, ?_⟩; rw [com, com, hn]
    | halt x w'' => simp only [Oper.stillUpon] at h
  · rename_i hw
    rw [if_neg hw] at h
    rw [com, com, h]
theorem Gives.defers {oi : Oper} {v : Value} {a : Act} (hy : Gives P ops S oi v a) (d : Deferred) : Gives P ops S oi v { a with defers := d :: a.defers } := by
  have pd : ∀ z : Value, ({ a with defers := d :: a.defers } : Act).put oi.dst z = { a.put oi.dst z with defers := d :: (a.put oi.dst z).defers } := fun z => by
    cases oi.dst <;> rfl
  have he : execOp ({ a with defers := d :: a.defers } : Act).eval oi = execOp a.eval oi := rfl
  intro w' hS
  have h := hy w' hS
  unfold quietAt at h ⊢
  unfold Oper.still at h ⊢
  rw [he]
  show if Region.wanted oi (yielded ops a.tmps) then _ else _
  split
  · rename_i hw
    rw [if_pos hw] at h
    generalize (execOp a.eval oi).run P w' = r at h
    cases r with
    | ok n w'' =>
      cases n <;> simp only [Oper.stillUpon] at h ⊢
      case value z => refine ⟨h.1, ?_⟩; rw [pd, pd, h.2]
      case skip => refine ⟨h.1, ?_⟩; rw [pd, pd, h.2]
      case enter f args => obtain ⟨hw', z, hc, hn⟩ := h; refine ⟨hw', z, hc, ?_⟩; rw [pd, pd, hn]
    | halt x w'' => simp only [Oper.stillUpon] at h
  · rename_i hw
    rw [if_neg hw] at h
    rw [pd, pd, h]

theorem wpOp_putG {j : Nat} {oi oj : Oper} {v : Value} (hj : ops[j]? = some oj) (hap : oi.apart ops oj = true)
    (hsi : ∀ cs b, oi.op ≠ .select cs b) (hsj : ∀ cs b, oj.op ≠ .select cs b) {K : Act → World → Prop} {a : Act} {w : World}
    (hy : Gives P ops S oi v a) (h : wpOp P ops noQ j K (a.put oi.dst v) w) :
    wpOp P ops noQ j (fun a' w' => Gives P ops S oi v a' ∧ K (a'.put oi.dst v) w') a w := by
  obtain ⟨h1, h2, h3⟩ := Oper.apart_spec hap
  unfold wpOp at *
  simp only [hj] at *
  rw [wanted_put oj a oi.dst v h1] at h
  split
  · rename_i hw
    simp only [hw, if_true] at h
    rcases h with h | ⟨_, hlets⟩
    case inr => exact absurd hlets noQ_lets
    refine .inl ?_
    unfold Oper.wp at *
    rw [execOp_put oj hsj a oi.dst v h1] at h
    generalize (execOp a.eval oj).run P w = r at *
    cases r with
    | ok n w' =>
      cases n <;> simp only [Oper.upon] at h ⊢
      case value u => exact ⟨hy.keep hap hsi, by rw [← Act.put_comm a v u h2]; exact h⟩
      case skip => exact ⟨hy.keep hap hsi, by rw [← Act.put_comm a v undef h2]; exact h⟩
      case defer d =>
        refine ⟨(hy.defers d).keep hap hsi, ?_⟩
        rw [← Act.put_comm _ v undef h2, ← Act.put_defers]
        exact h
      case enter f args =>
        refine Calls.mono h fun e w'' he => ?_
        cases e with
        | returned u => exact ⟨hy.keep hap hsi, by rw [← Act.put_comm a v u h2]; exact he⟩
        | panicked c => exact he
        | outgrown => exact he
      case row row args => exact Rows.mono h fun u w'' he => ⟨hy.keep hap hsi, by rw [← Act.put_comm a v u h2]; exact he⟩
    | halt x w' =>
      cases x <;> simp only [Oper.upon] at h ⊢
      case panic u => exact h
  · rename_i hw
    simp only [hw] at h
    exact ⟨hy.keep hap hsi, by rw [← Act.put_comm a v undef h2]; exact h⟩

theorem wpOp_ofNoQ {j : Nat} {K : Act → World → Prop} {a : Act} {w : World} (h : wpOp P ops noQ j K a w) : wpOp P ops Q j K a w := by
  unfold wpOp at *
  split
  · simpa [*] using h
  · rename_i o ho
    simp only [ho] at h
    split
    · rename_i hw
      simp only [hw, if_true] at h
      rcases h with h | ⟨_, hlets⟩
      case inr => exact absurd hlets noQ_lets
      refine .inl ?_
      unfold Oper.wp at *
      generalize (execOp a.eval o).run P w = r at *
      cases r with
      | ok n w' =>
        cases n <;> simp only [Oper.upon] at h ⊢
        case enter f args =>
          refine Calls.mono h fun e w'' he => ?_
          cases e with
          | returned u => exact he
          | panicked c => exact absurd he id
          | outgrown => exact absurd he noQ_lets
        all_goals exact h
      | halt x w' =>
        cases x <;> simp only [Oper.upon] at h ⊢
        case panic u => exact absurd h id
    · rename_i hw
      simp only [hw] at h
      exact h

def wpAnyG (P : Program) (md : Region.Mode) (ops : Array Oper) (S : World → Prop) (n : Nat) (L : Array Bool → Act → World → Prop) : Nat → Array Bool → Act → World → Prop
  | 0, listed, a, w => L listed a w
  | f + 1, listed, a, w =>
    Region.ready md ops listed ≠ [] ∧ ∀ i ∈ Region.ready md ops listed, i < n ∧ wpOp P ops noQ i (fun a' w' => S w' ∧ wpAnyG P md ops S n L f (listed.setIfInBounds i true) a' w') a w

theorem wpAny_of_G {n g : Nat} {L : Array Bool → Act → World → Prop} (hL : ∀ listed a w, L listed a w → wpAny P md ops Q g listed a w) :
    ∀ (f : Nat) (listed : Array Bool) (a : Act) (w : World), wpAnyG P md ops S n L f listed a w → wpAny P md ops Q (f + g) listed a w
  | 0, listed, a, w, h => by rw [Nat.zero_add]; exact hL _ _ _ h
  | f + 1, listed, a, w, h => by
    rw [show f + 1 + g = (f + g) + 1 by omega]
    exact ⟨fun h0 => absurd h0 h.1, fun i hi => wpOp_mono (fun a' w' h' => wpAny_of_G hL f _ a' w' h'.2) (wpOp_ofNoQ (h.2 i hi).2)⟩

def TailOK (md : Region.Mode) (ops : Array Oper) (n : Nat) : Prop := n = ops.size ∨ (n < ops.size ∧ Region.sinkB md ops n = true ∧ Region.chainB md ops n = true)
theorem TailOK.lt {n i j : Nat} {listed : Array Bool} (ht : TailOK md ops n) (inv : HeadInv md ops n listed) (hin : i < n) (hun : listed.getD i true = false) (hj : j ∈ Region.ready md ops listed) : j < n := by
  rcases ht with rfl | ⟨hn, hs, hc⟩
  · obtain ⟨_, oj, hoj, _⟩ := mem_ready.1 hj
    exact (Array.getElem?_eq_some_iff.1 hoj).1
  · rcases Nat.lt_or_ge j n with h | h
    · exact h
    · exact absurd hj (tail_waits hs hc hn inv _ i rfl hin hun j h)

theorem wpAnyG_first {n i : Nat} {oi : Oper} {v : Value} {L : Array Bool → Act → World → Prop} (hi : ops[i]? = some oi) (hsel : ∀ (j : Nat) (o : Oper) cs b, ops[j]? = some o → o.op ≠ .select cs b)
    (ht : TailOK md ops n) (hin : i < n) (hdone : ∀ listed a w, L listed a w → ∀ j ∈ Region.ready md ops listed, n ≤ j) :
    ∀ (f : Nat) (listed : Array Bool) (a : Act) (w : World), HeadInv md ops n listed →
      (∀ j oj, ops[j]? = some oj → j ≠ i → listed.getD j true = false → (∀ e ∈ oj.after, Region.binds md e = true → e.on ≠ i) → oi.apart ops oj = true) →
      i ∈ Region.ready md ops listed → Gives P ops S oi v a → S w →
      wpAnyG P md ops S n L f (listed.setIfInBounds i true) (a.put oi.dst v) w → wpAnyG P md ops S n L (f + 1) listed a w := by
  intro f
  induction f with
  | zero =>
    intro listed a w inv _ hr hy hS H
    have hun := (mem_ready.1 hr).1
    refine ⟨fun h => (by rw [h] at hr; cases hr), fun j hj => ?_⟩
    have hjn := ht.lt inv hin hun hj
    refine ⟨hjn, ?_⟩
    by_cases hji : j = i
    · subst hji; exact hy.wpOp hi hS ⟨hS, H⟩
    · have := hdone _ _ _ H j (ready_mono hj hji)
      omega
  | succ f ih =>
    intro listed a w inv hfree hr hy hS H
    have hun := (mem_ready.1 hr).1
    refine ⟨fun h => (by rw [h] at hr; cases hr), fun j hj => ?_⟩
    have hjn := ht.lt inv hin hun hj
    refine ⟨hjn, ?_⟩
    by_cases hji : j = i
    · subst hji; exact hy.wpOp hi hS ⟨hS, H⟩
    · have h1 := (H.2 j (ready_mono hj hji)).2
      obtain ⟨hjun, oj, hoj, hall⟩ := mem_ready.1 hj
      have hnot : ∀ e ∈ oj.after, Region.binds md e = true → e.on ≠ i := fun e he hb heq => by
        have h1 := hall e he hb
        rw [heq, getD_both hun] at h1
        cases h1
      have h2 := wpOp_putG hoj (hfree j oj hoj hji hjun hnot) (fun cs b => hsel i oi cs b hi) (fun cs b => hsel j oj cs b hoj) hy h1
      have hfree' : ∀ k ok, ops[k]? = some ok → k ≠ i → (listed.setIfInBounds j true).getD k true = false →
          (∀ e ∈ ok.after, Region.binds md e = true → e.on ≠ i) → oi.apart ops ok = true := fun k ok hk hki hun hno => by
        refine hfree k ok hk hki ?_ hno
        by_cases hjk : j = k
        · subst hjk; exact hjun
        · rw [getD_set_ne true hjk] at hun; exact hun
      refine wpOp_mono (fun a' w' h3 => ⟨h3.2.1, ih (listed.setIfInBounds j true) a' w' (inv.set hj hjn) hfree' (ready_mono hr (Ne.symm hji)) h3.1 h3.2.1 ?_⟩) h2
      rw [Array.setIfInBounds_comm _ _ hji]
      exact h3.2.2

/-- The plan: q i: number i is quiet, and taken now; e i: it comes up alone; two i j: one of the two comes up. -/
inductive Pl where
  | done
  | q (i : Nat) (t : Pl)
  | e (i : Nat) (t : Pl)
  | two (i j : Nat) (t u : Pl)
def Pl.of : List (Bool × Nat) → Pl → Pl
  | [], t => t
  | (true, i) :: l, t => .q i (Pl.of l t)
  | (false, i) :: l, t => .e i (Pl.of l t)
def planB (md : Region.Mode) (ops : Array Oper) (n : Nat) : Nat → Pl → Array Bool → Bool
  | 0, .done, listed => Region.seqB md ops (ops.size - n) n listed
  | f + 1, .q i t, listed => decide (i < n) && (Region.ready md ops listed).contains i && Region.free md ops listed i && planB md ops n f t (listed.setIfInBounds i true)
  | f + 1, .e i t, listed => decide (i < n) && decide (Region.ready md ops listed = [i]) && planB md ops n f t (listed.setIfInBounds i true)
  | f + 1, .two i j t u, listed => decide (i < n) && decide (j < n) && decide (Region.ready md ops listed = [i, j]) && planB md ops n f t (listed.setIfInBounds i true) && planB md ops n f u (listed.setIfInBounds j true)
  | _, _, _ => false
def planOK (ops : Array Oper) (n : Nat) (t : Pl) : Bool :=
  Region.noSelect ops && (decide (n = ops.size) || (decide (n < ops.size) && Region.sinkB .any ops n && Region.chainB .any ops n)) && planB .any ops n n t (Array.replicate ops.size false)

def wpPlan (P : Program) (ops : Array Oper) (S : World → Prop) (Q : Exit → Act → World → Prop) (n : Nat) : Pl → Act → World → Prop
  | .done, a, w => wpList P ops Q (ops.toList.drop n) a w
  | .q i t, a, w => ∃ o v, ops[i]? = some o ∧ Gives P ops S o v a ∧ wpPlan P ops S Q n t (a.put o.dst v) w
  | .e i t, a, w => wpOp P ops noQ i (fun a' w' => S w' ∧ wpPlan P ops S Q n t a' w') a w
  | .two i j t u, a, w => wpOp P ops noQ i (fun a' w' => S w' ∧ wpPlan P ops S Q n t a' w') a w ∧ wpOp P ops noQ j (fun a' w' => S w' ∧ wpPlan P ops S Q n u a' w') a w

theorem wpAnyG_plan {n : Nat} (hsel : Region.noSelect ops = true) (ht : TailOK md ops n) :
    ∀ (f : Nat) (t : Pl) (listed : Array Bool) (a : Act) (w : World), HeadInv md ops n listed → planB md ops n f t listed = true → S w → wpPlan P ops S Q n t a w →
      wpAnyG P md ops S n (fun listed' a' w' => Region.seqB md ops (ops.size - n) n listed' = true ∧ wpList P ops Q (ops.toList.drop n) a' w') f listed a w
  | 0, .done, listed, a, w, _, hB, _, h => ⟨hB, h⟩
  | f + 1, .q i t, listed, a, w, inv, hB, hS, h => by
    obtain ⟨o, v, hi, hy, hK⟩ := h
    simp only [planB, Bool.and_eq_true, decide_eq_true_eq] at hB
    obtain ⟨⟨⟨hin, hr⟩, hf⟩, hB'⟩ := hB
    have hr' : i ∈ Region.ready md ops listed := by simpa using hr
    exact wpAnyG_first hi (Region.noSelect_spec hsel) ht hin (fun listed' a' w' hL => seqB_ready hL.1) f listed a w inv (Region.free_spec hi hf) hr' hy hS
      (wpAnyG_plan hsel ht f t _ _ w (inv.set hr' hin) hB' hS hK)
  | f + 1, .e i t, listed, a, w, inv, hB, hS, h => by
    simp only [planB, Bool.and_eq_true, decide_eq_true_eq] at hB
    obtain ⟨⟨hin, hr⟩, hB'⟩ := hB
    have hr' : i ∈ Region.ready md ops listed := by rw [hr]; simp
    refine ⟨fun h0 => (by rw [h0] at hr'; cases hr'), fun j hj => ?_⟩
    rw [hr] at hj
    have hji : j = i := by simpa using hj
    subst hji
    exact ⟨hin, wpOp_mono (fun a' w' h' => ⟨h'.1, wpAnyG_plan hsel ht f t _ a' w' (inv.set hr' hin) hB' h'.1 h'.2⟩) h⟩
  | f + 1, .two i j t u, listed, a, w, inv, hB, hS, h => by
    simp only [planB, Bool.and_eq_true, decide_eq_true_eq] at hB
    obtain ⟨⟨⟨⟨hin, hjn⟩, hr⟩, hB1⟩, hB2⟩ := hB
    have hri : i ∈ Region.ready md ops listed := by rw [hr]; simp
    have hrj : j ∈ Region.ready md ops listed := by rw [hr]; simp
    refine ⟨fun h0 => (by rw [h0] at hri; cases hri), fun k hk => ?_⟩
    rw [hr] at hk
    have hk2 : k = i ∨ k = j := by simpa using hk
    rcases hk2 with rfl | rfl
    · exact ⟨hin, wpOp_mono (fun a' w' h' => ⟨h'.1, wpAnyG_plan hsel ht f t _ a' w' (inv.set hri hin) hB1 h'.1 h'.2⟩) h.1⟩
    · exact ⟨hjn, wpOp_mono (fun a' w' h' => ⟨h'.1, wpAnyG_plan hsel ht f u _ a' w' (inv.set hrj hjn) hB2 h'.1 h'.2⟩) h.2⟩
  | 0, .q _ _, _, _, _, _, hB, _, _ => by simp [planB] at hB
  | 0, .e _ _, _, _, _, _, hB, _, _ => by simp [planB] at hB
  | 0, .two _ _ _ _, _, _, _, _, hB, _, _ => by simp [planB] at hB
  | _ + 1, .done, _, _, _, _, hB, _, _ => by simp [planB] at hB

theorem region_tree {id n : Nat} {a : Act} {w : World} {ops : List Oper} (S : World → Prop) (t : Pl) (hm : P.follows .mixedOrders = true) (hB : planOK ops.toArray n t = true)
    (hS : S w.drew) (h : wpPlan P ops.toArray S Q n t a w.drew) : (Code.region id ops.toArray true).wp P Q a w := by
  simp only [planOK, Bool.and_eq_true, Bool.or_eq_true, decide_eq_true_eq] at hB
  obtain ⟨⟨hsel, hT⟩, hplan⟩ := hB
  have ht : TailOK .any ops.toArray n := hT.imp (fun h => h) fun ⟨⟨h1, h2⟩, h3⟩ => ⟨h1, h2, h3⟩
  have hle : n ≤ ops.toArray.size := by rcases ht with h | h <;> omega
  have inv0 : HeadInv .any ops.toArray n (Array.replicate ops.toArray.size false) :=
    ⟨by simp, fun j oj _ hl => (by rw [getD_replicate_false] at hl; cases hl), fun t _ ht => getD_in (by simpa using ht) (getD_replicate_false _ _)⟩
  have H := wpAnyG_plan (md := .any) hsel ht n t _ a _ inv0 hplan hS h
  refine wp_region_any hm ?_
  have := wpAny_of_G (Q := Q) (g := ops.toArray.size - n) (fun listed a' w' hL => by
    have := wpAny_of_seq (md := .any) (Q' := Q) (ops.toArray.toList.drop n) n listed a' w' (fun j => by simp [List.getElem?_drop]) (by simpa using hL.1) hL.2
    simpa using this) _ _ _ _ H
  rw [show n + (ops.toArray.size - n) = ops.toArray.size by omega] at this
  exact this
theorem region_plan {id n : Nat} {a : Act} {w : World} {ops : List Oper} (S : World → Prop) (l : List (Bool × Nat)) (hm : P.follows .mixedOrders = true) (hB : planOK ops.toArray n (Pl.of l .done) = true)
    (hS : S w.drew) (h : wpPlan P ops.toArray S Q n (Pl.of l .done) a w.drew) : (Code.region id ops.toArray true).wp P Q a w :=
  region_tree S _ hm hB hS h

theorem plan_q' {n i : Nat} {o : Oper} {t : Pl} {a a' : Act} {w : World} (hi : ops[i]? = some o) (hS : S w)
    (h : ∀ K : Act → Prop, K a' → ∀ w', S w' → quietAt P ops o a w' K) (k : wpPlan P ops S Q n t a' w) : wpPlan P ops S Q n (.q i t) a w := by
  obtain ⟨v, hv⟩ := quietAt_val (h (fun x => x = a') rfl w hS)
  subst hv
  exact ⟨o, v, hi, fun w' hS' => h (fun x => x = a.put o.dst v) rfl w' hS', k⟩
theorem plan_q {n i : Nat} {ol : List Oper} {o : Oper} {l : List (Bool × Nat)} {t : Pl} {a : Act} (a' : Act) {w : World} (hi : ol[i]? = some o) (hS : S w)
    (h : ∀ K : Act → Prop, K a' → ∀ w', S w' → quietAt P ol.toArray o a w' K) (k : wpPlan P ol.toArray S Q n (Pl.of l t) a' w) : wpPlan P ol.toArray S Q n (Pl.of ((true, i) :: l) t) a w :=
  plan_q' (t := Pl.of l t) (by simpa using hi) hS h k
def contQ (K : Act → World → Prop) : Exit → Act → World → Prop := fun x a w => x = .normal ∧ K a w
theorem plan_e' {i : Nat} {o : Oper} {K : Act → World → Prop} {a : Act} {w : World} (hi : ops[i]? = some o)
    (h : wpList P ops (contQ K) [o] a w) : wpOp P ops noQ i K a w := by
  have hl : ∀ K, ¬ LetsOut (contQ K) := fun K ⟨_, _, h, _⟩ => by cases h
  unfold wpOp
  simp only [hi]
  unfold wpList at h
  split
  · rename_i hw
    simp only [hw, if_true] at h
    rcases h with h | ⟨_, h⟩
    case inr => exact absurd h (hl _)
    refine .inl ?_
    unfold Oper.wp at *
    generalize (execOp a.eval o).run P w = r at *
    cases r with
    | ok n w' =>
      cases n <;> simp only [Oper.upon] at h ⊢
      case enter f args =>
        refine Calls.mono h fun e w'' he => ?_
        cases e with
        | returned u => exact he.2
        | panicked c => exact absurd he.1 (by simp)
        | outgrown => exact absurd he (hl _)
      case row row args => exact Rows.mono h fun u w'' he => he.2
      all_goals exact h.2
    | halt x w' =>
      cases x <;> simp only [Oper.upon] at h ⊢
      case panic u => exact absurd h.1 (by simp)
  · rename_i hw
    simp only [hw] at h
    exact h.2
theorem plan_e {n i : Nat} {ol : List Oper} {o : Oper} {l : List (Bool × Nat)} {t : Pl} {a : Act} {w : World} (hi : ol[i]? = some o)
    (h : wpList P ol.toArray (contQ fun a' w' => S w' ∧ wpPlan P ol.toArray S Q n (Pl.of l t) a' w') [o] a w) : wpPlan P ol.toArray S Q n (Pl.of ((false, i) :: l) t) a w :=
  plan_e' (by simpa using hi) h
theorem plan_two {n i j : Nat} {ol : List Oper} {o o' : Oper} {t u : Pl} {a : Act} {w : World} (hi : ol[i]? = some o) (hj : ol[j]? = some o')
    (h : wpList P ol.toArray (contQ fun a' w' => S w' ∧ wpPlan P ol.toArray S Q n t a' w') [o] a w)
    (h' : wpList P ol.toArray (contQ fun a' w' => S w' ∧ wpPlan P ol.toArray S Q n u a' w') [o'] a w) : wpPlan P ol.toArray S Q n (Pl.of [] (.two i j t u)) a w :=
  ⟨plan_e' (by simpa using hi) h, plan_e' (by simpa using hj) h'⟩
theorem plan_t {n : Nat} {ol : List Oper} {a : Act} {w : World} (h : wpList P ol.toArray Q (ol.drop n) a w) : wpPlan P ol.toArray S Q n (Pl.of [] .done) a w := by
  show wpList _ _ _ _ _ _
  simpa using h
theorem plan_n {K : Act → World → Prop} {a : Act} {w : World} (h : K a w) : contQ K .normal a w := ⟨rfl, h⟩
end
attribute [go_sem] quietAt
theorem Tryz.mixed : Tryz.prog.follows .mixedOrders = true := by kernel_rfl
end Go.Proofs.YtoffondipgjcoaaGreatDoor
