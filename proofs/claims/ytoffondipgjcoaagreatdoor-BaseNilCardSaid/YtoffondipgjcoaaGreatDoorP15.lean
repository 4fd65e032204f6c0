/- Part 15 of 27 of the contracts below the law: each theorem states, of one function of the program, at a world of the form that its premises name, what the call answers and what it leaves. -/
import Derived.Test.YtoffondipgjcoaaGreatDoorP13
import Derived.Test.YtoffondipgjcoaaGreatDoorP9
import Derived.Laws.Cover1
import Derived.Test.YtoffondipgjcoaaGreatDoorShelf
import Derived.Lib.TrimByte
/- The contracts of package pack in lists; small functions of package node. -/
set_option linter.unusedVariables false
set_option maxRecDepth 100000
set_option linter.unusedSimpArgs false
namespace Go.Proofs.YtoffondipgjcoaaGreatDoor
open Go.RowKit

theorem bytesLess_blt : ∀ a b : List UInt8, Op.bytesLess a b = blt a b
  | _, [] => by simp [Op.bytesLess, blt]
  | [], _ :: _ => rfl
  | a :: l, b :: m => by
    simp only [Op.bytesLess, blt, bytesLess_blt l m]
    by_cases h : a.toNat < b.toNat
    · simp [UInt8.lt_iff_toNat_lt, h]
    · by_cases h2 : a.toNat = b.toNat
      · have : a = b := UInt8.toNat_inj.1 h2
        simp [UInt8.lt_iff_toNat_lt, h, h2, this]
      · have : a ≠ b := fun he => h2 (by rw [he])
        simp [UInt8.lt_iff_toNat_lt, h, h2, this]
theorem str_toList (l : List UInt8) : (str l).toList = l := by rw [ByteArray.toList_eq]; rfl
/-! readers in lists -/
def LR.rd (r : LR) : Rd := ⟨Go.Proofs.YtoffondipgjcoaaGreatDoor.str r.rest, (r.err : Int)⟩
theorem rd_take (r : LR) (k : Nat) : r.rd.take k = (str (r.take k).1, (r.take k).2.1, (r.take k).2.2.rd) := by
  obtain ⟨l, e⟩ := r
  unfold Rd.take LR.take LR.rd
  simp only [str_size]
  by_cases he : e = 0
  · subst he
    simp only [Int.natCast_zero, ne_eq, not_true_eq_false, if_false]
    by_cases hk : l.length < k
    · simp [hk, emp, str]
    · simp only [hk, if_false]
      rw [str_sub, str_sub, List.drop_zero, List.take_of_length_le (Nat.le_refl _)]
      rfl
  · have h2 : (e : Int) ≠ 0 := by omega
    simp [he, emp, str]
theorem rd_num (r : LR) (k : Nat) : r.rd.num k = ((r.num k).1, (r.num k).2.rd) := by
  unfold Rd.num LR.num
  rw [rd_take]
  rfl
theorem rd_str (r : LR) (k : Nat) : r.rd.str (k : Int) = (str (r.str k).1, (r.str k).2.rd) := by
  obtain ⟨l, e⟩ := r
  by_cases he : e = 0
  · subst he
    cases l with
    | nil => rfl
    | cons a m =>
      have t1 : LR.take ⟨a :: m, 0⟩ 1 = ([a], true, ⟨m, 0⟩) := by simp [LR.take]
      have s1 : (LR.rd ⟨a :: m, 0⟩).take 1 = (str [a], true, LR.rd ⟨m, 0⟩) := by rw [rd_take, t1]
      have hL : (LR.rd ⟨a :: m, 0⟩).str (k : Int) = if (k : Int) < (a.toNat : Int) then (emp, ⟨str (a :: m), 3⟩) else
          if ((LR.rd ⟨m, 0⟩).take a.toNat).2.1 then (((LR.rd ⟨m, 0⟩).take a.toNat).1, ((LR.rd ⟨m, 0⟩).take a.toNat).2.2) else (((LR.rd ⟨m, 0⟩).take a.toNat).1, { ((LR.rd ⟨m, 0⟩).take a.toNat).2.2 with rest := str (a :: m) }) := by
        unfold Rd.str
        rw [s1]
        rfl
      have hR : (LR.mk (a :: m) 0).str k = if k < a.toNat then ([], ⟨a :: m, 3⟩) else
          if (LR.take ⟨m, 0⟩ a.toNat).2.1 then ((LR.take ⟨m, 0⟩ a.toNat).1, (LR.take ⟨m, 0⟩ a.toNat).2.2) else ([], { (LR.take ⟨m, 0⟩ a.toNat).2.2 with rest := a :: m }) := by
        unfold LR.str
        rw [t1]
        rfl
      rw [hL, hR]
      by_cases hm : k < a.toNat
      · rw [if_pos (by omega), if_pos hm]; rfl
      · rw [if_neg (by omega), if_neg hm, rd_take]
        by_cases ht : (LR.take ⟨m, 0⟩ a.toNat).2.1 = true
        · rw [if_pos ht, if_pos ht]
        · rw [if_neg ht, if_neg ht]
          have h1 : (LR.take ⟨m, 0⟩ a.toNat).1 = [] := by
            unfold LR.take at ht ⊢
            by_cases hq : m.length < a.toNat
            · simp [hq]
            · simp [hq] at ht
          rw [h1]; rfl
  · unfold Rd.str LR.str
    rw [if_pos (by simp [LR.rd]; exact he), if_pos he]
    simp [emp, str, LR.rd]
theorem lNum_c (b : Nat) (r : LR) (k : Nat) (hk : 1 ≤ k) (hk8 : k ≤ 8) (w : World) (h : Rdr w b r.rd) :
    Calls Tryz.prog 71 #[.pointer (some ⟨b, 0, none⟩), .int .i64 (k : Int)] w fun e w' => e = .returned (.int .u64 ((r.num k).1 : Int)) ∧ Mod [b] w w' ∧ Rdr w' b (r.num k).2.rd := by
  have hw : wideN (k : Int) = k := by unfold wideN; omega
  have := Num_c b r.rd k w h
  rw [hw, rd_num] at this
  exact this
theorem lStr_c (b : Nat) (r : LR) (k : Nat) (w : World) (h : Rdr w b r.rd) :
    Calls Tryz.prog 72 #[.pointer (some ⟨b, 0, none⟩), .int .i64 (k : Int)] w fun e w' => e = .returned (.string (str (r.str k).1)) ∧ Mod [b] w w' ∧ Rdr w' b (r.str k).2.rd := by
  have := Str_c b r.rd k w h
  rw [rd_str] at this
  exact this
theorem lRaw_c (b : Nat) (r : LR) (k : Nat) (w : World) (h : Rdr w b r.rd) :
    Calls Tryz.prog 73 #[.pointer (some ⟨b, 0, none⟩), .int .i64 (k : Int)] w fun e w' => e = .returned (.string (str (r.raw k).1)) ∧ Mod [b] w w' ∧ Rdr w' b (r.raw k).2.rd := by
  have := Raw_c b r.rd k w h
  rw [rd_take] at this
  exact this
theorem lLeft_c (b : Nat) (r : LR) (w : World) (h : Rdr w b r.rd) :
    Calls Tryz.prog 74 #[.pointer (some ⟨b, 0, none⟩)] w fun e w' => e = .returned (.int .i64 r.rest.length) ∧ w = w' := Left_c b r.rd w h
theorem lErr_c (b : Nat) (r : LR) (w : World) (h : Rdr w b r.rd) :
    Calls Tryz.prog 75 #[.pointer (some ⟨b, 0, none⟩)] w fun e w' => e = .returned (.int .i64 r.err) ∧ w = w' := Err_c b r.rd w h
theorem dropW_nil (p : UInt8 → Bool) : ∀ l : List UInt8, l.dropWhile p = [] ↔ ∀ x ∈ l, p x = true
  | [] => by simp
  | a :: l => by
    rw [List.dropWhile_cons]
    by_cases h : p a = true
    · rw [if_pos h, dropW_nil p l]; simp [h]
    · rw [if_neg h]; simp [h]
theorem trim_zero (l : List UInt8) : (Lib.trimB l 0).isEmpty = allZero l := by
  rw [Bool.eq_iff_iff, List.isEmpty_iff]
  unfold Lib.trimB Lib.trimLeftB Lib.trimRightB allZero
  rw [dropW_nil, List.all_eq_true]
  constructor
  · intro h x hx
    have hd : l.reverse.dropWhile (· == 0) = [] := by
      apply Classical.byContradiction
      intro hne
      have h1 := List.head_dropWhile_not (· == (0 : UInt8)) hne
      have h2 := h _ (by rw [List.mem_reverse]; exact List.head_mem hne)
      rw [h1] at h2; cases h2
    exact (dropW_nil _ _).1 hd x (by simpa using hx)
  · intro h x hx
    exact h x (by rw [List.mem_reverse] at hx; exact List.mem_reverse.1 ((List.dropWhile_sublist _).subset hx))
theorem Trim_c (l : Bytes) (w : World) (hl : l.length ≤ 140737488355328) :
    Calls Tryz.prog 76 #[.string (str l), .string ⟨#[0]⟩] w fun e w' => (∃ t : Bytes, e = .returned (.string (str t)) ∧ (t.isEmpty = allZero l)) ∧ Mod [] w w' := by
  refine (Tryz.strings_Trim_one (str l) 0 (by decide) w (by rw [str_size]; omega)).mono ?_
  rintro e w' ⟨rfl, hb⟩
  refine ⟨⟨Lib.trimB l 0, rfl, trim_zero l⟩, ?_⟩
  rcases hb with rfl | rfl
  · exact Mod.refl _ _
  · exact (Mod.refl _ _).drew
theorem pstr_small (s : Bytes) (h : s.length ≤ 255) : pstr s = UInt8.ofNat s.length :: s := by
  unfold pstr
  rw [Nat.min_eq_left h, List.take_of_length_le h]
end Go.Proofs.YtoffondipgjcoaaGreatDoor

/- The contracts of package node: keys that rise, pairs. -/
set_option linter.unusedVariables false
set_option maxRecDepth 100000
set_option linter.unusedSimpArgs false
namespace Go.Proofs.YtoffondipgjcoaaGreatDoor
open Go.RowKit

def stc (s : Bytes) : List Value := [.string (str s)]
def pairC (p : Bytes × Bytes) : List Value := [.string (str p.1), .string (str p.2)]
def okKey (p : Option Bytes) (k : Bytes) : Bool := !k.isEmpty && decide (k.length ≤ 32) && (match p with | none => true | some q => blt q k)
theorem rising_cons (p : Option Bytes) (k : Bytes) (l : List Bytes) : risingF p (k :: l) = (okKey p k && risingF (some k) l) := by
  cases p <;> simp [risingF, okKey]
def lastK (p : Option Bytes) (l : List Bytes) : Option Bytes := l.getLast?.or p
theorem rising_snoc : ∀ (l : List Bytes) (p : Option Bytes) (k : Bytes), risingF p (l ++ [k]) = (risingF p l && okKey (lastK p l) k)
  | [], p, k => by rw [List.nil_append, rising_cons]; simp [risingF, lastK]
  | a :: l, p, k => by
    rw [List.cons_append, rising_cons, rising_cons, rising_snoc l (some a) k, Bool.and_assoc]
    have : lastK p (a :: l) = lastK (some a) l := by
      cases l with
      | nil => rfl
      | cons b l => simp [lastK, List.getLast?_cons_cons]; cases h : (b :: l).getLast? <;> simp_all
    rw [this]
theorem rising_pre (p : Option Bytes) : ∀ (a b : List Bytes), risingF p a = false → risingF p (a ++ b) = false := by
  intro a
  induction a generalizing p with
  | nil => intro b h; simp [risingF] at h
  | cons x a ih =>
    intro b h
    rw [List.cons_append, rising_cons] at *
    cases hx : okKey p x with
    | false => rfl
    | true => rw [hx, Bool.true_and] at h; rw [ih _ b h]; rfl
theorem lastK_take (l : List Bytes) (j : Nat) (hj : j < l.length) : lastK none (l.take j) = if j = 0 then none else l[j - 1]? := by
  cases j with
  | zero => simp [lastK]
  | succ j =>
    rw [List.take_succ_eq_append_getElem (by omega)]
    rw [lastK, List.getLast?_concat]
    simp [List.getElem?_eq_getElem (show j < l.length by omega)]
set_option maxHeartbeats 2000000 in
theorem rising_c (ao : Option Addr) (c : Nat) (l : List Bytes) (w : World) (h : RdS w 1 ao l.length (l.flatMap stc)) :
    Calls Tryz.prog 226 #[.slice ao l.length c] w fun e w' => e = .returned (.bool (risingF none l)) ∧ w = w' := by
  have hbig := h.big
  have H := Lib.hid h
  clear h
  go_enter Tryz.func226, Tryz.ntmps226
  go_wp2_with fail
  go_loop [7] (fun i => ∃ j : Nat, j ≤ l.length ∧ i = .int .i64 j ∧ risingF none (l.take j) = true) (fun i => l.length - (intOf i).toNat)
  case atStart => exact ⟨0, Nat.zero_le _, rfl, by simp [risingF]⟩
  case round =>
    obtain ⟨j, hj, rfl, hr⟩ := hrel
    by_cases hlt : j < l.length
    · obtain ⟨b, off, rfl, hcc⟩ := H.out.at (fun x => rfl) (List.getElem?_eq_getElem hlt)
      have hc0 := hcc 0 (by omega)
      simp only [Nat.mul_one, Nat.add_zero, stc, List.getElem?_cons_zero] at hc0
      have hsn := rising_snoc (l.take j) none l[j]
      have hX : (l.take (j + 1)) = l.take j ++ [l[j]] := List.take_succ_eq_append_getElem hlt
      rw [← hX, hr, Bool.true_and, lastK_take l j hlt] at hsn
      have hfalse : risingF none (l.take (j + 1)) = false → risingF none l = false := fun h => by
        have := rising_pre none _ (l.drop (j + 1)) h
        rwa [List.take_append_drop] at this
      have hprev : 0 < j → ∃ q, l[j - 1]? = some q ∧ w.cell? ⟨b, off + (j - 1), none⟩ = some (.string (str q)) := fun h0 => by
        obtain ⟨b', off', he, hcc'⟩ := H.out.at (fun x => rfl) (List.getElem?_eq_getElem (show j - 1 < l.length by omega))
        cases he
        have := hcc' 0 (by omega)
        simp only [Nat.mul_one, Nat.add_zero, stc, List.getElem?_cons_zero] at this
        exact ⟨_, List.getElem?_eq_getElem (by omega), this⟩
      generalize l[j] = X at *
      have hss := str_size X
      have hte := str_toList X
      have HF := Lib.hid hfalse; have HX := Lib.hid hX
      clear hcc hr hX hfalse
      by_cases hX0 : X = []
      · subst hX0
        have HS := Lib.hid (show risingF none (l.take (j + 1)) = false from by rw [hsn]; simp [okKey])
        clear hsn hprev hte hss
        have h0 : str [] = ⟨#[]⟩ := rfl
        rw [h0] at hc0
        clear h0
        go_wp2_with fail
        go_ret
        rw [HF.out HS.out]
        exact ⟨rfl, rfl⟩
      · have he1 : X.isEmpty = false := by cases X with | nil => exact absurd rfl hX0 | cons => rfl
        have he2 : (X == []) = false := by cases X with | nil => exact absurd rfl hX0 | cons => rfl
        by_cases h32 : 32 < X.length
        · have HS := Lib.hid (show risingF none (l.take (j + 1)) = false from by rw [hsn]; simp only [okKey, show decide (X.length ≤ 32) = false from by simp; omega]; simp)
          clear hsn hprev hX0
          go_wp2_with fail
          go_ret
          rw [HF.out HS.out]
          exact ⟨rfl, rfl⟩
        · have h32' : X.length ≤ 32 := by omega
          by_cases hj0 : j = 0
          · subst hj0
            simp only [Nat.add_zero] at hc0
            have HS := Lib.hid (show risingF none (l.take (0 + 1)) = true from by rw [hsn]; simp [okKey, he1, h32'])
            clear hsn hprev hX0 h32
            go_wp2_with fail
            go_round
            case rel => exact ⟨1, by omega, by go_num, HS.out⟩
            case measure => simp [intOf]; omega
          · have hjp : 0 < j := by omega
            obtain ⟨q, hq, hcq⟩ := hprev hjp
            rw [if_neg hj0, hq] at hsn
            have htq := str_toList q
            have hblt := bytesLess_blt q X
            have hsn2 : risingF none (l.take (j + 1)) = blt q X := hsn.trans (by simp [okKey, he1, h32'])
            have hcast : ((j : Int) - 1) = ((j - 1 : Nat) : Int) := by omega
            have hd : decide ((0 : Int) < (j : Int)) = true := by simp; omega
            have HS := Lib.hid hsn2
            have j1 : j - 1 < l.length := by omega
            clear hsn hsn2 hX0 hprev hq h32 hj0
            cases hb : blt q X with
            | true =>
              rw [hb] at hblt HS
              clear hb
              go_wp2_with fail
              go_round
              case rel => exact ⟨j + 1, by omega, by go_num, HS.out⟩
              case measure => simp [intOf]; omega
            | false =>
              rw [hb] at hblt HS
              clear hb
              go_wp2_with fail
              go_ret
              rw [HF.out HS.out]
              exact ⟨rfl, rfl⟩
    · obtain rfl : j = l.length := by omega
      rw [List.take_length] at hr
      have HR := Lib.hid hr
      clear hr
      go_wp2_with fail
      go_ret
      rw [HR.out]
      exact ⟨rfl, rfl⟩
end Go.Proofs.YtoffondipgjcoaaGreatDoor

/- The contracts of package node: a leaf that may be; sizes. -/
set_option linter.unusedVariables false
set_option maxRecDepth 100000
set_option linter.unusedSimpArgs false
namespace Go.Proofs.YtoffondipgjcoaaGreatDoor
open Go.RowKit

abbrev pairV (p : Bytes × Bytes) : Value := .agg #[.string (str p.1), .string (str p.2)]
/-- The slice v holds the pairs l. -/
def PrS (w : World) (v : Value) (l : List (Bytes × Bytes)) : Prop := ∃ ao c, v = .slice ao l.length c ∧ RdS w 2 ao l.length (l.flatMap pairC)
abbrev leafV (pv : Value) : Value := .agg #[.bool true, pv, .slice none 0 0, .slice none 0 0]
def leafN (l : List (Bytes × Bytes)) : Nd := ⟨true, l, [], []⟩
theorem PrS.mod0 {w w' : World} {v : Value} {l : List (Bytes × Bytes)} (h : PrS w v l) (hm : Mod [] w w') : PrS w' v l := by
  obtain ⟨ao, c, rfl, h⟩ := h
  exact ⟨ao, c, rfl, h.mod hm (by simp)⟩
theorem right1_c (p : Bytes × Bytes) (w : World) :
    Calls Tryz.prog 225 #[pairV p] w fun e w' => e = .returned (.bool (decide (40 < p.2.length))) ∧ Mod [] w w' := by
  have h := str_size p.2
  go_enter Tryz.func225, Tryz.ntmps225
  go_wp2_with fail
  go_ret
  exact ⟨ret_bool (by rw [Bool.eq_iff_iff]; simp; omega), (Mod.refl _ _).alloc _⟩
set_option maxHeartbeats 1000000 in
theorem IndexFunc_pair (g : Nat) (eg : ∀ args w, (callFunc g args).run Tryz.prog w = .ok (.enter g args) w) (p : Bytes × Bytes → Bool) (ao : Option Addr) (c : Nat) (xs : List (Bytes × Bytes)) (w : World) (h : RdS w 2 ao xs.length (xs.flatMap pairC))
    (hp : ∀ x ∈ xs, ∀ w', Calls Tryz.prog g #[pairV x] w' fun e w'' => e = .returned (.bool (p x)) ∧ Mod [] w' w'') :
    Calls Tryz.prog 272 #[.slice ao xs.length c, .func (.func g) #[] #[]] w fun e w' => e = .returned (.int .i64 (idxI (xs.findIdx? p))) ∧ Mod [] w w' := by
  have hbig := h.big
  have H := Lib.hid h
  have HP := Lib.hid hp
  clear h hp
  go_enter Tryz.func272, Tryz.ntmps272
  go_wp2
  go_loopw [8] (fun i wr => ∃ j : Nat, j ≤ xs.length ∧ i = .int .i64 j ∧ (∀ i, i < j → ∀ x, xs[i]? = some x → p x = false) ∧ Mod [] w wr) (fun i _ => xs.length - (intOf i).toNat)
  case atStart => exact ⟨0, Nat.zero_le _, rfl, by simp, Mod.refl _ _⟩
  case round =>
    obtain ⟨j, hj, rfl, hno, hm⟩ := hrel
    have HN := Lib.hid hno
    have HM := Lib.hid hm
    by_cases hlt : j < xs.length
    · obtain ⟨b, off, rfl, hc⟩ := (H.out.mod hm (by simp)).at (fun x => rfl) (List.getElem?_eq_getElem hlt)
      have hc0 := hc 0 (by omega)
      have hc1 := hc 1 (by omega)
      simp only [Nat.add_zero, pairC, List.getElem?_cons_zero, List.getElem?_cons_succ] at hc0 hc1
      clear hno hm hc
      go_wp2_with fail
      refine (HP.out _ (List.getElem_mem hlt) _).mono ?_
      rintro e w1 ⟨rfl, hm1⟩
      have HM1 := Lib.hid hm1
      clear hm1
      cases hpx : p xs[j]
      · go_wp2_with fail
        go_roundw
        case rel =>
          refine ⟨j + 1, by omega, by go_num, ?_, HM.out.trans HM1.out (by simp)⟩
          intro i hi x hx
          rcases Nat.lt_or_ge i j with h1 | h1
          · exact HN.out i h1 x hx
          · have : i = j := by omega
            subst this
            rw [List.getElem?_eq_getElem hlt] at hx; cases hx; exact hpx
        case measure => simp [intOf]; omega
      · go_wp2_with fail
        go_ret
        exact ⟨ret_int (by rw [idx_step p xs j hlt HN.out hpx]; rfl), HM.out.trans HM1.out (by simp)⟩
    · clear hno hm
      go_wp2_with fail
      go_ret
      have : j = xs.length := by omega
      subst this
      exact ⟨ret_int (by rw [idx_none p xs HN.out]; rfl), HM.out⟩
theorem ContainsFunc_pair (g : Nat) (eg : ∀ args w, (callFunc g args).run Tryz.prog w = .ok (.enter g args) w) (p : Bytes × Bytes → Bool) (ao : Option Addr) (c : Nat) (xs : List (Bytes × Bytes)) (w : World) (h : RdS w 2 ao xs.length (xs.flatMap pairC))
    (hp : ∀ x ∈ xs, ∀ w', Calls Tryz.prog g #[pairV x] w' fun e w'' => e = .returned (.bool (p x)) ∧ Mod [] w' w'') :
    Calls Tryz.prog 228 #[.slice ao xs.length c, .func (.func g) #[] #[]] w fun e w' => e = .returned (.bool (xs.any p)) ∧ Mod [] w w' := by
  have H := Lib.hid h
  have HP := Lib.hid hp
  clear h hp
  go_enter Tryz.func228, Tryz.ntmps228
  go_wp2_with fail
  refine (IndexFunc_pair g eg p ao c xs w H.out HP.out).mono ?_
  rintro e w1 ⟨rfl, hm1⟩
  have HM1 := Lib.hid hm1
  clear hm1
  generalize hI : idxI (xs.findIdx? p) = I
  have HI := Lib.hid hI; clear hI
  go_wp2_with fail
  go_ret
  refine ⟨ret_bool ?_, HM1.out⟩
  have := idx_any p xs
  rw [HI.out] at this
  exact this
theorem Mod.app {w wr w1 : World} {B e k n : Nat} {v v1 : Value} {xs : List Value} (hm : Mod [] w wr) (hv : wr.ownsRow B e k v n xs) (hB : w.heap.size ≤ B) (hg : Grew wr w1 v v1) : Mod [] w w1 :=
  hm.trans hg.mod (fun x hx => .inr (Nat.le_trans hB (own_lt hv x (by simpa using hx)).1))
set_option maxHeartbeats 1000000 in
theorem keys_c (pv : Value) (l : List (Bytes × Bytes)) (w : World) (h : PrS w pv l) (hl : l.length ≤ 1000000000) :
    Calls Tryz.prog 227 #[leafV pv] w fun e w' => ∃ v, e = .returned v ∧ Strs w' w.heap.size v (l.map (·.1)) ∧ Mod [] w w' := by
  obtain ⟨ao, c, rfl, h⟩ := h
  have H := Lib.hid h
  clear h
  go_enter Tryz.func227, Tryz.ntmps227
  go_wp2_with fail
  go_loopw [3, 9] (fun v i wr => ∃ j : Nat, j ≤ l.length ∧ i = .int .i64 j ∧ Strs wr w.heap.size v ((l.take j).map (·.1)) ∧ Mod [] w wr) (fun _ i _ => l.length - (intOf i).toNat)
  case atStart => exact ⟨0, Nat.zero_le _, rfl, ⟨rfl, .inl ⟨rfl, rfl⟩⟩, (Mod.refl _ _).alloc _⟩
  case round =>
    obtain ⟨j, hj, rfl, hv, hm⟩ := hrel
    have hsz := hm.size
    by_cases hlt : j < l.length
    · obtain ⟨b, off, rfl, hcc⟩ := (H.out.mod hm (by simp)).at (fun x => rfl) (List.getElem?_eq_getElem hlt)
      have hc0 := hcc 0 (by omega)
      have hc1 := hcc 1 (by omega)
      simp only [Nat.add_zero, pairC, List.getElem?_cons_zero, List.getElem?_cons_succ] at hc0 hc1
      have hX : (l.take (j + 1)) = l.take j ++ [l[j]] := List.take_succ_eq_append_getElem hlt
      generalize l[j] = X at *
      obtain ⟨X1, X2⟩ := X
      dsimp only at *
      have HX := Lib.hid hX; have HV := Lib.hid hv; have HM := Lib.hid hm
      have htl : (l.take j).length = j := by rw [List.length_take]; omega
      clear hX hv hm hcc
      have hln : ((l.take j).map (·.1)).length = j := by rw [List.length_map, htl]
      go_wp2_with (with_reducible refine stop_dst 16 rfl ?_)
      refine Stop.go ?_
      have hm2 : Mod [] w (wr.alloc (Obj.cells #[.string (str X1), .string (str X2)] 152)) := HM.out.alloc _
      have hv2 := own_alloc HV.out (Obj.cells #[.string (str X1), .string (str X2)] 152)
      generalize wr.alloc (Obj.cells #[.string (str X1), .string (str X2)] 152) = w2 at *
      have HM2 := Lib.hid hm2; have HV2 := Lib.hid hv2
      have hsz2 := hm2.size
      clear hm2 hv2 hc0 hc1
      go_wp2_with (at_builtin; refine wpList_app_new w.heap.size 44 9 (.string ⟨#[]⟩) 1 16 _ [.string (str X1)] _ rfl _ _ rfl Tryz.underlying44 Tryz.i_str rfl (by decide) (by decide) _ _ _ HV2.out rfl 1 1 rfl rfl rfl ?_ hsz2 ?_)
      case refine_1 => rw [hln]; omega
      case refine_2 =>
      intro v1 w1 ho1 hg1
      have HO1 := Lib.hid ho1; have HG1 := Lib.hid hg1
      clear ho1 hg1
      go_wp2_with fail
      go_roundw
      case rel =>
        refine ⟨j + 1, by omega, by go_num, ?_, ?_⟩
        · rw [HX.out]
          have := HO1.out
          unfold Strs
          simpa [show min j l.length = j from by omega] using this
        · exact HM2.out.app HV2.out (Nat.le_refl _) HG1.out
      case measure => simp [intOf]; omega
    · obtain rfl : j = l.length := by omega
      rw [List.take_length] at hv
      have HV := Lib.hid hv; have HM := Lib.hid hm
      clear hv hm
      go_wp2_with fail
      go_ret
      exact ⟨_, rfl, HV.out, HM.out⟩
end Go.Proofs.YtoffondipgjcoaaGreatDoor

/- The contracts of package node: right, Size, Find of a leaf. -/
set_option linter.unusedVariables false
set_option maxRecDepth 100000
set_option linter.unusedSimpArgs false
namespace Go.Proofs.YtoffondipgjcoaaGreatDoor
open Go.RowKit

theorem enters_right1 : ∀ args w, (callFunc 225 args).run Tryz.prog w = .ok (.enter 225 args) w := enters_of Tryz.func225 (by kernel_rfl) rfl
theorem Strs.rds {w : World} {B : Nat} {v : Value} {l : List Bytes} (h : Strs w B v l) (hl : l.length ≤ 1000000000) : ∃ ao c, v = .slice ao l.length c ∧ RdS w 1 ao l.length (l.flatMap stc) := by
  obtain ⟨ao, c, rfl, hr, -⟩ := RdS.ofOwn h (by omega)
  have : (l.map fun s => Value.string (str s)) = l.flatMap stc := by rw [List.map_eq_flatMap]; rfl
  rw [this] at hr
  exact ⟨ao, c, rfl, hr⟩
set_option maxHeartbeats 1000000 in
theorem nright_c (pv : Value) (l : List (Bytes × Bytes)) (w : World) (h : PrS w pv l) (hl : l.length ≤ 1000000000) :
    Calls Tryz.prog 180 #[leafV pv] w fun e w' => e = .returned (.bool (leafN l).right) ∧ Mod [] w w' := by
  have HV := Lib.hid (show (leafN l).right = (risingF none (l.map (·.1)) && !(l.any fun p => decide (40 < p.2.length))) from by simp [leafN, Nd.right])
  have H := Lib.hid h
  obtain ⟨ao, c, rfl, hrd⟩ := h
  have HR := Lib.hid hrd
  clear hrd
  go_enter Tryz.func180, Tryz.ntmps180
  go_wp2_with fail
  have hm0 : Mod [] w (w.alloc (Obj.cells #[.bool true, .slice ao l.length c, .slice none 0 0, .slice none 0 0] 147)) := (Mod.refl _ _).alloc _
  have hb0 := hp_new w (Obj.cells #[.bool true, .slice ao l.length c, .slice none 0 0, .slice none 0 0] 147)
  generalize w.alloc (Obj.cells #[.bool true, .slice ao l.length c, .slice none 0 0, .slice none 0 0] 147) = w1 at *
  have HM0 := Lib.hid hm0; have HB0 := Lib.hid hb0
  clear hm0 hb0
  refine (keys_c (.slice ao l.length c) l w1 (H.out.mod0 HM0.out) hl).mono ?_
  rintro e w2 ⟨v, rfl, hv, hm⟩
  obtain ⟨a2, c2, rfl, hr2⟩ := Strs.rds hv (by rw [List.length_map]; exact hl)
  have HM2 := Lib.hid hm; have HR2 := Lib.hid hr2
  obtain ⟨cb, fb⟩ := cells_of (hm.at HB0.out (by simp))
  have hC := rising_c a2 c2 (l.map (·.1)) w2 hr2
  rw [List.length_map] at hC
  have HC := Lib.hid hC
  clear hv hm hr2 hC
  go_wp2_with fail
  refine HC.out.mono ?_
  generalize hR : risingF none (l.map (·.1)) = R at *
  have HRR := Lib.hid hR
  clear hR HC
  rintro e w3 ⟨rfl, rfl⟩
  cases R with
  | false =>
    go_wp2_with fail
    go_ret
    rw [HV.out]
    exact ⟨rfl, HM0.out.trans HM2.out (by simp)⟩
  | true =>
    go_wp2_with fail
    refine (ContainsFunc_pair 225 enters_right1 (fun p => decide (40 < p.2.length)) ao c l w2 ((HR.out.mod HM0.out (by simp)).mod HM2.out (by simp)) (fun x _ w' => right1_c x w')).mono ?_
    generalize hA : (l.any fun p => decide (40 < p.2.length)) = Ay at *
    clear hA
    rintro e w4 ⟨rfl, hm4⟩
    have HM4 := Lib.hid hm4
    clear hm4
    go_wp2_with fail
    go_ret
    rw [HV.out]
    exact ⟨rfl, (HM0.out.trans HM2.out (by simp)).trans HM4.out (by simp)⟩
theorem weigh_c (p : Bytes × Bytes) (w : World) (h1 : p.1.length ≤ 1000000000) (h2 : p.2.length ≤ 1000000000) :
    Calls Tryz.prog 231 #[pairV p] w fun e w' => e = .returned (.int .i64 (weigh p : Int)) ∧ Mod [] w w' := by
  have e1 := str_size p.1
  have e2 := str_size p.2
  go_enter Tryz.func231, Tryz.ntmps231
  go_wp2_with fail
  go_ret
  exact ⟨ret_int (by simp [weigh]), (Mod.refl _ _).alloc _⟩
theorem weighs_snoc (l : List (Bytes × Bytes)) (x : Bytes × Bytes) : weighs (l ++ [x]) = weighs l + weigh x := by simp [weighs]
set_option maxHeartbeats 1000000 in
theorem Size_leaf (pv : Value) (l : List (Bytes × Bytes)) (w : World) (h : PrS w pv l) (hl : l.length ≤ 1000000) (hs : ∀ p ∈ l, p.1.length ≤ 1000 ∧ p.2.length ≤ 1000) :
    Calls Tryz.prog 181 #[leafV pv] w fun e w' => e = .returned (.int .i64 ((leafN l).size : Int)) ∧ Mod [] w w' := by
  obtain ⟨ao, c, rfl, h⟩ := h
  have HV := Lib.hid (show (leafN l).size = 2 + weighs l from by simp [leafN, Nd.size])
  have H := Lib.hid h; have HS := Lib.hid hs
  clear h hs
  go_enter Tryz.func181, Tryz.ntmps181
  go_wp2_with fail
  go_loopw [3, 13] (fun n i wr => ∃ j : Nat, j ≤ l.length ∧ i = .int .i64 j ∧ n = .int .i64 ((2 + weighs (l.take j) : Nat) : Int) ∧ weighs (l.take j) ≤ 2002 * j ∧ Mod [] w wr) (fun _ i _ => l.length - (intOf i).toNat)
  case atStart => exact ⟨0, Nat.zero_le _, rfl, rfl, by simp [weighs], (Mod.refl _ _).alloc _⟩
  case round =>
    obtain ⟨j, hj, rfl, rfl, hwj, hm⟩ := hrel
    by_cases hlt : j < l.length
    · obtain ⟨b, off, rfl, hcc⟩ := (H.out.mod hm (by simp)).at (fun x => rfl) (List.getElem?_eq_getElem hlt)
      have hc0 := hcc 0 (by omega)
      have hc1 := hcc 1 (by omega)
      simp only [Nat.add_zero, pairC, List.getElem?_cons_zero, List.getElem?_cons_succ] at hc0 hc1
      have hX : (l.take (j + 1)) = l.take j ++ [l[j]] := List.take_succ_eq_append_getElem hlt
      have hsm := HS.out _ (List.getElem_mem hlt)
      generalize l[j] = X at *
      have hsn := weighs_snoc (l.take j) X
      rw [← hX] at hsn
      have hwx : weigh X ≤ 2002 := by unfold weigh; omega
      have HC := fun w' => Lib.hid (weigh_c X w' (by omega) (by omega))
      generalize weighs (l.take j) = S at *
      generalize weigh X = Wx at *
      obtain ⟨X1, X2⟩ := X
      dsimp only at *
      have HSN := Lib.hid hsn; have HM := Lib.hid hm
      clear hcc hX hsn hm hsm
      go_wp2_with fail
      refine (HC _).out.mono ?_
      rintro e w2 ⟨rfl, hm2⟩
      have HM2 := Lib.hid hm2
      clear hm2
      go_wp2_with fail
      go_roundw
      case rel => exact ⟨j + 1, by omega, by go_num, by rw [HSN.out]; go_num, by rw [HSN.out]; omega, (HM.out.alloc _).trans HM2.out (by simp)⟩
      case measure => simp [intOf]; omega
    · obtain rfl : j = l.length := by omega
      rw [List.take_length] at *
      have HM := Lib.hid hm
      clear hm
      go_wp2_with fail
      go_ret
      rw [HV.out]
      exact ⟨rfl, HM.out⟩
end Go.Proofs.YtoffondipgjcoaaGreatDoor

/- The contracts of package node: Find, Write of a leaf. -/
set_option linter.unusedVariables false
set_option maxRecDepth 100000
set_option linter.unusedSimpArgs false
namespace Go.Proofs.YtoffondipgjcoaaGreatDoor
open Go.RowKit

set_option maxHeartbeats 2000000 in
theorem Find_c (pv : Value) (l : List (Bytes × Bytes)) (key : Bytes) (w : World) (h : PrS w pv l) (hl : l.length ≤ 1000000) :
    Calls Tryz.prog 80 #[leafV pv, .string (str key)] w fun e w' => e = .returned (.tuple #[.int .i64 (((leafN l).find key).1 : Int), .bool ((leafN l).find key).2]) ∧ Mod [] w w' := by
  obtain ⟨ao, c, rfl, h⟩ := h
  have hcle : l.countP (fun p => blt p.1 key) ≤ l.length := List.countP_le_length
  have hF : (leafN l).find key = (l.countP (fun p => blt p.1 key), decide ((l[l.countP (fun p => blt p.1 key)]?).map (·.1) = some key)) := rfl
  have HF := Lib.hid hF
  have H := Lib.hid h
  have htk := str_toList key
  clear h hF
  generalize hC : l.countP (fun p => blt p.1 key) = C at *
  have HC := Lib.hid hC
  clear hC
  go_enter Tryz.func80, Tryz.ntmps80
  go_wp2_with fail
  have hb0 := hp_new w (Obj.cells #[.bool true, .slice ao l.length c, .slice none 0 0, .slice none 0 0] 147)
  have hm0 : Mod [] w (w.alloc (Obj.cells #[.bool true, .slice ao l.length c, .slice none 0 0, .slice none 0 0] 147)) := (Mod.refl _ _).alloc _
  generalize w.alloc (Obj.cells #[.bool true, .slice ao l.length c, .slice none 0 0, .slice none 0 0] 147) = w1 at *
  have HB0 := Lib.hid hb0; have HM0 := Lib.hid hm0
  clear hb0 hm0
  go_loopw [6, 12] (fun n i wr => ∃ j : Nat, j ≤ l.length ∧ i = .int .i64 j ∧ n = .int .i64 (((l.take j).countP (fun p => blt p.1 key) : Nat) : Int) ∧ Mod [] w1 wr) (fun _ i _ => l.length - (intOf i).toNat)
  case atStart => exact ⟨0, Nat.zero_le _, rfl, rfl, Mod.refl _ _⟩
  case round =>
    obtain ⟨j, hj, rfl, rfl, hm⟩ := hrel
    have hrd := (H.out.mod HM0.out (by simp)).mod hm (by simp)
    by_cases hlt : j < l.length
    · obtain ⟨b, off, rfl, hcc⟩ := hrd.at (fun x => rfl) (List.getElem?_eq_getElem hlt)
      have hc0 := hcc 0 (by omega)
      have hc1 := hcc 1 (by omega)
      simp only [Nat.add_zero, pairC, List.getElem?_cons_zero, List.getElem?_cons_succ] at hc0 hc1
      have hX : (l.take (j + 1)) = l.take j ++ [l[j]] := List.take_succ_eq_append_getElem hlt
      have hcj : (l.take j).countP (fun p => blt p.1 key) ≤ j := by have := List.countP_le_length (p := fun p => blt p.1 key) (l := l.take j); rw [List.length_take] at this; omega
      have hsn : (l.take (j + 1)).countP (fun p => blt p.1 key) = (l.take j).countP (fun p => blt p.1 key) + if blt l[j].1 key then 1 else 0 := by rw [hX, List.countP_append, List.countP_singleton]
      generalize l[j] = X at *
      generalize (l.take j).countP (fun p => blt p.1 key) = S at *
      have htX := str_toList X.1
      have hbl := bytesLess_blt X.1 key
      obtain ⟨X1, X2⟩ := X
      dsimp only at *
      have HSN := Lib.hid hsn; have HM := Lib.hid hm
      clear hcc hX hsn hm hrd
      cases hb : blt X1 key with
      | true =>
        rw [hb] at hbl HSN
        clear hb
        go_wp2_with fail
        go_roundw
        case rel => exact ⟨j + 1, by omega, by go_num, by rw [HSN.out]; go_num, HM.out.alloc _⟩
        case measure => simp [intOf]; omega
      | false =>
        rw [hb] at hbl HSN
        clear hb
        go_wp2_with fail
        go_roundw
        case rel => exact ⟨j + 1, by omega, by go_num, by rw [HSN.out]; simp, HM.out.alloc _⟩
        case measure => simp [intOf]; omega
    · obtain rfl : j = l.length := by omega
      rw [List.take_length, HC.out] at *
      obtain ⟨cb, fb⟩ := cells_of (hm.at HB0.out (by simp))
      have c1 : wr.cell? ⟨w.heap.size, 1, none⟩ = some (.slice ao l.length c) := cb 1
      have HM := Lib.hid hm
      clear cb fb hm
      by_cases hCl : C < l.length
      · obtain ⟨b, off, rfl, hcc⟩ := hrd.at (fun x => rfl) (List.getElem?_eq_getElem hCl)
        have hc0 := hcc 0 (by omega)
        simp only [Nat.add_zero, pairC, List.getElem?_cons_zero, List.getElem?_cons_succ] at hc0
        have hgt : l[C]? = some l[C] := List.getElem?_eq_getElem hCl
        generalize l[C] = X at *
        rw [hgt] at HF
        have htX := str_toList X.1
        clear hcc hrd hgt
        have hd : decide ((C : Int) < (l.length : Int)) = true := by simp; omega
        by_cases hX : X.1 = key
        · have hq : (X.1 == key) = true := by simp [hX]
          have HV := Lib.hid (HF.out.trans (by simp [hX] : _ = (C, true)))
          clear hX HF
          go_wp2_with fail
          go_quiet (fail)
          go_wp2_with fail
          go_ret2
          rw [HV.out]
          exact ⟨rfl, (HM0.out.trans HM.out (by simp)).drewN _⟩
        · have hq : (X.1 == key) = false := by simp [hX]
          have HV := Lib.hid (HF.out.trans (by simp [hX] : _ = (C, false)))
          clear hX HF
          go_wp2_with fail
          go_quiet (fail)
          go_wp2_with fail
          go_ret2
          rw [HV.out]
          exact ⟨rfl, (HM0.out.trans HM.out (by simp)).drewN _⟩
      · obtain rfl : C = l.length := by omega
        have HV := Lib.hid (HF.out.trans (by simp : _ = (l.length, false)))
        clear hrd HF
        go_wp2_with fail
        go_quiet (fail)
        go_wp2_with fail
        go_ret2
        rw [HV.out]
        exact ⟨rfl, (HM0.out.trans HM.out (by simp)).drewN _⟩
end Go.Proofs.YtoffondipgjcoaaGreatDoor

/- The contracts of package node: Write of a leaf. -/
set_option linter.unusedVariables false
set_option maxRecDepth 100000
set_option linter.unusedSimpArgs false
namespace Go.Proofs.YtoffondipgjcoaaGreatDoor
open Go.RowKit

theorem rising_all : ∀ (l : List Bytes) (p : Option Bytes), risingF p l = true → ∀ k ∈ l, k.length ≤ 32
  | [], _, _, k, hk => by simp at hk
  | a :: l, p, h, k, hk => by
    rw [rising_cons] at h
    simp only [okKey, Bool.and_eq_true, decide_eq_true_eq] at h
    rcases List.mem_cons.1 hk with rfl | hk
    · exact h.1.1.2
    · exact rising_all l _ h.2 k hk
theorem right_lens (l : List (Bytes × Bytes)) (h : (leafN l).right = true) : ∀ p ∈ l, p.1.length ≤ 32 ∧ p.2.length ≤ 40 := by
  simp only [leafN, Nd.right, if_true, Bool.and_eq_true] at h
  intro p hp
  refine ⟨rising_all _ _ h.1.2 p.1 (List.mem_map_of_mem hp), ?_⟩
  have := h.2
  simp only [Bool.not_eq_true', List.any_eq_false, decide_eq_true_eq] at this
  have := this p hp
  omega
theorem pairB_len (p : Bytes × Bytes) (h1 : p.1.length ≤ 255) (h2 : p.2.length ≤ 255) : (pairB p).length = weigh p := by
  unfold pairB weigh
  rw [pstr_small _ h1, pstr_small _ h2]
  simp; omega
theorem pairsB_len (l : List (Bytes × Bytes)) (h : ∀ p ∈ l, p.1.length ≤ 255 ∧ p.2.length ≤ 255) : (l.flatMap pairB).length = weighs l := by
  induction l with
  | nil => rfl
  | cons p l ih =>
    rw [List.flatMap_cons, List.length_append, pairB_len p (h p (by simp)).1 (h p (by simp)).2, ih (fun q hq => h q (by simp [hq]))]
    simp [weighs]
theorem leaf_body_len (l : List (Bytes × Bytes)) (h : (leafN l).right = true) : (leafN l).body.length = (leafN l).size := by
  have hl := right_lens l h
  simp only [leafN, Nd.body, Nd.size, if_true, List.length_append, List.length_cons, List.length_nil]
  rw [pairsB_len l (fun p hp => by have := hl p hp; omega)]
theorem weighs_ge (l : List (Bytes × Bytes)) : 2 * l.length ≤ weighs l := by
  induction l with
  | nil => simp
  | cons p l ih => simp only [weighs, List.map_cons, List.sum_cons, List.length_cons] at ih ⊢; have : 2 ≤ weigh p := by unfold weigh; omega
                   omega
theorem Bts.conv {w : World} {B : Nat} {v : Value} {l : Bytes} (h : Bts w B v l) (hl : l ≠ []) : ∃ b c, v = .slice (some ⟨b, 0, none⟩) l.length c ∧ B ≤ b ∧ ∀ w', Mod [] w w' → ∀ n, n = l.length → (convert 118 9 (.slice (some ⟨b, 0, none⟩) n c)).run Tryz.prog w' = .ok (.string (str l)) w' := by
  have hl0 : 0 < l.length := List.length_pos_iff.2 hl
  rcases h.2 with ⟨hv, hx⟩ | ⟨g, cap, cur, hv, hbg, hh, h3, h4, h5, h6⟩
  · rw [hx] at hl0; exact absurd hl0 (by omega)
  · refine ⟨g, cap, hv, hbg, ?_⟩
    rintro w' hm n rfl
    refine run_bytes_str w' _ _ 5 Tryz.underlying118 Tryz.underlying5 Tryz.underlying9 g 0 _ cap l rfl (fun i hi => ?_)
    rw [Nat.zero_add, (cells_of (hm.at hh (by simp))).1, ← h6, List.getElem?_take, if_pos (by omega)]
    simp
set_option maxHeartbeats 4000000 in
theorem Write_leaf (pv : Value) (l : List (Bytes × Bytes)) (w : World) (h : PrS w pv l) (hl : l.length ≤ 1000000) :
    Calls Tryz.prog 149 #[leafV pv] w fun e w' => e = .returned (.tuple #[.string (str (leafN l).write.1), .int .i64 ((leafN l).write.2 : Int)]) ∧ Mod [] w w' := by
  have H := Lib.hid h
  obtain ⟨ao, c, rfl, hrd⟩ := h
  have HR := Lib.hid hrd
  clear hrd
  cases hr : (leafN l).right with
  | false =>
    have HV := Lib.hid (show (leafN l).write = ([], 4) from by simp [Nd.write, hr])
    have HRT := Lib.hid (fun w => nright_c (.slice ao l.length c) l w)
    rw [hr] at HRT
    clear hr
    go_enter Tryz.func149, Tryz.ntmps149
    go_wp2_with fail
    refine (HRT.out _ (H.out.mod0 ((Mod.refl _ _).alloc _)) (by omega)).mono ?_
    rintro e w1 ⟨rfl, hm⟩
    have HM := Lib.hid (((Mod.refl [] w).alloc (Obj.cells #[.bool true, .slice ao l.length c, .slice none 0 0, .slice none 0 0] 147)).trans hm (by simp))
    clear hm
    go_wp2_with fail
    go_ret2
    rw [HV.out]
    exact ⟨rfl, HM.out⟩
  | true =>
    have hlen := right_lens l hr
    have hbl := leaf_body_len l hr
    have HRT := Lib.hid (fun w => nright_c (.slice ao l.length c) l w)
    rw [hr] at HRT
    have HLEN := Lib.hid hlen
    have HSZ := Lib.hid (fun w hw => Size_leaf (.slice ao l.length c) l w hw hl (fun p hp => by have := hlen p hp; omega))
    by_cases hs : 256 < (leafN l).size
    · have HV := Lib.hid (show (leafN l).write = ([], 3) from by simp [Nd.write, hr, hs])
      generalize (leafN l).size = SZ at *
      clear hr hbl hlen
      go_enter Tryz.func149, Tryz.ntmps149
      go_wp2_with fail
      have hb0 := hp_new w (Obj.cells #[.bool true, .slice ao l.length c, .slice none 0 0, .slice none 0 0] 147)
      have hm0 : Mod [] w (w.alloc (Obj.cells #[.bool true, .slice ao l.length c, .slice none 0 0, .slice none 0 0] 147)) := (Mod.refl _ _).alloc _
      generalize w.alloc (Obj.cells #[.bool true, .slice ao l.length c, .slice none 0 0, .slice none 0 0] 147) = w1 at *
      have HB0 := Lib.hid hb0; have HM0 := Lib.hid hm0
      clear hb0 hm0
      refine (HRT.out _ (H.out.mod0 HM0.out) (by omega)).mono ?_
      rintro e w2 ⟨rfl, hm⟩
      obtain ⟨cb, fb⟩ := cells_of (hm.at HB0.out (by simp))
      have HM := Lib.hid (HM0.out.trans hm (by simp))
      clear hm
      go_wp2_with fail
      refine (HSZ.out _ (H.out.mod0 HM.out)).mono ?_
      rintro e w3 ⟨rfl, hm⟩
      have HM3 := Lib.hid (HM.out.trans hm (by simp))
      clear hm cb fb
      go_wp2_with fail
      go_ret2
      rw [HV.out]
      exact ⟨rfl, HM3.out⟩
    · have hwg := weighs_ge l
      have hsz : (leafN l).size = 2 + weighs l := by simp [leafN, Nd.size]
      have HV := Lib.hid (show (leafN l).write = ((leafN l).body ++ zeros (256 - (leafN l).body.length), 0) from by simp [Nd.write, hr, hs])
      have HBD := Lib.hid (show (leafN l).body = 1 :: UInt8.ofNat l.length :: l.flatMap pairB from by simp [leafN, Nd.body])
      generalize hSZ : (leafN l).size = SZ at *
      generalize hBD : (leafN l).body = BD at *
      have hll : l.length ≤ 127 := by omega
      clear hr hlen hBD hSZ
      go_enter Tryz.func149, Tryz.ntmps149
      go_wp2_with fail
      have hb0 := hp_new w (Obj.cells #[.bool true, .slice ao l.length c, .slice none 0 0, .slice none 0 0] 147)
      have hm0 : Mod [] w (w.alloc (Obj.cells #[.bool true, .slice ao l.length c, .slice none 0 0, .slice none 0 0] 147)) := (Mod.refl _ _).alloc _
      generalize w.alloc (Obj.cells #[.bool true, .slice ao l.length c, .slice none 0 0, .slice none 0 0] 147) = w1 at *
      have HB0 := Lib.hid hb0; have HM0 := Lib.hid hm0
      clear hb0 hm0
      refine (HRT.out _ (H.out.mod0 HM0.out) (by omega)).mono ?_
      rintro e w2 ⟨rfl, hm⟩
      obtain ⟨cb, fb⟩ := cells_of (hm.at HB0.out (by simp))
      have HM := Lib.hid (HM0.out.trans hm (by simp))
      have HB2 := Lib.hid (hm.at HB0.out (by simp))
      clear hm
      go_wp2_with fail
      refine (HSZ.out _ (H.out.mod0 HM.out)).mono ?_
      rintro e w3 ⟨rfl, hm⟩
      have HM3 := Lib.hid (HM.out.trans hm (by simp))
      have HB3 := Lib.hid (hm.at HB2.out (by simp))
      clear hm cb fb
      obtain ⟨cb, fb⟩ := cells_of HB3.out
      have hw3 := HM3.out.size
      go_wp2_with (at_builtin; refine wpList_app_new w.heap.size 118 5 (.int .u8 0) 1 1 _ [.int .u8 1, .int .u8 _] _ rfl _ _ rfl Tryz.underlying118 Tryz.i_u8 rfl (by decide) (by decide) (.slice none 0 0) 0 [] ⟨rfl, .inl ⟨rfl, rfl⟩⟩ rfl 2 2 rfl rfl rfl ?_ hw3 ?_)
      case refine_1 => omega
      case refine_2 =>
      intro v4 w4 ho4 hg4
      have hb4 : Bts w4 w.heap.size v4 (1 :: UInt8.ofNat l.length :: [].flatMap pairB) := by
        unfold Bts
        simp only [List.flatMap_nil, List.length_cons, List.length_nil, bcs, List.map_cons, List.map_nil]
        have : ((UInt8.ofNat l.length).toNat : Int) = l.length := by simp; omega
        rw [this]
        exact ho4
      have hm4 : Mod [] w w4 := HM3.out.app (show w3.ownsRow w.heap.size 5 1 (.slice none 0 0) 0 [] from ⟨rfl, .inl ⟨rfl, rfl⟩⟩) (Nat.le_refl _) hg4
      have hb04 := HB3.out
      have hb04' : w4.heap[w.heap.size]? = _ := hg4.mod.at hb04 (by simp [Value.ownBlock])
      have HB4 := Lib.hid hb4; have HM4 := Lib.hid hm4; have HBX := Lib.hid hb04'
      clear ho4 hg4 hb4 hm4 hb04 hb04' cb fb
      obtain ⟨cb, fb⟩ := cells_of HBX.out
      go_wp2_with fail
      clear cb fb
      go_loopw [4, 29] (fun v i wr => ∃ j : Nat, j ≤ l.length ∧ i = .int .i64 j ∧ Bts wr w.heap.size v (1 :: UInt8.ofNat l.length :: (l.take j).flatMap pairB) ∧ Mod [] w wr) (fun _ i _ => l.length - (intOf i).toNat)
      case atStart => exact ⟨0, Nat.zero_le _, rfl, HB4.out, HM4.out⟩
      case round =>
        obtain ⟨j, hj, rfl, hv, hm⟩ := hrel
        by_cases hlt : j < l.length
        · obtain ⟨b, off, rfl, hcc⟩ := (HR.out.mod hm (by simp)).at (fun x => rfl) (List.getElem?_eq_getElem hlt)
          have hc0 := hcc 0 (by omega)
          have hc1 := hcc 1 (by omega)
          simp only [Nat.add_zero, pairC, List.getElem?_cons_zero, List.getElem?_cons_succ] at hc0 hc1
          have hX : (l.take (j + 1)) = l.take j ++ [l[j]] := List.take_succ_eq_append_getElem hlt
          have hln := HLEN.out _ (List.getElem_mem hlt)
          have htl : ((l.take j).flatMap pairB).length ≤ 1000 := by
            rw [pairsB_len _ (fun p hp => by have := HLEN.out p (List.mem_of_mem_take hp); omega)]
            have : weighs l = weighs (l.take j) + weighs (l.drop j) := by
              have h := congrArg weighs (List.take_append_drop j l)
              simp only [weighs, List.map_append, List.sum_append] at h ⊢
              exact h.symm
            omega
          generalize l[j] = X at *
          generalize hT : (l.take j).flatMap pairB = T at *
          have hsn : (l.take (j + 1)).flatMap pairB = T ++ pairB X := by rw [hX, List.flatMap_append, hT]; simp
          have HSN := Lib.hid hsn; have HV4 := Lib.hid hv; have HMR := Lib.hid hm
          clear hcc hX hsn hv hm hT
          obtain ⟨X1, X2⟩ := X
          dsimp only at *
          go_wp2_with fail
          have hm5 : Mod [] w (wr.alloc (Obj.cells #[.string (str X1), .string (str X2)] 152)) := HMR.out.alloc _
          have hv5 : Bts (wr.alloc (Obj.cells #[.string (str X1), .string (str X2)] 152)) _ _ _ := own_alloc HV4.out (Obj.cells #[.string (str X1), .string (str X2)] 152)
          have hb5 := hp_new wr (Obj.cells #[.string (str X1), .string (str X2)] 152)
          generalize wr.alloc (Obj.cells #[.string (str X1), .string (str X2)] 152) = w5 at *
          have hsz5 := hm5.size
          have hne5 := own_ne hv5 hb5 (by decide)
          have HM5 := Lib.hid hm5; have HV5 := Lib.hid hv5; have HB5 := Lib.hid hb5; have HNE := Lib.hid hne5
          clear hm5 hv5 hb5 hc0 hc1 hne5
          have hS : (fun w' : World => w'.cell? ⟨wr.heap.size, 0, none⟩ = some (.string (str X1)) ∧ w'.cell? ⟨wr.heap.size, 1, none⟩ = some (.string (str X2))) w5.drew := by
            obtain ⟨cb, fb⟩ := cells_of (((Mod.refl [] w5).drew).at HB5.out (by simp))
            exact ⟨cb 0, cb 1⟩
          refine region_plan (n := 6) (fun w' : World => w'.cell? ⟨wr.heap.size, 0, none⟩ = some (.string (str X1)) ∧ w'.cell? ⟨wr.heap.size, 1, none⟩ = some (.string (str X2))) [(true, 0), (true, 1), (true, 2), (true, 4), (true, 5), (false, 3)] Tryz.mixed (by kernel_rfl) hS ?_
          (apply Go.Proofs.YtoffondipgjcoaaGreatDoor.plan_q _ rfl hS; · (intro K hK w' hw'; (skip); go_simp; (first | exact hK | exact ⟨rfl, hK⟩)))
          (apply Go.Proofs.YtoffondipgjcoaaGreatDoor.plan_q _ rfl hS; · (intro K hK w' hw'; (skip); go_simp; (first | exact hK | exact ⟨rfl, hK⟩)))
          (apply Go.Proofs.YtoffondipgjcoaaGreatDoor.plan_q _ rfl hS; · (intro K hK w' hw'; (have q := hw'.1); go_simp; (first | exact hK | exact ⟨rfl, hK⟩)))
          (apply Go.Proofs.YtoffondipgjcoaaGreatDoor.plan_q _ rfl hS; · (intro K hK w' hw'; (skip); go_simp; (first | exact hK | exact ⟨rfl, hK⟩)))
          (apply Go.Proofs.YtoffondipgjcoaaGreatDoor.plan_q _ rfl hS; · (intro K hK w' hw'; (have q := hw'.2); go_simp; (first | exact hK | exact ⟨rfl, hK⟩)))
          refine plan_e rfl ?_
          go_wp2_with fail
          refine (pStr_c w.heap.size _ _ X1 w5.drew hsz5 (own_mod HV5.out ((Mod.refl [] _).drew) (by simp)) (by omega) (by simp only [List.length_cons]; omega)).mono ?_
          rintro e w6 ⟨v6, rfl, hb6, hg6⟩
          have hm6 : Mod [] w w6 := HM5.out.drew.app (own_mod HV5.out ((Mod.refl [] _).drew) (by simp)) (Nat.le_refl _) hg6
          have hbx := hg6.mod.at (((Mod.refl [] w5).drew).at HB5.out (by simp)) (by rw [Option.mem_toList]; exact fun h => HNE.out _ h rfl)
          have HB6 := Lib.hid hb6; have HM6 := Lib.hid hm6
          have hsz6 := hm6.size
          obtain ⟨cb, fb⟩ := cells_of hbx
          have q0 := cb 0; have q1 := cb 1
          clear hb6 hg6 hm6 hbx cb fb
          go_wp2_with fail
          refine plan_n ⟨⟨q0, q1⟩, plan_t ?_⟩
          simp only [List.drop_succ_cons, List.drop_zero]
          clear hS q0 q1
          go_wp2_with fail
          refine (pStr_c w.heap.size _ _ X2 w6 hsz6 HB6.out (by omega) (by simp only [List.length_append, List.length_cons]; omega)).mono ?_
          rintro e w7 ⟨v7, rfl, hb7, hg7⟩
          have hm7 : Mod [] w w7 := HM6.out.app HB6.out (Nat.le_refl _) hg7
          have HB7 := Lib.hid hb7; have HM7 := Lib.hid hm7
          clear hb7 hg7 hm7
          go_wp2_with fail
          go_roundw
          case rel =>
            refine ⟨j + 1, by omega, by go_num, ?_, HM7.out⟩
            rw [HSN.out]
            have := HB7.out
            unfold pairB
            dsimp only
            rw [pstr_small X1 (by omega), pstr_small X2 (by omega)]
            simpa using this
          case measure => simp [intOf]; omega
        · obtain rfl : j = l.length := by omega
          rw [List.take_length, ← HBD.out] at hv
          obtain ⟨vb, vc, rfl, hvb, hcv⟩ := Bts.conv hv (by intro h0; have := HBD.out; rw [h0] at this; cases this)
          have HMR := Lib.hid hm; have HCV := Lib.hid hcv
          clear hv hm hcv HB4
          have hSZ' : BD.length ≤ 256 := by omega
          clear hbl hsz
          go_wp2_with fail
          have hS : Mod [] wr wr.drew := (Mod.refl _ _).drew
          refine region_plan (n := 6) (Mod [] wr) [(true, 0), (true, 1), (true, 2), (true, 3), (true, 4), (false, 5)] Tryz.mixed (by kernel_rfl) hS ?_
          (apply Go.Proofs.YtoffondipgjcoaaGreatDoor.plan_q _ rfl hS; · (intro K hK w' hw'; (skip); go_simp; (first | exact hK | exact ⟨rfl, hK⟩)))
          (apply Go.Proofs.YtoffondipgjcoaaGreatDoor.plan_q _ rfl hS; · (intro K hK w' hw'; (have q1 := HCV.out w' hw' _ rfl); go_simp; (first | exact hK | exact ⟨rfl, hK⟩)))
          (apply Go.Proofs.YtoffondipgjcoaaGreatDoor.plan_q _ rfl hS; · (intro K hK w' hw'; (skip); go_simp; (first | exact hK | exact ⟨rfl, hK⟩)))
          (apply Go.Proofs.YtoffondipgjcoaaGreatDoor.plan_q _ rfl hS; · (intro K hK w' hw'; (skip); go_simp; (first | exact hK | exact ⟨rfl, hK⟩)))
          (apply Go.Proofs.YtoffondipgjcoaaGreatDoor.plan_q _ rfl hS; · (intro K hK w' hw'; (skip); go_simp; (first | exact hK | exact ⟨rfl, hK⟩)))
          refine plan_e rfl ?_
          go_wp2_with fail
          rw [show (256 : Int) - (BD.length : Int) = ((256 - BD.length : Nat) : Int) from by omega]
          refine (Repeat_zero (256 - BD.length) _ (by omega)).mono ?_
          rintro e w8 ⟨rfl, hm8⟩
          have HM8 := Lib.hid (hS.trans hm8 (by simp))
          clear hm8
          go_wp2_with fail
          refine plan_n ⟨HM8.out, plan_t ?_⟩
          simp only [List.drop_succ_cons, List.drop_zero]
          have hz : ¬ 9223372036854775807 < (str BD).size + (str (zeros (256 - BD.length))).size := by simp [str, ByteArray.size, zeros]; omega
          go_wp2_with fail
          go_ret2
          rw [HV.out]
          exact ⟨by rw [str_app]; rfl, HMR.out.trans HM8.out (by simp)⟩
end Go.Proofs.YtoffondipgjcoaaGreatDoor

/- The contracts of package node: Read of a leaf. -/
set_option linter.unusedVariables false
set_option maxRecDepth 100000
set_option linter.unusedSimpArgs false
namespace Go.Proofs.YtoffondipgjcoaaGreatDoor
open Go.RowKit

theorem rdPairs_snoc : ∀ (n : Nat) (r : LR), rdPairs (n + 1) r = ((rdPairs n r).1 ++ [(((rdPairs n r).2.str 32).1, (((rdPairs n r).2.str 32).2.str 40).1)], (((rdPairs n r).2.str 32).2.str 40).2)
  | 0, r => by simp [rdPairs]
  | n + 1, r => by
    rw [rdPairs, rdPairs_snoc n]
    simp [rdPairs]
theorem num1_lt (r : LR) : (r.num 1).1 < 256 := by
  unfold LR.num LR.take
  split
  · simp [numL]
  · split
    · simp [numL]
    · cases h : r.rest with
      | nil => simp [numL]
      | cons a l => simp [numL]; have := a.toNat_lt; omega
theorem rdPairs_len : ∀ (n : Nat) (r : LR), (rdPairs n r).1.length = n
  | 0, _ => rfl
  | n + 1, r => by rw [rdPairs]; simp [rdPairs_len n]
theorem pairC_len (p : Bytes × Bytes) : (pairC p).length = 2 := rfl
theorem Tryz.i_pair : (Tryz.prog.info? 152).map (fun i => (i.zero, i.size, i.bytes)) = some (some (.agg #[.string ⟨#[]⟩, .string ⟨#[]⟩]), 2, 32) := by kernel_rfl
theorem flatPair_snoc (l : List (Bytes × Bytes)) (x : Bytes × Bytes) : (l ++ [x]).flatMap pairC = l.flatMap pairC ++ pairC x := by simp
theorem prs_own {w : World} {B n : Nat} {v : Value} {l : List (Bytes × Bytes)} (h : w.ownsRow B 152 2 v n (l.flatMap pairC)) (hn : n = l.length) (hl : l.length ≤ 1000000) : PrS w v l := by
  subst hn
  obtain ⟨ao, c, rfl, hr, -⟩ := RdS.ofOwn h (by omega)
  exact ⟨ao, c, rfl, hr⟩
structure LeafPage (s : Bytes) (l : List (Bytes × Bytes)) : Prop where
  kind : (LR.num ⟨s, 0⟩ 1).1 = 1
  ok : Nd.read s = (leafN l, 0)
theorem LeafPage.facts {s : Bytes} {l : List (Bytes × Bytes)} (h : LeafPage s l) : ∃ r, rdPairs ((LR.num ⟨s, 0⟩ 1).2.num 1).1 ((LR.num ⟨s, 0⟩ 1).2.num 1).2 = (l, r) ∧ (r.raw r.rest.length).2.err = 0 ∧ s.length = 256 ∧ (leafN l).right = true ∧ allZero (r.raw r.rest.length).1 = true := by
  have h1 := h.ok
  unfold Nd.read at h1
  have hx : rdNode s = (leafN (rdPairs ((LR.num ⟨s, 0⟩ 1).2.num 1).1 ((LR.num ⟨s, 0⟩ 1).2.num 1).2).1, (rdPairs ((LR.num ⟨s, 0⟩ 1).2.num 1).1 ((LR.num ⟨s, 0⟩ 1).2.num 1).2).2) := by
    unfold rdNode
    simp only [h.kind, if_true]
    rfl
  rw [hx, h.kind] at h1
  generalize rdPairs ((LR.num ⟨s, 0⟩ 1).2.num 1).1 ((LR.num ⟨s, 0⟩ 1).2.num 1).2 = q at *
  obtain ⟨l', r⟩ := q
  dsimp only at h1
  split at h1
  · have := congrArg (·.2) h1; simp at this
  · rename_i hn
    have := congrArg (fun x => x.1.pairs) h1
    simp only [leafN] at this
    subst this
    simp only [not_or] at hn
    obtain ⟨-, h2, h3, h4, h5⟩ := hn
    exact ⟨r, rfl, by simpa using h2, by simpa using h3, by simpa using h4, by simpa using h5⟩
set_option maxHeartbeats 4000000 in
theorem Read_leaf (s : Bytes) (l : List (Bytes × Bytes)) (w : World) (h : LeafPage s l) :
    Calls Tryz.prog 141 #[.string (str s)] w fun e w' => ∃ pv, e = .returned (.tuple #[leafV pv, .int .i64 0]) ∧ w'.ownsRow w.heap.size 152 2 pv l.length (l.flatMap pairC) ∧ Mod [] w w' := by
  obtain ⟨rf, hrf, herr, hlen, hrt, hz⟩ := h.facts
  have hkind := h.kind
  have hcl := num1_lt (LR.num ⟨s, 0⟩ 1).2
  have hss := str_size s
  rw [hlen] at hss
  generalize hN1 : LR.num ⟨s, 0⟩ 1 = N1 at *
  generalize hN2 : N1.2.num 1 = N2 at *
  have hll : l.length = N2.1 := by have := rdPairs_len N2.1 N2.2; rw [hrf] at this; exact this
  have HF := Lib.hid hrf; have HE := Lib.hid herr; have HRT := Lib.hid hrt; have HZ := Lib.hid hz; have HK := Lib.hid hkind; have H1 := Lib.hid hN1; have H2 := Lib.hid hN2
  clear h hrf herr hrt hz hkind hN1 hN2
  go_enter Tryz.func141, Tryz.ntmps141
  go_wp2_with fail
  have hm0 : Mod [] w (w.alloc (Obj.cells #[.bool false, .slice none 0 0, .slice none 0 0, .slice none 0 0] 147)) := (Mod.refl _ _).alloc _
  have hb0 := hp_new w (Obj.cells #[.bool false, .slice none 0 0, .slice none 0 0, .slice none 0 0] 147)
  generalize w.alloc (Obj.cells #[.bool false, .slice none 0 0, .slice none 0 0, .slice none 0 0] 147) = w1 at *
  have HM0 := Lib.hid hm0; have HB0 := Lib.hid hb0
  clear hm0 hb0
  refine (From_c (str s) w1 (by rw [hss]; omega)).mono ?_
  rintro e w2 ⟨rfl, hm2, hr2⟩
  have hr2' : Rdr w2 w1.heap.size (LR.rd ⟨s, 0⟩) := hr2
  have hwn : w.heap.size < w1.heap.size := lt_of_block HB0.out
  have HM2 := Lib.hid (HM0.out.trans hm2 (by simp)); have HR2 := Lib.hid hr2'; have HB2 := Lib.hid (hm2.at HB0.out (by simp))
  clear hm2 hr2 hr2'
  generalize w1.heap.size = b at *
  go_wp2_with fail
  refine (lNum_c b ⟨s, 0⟩ 1 (by omega) (by omega) w2 HR2.out).mono ?_
  rw [H1.out]
  rintro e w3 ⟨rfl, hm3, hr3⟩
  have HM3 := Lib.hid (HM2.out.trans hm3 (R := []) (fun x hx => .inr (by simp at hx; omega))); have HR3 := Lib.hid hr3; have HB3 := Lib.hid (hm3.at HB2.out (by simp; omega))
  clear hm3 hr3
  go_wp2_with fail
  refine (lNum_c b N1.2 1 (by omega) (by omega) w3 HR3.out).mono ?_
  rw [H2.out]
  rintro e w4 ⟨rfl, hm4, hr4⟩
  have HM4 := Lib.hid (HM3.out.trans hm4 (R := []) (fun x hx => .inr (by simp at hx; omega))); have HR4 := Lib.hid hr4; have HB4 := Lib.hid (hm4.at HB3.out (by simp; omega))
  clear hm4 hr4
  rw [HK.out]
  go_wp2_with fail
  have hm5 : Mod [] w (w4.alloc (Obj.cells #[.bool true, .slice none 0 0, .slice none 0 0, .slice none 0 0] 147)) := HM4.out.alloc _
  have hb5 := hp_new w4 (Obj.cells #[.bool true, .slice none 0 0, .slice none 0 0, .slice none 0 0] 147)
  have hr5 : Rdr (w4.alloc (Obj.cells #[.bool true, .slice none 0 0, .slice none 0 0, .slice none 0 0] 147)) b _ := HR4.out.mod (R := []) ((Mod.refl _ _).alloc _) (by simp)
  have ho5 := hp_old (o' := Obj.cells #[.bool true, .slice none 0 0, .slice none 0 0, .slice none 0 0] 147) HB4.out
  have hnb : b < w4.heap.size := lt_of_block HR4.out.at_
  generalize w4.alloc (Obj.cells #[.bool true, .slice none 0 0, .slice none 0 0, .slice none 0 0] 147) = w5 at *
  generalize w4.heap.size = nb at *
  have HM5 := Lib.hid hm5; have HB5 := Lib.hid hb5; have HR5 := Lib.hid hr5; have HO5 := Lib.hid ho5
  clear hm5 hb5 hr5 ho5
  go_loopw [30] (fun i wr => ∃ (j : Nat) (v : Value), j ≤ N2.1 ∧ i = .int .u64 (j : Int) ∧ wr.heap[nb]? = some (.cells #[.bool true, v, .slice none 0 0, .slice none 0 0] 147 (0, 0)) ∧
      wr.ownsRow w.heap.size 152 2 v j ((rdPairs j N2.2).1.flatMap pairC) ∧ Rdr wr b (rdPairs j N2.2).2.rd ∧ Mod [] w wr ∧
      wr.heap[w.heap.size]? = some (.cells #[.bool false, .slice none 0 0, .slice none 0 0, .slice none 0 0] 147 (0, 0))) (fun i _ => N2.1 - (intOf i).toNat)
  case atStart => exact ⟨0, _, Nat.zero_le _, rfl, HB5.out, ⟨rfl, .inl ⟨rfl, rfl⟩⟩, HR5.out, HM5.out, HO5.out⟩
  case round =>
    obtain ⟨j, v, hj, rfl, hnd, hv, hrr, hm, ho⟩ := hrel
    have hbw : w.heap.size < b := hwn
    by_cases hlt : j < N2.1
    · have hsn := rdPairs_snoc j N2.2
      generalize hRJ : rdPairs j N2.2 = RJ at *
      obtain ⟨PJ, RJ⟩ := RJ
      dsimp only at *
      have HSN := Lib.hid hsn; have HND := Lib.hid hnd; have HV := Lib.hid hv; have HRR := Lib.hid hrr; have HM := Lib.hid hm; have HO := Lib.hid ho
      clear hRJ hsn hnd hv hrr hm ho
      go_wp2_with fail
      refine (lStr_c b RJ 32 wr HRR.out).mono ?_
      generalize hS1 : RJ.str 32 = S1 at *
      obtain ⟨X1, R1⟩ := S1
      have HS1 := Lib.hid hS1
      clear hS1
      dsimp only
      rintro e w6 ⟨rfl, hm6, hr6⟩
      have HM6 := Lib.hid hm6; have HR6 := Lib.hid hr6
      have hnd6 := hm6.at HND.out (by simp; omega)
      obtain ⟨cb, fb⟩ := cells_of hnd6
      have HND6 := Lib.hid hnd6
      have HV6 := Lib.hid (own_mod HV.out hm6 (fun c hc => by
        have := own_ne HV.out HRR.out.at_ (by decide) c hc
        simpa using this))
      clear hm6 hr6 hnd6
      go_wp2_with fail
      clear cb fb
      have hS : (fun w' : World => w'.cell? ⟨nb, 1, none⟩ = some v) w6.drew := (cells_of (((Mod.refl [] w6).drew).at HND6.out (by simp))).1 1
      refine region_plan (n := 7) (fun w' : World => w'.cell? ⟨nb, 1, none⟩ = some v) [(true, 0), (true, 1), (true, 2), (true, 3), (false, 4), (true, 5), (false, 6)] Tryz.mixed (by kernel_rfl) hS ?_
      (apply Go.Proofs.YtoffondipgjcoaaGreatDoor.plan_q _ rfl hS; · (intro K hK w' hw'; (skip); go_simp; (first | exact hK | exact ⟨rfl, hK⟩)))
      (apply Go.Proofs.YtoffondipgjcoaaGreatDoor.plan_q _ rfl hS; · (intro K hK w' hw'; (have q : w'.cell? ⟨nb, 1, none⟩ = some v := hw'); go_simp; (first | exact hK | exact ⟨rfl, hK⟩)))
      (apply Go.Proofs.YtoffondipgjcoaaGreatDoor.plan_q _ rfl hS; · (intro K hK w' hw'; (skip); go_simp; (first | exact hK | exact ⟨rfl, hK⟩)))
      (apply Go.Proofs.YtoffondipgjcoaaGreatDoor.plan_q _ rfl hS; · (intro K hK w' hw'; (skip); go_simp; (first | exact hK | exact ⟨rfl, hK⟩)))
      refine plan_e rfl ?_
      go_wp2_with fail
      refine (lStr_c b R1 40 w6.drew (HR6.out.mod (R := []) ((Mod.refl _ _).drew) (by simp))).mono ?_
      generalize hS2 : R1.str 40 = S2 at *
      obtain ⟨X2, R2⟩ := S2
      have HS2 := Lib.hid hS2
      clear hS2
      dsimp only
      rintro e w7 ⟨rfl, hm7, hr7⟩
      have hm67 := ((Mod.refl [b] w6).drew).trans hm7 (by simp)
      have hnd7 := hm67.at HND6.out (by simp; omega)
      have HND7 := Lib.hid hnd7; have HR7 := Lib.hid hr7; have HM7 := Lib.hid (HM6.out.trans hm67 (by simp))
      have HV7 := Lib.hid (own_mod HV6.out hm67 (fun c hc => by
        have := own_ne HV.out HRR.out.at_ (by decide) c hc
        simpa using this))
      have hS7 : w7.cell? ⟨nb, 1, none⟩ = some v := (cells_of hnd7).1 1
      clear hm7 hr7 hm67 hnd7
      go_wp2_with fail
      refine plan_n ⟨hS7, ?_⟩
      have hS : (fun w' : World => w'.cell? ⟨nb, 1, none⟩ = some v) w7 := hS7
      clear hS7
      (apply Go.Proofs.YtoffondipgjcoaaGreatDoor.plan_q _ rfl hS; · (intro K hK w' hw'; (skip); go_simp; (first | exact hK | exact ⟨rfl, hK⟩)))
      refine plan_e rfl ?_
      go_wp2_with fail
      refine plan_n ⟨(cells_of (hp_old HND7.out)).1 1, plan_t ?_⟩
      simp only [List.drop_succ_cons, List.drop_zero]
      clear hS
      have hBw : w.heap.size ≤ w7.heap.size := (HM.out.trans HM7.out (R := []) (fun x hx => .inr (by simp at hx; omega))).size
      refine wpList_app_new w.heap.size 32 152 (.agg #[.string ⟨#[]⟩, .string ⟨#[]⟩]) 2 32 _ [.string (str X1), .string (str X2)] _ rfl _ _ rfl Tryz.underlying32 Tryz.i_pair rfl (by decide) (by decide) v j _ HV7.out rfl 1 1 rfl rfl rfl (by omega) hBw ?_
      intro v8 w8 ho8 hg8
      obtain ⟨a8, c8, rfl⟩ := own_form ho8
      have hnv : ∀ c, v.ownBlock = some c → c ≠ nb := own_ne HV7.out HND7.out (by decide)
      have hnr : ∀ c, v.ownBlock = some c → c ≠ b := own_ne HV7.out HR7.out.at_ (by decide)
      have hnw : ∀ c, v.ownBlock = some c → c ≠ w.heap.size := own_ne HV.out HO.out (by decide)
      have hnd8 := hg8.mod.at HND7.out (by rw [Option.mem_toList]; exact fun h => hnv _ h rfl)
      have hr8 := HR7.out.mod hg8.mod (by rw [Option.mem_toList]; exact fun h => hnr _ h rfl)
      have hm8 : Mod [] w w8 := (HM.out.trans HM7.out (R := []) (fun x hx => .inr (by simp at hx; omega))).app HV7.out (Nat.le_refl _) hg8
      have ho8' := hg8.mod.at (HM7.out.at HO.out (by simp; omega)) (by rw [Option.mem_toList]; exact fun h => hnw _ h rfl)
      have hv8 : ∀ c, (Value.slice a8 (j + 1) c8).ownBlock = some c → c ≠ nb := own_ne ho8 hnd8 (by decide)
      obtain ⟨cb, fb⟩ := cells_of hnd8
      have HND8 := Lib.hid hnd8; have HR8 := Lib.hid hr8; have HM8 := Lib.hid hm8; have HO8 := Lib.hid ho8'; have HV8 := Lib.hid ho8; have HN8 := Lib.hid hv8
      clear ho8 hg8 hnv hnr hnw hnd8 hr8 hm8 ho8' hv8
      go_wp2_with fail
      have hsc : Mod [nb] w8 (w8.setCell ⟨nb, 1, none⟩ (.slice a8 (j + 1) c8)) := (Mod.refl _ _).setCell _ _ (.inl (by simp))
      go_roundw
      case rel =>
        refine ⟨j + 1, .slice a8 (j + 1) c8, by omega, by go_num, ?_, ?_, ?_, ?_, ?_⟩
        · rw [hp_set HND8.out]; simp
        · rw [HSN.out, flatPair_snoc]
          exact own_mod HV8.out hsc (fun c hc => by simpa using HN8.out c hc)
        · rw [HSN.out]
          exact HR8.out.mod hsc (by simp; omega)
        · exact HM8.out.trans hsc (fun x hx => .inr (by simp at hx; omega))
        · exact hsc.at HO8.out (by simp; omega)
      case measure => simp [intOf]; omega
    · obtain rfl : j = N2.1 := by omega
      rw [HF.out] at hv hrr
      dsimp only at hv hrr
      obtain ⟨a9, c9, rfl⟩ := own_form hv
      have hl255 : l.length ≤ 255 := by omega
      rw [← hll] at *
      have hTl : (rf.raw rf.rest.length).1.length ≤ 140737488355328 := by
        have h1 : rf.rest.length ≤ 140737488355328 := hrr.small
        refine Nat.le_trans ?_ h1
        unfold LR.raw LR.take
        split
        · simp
        · split
          · simp
          · simp
      have HND := Lib.hid hnd; have HV := Lib.hid hv; have HM := Lib.hid hm; have HO := Lib.hid ho; have HRR := Lib.hid hrr
      clear hnd hv hm ho hrr
      go_wp2_with fail
      refine (lLeft_c b rf wr HRR.out).mono ?_
      rintro e w6 ⟨rfl, rfl⟩
      go_wp2_with fail
      refine (lRaw_c b rf rf.rest.length wr HRR.out).mono ?_
      generalize hRW : rf.raw rf.rest.length = RW at *
      obtain ⟨Tl, Rl⟩ := RW
      dsimp only at *
      rintro e w6 ⟨rfl, hm6, hr6⟩
      have HM6 := Lib.hid hm6; have HR6 := Lib.hid hr6
      have hv6 := own_mod HV.out hm6 (fun c hc => by
        have := own_ne HV.out HRR.out.at_ (by decide) c hc
        simpa using this)
      have HPS := Lib.hid (show PrS w6 (.slice a9 l.length c9) l from prs_own hv6 rfl (by omega)); have HV6 := Lib.hid hv6
      clear hv6
      have HND6 := Lib.hid (hm6.at HND.out (by simp; omega)); have HO6 := Lib.hid (hm6.at HO.out (by simp; omega))
      clear hm6 hr6 hRW
      go_wp2_with fail
      refine (lErr_c b Rl w6 HR6.out).mono ?_
      rw [HE.out]
      rintro e w7 ⟨rfl, rfl⟩
      obtain ⟨cb, fb⟩ := cells_of HND6.out
      go_wp2_with fail
      refine (nright_c (.slice a9 l.length c9) l w6 HPS.out (by omega)).mono ?_
      rw [HRT.out]
      rintro e w7 ⟨rfl, hm7⟩
      have HM7 := Lib.hid hm7
      have HND7 := Lib.hid (hm7.at HND6.out (by simp)); have HO7 := Lib.hid (hm7.at HO6.out (by simp))
      clear hm7 cb fb
      go_wp2_with fail
      refine (Trim_c Tl w7 hTl).mono ?_
      rw [HZ.out]
      rintro e w8 ⟨⟨t, rfl, ht⟩, hm8⟩
      obtain rfl : t = [] := List.isEmpty_iff.1 ht
      have HM8 := Lib.hid hm8
      have HND8 := Lib.hid (hm8.at HND7.out (by simp)); have HO8 := Lib.hid (hm8.at HO7.out (by simp))
      obtain ⟨cb, fb⟩ := cells_of HND8.out
      obtain ⟨cq, fq⟩ := cells_of HO8.out
      have hst : str [] = ⟨#[]⟩ := rfl
      rw [hst]
      clear hm8 ht hst
      have hlo : w.heap.size < w8.heap.size := lt_of_block HO8.out
      go_wp2_with fail
      have hm4 : Mod [w.heap.size] w8 ((((w8.setCell ⟨w.heap.size, 0, none⟩ (.bool true)).setCell ⟨w.heap.size, 1, none⟩ (.slice a9 l.length c9)).setCell ⟨w.heap.size, 2, none⟩ (.slice none 0 0)).setCell ⟨w.heap.size, 3, none⟩ (.slice none 0 0)) :=
        ((((Mod.refl _ _).setCell _ _ (.inl (by simp))).setCell _ _ (.inl (by simp))).setCell _ _ (.inl (by simp))).setCell _ _ (.inl (by simp))
      have hno : ∀ c, (Value.slice a9 l.length c9).ownBlock = some c → c ≠ w.heap.size := own_ne HV.out HO.out (by decide)
      have hfin := own_mod (own_mod (own_mod HV6.out HM7.out (by simp)) HM8.out (by simp)) hm4 (fun c hc => by simpa using hno c hc)
      have hmm : Mod [] w ((((w8.setCell ⟨w.heap.size, 0, none⟩ (.bool true)).setCell ⟨w.heap.size, 1, none⟩ (.slice a9 l.length c9)).setCell ⟨w.heap.size, 2, none⟩ (.slice none 0 0)).setCell ⟨w.heap.size, 3, none⟩ (.slice none 0 0)) :=
        (((HM.out.trans HM6.out (fun x hx => .inr (by simp at hx; omega))).trans HM7.out (by simp)).trans HM8.out (by simp)).trans hm4 (fun x hx => .inr (by simp at hx; omega))
      exact bodyPost_ret (v := .tuple #[leafV (.slice a9 l.length c9), .int .i64 0]) (by simp [results, Tryz.results141, go_sem, cq, fq, hlo]) rfl ⟨_, rfl, hfin, hmm⟩
end Go.Proofs.YtoffondipgjcoaaGreatDoor
