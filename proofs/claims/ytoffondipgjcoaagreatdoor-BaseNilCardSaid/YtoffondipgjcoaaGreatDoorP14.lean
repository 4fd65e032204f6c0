/- Part 14 of 27 of the contracts below the law: each theorem states, of one function of the program, at a world of the form that its premises name, what the call answers and what it leaves. -/
import Derived.Test.YtoffondipgjcoaaGreatDoorP13
import Derived.Test.YtoffondipgjcoaaGreatDoorP12
import Derived.IntWalk
/- The contracts of package space: bits. -/
set_option linter.unusedVariables false
set_option maxRecDepth 100000
set_option linter.unusedSimpArgs false
namespace Go.Proofs.YtoffondipgjcoaaGreatDoor
open Go.RowKit

theorem and_bit_all : ∀ a : Fin 256, ∀ j : Fin 8, (bits .and .u8 (a.val : Int) (2 ^ j.val % 256) != 0) = a.val.testBit j.val := by decide +kernel
theorem xor_bit_all : ∀ a : Fin 256, ∀ j : Fin 8, bits .xor .u8 (a.val : Int) (2 ^ j.val % 256) = ((Nat.xor a.val (2 ^ j.val) : Nat) : Int) ∧ Nat.xor a.val (2 ^ j.val) < 256 := by decide +kernel
theorem and_bit (u : UInt8) (n : Nat) : (bits .and .u8 (u.toNat : Int) (2 ^ (n % 8) % 256) != 0) = u.toNat.testBit (n % 8) :=
  and_bit_all ⟨u.toNat, u.toNat_lt⟩ ⟨n % 8, by omega⟩
theorem xor_bit (u : UInt8) (n : Nat) : bits .xor .u8 (u.toNat : Int) (2 ^ (n % 8) % 256) = ((UInt8.ofNat (Nat.xor u.toNat (2 ^ (n % 8)))).toNat : Int) := by
  have h := xor_bit_all ⟨u.toNat, u.toNat_lt⟩ ⟨n % 8, by omega⟩
  rw [h.1]
  have h2 : Nat.xor u.toNat (2 ^ (n % 8)) < 256 := h.2
  rw [UInt8.toNat_ofNat', Nat.mod_eq_of_lt h2]
theorem bcs_get (u : Bytes) (j : Nat) (h : j < u.length) : (bcs u)[j]? = some (.int .u8 ((u.getD j 0).toNat : Int)) := by
  rw [bcs, List.getElem?_map, List.getElem?_eq_getElem h]; simp [List.getD_eq_getElem?_getD, List.getElem?_eq_getElem h]
set_option maxHeartbeats 1000000 in
theorem is_c (k off : Nat) (u : Bytes) (n : Nat) (w : World) (hu : u.length = 20) (hn : n < 160) (hc : ∀ j, j < 20 → w.cell? ⟨k, off + j, none⟩ = (bcs u)[j]?) :
    Calls Tryz.prog 109 #[pa k off, .int .i64 (n : Int)] w fun e w' => e = .returned (.bool (isU u n)) ∧ Mod [] w w' := by
  have h8 : n / 8 < 20 := by omega
  have hcell := hc (n / 8) h8
  rw [bcs_get u _ (by omega)] at hcell
  clear hc
  have hb := and_bit (u.getD (n / 8) 0) n
  have HB := Lib.hid hb
  unfold isU
  generalize u.getD (n / 8) 0 = b at *
  clear hb hu
  go_enter Tryz.func109, Tryz.ntmps109
  go_wp2_with fail
  go_quiet (fail)
  go_wp2_with fail
  go_ret
  exact ⟨ret_bool HB.out, (Mod.refl _ _).drewN _⟩
set_option maxHeartbeats 1000000 in
theorem turn_c (k off : Nat) (u : Bytes) (n : Nat) (w : World) (hu : u.length = 20) (hn : n < 160) (hc : ∀ j, j < 20 → w.cell? ⟨k, off + j, none⟩ = (bcs u)[j]?) (hf : ∀ j, w.frozen? ⟨k, j, none⟩ = false) :
    Calls Tryz.prog 189 #[pa k off, .int .i64 (n : Int)] w fun e w' => (∃ v, e = .returned v) ∧
      w' = (w.setCell ⟨k, off + n / 8, none⟩ (.int .u8 ((UInt8.ofNat (Nat.xor (u.getD (n / 8) 0).toNat (2 ^ (n % 8)))).toNat : Int))).drew := by
  have h8 : n / 8 < 20 := by omega
  have hcell := hc (n / 8) h8
  rw [bcs_get u _ (by omega)] at hcell
  have hff := hf (off + n / 8)
  clear hc hf
  have hb := xor_bit (u.getD (n / 8) 0) n
  have HB := Lib.hid hb
  generalize u.getD (n / 8) 0 = b at *
  have hq : IntKind.i64.wrap ((n : Int) / 8) = ((n / 8 : Nat) : Int) := by rw [IntWalk.i64_in _ (by omega)]; omega
  have ht : (n : Int).tmod 8 = ((n % 8 : Nat) : Int) := by rw [Int.tmod_eq_emod_of_nonneg (by omega)]; omega
  have j0 : n % 8 < 8 := by omega
  have i0 : (0 : Int) ≤ (n : Int) / 8 := by omega
  have i1 : (n : Int) / 8 < 20 := by omega
  have i2 : ((n : Int) / 8).toNat = n / 8 := by omega
  clear hb hu
  go_enter Tryz.func189, Tryz.ntmps189
  go_wp2_with fail
  (refine region_still_tail 13 Tryz.mixed (by kernel_rfl) ?_; simp only [List.take_succ_cons, List.take_zero, List.drop_succ_cons, List.drop_zero]; (iterate 13 still_step); refine wpStill_nil ?_)
  go_wp2_with fail
  go_end0
  refine ⟨⟨_, rfl⟩, ?_⟩
  rw [← HB.out]
end Go.Proofs.YtoffondipgjcoaaGreatDoor

/- The contracts of package space: the work's rows; may, Head, there. -/
set_option linter.unusedVariables false
set_option maxRecDepth 100000
set_option linter.unusedSimpArgs false
namespace Go.Proofs.YtoffondipgjcoaaGreatDoor
open Go.RowKit

abbrev sV (s : List UInt8) : Value := .string (str s)
def stC (s : St) (m : Nat) : List Value := bcs s.used ++ [.string (str s.head), .map (some m)]
/-- Where a work's parts lie. -/
structure WkI where
  ca : Nat
  I : CaI
  m : Nat
  nv : Value
  ms : List Nat
/-- what stays: the cache, its device -/
def WkI.key (J : WkI) : Nat × Nat := (J.ca, J.I.d)
theorem WkI.ca_of {J J' : WkI} (h : J'.key = J.key) : J'.ca = J.ca := congrArg Prod.fst h
theorem WkI.d_of {J J' : WkI} (h : J'.key = J.key) : J'.I.d = J.I.d := congrArg Prod.snd h
theorem WkI.key_I {J : WkI} {I' : CaI} (h : I'.d = J.I.d) : ({ J with I := I' } : WkI).key = J.key := by simp [WkI.key, h]
def wkL (J : WkI) (W : Wk) : List Value := pt J.ca :: (bcs W.now.used ++ [.string (str W.now.head), .map (some J.m), J.nv, .bool W.over])
def noteC : List St → List Nat → List Value
  | s :: l, m :: ms => stC s m ++ noteC l ms
  | _, _ => []
/-- The work at k. -/
structure WkR (w : World) (k : Nat) (J : WkI) (W : Wk) : Prop where
  at_ : w.heap[k]? = some (.cells (wkL J W).toArray 136 (0, 0))
  u20 : W.now.used.length = 20
  ca : CaS w J.ca J.I W.G
  map : MapP intK sV w J.m W.now.pages
  srt : Srt ilt W.now.pages
  notes : w.ownsRow 0 133 22 J.nv W.notes.length (noteC W.notes J.ms)
  nms : J.ms.length = W.notes.length
  nmap : ∀ (i m : Nat) (s : St), J.ms[i]? = some m → W.notes[i]? = some s → MapP intK sV w m s.pages ∧ s.used.length = 20 ∧ Srt ilt s.pages
  ap1 : J.m ∉ J.ms
  ap2 : ∀ b ∈ J.m :: J.ms, b ≠ J.I.am ∧ b ≠ J.I.ub
  n1 : 1 ≤ W.G.pages.length
  n2 : W.G.pages.length ≤ 160
  sml : W.notes.length ≤ 1000000000
def WkI.own (J : WkI) (k : Nat) : List Nat := k :: J.m :: (J.nv.ownBlock.toList ++ J.ms)
def WkI.F (J : WkI) (k : Nat) : List Nat := J.own k ++ J.I.F J.ca
theorem noteC_app : ∀ (l : List St) (ms : List Nat) (s : St) (m : Nat), l.length = ms.length → noteC (l ++ [s]) (ms ++ [m]) = noteC l ms ++ stC s m
  | [], [], _, _, _ => by simp [noteC]
  | [], _ :: _, _, _, h => by simp at h
  | _ :: _, [], _, _, h => by simp at h
  | x :: l, y :: ms, s, m, h => by simp only [List.cons_append, noteC, List.append_assoc]; rw [noteC_app l ms s m (by simpa using h)]
/-- Which map blocks a world has. -/
theorem WkR.maps {w : World} {k : Nat} {J : WkI} {W : Wk} (h : WkR w k J W) : ∀ b ∈ J.m :: J.ms, ∃ es n, w.heap[b]? = some (.map es n) := by
  intro b hb
  rcases List.mem_cons.1 hb with rfl | hb
  · obtain ⟨kv, ⟨es, cl, h1, _⟩, _⟩ := h.map; exact ⟨es, cl, h1⟩
  · obtain ⟨i, hi⟩ := List.getElem?_of_mem hb
    have hlt := (List.getElem?_eq_some_iff.1 hi).1
    obtain ⟨⟨kv, ⟨es, cl, h1, _⟩, _⟩, _⟩ := h.nmap i b _ hi (List.getElem?_eq_getElem (by rw [← h.nms]; exact hlt))
    exact ⟨es, cl, h1⟩
theorem WkR.row {w : World} {k : Nat} {J : WkI} {W : Wk} (h : WkR w k J W) : ∀ b, J.nv.ownBlock = some b → ∃ cs, w.heap[b]? = some (.cells cs 133 (0, 0)) := by
  intro b hb
  rcases h.notes.2 with ⟨hv, _⟩ | ⟨g, cap, cur, hv, _, hh, _⟩
  · rw [hv] at hb; simp [Value.ownBlock] at hb
  · rw [hv] at hb; simp [Value.ownBlock] at hb; subst hb; exact ⟨cur, hh⟩
/-- The cache's blocks, by their kinds. -/
theorem CaS.kinds {w : World} {c : Nat} {I : CaI} {G : Pg} (h : CaS w c I G) : ∀ b ∈ I.F c, (b = I.am ∨ b = I.ub) ∨ ∃ cs T f, w.heap[b]? = some (.cells cs T f) ∧ T ≠ 136 ∧ T ≠ 133 ∧ T ≠ 72 ∧ T ≠ 82 ∧ T ≠ 96 := by
  obtain ⟨cur, hg⟩ := strs_blk h.pg.row
  intro b hb
  simp only [CaI.F, List.mem_cons, List.mem_map] at hb
  rcases hb with rfl | rfl | rfl | rfl | rfl | rfl | rfl | ⟨x, hx, rfl⟩
  · exact .inr ⟨_, _, _, h.rg.at_, by decide, by decide, by decide, by decide, by decide⟩
  · exact .inl (.inl rfl)
  · exact .inr ⟨_, _, _, h.pg.at_.at_, by decide, by decide, by decide, by decide, by decide⟩
  · exact .inr ⟨_, _, _, h.pg.dev.at_, by decide, by decide, by decide, by decide, by decide⟩
  · exact .inr ⟨_, _, _, h.pg.dev.sure, by decide, by decide, by decide, by decide, by decide⟩
  · exact .inl (.inr rfl)
  · exact .inr ⟨_, _, _, hg, by decide, by decide, by decide, by decide, by decide⟩
  · obtain ⟨l, m, he⟩ := List.append_of_mem hx
    have hr := h.rg.seg
    rw [he] at hr
    exact .inr ⟨_, _, _, hr.mid, by decide, by decide, by decide, by decide, by decide⟩
theorem CaS.mapBlk {w : World} {c : Nat} {I : CaI} {G : Pg} (h : CaS w c I G) : ∀ b, b = I.am ∨ b = I.ub → ∃ es n, w.heap[b]? = some (.map es n) := by
  rintro b (rfl | rfl)
  · obtain ⟨es, cl, h1, _⟩ := h.map; exact ⟨es, cl, h1⟩
  · obtain ⟨es, cl, h1, _⟩ := h.pg.dev.unsure; exact ⟨es, cl, h1⟩
theorem CaS.notCells {w : World} {c : Nat} {I : CaI} {G : Pg} (h : CaS w c I G) {b T : Nat} {cs : Array Value} {f : Nat × Nat} (hb : w.heap[b]? = some (.cells cs T f)) (hT : T = 136 ∨ T = 133 ∨ T = 72 ∨ T = 82 ∨ T = 96) : b ∉ I.F c := by
  intro hm
  rcases h.kinds b hm with h1 | ⟨cs', T', f', h1, h2⟩
  · obtain ⟨es, n, h3⟩ := h.mapBlk b h1
    exact map_ne hb h3 rfl
  · rw [hb] at h1
    cases h1
    rcases hT with h | h | h | h | h
    · exact h2.1 h
    · exact h2.2.1 h
    · exact h2.2.2.1 h
    · exact h2.2.2.2.1 h
    · exact h2.2.2.2.2 h
theorem WkR.apart {w : World} {k : Nat} {J : WkI} {W : Wk} (h : WkR w k J W) : ∀ b ∈ J.own k, b ∉ J.I.F J.ca := by
  intro b hb
  simp only [WkI.own, List.mem_cons, List.mem_append, Option.mem_toList] at hb
  have hmp : ∀ b ∈ J.m :: J.ms, b ∉ J.I.F J.ca := fun b hb hm => by
    obtain ⟨es, n, h1⟩ := h.maps b hb
    rcases h.ca.kinds b hm with h2 | ⟨cs, T, f, h2, _⟩
    · exact h2.elim (h.ap2 b hb).1 (h.ap2 b hb).2
    · exact map_ne h2 h1 rfl
  rcases hb with rfl | rfl | hb | hb
  · exact h.ca.notCells h.at_ (.inl rfl)
  · exact hmp _ (by simp)
  · obtain ⟨cs, h1⟩ := h.row b hb
    exact h.ca.notCells h1 (.inr (.inl rfl))
  · exact hmp _ (by simp [hb])
theorem WkR.kne {w : World} {k : Nat} {J : WkI} {W : Wk} (h : WkR w k J W) : k ∉ J.m :: (J.nv.ownBlock.toList ++ J.ms) := by
  intro hb
  simp only [List.mem_cons, List.mem_append, Option.mem_toList] at hb
  rcases hb with hb | hb | hb
  · obtain ⟨es, n, h1⟩ := h.maps J.m (by simp)
    exact map_ne h.at_ h1 hb
  · obtain ⟨cs, h1⟩ := h.row k hb
    exact cells_ne h.at_ h1 (by decide) rfl
  · obtain ⟨es, n, h1⟩ := h.maps k (by simp [hb])
    exact map_ne h.at_ h1 rfl
theorem WkR.mne {w : World} {k : Nat} {J : WkI} {W : Wk} (h : WkR w k J W) : J.m ≠ k ∧ (∀ b, J.nv.ownBlock = some b → b ≠ J.m) ∧ J.m ∉ J.ms :=
  ⟨fun he => h.kne (by simp [← he]), fun b hb he => by
    obtain ⟨cs, h1⟩ := h.row b hb
    obtain ⟨es, n, h2⟩ := h.maps J.m (by simp)
    exact map_ne h1 h2 he, h.ap1⟩
/-- what else has changed plays no part -/
theorem WkR.stay {w w' : World} {k : Nat} {J : WkI} {W : Wk} {R : List Nat} (h : WkR w k J W) (hm : Mod R w w') (hR : ∀ b ∈ R, b ∉ J.F k) : WkR w' k J W := by
  have hq : ∀ b, b ∈ J.F k → b ∉ R := fun b hb hm => hR b hm hb
  have hmem : ∀ b, b ∈ k :: J.m :: (J.nv.ownBlock.toList ++ J.ms) → b ∉ R := fun b hb => hq b (List.mem_append_left _ hb)
  refine ⟨hm.at h.at_ (hmem k (by simp)), h.u20, h.ca.stay hm (fun b hb hF => hR b hb (List.mem_append_right _ hF)), h.map.mod hm (hmem _ (by simp)), h.srt, own_mod h.notes hm (fun b hb => hmem b (by simp [hb])), h.nms, ?_, h.ap1, h.ap2, h.n1, h.n2, h.sml⟩
  intro i m s hi hs
  have := h.nmap i m s hi hs
  exact ⟨this.1.mod hm (hmem m (by simp [List.mem_of_getElem? hi])), this.2⟩
theorem WkR.cells {w : World} {k : Nat} {J : WkI} {W : Wk} (h : WkR w k J W) : w.cell? ⟨k, 0, none⟩ = some (pt J.ca) ∧ (∀ j, j < 20 → w.cell? ⟨k, 1 + j, none⟩ = (bcs W.now.used)[j]?) ∧ w.cell? ⟨k, 21, none⟩ = some (.string (str W.now.head)) ∧
    w.cell? ⟨k, 22, none⟩ = some (.map (some J.m)) ∧ w.cell? ⟨k, 23, none⟩ = some J.nv ∧ w.cell? ⟨k, 24, none⟩ = some (.bool W.over) ∧ ∀ j, w.frozen? ⟨k, j, none⟩ = false := by
  obtain ⟨c, f⟩ := cells_of h.at_
  have hl : (bcs W.now.used).length = 20 := by rw [bcs_len]; exact h.u20
  have hget : ∀ i, w.cell? ⟨k, i, none⟩ = (wkL J W)[i]? := fun i => by rw [c]; simp
  have htl : ∀ i, (wkL J W)[21 + i]? = ([.string (str W.now.head), .map (some J.m), J.nv, .bool W.over] : List Value)[i]? := fun i => by
    rw [wkL, show 21 + i = (20 + i) + 1 from by omega, List.getElem?_cons_succ, List.getElem?_append_right (by omega), hl]
    congr 1; omega
  refine ⟨by rw [hget]; rfl, fun j hj => ?_, by rw [hget]; exact htl 0, by rw [hget]; exact htl 1, by rw [hget]; exact htl 2, by rw [hget]; exact htl 3, f⟩
  rw [hget, wkL, Nat.add_comm, List.getElem?_cons_succ, List.getElem?_append_left (by omega)]
def mayN (W : Wk) : Int := if W.over then 13 else 0
theorem wmay_c (k : Nat) (J : WkI) (W : Wk) (w : World) (h : WkR w k J W) :
    Calls Tryz.prog 77 #[pt k] w fun e w' => e = .returned (.int .i64 (mayN W)) ∧ w = w' := by
  have c24 := h.cells.2.2.2.2.2.1
  clear h
  unfold mayN
  cases hv : W.over with
  | true =>
    rw [hv] at c24
    go_enter Tryz.func77, Tryz.ntmps77
    go_wp2
    go_ret
    exact ⟨rfl, rfl⟩
  | false =>
    rw [hv] at c24
    go_enter Tryz.func77, Tryz.ntmps77
    go_wp2
    go_ret
    exact ⟨rfl, rfl⟩
theorem noughts_c (n : Nat) (w : World) (hn : n ≤ 140737488355328) :
    Calls Tryz.prog 99 #[.int .i64 (n : Int)] w fun e w' => e = .returned (.string (str (zeros n))) ∧ Mod [] w w' := by
  go_enter Tryz.func99, Tryz.ntmps99
  go_wp2_with fail
  refine (Repeat_zero n w hn).mono ?_
  rintro e w1 ⟨rfl, hm⟩
  go_wp2_with fail
  go_ret
  exact ⟨rfl, hm⟩
theorem Head_c (k : Nat) (J : WkI) (W : Wk) (w : World) (h : WkR w k J W) (ho : W.over = false) :
    Calls Tryz.prog 35 #[pt k] w fun e w' => e = .returned (.string (str W.now.head)) ∧ w = w' := by
  have c21 := h.cells.2.2.1
  have HM := Lib.hid (wmay_c k J W w h)
  unfold mayN at HM
  rw [ho] at HM
  clear h ho
  go_enter Tryz.func35, Tryz.ntmps35
  go_wp2_with fail
  refine HM.out.mono ?_
  rintro e w1 ⟨rfl, rfl⟩
  clear HM
  simp only [Bool.false_eq_true, if_false]
  go_wp2_with fail
  go_ret
  exact ⟨rfl, rfl⟩
end Go.Proofs.YtoffondipgjcoaaGreatDoor

/- The contracts of package space: there, Read, Write. -/
set_option linter.unusedVariables false
set_option maxRecDepth 100000
set_option linter.unusedSimpArgs false
namespace Go.Proofs.YtoffondipgjcoaaGreatDoor
open Go.RowKit

set_option maxHeartbeats 1000000 in
theorem there_c (k n : Nat) (J : WkI) (W : Wk) (w : World) (h : WkR w k J W) :
    Calls Tryz.prog 179 #[pt k, .int .i64 (n : Int)] w fun e w' => e = .returned (.int .i64 ((W.there n : Nat) : Int)) ∧ Mod [] w w' := by
  have HM := Lib.hid (wmay_c k J W w h)
  obtain ⟨c0, cu, -⟩ := h.cells
  have HP := Lib.hid (Pages_c J.ca J.I W.G w h.ca)
  have hn2 := h.n2
  have HI := fun (hn : n < 160) => Lib.hid (is_c k 1 W.now.used n w h.u20 hn cu)
  unfold mayN at HM
  clear h cu
  cases ho : W.over with
  | true =>
    rw [ho] at HM
    have HT := Lib.hid (show W.there n = 13 from by simp [Wk.there, ho])
    clear HI
    go_enter Tryz.func179, Tryz.ntmps179
    go_wp2_with fail
    refine HM.out.mono ?_
    rintro e w1 ⟨rfl, rfl⟩
    clear HM
    simp only [if_true]
    go_wp2_with fail
    go_ret
    rw [HT.out]
    exact ⟨rfl, Mod.refl _ _⟩
  | false =>
    rw [ho] at HM
    simp only [Bool.false_eq_true, if_false] at HM
    by_cases h0 : n = 0
    · subst h0
      have HT := Lib.hid (show W.there ((0 : Nat) : Int) = 7 from by simp [Wk.there, ho])
      clear HI
      go_enter Tryz.func179, Tryz.ntmps179
      go_wp2_with fail
      refine HM.out.mono ?_
      rintro e w1 ⟨rfl, rfl⟩
      clear HM
      go_wp2_with fail
      go_ret
      rw [HT.out]
      exact ⟨rfl, Mod.refl _ _⟩
    · by_cases hL : W.G.pages.length ≤ n
      · have HT := Lib.hid (show W.there n = 7 from by simp [Wk.there, ho, hL])
        have hpos : 0 < n := by omega
        clear HI h0
        go_enter Tryz.func179, Tryz.ntmps179
        go_wp2_with fail
        refine HM.out.mono ?_
        rintro e w1 ⟨rfl, rfl⟩
        clear HM
        go_wp2_with fail
        refine HP.out.mono ?_
        rintro e w1 ⟨rfl, rfl⟩
        clear HP
        go_wp2_with fail
        go_ret
        rw [HT.out]
        exact ⟨rfl, Mod.refl _ _⟩
      · have HT := Lib.hid (show W.there n = if isU W.now.used n then 0 else 7 from by
          unfold Wk.there
          rw [if_neg (by simp [ho]), Int.toNat_natCast]
          have e1 : ¬ (n : Int) ≤ 0 := by omega
          have e2 : ¬ (W.G.pages.length : Int) ≤ (n : Int) := by omega
          simp only [e1, e2, false_or]
          cases isU W.now.used n <;> rfl)
        have hpos : 0 < n := by omega
        have HI := HI (by omega)
        clear h0
        go_enter Tryz.func179, Tryz.ntmps179
        go_wp2_with fail
        refine HM.out.mono ?_
        rintro e w1 ⟨rfl, rfl⟩
        clear HM
        go_wp2_with fail
        refine HP.out.mono ?_
        rintro e w1 ⟨rfl, rfl⟩
        clear HP
        have hb2 : decide ((W.G.pages.length : Int) ≤ (n : Int)) = false := by simp; omega
        go_wp2_with fail
        refine HI.out.mono ?_
        cases hu : isU W.now.used n with
        | true =>
          rintro e w1 ⟨rfl, hm⟩
          rw [hu] at HT
          have HMM := Lib.hid hm
          clear hm hu
          go_wp2_with fail
          go_ret
          rw [HT.out]
          exact ⟨rfl, HMM.out⟩
        | false =>
          rintro e w1 ⟨rfl, hm⟩
          rw [hu] at HT
          have HMM := Lib.hid hm
          clear hm hu
          go_wp2_with fail
          go_ret
          rw [HT.out]
          exact ⟨rfl, HMM.out⟩
theorem zero_str (w : World) : (zeroValue 9).run Tryz.prog w = .ok (.string ⟨#[]⟩) w := by
  have hz : (Tryz.prog.info? 9).map (·.zero) = some (some (.string ⟨#[]⟩)) := by kernel_rfl
  cases hq : Tryz.prog.info? 9 with
  | none => simp [hq] at hz
  | some i => simp [hq] at hz; simp [zeroValue, typeInfo, hq, hz]
theorem look_page {w : World} {r : Nat} {m : List (Int × List UInt8)} (h : MapP intK sV w r m) (k : Int) (a : List UInt8) (hx : alook m k = some a) :
    ∀ b : Nat, b = r → (Instr.lookup 130 (.map (some b)) (.int .i64 k) true).run Tryz.prog w = .ok (.tuple #[.string (str a), .bool true]) w := by
  rintro b rfl
  have h1 := run_lookup_mapP (P := Tryz.prog) 130 9 Tryz.underlying130 (keyOK_int Tryz.underlying3) (.string ⟨#[]⟩) zero_str h k true
  rw [hx] at h1
  exact h1
theorem look_page1 {w : World} {r : Nat} {m : List (Int × List UInt8)} (h : MapP intK sV w r m) (k : Int) (a : List UInt8) (hx : alook m k = some a) :
    ∀ b : Nat, b = r → (Instr.lookup 130 (.map (some b)) (.int .i64 k) false).run Tryz.prog w = .ok (.string (str a)) w := by
  rintro b rfl
  have h1 := run_lookup_mapP (P := Tryz.prog) 130 9 Tryz.underlying130 (keyOK_int Tryz.underlying3) (.string ⟨#[]⟩) zero_str h k false
  rw [hx] at h1
  exact h1
theorem look_page0 {w : World} {r : Nat} {m : List (Int × List UInt8)} (h : MapP intK sV w r m) (k : Int) (hx : alook m k = none) :
    ∀ b : Nat, b = r → (Instr.lookup 130 (.map (some b)) (.int .i64 k) true).run Tryz.prog w = .ok (.tuple #[.string ⟨#[]⟩, .bool false]) w := by
  rintro b rfl
  have h1 := run_lookup_mapP (P := Tryz.prog) 130 9 Tryz.underlying130 (keyOK_int Tryz.underlying3) (.string ⟨#[]⟩) zero_str h k true
  rw [hx] at h1
  exact h1
/-- the cache has gone on below -/
theorem WkR.cache {w w' : World} {k : Nat} {J : WkI} {W : Wk} {I' : CaI} {G' : Pg} (h : WkR w k J W) (hs : Stp (J.I.F J.ca) (I'.F J.ca) w w') (hc : CaS w' J.ca I' G') (hl : G'.pages.length = W.G.pages.length) :
    WkR w' k { J with I := I' } { W with G := G' } ∧ Stp (J.F k) (({ J with I := I' } : WkI).F k) w w' := by
  have hap : ∀ b, b ∈ J.own k → b ∉ J.I.F J.ca := h.apart
  have hmem : ∀ b, b ∈ k :: J.m :: (J.nv.ownBlock.toList ++ J.ms) → b ∉ J.I.F J.ca := hap
  have hlt : ∀ b ∈ J.m :: J.ms, b < w.heap.size := fun b hb => by obtain ⟨es, n, h1⟩ := h.maps b hb; exact lt_of_block h1
  refine ⟨⟨hs.mod.at h.at_ (hmem k (by simp)), h.u20, hc, h.map.mod hs.mod (hmem _ (by simp)), h.srt, own_mod h.notes hs.mod (fun b hb => hmem b (by simp [hb])), h.nms, ?_, h.ap1, ?_, by rw [show ({ W with G := G' } : Wk).G = G' from rfl, hl]; exact h.n1, by rw [show ({ W with G := G' } : Wk).G = G' from rfl, hl]; exact h.n2, h.sml⟩, ?_, ?_⟩
  · intro i m s hi hs'
    have := h.nmap i m s hi hs'
    exact ⟨this.1.mod hs.mod (hmem m (by simp [List.mem_of_getElem? hi])), this.2⟩
  · intro b hb
    have hnF : b ∉ J.I.F J.ca := by
      rcases List.mem_cons.1 hb with rfl | hb
      · exact hmem _ (by simp)
      · exact hmem _ (by simp [hb])
    have hf := hs.far ⟨hlt b hb, hnF⟩
    exact ⟨fun he => hf.2 (he ▸ by simp [CaI.F]), fun he => hf.2 (he ▸ by simp [CaI.F])⟩
  · exact hs.mod.mono (fun x hx => .inl (List.mem_append_right _ hx))
  · intro b hb
    rcases List.mem_append.1 hb with hb | hb
    · exact .inl (List.mem_append_left _ hb)
    · exact (hs.sub b hb).imp (List.mem_append_right _) id
/-- what a call leaves: the work W' -/
def WkP (k : Nat) (J : WkI) (W' : Wk) (w w' : World) : Prop := ∃ J', WkR w' k J' W' ∧ Stp (J.F k) (J'.F k) w w' ∧ J'.key = J.key
theorem WkP.refl {k : Nat} {J : WkI} {W : Wk} {w w' : World} (h : WkR w k J W) (hm : Mod [] w w') : WkP k J W w w' := ⟨J, h.stay hm (by simp), Stp.pure hm, rfl⟩
theorem WkP.ofCache {w w' : World} {k : Nat} {J : WkI} {W : Wk} {I' : CaI} (h : WkR w k J W) (hs : Stp (J.I.F J.ca) (I'.F J.ca) w w') (hc : CaS w' J.ca I' W.G) (hd : I'.d = J.I.d) : WkP k J W w w' := ⟨_, (h.cache hs hc rfl).1, (h.cache hs hc rfl).2, WkI.key_I hd⟩
set_option maxHeartbeats 1000000 in
theorem wRead_c (k n : Nat) (J : WkI) (W : Wk) (w : World) (h : WkR w k J W) :
    Calls Tryz.prog 140 #[pt k, .int .i64 (n : Int)] w fun e w' => e = .returned (.tuple #[.string (str (W.read n).1), .int .i64 (((W.read n).2 : Nat) : Int)]) ∧ WkP k J W w w' := by
  have HT := Lib.hid (there_c k n J W w h)
  have H := Lib.hid h
  by_cases he : W.there n = 0
  · have HE := Lib.hid he
    rw [he] at HT
    clear he h
    go_enter Tryz.func140, Tryz.ntmps140
    go_wp2_with fail
    refine HT.out.mono ?_
    rintro e w1 ⟨rfl, hm1⟩
    have h1 := H.out.stay hm1 (by simp)
    obtain ⟨c0, -, -, c22, -⟩ := h1.cells
    have hlt : n < W.G.pages.length := by
      have := HE.out
      unfold Wk.there at this
      split at this
      · cases this
      · split at this
        · cases this
        · rename_i h2
          simp only [not_or] at h2; omega
    cases hk : alook W.now.pages (n : Int) with
    | some s =>
      have hlk := look_page h1.map (n : Int) _ hk
      have HV := Lib.hid (show W.read n = (s, 0) from by unfold Wk.read; rw [if_neg (by rw [HE.out]; simp), hk])
      have HM := Lib.hid hm1
      clear h1 hm1 HT hk
      go_wp2_with fail
      go_ret2
      rw [HV.out]
      exact ⟨rfl, WkP.refl H.out HM.out⟩
    | none =>
      have hlk := look_page0 h1.map (n : Int) hk
      obtain ⟨s, hg⟩ : ∃ s, W.G.pages[n]? = some s := ⟨_, List.getElem?_eq_getElem hlt⟩
      have HV := Lib.hid (show W.read n = (s, 0) from by unfold Wk.read; rw [if_neg (by rw [HE.out]; simp), hk]; simp [List.getD_eq_getElem?_getD, hg])
      have HR := Lib.hid (cRead_c J.ca J.I W.G n _ w1 h1.ca hg)
      have HM := Lib.hid hm1; have H1 := Lib.hid h1
      clear h1 hm1 HT hk hg
      go_wp2_with fail
      refine HR.out.mono ?_
      rintro e w2 ⟨rfl, I', hc2, hd2, hs2⟩
      have hfin : WkP k J W w w2 := by
        obtain ⟨J', hr, hs, hca⟩ := WkP.ofCache H1.out hs2 hc2 hd2
        exact ⟨J', hr, (Stp.pure HM.out).trans hs, hca⟩
      have HF := Lib.hid hfin
      clear hfin hc2 hd2 hs2 HR hlk c0 c22
      go_wp2_with fail
      go_ret2
      rw [HV.out]
      exact ⟨rfl, HF.out⟩
  · have HE := Lib.hid (show W.read n = ([], W.there n) from by unfold Wk.read; rw [if_pos he])
    generalize W.there n = E at *
    have he' : ((E : Int) != 0) = true := by rw [bne_iff_ne]; omega
    clear he h
    go_enter Tryz.func140, Tryz.ntmps140
    go_wp2_with fail
    refine HT.out.mono ?_
    rintro e w1 ⟨rfl, hm1⟩
    have HM := Lib.hid hm1; clear hm1
    go_wp2_with fail
    go_ret2
    rw [HE.out]
    exact ⟨rfl, WkP.refl H.out HM.out⟩
end Go.Proofs.YtoffondipgjcoaaGreatDoor

/- The contracts of package space: Write, Drop, SetHead, Used, Take. -/
set_option linter.unusedVariables false
set_option maxRecDepth 100000
set_option linter.unusedSimpArgs false
namespace Go.Proofs.YtoffondipgjcoaaGreatDoor
open Go.RowKit

theorem wk_setT (J : WkI) (W : Wk) (hu : W.now.used.length = 20) (i : Nat) (v : Value) :
    (wkL J W).toArray.setIfInBounds (21 + i) v = (pt J.ca :: (bcs W.now.used ++ ([.string (str W.now.head), .map (some J.m), J.nv, .bool W.over] : List Value).set i v)).toArray := by
  rw [List.setIfInBounds_toArray, wkL, show 21 + i = (20 + i) + 1 from by omega, List.set_cons_succ, List.set_append, if_neg (by rw [bcs_len]; omega), bcs_len, hu]
  congr 4; omega
theorem wk_setU (J : WkI) (W : Wk) (hu : W.now.used.length = 20) (j : Nat) (hj : j < 20) (x : UInt8) :
    (wkL J W).toArray.setIfInBounds (1 + j) (.int .u8 (x.toNat : Int)) = (wkL J { W with now := { W.now with used := W.now.used.set j x } }).toArray := by
  rw [List.setIfInBounds_toArray, wkL, Nat.add_comm, List.set_cons_succ, List.set_append, if_pos (by rw [bcs_len]; omega)]
  simp [wkL, bcs, List.map_set]
theorem WkR.setK {w w' : World} {k : Nat} {J : WkI} {W W' : Wk} (h : WkR w k J W) (hm : Mod [k] w w') (hat : w'.heap[k]? = some (.cells (wkL J W').toArray 136 (0, 0))) (hu : W'.now.used.length = 20)
    (hp : W'.now.pages = W.now.pages) (hn : W'.notes = W.notes) (hG : W'.G = W.G) : WkR w' k J W' := by
  have hk := h.kne
  have hF := h.apart k (by simp [WkI.own])
  have hmem : ∀ b, b ∈ J.m :: (J.nv.ownBlock.toList ++ J.ms) → b ∉ [k] := fun b hb hm => hk (by simp at hm; rw [← hm]; exact hb)
  refine ⟨hat, hu, by rw [hG]; exact h.ca.stay hm (fun b hb => by simp at hb; subst hb; exact hF), by rw [hp]; exact h.map.mod hm (hmem _ (by simp)), by rw [hp]; exact h.srt, by rw [hn]; exact own_mod h.notes hm (fun b hb => hmem b (by simp [hb])), by rw [hn]; exact h.nms, ?_, h.ap1, h.ap2, by rw [hG]; exact h.n1, by rw [hG]; exact h.n2, by rw [hn]; exact h.sml⟩
  intro i m s hi hs
  rw [hn] at hs
  have := h.nmap i m s hi hs
  exact ⟨this.1.mod hm (hmem m (by simp [List.mem_of_getElem? hi])), this.2⟩
theorem WkR.setM {w w' : World} {k : Nat} {J : WkI} {W : Wk} {pg : List (Int × List UInt8)} (h : WkR w k J W) (hm : Mod [J.m] w w') (hp : MapP intK sV w' J.m pg) (hs : Srt ilt pg) : WkR w' k J { W with now := { W.now with pages := pg } } := by
  obtain ⟨h1, h2, h3⟩ := h.mne
  have hF := h.apart J.m (by simp [WkI.own])
  refine ⟨hm.at h.at_ (by simpa using h1.symm), h.u20, h.ca.stay hm (fun b hb => by simp at hb; subst hb; exact hF), hp, hs, own_mod h.notes hm (fun b hb => by simpa using h2 b hb), h.nms, ?_, h.ap1, h.ap2, h.n1, h.n2, h.sml⟩
  intro i m s hi hs
  have := h.nmap i m s hi hs
  exact ⟨this.1.mod hm (by simp; rintro rfl; exact h3 (List.mem_of_getElem? hi)), this.2⟩
theorem WkP.ofK {w w' : World} {k : Nat} {J : WkI} {W W' : Wk} (h : WkR w' k J W') (hm : Mod [k] w w') : WkP k J W' w w' := ⟨J, h, Stp.of hm (fun x hx => by simp at hx; subst hx; simp [WkI.F, WkI.own]), rfl⟩
theorem WkP.ofM {w w' : World} {k : Nat} {J : WkI} {W' : Wk} (h : WkR w' k J W') (hm : Mod [J.m] w w') : WkP k J W' w w' := ⟨J, h, Stp.of hm (fun x hx => by simp at hx; subst hx; simp [WkI.F, WkI.own]), rfl⟩
theorem WkP.pre {w w1 w' : World} {k : Nat} {J : WkI} {W' : Wk} (hm : Mod [] w w1) (h : WkP k J W' w1 w') : WkP k J W' w w' := by
  obtain ⟨J', hr, hs, hca⟩ := h
  exact ⟨J', hr, (Stp.pure hm).trans hs, hca⟩
theorem WkP.post {w w1 w' : World} {k : Nat} {J : WkI} {W' : Wk} (h : WkP k J W' w w1) (hm : Mod [] w1 w') : WkP k J W' w w' := by
  obtain ⟨J', hr, hs, hca⟩ := h
  exact ⟨J', hr.stay hm (by simp), hs.trans (Stp.pure hm), hca⟩
set_option maxHeartbeats 1000000 in
theorem wWrite_c (k n : Nat) (J : WkI) (W : Wk) (s : List UInt8) (w : World) (h : WkR w k J W) :
    Calls Tryz.prog 150 #[pt k, .int .i64 (n : Int), .string (str s)] w fun e w' => e = .returned (.int .i64 (((W.write n s).2 : Nat) : Int)) ∧ WkP k J (W.write n s).1 w w' := by
  have HT := Lib.hid (there_c k n J W w h)
  have H := Lib.hid h
  have hss := str_size s
  by_cases he : W.there n = 0
  · have HE := Lib.hid he
    rw [he] at HT
    clear he h
    by_cases hl : s.length = 256
    · have HV := Lib.hid (show W.write n s = ({ W with now := { W.now with pages := sput ilt n s W.now.pages } }, 0) from by unfold Wk.write; rw [if_neg (by rw [HE.out]; simp), if_neg (by simp [hl])])
      rw [hl] at hss
      go_enter Tryz.func150, Tryz.ntmps150
      go_wp2_with fail
      refine HT.out.mono ?_
      rintro e w1 ⟨rfl, hm1⟩
      have h1 := H.out.stay hm1 (by simp)
      obtain ⟨c0, -, -, c22, -⟩ := h1.cells
      have HM := Lib.hid hm1; have H1 := Lib.hid h1
      clear h1 hm1 HT hl
      go_wp2_with (with_reducible refine stop_map _ _ _ _ rfl ?_)
      refine Stop.go ?_
      refine wpList_mapUpdateP rfl 130 9 _ _ _ rfl Tryz.underlying130 (keyOK_int Tryz.underlying3) (enc := sV) ilt ilt_ord J.m W.now.pages (n : Int) s rfl rfl rfl H1.out.map H1.out.srt ?_
      intro w2 hm2 hmp2 hz2
      have hfin := (WkP.ofM (H1.out.setM hm2 hmp2 (H1.out.srt.sput ilt_ord)) hm2).pre HM.out
      have HF := Lib.hid hfin
      clear hm2 hmp2 hz2 hfin
      go_wp2_with fail
      go_ret
      rw [HV.out]
      exact ⟨rfl, HF.out⟩
    · have HV := Lib.hid (show W.write n s = (W, 1) from by unfold Wk.write; rw [if_neg (by rw [HE.out]; simp), if_pos hl])
      have hb : (((str s).size : Int) != 256) = true := by rw [bne_iff_ne, hss]; omega
      rw [hss] at hb
      clear hl
      go_enter Tryz.func150, Tryz.ntmps150
      go_wp2_with fail
      refine HT.out.mono ?_
      rintro e w1 ⟨rfl, hm1⟩
      have HM := Lib.hid hm1
      clear hm1
      go_wp2_with fail
      go_ret
      rw [HV.out]
      exact ⟨rfl, WkP.refl H.out HM.out⟩
  · have HE := Lib.hid (show W.write n s = (W, W.there n) from by unfold Wk.write; rw [if_pos he])
    generalize W.there n = E at *
    have he' : ((E : Int) != 0) = true := by rw [bne_iff_ne]; omega
    clear he h
    go_enter Tryz.func150, Tryz.ntmps150
    go_wp2_with fail
    refine HT.out.mono ?_
    rintro e w1 ⟨rfl, hm1⟩
    have HM := Lib.hid hm1; clear hm1
    go_wp2_with fail
    go_ret
    rw [HE.out]
    exact ⟨rfl, WkP.refl H.out HM.out⟩
theorem WkR.turn {w w' : World} {k n : Nat} {J : WkI} {W : Wk} (h : WkR w k J W) (hn : n < 160)
    (hw : w' = (w.setCell ⟨k, 1 + n / 8, none⟩ (.int .u8 ((UInt8.ofNat (Nat.xor (W.now.used.getD (n / 8) 0).toNat (2 ^ (n % 8)))).toNat : Int))).drew) :
    WkR w' k J { W with now := { W.now with used := turnU W.now.used n } } ∧ Mod [k] w w' := by
  subst hw
  have hm : Mod [k] w (w.setCell ⟨k, 1 + n / 8, none⟩ (.int .u8 ((UInt8.ofNat (Nat.xor (W.now.used.getD (n / 8) 0).toNat (2 ^ (n % 8)))).toNat : Int))).drew := ((Mod.refl _ _).setCell _ _ (.inl (by simp))).drew
  refine ⟨h.setK hm ?_ (by simp [turnU, h.u20]) rfl rfl rfl, hm⟩
  show (w.setCell _ _).heap[k]? = _
  rw [hp_set h.at_, wk_setU J W h.u20 (n / 8) (by omega)]
  rfl
set_option maxHeartbeats 1000000 in
theorem wDrop_c (k n : Nat) (J : WkI) (W : Wk) (w : World) (h : WkR w k J W) :
    Calls Tryz.prog 187 #[pt k, .int .i64 (n : Int)] w fun e w' => e = .returned (.int .i64 (((W.drop n).2 : Nat) : Int)) ∧ WkP k J (W.drop n).1 w w' := by
  have HT := Lib.hid (there_c k n J W w h)
  have H := Lib.hid h
  by_cases he : W.there n = 0
  · have HE := Lib.hid he
    have hlt : n < 160 := by
      have := he
      have h2 := h.n2
      unfold Wk.there at this
      split at this
      · cases this
      · split at this
        · cases this
        · rename_i h2
          simp only [not_or] at h2; omega
    rw [he] at HT
    have HV := Lib.hid (show W.drop n = ({ W with now := { W.now with used := turnU W.now.used n } }, 0) from by unfold Wk.drop; rw [if_neg (by rw [HE.out]; simp)]; simp)
    clear he h
    go_enter Tryz.func187, Tryz.ntmps187
    go_wp2_with fail
    refine HT.out.mono ?_
    rintro e w1 ⟨rfl, hm1⟩
    have h1 := H.out.stay hm1 (by simp)
    obtain ⟨-, cu, -, -, -, -, ff⟩ := h1.cells
    have HTU := Lib.hid (turn_c k 1 W.now.used n w1 H.out.u20 hlt cu ff)
    have HM := Lib.hid hm1; have H1 := Lib.hid h1
    clear h1 hm1 HT cu ff
    go_wp2_with fail
    refine HTU.out.mono ?_
    rintro e w2 ⟨⟨v, rfl⟩, hw⟩
    have hfin : WkP k J { W with now := { W.now with used := turnU W.now.used n } } w w2 := (WkP.ofK (W := W) (H1.out.turn hlt hw).1 (H1.out.turn hlt hw).2).pre HM.out
    have HF := Lib.hid hfin
    clear hfin hw HTU
    go_wp2_with fail
    go_ret
    rw [HV.out]
    exact ⟨rfl, HF.out⟩
  · have HE := Lib.hid (show W.drop n = (W, W.there n) from by unfold Wk.drop; rw [if_pos he])
    generalize W.there n = E at *
    have he' : ((E : Int) == 0) = false := by rw [beq_eq_false_iff_ne]; omega
    clear he h
    go_enter Tryz.func187, Tryz.ntmps187
    go_wp2_with fail
    refine HT.out.mono ?_
    rintro e w1 ⟨rfl, hm1⟩
    have HM := Lib.hid hm1; clear hm1
    go_wp2_with fail
    go_ret
    rw [HE.out]
    exact ⟨rfl, WkP.refl H.out HM.out⟩
set_option maxHeartbeats 1000000 in
theorem SetHead_c (k : Nat) (J : WkI) (W : Wk) (s : List UInt8) (w : World) (h : WkR w k J W) (hsb : s.length ≤ 1000000000) :
    Calls Tryz.prog 46 #[pt k, .string (str s)] w fun e w' => e = .returned (.int .i64 (((W.setHead s).2 : Nat) : Int)) ∧ WkP k J (W.setHead s).1 w w' := by
  have HMY := Lib.hid (wmay_c k J W w h)
  have H := Lib.hid h
  have hss := str_size s
  unfold mayN at HMY
  cases ho : W.over with
  | true =>
    have HV := Lib.hid (show W.setHead s = (W, 13) from by simp [Wk.setHead, ho])
    rw [ho, if_pos rfl] at HMY
    clear h ho
    go_enter Tryz.func46, Tryz.ntmps46
    go_wp2_with fail
    refine HMY.out.mono ?_
    rintro e w1 ⟨rfl, rfl⟩
    clear HMY
    go_wp2_with fail
    go_ret
    rw [HV.out]
    exact ⟨rfl, WkP.refl H.out (Mod.refl _ _)⟩
  | false =>
    rw [ho, if_neg (by simp)] at HMY
    by_cases hl : 236 < s.length
    · have HV := Lib.hid (show W.setHead s = (W, 3) from by simp [Wk.setHead, ho, hl])
      clear h ho
      go_enter Tryz.func46, Tryz.ntmps46
      go_wp2_with fail
      refine HMY.out.mono ?_
      rintro e w1 ⟨rfl, rfl⟩
      clear HMY
      go_wp2_with fail
      go_ret
      rw [HV.out]
      exact ⟨rfl, WkP.refl H.out (Mod.refl _ _)⟩
    · have HV := Lib.hid (show W.setHead s = ({ W with now := { W.now with head := s ++ zeros (236 - s.length) } }, 0) from by simp [Wk.setHead, ho, hl])
      clear h ho
      go_enter Tryz.func46, Tryz.ntmps46
      go_wp2_with fail
      refine HMY.out.mono ?_
      rintro e w1 ⟨rfl, rfl⟩
      clear HMY
      go_wp2_with fail
      rw [show (236 : Int) - (s.length : Int) = ((236 - s.length : Nat) : Int) from by omega]
      refine (noughts_c (236 - s.length) _ (by omega)).mono ?_
      rintro e w1 ⟨rfl, hm1⟩
      have h1 := H.out.stay hm1 (by simp)
      obtain ⟨-, -, c21, -, -, -, ff⟩ := h1.cells
      have f21 := ff 21
      have HM := Lib.hid hm1; have H1 := Lib.hid h1
      have hz : ¬ 9223372036854775807 < (str s).size + (str (zeros (236 - s.length))).size := by simp [str, ByteArray.size, zeros]; omega
      clear h1 hm1 ff
      go_wp2_with fail
      go_ret
      rw [HV.out]
      have hm2 : Mod [k] w1 (w1.setCell ⟨k, 21, none⟩ (.string (str s ++ str (zeros (236 - s.length))))) := (Mod.refl _ _).setCell _ _ (.inl (by simp))
      refine ⟨rfl, (WkP.ofK (W := W) (H1.out.setK (W' := { W with now := { W.now with head := s ++ zeros (236 - s.length) } }) hm2 ?_ H1.out.u20 rfl rfl rfl) hm2).pre HM.out⟩
      rw [hp_set H1.out.at_]
      have := wk_setT J W H1.out.u20 0 (.string (str s ++ str (zeros (236 - s.length))))
      rw [Nat.add_zero] at this
      rw [this, str_app]; rfl
end Go.Proofs.YtoffondipgjcoaaGreatDoor

/- The contracts of package space: Used, Take, first. -/
set_option linter.unusedVariables false
set_option maxRecDepth 100000
set_option linter.unusedSimpArgs false
namespace Go.Proofs.YtoffondipgjcoaaGreatDoor
open Go.RowKit

theorem range'_snoc (j : Nat) : List.range' 1 (j + 1) = List.range' 1 j ++ [j + 1] := by rw [List.range'_1_concat, Nat.add_comm]
set_option maxHeartbeats 1000000 in
theorem Used_c (k : Nat) (J : WkI) (W : Wk) (w : World) (h : WkR w k J W) (ho : W.over = false) :
    Calls Tryz.prog 54 #[pt k] w fun e w' => e = .returned (.int .i64 (W.used : Int)) ∧ Mod [] w w' := by
  have HMY := Lib.hid (wmay_c k J W w h)
  have H := Lib.hid h
  unfold mayN at HMY
  rw [ho, if_neg (by simp)] at HMY
  have HV := Lib.hid (show W.used = 1 + (List.range' 1 (W.G.pages.length - 1)).countP (isU W.now.used) from by simp [Wk.used, ho])
  have hn1 := h.n1
  have hn2 := h.n2
  clear h ho
  go_enter Tryz.func54, Tryz.ntmps54
  go_wp2_with fail
  refine HMY.out.mono ?_
  rintro e w1 ⟨rfl, rfl⟩
  clear HMY
  go_wp2_with fail
  go_loopw [3, 4] (fun n i wr => ∃ j : Nat, j + 1 ≤ W.G.pages.length ∧ i = .int .i64 ((j + 1 : Nat) : Int) ∧ n = .int .i64 (((1 + (List.range' 1 j).countP (isU W.now.used)) : Nat) : Int) ∧ Mod [] w wr) (fun _ i _ => W.G.pages.length - (intOf i).toNat)
  case atStart => exact ⟨0, hn1, rfl, rfl, Mod.refl _ _⟩
  case round =>
    obtain ⟨j, hj, rfl, rfl, hm⟩ := hrel
    have h1 := H.out.stay hm (by simp)
    obtain ⟨c0, cu, -⟩ := h1.cells
    have HP := Lib.hid (Pages_c J.ca J.I W.G wr h1.ca)
    have HM := Lib.hid hm
    have hcnt : (List.range' 1 j).countP (isU W.now.used) ≤ j := by have := List.countP_le_length (p := isU W.now.used) (l := List.range' 1 j); simpa using this
    by_cases hlt : j + 1 < W.G.pages.length
    · have HI := Lib.hid (is_c k 1 W.now.used (j + 1) wr h1.u20 (by omega) cu)
      have hsn := range'_snoc j
      generalize hL : List.range' 1 j = L at *
      have HSN := Lib.hid hsn
      clear h1 hm cu hL hsn
      generalize hC : L.countP (isU W.now.used) = C at *
      have HC := Lib.hid hC
      clear hC
      go_wp2_with fail
      refine HP.out.mono ?_
      rintro e w2 ⟨rfl, rfl⟩
      clear HP
      go_wp2_with fail
      refine HI.out.mono ?_
      cases hu : isU W.now.used (j + 1) with
      | true =>
        rintro e w2 ⟨rfl, hm2⟩
        have HM2 := Lib.hid hm2; have HU := Lib.hid hu
        clear hm2 hu
        go_wp2_with fail
        go_roundw
        case rel => exact ⟨j + 1, by omega, by go_num, by rw [HSN.out, List.countP_append, HC.out]; simp only [List.countP_singleton, HU.out, if_true]; go_num, HM.out.trans HM2.out (by simp)⟩
        case measure => simp [intOf]; omega
      | false =>
        rintro e w2 ⟨rfl, hm2⟩
        have HM2 := Lib.hid hm2; have HU := Lib.hid hu
        clear hm2 hu
        go_wp2_with fail
        go_roundw
        case rel => exact ⟨j + 1, by omega, by go_num, by rw [HSN.out, List.countP_append, HC.out]; simp only [List.countP_singleton, HU.out]; simp, HM.out.trans HM2.out (by simp)⟩
        case measure => simp [intOf]; omega
    · obtain rfl : j = W.G.pages.length - 1 := by omega
      rw [← HV.out]
      clear h1 hm cu
      have hb : decide ((W.G.pages.length - 1 : Nat) + 1 < W.G.pages.length) = false := by simp; omega
      go_wp2_with fail
      refine HP.out.mono ?_
      rintro e w2 ⟨rfl, rfl⟩
      clear HP
      go_wp2_with fail
      go_ret
      exact ⟨rfl, HM.out⟩
theorem freeU_some (u : Bytes) (n k : Nat) (hk : k + 1 < n) (hu : isU u (k + 1) = false) (hall : ∀ i, 1 ≤ i → i ≤ k → isU u i = true) : freeU u n = some (k + 1) := by
  unfold freeU
  rw [List.find?_range'_eq_some]
  refine ⟨by simp [hu], by simp; omega, fun j h1 h2 => by simp [hall j h1 (by omega)]⟩
theorem freeU_none (u : Bytes) (n : Nat) (hall : ∀ i, 1 ≤ i → i < n → isU u i = true) : freeU u n = none := by
  unfold freeU
  rw [List.find?_eq_none]
  intro x hx
  simp at hx
  simp [hall x hx.1 (by omega)]
set_option maxHeartbeats 2000000 in
theorem wTake_c (k : Nat) (J : WkI) (W : Wk) (w : World) (h : WkR w k J W) :
    Calls Tryz.prog 148 #[pt k] w fun e w' => e = .returned (.tuple #[.int .i64 (W.take.1 : Int), .int .i64 ((W.take.2.2 : Nat) : Int)]) ∧ WkP k J W.take.2.1 w w' := by
  have HMY := Lib.hid (wmay_c k J W w h)
  have H := Lib.hid h
  unfold mayN at HMY
  have hn1 := h.n1
  have hn2 := h.n2
  cases ho : W.over with
  | true =>
    have HV := Lib.hid (show W.take = (0, W, 13) from by simp [Wk.take, ho])
    rw [ho, if_pos rfl] at HMY
    clear h ho
    go_enter Tryz.func148, Tryz.ntmps148
    go_wp2_with fail
    refine HMY.out.mono ?_
    rintro e w1 ⟨rfl, rfl⟩
    clear HMY
    go_wp2_with fail
    go_ret2
    rw [HV.out]
    exact ⟨rfl, WkP.refl H.out (Mod.refl _ _)⟩
  | false =>
    rw [ho, if_neg (by simp)] at HMY
    have HO := Lib.hid ho
    clear h ho
    go_enter Tryz.func148, Tryz.ntmps148
    go_wp2_with fail
    refine HMY.out.mono ?_
    rintro e w1 ⟨rfl, rfl⟩
    clear HMY
    go_wp2_with fail
    go_loopw [5] (fun i wr => ∃ j : Nat, j + 1 ≤ W.G.pages.length ∧ i = .int .i64 ((j + 1 : Nat) : Int) ∧ (∀ i, 1 ≤ i → i ≤ j → isU W.now.used i = true) ∧ Mod [] w wr) (fun i _ => W.G.pages.length - (intOf i).toNat)
    case atStart => exact ⟨0, hn1, rfl, by omega, Mod.refl _ _⟩
    case round =>
      obtain ⟨j, hj, rfl, hall, hm⟩ := hrel
      have h1 := H.out.stay hm (by simp)
      obtain ⟨c0, cu, -⟩ := h1.cells
      have HP := Lib.hid (Pages_c J.ca J.I W.G wr h1.ca)
      have HM := Lib.hid hm; have HALL := Lib.hid hall
      by_cases hlt : j + 1 < W.G.pages.length
      · have HI := Lib.hid (is_c k 1 W.now.used (j + 1) wr h1.u20 (by omega) cu)
        clear h1 hm cu hall
        go_wp2_with fail
        refine HP.out.mono ?_
        rintro e w2 ⟨rfl, rfl⟩
        clear HP
        go_wp2_with fail
        refine HI.out.mono ?_
        cases hu : isU W.now.used (j + 1) with
        | true =>
          rintro e w2 ⟨rfl, hm2⟩
          have HM2 := Lib.hid hm2; have HU := Lib.hid hu
          clear hm2 hu
          go_wp2_with fail
          go_roundw
          case rel =>
            refine ⟨j + 1, by omega, by go_num, ?_, HM.out.trans HM2.out (by simp)⟩
            intro i h1 h2
            rcases Nat.lt_or_ge j i with h3 | h3
            · obtain rfl : i = j + 1 := by omega
              exact HU.out
            · exact HALL.out i h1 h3
          case measure => simp [intOf]; omega
        | false =>
          rintro e w2 ⟨rfl, hm2⟩
          have h2 := (H.out.stay HM.out (by simp)).stay hm2 (by simp)
          obtain ⟨-, cu2, -, -, -, -, ff⟩ := h2.cells
          have HTU := Lib.hid (turn_c k 1 W.now.used (j + 1) w2 h2.u20 (by omega) cu2 ff)
          have HM2 := Lib.hid (HM.out.trans hm2 (by simp)); have HU := Lib.hid hu; have H2 := Lib.hid h2
          have HV := Lib.hid (show W.take = (j + 1, { W with now := { W.now with used := turnU W.now.used (j + 1), pages := sput ilt ((j + 1 : Nat) : Int) (zeros 256) W.now.pages } }, 0) from by
            unfold Wk.take
            rw [if_neg (by simp [HO.out]), freeU_some _ _ _ hlt hu HALL.out])
          clear hm2 hu h2 cu2 ff c0
          go_wp2_with fail
          refine HTU.out.mono ?_
          rintro e w3 ⟨⟨v, rfl⟩, hw⟩
          obtain ⟨h3, hm3⟩ := H2.out.turn (by omega) hw
          have c22 := h3.cells.2.2.2.1
          have H3 := Lib.hid h3; have HM3 := Lib.hid hm3; have HC := Lib.hid c22
          clear h3 hm3 hw HTU c22
          go_wp2_with fail
          have hS : Mod [] w3 w3.drew := (Mod.refl _ _).drew
          refine region_plan (n := 7) (Mod [] w3) [(true, 0), (true, 1), (true, 2), (true, 3), (true, 4), (true, 5), (false, 6)] Tryz.mixed (by kernel_rfl) hS ?_
          (apply Go.Proofs.YtoffondipgjcoaaGreatDoor.plan_q _ rfl hS; · (intro K hK w' hw'; (skip); go_simp; (first | exact hK | exact ⟨rfl, hK⟩)))
          (apply Go.Proofs.YtoffondipgjcoaaGreatDoor.plan_q _ rfl hS; · (intro K hK w' hw'; (skip); go_simp; (first | exact hK | exact ⟨rfl, hK⟩)))
          (apply Go.Proofs.YtoffondipgjcoaaGreatDoor.plan_q _ rfl hS; · (intro K hK w' hw'; (skip); go_simp; (first | exact hK | exact ⟨rfl, hK⟩)))
          (apply Go.Proofs.YtoffondipgjcoaaGreatDoor.plan_q _ rfl hS; · (intro K hK w' hw'; (skip); go_simp; (first | exact hK | exact ⟨rfl, hK⟩)))
          (apply Go.Proofs.YtoffondipgjcoaaGreatDoor.plan_q _ rfl hS; · (intro K hK w' hw'; (have q1 := cell_mod hw' HC.out (by simp)); go_simp; (first | exact hK | exact ⟨rfl, hK⟩)))
          (apply Go.Proofs.YtoffondipgjcoaaGreatDoor.plan_q _ rfl hS; · (intro K hK w' hw'; (skip); go_simp; (first | exact hK | exact ⟨rfl, hK⟩)))
          refine plan_e rfl ?_
          go_wp2_with fail
          refine (noughts_c 256 _ (by omega)).mono ?_
          rintro e w4 ⟨rfl, hm4⟩
          have HM4 := Lib.hid (hS.trans hm4 (by simp))
          clear hm4
          go_wp2_with fail
          refine plan_n ⟨HM4.out, plan_t ?_⟩
          simp only [List.drop_succ_cons, List.drop_zero]
          have H4 := Lib.hid (H3.out.stay HM4.out (by simp))
          refine wpList_mapUpdateP rfl 130 9 _ _ _ rfl Tryz.underlying130 (keyOK_int Tryz.underlying3) (enc := sV) ilt ilt_ord J.m W.now.pages ((j + 1 : Nat) : Int) (zeros 256) rfl rfl rfl H4.out.map H4.out.srt ?_
          intro w5 hm5 hmp5 hz5
          have hs1 := WkP.ofM (H4.out.setM hm5 hmp5 (H4.out.srt.sput ilt_ord)) hm5
          have hs2 := (WkP.ofK (W := W) H3.out HM3.out)
          obtain ⟨J5, hr5, hst5, hca5⟩ := hs1
          have hfin : WkP k J { W with now := { W.now with used := turnU W.now.used (j + 1), pages := sput ilt ((j + 1 : Nat) : Int) (zeros 256) W.now.pages } } w w5 :=
            ⟨J5, hr5, (Stp.pure HM2.out).trans ((Stp.of HM3.out (fun x hx => by simp at hx; subst hx; simp [WkI.F, WkI.own])).trans ((Stp.pure HM4.out).trans hst5)), hca5⟩
          have HF := Lib.hid hfin
          clear hfin hr5 hst5 hm5 hmp5 hz5 hs2 hS
          go_wp2_with fail
          go_ret2
          rw [HV.out]
          exact ⟨rfl, HF.out⟩
      · have HV := Lib.hid (show W.take = (0, W, 8) from by
          unfold Wk.take
          rw [if_neg (by simp [HO.out]), freeU_none _ _ (fun i h1 h2 => HALL.out i h1 (by omega))])
        clear h1 hm cu hall
        have hb : decide (j + 1 < W.G.pages.length) = false := by simp; omega
        go_wp2_with fail
        refine HP.out.mono ?_
        rintro e w2 ⟨rfl, rfl⟩
        clear HP
        go_wp2_with fail
        go_ret2
        rw [HV.out]
        exact ⟨rfl, WkP.refl H.out HM.out⟩
end Go.Proofs.YtoffondipgjcoaaGreatDoor
