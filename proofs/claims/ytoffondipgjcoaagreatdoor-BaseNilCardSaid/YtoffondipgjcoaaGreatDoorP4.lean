/- Part 4 of 27 of the contracts below the law: each theorem states, of one function of the program, at a world of the form that its premises name, what the call answers and what it leaves. -/
import Derived.Test.YtoffondipgjcoaaGreatDoorP2
import Derived.Test.YtoffondipgjcoaaGreatDoorP1
import Derived.Test.YtoffondipgjcoaaGreatDoorP3
/- The contracts of package device. -/
set_option linter.unusedVariables false
set_option maxRecDepth 100000
set_option linter.unusedSimpArgs false
namespace Go.Proofs.YtoffondipgjcoaaGreatDoor
open Go.RowKit

theorem wpStill_load_at {P : Program} {ops : Array Oper} {rest : List Oper} {o : Oper} {a : Act} {w : World} {Q : Act → Prop} (hgd : o.guard = none) (ty : TypeId) (x : Operand) (ho : o.op = .load ty x) (g off n : Nat) (hx : a.eval x = .pointer (some ⟨g, off, none⟩))
    (t : TypeId) (cs : Array Value) (fr : Nat × Nat) (d : TypeDesc) (hg : w.heap[g]? = some (.cells cs t fr)) (hu : P.underlying ty = some d) (hd : isAggD d = true)
    (hi : (P.info? ty).map (·.size) = some n) (hfit : off + n ≤ cs.size)
    (h : wpStill P ops w Q rest (a.put o.dst (.agg (cs.extract off (off + n))))) : wpStill P ops w Q (o :: rest) a := by
  unfold wpStill
  rw [if_pos (by simp [Region.wanted, hgd])]
  unfold Oper.still execOp
  simp only [ho, hx, run_loadAt_at w g off n t ty cs fr d hg hu hd hi hfit, Sem.run_bind, Result.andThen_ok, Sem.run_pure, Oper.stillUpon]
  exact ⟨trivial, h⟩
theorem region_still_tail {P : Program} {id : Nat} {Q : Exit → Act → World → Prop} {a : Act} {w : World} {l : List Oper} (n : Nat) (hm : P.follows .mixedOrders = true) (hB : Region.lexTailB .any l.toArray n = true)
    (h : wpStill P l.toArray w.drew (fun a' => wpList P l.toArray Q (l.drop n) a' w.drew) (l.take n) a) : (Code.region id l.toArray true).wp P Q a w :=
  wp_region_still_tail n hm hB h
abbrev Sec := List UInt8
abbrev secV (s : Sec) : Value := .agg (bcs s).toArray
structure Dev where
  sure : List Sec
  unsure : List (Int × Sec)
  calls : Int
  halt : Int
/-- The device at d; its sectors' block sb, its map ub. -/
structure DevR (w : World) (d sb ub : Nat) (D : Dev) : Prop where
  at_ : w.heap[d]? = some (.cells #[.slice (some ⟨sb, 0, none⟩) D.sure.length D.sure.length, .map (some ub), .int .i64 D.calls, .int .i64 D.halt] 113 (0, 0))
  sure : w.heap[sb]? = some (.cells (D.sure.flatMap bcs).toArray 117 (0, 0))
  unsure : MapAt w ub (mkv intK secV D.unsure)
  nd : (D.unsure.map (·.1)).Nodup
  len : ∀ s ∈ D.sure, s.length = 64
  len' : ∀ p ∈ D.unsure, p.2.length = 64 ∧ 0 ≤ p.1 ∧ p.1 < D.sure.length
  small : D.sure.length ≤ 4096
theorem DevR.mod {w w' : World} {d sb ub : Nat} {D : Dev} {R : List Nat} (h : DevR w d sb ub D) (hm : Mod R w w') (h1 : d ∉ R) (h2 : sb ∉ R) (h3 : ub ∉ R) : DevR w' d sb ub D :=
  ⟨hm.at h.at_ h1, hm.at h.sure h2, h.unsure.mod hm h3, h.nd, h.len, h.len', h.small⟩
theorem DevR.ne {w : World} {d sb ub : Nat} {D : Dev} (h : DevR w d sb ub D) : d ≠ sb ∧ d ≠ ub ∧ sb ≠ ub := by
  obtain ⟨es, cl, hu, _⟩ := h.unsure
  refine ⟨?_, ?_, ?_⟩
  · rintro rfl; have := h.at_; rw [h.sure] at this; simp at this
  · rintro rfl; have := h.at_; rw [hu] at this; simp at this
  · rintro rfl; have := h.sure; rw [hu] at this; simp at this

theorem DevR.upd {w w' : World} {d sb ub : Nat} {D : Dev} {c t : Int} (h : DevR w d sb ub D) (hm : Mod [d] w w')
    (ha : w'.heap[d]? = some (.cells #[.slice (some ⟨sb, 0, none⟩) D.sure.length D.sure.length, .map (some ub), .int .i64 c, .int .i64 t] 113 (0, 0))) : DevR w' d sb ub { D with calls := c, halt := t } := by
  have hn := h.ne
  exact ⟨ha, hm.at h.sure (by simp; exact hn.1.symm), h.unsure.mod hm (by simp; exact hn.2.1.symm), h.nd, h.len, h.len', h.small⟩

def Dev.call (D : Dev) : Int × Dev := (if D.halt < D.calls + 1 then 9 else 0, { D with calls := D.calls + 1 })

set_option maxHeartbeats 400000 in
theorem dcall_c (d sb ub : Nat) (D : Dev) (w : World) (h : DevR w d sb ub D) (hc : 0 ≤ D.calls) (hc' : D.calls ≤ 4611686018427387904) :
    Calls Tryz.prog 220 #[.pointer (some ⟨d, 0, none⟩)] w fun e w' => e = .returned (.int .i64 D.call.1) ∧ Mod [d] w w' ∧ DevR w' d sb ub D.call.2 ∧ w'.heap.size = w.heap.size := by
  obtain ⟨c, f⟩ := cells_of h.at_
  have H := Lib.hid h
  clear h
  go_enter Tryz.func220, Tryz.ntmps220
  go_wp2
  go_quiet (fail)
  go_wp2
  all_goals go_ret
  · refine ⟨ret_int (by unfold Dev.call; rw [if_pos (by assumption)]), ((Mod.refl _ _).setCell _ _ (by simp)).drewN _, H.out.upd (((Mod.refl _ _).setCell _ _ (by simp)).drewN _) ?_, by simp⟩
    exact (hp_set H.out.at_).trans rfl
  · refine ⟨ret_int (by unfold Dev.call; rw [if_neg (by omega)]), ((Mod.refl _ _).setCell _ _ (by simp)).drewN _, H.out.upd (((Mod.refl _ _).setCell _ _ (by simp)).drewN _) ?_, by simp⟩
    exact (hp_set H.out.at_).trans rfl
end Go.Proofs.YtoffondipgjcoaaGreatDoor

/- The contracts of package device: reading, writing. -/
set_option linter.unusedVariables false
set_option maxRecDepth 100000
set_option linter.unusedSimpArgs false
namespace Go.Proofs.YtoffondipgjcoaaGreatDoor
open Go.RowKit

theorem Size_c (d sb ub : Nat) (D : Dev) (w : World) (h : DevR w d sb ub D) :
    Calls Tryz.prog 120 #[.pointer (some ⟨d, 0, none⟩)] w fun e w' => e = .returned (.int .i64 D.sure.length) ∧ w = w' := by
  obtain ⟨c, f⟩ := cells_of h.at_
  clear h
  go_enter Tryz.func120, Tryz.ntmps120
  go_wp2
  go_ret
  exact ⟨rfl, rfl⟩

def zsec : Sec := List.replicate 64 0
theorem Tryz.z_sec : (Tryz.prog.info? 117).map (·.zero) = some (some (secV zsec)) := by kernel_rfl
theorem Tryz.n_sec : (Tryz.prog.info? 117).map (·.size) = some 64 := by kernel_rfl
theorem zero_sec (w : World) : (zeroValue 117).run Tryz.prog w = .ok (secV zsec) w := by
  have hz := Tryz.z_sec
  cases hq : Tryz.prog.info? 117 with
  | none => simp [hq] at hz
  | some i => simp [hq] at hz; simp [zeroValue, typeInfo, hq, hz]
def Dev.read (D : Dev) (i : Int) : Sec := (alook D.unsure i).getD (D.sure.getD i.toNat [])
theorem flat_get (l : List Sec) (h : ∀ s ∈ l, s.length = 64) (i : Nat) (hi : i < l.length) : ((l.flatMap bcs).toArray.extract (64 * i) (64 * i + 64)) = (bcs (l.getD i [])).toArray := by
  apply Array.toList_inj.1
  simp only [Array.toList_extract, List.extract_eq_take_drop]
  induction l generalizing i with
  | nil => simp at hi
  | cons s l ih =>
    have hs : s.length = 64 := h s (by simp)
    cases i with
    | zero =>
      simp only [List.flatMap_cons, List.getD_cons_zero, Nat.mul_zero, List.drop_zero, Nat.zero_add, Nat.sub_zero]
      rw [List.take_append_of_le_length (by rw [bcs_len, hs]; omega), List.take_of_length_le (by rw [bcs_len, hs]; omega)]
    | succ i =>
      have := ih (fun t ht => h t (by simp [ht])) i (by simpa using hi)
      simp only [List.flatMap_cons, List.getD_cons_succ]
      rw [← this, List.drop_append, bcs_len, hs, List.drop_of_length_le (by rw [bcs_len, hs]; omega), List.nil_append]
      congr 1
      · omega
theorem flat_len (l : List Sec) (h : ∀ s ∈ l, s.length = 64) : (l.flatMap bcs).length = 64 * l.length := by
  induction l with
  | nil => rfl
  | cons s l ih => rw [List.flatMap_cons, List.length_append, ih (fun t ht => h t (by simp [ht])), bcs_len, h s (by simp), List.length_cons]; omega
theorem DevR.read_len {w : World} {d sb ub : Nat} {D : Dev} (h : DevR w d sb ub D) (i : Int) (h0 : 0 ≤ i) (h1 : i < D.sure.length) : (D.read i).length = 64 := by
  unfold Dev.read
  cases hl : alook D.unsure i with
  | some s =>
    simp only [alook, Option.map_eq_some_iff] at hl
    obtain ⟨p, hp, rfl⟩ := hl
    exact (h.len' p (List.mem_of_find?_eq_some hp)).1
  | none =>
    simp only [Option.getD_none]
    have : i.toNat < D.sure.length := by omega
    rw [List.getD_eq_getElem?_getD, List.getElem?_eq_getElem this]
    exact h.len _ (List.getElem_mem this)

set_option maxHeartbeats 1000000 in
theorem dread_c (d sb ub : Nat) (D : Dev) (i : Int) (w : World) (h : DevR w d sb ub D) (h0 : 0 ≤ i) (h1 : i < D.sure.length) :
    Calls Tryz.prog 124 #[.pointer (some ⟨d, 0, none⟩), .int .i64 i] w fun e w' => e = .returned (.string (str (D.read i))) ∧ Mod [] w w' := by
  obtain ⟨i, rfl⟩ := Int.eq_ofNat_of_zero_le h0
  have h1' : i < D.sure.length := by omega
  obtain ⟨c, f⟩ := cells_of h.at_
  have hdlt := lt_of_block h.at_
  have hlk : ∀ k : Int, (Instr.lookup 111 (.map (some ub)) (.int .i64 k) true).run Tryz.prog w = _ := fun k => run_lookup_map (P := Tryz.prog) 111 117 Tryz.underlying111 (keyOK_int Tryz.underlying3) (secV zsec) zero_sec h.unsure k true
  simp only [if_true] at hlk
  have H := Lib.hid h
  have hrl := h.read_len i h0 h1
  clear h
  go_enter Tryz.func124, Tryz.ntmps124
  cases hl : alook D.unsure (i : Int) with
  | some s =>
    have hs : D.read (i : Int) = s := by simp [Dev.read, hl]
    rw [hs] at hrl
    have HS := Lib.hid hs
    clear hs
    have hsz : (bcs s).toArray.size = 64 := by simp [bcs_len, hrl]
    have hcv : ∀ c : Nat, (convert 118 9 (.slice (some ⟨w.heap.size, 0, none⟩) 64 c)).run Tryz.prog (w.alloc (.cells (bcs s).toArray 117)) = .ok (.string (str s)) (w.alloc (.cells (bcs s).toArray 117)) := fun c =>
      run_bytes_str _ _ _ 5 Tryz.underlying118 Tryz.underlying5 Tryz.underlying9 _ _ _ _ s hrl (fun i hi => by rw [(cells_of (hp_new w _)).1, Nat.zero_add]; simp)
    go_wp2_with (first | (with_reducible refine wpList_alloc rfl 117 rfl (secV zsec) Tryz.z_sec ?_) | (with_reducible refine stop_store 117 _ _ rfl ?_; refine Stop.go ?_; refine wpList_store_new rfl rfl 117 _ _ rfl rfl _ 64 _ (bcs s).toArray rfl Tryz.n_sec hsz rfl (bcs_one s) ?_))
    go_ret
    exact ⟨by rw [HS.out]; rfl, (Mod.refl _ _).alloc _⟩
  | none =>
    have hs : D.read (i : Int) = D.sure.getD i [] := by simp [Dev.read, hl]
    rw [hs] at hrl
    have HS := Lib.hid hs
    clear hs
    obtain ⟨s, hsd⟩ : ∃ s, D.sure.getD i [] = s := ⟨_, rfl⟩
    rw [hsd] at HS hrl
    have HSD := Lib.hid hsd; clear hsd
    have hsz : (bcs s).toArray.size = 64 := by simp [bcs_len, hrl]
    have hcv : ∀ c : Nat, (convert 118 9 (.slice (some ⟨w.heap.size, 0, none⟩) 64 c)).run Tryz.prog (w.alloc (.cells (bcs s).toArray 117)) = .ok (.string (str s)) (w.alloc (.cells (bcs s).toArray 117)) := fun c =>
      run_bytes_str _ _ _ 5 Tryz.underlying118 Tryz.underlying5 Tryz.underlying9 _ _ _ _ s hrl (fun i hi => by rw [(cells_of (hp_new w _)).1, Nat.zero_add]; simp)
    go_wp2_with (first | (with_reducible refine wpList_alloc rfl 117 rfl (secV zsec) Tryz.z_sec ?_) | (with_reducible refine stop_store 117 _ _ rfl ?_; refine Stop.go ?_; refine wpList_store_new rfl rfl 117 _ _ rfl rfl _ 64 _ (bcs zsec).toArray rfl Tryz.n_sec rfl rfl (bcs_one zsec) ?_) | (with_reducible refine stop_dst 39 rfl ?_))
    refine Stop.go ?_
    have hex := flat_get D.sure H.out.len i h1'
    have hfl := flat_len D.sure H.out.len
    refine wpList_load_at rfl 117 _ rfl sb (i * 64) 64 rfl 117 (D.sure.flatMap bcs).toArray (0, 0) _ (hp_old H.out.sure) Tryz.underlying117 rfl Tryz.n_sec (by simp only [List.size_toArray, hfl]; omega) ?_
    rw [Nat.mul_comm i 64, hex, HSD.out]
    clear hex hfl
    go_wp2_with (with_reducible refine stop_store 117 _ _ rfl ?_; refine Stop.go ?_; refine wpList_store_new rfl rfl 117 _ _ rfl rfl _ 64 _ (bcs s).toArray rfl Tryz.n_sec hsz rfl (bcs_one s) ?_)
    go_ret
    exact ⟨by rw [HS.out]; rfl, (Mod.refl _ _).alloc _⟩
end Go.Proofs.YtoffondipgjcoaaGreatDoor

/- The contracts of package device: writing, a new one. -/
set_option linter.unusedVariables false
set_option maxRecDepth 100000
set_option linter.unusedSimpArgs false
namespace Go.Proofs.YtoffondipgjcoaaGreatDoor
open Go.RowKit

def padS (s : ByteArray) : Sec := sl s ++ List.replicate (64 - s.size) 0
def Dev.write (D : Dev) (i : Int) (s : ByteArray) : Int × Dev :=
  if D.call.1 ≠ 0 then D.call else if i < 0 ∨ (D.sure.length : Int) ≤ i then (7, D.call.2) else if 64 < s.size then (3, D.call.2)
  else (0, { D.call.2 with unsure := aput D.unsure i (padS s) })
theorem pad_cells (s : ByteArray) (h : s.size ≤ 64) : bcs (sl s) ++ (bcs zsec).toArray.toList.drop s.size = bcs (padS s) := by
  simp only [padS, bcs_app, zsec]
  congr 1
  simp only [bcs, List.map_replicate, List.drop_replicate]
theorem pad_len (s : ByteArray) (h : s.size ≤ 64) : (padS s).length = 64 := by
  simp only [padS, List.length_append, sl_len, List.length_replicate]; omega
theorem aput_mem {κ α : Type} [DecidableEq κ] {m : List (κ × α)} {k : κ} {v : α} {p : κ × α} (h : p ∈ aput m k v) : p = (k, v) ∨ p ∈ m := by
  unfold aput at h
  split at h
  · obtain ⟨q, hq, rfl⟩ := List.mem_map.1 h
    split
    · exact .inl rfl
    · exact .inr hq
  · rcases List.mem_append.1 h with h | h
    · exact .inr h
    · simp at h; exact .inl h
theorem DevR.put {w w' : World} {d sb ub : Nat} {D : Dev} {k : Int} {s : Sec} (h : DevR w d sb ub D) (hm : Mod [ub] w w') (hu : MapAt w' ub (mkv intK secV (aput D.unsure k s)))
    (hs : s.length = 64) (h0 : 0 ≤ k) (h1 : k < D.sure.length) : DevR w' d sb ub { D with unsure := aput D.unsure k s } := by
  have hn := h.ne
  refine ⟨hm.at h.at_ (by simp; exact hn.2.1), hm.at h.sure (by simp; exact hn.2.2), hu, aput_nodup h.nd _ _, h.len, ?_, h.small⟩
  intro p hp
  rcases aput_mem hp with rfl | hp
  · exact ⟨hs, h0, h1⟩
  · exact h.len' p hp
set_option maxHeartbeats 1000000 in
theorem dwrite_c (d sb ub : Nat) (D : Dev) (i : Int) (s : ByteArray) (w : World) (h : DevR w d sb ub D) (hc : 0 ≤ D.calls) (hc' : D.calls ≤ 4611686018427387904) (h0 : 0 ≤ i) (h1 : i < D.sure.length) (hs : s.size ≤ 64) :
    Calls Tryz.prog 266 #[.pointer (some ⟨d, 0, none⟩), .int .i64 i, .string s] w fun e w' => e = .returned (.int .i64 (D.write i s).1) ∧ Mod [d, ub] w w' ∧ DevR w' d sb ub (D.write i s).2 := by
  obtain ⟨i, rfl⟩ := Int.eq_ofNat_of_zero_le h0
  have h1' : i < D.sure.length := by omega
  have H := Lib.hid h
  have HW := Lib.hid (show D.write i s = if D.call.1 ≠ 0 then D.call else (0, { D.call.2 with unsure := aput D.unsure i (padS s) }) from by
    unfold Dev.write; rw [if_neg (show ¬ ((i : Int) < 0 ∨ (D.sure.length : Int) ≤ i) by omega), if_neg (show ¬ 64 < s.size by omega)])
  clear h
  go_enter Tryz.func266, Tryz.ntmps266
  go_wp2_with fail
  refine (dcall_c d sb ub D w H.out hc hc').mono ?_
  rintro e w1 ⟨rfl, hm, hr, hz⟩
  replace hr : DevR w1 d sb ub ⟨D.sure, D.unsure, D.calls + 1, D.halt⟩ := hr
  obtain ⟨c, f⟩ := cells_of hr.at_
  dsimp only at c
  have HM := Lib.hid hm; have HR := Lib.hid hr; have HZ := Lib.hid hz
  have hdlt : d < w1.heap.size := lt_of_block hr.at_
  clear hm hr hz
  by_cases he : D.call.1 = 0
  · have HE := Lib.hid he
    rw [he]
    rw [if_neg (by simp [he])] at HW
    clear he
    have hcs : s.size ≤ (bcs zsec).toArray.size := by rw [List.size_toArray, bcs_len, zsec, List.length_replicate]; exact hs
    go_wp2_with (first | (with_reducible refine wpList_alloc rfl 117 rfl (secV zsec) Tryz.z_sec ?_) | (with_reducible refine stop_dst 32 rfl ?_; refine Stop.go ?_; refine wpList_copy_new rfl 118 9 5 _ _ rfl Tryz.underlying118 (by kernel_rfl) 64 64 rfl s rfl _ _ hs hcs ?_; rw [pad_cells s hs]))
    clear hcs
    simp only [goInt, Act.put, List.setIfInBounds_toArray, List.set_cons_succ, List.set_cons_zero]
    refine region_still_tail 6 Tryz.mixed (by kernel_rfl) ?_
    simp only [List.take_succ_cons, List.take_zero, List.drop_succ_cons, List.drop_zero]
    iterate 5 still_step
    refine wpStill_load_at rfl 117 _ rfl w1.heap.size 0 64 rfl 117 (bcs (padS s)).toArray (0, 0) _ (hp_new w1 _) Tryz.underlying117 rfl Tryz.n_sec (by simp [bcs_len, pad_len s hs]) ?_
    have hex : (bcs (padS s)).toArray.extract 0 (0 + 64) = (bcs (padS s)).toArray := by
      have : (bcs (padS s)).toArray.size = 64 := by simp [bcs_len, pad_len s hs]
      rw [Nat.zero_add, ← this]; simp
    rw [hex]
    clear hex
    refine wpStill_nil ?_
    have hm1 := ((Mod.refl [ub] w1).alloc (Obj.cells (bcs (padS s)).toArray 117)).drew
    refine wpList_mapUpdate rfl 111 117 _ _ _ rfl Tryz.underlying111 (keyOK_int Tryz.underlying3) ub D.unsure (i : Int) (padS s) rfl rfl rfl (HR.out.unsure.mod (R := []) (((Mod.refl [] w1).alloc _).drew) (by simp)) HR.out.nd ?_
    intro w3 hm3 hu3 hz3
    have hR3 := (HR.out.mod (R := []) (((Mod.refl [] w1).alloc (Obj.cells (bcs (padS s)).toArray 117)).drew) (by simp) (by simp) (by simp)).put hm3 hu3 (pad_len s hs) h0 h1
    have HR3 := Lib.hid hR3
    have HM3 := Lib.hid ((HM.out.mono (R' := [d, ub]) (by simp)).trans (hm1.trans hm3 (R := [ub]) (by simp)) (by simp))
    clear hm3 hu3 hR3 hm1
    go_wp2_with fail
    go_ret
    rw [HW.out]
    exact ⟨rfl, HM3.out, HR3.out⟩
  · have he' : (D.call.1 != 0) = true := by simpa using he
    rw [if_pos he] at HW
    go_wp2_with fail
    go_ret
    rw [HW.out]
    exact ⟨rfl, HM.out.mono (by simp), HR.out⟩
end Go.Proofs.YtoffondipgjcoaaGreatDoor

/- The contracts of package device: Sync. -/
set_option linter.unusedVariables false
set_option maxRecDepth 100000
set_option linter.unusedSimpArgs false
namespace Go.Proofs.YtoffondipgjcoaaGreatDoor
open Go.RowKit

def applyU (sure : List Sec) (m : List (Int × Sec)) : List Sec := m.foldl (fun s p => s.set p.1.toNat p.2) sure
theorem applyU_len (m : List (Int × Sec)) : ∀ sure : List Sec, (applyU sure m).length = sure.length := by
  induction m with
  | nil => intro s; rfl
  | cons p m ih => intro s; simp only [applyU, List.foldl_cons] at ih ⊢; rw [ih]; simp
theorem applyU_get (m : List (Int × Sec)) (hn : (m.map (·.1)).Nodup) (hp : ∀ p ∈ m, 0 ≤ p.1) (j : Nat) : ∀ sure : List Sec, j < sure.length → (applyU sure m)[j]? = some ((alook m (j : Int)).getD (sure.getD j [])) := by
  induction m with
  | nil => intro s hj; simp [applyU, alook, hj]
  | cons p m ih =>
    intro s hj
    simp only [List.map_cons, List.nodup_cons] at hn
    have h0 := hp p (by simp)
    simp only [applyU, List.foldl_cons]
    have := ih hn.2 (fun q hq => hp q (by simp [hq])) (s.set p.1.toNat p.2) (by simpa using hj)
    simp only [applyU] at this
    rw [this]
    congr 1
    by_cases hpj : p.1 = (j : Int)
    · have hm : alook m (j : Int) = none := alook_none fun q hq he => hn.1 (by rw [hpj, ← he]; exact List.mem_map_of_mem hq)
      rw [hm]
      have : p.1.toNat = j := by omega
      simp [alook, hpj, hj]
    · have : p.1.toNat ≠ j := by omega
      have hl : alook (p :: m) (j : Int) = alook m (j : Int) := by simp [alook, hpj]
      rw [hl]
      cases alook m (j : Int) with
      | some s => rfl
      | none => simp [List.getElem?_set, this]
theorem alook_perm {m m' : List (Int × Sec)} (h : m.Perm m') (hn : (m.map (·.1)).Nodup) (k : Int) : alook m k = alook m' k := by
  have hn' : (m'.map (·.1)).Nodup := (h.map _).nodup_iff.1 hn
  have key : ∀ (l : List (Int × Sec)), (l.map (·.1)).Nodup → ∀ v, alook l k = some v ↔ (k, v) ∈ l := by
    intro l
    induction l with
    | nil => intro _ v; simp [alook]
    | cons p l ih =>
      intro hl v
      simp only [List.map_cons, List.nodup_cons] at hl
      by_cases hp : p.1 = k
      · simp only [alook, List.find?_cons, hp, decide_true, Option.map_some, Option.some.injEq, List.mem_cons]
        constructor
        · rintro rfl; left; rw [← hp]
        · rintro (h | h)
          · rw [← h]
          · exact absurd (List.mem_map_of_mem (f := (·.1)) h) (by rw [← hp] ; exact hl.1)
      · have : alook (p :: l) k = alook l k := by simp [alook, hp]
        rw [this, ih hl.2, List.mem_cons]
        constructor
        · exact .inr
        · rintro (h | h)
          · exact absurd (by rw [← h]) hp
          · exact h
  cases h1 : alook m k with
  | some v => rw [eq_comm, key m' hn' v]; exact h.mem_iff.1 ((key m hn v).1 h1)
  | none =>
    cases h2 : alook m' k with
    | none => rfl
    | some v => have := (key m hn v).2 (h.mem_iff.2 ((key m' hn' v).1 h2)); rw [h1] at this; cases this
theorem applyU_perm {m m' : List (Int × Sec)} (h : m.Perm m') (hn : (m.map (·.1)).Nodup) (hp : ∀ p ∈ m, 0 ≤ p.1) (sure : List Sec) : applyU sure m = applyU sure m' := by
  apply List.ext_getElem?
  intro j
  by_cases hj : j < sure.length
  · rw [applyU_get m hn hp j sure hj, applyU_get m' ((h.map _).nodup_iff.1 hn) (fun p hp' => hp p (h.mem_iff.2 hp')) j sure hj, alook_perm h hn]
  · rw [List.getElem?_eq_none (by rw [applyU_len]; omega), List.getElem?_eq_none (by rw [applyU_len]; omega)]

theorem applyU_64 (m : List (Int × Sec)) (hm : ∀ q ∈ m, q.2.length = 64) : ∀ l : List Sec, (∀ s ∈ l, s.length = 64) → ∀ s ∈ applyU l m, s.length = 64 := by
  induction m with
  | nil => intro l h; exact h
  | cons p m ih =>
    intro l h
    simp only [applyU, List.foldl_cons] at ih ⊢
    refine ih (fun q hq => hm q (by simp [hq])) _ ?_
    intro s hs
    rcases List.mem_or_eq_of_mem_set hs with hs | rfl
    · exact h s hs
    · exact hm p (by simp)
theorem flat_set (l : List Sec) (h : ∀ s ∈ l, s.length = 64) (i : Nat) (hi : i < l.length) (s : Sec) (hs : s.length = 64) :
    ((l.flatMap bcs).toArray.toList.take (i * 64) ++ bcs s ++ (l.flatMap bcs).toArray.toList.drop (i * 64 + 64)) = (l.set i s).flatMap bcs := by
  simp only []
  induction l generalizing i with
  | nil => simp at hi
  | cons a l ih =>
    have ha : a.length = 64 := h a (by simp)
    cases i with
    | zero =>
      simp only [List.flatMap_cons, List.set_cons_zero, Nat.zero_mul, List.take_zero, List.nil_append, Nat.zero_add]
      rw [List.drop_append_of_le_length (by rw [bcs_len, ha]; omega), List.drop_of_length_le (by rw [bcs_len, ha]; omega), List.nil_append]
    | succ i =>
      simp only [List.flatMap_cons, List.set_cons_succ]
      rw [← ih (fun t ht => h t (by simp [ht])) i (by simpa using hi)]
      rw [show (i + 1) * 64 = (bcs a).length + i * 64 from by rw [bcs_len, ha]; omega, List.take_length_add_append, show (bcs a).length + i * 64 + 64 = (bcs a).length + (i * 64 + 64) from by omega, List.drop_length_add_append]
      simp only [List.append_assoc]
def Dev.sync (D : Dev) : Int × Dev :=
  if D.call.1 ≠ 0 then D.call else (0, { D.call.2 with sure := applyU D.sure D.unsure, unsure := [] })

set_option maxHeartbeats 1000000 in
theorem dsync_c (d sb ub : Nat) (D : Dev) (w : World) (h : DevR w d sb ub D) (hc : 0 ≤ D.calls) (hc' : D.calls ≤ 4611686018427387904) :
    Calls Tryz.prog 171 #[.pointer (some ⟨d, 0, none⟩)] w fun e w' => e = .returned (.int .i64 D.sync.1) ∧ Mod [d, sb, ub] w w' ∧ DevR w' d sb ub D.sync.2 := by
  have H := Lib.hid h
  clear h
  go_enter Tryz.func171, Tryz.ntmps171
  go_wp2_with fail
  refine (dcall_c d sb ub D w H.out hc hc').mono ?_
  rintro e w1 ⟨rfl, hm, hr, hz⟩
  replace hr : DevR w1 d sb ub ⟨D.sure, D.unsure, D.calls + 1, D.halt⟩ := hr
  obtain ⟨c, f⟩ := cells_of hr.at_
  dsimp only at c
  have HM := Lib.hid hm; have HR := Lib.hid hr
  have hdlt : d < w1.heap.size := lt_of_block hr.at_
  clear hm hr hz
  by_cases he : D.call.1 = 0
  · have HW := Lib.hid (show D.sync = (0, ⟨applyU D.sure D.unsure, [], D.calls + 1, D.halt⟩) from by unfold Dev.sync; rw [if_neg (by simp [he])]; rfl)
    rw [he]
    clear he
    obtain ⟨w2, hrg, hit, hm2⟩ := run_range_any (P := Tryz.prog) 111 3 117 Tryz.underlying111 HR.out.unsure
    have hrg' := all_range hrg
    clear hrg
    go_wp2_with fail
    have hlt2 := hit.lt
    have HM2 := Lib.hid hm2
    have HI := Lib.hid hit
    have hn := HR.out.ne
    have h2d := hm2.at HR.out.at_ (by simp)
    have h2s := hm2.at HR.out.sure (by simp)
    dsimp only at h2d h2s
    clear hrg' hit hm2 c f
    have hiw : ∀ n, n = w1.heap.size → w1.heap.size ≤ n := by rintro n rfl; exact Nat.le_refl _
    generalize hit0 : w1.heap.size = it at *
    have hiw : w1.heap.size ≤ it := by omega
    clear hit0
    have hitd : it ≠ d := by omega
    have hits : it ≠ sb := by have := lt_of_block HR.out.sure; rintro rfl; have h1 := HI.out; obtain ⟨_, _, _, _, h1, _⟩ := h1; rw [h2s] at h1; simp at h1
    go_loopw [] (fun wr => ∃ dn lf, MIter intK secV wr it ub D.unsure dn lf ∧ wr.heap[sb]? = some (.cells ((applyU D.sure dn).flatMap bcs).toArray 117 (0, 0)) ∧
        wr.heap[d]? = some (.cells #[.slice (some ⟨sb, 0, none⟩) D.sure.length D.sure.length, .map (some ub), .int .i64 (D.calls + 1), .int .i64 D.halt] 113 (0, 0)) ∧ Mod [sb, it] w2 wr)
      (fun wr => D.unsure.length - (wr.iterSeen it).size)
    case atStart => exact ⟨[], D.unsure, HI.out, h2s, h2d, Mod.refl _ _⟩
    case round =>
      obtain ⟨dn, lf, hmi, hsb, hdd, hmod⟩ := hrel
      have hlen := HR.out.len
      have hlen' := HR.out.len'
      dsimp only at hlen hlen'
      rcases run_next_any' (P := Tryz.prog) 0 hmi with ⟨rfl, hnx⟩ | ⟨p, l1, l2, wa, rfl, hnx, hmi', hma⟩
      · have hnx' := all_next hnx
        have HMI := Lib.hid hmi; have HMD := Lib.hid hmod; have HSB := Lib.hid hsb; have HDD := Lib.hid hdd; have HL := Lib.hid hlen; have HL' := Lib.hid hlen'
        obtain ⟨c, f⟩ := cells_of hdd
        clear hnx hmi hmod hsb hdd hlen hlen'
        go_wp2_with (with_reducible refine stop_call _ rfl ?_; refine Stop.go ?_; refine wpList_clear rfl 111 117 _ rfl Tryz.underlying111 ub _ rfl HMI.out.map ?_)
        intro w5 hm5 hu5 hz5
        have hperm : dn.Perm D.unsure := by have := HMI.out.perm; simpa using this
        have hU : applyU D.sure D.unsure = applyU D.sure dn := (applyU_perm hperm ((hperm.map _).nodup_iff.2 HR.out.nd) (fun q hq => (HL'.out q (hperm.mem_iff.1 hq)).2.1) _).symm
        have HU := Lib.hid hU
        have HFIN := Lib.hid (show DevR w5 d sb ub ⟨applyU D.sure D.unsure, [], D.calls + 1, D.halt⟩ from
          ⟨by rw [applyU_len]; exact hm5.at HDD.out (by simp; exact hn.2.1), by rw [hU]; exact hm5.at HSB.out (by simp; exact hn.2.2), hu5, by simp,
            applyU_64 _ (fun q hq => (HL'.out q hq).1) _ HL.out, by simp, by rw [applyU_len]; exact HR.out.small⟩)
        have HMF := Lib.hid (show Mod [d, sb, ub] w w5 from ((HM.out.mono (by simp)).trans ((HM2.out.mono (R' := [sb]) (by simp)).trans HMD.out (by intro x hx; simp at hx; rcases hx with rfl | rfl <;> simp [hiw])) (by simp)).trans hm5 (by simp))
        clear hm5 hu5 hz5 hperm hU hnx' c f
        go_wp2_with fail
        go_ret
        rw [HW.out]
        exact ⟨rfl, HMF.out, HFIN.out⟩
      · have hnx' := all_next hnx
        have hen' := all_entry (run_entry_any (P := Tryz.prog) hmi')
        have HMI := Lib.hid hmi'; have HMD := Lib.hid hmod; have HSB := Lib.hid (hma.at hsb (by simp; exact hits.symm)); have HDD := Lib.hid (hma.at hdd (by simp; exact hitd.symm)); have HL := Lib.hid hlen; have HMA := Lib.hid hma
        have HSEEN := Lib.hid hmi.seen
        have hpm : p ∈ D.unsure := hmi.perm.mem_iff.1 (by simp)
        obtain ⟨hp64, hp0, hp1⟩ := hlen' p hpm
        clear hnx hmi hmi' hmod hsb hdd hlen hlen' hma hpm
        obtain ⟨k, s⟩ := p
        dsimp only at hp64 hp0 hp1 HMI HSEEN hnx' hen'
        obtain ⟨k, rfl⟩ := Int.eq_ofNat_of_zero_le hp0
        have hp1' : k < D.sure.length := by omega
        have hsz : (bcs s).toArray.size = 64 := by simp [bcs_len, hp64]
        go_wp2_with (first | (with_reducible refine wpList_alloc rfl 117 rfl (secV zsec) Tryz.z_sec ?_) | (with_reducible refine stop_store 117 _ _ rfl ?_; refine Stop.go ?_; refine wpList_store_new rfl rfl 117 _ _ rfl rfl _ 64 _ (bcs s).toArray rfl Tryz.n_sec hsz rfl (bcs_one s) ?_))
        have hmn := ((Mod.refl [] wa).alloc (Obj.cells (bcs s).toArray 117)).drew
        have HMN := Lib.hid hmn
        have hd4 := hmn.at HDD.out (by simp)
        have HS4 := Lib.hid (hmn.at HSB.out (by simp))
        obtain ⟨c, f⟩ := cells_of hd4
        have HD4 := Lib.hid hd4
        clear hd4 hmn hnx' hen'
        refine region_still_tail 7 Tryz.mixed (by kernel_rfl) ?_
        simp only [List.take_succ_cons, List.take_zero, List.drop_succ_cons, List.drop_zero]
        iterate 5 still_step
        refine wpStill_load_at rfl 117 _ rfl wa.heap.size 0 64 rfl 117 (bcs s).toArray (0, 0) _ (hp_new wa _) Tryz.underlying117 rfl Tryz.n_sec (by rw [hsz]; omega) ?_
        have hex : (bcs s).toArray.extract 0 (0 + 64) = (bcs s).toArray := by
          rw [Nat.zero_add, ← hsz]; simp
        rw [hex]
        clear hex c
        still_step
        refine wpStill_nil ?_
        have hlenU : (applyU D.sure dn).length = D.sure.length := applyU_len _ _
        have hall : ∀ x ∈ applyU D.sure dn, x.length = 64 := applyU_64 _ (fun q hq => (HR.out.len' q ((HMI.out.perm).mem_iff.1 (by simp [hq]))).1) _ HR.out.len
        refine wpList_store_at rfl rfl 117 _ _ rfl sb (k * 64) 64 rfl 117 _ (bcs s).toArray rfl HS4.out Tryz.n_sec hsz (by rw [List.size_toArray, flat_len _ hall, hlenU]; omega) (bcs_one s) ?_
        rw [show (bcs s).toArray.toList = bcs s from rfl, flat_set _ hall k (by omega) s hp64]
        have hm6 := (HMN.out.mono (R' := [sb]) (by simp)).setRow sb ((applyU D.sure dn).set k s |>.flatMap bcs).toArray (by simp)
        have hU2 : (applyU D.sure dn).set k s = applyU D.sure (dn ++ [((k : Int), s)]) := by simp [applyU, List.foldl_append]
        have HS6 := Lib.hid (setRow_heap _ sb _ ((applyU D.sure dn).set k s |>.flatMap bcs).toArray _ _ HS4.out)
        generalize (World.setRow _ sb _) = w6 at *
        have HM6 := Lib.hid hm6
        have HU2 := Lib.hid hU2
        clear hm6 hU2 hlenU hall
        go_wp2_with fail
        go_roundw
        case rel =>
          refine ⟨dn ++ [((k : Int), s)], l1 ++ l2, HMI.out.mod HM6.out (by simp; exact hits) (by simp; exact hn.2.2.symm), by rw [← HU2.out]; exact HS6.out, ?_, ?_⟩
          · exact HM6.out.at HDD.out (by simp; exact hn.1)
          · exact (HMD.out.trans HMA.out (by simp)).trans HM6.out (by simp)
        case measure =>
          have h1 := HSEEN.out
          have h2 := (HMI.out.mod HM6.out (by simp; exact hits) (by simp; exact hn.2.2.symm)).seen
          simp only [List.length_append, List.length_cons, List.length_nil] at h1 h2
          omega
  · have HW := Lib.hid (show D.sync = D.call from by unfold Dev.sync; rw [if_pos he])
    have he' : (D.call.1 != 0) = true := by simpa using he
    go_wp2_with fail
    go_ret
    rw [HW.out]
    exact ⟨rfl, HM.out.mono (by simp), HR.out⟩
end Go.Proofs.YtoffondipgjcoaaGreatDoor

/- The contracts of package device: a new one. -/
set_option linter.unusedVariables false
set_option maxRecDepth 100000
set_option linter.unusedSimpArgs false
namespace Go.Proofs.YtoffondipgjcoaaGreatDoor
open Go.RowKit

def newDev (n : Nat) : Dev := ⟨List.replicate n zsec, [], 0, 4611686018427387904⟩
theorem Tryz.i_sec : (Tryz.prog.info? 117).map (fun i => (i.zero, i.size, i.bytes)) = some (some (secV zsec), 64, 64) := by kernel_rfl
theorem made_zero (n : Nat) : (madeCells (secV zsec).cells (n * 64)).toList = (List.replicate n zsec).flatMap bcs := by
  have h1 : ∀ m, (madeCells (secV zsec).cells m).toList = List.replicate m (.int .u8 0) := by
    intro m
    refine List.eq_replicate_iff.2 ⟨by simp [size_madeCells], ?_⟩
    intro b hb
    simp only [madeCells, Array.toList_map, List.mem_map] at hb
    obtain ⟨i, _, rfl⟩ := hb
    have hs : (secV zsec).cells.size = 64 := rfl
    have h2 : (secV zsec).cells = Array.replicate 64 (.int .u8 0) := by
      apply Array.toList_inj.1; simp [secV, Value.cells, bcs, zsec]
    rw [hs, h2, getElem!_pos _ _ (by simp; omega)]
    simp
  rw [h1]
  induction n with
  | zero => rfl
  | succ n ih =>
    rw [List.replicate_succ, List.flatMap_cons, ← ih, show bcs zsec = List.replicate 64 (.int .u8 0) from by simp [bcs, zsec], List.replicate_append_replicate]
    congr 1; omega
set_option maxHeartbeats 1000000 in
theorem New_c (n : Nat) (w : World) (hn : n ≤ 4096) :
    Calls Tryz.prog 31 #[.int .i64 (n : Int)] w fun e w' => ∃ d sb ub, e = .returned (.pointer (some ⟨d, 0, none⟩)) ∧ Mod [] w w' ∧ DevR w' d sb ub (newDev n) ∧ w.heap.size ≤ d ∧ w.heap.size ≤ sb ∧ w.heap.size ≤ ub := by
  obtain ⟨i0, hi, hz0, hz1, hz2⟩ := info_parts Tryz.i_sec
  have hmm := @run_makeMap Tryz.prog
  go_enter Tryz.func31, Tryz.ntmps31
  go_wp2_with (with_reducible refine stop_dst 6 rfl ?_)
  refine Stop.go ?_
  refine wpList_make_full w rfl _ _ 110 rfl w.heap.size 117 i0 (secV zsec) 64 Tryz.underlying110 hi hz0 hz1 .i64 .i64 n n n rfl rfl rfl rfl (by rw [hz2]; omega) (by simp only [maxLen]; omega) (Nat.le_refl _) ?_
  intro w1 hown hg
  have hb : w1.heap[w.heap.size]? = some (.cells ((List.replicate n zsec).flatMap bcs).toArray 117 (0, 0)) := by
    rw [made_zero] at hown
    rcases hown.2 with ⟨h, _⟩ | ⟨g, cap, cur, h, hbg, hh, h1, h2, h3, h4⟩
    · cases h
    · cases h
      rw [hh]
      congr 2
      apply Array.toList_inj.1
      rw [← h4, List.take_of_length_le (by simp; omega)]
  have HB := Lib.hid hb
  have HG := Lib.hid hg
  have hlt := lt_of_block hb
  have HSZ := Lib.hid hlt
  clear hown hg hb hlt
  go_wp2_with fail
  go_ret
  have hne : w.heap.size ≠ w1.heap.size := by have := HSZ.out; omega
  refine ⟨w1.heap.size + 1, w.heap.size, w1.heap.size, rfl, ?_, ⟨?_, ?_, ?_, by simp [newDev], ?_, by simp [newDev], by simp [newDev, hn]⟩, by have := HSZ.out; omega, by omega, by have := HSZ.out; omega⟩
  · exact (((Mod.refl [] w).grown HG.out (by simp)).alloc _).alloc _
  · have := hp_new (w1.alloc (.map #[] 0)) (.cells #[.slice (some ⟨w.heap.size, 0, none⟩) n n, .map (some w1.heap.size), .int .i64 0, .int .i64 4611686018427387904] 113 (0, 0))
    simpa [newDev] using this
  · exact hp_old (hp_old HB.out)
  · exact (MapAt.new w1).mod ((Mod.refl [] _).alloc _) (by simp)
  · intro s hs
    simp only [newDev] at hs
    rw [List.eq_of_mem_replicate hs]; rfl
end Go.Proofs.YtoffondipgjcoaaGreatDoor
