/- Part 18 of 27 of the contracts below the law: each theorem states, of one function of the program, at a world of the form that its premises name, what the call answers and what it leaves. -/
import Derived.Test.YtoffondipgjcoaaGreatDoorP14
import Derived.Test.YtoffondipgjcoaaGreatDoorP17
import Derived.Shelf.SlMaps.Clone
/- The contracts of package space: first, copy. -/
set_option linter.unusedVariables false
set_option maxRecDepth 100000
set_option linter.unusedSimpArgs false
namespace Go.Proofs.YtoffondipgjcoaaGreatDoor
open Go.RowKit

set_option maxHeartbeats 1000000 in
theorem cloneI_c (b : Nat) (es : Array MapEntry) (cl : Nat) (w : World) (hb : w.heap[b]? = some (.map es cl)) :
    Calls Tryz.prog 152 #[.map (some b)] w fun e w' => e = .returned (.map (some w.heap.size)) ∧ w' = w.alloc (.map es cl) := by
  have hq := fun w => run_eql_map_nil_sl (P := Tryz.prog) w 130 _ _ (some b) Tryz.underlying130
  go_enter Tryz.func152, Tryz.ntmps152
  go_wp2
  rw [run_callFunc_extern Tryz.func98 (by kernel_rfl) (by kernel_rfl) (by kernel_rfl) (e := Extern.MapsClone.clone) (by kernel_rfl), run_maps_clone_sl w 130 hb]
  simp only [Result.andThen]
  rw [Oper.upon_value]
  go_wp2
  rw [run_typeAssert_map_sl _ 130 20 _ _ _ Tryz.underlying130]
  simp only [Result.andThen]
  rw [Oper.upon_value]
  go_wp2
  go_ret
  exact ⟨rfl, rfl⟩
theorem cloneP_c {α : Type} {enc : α → Value} (b : Nat) (m : List (Int × α)) (w : World) (h : MapP intK enc w b m) :
    Calls Tryz.prog 152 #[.map (some b)] w fun e w' => e = .returned (.map (some w.heap.size)) ∧ MapP intK enc w' w.heap.size m ∧ Mod [] w w' := by
  obtain ⟨kv, ⟨es, cl, h1, h2⟩, h3⟩ := h
  refine (cloneI_c b es cl w h1).mono ?_
  rintro e w' ⟨rfl, rfl⟩
  exact ⟨rfl, ⟨kv, ⟨es, cl, hp_new _ _, h2⟩, h3⟩, (Mod.refl _ _).alloc _⟩
theorem stC_len (s : St) (m : Nat) (hu : s.used.length = 20) : (stC s m).length = 22 := by simp [stC, bcs_len, hu]
theorem stC_21 (s : St) (m : Nat) (hu : s.used.length = 20) : (stC s m).toArray[21]? = some (.map (some m)) := by
  rw [List.getElem?_toArray, stC, List.getElem?_append_right (by rw [bcs_len]; omega), bcs_len, hu]; rfl
theorem stC_set (s : St) (m m' : Nat) (hu : s.used.length = 20) : (stC s m).toArray.setIfInBounds 21 (.map (some m')) = (stC s m').toArray := by
  rw [List.setIfInBounds_toArray, stC, List.set_append, if_neg (by rw [bcs_len]; omega), bcs_len, hu]; rfl
theorem stC_one (s : St) (m : Nat) : ∀ v ∈ (stC s m).toArray.toList, v.oneCell' = true := by
  intro v hv
  simp only [stC, List.mem_append, List.mem_cons, List.not_mem_nil, or_false] at hv
  rcases hv with hv | rfl | rfl
  · exact bcs_one _ v hv
  · rfl
  · rfl
def zstV : Value := .agg (stC ⟨List.replicate 20 0, [], []⟩ 0).toArray
theorem Tryz.i_state : (Tryz.prog.info? 133).map (fun i => (i.size, i.bytes)) = some (22, 48) := by kernel_rfl
theorem Tryz.n_state : (Tryz.prog.info? 133).map (·.size) = some 22 := by kernel_rfl
set_option maxHeartbeats 2000000 in
theorem copy_c (s : St) (m : Nat) (w : World) (h : MapP intK sV w m s.pages) (hu : s.used.length = 20) :
    Calls Tryz.prog 97 #[.agg (stC s m).toArray] w fun e w' => ∃ m', e = .returned (.agg (stC s m').toArray) ∧ MapP intK sV w' m' s.pages ∧ w.heap.size ≤ m' ∧ Mod [] w w' := by
  have hl := stC_len s m hu
  have h21 := stC_21 s m hu
  have H := Lib.hid h
  generalize hC : (stC s m).toArray = C at *
  have HC := Lib.hid hC
  have hcs : C.size = 22 := by rw [← hC]; simpa using hl
  clear h hC hl
  have hg21 : C[21]'(by omega) = .map (some m) := by
    have := Array.getElem?_eq_getElem (xs := C) (i := 21) (by omega)
    rw [this] at h21
    exact Option.some.inj h21
  go_enter Tryz.func97, Tryz.ntmps97
  go_wp2_with fail
  generalize hz : #[Value.int .u8 0, .int .u8 0, .int .u8 0, .int .u8 0, .int .u8 0, .int .u8 0, .int .u8 0, .int .u8 0, .int .u8 0, .int .u8 0, .int .u8 0, .int .u8 0, .int .u8 0, .int .u8 0, .int .u8 0, .int .u8 0, .int .u8 0, .int .u8 0, .int .u8 0, .int .u8 0, .string ⟨#[]⟩, .map none] = Z
  have hzs : Z.size = 22 := by rw [← hz]; rfl
  clear hz
  have hm0 : Mod [] w ((w.alloc (Obj.cells C 133)).alloc (Obj.cells Z 133)) := ((Mod.refl _ _).alloc _).alloc _
  have hb0 := hp_old (o' := Obj.cells Z 133) (hp_new w (Obj.cells C 133))
  have hb1 := hp_new1 w (Obj.cells C 133) (Obj.cells Z 133)
  generalize (w.alloc (Obj.cells C 133)).alloc (Obj.cells Z 133) = w1 at *
  refine (cloneP_c m s.pages w1 (H.out.mod hm0 (by simp))).mono ?_
  rintro e w2 ⟨rfl, hp2, hm2⟩
  have hb02 := hm2.at hb0 (by simp)
  have hb12 := hm2.at hb1 (by simp)
  have hsz' : w.heap.size ≤ w1.heap.size := hm0.size
  obtain ⟨cb, fb⟩ := cells_of hb02
  have c21 : w2.cell? ⟨w.heap.size, 21, none⟩ = some (.map (some m)) := (cb 21).trans h21
  have f21 := fb 21
  have HM2 := Lib.hid (hm0.trans hm2 (by simp)); have HP2 := Lib.hid hp2; have HB0 := Lib.hid hb02; have HB1 := Lib.hid hb12
  have hml : w1.heap.size < w2.heap.size := hp2.lt
  have hne2 : w1.heap.size ≠ w.heap.size ∧ w1.heap.size ≠ w.heap.size + 1 := by have := lt_of_block hb1; omega
  generalize w1.heap.size = m' at *
  clear hm0 hb0 hb1 hm2 hp2 hb02 hb12 cb fb h21 hg21
  go_wp2_with (with_reducible refine stop_dst 7 rfl ?_)
  refine Stop.go ?_
  have hm3 : Mod [w.heap.size] w2 (w2.setCell ⟨w.heap.size, 21, none⟩ (.map (some m'))) := (Mod.refl _ _).setCell _ _ (.inl (by simp))
  have hb3 := hp_set (v := .map (some m')) (i := 21) HB0.out
  have hb3' := hm3.at HB1.out (by simp)
  rw [← HC.out, stC_set s m m' hu] at hb3
  have HP3 := Lib.hid (HP2.out.mod hm3 (by simpa using hne2.1)); have HM3 := Lib.hid (HM2.out.trans hm3 (fun x hx => .inr (by simp at hx; omega)))
  generalize w2.setCell ⟨w.heap.size, 21, none⟩ (.map (some m')) = w3 at *
  have hcl : (stC s m').toArray.size = 22 := by simpa using stC_len s m' hu
  refine wpList_load_at rfl 133 _ rfl w.heap.size 0 22 rfl 133 (stC s m').toArray (0, 0) _ hb3 Tryz.underlying133 rfl Tryz.n_state (by omega) ?_
  rw [show (stC s m').toArray.extract 0 (0 + 22) = (stC s m').toArray from by rw [Nat.zero_add, ← hcl]; simp]
  go_wp2_with (with_reducible refine stop_store _ _ _ rfl ?_)
  refine Stop.go ?_
  refine wpList_store_at rfl rfl 133 _ _ rfl (w.heap.size + 1) 0 22 rfl 133 Z (stC s m').toArray rfl hb3' Tryz.n_state hcl (by omega) (stC_one s m') ?_
  rw [show (Z.toList.take 0 ++ (stC s m').toArray.toList ++ Z.toList.drop (0 + 22)).toArray = (stC s m').toArray from by rw [List.drop_of_length_le (by simp; omega)]; simp]
  have hm4 : Mod [w.heap.size + 1] w3 (w3.setRow (w.heap.size + 1) (stC s m').toArray) := (Mod.refl _ _).setRow _ _ (.inl (by simp))
  have hb4 : (w3.setRow (w.heap.size + 1) (stC s m').toArray).heap[w.heap.size + 1]? = some (.cells (stC s m').toArray 133 (0, 0)) := setRow_heap w3 _ Z _ _ _ hb3'
  have HP4 := Lib.hid (HP3.out.mod hm4 (by simpa using hne2.2)); have HM4 := Lib.hid (HM3.out.trans hm4 (fun x hx => .inr (by simp at hx; omega)))
  generalize w3.setRow (w.heap.size + 1) (stC s m').toArray = w4 at *
  clear hm3 hb3 hb3' hm4 c21 f21
  go_wp2_with fail
  have hld := run_loadVar_at (P := Tryz.prog) w4 (w.heap.size + 1) 0 22 133 133 (stC s m').toArray (0, 0) _ hb4 Tryz.underlying133 rfl Tryz.n_state (by omega)
  rw [show (stC s m').toArray.extract 0 (0 + 22) = (stC s m').toArray from by rw [Nat.zero_add, ← hcl]; simp] at hld
  exact bodyPost_ret (v := .agg (stC s m').toArray) (by simp [results, Tryz.results97, asAddr, hld, Sem.run_bind]) rfl ⟨m', rfl, HP4.out, hsz', HM4.out⟩
end Go.Proofs.YtoffondipgjcoaaGreatDoor

/- The contracts of package space: Save. -/
set_option linter.unusedVariables false
set_option maxRecDepth 100000
set_option linter.unusedSimpArgs false
namespace Go.Proofs.YtoffondipgjcoaaGreatDoor
open Go.RowKit

def zst : Value := .agg (bcs (List.replicate 20 0) ++ [Value.string (str []), Value.map none]).toArray
theorem Tryz.z_state : (Tryz.prog.info? 133).map (fun i => (i.zero, i.size, i.bytes)) = some (some zst, 22, 48) := by kernel_rfl
theorem Tryz.z_state' : (Tryz.prog.info? 133).map (·.zero) = some (some zst) := by kernel_rfl
theorem wkL_tail {w : World} {k : Nat} {J : WkI} {W : Wk} {T : TypeId} {f : Nat × Nat} (hu : W.now.used.length = 20) (h : w.heap[k]? = some (.cells (wkL J W).toArray T f)) (i : Nat) :
    w.cell? ⟨k, 21 + i, none⟩ = ([.string (str W.now.head), .map (some J.m), J.nv, .bool W.over] : List Value)[i]? := by
  rw [cell_of_row w k (21 + i) _ T f h, List.getElem?_toArray, wkL, show 21 + i = (20 + i) + 1 from by omega, List.getElem?_cons_succ, List.getElem?_append_right (by rw [bcs_len]; omega), bcs_len, hu]
  congr 1; omega
theorem wkL_ext (J : WkI) (W : Wk) (hu : W.now.used.length = 20) : (wkL J W).toArray.extract 1 (1 + 22) = (stC W.now J.m).toArray := by
  apply Array.toList_inj.1
  simp only [Array.toList_extract, List.extract_eq_take_drop, wkL, List.drop_succ_cons, List.drop_zero]
  have h : bcs W.now.used ++ [.string (str W.now.head), .map (some J.m), J.nv, .bool W.over] = stC W.now J.m ++ [J.nv, .bool W.over] := by simp [stC]
  rw [h, show 1 + 22 - 1 = (stC W.now J.m).length from by rw [stC_len _ _ hu], List.take_left']
  rfl
theorem wkL_size (J : WkI) (W : Wk) (hu : W.now.used.length = 20) : (wkL J W).toArray.size = 25 := by simp [wkL, bcs_len, hu]
set_option maxHeartbeats 4000000 in
theorem wSave_c (k : Nat) (J : WkI) (W : Wk) (w : World) (h : WkR w k J W) (ho : W.over = false) (hn : W.notes.length ≤ 1000000) :
    Calls Tryz.prog 50 #[pt k] w fun e w' => e = .returned (.int .i64 (W.notes.length : Int)) ∧ WkP k J W.save.2 w w' := by
  have HMY := Lib.hid (wmay_c k J W w h)
  unfold mayN at HMY
  rw [ho, if_neg (by simp)] at HMY
  have HV := Lib.hid (show W.save.2 = { W with notes := W.notes ++ [W.now] } from by simp [Wk.save, ho])
  obtain ⟨a0, c0, hnv⟩ := own_form h.notes
  have H := Lib.hid h
  have HNV := Lib.hid hnv
  clear h ho hnv
  go_enter Tryz.func50, Tryz.ntmps50
  go_wp2_with fail
  refine HMY.out.mono ?_
  rintro e w1 ⟨rfl, rfl⟩
  clear HMY
  go_wp2_with fail
  have hS : (fun w' : World => w'.heap[k]? = some (.cells (wkL J W).toArray 136 (0, 0))) w.drew := ((Mod.refl [] w).drew).at H.out.at_ (by simp)
  have h23 : ∀ w' : World, w'.heap[k]? = some (.cells (wkL J W).toArray 136 (0, 0)) → w'.cell? ⟨k, 23, none⟩ = some (.slice a0 W.notes.length c0) := fun w' h => by
    have := wkL_tail H.out.u20 h 2
    rw [← HNV.out]; exact this
  have H23 := Lib.hid h23
  clear h23
  refine region_plan (n := 12) (fun w' : World => w'.heap[k]? = some (.cells (wkL J W).toArray 136 (0, 0))) [(true, 0), (true, 1), (true, 2), (true, 3), (true, 4), (true, 5), (true, 6), (true, 7), (true, 8), (false, 9), (false, 10), (false, 11)] Tryz.mixed (by kernel_rfl) hS ?_
  (apply Go.Proofs.YtoffondipgjcoaaGreatDoor.plan_q _ rfl hS; · (intro K hK w' hw'; (skip); go_simp; (first | exact hK | exact ⟨rfl, hK⟩)))
  (apply Go.Proofs.YtoffondipgjcoaaGreatDoor.plan_q _ rfl hS; · (intro K hK w' hw'; (skip); go_simp; (first | exact hK | exact ⟨rfl, hK⟩)))
  (apply Go.Proofs.YtoffondipgjcoaaGreatDoor.plan_q _ rfl hS; · (intro K hK w' hw'; (skip); go_simp; (first | exact hK | exact ⟨rfl, hK⟩)))
  (apply Go.Proofs.YtoffondipgjcoaaGreatDoor.plan_q _ rfl hS; · (intro K hK w' hw'; (skip); go_simp; (first | exact hK | exact ⟨rfl, hK⟩)))
  (apply Go.Proofs.YtoffondipgjcoaaGreatDoor.plan_q _ rfl hS; · (intro K hK w' hw'; (have q := H23.out w' hw'); go_simp; (first | exact hK | exact ⟨rfl, hK⟩)))
  (apply Go.Proofs.YtoffondipgjcoaaGreatDoor.plan_q _ rfl hS; · (intro K hK w' hw'; (skip); go_simp; (first | exact hK | exact ⟨rfl, hK⟩)))
  (apply Go.Proofs.YtoffondipgjcoaaGreatDoor.plan_q _ rfl hS; · (intro K hK w' hw'; (skip); go_simp; (first | exact hK | exact ⟨rfl, hK⟩)))
  (apply Go.Proofs.YtoffondipgjcoaaGreatDoor.plan_q _ rfl hS; · (intro K hK w' hw'; (skip); go_simp; (first | exact hK | exact ⟨rfl, hK⟩)))
  refine plan_load (i := 8) rfl rfl 133 _ rfl k 1 22 rfl 136 (wkL J W).toArray (0, 0) _ hS (fun w' hw' => hw') Tryz.underlying133 rfl Tryz.n_state (by rw [wkL_size J W H.out.u20]; omega) ?_
  rw [wkL_ext J W H.out.u20]
  refine plan_e rfl ?_
  go_wp2_with fail
  refine (copy_c W.now J.m w.drew (H.out.map.mod ((Mod.refl [] _).drew) (by simp)) H.out.u20).mono ?_
  rintro e w2 ⟨m', rfl, hp2, hm', hm2⟩
  have hm02 := ((Mod.refl [] w).drew).trans hm2 (by simp)
  have hml : m' < w2.heap.size := hp2.lt
  have hmw : w.heap.size ≤ m' := hm'
  have HP2 := Lib.hid hp2; have HM2 := Lib.hid hm02; have HK2 := Lib.hid (hm02.at H.out.at_ (by simp)); have HN2 := Lib.hid (own_mod H.out.notes hm02 (by simp))
  clear hm2 hp2 hm02 hm'
  have hsz2 : (stC W.now m').toArray.size = 22 := by simpa using stC_len W.now m' H.out.u20
  go_wp2_with fail
  refine plan_n ⟨HK2.out, ?_⟩
  refine plan_e rfl ?_
  refine wpList_build1 rfl 134 133 22 _ rfl zst (stC W.now m').toArray rfl Tryz.underlying134 Tryz.n_state Tryz.z_state' hsz2 (by omega) (by omega) ?_
  go_wp2_with fail
  refine plan_n ⟨hp_old HK2.out, ?_⟩
  refine plan_e rfl ?_
  refine wpList_app_new 0 134 133 zst 22 48 _ (stC W.now m') _ rfl _ _ rfl Tryz.underlying134 Tryz.z_state (by decide) (by decide) (by decide) J.nv W.notes.length _ HN2.out (by rw [HNV.out]; rfl) 1 1 rfl (by rw [stC_len _ _ H.out.u20]) (List.all_eq_true.2 (by simpa using stC_one W.now m')) (by omega) (Nat.zero_le _) ?_
  intro v3 w3 ho3 hg3
  obtain ⟨a3, c3, rfl⟩ := own_form ho3
  have hkn : ∀ c, J.nv.ownBlock = some c → c ≠ k := own_ne HN2.out HK2.out (by decide)
  have hk3 := hg3.mod.at HK2.out (by rw [Option.mem_toList]; exact fun h => hkn _ h rfl)
  have hmA := (HM2.out.mono (R' := J.nv.ownBlock.toList) (by simp)).trans hg3.mod (fun x hx => .inl hx)
  have hlt : ∀ c, J.nv.ownBlock = some c → c < w.heap.size := fun c hc => by obtain ⟨cs, h1⟩ := H.out.row c hc; exact lt_of_block h1
  have hp3 := HP2.out.mod hg3.mod (by rw [Option.mem_toList]; exact fun h => by have := hlt _ h; omega)
  have hkn3 : ∀ c, (Value.slice a3 (W.notes.length + 1) c3).ownBlock = some c → c ≠ k := own_ne ho3 hk3 (by decide)
  have hpl := hg3.place
  have HK3 := Lib.hid hk3; have HMA := Lib.hid hmA; have HP3 := Lib.hid hp3; have HO3 := Lib.hid ho3; have HKN3 := Lib.hid hkn3; have HPL := Lib.hid hpl; have HKN := Lib.hid hkn; have HLT := Lib.hid hlt
  clear hg3 hk3 hmA hp3 ho3 hkn3 hpl hkn hlt
  go_wp2_with fail
  refine plan_n ⟨HK3.out, plan_t ?_⟩
  simp only [List.drop_succ_cons, List.drop_zero]
  clear hS
  obtain ⟨ck, fk⟩ := cells_of HK3.out
  have c23 := wkL_tail H.out.u20 HK3.out 2
  rw [HNV.out] at c23
  simp only [Nat.reduceAdd, List.getElem?_cons_succ, List.getElem?_cons_zero] at c23
  have f23 := fk 23
  clear ck fk
  go_wp2_with fail
  go_ret
  have hsc : Mod [k] w3 (w3.setCell ⟨k, 23, none⟩ (.slice a3 (W.notes.length + 1) c3)) := (Mod.refl _ _).setCell _ _ (.inl (by simp))
  have hat := hp_set (v := .slice a3 (W.notes.length + 1) c3) (i := 23) HK3.out
  have hst := wk_setT J W H.out.u20 2 (.slice a3 (W.notes.length + 1) c3)
  rw [show 21 + 2 = 23 from rfl] at hst
  rw [hst] at hat
  have hmB : Mod (k :: J.nv.ownBlock.toList) w (w3.setCell ⟨k, 23, none⟩ (.slice a3 (W.notes.length + 1) c3)) := (HMA.out.mono (fun x hx => .inl (by simp only [List.mem_cons]; exact .inr hx))).trans hsc (fun x hx => .inl (by simp at hx; simp [hx]))
  generalize w3.setCell ⟨k, 23, none⟩ (.slice a3 (W.notes.length + 1) c3) = w4 at *
  have hnB : ∀ b, b ∈ J.m :: J.ms → b ∉ k :: J.nv.ownBlock.toList := fun b hb hm => by
    obtain ⟨es, n, h1⟩ := H.out.maps b hb
    simp only [List.mem_cons, Option.mem_toList] at hm
    rcases hm with rfl | hm
    · exact map_ne H.out.at_ h1 rfl
    · obtain ⟨cs, h2⟩ := H.out.row b hm
      exact map_ne h2 h1 rfl
  have hcB : ∀ b ∈ k :: J.nv.ownBlock.toList, b ∉ J.I.F J.ca := fun b hb => H.out.apart b (by
    simp only [WkI.own, List.mem_cons, List.mem_append, Option.mem_toList] at hb ⊢
    rcases hb with h | h <;> simp [h])
  have hmlt : ∀ b ∈ J.m :: J.ms, b < w.heap.size := fun b hb => by obtain ⟨es, n, h1⟩ := H.out.maps b hb; exact lt_of_block h1
  have hFl : ∀ b, b = J.I.am ∨ b = J.I.ub → b < w.heap.size := fun b hb => by obtain ⟨es, n, h1⟩ := H.out.ca.mapBlk b hb; exact lt_of_block h1
  rw [HV.out]
  refine ⟨ret_int (by omega), { J with nv := .slice a3 (W.notes.length + 1) c3, ms := J.ms ++ [m'] }, ⟨hat, H.out.u20, H.out.ca.stay hmB hcB, H.out.map.mod hmB (hnB _ (by simp)), H.out.srt, ?_, by simp [H.out.nms], ?_, ?_, ?_, H.out.n1, H.out.n2, by simp; omega⟩, ⟨?_, ?_⟩, rfl⟩
  · show w4.ownsRow 0 _ 22 _ (W.notes ++ [W.now]).length (noteC (W.notes ++ [W.now]) (J.ms ++ [m']))
    rw [noteC_app _ _ _ _ H.out.nms.symm, List.length_append]
    exact own_mod HO3.out hsc (fun c hc => by simpa using HKN3.out c hc)
  · intro i x s hi hs
    by_cases hil : i < J.ms.length
    · simp only [List.getElem?_append_left hil] at hi
      simp only [List.getElem?_append_left (show i < W.notes.length by rw [← H.out.nms]; exact hil)] at hs
      have := H.out.nmap i x s hi hs
      exact ⟨this.1.mod hmB (hnB x (by simp [List.mem_of_getElem? hi])), this.2⟩
    · have hlx := (List.getElem?_eq_some_iff.1 hi).1
      simp only [List.length_append, List.length_singleton] at hlx
      obtain rfl : i = J.ms.length := by omega
      simp only [List.getElem?_concat_length, Option.some.injEq] at hi
      rw [H.out.nms] at hs
      simp only [List.getElem?_concat_length, Option.some.injEq] at hs
      subst hi hs
      exact ⟨HP3.out.mod hsc (by simp; have := lt_of_block H.out.at_; omega), H.out.u20, H.out.srt⟩
  · simp only [List.mem_append, List.mem_singleton, not_or]
    exact ⟨H.out.ap1, fun he => by have := hmlt J.m (by simp); omega⟩
  · intro b hb
    simp only [List.mem_cons, List.mem_append, List.not_mem_nil, or_false] at hb
    rcases hb with h | h | h
    · exact H.out.ap2 b (by simp [h])
    · exact H.out.ap2 b (by simp [h])
    · subst h
      exact ⟨fun he => by have := hFl _ (.inl he); omega, fun he => by have := hFl _ (.inr he); omega⟩
  · exact hmB.mono (fun x hx => .inl (by
      simp only [WkI.F, WkI.own, List.mem_append, List.mem_cons, Option.mem_toList] at hx ⊢
      rcases hx with h | h <;> simp [h]))
  · intro b hb
    simp only [WkI.F, WkI.own, List.mem_append, List.mem_cons, Option.mem_toList, List.not_mem_nil, or_false] at hb ⊢
    rcases hb with (h | h | h | h | h) | h
    · simp [h]
    · simp [h]
    · rcases HPL.out b h with h | h
      · simp [h]
      · exact .inr (Nat.le_trans HM2.out.size h)
    · simp [h]
    · subst h; exact .inr hmw
    · simp [h]
end Go.Proofs.YtoffondipgjcoaaGreatDoor

/- The contracts of package space: first, Begin. -/
set_option linter.unusedVariables false
set_option maxRecDepth 100000
set_option linter.unusedSimpArgs false
namespace Go.Proofs.YtoffondipgjcoaaGreatDoor
open Go.RowKit

set_option maxHeartbeats 1000000 in
theorem first_c (k : Nat) (J : WkI) (W : Wk) (w : World) (h : WkR w k J W) (hh : W.now.head.length ≤ 1000000) :
    Calls Tryz.prog 155 #[pt k] w fun e w' => e = .returned (.string (str W.first)) ∧ Mod [] w w' := by
  have H := Lib.hid h
  have hu := h.u20
  have HCV := Lib.hid (show ∀ w', Mod [] w w' → ∀ n, n = W.now.used.length → (convert 118 9 (.slice (some ⟨k, 1, none⟩) 20 20)).run Tryz.prog w' = .ok (.string (str W.now.used)) w' from by
    rintro w' hm n rfl
    refine run_bytes_str w' _ _ 5 Tryz.underlying118 Tryz.underlying5 Tryz.underlying9 k 1 20 20 W.now.used hu (fun i hi => ?_)
    exact (h.stay hm (by simp)).cells.2.1 i hi)
  have HHD := Lib.hid (show ∀ w', Mod [] w w' → w'.cell? ⟨k, 21, none⟩ = some (.string (str W.now.head)) from fun w' hm => (h.stay hm (by simp)).cells.2.2.1)
  clear h
  go_enter Tryz.func155, Tryz.ntmps155
  go_wp2_with fail
  have hS : Mod [] w w.drew := (Mod.refl _ _).drew
  refine region_plan (n := 11) (Mod [] w) [(true, 0), (true, 1), (true, 2), (true, 3), (true, 4), (true, 5), (true, 6), (true, 7), (true, 8), (true, 9), (true, 10)] Tryz.mixed (by kernel_rfl) hS ?_
  (apply Go.Proofs.YtoffondipgjcoaaGreatDoor.plan_q _ rfl hS; · (intro K hK w' hw'; (skip); go_simp; (first | exact hK | exact ⟨rfl, hK⟩)))
  (apply Go.Proofs.YtoffondipgjcoaaGreatDoor.plan_q _ rfl hS; · (intro K hK w' hw'; (skip); go_simp; (first | exact hK | exact ⟨rfl, hK⟩)))
  (apply Go.Proofs.YtoffondipgjcoaaGreatDoor.plan_q _ rfl hS; · (intro K hK w' hw'; (skip); go_simp; (first | exact hK | exact ⟨rfl, hK⟩)))
  (apply Go.Proofs.YtoffondipgjcoaaGreatDoor.plan_q _ rfl hS; · (intro K hK w' hw'; (skip); go_simp; (first | exact hK | exact ⟨rfl, hK⟩)))
  (apply Go.Proofs.YtoffondipgjcoaaGreatDoor.plan_q _ rfl hS; · (intro K hK w' hw'; (skip); go_simp; (first | exact hK | exact ⟨rfl, hK⟩)))
  (apply Go.Proofs.YtoffondipgjcoaaGreatDoor.plan_q _ rfl hS; · (intro K hK w' hw'; (have q := HCV.out w' hw' _ rfl); go_simp; (first | exact hK | exact ⟨rfl, hK⟩)))
  (apply Go.Proofs.YtoffondipgjcoaaGreatDoor.plan_q _ rfl hS; · (intro K hK w' hw'; (skip); go_simp; (first | exact hK | exact ⟨rfl, hK⟩)))
  (apply Go.Proofs.YtoffondipgjcoaaGreatDoor.plan_q _ rfl hS; · (intro K hK w' hw'; (skip); go_simp; (first | exact hK | exact ⟨rfl, hK⟩)))
  (apply Go.Proofs.YtoffondipgjcoaaGreatDoor.plan_q _ rfl hS; · (intro K hK w' hw'; (skip); go_simp; (first | exact hK | exact ⟨rfl, hK⟩)))
  (apply Go.Proofs.YtoffondipgjcoaaGreatDoor.plan_q _ rfl hS; · (intro K hK w' hw'; (skip); go_simp; (first | exact hK | exact ⟨rfl, hK⟩)))
  (apply Go.Proofs.YtoffondipgjcoaaGreatDoor.plan_q _ rfl hS; · (intro K hK w' hw'; (have q := HHD.out w' hw'); go_simp; (first | exact hK | exact ⟨rfl, hK⟩)))
  refine plan_t ?_
  simp only [List.drop_succ_cons, List.drop_zero]
  have hz : ¬ 9223372036854775807 < (str W.now.used).size + (str W.now.head).size := by simp [str_size]; omega
  go_wp2_with fail
  go_ret
  exact ⟨by rw [str_app]; rfl, hS⟩
theorem run_copy_str2 {P : Program} (w : World) (T U ty e : TypeId) (hT : P.underlying T = some (.slice e)) (hi : (P.info? e).map (·.size) = some 1)
    (g off n c : Nat) (t : TypeId) (cs : Array Value) (hg : w.heap[g]? = some (.cells cs t (0, 0))) (s : ByteArray) (hn : n ≤ s.size) (hfit : off + n ≤ cs.size) :
    (Builtin.copy_ #[T, U] ty #[.slice (some ⟨g, off, none⟩) n c, .string s]).run P w =
      .ok (goInt n) (w.setRow g (cs.toList.take off ++ bcs ((sl s).take n) ++ cs.toList.drop (off + n)).toArray) := by
  have hmin : Nat.min s.size n = n := Nat.min_eq_right hn
  have hln : (bcs ((sl s).take n)).length = n := by rw [bcs_len, List.length_take, sl_len]; omega
  have hcells : (s.extract 0 n).data.map (fun b => Value.int .u8 b.toNat) = (bcs ((sl s).take n)).toArray := by
    apply Array.toList_inj.1; simp [bcs, sl, ByteArray.data_extract, List.extract_eq_take_drop]
  have h := run_storeCells_at P g off t (bcs ((sl s).take n)) 0 cs w hg (by rw [hln]; omega) (bcs_one _)
  simp only [Nat.add_zero, hln] at h
  simp only [Builtin.copy_, List.getElem?_toArray, List.getElem?_cons_zero, List.getElem?_cons_succ, Sem.run_bind, run_underlying hT, Result.andThen_ok, Builtin.lenOf, Sem.run_pure, run_sizeOf hi, hmin, Builtin.firstCells, hcells, h]
section
variable {P : Program} {ops : Array Oper} {rest : List Oper} {o : Oper} {a : Act} {Q : Exit → Act → World → Prop} {w : World}
theorem wpList_copy_str2 (hgd : o.guard = none) (T U e : TypeId) (x y : Operand) (ho : o.op = .call { callee := .builtin .copy, args := #[x, y], argTypes := #[T, U] })
    (hT : P.underlying T = some (.slice e)) (hi : (P.info? e).map (·.size) = some 1) (g off n c : Nat) (hx : a.eval x = .slice (some ⟨g, off, none⟩) n c) (s : ByteArray) (hy : a.eval y = .string s)
    (t : TypeId) (cs : Array Value) (hg : w.heap[g]? = some (.cells cs t (0, 0))) (hn : n ≤ s.size) (hfit : off + n ≤ cs.size)
    (h : wpList P ops Q rest (a.put o.dst (goInt n)) (w.setRow g (cs.toList.take off ++ bcs ((sl s).take n) ++ cs.toList.drop (off + n)).toArray)) : wpList P ops Q (o :: rest) a w := by
  refine wpList_plain hgd fun K hK => ?_
  have hr := run_copy_str2 (P := P) w T U o.type e hT hi g off n c t cs hg s hn hfit
  unfold Oper.wp execOp
  simp only [ho, resolve, invoke, builtin, Sem.run_bind, Sem.run_pure, Result.andThen_ok, List.map_toArray, List.map_cons, List.map_nil, hx, hy, hr]
  exact hK _ _ h
end
/-- what Begin leaves -/
def BegP (c : Nat) (I : CaI) (G : Pg) (w : World) (e : Ending) (w' : World) : Prop := ∃ k J, e = .returned (.tuple #[pt k, .int .i64 0]) ∧ WkR w' k J (Wk.begin G) ∧ Stp (I.F c) (J.F k) w w' ∧ J.ca = c ∧ J.I.d = I.d
set_option maxHeartbeats 2000000 in
theorem wBegin_c (c : Nat) (I : CaI) (G : Pg) (s : Bytes) (w : World) (h : CaS w c I G) (hs : G.pages[0]? = some s) (hl : s.length = 256) (h2 : G.pages.length ≤ 160) :
    Calls Tryz.prog 33 #[pt c] w fun e w' => BegP c I G w e w' := by
  have HRD := Lib.hid (cRead_c c I G 0 s w h hs)
  have hss := str_size s
  rw [hl] at hss
  have hmm := @run_makeMap Tryz.prog
  have HS := Lib.hid hs; have HL := Lib.hid hl
  have hn1 : 1 ≤ G.pages.length := (List.getElem?_eq_some_iff.1 hs).1
  clear h hs hl
  go_enter Tryz.func33, Tryz.ntmps33
  go_wp2_with fail
  refine HRD.out.mono ?_
  rintro e w1 ⟨rfl, I', hc1, hd1, hs1⟩
  have HC1 := Lib.hid hc1; have HS1 := Lib.hid hs1; have HD1 := Lib.hid hd1
  clear hc1 hs1 hd1 HRD
  go_wp2_with (with_reducible refine stop_dst 30 rfl ?_)
  refine Stop.go ?_
  rw [show (str s).extract 20 256 = str (s.drop 20) from by rw [str_sub, List.take_of_length_le (by rw [HL.out]; omega)]]
  have hb0 := hp_new1 w1 (Obj.map #[] 0) (Obj.cells #[pt c, .int .u8 0, .int .u8 0, .int .u8 0, .int .u8 0, .int .u8 0, .int .u8 0, .int .u8 0, .int .u8 0, .int .u8 0, .int .u8 0, .int .u8 0, .int .u8 0, .int .u8 0, .int .u8 0, .int .u8 0, .int .u8 0, .int .u8 0, .int .u8 0, .int .u8 0, .int .u8 0, .string (str (s.drop 20)), .map (some w1.heap.size), .slice none 0 0, .bool false] 136)
  have hm0 : Mod [] w1 ((w1.alloc (Obj.map #[] 0)).alloc (Obj.cells #[pt c, .int .u8 0, .int .u8 0, .int .u8 0, .int .u8 0, .int .u8 0, .int .u8 0, .int .u8 0, .int .u8 0, .int .u8 0, .int .u8 0, .int .u8 0, .int .u8 0, .int .u8 0, .int .u8 0, .int .u8 0, .int .u8 0, .int .u8 0, .int .u8 0, .int .u8 0, .int .u8 0, .string (str (s.drop 20)), .map (some w1.heap.size), .slice none 0 0, .bool false] 136)) := ((Mod.refl _ _).alloc _).alloc _
  have hp0 : MapP (α := List UInt8) intK sV ((w1.alloc (Obj.map #[] 0)).alloc (Obj.cells #[pt c, .int .u8 0, .int .u8 0, .int .u8 0, .int .u8 0, .int .u8 0, .int .u8 0, .int .u8 0, .int .u8 0, .int .u8 0, .int .u8 0, .int .u8 0, .int .u8 0, .int .u8 0, .int .u8 0, .int .u8 0, .int .u8 0, .int .u8 0, .int .u8 0, .int .u8 0, .int .u8 0, .string (str (s.drop 20)), .map (some w1.heap.size), .slice none 0 0, .bool false] 136)) w1.heap.size [] := (MapP.new w1).mod (R := []) ((Mod.refl _ _).alloc _) (by simp)
  generalize (w1.alloc (Obj.map #[] 0)).alloc _ = w2 at *
  refine wpList_copy_str2 rfl 118 9 5 _ _ rfl Tryz.underlying118 (by kernel_rfl) (w1.heap.size + 1) 1 20 20 rfl (str s) rfl 136 _ hb0 (by rw [hss]; omega) (by simp) ?_
  obtain ⟨R, hR⟩ : ∃ R, R = ((#[pt c, .int .u8 0, .int .u8 0, .int .u8 0, .int .u8 0, .int .u8 0, .int .u8 0, .int .u8 0, .int .u8 0, .int .u8 0, .int .u8 0, .int .u8 0, .int .u8 0, .int .u8 0, .int .u8 0, .int .u8 0, .int .u8 0, .int .u8 0, .int .u8 0, .int .u8 0, .int .u8 0, .string (str (s.drop 20)), .map (some w1.heap.size), .slice none 0 0, .bool false] : Array Value).toList.take 1 ++ bcs ((sl (str s)).take 20) ++ (#[pt c, .int .u8 0, .int .u8 0, .int .u8 0, .int .u8 0, .int .u8 0, .int .u8 0, .int .u8 0, .int .u8 0, .int .u8 0, .int .u8 0, .int .u8 0, .int .u8 0, .int .u8 0, .int .u8 0, .int .u8 0, .int .u8 0, .int .u8 0, .int .u8 0, .int .u8 0, .int .u8 0, .string (str (s.drop 20)), .map (some w1.heap.size), .slice none 0 0, .bool false] : Array Value).toList.drop (1 + 20)).toArray := ⟨_, rfl⟩
  rw [← hR]
  have hst := setRow_heap w2 (w1.heap.size + 1) _ R _ _ hb0
  have hmr : Mod [w1.heap.size + 1] w2 (w2.setRow (w1.heap.size + 1) R) := (Mod.refl _ _).setRow _ _ (.inl (by simp))
  generalize w2.setRow (w1.heap.size + 1) R = w3 at *
  have HRW := Lib.hid hR
  clear hR
  have HP3 := Lib.hid (hp0.mod hmr (by simp)); have HST := Lib.hid hst; have HM3 := Lib.hid (hm0.trans (R := []) hmr (fun x hx => .inr (by simp at hx; omega)))
  clear hb0 hm0 hp0 hst hmr
  go_wp2_with fail
  go_ret2
  have hg0 : G.pages.getD 0 [] = s := by rw [List.getD_eq_getElem?_getD, HS.out]; rfl
  have hW : Wk.begin G = ⟨⟨s.take 20, s.drop 20, []⟩, [], false, G⟩ := by unfold Wk.begin; rw [hg0]
  have hc3 : CaS w3 c I' G := HC1.out.stay HM3.out (by simp)
  have hsz := HS1.out.mod.size
  have hFl : ∀ b, b = I'.am ∨ b = I'.ub → b < w1.heap.size := fun b hb => by obtain ⟨es, n, h1⟩ := HC1.out.mapBlk b hb; exact lt_of_block h1
  unfold BegP
  rw [hW]
  refine ⟨w1.heap.size + 1, ⟨c, I', w1.heap.size, .slice none 0 0, []⟩, rfl, ⟨?_, by simp [HL.out], hc3, HP3.out, List.Pairwise.nil, ⟨rfl, .inl ⟨rfl, rfl⟩⟩, rfl, by simp, by simp, ?_, hn1, h2, by simp⟩, ⟨?_, ?_⟩, rfl, HD1.out⟩
  · rw [HST.out, HRW.out]; rfl
  · intro b hb
    simp at hb
    subst hb
    exact ⟨fun he => by have := hFl _ (.inl he); omega, fun he => by have := hFl _ (.inr he); omega⟩
  · exact HS1.out.mod.trans HM3.out (by simp)
  · intro b hb
    simp only [WkI.F, WkI.own, Value.ownBlock, Option.toList_none, List.nil_append, List.append_nil, List.mem_append, List.mem_cons, List.not_mem_nil, or_false] at hb
    rcases hb with (h | h) | h
    · exact .inr (by omega)
    · exact .inr (by omega)
    · exact HS1.out.sub b h
end Go.Proofs.YtoffondipgjcoaaGreatDoor
