/- Part 24 of 27 of the contracts below the law: each theorem states, of one function of the program, at a world of the form that its premises name, what the call answers and what it leaves. -/
import Derived.Test.YtoffondipgjcoaaGreatDoorP23
import Derived.Test.YtoffondipgjcoaaGreatDoorP22
/- The contracts of package base: write. -/
set_option linter.unusedVariables false
set_option maxRecDepth 100000
set_option linter.unusedSimpArgs false
namespace Go.Proofs.YtoffondipgjcoaaGreatDoor
open Go.RowKit

abbrev tabB (p : Bytes × (Nat × Nat)) : Bytes := pstr p.1 ++ be p.2.1 2 ++ be p.2.2 2
theorem field_tab (x1 x2 : Nat) (w : World) : (Instr.field 84 (.agg #[.int .i64 (x1 : Int), .int .i64 (x2 : Int)]) 0).run Tryz.prog w = .ok (.int .i64 (x1 : Int)) w := by kernel_rfl
theorem field_tab1 (x1 x2 : Nat) (w : World) : (Instr.field 84 (.agg #[.int .i64 (x1 : Int), .int .i64 (x2 : Int)]) 1).run Tryz.prog w = .ok (.int .i64 (x2 : Int)) w := by kernel_rfl
theorem tabsB_len (n : Nat) : ∀ l : Tabs, (∀ p ∈ l, p.1.length ≤ n) → n ≤ 255 → (l.flatMap tabB).length ≤ (n + 5) * l.length
  | [], _, _ => by simp
  | p :: l, h, hn => by
    have h1 := tabsB_len n l (fun q hq => h q (List.mem_cons_of_mem _ hq)) hn
    have h2 := h p List.mem_cons_self
    rw [List.flatMap_cons, List.length_append, List.length_cons]
    have h3 : (tabB p).length = p.1.length + 5 := by
      unfold tabB
      rw [pstr_small _ (by omega)]
      simp [be]
    rw [Nat.mul_succ, h3]
    omega
set_option maxHeartbeats 2000000 in
theorem bwrite_c (m : Nat) (tabs : Tabs) (w : World) (h : MapP strK tabV w m tabs) (hs : Srt blt tabs) (hl : tabs.length ≤ 200) (hn : ∀ p ∈ tabs, p.1.length ≤ 8 ∧ p.2.1 < 1000000 ∧ p.2.2 < 1000000) :
    Calls Tryz.prog 47 #[.map (some m)] w fun e w' => e = .returned (.string (str (headWr tabs))) ∧ Mod [] w w' := by
  have hln := len_mapP (P := Tryz.prog) 76 _ _ Tryz.underlying76 h 3
  have hwr : IntKind.u8.wrap ((tabs.length : Nat) : Int) = (tabs.length : Nat) := by simp [IntKind.wrap, IntKind.bits, IntKind.signed]; omega
  have H := Lib.hid h; have HS := Lib.hid hs; have HN := Lib.hid hn
  clear h hs hn
  go_enter Tryz.func47, Tryz.ntmps47
  go_wp2_with fail
  have hm1 : Mod [] w (w.alloc (Obj.cells #[.int .u8 (tabs.length : Int)] 5)) := (Mod.refl _ _).alloc _
  have ho1 := own_lit w w.heap.size 5 1 [.int .u8 (tabs.length : Int)] 1 (Nat.le_refl _) rfl (by decide)
  generalize w.alloc (Obj.cells #[.int .u8 (tabs.length : Int)] 5) = w1 at *
  have hb1 : Bts w1 w.heap.size (.slice (some ⟨w.heap.size, 0, none⟩) 1 1) (UInt8.ofNat tabs.length :: ([] : Tabs).flatMap tabB) := by
    unfold Bts
    simp only [List.flatMap_nil, List.length_cons, List.length_nil, bcs, List.map_cons, List.map_nil]
    have : ((UInt8.ofNat tabs.length).toNat : Int) = tabs.length := by simp; omega
    rw [this]
    exact ho1
  have HM1 := Lib.hid hm1; have HB1 := Lib.hid hb1
  clear hm1 ho1 hb1 hln hwr
  refine (keysS_c (some m) w1).mono ?_
  rintro e w2 ⟨rfl, hw2⟩
  have hm2 : Mod [] w1 w2 := by subst hw2; exact (Mod.refl _ _).alloc _
  have hb2 : w2.heap[w1.heap.size]? = some (.cells #[.map (some m)] 76 (0, 0)) := by subst hw2; exact hp_new _ _
  have HM2 := Lib.hid hm2; have HB2 := Lib.hid hb2
  clear hw2 hm2 hb2
  go_wp2_with fail
  refine (sortedS_c m w1.heap.size tabs w2 ((H.out.mod HM1.out (by simp)).mod HM2.out (by simp)) HS.out (fun p hp => by have := HN.out p hp; omega) (by omega) ((cells_of HB2.out).1 0) (lt_of_block HB2.out)).mono ?_
  rintro e w3 ⟨vk, rfl, hk3, hm3⟩
  obtain ⟨ka, kc, rfl⟩ := own_form hk3
  have hm13 := HM2.out.trans hm3 (by simp)
  have hk3' : w3.ownsRow w.heap.size 9 1 (.slice ka tabs.length kc) tabs.length ((tabs.map (·.1)).map strE) := own_rebase hk3 (fun b hb => Nat.le_trans (Nat.le_trans HM1.out.size HM2.out.size) (own_lt hk3 b hb).1)
  have HK3 := Lib.hid hk3'; have HM3 := Lib.hid (HM1.out.trans hm13 (by simp)); have HB3 := Lib.hid (own_mod HB1.out hm13 (by simp))
  clear hk3 hm3 hm13 hk3' HB2
  go_wp2_with fail
  go_loopw [3, 14] (fun v i wr => ∃ j : Nat, j ≤ tabs.length ∧ i = .int .i64 j ∧ Bts wr w.heap.size v (UInt8.ofNat tabs.length :: (tabs.take j).flatMap tabB) ∧ Mod [] w wr ∧
      wr.ownsRow w.heap.size 9 1 (.slice ka tabs.length kc) tabs.length ((tabs.map (·.1)).map strE)) (fun _ i _ => tabs.length - (intOf i).toNat)
  case atStart => exact ⟨0, Nat.zero_le _, rfl, HB3.out, HM3.out, HK3.out⟩
  case round =>
    obtain ⟨j, hj, rfl, hv, hm, hk⟩ := hrel
    by_cases hlt : j < tabs.length
    · have hgj : tabs[j]? = some tabs[j] := List.getElem?_eq_getElem hlt
      have hX : tabs.take (j + 1) = tabs.take j ++ [tabs[j]] := List.take_succ_eq_append_getElem hlt
      have hal : alook tabs tabs[j].1 = some tabs[j].2 := (alook_mem (HS.out.nodup blt_ord)).2 (List.getElem_mem hlt)
      have hnj := HN.out _ (List.getElem_mem hlt)
      have htl : ((tabs.take j).flatMap tabB).length ≤ 3000 := by
        have h1 := tabsB_len 8 (tabs.take j) (fun p hp => (HN.out p (List.mem_of_mem_take hp)).1) (by omega)
        rw [List.length_take] at h1
        omega
      obtain ⟨ka', kc', hv', hrd, hkb⟩ := RdS.ofOwn hk (by omega)
      cases hv'
      have hc : ∃ b off, ka = some ⟨b, off, none⟩ ∧ wr.cell? ⟨b, off + j, none⟩ = some (.string (str tabs[j].1)) := by
        obtain ⟨b, off, hb, hcc⟩ := hrd.cell (by omega)
        refine ⟨b, off, hb, ?_⟩
        rw [hcc j (by omega), List.getElem?_map, List.getElem?_map, hgj]; rfl
      obtain ⟨b, off, rfl, hc0⟩ := hc
      generalize tabs[j] = X at *
      generalize hT : (tabs.take j).flatMap tabB = T at *
      have hsn : (tabs.take (j + 1)).flatMap tabB = T ++ tabB X := by rw [hX, List.flatMap_append, hT]; simp
      obtain ⟨X1, x1, x2⟩ := X
      dsimp only at *
      have HSN := Lib.hid hsn; have HV := Lib.hid hv; have HM := Lib.hid hm; have HK := Lib.hid hk; have HAL := Lib.hid hal
      clear hgj hX hrd hkb hsn hv hm hk hal hT
      go_wp2_with fail
      refine (pStr_c w.heap.size _ _ X1 wr HM.out.size HV.out (by omega) (by simp only [List.length_cons]; omega)).mono ?_
      rintro e w4 ⟨v4, rfl, hb4, hg4⟩
      have hm4 : Mod [] w w4 := HM.out.app HV.out (Nat.le_refl _) hg4
      have hk4 := own_mod HK.out hg4.mod (fun c hc hm => own_ne' HK.out HV.out (by decide) c hc (by simpa using hm))
      have HB4 := Lib.hid hb4; have HM4 := Lib.hid hm4; have HK4 := Lib.hid hk4
      clear hb4 hg4 hm4 hk4 hc0
      go_wp2_with fail
      have hS : (fun w' : World => Mod [] w w') w4.drew := HM4.out.drew
      have hu1 : IntKind.u64.wrap (x1 : Int) = (x1 : Int) := wraps_u64 _ (by omega) (by omega)
      have hu2 : IntKind.u64.wrap (x2 : Int) = (x2 : Int) := wraps_u64 _ (by omega) (by omega)
      have hf1 := field_tab x1 x2
      have hf2 := field_tab1 x1 x2
      refine region_plan (n := 12) (fun w' : World => Mod [] w w') [(true, 0), (true, 1), (true, 2), (true, 3), (true, 4), (true, 5), (true, 7), (true, 8), (true, 9), (true, 10), (true, 11), (false, 6)] Tryz.mixed (by kernel_rfl) hS ?_
      (apply Go.Proofs.YtoffondipgjcoaaGreatDoor.plan_q _ rfl hS; · (intro K hK w' hw'; (skip); go_simp; (first | exact hK | exact ⟨rfl, hK⟩)))
      (apply Go.Proofs.YtoffondipgjcoaaGreatDoor.plan_q _ rfl hS; · (intro K hK w' hw'; (skip); go_simp; (first | exact hK | exact ⟨rfl, hK⟩)))
      (apply Go.Proofs.YtoffondipgjcoaaGreatDoor.plan_q _ rfl hS; · (intro K hK w' hw'; (skip); go_simp; (first | exact hK | exact ⟨rfl, hK⟩)))
      (apply Go.Proofs.YtoffondipgjcoaaGreatDoor.plan_q _ rfl hS; · (intro K hK w' hw'; (have q := look_tab1 (H.out.mod hw' (by simp)) X1 x1 x2 HAL.out m rfl); go_simp; (first | exact hK | exact ⟨rfl, hK⟩)))
      (apply Go.Proofs.YtoffondipgjcoaaGreatDoor.plan_q _ rfl hS; · (intro K hK w' hw'; (have q := field_tab x1 x2); go_simp; (first | exact hK | exact ⟨rfl, hK⟩)))
      (apply Go.Proofs.YtoffondipgjcoaaGreatDoor.plan_q _ rfl hS; · (intro K hK w' hw'; (have q := hu1); go_simp; (first | exact hK | exact ⟨rfl, hK⟩)))
      (apply Go.Proofs.YtoffondipgjcoaaGreatDoor.plan_q _ rfl hS; · (intro K hK w' hw'; (skip); go_simp; (first | exact hK | exact ⟨rfl, hK⟩)))
      (apply Go.Proofs.YtoffondipgjcoaaGreatDoor.plan_q _ rfl hS; · (intro K hK w' hw'; (skip); go_simp; (first | exact hK | exact ⟨rfl, hK⟩)))
      (apply Go.Proofs.YtoffondipgjcoaaGreatDoor.plan_q _ rfl hS; · (intro K hK w' hw'; (have q := look_tab1 (H.out.mod hw' (by simp)) X1 x1 x2 HAL.out m rfl); go_simp; (first | exact hK | exact ⟨rfl, hK⟩)))
      (apply Go.Proofs.YtoffondipgjcoaaGreatDoor.plan_q _ rfl hS; · (intro K hK w' hw'; (have q := field_tab1 x1 x2); go_simp; (first | exact hK | exact ⟨rfl, hK⟩)))
      (apply Go.Proofs.YtoffondipgjcoaaGreatDoor.plan_q _ rfl hS; · (intro K hK w' hw'; (have q := hu2); go_simp; (first | exact hK | exact ⟨rfl, hK⟩)))
      refine plan_e rfl ?_
      clear hu1 hu2 hf1 hf2
      go_wp2_with fail
      refine (pNum_c w.heap.size _ _ x1 2 w4.drew (HM4.out.drew).size (own_mod HB4.out ((Mod.refl [] _).drew) (by simp)) (by omega) (by simp only [List.length_append, List.length_cons]; omega)).mono ?_
      rintro e w5 ⟨v5, rfl, hb5, hg5⟩
      have hm5 : Mod [] w w5 := HM4.out.drew.app (own_mod HB4.out ((Mod.refl [] _).drew) (by simp)) (Nat.le_refl _) hg5
      have hk5 := own_mod (own_mod HK4.out ((Mod.refl [] _).drew) (by simp)) hg5.mod (fun c hc hm => own_ne' HK4.out HB4.out (by decide) c hc (by simpa using hm))
      have HB5 := Lib.hid hb5; have HM5 := Lib.hid hm5; have HK5 := Lib.hid hk5
      clear hb5 hg5 hm5 hk5
      go_wp2_with fail
      refine plan_n ⟨HM5.out, plan_t ?_⟩
      simp only [List.drop_succ_cons, List.drop_zero]
      clear hS
      have hbl : (((UInt8.ofNat tabs.length :: T) ++ UInt8.ofNat X1.length :: X1) ++ be x1 (wideN 2)).length ≤ 1000000000 := by
        rw [List.length_append]
        have : (be x1 (wideN 2)).length = 2 := by rw [show wideN 2 = 2 from rfl]; simp [be]
        simp only [List.length_append, List.length_cons]; omega
      go_wp2_with fail
      refine (pNum_c w.heap.size _ _ x2 2 w5 HM5.out.size HB5.out (by omega) hbl).mono ?_
      rintro e w6 ⟨v6, rfl, hb6, hg6⟩
      have hm6 : Mod [] w w6 := HM5.out.app HB5.out (Nat.le_refl _) hg6
      have hk6 := own_mod HK5.out hg6.mod (fun c hc hm => own_ne' HK5.out HB5.out (by decide) c hc (by simpa using hm))
      have HB6 := Lib.hid hb6; have HM6 := Lib.hid hm6; have HK6 := Lib.hid hk6
      clear hb6 hg6 hm6 hk6 hbl
      go_wp2_with fail
      go_roundw
      case rel =>
        refine ⟨j + 1, by omega, by go_num, ?_, HM6.out, HK6.out⟩
        rw [HSN.out]
        have := HB6.out
        unfold tabB
        dsimp only
        rw [pstr_small X1 (by omega)]
        rw [show wideN 2 = 2 from rfl] at this
        simpa using this
      case measure => simp [intOf]; omega
    · obtain rfl : j = tabs.length := by omega
      rw [List.take_length] at hv
      obtain ⟨vb, vc, rfl, hvb, hcv⟩ := Bts.conv hv (by simp)
      have HMR := Lib.hid hm; have HCV := Lib.hid hcv
      clear hv hm hcv hk
      have q1 : ∀ n, n = (UInt8.ofNat tabs.length :: tabs.flatMap tabB).length → (convert 118 9 (.slice (some ⟨vb, 0, none⟩) n vc)).run Tryz.prog wr = .ok (.string (str (UInt8.ofNat tabs.length :: tabs.flatMap tabB))) wr := HCV.out wr (Mod.refl _ _)
      generalize hZ : (UInt8.ofNat tabs.length :: tabs.flatMap tabB) = Z at *
      have q2 := q1 _ rfl
      clear q1
      go_wp2_with fail
      go_ret
      exact ⟨by rw [← hZ]; rfl, HMR.out⟩
end Go.Proofs.YtoffondipgjcoaaGreatDoor

/- The contracts of package base: Commit. -/
set_option linter.unusedVariables false
set_option maxRecDepth 100000
set_option linter.unusedSimpArgs false
namespace Go.Proofs.YtoffondipgjcoaaGreatDoor
open Go.RowKit

/-- what is asked of the work behind SetHead, that it may be committed -/
structure ComOK (W : Wk) : Prop where
  ok : WkOK W
  pg : PgOK W.G
  ch : ChgOK W.G.pages.length W.changes
  cl : W.changes.length ≤ 1000
set_option maxHeartbeats 2000000 in
theorem xcommit_c (t : Nat) (I : TxI) (X : Tx) (W1 W2 : Wk) (w : World) (h : TxR w t I X) (ho : X.over = false) (hst : X.stuck = false) (ho1 : W1.over = false) (hl : X.tabs.length ≤ 200) (hn : ∀ p ∈ X.tabs, p.1.length ≤ 8 ∧ p.2.1 < 1000000 ∧ p.2.2 < 1000000)
    (hh : X.W.setHead (headWr X.tabs) = (W1, 0)) (hhl : (headWr X.tabs).length ≤ 1000000000) (hok : ComOK W1) (hc : W1.commit = (W2, 0)) :
    Calls Tryz.prog 15 #[pt t] w fun x w' => x = .returned (.int .i64 0) ∧ TxP t I { X with W := W2, over := true, busy := false } w w' := by
  have HMY := Lib.hid (xmay_c t I X w h)
  rw [ho] at HMY
  have H := Lib.hid h; have HN := Lib.hid hn; have HH := Lib.hid hh; have HOK := Lib.hid hok; have HC := Lib.hid hc; have HHL := Lib.hid hhl; have HO1 := Lib.hid ho1
  clear h hn hh hok hc hhl ho1 ho
  go_enter Tryz.func15, Tryz.ntmps15
  go_wp2_with fail
  refine HMY.out.mono ?_
  rintro x w1 ⟨rfl, rfl⟩
  clear HMY
  go_wp2_with fail
  have hr0 := H.out.stay ((Mod.refl [] w).drew) (by simp)
  have HR0 := Lib.hid hr0
  have hS : (fun w' : World => w'.cell? ⟨t, 1, none⟩ = some (pt I.k) ∧ w'.cell? ⟨t, 2, none⟩ = some (.map (some I.m))) w.drew := ⟨hr0.cells.2.1, hr0.cells.2.2.1⟩
  clear hr0
  refine region_plan (n := 10) (fun w' : World => w'.cell? ⟨t, 1, none⟩ = some (pt I.k) ∧ w'.cell? ⟨t, 2, none⟩ = some (.map (some I.m))) [(true, 0), (true, 1), (true, 2), (true, 3), (true, 4), (true, 5), (true, 6), (true, 7), (false, 8), (false, 9)] Tryz.mixed (by kernel_rfl) hS ?_
  (apply Go.Proofs.YtoffondipgjcoaaGreatDoor.plan_q _ rfl hS; · (intro K hK w' hw'; (skip); go_simp; (first | exact hK | exact ⟨rfl, hK⟩)))
  (apply Go.Proofs.YtoffondipgjcoaaGreatDoor.plan_q _ rfl hS; · (intro K hK w' hw'; (skip); go_simp; (first | exact hK | exact ⟨rfl, hK⟩)))
  (apply Go.Proofs.YtoffondipgjcoaaGreatDoor.plan_q _ rfl hS; · (intro K hK w' hw'; (skip); go_simp; (first | exact hK | exact ⟨rfl, hK⟩)))
  (apply Go.Proofs.YtoffondipgjcoaaGreatDoor.plan_q _ rfl hS; · (intro K hK w' hw'; (have q : w'.cell? ⟨t, 1, none⟩ = some (pt I.k) := hw'.1); go_simp; (first | exact hK | exact ⟨rfl, hK⟩)))
  (apply Go.Proofs.YtoffondipgjcoaaGreatDoor.plan_q _ rfl hS; · (intro K hK w' hw'; (skip); go_simp; (first | exact hK | exact ⟨rfl, hK⟩)))
  (apply Go.Proofs.YtoffondipgjcoaaGreatDoor.plan_q _ rfl hS; · (intro K hK w' hw'; (skip); go_simp; (first | exact hK | exact ⟨rfl, hK⟩)))
  (apply Go.Proofs.YtoffondipgjcoaaGreatDoor.plan_q _ rfl hS; · (intro K hK w' hw'; (skip); go_simp; (first | exact hK | exact ⟨rfl, hK⟩)))
  (apply Go.Proofs.YtoffondipgjcoaaGreatDoor.plan_q _ rfl hS; · (intro K hK w' hw'; (have q : w'.cell? ⟨t, 2, none⟩ = some (.map (some I.m)) := hw'.2); go_simp; (first | exact hK | exact ⟨rfl, hK⟩)))
  refine plan_e rfl ?_
  go_wp2_with fail
  refine (bwrite_c I.m X.tabs w.drew HR0.out.map HR0.out.srt hl HN.out).mono ?_
  rintro x w2 ⟨rfl, hm2⟩
  have hr2 := HR0.out.stay hm2 (by simp)
  have HR2 := Lib.hid hr2
  have HM2 := Lib.hid ((Mod.refl [] w).drew.trans hm2 (by simp))
  have hS2 : (fun w' : World => w'.cell? ⟨t, 1, none⟩ = some (pt I.k) ∧ w'.cell? ⟨t, 2, none⟩ = some (.map (some I.m))) w2 := ⟨hr2.cells.2.1, hr2.cells.2.2.1⟩
  clear hm2 hr2
  go_wp2_with fail
  refine plan_n ⟨hS2, ?_⟩
  clear hS
  have hS := hS2
  clear hS2
  refine plan_e rfl ?_
  go_wp2_with fail
  refine (SetHead_c I.k I.J X.W (headWr X.tabs) w2 HR2.out.wk HHL.out).mono ?_
  rw [HH.out]
  rintro x w3 ⟨rfl, hp3⟩
  have hq : TxP t I { X with W := W1 } w2 w3 := TxP.ofWk HR2.out hp3
  obtain ⟨J3, hr3, hs3, hca3⟩ := hq
  have HR3 := Lib.hid hr3; have HS3 := Lib.hid ((Stp.pure HM2.out).trans hs3); have HCA3 := Lib.hid hca3
  have hS3 : (fun w' : World => w'.cell? ⟨t, 1, none⟩ = some (pt I.k) ∧ w'.cell? ⟨t, 2, none⟩ = some (.map (some I.m))) w3 := ⟨hr3.cells.2.1, hr3.cells.2.2.1⟩
  clear hp3 hr3 hs3 hca3
  go_wp2_with fail
  refine plan_n ⟨hS3, plan_t ?_⟩
  simp only [List.drop_succ_cons, List.drop_zero]
  clear hS hS3
  obtain ⟨-, c1, -, -, -⟩ := HR3.out.cells
  dsimp only at c1
  go_wp2_with fail
  refine (wCommit_c I.k J3 W1 w3 HR3.out.wk HO1.out HOK.out.ok HOK.out.pg HOK.out.ch HOK.out.cl).mono ?_
  rw [HC.out]
  rintro x w4 ⟨rfl, hp4⟩
  have hq : TxP t { I with J := J3 } { X with W := W2 } w3 w4 := TxP.ofWk (X := { X with W := W1 }) HR3.out hp4
  obtain ⟨J4, hr4, hs4, hca4⟩ := hq
  have HR4 := Lib.hid hr4; have HS4 := Lib.hid (HS3.out.trans hs4); have HCA4 := Lib.hid (hca4.trans HCA3.out)
  obtain ⟨c0, -⟩ := (hr4.stay ((Mod.refl [] w4).drew) (by simp)).cells
  obtain ⟨-, -, d2, gg⟩ := (hr4.stay ((Mod.refl [] w4).drew) (by simp)).base
  have g2 := gg 2
  dsimp only at c0 d2 g2
  clear hp4 hr4 hs4 hca4 gg c1
  go_wp2_with fail
  rw [hst] at d2
  (refine region_still_tail 17 Tryz.mixed (by kernel_rfl) ?_; simp only [List.take_succ_cons, List.take_zero, List.drop_succ_cons, List.drop_zero]; (iterate 17 still_step); refine wpStill_nil ?_)
  go_wp2_with fail
  have hm5 : Mod [t, I.b] w4 ((w4.setCell ⟨I.b, 2, none⟩ (.bool false)).drew) := ((Mod.refl _ _).setCell _ _ (.inl (by simp))).drew
  have hr5 := HR4.out.setTB (o := X.over) (bz := X.busy) (st := false) hm5 (hp_ne HR4.out.tx HR4.out.tb) (hp_set HR4.out.bs)
  generalize (w4.setCell ⟨I.b, 2, none⟩ (.bool false)).drew = w5 at *
  obtain ⟨J5, h5, hs5, hca5⟩ := hr5
  have HR5 := Lib.hid h5; have HS5 := Lib.hid (HS4.out.trans hs5); have HCA5 := Lib.hid (hca5.trans HCA4.out)
  clear hm5 h5 hs5 hca5 c0 d2 g2
  refine (end_c t _ _ w5 HR5.out).mono ?_
  rintro x w6 ⟨⟨v, rfl⟩, J6, h6, hs6, hca6⟩
  have HF : Hid (TxP t I { X with W := W2, over := true, busy := false } w w6) := Lib.hid ⟨J6, by rw [hst]; exact h6, HS5.out.trans hs6, hca6.trans HCA5.out⟩
  clear h6 hs6 hca6 hst
  go_wp2_with fail
  go_ret
  exact ⟨rfl, HF.out⟩
end Go.Proofs.YtoffondipgjcoaaGreatDoor

/- The contracts of package base: Sound over what the tree answers. -/
set_option linter.unusedVariables false
set_option maxRecDepth 100000
set_option linter.unusedSimpArgs false
namespace Go.Proofs.YtoffondipgjcoaaGreatDoor
open Go.RowKit

theorem TxR.lt {w : World} {t : Nat} {I : TxI} {X : Tx} (h : TxR w t I X) : ∀ b ∈ I.F t, b < w.heap.size := by
  intro b hm
  simp only [TxI.F, List.mem_cons] at hm
  rcases hm with rfl | rfl | rfl | hm
  · exact lt_of_block h.tx
  · exact lt_of_block h.bs
  · exact h.map.lt
  · exact h.wk.lt _ hm
theorem TxR.new {w : World} {t b : Nat} {I : TxI} {X : Tx} (h : TxR w t I X) (hb : w.heap.size ≤ b) : b ∉ I.F t := fun hm => by have := h.lt b hm; omega
theorem TxR.goWk {t : Nat} {I : TxI} {X : Tx} {W' : Wk} {J' : WkI} {w w' : World} (h : TxR w t I X) (hr : WkR w' I.k J' W') (hs : Stp (I.J.F I.k) (J'.F I.k) w w') (hca : J'.key = I.J.key) :
    TxR w' t { I with J := J' } { X with W := W' } ∧ Stp (I.F t) (({ I with J := J' } : TxI).F t) w w' := by
  have f1 := hs.far (b := t) ⟨lt_of_block h.tx, h.ft⟩
  have f2 := hs.far (b := I.b) ⟨lt_of_block h.bs, h.fb⟩
  have f3 := hs.far (b := I.m) ⟨h.map.lt, h.fm⟩
  refine ⟨⟨hs.at h.ft h.tx, ?_, hr, h.map.mod hs.mod h.fm, h.srt, h.tb, f1.2, f2.2, f3.2⟩, Stp.cons t (Stp.cons I.b (Stp.cons I.m hs))⟩
  show _ = some (Obj.cells #[pt J'.ca, _, _] _ _)
  rw [WkI.ca_of hca]
  exact hs.at h.fb h.bs
theorem Stp.fresh {F F' R : List Nat} {w w1 w' : World} (h : Stp F F' w w1) (hm : Mod R w1 w') (hR : ∀ x ∈ R, w.heap.size ≤ x) : Stp F F' w w' :=
  ⟨h.mod.trans hm (fun x hx => .inr (hR x hx)), h.sub⟩
def TSnd (k : Nat) (W : Wk) (root n : Nat) : Prop :=
  ∀ J w, WkR w k J W → Calls Tryz.prog 53 #[pt k, .int .i64 (root : Int)] w fun x w' => (∃ d, x = .returned (.tuple #[.int .i64 (n : Int), .int .i64 d, .bool true])) ∧ WkP k J W w w'
def TScn (k : Nat) (W : Wk) (root c : Nat) : Prop :=
  ∀ J w, WkR w k J W → Calls Tryz.prog 38 #[pt k, .int .i64 (root : Int), .string ⟨#[]⟩, .string ⟨#[]⟩] w fun x w' => ScP k J W c w x w'
set_option maxHeartbeats 4000000 in
theorem xsound_c (t : Nat) (I : TxI) (X : Tx) (f : Bytes × (Nat × Nat) → Nat) (w : World) (h : TxR w t I X) (ho : X.over = false) (hwo : X.W.over = false) (hl : X.tabs.length ≤ 200)
    (hs : ∀ p ∈ X.tabs, TSnd I.k X.W p.2.1 (f p) ∧ TScn I.k X.W p.2.1 p.2.2 ∧ f p ≤ 1000000) :
    Calls Tryz.prog 19 #[pt t] w fun x w' => x = .returned (.bool (decide (1 + (X.tabs.map f).sum = X.W.used))) ∧ TxP t I X w w' := by
  have HMY := Lib.hid (xmay_c t I X w h)
  rw [ho] at HMY
  have HS := Lib.hid hs
  obtain ⟨-, -, c2, -, -⟩ := h.cells
  obtain ⟨kv, hkv, hpk, hnk⟩ := h.map
  obtain ⟨w2, hrg, hit, hm2⟩ := run_range_any (P := Tryz.prog) 76 9 84 Tryz.underlying76 hkv
  have hrg' := all_range hrg
  have H := Lib.hid h; have HIT := Lib.hid hit; have HM2 := Lib.hid hm2; have HPK := Lib.hid hpk
  have hkl : kv.length = X.tabs.length := hpk.length_eq
  clear h hs hit hm2 hpk hrg hkv hnk ho
  go_enter Tryz.func19, Tryz.ntmps19
  go_wp2_with fail
  refine HMY.out.mono ?_
  rintro x w1 ⟨rfl, rfl⟩
  clear HMY
  go_wp2_with fail
  have hr2 := H.out.stay HM2.out (by simp)
  have hfar : w.heap.size ∉ I.F t := H.out.new (Nat.le_refl _)
  have HR2 := Lib.hid hr2; have HFA := Lib.hid hfar
  have hilt := HIT.out.lt.1
  clear hr2 hfar hrg' c2 hilt
  generalize hit0 : w.heap.size = it at HIT HFA ⊢
  have HIL : Hid (w.heap.size ≤ it) := Lib.hid (by omega)
  have hsum : ∀ dn lf : List (Bytes × (Nat × Nat)), (dn ++ lf).Perm kv → (dn.map f).sum ≤ 200000000 := by
    intro dn lf hp
    have h1 : ∀ l : List (Bytes × (Nat × Nat)), (∀ p ∈ l, f p ≤ 1000000) → (l.map f).sum ≤ 1000000 * l.length := by
      intro l
      induction l with
      | nil => intro _; simp
      | cons a l ih =>
        intro hq
        have h1 := ih (fun p hp => hq p (List.mem_cons_of_mem _ hp))
        have h2 := hq a List.mem_cons_self
        rw [List.map_cons, List.sum_cons, List.length_cons, Nat.mul_succ]
        omega
    have h2 := h1 dn (fun p hq => (HS.out p (HPK.out.mem_iff.1 (hp.mem_iff.1 (by simp [hq])))).2.2)
    have h3 := hp.length_eq
    rw [List.length_append] at h3
    omega
  have HSUM := Lib.hid hsum
  clear hsum hit0
  go_loopw [3] (fun u wr => ∃ dn lf J1, MIter strK tabV wr it I.m kv dn lf ∧ TxR wr t { I with J := J1 } X ∧ Stp (I.F t) (({ I with J := J1 } : TxI).F t) w wr ∧ J1.key = I.J.key ∧ it ∉ ({ I with J := J1 } : TxI).F t ∧ u = .int .i64 ((1 + (dn.map f).sum : Nat) : Int))
    (fun _ wr => kv.length - (wr.iterSeen it).size)
  case atStart => exact ⟨[], kv, I.J, HIT.out, HR2.out, Stp.pure HM2.out, rfl, HFA.out, rfl⟩
  case round =>
    obtain ⟨dn, lf, J1, hmi, hr, hst, hca, hfa, rfl⟩ := hrel
    rcases run_next_any' (P := Tryz.prog) 0 hmi with ⟨rfl, hnx⟩ | ⟨p, l1, l2, wa, rfl, hnx, hmi', hma⟩
    · have hnx' := all_next hnx
      have hpe : dn.Perm X.tabs := ((by simpa using hmi.perm : dn.Perm kv)).trans HPK.out
      have hse : (dn.map f).sum = (X.tabs.map f).sum := (hpe.map f).sum_nat
      rw [hse]
      obtain ⟨-, c1, -, -, -⟩ := hr.cells
      dsimp only at c1
      have HR := Lib.hid hr; have HST := Lib.hid hst; have HCA := Lib.hid hca
      have HUS := Lib.hid (Used_c I.k J1 X.W wr hr.wk hwo)
      clear hmi hr hst hca hfa hpe hse hnx
      generalize hU : (X.tabs.map f).sum = U at *
      have HU := Lib.hid hU
      clear hU
      go_wp2_with fail
      refine HUS.out.mono ?_
      rintro x w3 ⟨rfl, hm3⟩
      have HF : Hid (TxP t I X w w3) := Lib.hid ⟨J1, HR.out.stay hm3 (by simp), HST.out.trans (Stp.pure hm3), HCA.out⟩
      clear hm3
      have hbb : ((1 + (U : Int)) == (X.W.used : Int)) = decide (1 + U = X.W.used) := by
        rw [Bool.eq_iff_iff]; simp only [beq_iff_eq, decide_eq_true_eq]; omega
      have HBB := Lib.hid hbb
      clear hbb
      go_wp2_with fail
      go_ret
      refine ⟨?_, HF.out⟩
      rw [HU.out, ← HBB.out]
      rfl
    · have hnx' := all_next hnx
      have hen' := all_entry (run_entry_any (P := Tryz.prog) hmi')
      have hra := hr.stay hma (by simpa using hfa)
      have HSEEN := Lib.hid hmi.seen
      have hpm : p ∈ X.tabs := HPK.out.mem_iff.1 (hmi.perm.mem_iff.1 (by simp))
      have HP := Lib.hid (HS.out p hpm)
      have HMI := Lib.hid hmi'; have HRA := Lib.hid hra; have HST := Lib.hid hst; have HMA := Lib.hid hma; have HCA := Lib.hid hca; have HFI := Lib.hid hfa; have HPM := Lib.hid hmi.perm
      obtain ⟨pn, p1, p2⟩ := p
      dsimp only [tabV] at HP hnx' hen'
      clear hmi hmi' hr hra hst hma hca hfa hpm hnx
      go_wp2_with fail
      have hm3 : Mod [] wa (wa.alloc (Obj.cells #[.int .i64 (p1 : Int), .int .i64 (p2 : Int)] 84)) := (Mod.refl _ _).alloc _
      have hb3 := hp_new wa (Obj.cells #[.int .i64 (p1 : Int), .int .i64 (p2 : Int)] 84)
      generalize wa.alloc (Obj.cells #[.int .i64 (p1 : Int), .int .i64 (p2 : Int)] 84) = w3 at *
      have hb3' := ((Mod.refl [] w3).drew).at hb3 (by simp)
      have hr3 := HRA.out.stay hm3.drew (by simp)
      have hxn : wa.heap.size ∉ ({ I with J := J1 } : TxI).F t := HRA.out.new (Nat.le_refl _)
      have hS : (fun w' : World => w'.cell? ⟨t, 1, none⟩ = some (pt I.k) ∧ w'.cell? ⟨wa.heap.size, 0, none⟩ = some (.int .i64 (p1 : Int))) w3.drew := ⟨hr3.cells.2.1, (cells_of hb3').1 0⟩
      have HM3 := Lib.hid hm3; have HB3 := Lib.hid hb3'; have HR3 := Lib.hid hr3; have HXN := Lib.hid hxn
      clear hm3 hb3 hb3' hr3 hxn hnx' hen'
      refine region_plan (n := 13) (fun w' : World => w'.cell? ⟨t, 1, none⟩ = some (pt I.k) ∧ w'.cell? ⟨wa.heap.size, 0, none⟩ = some (.int .i64 (p1 : Int))) [(true, 0), (true, 1), (true, 2), (true, 3), (true, 4), (true, 5), (false, 6), (true, 7), (true, 8), (true, 9), (true, 10), (false, 11), (false, 12)] Tryz.mixed (by kernel_rfl) hS ?_
      (apply Go.Proofs.YtoffondipgjcoaaGreatDoor.plan_q _ rfl hS; · (intro K hK w' hw'; (skip); go_simp; (first | exact hK | exact ⟨rfl, hK⟩)))
      (apply Go.Proofs.YtoffondipgjcoaaGreatDoor.plan_q _ rfl hS; · (intro K hK w' hw'; (skip); go_simp; (first | exact hK | exact ⟨rfl, hK⟩)))
      (apply Go.Proofs.YtoffondipgjcoaaGreatDoor.plan_q _ rfl hS; · (intro K hK w' hw'; (skip); go_simp; (first | exact hK | exact ⟨rfl, hK⟩)))
      (apply Go.Proofs.YtoffondipgjcoaaGreatDoor.plan_q _ rfl hS; · (intro K hK w' hw'; (have q : w'.cell? ⟨t, 1, none⟩ = some (pt I.k) := hw'.1); go_simp; (first | exact hK | exact ⟨rfl, hK⟩)))
      (apply Go.Proofs.YtoffondipgjcoaaGreatDoor.plan_q _ rfl hS; · (intro K hK w' hw'; (skip); go_simp; (first | exact hK | exact ⟨rfl, hK⟩)))
      (apply Go.Proofs.YtoffondipgjcoaaGreatDoor.plan_q _ rfl hS; · (intro K hK w' hw'; (have q : w'.cell? ⟨wa.heap.size, 0, none⟩ = some (.int .i64 (p1 : Int)) := hw'.2); go_simp; (first | exact hK | exact ⟨rfl, hK⟩)))
      refine plan_e rfl ?_
      go_wp2_with fail
      refine (HP.out.1 J1 w3.drew HR3.out.wk).mono ?_
      rintro x w4 ⟨⟨d, rfl⟩, hp4⟩
      obtain ⟨J4, hw4, hsk4, hca4⟩ := hp4
      obtain ⟨hr4, hs4⟩ := HR3.out.goWk hw4 hsk4 hca4
      dsimp only at hr4 hs4
      have HMI4 := Lib.hid (((HMI.out.mod HM3.out.drew (by simp) (by simp))).mod hsk4.mod (fun hm => HFI.out (by simp [TxI.F, hm])) HRA.out.fm)
      have HFI4 := Lib.hid (hs4.far (b := it) ⟨(HMI.out.mod HM3.out.drew (by simp) (by simp)).lt.1, HFI.out⟩)
      have hb4 := hs4.mod.at HB3.out HXN.out
      have hf4 := hs4.far (b := wa.heap.size) ⟨lt_of_block HB3.out, HXN.out⟩
      have hS4 : (fun w' : World => w'.cell? ⟨t, 1, none⟩ = some (pt I.k) ∧ w'.cell? ⟨wa.heap.size, 0, none⟩ = some (.int .i64 (p1 : Int))) w4 := ⟨hr4.cells.2.1, (cells_of hb4).1 0⟩
      have HR4 := Lib.hid hr4; have HS4 := Lib.hid hs4; have HCA4 := Lib.hid (hca4.trans HCA.out); have HB4 := Lib.hid hb4; have HF4 := Lib.hid hf4
      clear hr4 hs4 hca4 hb4 hf4 hw4 hsk4
      go_wp2_with fail
      refine plan_n ⟨hS4, ?_⟩
      clear hS
      have hS := hS4
      clear hS4
      (apply Go.Proofs.YtoffondipgjcoaaGreatDoor.plan_q _ rfl hS; · (intro K hK w' hw'; (skip); go_simp; (first | exact hK | exact ⟨rfl, hK⟩)))
      (apply Go.Proofs.YtoffondipgjcoaaGreatDoor.plan_q _ rfl hS; · (intro K hK w' hw'; (skip); go_simp; (first | exact hK | exact ⟨rfl, hK⟩)))
      (apply Go.Proofs.YtoffondipgjcoaaGreatDoor.plan_q _ rfl hS; · (intro K hK w' hw'; (skip); go_simp; (first | exact hK | exact ⟨rfl, hK⟩)))
      (apply Go.Proofs.YtoffondipgjcoaaGreatDoor.plan_q _ rfl hS; · (intro K hK w' hw'; (skip); go_simp; (first | exact hK | exact ⟨rfl, hK⟩)))
      refine plan_e rfl ?_
      go_wp2_with fail
      refine plan_n ⟨hS, ?_⟩
      refine plan_e rfl ?_
      go_wp2_with fail
      refine plan_n ⟨hS, plan_t ?_⟩
      simp only [List.drop_succ_cons, List.drop_zero]
      clear hS
      go_wp2_with fail
      have hr5 := HR4.out.stay ((Mod.refl [] w4).drew) (by simp)
      have hb5 := ((Mod.refl [] w4).drew).at HB4.out (by simp)
      have hS : (fun w' : World => w'.cell? ⟨t, 1, none⟩ = some (pt I.k) ∧ w'.cell? ⟨wa.heap.size, 0, none⟩ = some (.int .i64 (p1 : Int))) w4.drew := ⟨hr5.cells.2.1, (cells_of hb5).1 0⟩
      have HR5 := Lib.hid hr5; have HB5 := Lib.hid hb5
      clear hr5 hb5
      refine region_plan (n := 11) (fun w' : World => w'.cell? ⟨t, 1, none⟩ = some (pt I.k) ∧ w'.cell? ⟨wa.heap.size, 0, none⟩ = some (.int .i64 (p1 : Int))) [(true, 0), (true, 1), (true, 2), (true, 3), (true, 4), (true, 5), (false, 6), (true, 7), (true, 8), (true, 9), (false, 10)] Tryz.mixed (by kernel_rfl) hS ?_
      (apply Go.Proofs.YtoffondipgjcoaaGreatDoor.plan_q _ rfl hS; · (intro K hK w' hw'; (skip); go_simp; (first | exact hK | exact ⟨rfl, hK⟩)))
      (apply Go.Proofs.YtoffondipgjcoaaGreatDoor.plan_q _ rfl hS; · (intro K hK w' hw'; (skip); go_simp; (first | exact hK | exact ⟨rfl, hK⟩)))
      (apply Go.Proofs.YtoffondipgjcoaaGreatDoor.plan_q _ rfl hS; · (intro K hK w' hw'; (skip); go_simp; (first | exact hK | exact ⟨rfl, hK⟩)))
      (apply Go.Proofs.YtoffondipgjcoaaGreatDoor.plan_q _ rfl hS; · (intro K hK w' hw'; (have q : w'.cell? ⟨t, 1, none⟩ = some (pt I.k) := hw'.1); go_simp; (first | exact hK | exact ⟨rfl, hK⟩)))
      (apply Go.Proofs.YtoffondipgjcoaaGreatDoor.plan_q _ rfl hS; · (intro K hK w' hw'; (skip); go_simp; (first | exact hK | exact ⟨rfl, hK⟩)))
      (apply Go.Proofs.YtoffondipgjcoaaGreatDoor.plan_q _ rfl hS; · (intro K hK w' hw'; (have q : w'.cell? ⟨wa.heap.size, 0, none⟩ = some (.int .i64 (p1 : Int)) := hw'.2); go_simp; (first | exact hK | exact ⟨rfl, hK⟩)))
      refine plan_e rfl ?_
      go_wp2_with fail
      refine (HP.out.2.1 J4 w4.drew HR5.out.wk).mono ?_
      rintro x w6 ⟨sa, sc, rfl, hp6⟩
      obtain ⟨J6, hw6, hsk6, hca6⟩ := hp6
      obtain ⟨hr6, hs6⟩ := HR5.out.goWk hw6 hsk6 hca6
      dsimp only at hr6 hs6
      have HMI6 := Lib.hid ((HMI4.out.mod ((Mod.refl [] w4).drew) (by simp) (by simp)).mod hsk6.mod (fun hm => HFI4.out.2 (by simp [TxI.F, hm])) HR4.out.fm)
      have HFI6 := Lib.hid (hs6.far (b := it) ⟨(HMI4.out.mod ((Mod.refl [] w4).drew) (by simp) (by simp)).lt.1, HFI4.out.2⟩)
      have hb6 := hs6.mod.at HB5.out HF4.out.2
      have hf6 := hs6.far (b := wa.heap.size) ⟨lt_of_block HB5.out, HF4.out.2⟩
      have hS6 : (fun w' : World => w'.cell? ⟨t, 1, none⟩ = some (pt I.k) ∧ w'.cell? ⟨wa.heap.size, 0, none⟩ = some (.int .i64 (p1 : Int))) w6 := ⟨hr6.cells.2.1, (cells_of hb6).1 0⟩
      have HR6 := Lib.hid hr6; have HS6 := Lib.hid hs6; have HCA6 := Lib.hid (hca6.trans HCA4.out); have HB6 := Lib.hid hb6
      clear hr6 hs6 hca6 hb6 hf6 hw6 hsk6
      go_wp2_with fail
      refine plan_n ⟨hS6, ?_⟩
      clear hS
      have hS := hS6
      clear hS6
      (apply Go.Proofs.YtoffondipgjcoaaGreatDoor.plan_q _ rfl hS; · (intro K hK w' hw'; (skip); go_simp; (first | exact hK | exact ⟨rfl, hK⟩)))
      (apply Go.Proofs.YtoffondipgjcoaaGreatDoor.plan_q _ rfl hS; · (intro K hK w' hw'; (skip); go_simp; (first | exact hK | exact ⟨rfl, hK⟩)))
      (apply Go.Proofs.YtoffondipgjcoaaGreatDoor.plan_q _ rfl hS; · (intro K hK w' hw'; (skip); go_simp; (first | exact hK | exact ⟨rfl, hK⟩)))
      refine plan_e rfl ?_
      go_wp2_with fail
      refine plan_n ⟨hS, plan_t ?_⟩
      simp only [List.drop_succ_cons, List.drop_zero]
      clear hS
      have c1 := (cells_of HB6.out).1 1
      have c1' : w6.cell? ⟨wa.heap.size, 1, none⟩ = some (.int .i64 (p2 : Int)) := c1
      clear c1
      have hfb : f (pn, p1, p2) ≤ 1000000 := HP.out.2.2
      have hsb : ((dn).map f).sum ≤ 200000000 := HSUM.out _ _ HPM.out
      generalize hU : (dn.map f).sum = U at *
      generalize hF : f (pn, p1, p2) = Fp at *
      have hwr : IntKind.i64.wrap (((1 + U : Nat) : Int) + (Fp : Int)) = ((1 + (U + Fp) : Nat) : Int) := by
        rw [show (((1 + U : Nat) : Int) + (Fp : Int)) = ((1 + (U + Fp) : Nat) : Int) from by omega]
        simp [IntKind.wrap, IntKind.bits, IntKind.signed]; omega
      have HU := Lib.hid hU; have HF := Lib.hid hF
      clear hU hF hfb hsb
      have HWR := Lib.hid hwr
      clear hwr
      go_wp2_with fail
      go_roundw
      case rel =>
        refine ⟨dn ++ [(pn, p1, p2)], l1 ++ l2, J6, HMI6.out, HR6.out, ?_, HCA6.out, HFI6.out.2, ?_⟩
        · exact ((((HST.out.fresh HMA.out (by rintro x hx; obtain rfl := List.mem_singleton.1 hx; exact HIL.out)).trans (Stp.pure HM3.out.drew)).trans HS4.out).trans (Stp.pure ((Mod.refl [] w4).drew))).trans HS6.out
        · rw [List.map_append, List.sum_append, HU.out]
          simp only [List.map_cons, List.map_nil, List.sum_cons, List.sum_nil, HF.out]
          congr 1
          rw [IntWalk.wrap64_in _ (by have := HSUM.out _ _ HPM.out; rw [HU.out] at this; have := HP.out.2.2; omega)]
          omega
      case measure =>
        have h1 := HSEEN.out
        have h2 := HMI6.out.seen
        simp only [List.length_append, List.length_cons, List.length_nil] at h1 h2
        omega
end Go.Proofs.YtoffondipgjcoaaGreatDoor
