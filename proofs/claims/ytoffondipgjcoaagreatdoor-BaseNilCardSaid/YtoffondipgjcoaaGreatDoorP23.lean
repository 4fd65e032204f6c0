/- Part 23 of 27 of the contracts below the law: each theorem states, of one function of the program, at a world of the form that its premises name, what the call answers and what it leaves. -/
import Derived.Test.YtoffondipgjcoaaGreatDoorP21
/- The contracts of package base: names; a transaction's rep; may, there, Make, end, Abort. -/
set_option linter.unusedVariables false
set_option maxRecDepth 100000
set_option linter.unusedSimpArgs false
namespace Go.Proofs.YtoffondipgjcoaaGreatDoor
open Go.RowKit

def oddR (r : Nat) : Bool := (decide (r < 97) || decide (122 < r)) && decide (r ≠ 95)
theorem right1_r (r : Nat) (w : World) :
    Calls Tryz.prog 88 #[encR r] w fun e w' => e = .returned (.bool (oddR r)) ∧ w = w' := by
  have hX : oddR r = ((decide ((r : Int) < 97) || decide ((122 : Int) < r)) && !((r : Int) == 95)) := by
    unfold oddR
    rw [Bool.eq_iff_iff]; simp; omega
  rw [hX]
  clear hX
  unfold encR
  generalize (r : Int) = n
  go_enter Tryz.func88, Tryz.ntmps88
  go_wp2_with fail
  all_goals go_ret
  all_goals refine ⟨?_, rfl⟩
  all_goals first | (simp [bne]; done) | (simp [bne]; omega) | (simp_all [bne]; done) | (simp_all [bne]; omega)
theorem enters_rt1 : ∀ args w, (callFunc 88 args).run Tryz.prog w = .ok (.enter 88 args) w := enters_of Tryz.func88 (by kernel_rfl) rfl
def rightB (s : Bytes) : Bool := !s.isEmpty && decide (s.length ≤ 8) && !decide (0 ≤ Lib.idxFunc oddR true (str s))
theorem bright_c (s : Bytes) (w : World) :
    Calls Tryz.prog 41 #[.string (str s)] w fun e w' => e = .returned (.bool (rightB s)) ∧ Mod [] w w' := by
  have HC := Lib.hid (Tryz.strings_ContainsFunc 88 #[] enters_rt1 oddR (str s) w (fun W x hb => (right1_r x W).mono fun e w' ⟨he, hw⟩ => ⟨he, 0, hw.symm⟩))
  have hss := str_size s
  have HV := Lib.hid (show rightB s = (!s.isEmpty && decide (s.length ≤ 8) && !decide (0 ≤ Lib.idxFunc oddR true (str s))) from rfl)
  generalize decide (0 ≤ Lib.idxFunc oddR true (str s)) = B at *
  by_cases h0 : s = []
  · subst h0
    rw [HV.out]
    have hst : str [] = ⟨#[]⟩ := rfl
    rw [hst]
    clear HC HV hss hst
    go_enter Tryz.func41, Tryz.ntmps41
    go_wp2_with fail
    go_ret
    exact ⟨rfl, Mod.refl _ _⟩
  · have htl := str_toList s
    have hem : s.isEmpty = false := by simpa using h0
    rw [HV.out, hem]
    generalize str s = S at *
    by_cases h8 : s.length ≤ 8
    · have h8' : (S.size : Int) ≤ 8 := by omega
      have e8 : decide (s.length ≤ 8) = true := by simpa using h8
      rw [e8]
      clear HV hss
      go_enter Tryz.func41, Tryz.ntmps41
      go_wp2_with fail
      refine HC.out.mono ?_
      rintro e w1 ⟨rfl, hm⟩
      have HM := Lib.hid (Mod.ofBelow (R := []) hm)
      clear hm
      go_wp2_with fail
      go_ret
      exact ⟨by simp, HM.out⟩
    · have h8' : ¬ (S.size : Int) ≤ 8 := by omega
      have e8 : decide (s.length ≤ 8) = false := by simpa using h8
      rw [e8]
      clear HV HC
      go_enter Tryz.func41, Tryz.ntmps41
      go_wp2_with fail
      go_ret
      exact ⟨by simp, Mod.refl _ _⟩
theorem keyOK_bytes {P : Program} {K : TypeId} (h : P.underlying K = some .string) : KeyOK P K (fun s : Bytes => .string (str s)) := by
  have hk := keyOK_str h
  obtain ⟨⟨d, h1, h2⟩, h3, h4⟩ := hk
  refine ⟨⟨d, h1, fun a b => ?_⟩, fun e a w => h3 e _ w, fun a => h4 _⟩
  rw [h2]
  congr 1
  rw [decide_eq_decide]
  exact ⟨fun h => str_inj h, fun h => by rw [h]⟩
abbrev strK : Bytes → Value := fun s => .string (str s)
def tabV (x : Nat × Nat) : Value := .agg #[.int .i64 (x.1 : Int), .int .i64 (x.2 : Int)]
structure TxI where
  b : Nat
  k : Nat
  m : Nat
  J : WkI
def TxI.F (I : TxI) (t : Nat) : List Nat := t :: I.b :: I.m :: I.J.F I.k
/-- The transaction at t (without notes). -/
structure TxR (w : World) (t : Nat) (I : TxI) (X : Tx) : Prop where
  tx : w.heap[t]? = some (.cells #[pt I.b, pt I.k, .map (some I.m), .slice none 0 0, .bool X.over] 82 (0, 0))
  bs : w.heap[I.b]? = some (.cells #[pt I.J.ca, .bool X.busy, .bool X.stuck] 72 (0, 0))
  wk : WkR w I.k I.J X.W
  map : MapP strK tabV w I.m X.tabs
  srt : Srt blt X.tabs
  tb : t ≠ I.b
  ft : t ∉ I.J.F I.k
  fb : I.b ∉ I.J.F I.k
  fm : I.m ∉ I.J.F I.k
def TxP (t : Nat) (I : TxI) (X : Tx) (w w' : World) : Prop := ∃ J', TxR w' t { I with J := J' } X ∧ Stp (I.F t) (({ I with J := J' } : TxI).F t) w w' ∧ J'.key = I.J.key
theorem TxR.mt {w : World} {t : Nat} {I : TxI} {X : Tx} (h : TxR w t I X) : I.m ≠ t := h.map.ne h.tx
theorem TxR.mb {w : World} {t : Nat} {I : TxI} {X : Tx} (h : TxR w t I X) : I.m ≠ I.b := h.map.ne h.bs
theorem TxR.stay {w w' : World} {t : Nat} {I : TxI} {X : Tx} {R : List Nat} (h : TxR w t I X) (hm : Mod R w w') (hR : ∀ b ∈ R, b ∉ I.F t) : TxR w' t I X := by
  have hn : ∀ b, b ∈ I.F t → b ∉ R := fun b hb hr => hR b hr hb
  refine ⟨hm.at h.tx (hn _ (by simp [TxI.F])), hm.at h.bs (hn _ (by simp [TxI.F])), h.wk.stay hm (fun b hb hf => hn b (by simp [TxI.F, hf]) hb), h.map.mod hm (hn _ (by simp [TxI.F])), h.srt, h.tb, h.ft, h.fb, h.fm⟩
theorem TxP.refl {t : Nat} {I : TxI} {X : Tx} {w w' : World} (h : TxR w t I X) (hm : Mod [] w w') : TxP t I X w w' := ⟨I.J, h.stay hm (by simp), Stp.pure hm, rfl⟩
theorem TxP.ofWk {t : Nat} {I : TxI} {X : Tx} {W' : Wk} {w w' : World} (h : TxR w t I X) (hp : WkP I.k I.J W' w w') : TxP t I { X with W := W' } w w' := by
  obtain ⟨J', hr, hs, hca⟩ := hp
  have f1 := hs.far (b := t) ⟨lt_of_block h.tx, h.ft⟩
  have f2 := hs.far (b := I.b) ⟨lt_of_block h.bs, h.fb⟩
  have f3 := hs.far (b := I.m) ⟨h.map.lt, h.fm⟩
  refine ⟨J', ⟨hs.at h.ft h.tx, ?_, hr, h.map.mod hs.mod h.fm, h.srt, h.tb, f1.2, f2.2, f3.2⟩, Stp.cons t (Stp.cons I.b (Stp.cons I.m hs)), hca⟩
  show _ = some (Obj.cells #[pt J'.ca, _, _] _ _)
  rw [WkI.ca_of hca]
  exact hs.at h.fb h.bs
theorem TxP.trans {t : Nat} {I : TxI} {X X' : Tx} {w w1 w' : World} (h : TxP t I X w w1) (k : ∀ J', TxR w1 t { I with J := J' } X → TxP t { I with J := J' } X' w1 w') : TxP t I X' w w' := by
  obtain ⟨J', hr, hs, hca⟩ := h
  obtain ⟨J2, hr2, hs2, hca2⟩ := k J' hr
  exact ⟨J2, hr2, hs.trans hs2, hca2.trans hca⟩
theorem TxP.pre {t : Nat} {I : TxI} {X : Tx} {w0 w w' : World} (h : TxP t I X w w') (hm : Mod [] w0 w) : TxP t I X w0 w' := by
  obtain ⟨J', hr, hs, hca⟩ := h
  exact ⟨J', hr, (Stp.pure hm).trans hs, hca⟩
theorem TxP.post {t : Nat} {I : TxI} {X : Tx} {w w1 w' : World} (h : TxP t I X w w1) (hm : Mod [] w1 w') : TxP t I X w w' := by
  obtain ⟨J', hr, hs, hca⟩ := h
  exact ⟨J', hr.stay hm (by simp), hs.trans (Stp.pure hm), hca⟩
theorem TxR.cells {w : World} {t : Nat} {I : TxI} {X : Tx} (h : TxR w t I X) :
    w.cell? ⟨t, 0, none⟩ = some (pt I.b) ∧ w.cell? ⟨t, 1, none⟩ = some (pt I.k) ∧ w.cell? ⟨t, 2, none⟩ = some (.map (some I.m)) ∧ w.cell? ⟨t, 4, none⟩ = some (.bool X.over) ∧ ∀ j, w.frozen? ⟨t, j, none⟩ = false := by
  obtain ⟨c, f⟩ := cells_of h.tx
  exact ⟨c 0, c 1, c 2, c 4, f⟩
theorem xmay_c (t : Nat) (I : TxI) (X : Tx) (w : World) (h : TxR w t I X) :
    Calls Tryz.prog 40 #[pt t] w fun e w' => e = .returned (.int .i64 (if X.over then 13 else 0)) ∧ w = w' := by
  obtain ⟨-, -, -, c4, -⟩ := h.cells
  clear h
  cases ho : X.over with
  | true =>
    rw [ho] at c4
    go_enter Tryz.func40, Tryz.ntmps40
    go_wp2_with fail
    go_ret
    exact ⟨rfl, rfl⟩
  | false =>
    rw [ho] at c4
    go_enter Tryz.func40, Tryz.ntmps40
    go_wp2_with fail
    go_ret
    exact ⟨rfl, rfl⟩
end Go.Proofs.YtoffondipgjcoaaGreatDoor

/- The contracts of package base: there, Make. -/
set_option linter.unusedVariables false
set_option maxRecDepth 100000
set_option linter.unusedSimpArgs false
namespace Go.Proofs.YtoffondipgjcoaaGreatDoor
open Go.RowKit

theorem zero_table (w : World) : (zeroValue 84).run Tryz.prog w = .ok (tabV (0, 0)) w := by
  have hz : (Tryz.prog.info? 84).map (·.zero) = some (some (tabV (0, 0))) := by kernel_rfl
  cases hq : Tryz.prog.info? 84 with
  | none => simp [hq] at hz
  | some i => simp [hq] at hz; simp [zeroValue, typeInfo, hq, hz]
theorem look_tab {w : World} {r : Nat} {m : Tabs} (h : MapP strK tabV w r m) (s : Bytes) (x : Option (Nat × Nat)) (hx : alook m s = x) :
    ∀ b : Nat, b = r → (Instr.lookup 76 (.map (some b)) (.string (str s)) true).run Tryz.prog w = .ok (.tuple #[tabV (x.getD (0, 0)), .bool x.isSome]) w := by
  rintro b rfl
  have h1 := run_lookup_mapP (P := Tryz.prog) 76 84 Tryz.underlying76 (keyOK_bytes Tryz.underlying9) (tabV (0, 0)) zero_table h s true
  rw [hx] at h1
  rw [show (if (true : Bool) = true then Value.tuple #[(x.map tabV).getD (tabV (0, 0)), .bool x.isSome] else (x.map tabV).getD (tabV (0, 0))) = .tuple #[(x.map tabV).getD (tabV (0, 0)), .bool x.isSome] from rfl] at h1
  rw [show tabV (x.getD (0, 0)) = (x.map tabV).getD (tabV (0, 0)) from by cases x <;> rfl]
  exact h1
set_option maxHeartbeats 1000000 in
theorem xthere_c (t : Nat) (I : TxI) (X : Tx) (name : Bytes) (x : Nat × Nat) (w : World) (h : TxR w t I X) (ho : X.over = false) (hx : alook X.tabs name = some x) :
    Calls Tryz.prog 36 #[pt t, .string (str name)] w fun e w' => e = .returned (.tuple #[tabV x, .int .i64 0]) ∧ Mod [] w w' := by
  have HMY := Lib.hid (xmay_c t I X)
  have H := Lib.hid h; have HX := Lib.hid hx
  have hlo := (h.cells.2.2.1)
  clear h hx hlo
  obtain ⟨x1, x2⟩ := x
  go_enter Tryz.func36, Tryz.ntmps36
  go_wp2_with fail
  have hm0 : Mod [] w (w.alloc (Obj.cells #[.int .i64 0, .int .i64 0] 84)) := (Mod.refl _ _).alloc _
  have hb0 := hp_new w (Obj.cells #[.int .i64 0, .int .i64 0] 84)
  generalize w.alloc (Obj.cells #[.int .i64 0, .int .i64 0] 84) = w1 at *
  have HR := Lib.hid (H.out.stay hm0 (by simp)); have HM0 := Lib.hid hm0; have HB0 := Lib.hid hb0
  clear hm0 hb0
  refine (HMY.out w1 HR.out).mono ?_
  rw [ho]
  rintro e w2 ⟨rfl, rfl⟩
  obtain ⟨-, -, c2, -, -⟩ := HR.out.cells
  have hlk := look_tab HR.out.map name _ HX.out I.m rfl
  dsimp only [tabV, Option.getD, Option.isSome] at hlk ⊢
  clear HMY
  go_wp2_with (with_reducible refine stop_dst 7 rfl ?_)
  refine Stop.go ?_
  have HLK := Lib.hid hlk
  clear hlk
  obtain ⟨cb, fb⟩ := cells_of HB0.out
  have c0 : w1.cell? ⟨w.heap.size, 0, none⟩ = some (.int .i64 0) := cb 0
  have c1 : w1.cell? ⟨w.heap.size, 1, none⟩ = some (.int .i64 0) := cb 1
  have f0 := fb 0; have f1 := fb 1
  have hlt := lt_of_block HB0.out
  clear cb fb
  go_wp2_with fail
  exact bodyPost_ret (v := .tuple #[tabV (x1, x2), .int .i64 0]) (by simp [results, Tryz.results36, go_sem, c0, c1, f0, f1, hlt, tabV]) rfl ⟨rfl, ((HM0.out.setCell _ _ (.inr (Nat.le_refl _))).setCell _ _ (.inr (Nat.le_refl _))).alloc _⟩
theorem TxR.setM {w w' : World} {t : Nat} {I : TxI} {X : Tx} {m' : Tabs} (h : TxR w t I X) (hm : Mod [I.m] w w') (hp : MapP strK tabV w' I.m m') (hs : Srt blt m') : TxP t I { X with tabs := m' } w w' :=
  ⟨I.J, ⟨hm.at h.tx (by simpa using h.mt.symm), hm.at h.bs (by simpa using h.mb.symm), h.wk.stay hm (by simpa using h.fm), hp, hs, h.tb, h.ft, h.fb, h.fm⟩, Stp.of hm (by simp [TxI.F]), rfl⟩
set_option maxHeartbeats 1000000 in
theorem Make_c (t : Nat) (I : TxI) (X : Tx) (name : Bytes) (w : World) (h : TxR w t I X) (ho : X.over = false) (hx : alook X.tabs name = none) (hr : rightB name = true) (hl : X.tabs.length < 12) :
    Calls Tryz.prog 11 #[pt t, .string (str name)] w fun e w' => e = .returned (.int .i64 0) ∧ TxP t I { X with tabs := sput blt name (0, 0) X.tabs } w w' := by
  have HMY := Lib.hid (xmay_c t I X w h)
  rw [ho] at HMY
  have hlk := look_tab h.map name _ hx I.m rfl
  dsimp only [tabV, Option.getD, Option.isSome] at hlk
  have H := Lib.hid h; have HX := Lib.hid hx; have HLK := Lib.hid hlk
  have HRT := Lib.hid (bright_c name); rw [hr] at HRT
  obtain ⟨-, -, c2, -, -⟩ := h.cells
  clear h hx hlk
  go_enter Tryz.func11, Tryz.ntmps11
  go_wp2_with fail
  refine HMY.out.mono ?_
  rintro e w1 ⟨rfl, rfl⟩
  clear HMY
  have hlk := HLK.out
  have hz : IntKind.i64.wrap 0 = 0 := rfl
  go_wp2_with (with_reducible refine stop_dst 6 rfl ?_)
  refine Stop.go ?_
  clear hlk c2
  have hm2 : Mod [] w (w.alloc (Obj.cells #[.int .i64 0, .int .i64 0] 84)) := (Mod.refl _ _).alloc _
  have h2 := H.out.stay hm2 (by simp)
  have HM2 := Lib.hid hm2; have H2 := Lib.hid h2
  clear hm2 h2 hr
  go_wp2_with fail
  refine (HRT.out _).mono ?_
  rintro e w3 ⟨rfl, hm3⟩
  have h3 := H2.out.stay hm3 (by simp)
  obtain ⟨-, -, c2, -, -⟩ := h3.cells
  have hln := len_mapP (P := Tryz.prog) 76 _ _ Tryz.underlying76 h3.map 3
  have hl' : ((X.tabs.length : Nat) : Int) < 12 := by omega
  have hge : ¬ (12 : Int) ≤ (X.tabs.length : Nat) := by omega
  have H3 := Lib.hid h3; have HM3 := Lib.hid (HM2.out.trans hm3 (by simp))
  clear h3 hm3 HRT HLK H2 HM2 hl
  go_wp2_with (with_reducible refine stop_map _ _ _ _ rfl ?_)
  refine Stop.go ?_
  refine wpList_mapUpdateP rfl 76 84 _ _ _ rfl Tryz.underlying76 (keyOK_bytes Tryz.underlying9) (enc := tabV) blt blt_ord I.m X.tabs name (0, 0) rfl rfl rfl H3.out.map H3.out.srt ?_
  intro w4 hm4 hmp4 hz4
  have HF := Lib.hid ((H3.out.setM hm4 hmp4 (H3.out.srt.sput blt_ord)).pre HM3.out)
  clear hm4 hmp4 hz4
  go_wp2_with fail
  go_ret
  exact ⟨rfl, HF.out⟩
end Go.Proofs.YtoffondipgjcoaaGreatDoor

/- The contracts of package base: Get, Put over what the tree answers. -/
set_option linter.unusedVariables false
set_option maxRecDepth 100000
set_option linter.unusedSimpArgs false
namespace Go.Proofs.YtoffondipgjcoaaGreatDoor
open Go.RowKit

/-- what tree.Get answers over W -/
def TGet (k : Nat) (W : Wk) (root : Nat) (key v : Bytes) (ok : Bool) (e : Nat) : Prop :=
  ∀ J w, WkR w k J W → Calls Tryz.prog 37 #[pt k, .int .i64 (root : Int), .string (str key)] w fun x w' => x = .returned (.tuple #[.string (str v), .bool ok, .int .i64 (e : Int)]) ∧ WkP k J W w w'
/-- what tree.Put answers over W, and leaves -/
def TPut (k : Nat) (W : Wk) (root : Nat) (key value : Bytes) (root' e : Nat) (W' : Wk) : Prop :=
  ∀ J w, WkR w k J W → Calls Tryz.prog 43 #[pt k, .int .i64 (root : Int), .string (str key), .string (str value)] w fun x w' => x = .returned (.tuple #[.int .i64 (root' : Int), .int .i64 (e : Int)]) ∧ WkP k J W' w w'
set_option maxHeartbeats 1000000 in
theorem xget_c (t : Nat) (I : TxI) (X : Tx) (name key v : Bytes) (ok : Bool) (e root cnt : Nat) (w : World) (h : TxR w t I X) (ho : X.over = false) (hx : alook X.tabs name = some (root, cnt)) (hg : TGet I.k X.W root key v ok e) :
    Calls Tryz.prog 7 #[pt t, .string (str name), .string (str key)] w fun x w' => x = .returned (.tuple #[.string (str v), .bool ok, .int .i64 (e : Int)]) ∧ TxP t I X w w' := by
  have HTH := Lib.hid (xthere_c t I X name (root, cnt) w h ho hx)
  have H := Lib.hid h; have HG := Lib.hid hg
  clear h hx hg
  go_enter Tryz.func7, Tryz.ntmps7
  go_wp2_with fail
  refine HTH.out.mono ?_
  rintro x w1 ⟨rfl, hm1⟩
  have HM1 := Lib.hid hm1
  dsimp only [tabV]
  clear hm1 HTH
  go_wp2_with (with_reducible refine stop_dst 9 rfl ?_)
  refine Stop.go ?_
  have hm2 : Mod [] w (w1.alloc (Obj.cells #[.int .i64 (root : Int), .int .i64 (cnt : Int)] 84)) := HM1.out.alloc _
  have hb2 := hp_new w1 (Obj.cells #[.int .i64 (root : Int), .int .i64 (cnt : Int)] 84)
  have HM2 := Lib.hid hm2; have HB2 := Lib.hid hb2
  clear hm2 hb2
  go_wp2_with fail
  generalize w1.alloc (Obj.cells #[.int .i64 (root : Int), .int .i64 (cnt : Int)] 84) = w2 at *
  have hr2 := H.out.stay HM2.out (by simp)
  have hS : (fun w' : World => w'.cell? ⟨t, 1, none⟩ = some (pt I.k) ∧ w'.cell? ⟨w1.heap.size, 0, none⟩ = some (.int .i64 (root : Int))) w2.drew :=
    ⟨(hr2.stay ((Mod.refl [] w2).drew) (by simp)).cells.2.1, (cells_of (((Mod.refl [] w2).drew).at HB2.out (by simp))).1 0⟩
  have HR2 := Lib.hid hr2
  clear hr2
  refine region_plan (n := 12) (fun w' : World => w'.cell? ⟨t, 1, none⟩ = some (pt I.k) ∧ w'.cell? ⟨w1.heap.size, 0, none⟩ = some (.int .i64 (root : Int))) [(true, 0), (true, 1), (true, 2), (true, 3), (true, 4), (true, 5), (true, 6), (false, 7), (true, 8), (true, 9), (true, 10), (false, 11)] Tryz.mixed (by kernel_rfl) hS ?_
  (apply Go.Proofs.YtoffondipgjcoaaGreatDoor.plan_q _ rfl hS; · (intro K hK w' hw'; (skip); go_simp; (first | exact hK | exact ⟨rfl, hK⟩)))
  (apply Go.Proofs.YtoffondipgjcoaaGreatDoor.plan_q _ rfl hS; · (intro K hK w' hw'; (skip); go_simp; (first | exact hK | exact ⟨rfl, hK⟩)))
  (apply Go.Proofs.YtoffondipgjcoaaGreatDoor.plan_q _ rfl hS; · (intro K hK w' hw'; (skip); go_simp; (first | exact hK | exact ⟨rfl, hK⟩)))
  (apply Go.Proofs.YtoffondipgjcoaaGreatDoor.plan_q _ rfl hS; · (intro K hK w' hw'; (have q : w'.cell? ⟨t, 1, none⟩ = some (pt I.k) := hw'.1); go_simp; (first | exact hK | exact ⟨rfl, hK⟩)))
  (apply Go.Proofs.YtoffondipgjcoaaGreatDoor.plan_q _ rfl hS; · (intro K hK w' hw'; (skip); go_simp; (first | exact hK | exact ⟨rfl, hK⟩)))
  (apply Go.Proofs.YtoffondipgjcoaaGreatDoor.plan_q _ rfl hS; · (intro K hK w' hw'; (have q : w'.cell? ⟨w1.heap.size, 0, none⟩ = some (.int .i64 (root : Int)) := hw'.2); go_simp; (first | exact hK | exact ⟨rfl, hK⟩)))
  (apply Go.Proofs.YtoffondipgjcoaaGreatDoor.plan_q _ rfl hS; · (intro K hK w' hw'; (skip); go_simp; (first | exact hK | exact ⟨rfl, hK⟩)))
  refine plan_e rfl ?_
  go_wp2_with fail
  have hr3 := HR2.out.stay ((Mod.refl [] w2).drew) (by simp)
  refine (HG.out I.J w2.drew hr3.wk).mono ?_
  rintro x w4 ⟨rfl, hp4⟩
  have hq : TxP t I X w2.drew w4 := TxP.ofWk hr3 hp4
  have HF := Lib.hid (hq.pre ((HM2.out).drew))
  obtain ⟨J4, hr4, -, -⟩ := hq
  obtain ⟨J5, hw5, hs5, -⟩ := hp4
  have hb4 : w1.heap.size ∉ I.J.F I.k := fun hm => by
    have h1 := HR2.out.wk.lt _ hm
    have h0 := H.out.wk.lt _ hm
    have := HM1.out.size
    omega
  have hS4 : (fun w' : World => w'.cell? ⟨t, 1, none⟩ = some (pt I.k) ∧ w'.cell? ⟨w1.heap.size, 0, none⟩ = some (.int .i64 (root : Int))) w4 :=
    ⟨hr4.cells.2.1, (cells_of (hs5.mod.at (((Mod.refl [] w2).drew).at HB2.out (by simp)) hb4)).1 0⟩
  clear hr3 hr4 hw5 hs5 hb4
  go_wp2_with fail
  refine plan_n ⟨hS4, ?_⟩
  clear hS
  have hS := hS4
  clear hS4
  (apply Go.Proofs.YtoffondipgjcoaaGreatDoor.plan_q _ rfl hS; · (intro K hK w' hw'; (skip); go_simp; (first | exact hK | exact ⟨rfl, hK⟩)))
  (apply Go.Proofs.YtoffondipgjcoaaGreatDoor.plan_q _ rfl hS; · (intro K hK w' hw'; (skip); go_simp; (first | exact hK | exact ⟨rfl, hK⟩)))
  (apply Go.Proofs.YtoffondipgjcoaaGreatDoor.plan_q _ rfl hS; · (intro K hK w' hw'; (skip); go_simp; (first | exact hK | exact ⟨rfl, hK⟩)))
  refine plan_e rfl ?_
  go_wp2_with fail
  refine plan_n ⟨hS, plan_t ?_⟩
  simp only [List.drop_succ_cons, List.drop_zero]
  clear hS
  go_wp2_with fail
  go_ret3
  exact ⟨rfl, HF.out⟩
theorem look_tab1 {w : World} {r : Nat} {m : Tabs} (h : MapP strK tabV w r m) (s : Bytes) (x1 x2 : Nat) (hx : alook m s = some (x1, x2)) :
    ∀ b : Nat, b = r → (Instr.lookup 76 (.map (some b)) (.string (str s)) false).run Tryz.prog w = .ok (.agg #[.int .i64 (x1 : Int), .int .i64 (x2 : Int)]) w := by
  rintro b rfl
  have h1 := run_lookup_mapP (P := Tryz.prog) 76 84 Tryz.underlying76 (keyOK_bytes Tryz.underlying9) (tabV (0, 0)) zero_table h s false
  rw [hx] at h1
  exact h1
set_option maxHeartbeats 2000000 in
theorem xput_c (t : Nat) (I : TxI) (X : Tx) (name key value v : Bytes) (ok : Bool) (root cnt root' : Nat) (W' : Wk) (w : World) (h : TxR w t I X) (ho : X.over = false) (hx : alook X.tabs name = some (root, cnt)) (hcn : cnt ≤ 1000000)
    (hg : TGet I.k X.W root key v ok 0) (hp : TPut I.k X.W root key value root' 0 W') :
    Calls Tryz.prog 13 #[pt t, .string (str name), .string (str key), .string (str value)] w fun x w' => x = .returned (.int .i64 0) ∧
      TxP t I { X with W := W', tabs := sput blt name (root', if ok then cnt else cnt + 1) X.tabs } w w' := by
  have HGE := Lib.hid (xget_c t I X name key v ok 0 root cnt w h ho hx hg)
  have HX := Lib.hid hx; have HP := Lib.hid hp
  clear h hx hg hp
  go_enter Tryz.func13, Tryz.ntmps13
  go_wp2_with fail
  refine HGE.out.mono ?_
  rintro x w1 ⟨rfl, J1, hr1, hs1, hca1⟩
  obtain ⟨-, -, c2, -, -⟩ := hr1.cells
  dsimp only at c2
  have hlk := look_tab1 hr1.map name root cnt HX.out I.m rfl
  have HR1 := Lib.hid hr1; have HS1 := Lib.hid hs1; have HCA1 := Lib.hid hca1
  clear hr1 hs1 hca1 HGE
  go_wp2_with (with_reducible refine stop_dst 12 rfl ?_)
  refine Stop.go ?_
  have hm2 : Mod [] w1 (w1.alloc (Obj.cells #[.int .i64 (root : Int), .int .i64 (cnt : Int)] 84)) := (Mod.refl _ _).alloc _
  have hb2 := hp_new w1 (Obj.cells #[.int .i64 (root : Int), .int .i64 (cnt : Int)] 84)
  have HM2 := Lib.hid hm2; have HB2 := Lib.hid hb2
  clear hm2 hb2 hlk c2
  go_wp2_with fail
  generalize w1.alloc (Obj.cells #[.int .i64 (root : Int), .int .i64 (cnt : Int)] 84) = w2 at *
  have hr2 := HR1.out.stay (HM2.out.drew) (by simp)
  have hb2 := ((Mod.refl [] w2).drew).at HB2.out (by simp)
  have HR2 := Lib.hid hr2; have HB2' := Lib.hid hb2
  have hS : (fun w' : World => w'.cell? ⟨t, 1, none⟩ = some (pt I.k) ∧ w'.cell? ⟨w1.heap.size, 0, none⟩ = some (.int .i64 (root : Int))) w2.drew := ⟨hr2.cells.2.1, (cells_of hb2).1 0⟩
  clear hr2 hb2
  refine region_plan (n := 13) (fun w' : World => w'.cell? ⟨t, 1, none⟩ = some (pt I.k) ∧ w'.cell? ⟨w1.heap.size, 0, none⟩ = some (.int .i64 (root : Int))) [(true, 0), (true, 1), (true, 2), (true, 3), (true, 4), (true, 5), (true, 6), (true, 7), (false, 8), (true, 9), (true, 10), (true, 11), (false, 12)] Tryz.mixed (by kernel_rfl) hS ?_
  (apply Go.Proofs.YtoffondipgjcoaaGreatDoor.plan_q _ rfl hS; · (intro K hK w' hw'; (skip); go_simp; (first | exact hK | exact ⟨rfl, hK⟩)))
  (apply Go.Proofs.YtoffondipgjcoaaGreatDoor.plan_q _ rfl hS; · (intro K hK w' hw'; (skip); go_simp; (first | exact hK | exact ⟨rfl, hK⟩)))
  (apply Go.Proofs.YtoffondipgjcoaaGreatDoor.plan_q _ rfl hS; · (intro K hK w' hw'; (skip); go_simp; (first | exact hK | exact ⟨rfl, hK⟩)))
  (apply Go.Proofs.YtoffondipgjcoaaGreatDoor.plan_q _ rfl hS; · (intro K hK w' hw'; (have q : w'.cell? ⟨t, 1, none⟩ = some (pt I.k) := hw'.1); go_simp; (first | exact hK | exact ⟨rfl, hK⟩)))
  (apply Go.Proofs.YtoffondipgjcoaaGreatDoor.plan_q _ rfl hS; · (intro K hK w' hw'; (skip); go_simp; (first | exact hK | exact ⟨rfl, hK⟩)))
  (apply Go.Proofs.YtoffondipgjcoaaGreatDoor.plan_q _ rfl hS; · (intro K hK w' hw'; (have q : w'.cell? ⟨w1.heap.size, 0, none⟩ = some (.int .i64 (root : Int)) := hw'.2); go_simp; (first | exact hK | exact ⟨rfl, hK⟩)))
  (apply Go.Proofs.YtoffondipgjcoaaGreatDoor.plan_q _ rfl hS; · (intro K hK w' hw'; (skip); go_simp; (first | exact hK | exact ⟨rfl, hK⟩)))
  (apply Go.Proofs.YtoffondipgjcoaaGreatDoor.plan_q _ rfl hS; · (intro K hK w' hw'; (skip); go_simp; (first | exact hK | exact ⟨rfl, hK⟩)))
  refine plan_e rfl ?_
  go_wp2_with fail
  refine (HP.out J1 w2.drew HR2.out.wk).mono ?_
  rintro x w4 ⟨rfl, hp4⟩
  have hq : TxP t { I with J := J1 } { X with W := W' } w2.drew w4 := TxP.ofWk HR2.out hp4
  obtain ⟨J4, hr4, hs4, hca4⟩ := hq
  dsimp only at hr4 hs4 hca4
  have hb4 : w1.heap.size ∉ ({ I with J := J1 } : TxI).F t := fun hm => by
    have h1 := HR1.out.wk.lt
    have h2 := lt_of_block HR1.out.tx
    have h3 := lt_of_block HR1.out.bs
    have h4 := HR1.out.map.lt
    simp only [TxI.F, List.mem_cons] at hm
    rcases hm with hm | hm | hm | hm
    · omega
    · dsimp only at h3; omega
    · dsimp only at h4; omega
    · have := h1 _ hm; omega
  have hb4' := hs4.mod.at HB2'.out hb4
  have hf4 := hs4.far (b := w1.heap.size) ⟨lt_of_block HB2'.out, hb4⟩
  have hS4 : (fun w' : World => w'.cell? ⟨t, 1, none⟩ = some (pt I.k) ∧ w'.cell? ⟨w1.heap.size, 0, none⟩ = some (.int .i64 (root : Int))) w4 := ⟨hr4.cells.2.1, (cells_of hb4').1 0⟩
  have HR4 := Lib.hid hr4; have HST := Lib.hid ((HS1.out.trans (Stp.pure HM2.out.drew)).trans hs4); have HCA := Lib.hid (hca4.trans HCA1.out); have HB4 := Lib.hid hb4'; have HF4 := Lib.hid hf4
  clear hp4 hr4 hs4 hca4 hb4 hb4' hf4
  go_wp2_with fail
  refine plan_n ⟨hS4, ?_⟩
  clear hS
  have hS := hS4
  clear hS4
  (apply Go.Proofs.YtoffondipgjcoaaGreatDoor.plan_q _ rfl hS; · (intro K hK w' hw'; (skip); go_simp; (first | exact hK | exact ⟨rfl, hK⟩)))
  (apply Go.Proofs.YtoffondipgjcoaaGreatDoor.plan_q _ rfl hS; · (intro K hK w' hw'; (skip); go_simp; (first | exact hK | exact ⟨rfl, hK⟩)))
  (apply Go.Proofs.YtoffondipgjcoaaGreatDoor.plan_q _ rfl hS; · (intro K hK w' hw'; (skip); go_simp; (first | exact hK | exact ⟨rfl, hK⟩)))
  refine plan_e rfl ?_
  go_wp2_with fail
  refine plan_n ⟨hS, plan_t ?_⟩
  simp only [List.drop_succ_cons, List.drop_zero]
  clear hS
  obtain ⟨cb, fb⟩ := cells_of HB4.out
  have c0 : w4.cell? ⟨w1.heap.size, 0, none⟩ = some (.int .i64 (root : Int)) := cb 0
  have c1 : w4.cell? ⟨w1.heap.size, 1, none⟩ = some (.int .i64 (cnt : Int)) := cb 1
  have f0 := fb 0; have f1 := fb 1
  clear cb fb
  have hwr : IntKind.i64.wrap ((cnt : Int) + 1) = ((cnt + 1 : Nat) : Int) := by rw [show ((cnt : Int) + 1) = ((cnt + 1 : Nat) : Int) from by omega]; simp [IntKind.wrap, IntKind.bits, IntKind.signed]; omega
  have fin : ∀ (cnt' : Nat) (w5 : World), w5.heap[w1.heap.size]? = some (Obj.cells #[.int .i64 (root' : Int), .int .i64 (cnt' : Int)] 84) → Mod [w1.heap.size] w4 w5 →
      TxR w5.drew t { I with J := J4 } { X with W := W' } ∧ Stp (I.F t) (({ I with J := J4 } : TxI).F t) w w5.drew := by
    intro cnt' w5 hb5 hm5
    have hx := HS1.out.mod.size
    exact ⟨HR4.out.stay hm5.drew (by rintro b hb; obtain rfl := List.mem_singleton.1 hb; exact HF4.out.2),
      ⟨HST.out.mod.trans hm5.drew (by rintro b hb; obtain rfl := List.mem_singleton.1 hb; exact .inr hx), HST.out.sub⟩⟩
  have HFIN := Lib.hid fin
  clear hcn fin ho
  cases ok with
  | true =>
    go_wp2_with fail
    clear c0 c1 f0 f1 hwr
    have hm5 : Mod [w1.heap.size] w4 (w4.setCell ⟨w1.heap.size, 0, none⟩ (.int .i64 (root' : Int))) := (Mod.refl _ _).setCell _ _ (.inl (by simp))
    have hb5 := hp_set (i := 0) (v := .int .i64 (root' : Int)) HB4.out
    generalize w4.setCell ⟨w1.heap.size, 0, none⟩ (.int .i64 (root' : Int)) = w5 at *
    obtain ⟨hr5, hs5⟩ := HFIN.out cnt w5 hb5 hm5
    obtain ⟨-, -, c2, -, -⟩ := hr5.cells
    dsimp only at c2
    obtain ⟨cb, fb⟩ := cells_of (((Mod.refl [] w5).drew).at hb5 (by simp))
    have c0 : w5.drew.cell? ⟨w1.heap.size, 0, none⟩ = some (.int .i64 (root' : Int)) := cb 0
    have c1 : w5.drew.cell? ⟨w1.heap.size, 1, none⟩ = some (.int .i64 (cnt : Int)) := cb 1
    have HR5 := Lib.hid hr5; have HS5 := Lib.hid hs5
    clear hm5 hb5 hr5 hs5 cb fb
    (refine region_still_tail 6 Tryz.mixed (by kernel_rfl) ?_; simp only [List.take_succ_cons, List.take_zero, List.drop_succ_cons, List.drop_zero]; (iterate 6 still_step); refine wpStill_nil ?_)
    go_wp2_with (with_reducible refine stop_map _ _ _ _ rfl ?_)
    refine Stop.go ?_
    refine wpList_mapUpdateP rfl 76 84 _ _ _ rfl Tryz.underlying76 (keyOK_bytes Tryz.underlying9) (enc := tabV) blt blt_ord I.m X.tabs name (root', cnt) rfl rfl rfl HR5.out.map HR5.out.srt ?_
    intro w6 hm6 hmp6 hz6
    obtain ⟨J7, hr7, hs7, hca7⟩ := HR5.out.setM hm6 hmp6 (HR5.out.srt.sput blt_ord)
    have HF : Hid (TxP t I { X with W := W', tabs := sput blt name (root', cnt) X.tabs } w w6) := Lib.hid ⟨J7, hr7, HS5.out.trans hs7, hca7.trans HCA.out⟩
    clear hm6 hmp6 hz6 hr7 hs7 hca7
    go_wp2_with fail
    go_ret
    exact ⟨rfl, HF.out⟩
  | false =>
    go_wp2_with fail
    have hcc : ((cnt : Int) + 1) = ((cnt + 1 : Nat) : Int) := by omega
    rw [hcc]
    clear c0 c1 f0 f1 hwr hcc
    have hm5 : Mod [w1.heap.size] w4 ((w4.setCell ⟨w1.heap.size, 1, none⟩ (.int .i64 ((cnt + 1 : Nat) : Int))).setCell ⟨w1.heap.size, 0, none⟩ (.int .i64 (root' : Int))) := ((Mod.refl _ _).setCell _ _ (.inl (by simp))).setCell _ _ (.inl (by simp))
    have hb5 := hp_set (i := 0) (v := .int .i64 (root' : Int)) (hp_set (i := 1) (v := .int .i64 ((cnt + 1 : Nat) : Int)) HB4.out)
    generalize (w4.setCell ⟨w1.heap.size, 1, none⟩ (.int .i64 ((cnt + 1 : Nat) : Int))).setCell ⟨w1.heap.size, 0, none⟩ (.int .i64 (root' : Int)) = w5 at *
    generalize hcq : cnt + 1 = cnt1 at *
    obtain ⟨hr5, hs5⟩ := HFIN.out cnt1 w5 hb5 hm5
    obtain ⟨-, -, c2, -, -⟩ := hr5.cells
    dsimp only at c2
    obtain ⟨cb, fb⟩ := cells_of (((Mod.refl [] w5).drew).at hb5 (by simp))
    have c0 : w5.drew.cell? ⟨w1.heap.size, 0, none⟩ = some (.int .i64 (root' : Int)) := cb 0
    have c1 : w5.drew.cell? ⟨w1.heap.size, 1, none⟩ = some (.int .i64 (cnt1 : Int)) := cb 1
    have HR5 := Lib.hid hr5; have HS5 := Lib.hid hs5
    clear hm5 hb5 hr5 hs5 cb fb
    (refine region_still_tail 6 Tryz.mixed (by kernel_rfl) ?_; simp only [List.take_succ_cons, List.take_zero, List.drop_succ_cons, List.drop_zero]; (iterate 6 still_step); refine wpStill_nil ?_)
    go_wp2_with (with_reducible refine stop_map _ _ _ _ rfl ?_)
    refine Stop.go ?_
    refine wpList_mapUpdateP rfl 76 84 _ _ _ rfl Tryz.underlying76 (keyOK_bytes Tryz.underlying9) (enc := tabV) blt blt_ord I.m X.tabs name (root', cnt1) rfl rfl rfl HR5.out.map HR5.out.srt ?_
    intro w6 hm6 hmp6 hz6
    obtain ⟨J7, hr7, hs7, hca7⟩ := HR5.out.setM hm6 hmp6 (HR5.out.srt.sput blt_ord)
    have HF : Hid (TxP t I { X with W := W', tabs := sput blt name (root', cnt1) X.tabs } w w6) := Lib.hid ⟨J7, hr7, HS5.out.trans hs7, hca7.trans HCA.out⟩
    clear hm6 hmp6 hz6 hr7 hs7 hca7
    go_wp2_with fail
    go_ret
    simp only [Bool.false_eq_true, if_false]
    exact ⟨rfl, HF.out⟩
end Go.Proofs.YtoffondipgjcoaaGreatDoor

/- The contracts of package base: end, Abort, Commit. -/
set_option linter.unusedVariables false
set_option maxRecDepth 100000
set_option linter.unusedSimpArgs false
namespace Go.Proofs.YtoffondipgjcoaaGreatDoor
open Go.RowKit

theorem TxR.base {w : World} {t : Nat} {I : TxI} {X : Tx} (h : TxR w t I X) :
    w.cell? ⟨I.b, 0, none⟩ = some (pt I.J.ca) ∧ w.cell? ⟨I.b, 1, none⟩ = some (.bool X.busy) ∧ w.cell? ⟨I.b, 2, none⟩ = some (.bool X.stuck) ∧ ∀ j, w.frozen? ⟨I.b, j, none⟩ = false := by
  obtain ⟨c, f⟩ := cells_of h.bs
  exact ⟨c 0, c 1, c 2, f⟩
/-- cells of the transaction and of the base are set -/
theorem TxR.setTB {w w' : World} {t : Nat} {I : TxI} {X : Tx} {o bz st : Bool} (h : TxR w t I X) (hm : Mod [t, I.b] w w')
    (ht : w'.heap[t]? = some (.cells #[pt I.b, pt I.k, .map (some I.m), .slice none 0 0, .bool o] 82 (0, 0))) (hb : w'.heap[I.b]? = some (.cells #[pt I.J.ca, .bool bz, .bool st] 72 (0, 0))) :
    TxP t I { X with over := o, busy := bz, stuck := st } w w' := by
  refine ⟨I.J, ⟨ht, hb, h.wk.stay hm (fun x hx => ?_), h.map.mod hm ?_, h.srt, h.tb, h.ft, h.fb, h.fm⟩, Stp.of hm (by simp [TxI.F]), rfl⟩
  · simp only [List.mem_cons, List.not_mem_nil, or_false] at hx
    rcases hx with rfl | rfl
    · exact h.ft
    · exact h.fb
  · simp only [List.mem_cons, List.not_mem_nil, or_false, not_or]
    exact ⟨h.mt, h.mb⟩
theorem end_c (t : Nat) (I : TxI) (X : Tx) (w : World) (h : TxR w t I X) :
    Calls Tryz.prog 49 #[pt t] w fun x w' => (∃ v, x = .returned v) ∧ TxP t I { X with over := true, busy := false } w w' := by
  obtain ⟨c0, -, -, c4, ff⟩ := h.cells
  obtain ⟨-, d1, -, gg⟩ := h.base
  have f4 := ff 4; have g1 := gg 1
  have hne : (I.b = t) = False := eq_false (fun e => h.tb e.symm)
  have hne' : (t = I.b) = False := eq_false h.tb
  have hm : Mod [t, I.b] w ((w.setCell ⟨t, 4, none⟩ (.bool true)).setCell ⟨I.b, 1, none⟩ (.bool false)) := ((Mod.refl _ _).setCell _ _ (.inl (by simp))).setCell _ _ (.inl (by simp))
  have hf := h.setTB hm (o := true) (bz := false) (st := X.stuck) (hp_ne (hp_set h.tx) h.tb) (hp_set (hp_ne h.bs (fun e => h.tb e.symm)))
  have hb1 : t ≠ I.b := h.tb
  have HF := Lib.hid hf
  clear hf h hm ff gg
  go_enter Tryz.func49, Tryz.ntmps49
  go_wp2_with fail
  go_end0
  exact ⟨⟨_, rfl⟩, HF.out⟩
theorem Abort_c (t : Nat) (I : TxI) (X : Tx) (w : World) (h : TxR w t I X) (ho : X.over = false) :
    Calls Tryz.prog 16 #[pt t] w fun x w' => x = .returned (.int .i64 0) ∧ TxP t I { X with over := true, busy := false } w w' := by
  have HMY := Lib.hid (xmay_c t I X w h)
  rw [ho] at HMY
  have HE := Lib.hid (end_c t I X w h)
  clear h ho
  go_enter Tryz.func16, Tryz.ntmps16
  go_wp2_with fail
  refine HMY.out.mono ?_
  rintro x w1 ⟨rfl, rfl⟩
  clear HMY
  go_wp2_with fail
  refine HE.out.mono ?_
  rintro x w2 ⟨⟨v, rfl⟩, hp⟩
  have HF := Lib.hid hp
  clear hp HE
  go_wp2_with fail
  go_ret
  exact ⟨rfl, HF.out⟩
end Go.Proofs.YtoffondipgjcoaaGreatDoor
