/- Part 20 of 27 of the contracts below the law: each theorem states, of one function of the program, at a world of the form that its premises name, what the call answers and what it leaves. -/
import Derived.Test.YtoffondipgjcoaaGreatDoorP18
import Derived.Test.YtoffondipgjcoaaGreatDoorP19
import Derived.Test.YtoffondipgjcoaaGreatDoorP15
/- The contracts of package space: changes. -/
set_option linter.unusedVariables false
set_option maxRecDepth 100000
set_option linter.unusedSimpArgs false
namespace Go.Proofs.YtoffondipgjcoaaGreatDoor
open Go.RowKit

theorem WkR.lt {w : World} {k : Nat} {J : WkI} {W : Wk} (h : WkR w k J W) : ∀ b ∈ J.F k, b < w.heap.size := by
  intro b hb
  rcases List.mem_append.1 hb with hb | hb
  · simp only [WkI.own, List.mem_cons, List.mem_append, Option.mem_toList] at hb
    rcases hb with h1 | h1 | h1 | h1
    · subst h1; exact lt_of_block h.at_
    · subst h1; exact h.map.lt
    · obtain ⟨cs, h2⟩ := h.row b h1; exact lt_of_block h2
    · obtain ⟨es, n, h2⟩ := h.maps b (by simp [h1]); exact lt_of_block h2
  · rcases h.ca.kinds b hb with h1 | ⟨cs, T, f, h1, _⟩
    · obtain ⟨es, n, h2⟩ := h.ca.mapBlk b h1; exact lt_of_block h2
    · exact lt_of_block h1
/-- A row of blocks from B on that the owner of F does not touch. -/
structure FarRow (w : World) (F : List Nat) (B e k : Nat) (v : Value) (n : Nat) (xs : List Value) : Prop where
  own : w.ownsRow B e k v n xs
  far : ∀ b, v.ownBlock = some b → Far w F b
theorem FarRow.stp {w w' : World} {F F' : List Nat} {B e k n : Nat} {v : Value} {xs : List Value} (h : FarRow w F B e k v n xs) (hs : Stp F F' w w') : FarRow w' F' B e k v n xs :=
  ⟨own_mod h.own hs.mod (fun b hb => (h.far b hb).2), fun b hb => hs.far (h.far b hb)⟩
theorem FarRow.mod0 {w w' : World} {F : List Nat} {B e k n : Nat} {v : Value} {xs : List Value} (h : FarRow w F B e k v n xs) (hm : Mod [] w w') : FarRow w' F B e k v n xs := h.stp (Stp.pure hm)
theorem FarRow.nil (w : World) (F : List Nat) (B e k : Nat) : FarRow w F B e k (.slice none 0 0) 0 [] := ⟨⟨by simp, .inl ⟨rfl, rfl⟩⟩, fun b hb => by simp [Value.ownBlock] at hb⟩
theorem FarRow.grew {w w' : World} {F : List Nat} {B e k n n' : Nat} {v v' : Value} {xs xs' : List Value} (h : FarRow w F B e k v n xs) (hF : ∀ b ∈ F, b < w.heap.size) (hg : Grew w w' v v') (ho : w'.ownsRow B e k v' n' xs') : FarRow w' F B e k v' n' xs' :=
  ⟨ho, fun b hb => ⟨(own_lt ho b hb).2, fun hm => (hg.place b hb).elim (fun h1 => (h.far b h1).2 hm) (fun h1 => by have := hF b hm; omega)⟩⟩
theorem FarRow.rest {w w' : World} {F : List Nat} {B e k n : Nat} {v v' : Value} {xs : List Value} (h : FarRow w F B e k v n xs) (hg : Grew w w' v v') : ∀ b ∈ v.ownBlock.toList, b ∉ F := fun b hb => (h.far b (by simpa using hb)).2
/-- another row that does not lie in v's block -/
theorem FarRow.other {w w' : World} {F : List Nat} {B e k n : Nat} {v x x' : Value} {xs : List Value} (h : FarRow w F B e k v n xs) (hF : ∀ b ∈ F, b < w.heap.size) (hg : Grew w w' x x') (hn : ∀ b, v.ownBlock = some b → x.ownBlock ≠ some b) : FarRow w' F B e k v n xs :=
  ⟨own_mod h.own hg.mod (fun b hb => by rw [Option.mem_toList]; exact hn b hb), fun b hb => ⟨Nat.lt_of_lt_of_le (h.far b hb).1 hg.mod.size, (h.far b hb).2⟩⟩
/-- F's owner has gone on from w; a row of blocks from w on has grown. -/
theorem Stp.grew {F F' : List Nat} {w wr w' : World} {B e k n : Nat} {v v' : Value} {xs : List Value} (h : Stp F F' w wr) (hB : w.heap.size ≤ B) (ho : wr.ownsRow B e k v n xs) (hg : Grew wr w' v v') : Stp F F' w w' :=
  ⟨h.mod.trans hg.mod (fun x hx => .inr (Nat.le_trans hB (own_lt ho x (by simpa using hx)).1)), h.sub⟩
/-- What holds of a work's pages. -/
structure WkOK (W : Wk) : Prop where
  head : W.now.head.length = 236
  pg : ∀ p ∈ W.now.pages, 1 ≤ p.1 ∧ p.1 < W.G.pages.length ∧ p.2.length = 256
  gp : ∀ s ∈ W.G.pages, s.length = 256
  plen : W.now.pages.length ≤ 1000
/-- the changes of the first pages -/
def chgs (W : Wk) (l : List (Int × List UInt8)) : List Chg := (l.filter fun p => isU W.now.used p.1.toNat && decide (W.G.pages.getD p.1.toNat [] ≠ p.2)).map fun p => (p.1.toNat, p.2)
theorem chgs_snoc (W : Wk) (l : List (Int × List UInt8)) (p : Int × List UInt8) : chgs W (l ++ [p]) = chgs W l ++ (if (isU W.now.used p.1.toNat && decide (W.G.pages.getD p.1.toNat [] ≠ p.2)) = true then [(p.1.toNat, p.2)] else []) := by
  unfold chgs
  rw [List.filter_append, List.map_append]
  congr 1
  by_cases hc : (isU W.now.used p.1.toNat && decide (W.G.pages.getD p.1.toNat [] ≠ p.2)) = true
  · rw [if_pos hc, List.filter_cons, if_pos hc]; rfl
  · rw [if_neg hc, List.filter_cons, if_neg hc]; rfl
theorem changes_eq (W : Wk) : W.changes = (if W.G.pages.getD 0 [] ≠ W.first then [(0, W.first)] else []) ++ chgs W W.now.pages := rfl
theorem chgs_len (W : Wk) (l : List (Int × List UInt8)) : (chgs W l).length ≤ l.length := by unfold chgs; rw [List.length_map]; exact List.length_filter_le _ _
theorem flatChg_app (l m : List Chg) : (l ++ m).flatMap chgc = l.flatMap chgc ++ m.flatMap chgc := by simp
/-- what changes leaves -/
def ChP (k : Nat) (J : WkI) (W : Wk) (w : World) (e : Ending) (w' : World) : Prop :=
  ∃ v J', e = .returned v ∧ WkR w' k J' W ∧ Stp (J.F k) (J'.F k) w w' ∧ J'.key = J.key ∧ FarRow w' (J'.F k) w.heap.size 233 2 v W.changes.length (W.changes.flatMap chgc)
theorem Tryz.i_chg : (Tryz.prog.info? 233).map (fun i => (i.zero, i.size, i.bytes)) = some (some (.agg #[.int .i64 0, .string ⟨#[]⟩]), 2, 24) := by kernel_rfl
set_option maxHeartbeats 4000000 in
theorem changes_c (k : Nat) (J : WkI) (W : Wk) (w : World) (h : WkR w k J W) (hok : WkOK W) :
    Calls Tryz.prog 103 #[pt k] w fun e w' => ChP k J W w e w' := by
  have hn1 := h.n1
  obtain ⟨s0, hs0⟩ : ∃ s, W.G.pages[0]? = some s := ⟨_, List.getElem?_eq_getElem (by omega)⟩
  obtain ⟨c0, -, -, -, -⟩ := h.cells
  have H := Lib.hid h; have HOK := Lib.hid hok; have HS0 := Lib.hid hs0
  have HG0 := Lib.hid (show W.G.pages.getD 0 [] = s0 from by rw [List.getD_eq_getElem?_getD, hs0]; rfl)
  have HRD := Lib.hid (cRead_c J.ca J.I W.G 0 s0 w h.ca hs0)
  clear h hok hs0
  go_enter Tryz.func103, Tryz.ntmps103
  go_wp2_with fail
  refine HRD.out.mono ?_
  rintro e w1 ⟨rfl, I1, hc1, hd1, hs1⟩
  obtain ⟨hr1, hst1⟩ := H.out.cache hs1 hc1 rfl
  have HR1 := Lib.hid hr1; have HST1 := Lib.hid hst1
  clear hc1 hs1 hr1 hst1 HRD c0
  go_wp2_with fail
  refine (first_c k _ W w1 HR1.out (by rw [HOK.out.head]; omega)).mono ?_
  rintro e w2 ⟨rfl, hm2⟩
  have HR2 := Lib.hid (HR1.out.stay hm2 (by simp)); have HST2 := Lib.hid (HST1.out.trans (Stp.pure hm2))
  clear hm2 HR1 HST1
  have hca1 : ({ J with I := I1 } : WkI).key = J.key := WkI.key_I hd1
  generalize ({ J with I := I1 } : WkI) = J1 at *
  have HCA := Lib.hid hca1
  clear hca1
  have htf := str_toList W.first
  have hts := str_toList s0
  by_cases hE : s0 = W.first
  · have hb : (s0 == W.first) = true := by simpa using hE
    have HL0 := Lib.hid (show W.changes = [] ++ chgs W W.now.pages from by rw [changes_eq, HG0.out, if_neg (by simpa using hE)])
    clear hE
    have hrow := FarRow.nil w2 (J1.F k) w.heap.size 233 2
    have HR4 := Lib.hid HR2.out; have HST4 := Lib.hid HST2.out
    have HROW := Lib.hid (show FarRow w2 (J1.F k) w.heap.size 233 2 (.slice none 0 0) ([] : List Chg).length (([] : List Chg).flatMap chgc) from hrow)
    have c22 := HR2.out.cells.2.2.2.1
    clear hrow HR2 HST2
    generalize hLL : ([] : List Chg) = L0 at *
    have hll : L0.length ≤ 1 := by rw [← hLL]; simp
    clear hLL
    generalize w2 = w4 at *
    go_wp2_with fail
    clear htf hts hb
    refine (keysI_c (some J1.m) w4).mono ?_
    rintro e w5 ⟨rfl, hw5⟩
    have hm5 : Mod [] w4 w5 := by subst hw5; exact (Mod.refl _ _).alloc _
    have hb5 : w5.heap[w4.heap.size]? = some (.cells #[.map (some J1.m)] 130 (0, 0)) := by subst hw5; exact hp_new _ _
    clear hw5 c22
    go_wp2_with fail
    refine (sortedI_c J1.m w4.heap.size W.now.pages w5 (HR4.out.map.mod hm5 (by simp)) HR4.out.srt (fun p hp => by have := HOK.out.pg p hp; have := H.out.n2; omega) (by have := HOK.out.plen; omega) ((cells_of hb5).1 0) (lt_of_block hb5)).mono ?_
    rintro e w6 ⟨vk, rfl, hok6, hm6⟩
    obtain ⟨ka, kc, rfl⟩ := own_form hok6
    have hm46 := hm5.trans hm6 (by simp)
    have hkey : FarRow w6 (J1.F k) w.heap.size 3 1 (.slice ka W.now.pages.length kc) W.now.pages.length ((W.now.pages.map (·.1)).map fun n => .int .i64 n) :=
      ⟨own_rebase hok6 (fun b hb => Nat.le_trans (HST4.out.trans (Stp.pure hm5)).mod.size (own_lt hok6 b hb).1), fun b hb => ⟨(own_lt hok6 b hb).2, fun hm => by have := HR4.out.lt b hm; have := (own_lt hok6 b hb).1; have := hm5.size; omega⟩⟩
    have HKEY := Lib.hid hkey
    have HR6 := Lib.hid (HR4.out.stay hm46 (by simp)); have HST6 := Lib.hid (HST4.out.trans (Stp.pure hm46)); have HROW6 := Lib.hid (HROW.out.mod0 hm46)
    have hpl := HOK.out.plen
    clear hm5 hb5 hok6 hm6 hm46 hkey
    go_wp2_with fail
    go_loopw [3, 36] (fun v i wr => ∃ (j : Nat) (J2 : WkI), j ≤ W.now.pages.length ∧ i = .int .i64 j ∧ WkR wr k J2 W ∧ Stp (J.F k) (J2.F k) w wr ∧ Hid (J2.key = J.key) ∧
        FarRow wr (J2.F k) w.heap.size 233 2 v (L0 ++ chgs W (W.now.pages.take j)).length ((L0 ++ chgs W (W.now.pages.take j)).flatMap chgc) ∧
        FarRow wr (J2.F k) w.heap.size 3 1 (.slice ka W.now.pages.length kc) W.now.pages.length ((W.now.pages.map (·.1)).map fun n => .int .i64 n)) (fun _ i _ => W.now.pages.length - (intOf i).toNat)
    case atStart => exact ⟨0, J1, Nat.zero_le _, rfl, HR6.out, HST6.out, HCA, by simpa [chgs] using HROW6.out, HKEY.out⟩
    case round =>
      obtain ⟨j, J2, hj, rfl, hr, hst, HC2, hrow, hky⟩ := hrel
      by_cases hlt : j < W.now.pages.length
      · have hpj := HOK.out.pg _ (List.getElem_mem hlt)
        have hgj : W.now.pages[j]? = some W.now.pages[j] := List.getElem?_eq_getElem hlt
        have hX : (W.now.pages.take (j + 1)) = W.now.pages.take j ++ [W.now.pages[j]] := List.take_succ_eq_append_getElem hlt
        have hal : alook W.now.pages W.now.pages[j].1 = some W.now.pages[j].2 := (alook_mem (hr.srt.nodup ilt_ord)).2 (List.getElem_mem hlt)
        obtain ⟨ka', kc', hv, hrd, hkb⟩ := RdS.ofOwn hky.own (by omega)
        cases hv
        have hc : ∃ b off, ka = some ⟨b, off, none⟩ ∧ wr.cell? ⟨b, off + j, none⟩ = some (.int .i64 W.now.pages[j].1) := by
          obtain ⟨b, off, hb, hcc⟩ := hrd.cell (by omega)
          refine ⟨b, off, hb, ?_⟩
          rw [hcc j (by omega), List.getElem?_map, List.getElem?_map, hgj]; rfl
        obtain ⟨b, off, rfl, hc0⟩ := hc
        generalize W.now.pages[j] = X at *
        obtain ⟨X1, X2⟩ := X
        dsimp only at *
        obtain ⟨x1, rfl⟩ := Int.eq_ofNat_of_zero_le (show 0 ≤ X1 by omega)
        obtain ⟨s1, hs1⟩ : ∃ s, W.G.pages[x1]? = some s := ⟨_, List.getElem?_eq_getElem (by omega)⟩
        have hg1 : W.G.pages.getD x1 [] = s1 := by rw [List.getD_eq_getElem?_getD, hs1]; rfl
        have hsn : chgs W (W.now.pages.take (j + 1)) = chgs W (W.now.pages.take j) ++ (if (isU W.now.used x1 && decide (s1 ≠ X2)) = true then [(x1, X2)] else []) := by
          rw [hX, chgs_snoc]; simp only [Int.toNat_natCast, hg1]
        have hx160 : x1 < 160 := by have := H.out.n2; omega
        have hlen : (L0 ++ chgs W (W.now.pages.take j)).length ≤ 1001 := by rw [List.length_append]; have := chgs_len W (W.now.pages.take j); rw [List.length_take] at this; omega
        have HSN := Lib.hid hsn; have HR := Lib.hid hr; have HST := Lib.hid hst; have HRW := Lib.hid hrow; have HKY := Lib.hid hky; have HAL := Lib.hid hal
        obtain ⟨c0, -⟩ := hr.cells
        have HRD := Lib.hid (cRead_c J2.ca J2.I W.G x1 s1 wr hr.ca hs1)
        clear hgj hX hrd hkb hsn hr hst hrow hky hal hs1 hg1 hpj
        go_wp2_with fail
        refine HRD.out.mono ?_
        rintro e w7 ⟨rfl, I7, hc7, hd7, hs7⟩
        obtain ⟨hr7, hst7⟩ := HR.out.cache hs7 hc7 rfl
        have HR7 := Lib.hid hr7; have HST7 := Lib.hid hst7; have HRW7 := Lib.hid (HRW.out.stp hst7); have HKY7 := Lib.hid (HKY.out.stp hst7)
        obtain ⟨-, cu, -⟩ := hr7.cells
        have HI := Lib.hid (is_c k 1 W.now.used x1 w7 hr7.u20 hx160 cu)
        clear hc7 hs7 hr7 hst7 HRD c0 hc0 cu
        have HC7 := Lib.hid (show ({ J2 with I := I7 } : WkI).key = J.key from (WkI.key_I hd7).trans HC2.out)
        generalize ({ J2 with I := I7 } : WkI) = J7 at *
        go_wp2_with fail
        refine HI.out.mono ?_
        generalize hU : isU W.now.used x1 = U at *
        clear hU HI
        rintro e w8 ⟨rfl, hm8⟩
        have HR8 := Lib.hid (HR7.out.stay hm8 (by simp)); have HST8 := Lib.hid ((HST.out.trans HST7.out).trans (Stp.pure hm8)); have HRW8 := Lib.hid (HRW7.out.mod0 hm8); have HKY8 := Lib.hid (HKY7.out.mod0 hm8)
        clear hm8 HR7 HST7 HRW7 HKY7
        have c22 := HR8.out.cells.2.2.2.1
        have hlk := look_page1 HR8.out.map (x1 : Int) X2 HAL.out
        have ht1 := str_toList s1
        have ht2 := str_toList X2
        cases U with
        | false =>
          simp only [Bool.false_and, Bool.false_eq_true, if_false, List.append_nil] at HSN
          clear hlk c22 ht1 ht2
          go_wp2_with fail
          go_roundw
          case rel => exact ⟨j + 1, J7, by omega, by go_num, HR8.out, HST8.out, HC7, by rw [HSN.out]; exact HRW8.out, HKY8.out⟩
          case measure => simp [intOf]; omega
        | true =>
          by_cases hne : s1 = X2
          · have hb : (s1 == X2) = true := by simpa using hne
            simp only [Bool.true_and, ne_eq, hne, not_true_eq_false, decide_false, Bool.false_eq_true, if_false, List.append_nil] at HSN
            clear hne
            go_wp2_with fail
            go_roundw
            case rel => exact ⟨j + 1, J7, by omega, by go_num, HR8.out, HST8.out, HC7, by rw [HSN.out]; exact HRW8.out, HKY8.out⟩
            case measure => simp [intOf]; omega
          · have hb : (s1 == X2) = false := by simpa using hne
            simp only [Bool.true_and, ne_eq, hne, not_false_eq_true, decide_true, if_true] at HSN
            clear hne
            go_wp2_with (at_builtin; refine wpList_app_new w.heap.size 172 233 (.agg #[.int .i64 0, .string ⟨#[]⟩]) 2 24 _ [.int .i64 (x1 : Int), .string (str X2)] _ rfl _ _ rfl Tryz.underlying172 Tryz.i_chg rfl (by decide) (by decide) _ _ _ HRW8.out.own rfl 1 1 rfl rfl rfl (by omega) HST8.out.mod.size ?_)
            intro v9 w9 ho9 hg9
            have hrow9 := HRW8.out.grew HR8.out.lt hg9 ho9
            have hrs := HRW8.out.rest hg9
            have hst9 := HST8.out.grew (Nat.le_refl _) HRW8.out.own hg9
            have hky9 := HKY8.out.other HR8.out.lt hg9 (own_ne' HKY8.out.own HRW8.out.own (by decide))
            have HR9 := Lib.hid (HR8.out.stay hg9.mod hrs); have HRW9 := Lib.hid hrow9; have HST9 := Lib.hid hst9; have HKY9 := Lib.hid hky9
            clear ho9 hg9 hrow9 hrs hst9 hky9 hlk c22
            go_wp2_with fail
            go_roundw
            case rel =>
              refine ⟨j + 1, J7, by omega, by go_num, HR9.out, HST9.out, HC7, ?_, HKY9.out⟩
              rw [HSN.out, ← List.append_assoc, flatChg_app, List.length_append]
              have := HRW9.out
              simpa [chgc, List.append_assoc] using this
            case measure => simp [intOf]; omega
      · obtain rfl : j = W.now.pages.length := by omega
        rw [List.take_length, ← HL0.out] at hrow
        have HR := Lib.hid hr; have HST := Lib.hid hst; have HRW := Lib.hid hrow
        clear hr hst hrow hky
        go_wp2_with fail
        go_ret
        exact ⟨_, J2, rfl, HR.out, HST.out, HC2.out, HRW.out⟩
  · have hb : (s0 == W.first) = false := by simpa using hE
    have HL0 := Lib.hid (show W.changes = [(0, W.first)] ++ chgs W W.now.pages from by rw [changes_eq, HG0.out, if_pos hE])
    clear hE
    go_wp2_with fail
    refine (first_c k _ W w2 HR2.out (by rw [HOK.out.head]; omega)).mono ?_
    rintro e w3 ⟨rfl, hm3⟩
    have HR3 := Lib.hid (HR2.out.stay hm3 (by simp)); have HST3 := Lib.hid (HST2.out.trans (Stp.pure hm3))
    clear hm3 HR2 HST2 htf hts hb
    go_wp2_with (at_builtin; refine wpList_app_new w.heap.size 172 233 (.agg #[.int .i64 0, .string ⟨#[]⟩]) 2 24 _ [.int .i64 0, .string (str W.first)] _ rfl _ _ rfl Tryz.underlying172 Tryz.i_chg rfl (by decide) (by decide) (.slice none 0 0) 0 [] (FarRow.nil _ (J1.F k) _ _ _).own rfl 1 1 rfl rfl rfl (by omega) HST3.out.mod.size ?_)
    intro v4 w4 ho4 hg4
    have hrow := (FarRow.nil w3 (J1.F k) w.heap.size 233 2).grew HR3.out.lt hg4 ho4
    have hr4 := HR3.out.stay hg4.mod ((FarRow.nil w3 (J1.F k) w.heap.size 233 2).rest hg4)
    have HR4 := Lib.hid hr4; have HST4 := Lib.hid (HST3.out.trans (Stp.pure (by simpa [Value.ownBlock] using hg4.mod)))
    have HROW := Lib.hid (show FarRow w4 (J1.F k) w.heap.size 233 2 v4 ([(0, W.first)] : List Chg).length (([(0, W.first)] : List Chg).flatMap chgc) from hrow)
    have c22 := hr4.cells.2.2.2.1
    clear ho4 hg4 hrow hr4 HR3 HST3
    generalize hLL : ([(0, W.first)] : List Chg) = L0 at *
    have hll : L0.length ≤ 1 := by rw [← hLL]; simp
    clear hLL
    go_wp2_with fail
    refine (keysI_c (some J1.m) w4).mono ?_
    rintro e w5 ⟨rfl, hw5⟩
    have hm5 : Mod [] w4 w5 := by subst hw5; exact (Mod.refl _ _).alloc _
    have hb5 : w5.heap[w4.heap.size]? = some (.cells #[.map (some J1.m)] 130 (0, 0)) := by subst hw5; exact hp_new _ _
    clear hw5 c22
    go_wp2_with fail
    refine (sortedI_c J1.m w4.heap.size W.now.pages w5 (HR4.out.map.mod hm5 (by simp)) HR4.out.srt (fun p hp => by have := HOK.out.pg p hp; have := H.out.n2; omega) (by have := HOK.out.plen; omega) ((cells_of hb5).1 0) (lt_of_block hb5)).mono ?_
    rintro e w6 ⟨vk, rfl, hok6, hm6⟩
    obtain ⟨ka, kc, rfl⟩ := own_form hok6
    have hm46 := hm5.trans hm6 (by simp)
    have hkey : FarRow w6 (J1.F k) w.heap.size 3 1 (.slice ka W.now.pages.length kc) W.now.pages.length ((W.now.pages.map (·.1)).map fun n => .int .i64 n) :=
      ⟨own_rebase hok6 (fun b hb => Nat.le_trans (HST4.out.trans (Stp.pure hm5)).mod.size (own_lt hok6 b hb).1), fun b hb => ⟨(own_lt hok6 b hb).2, fun hm => by have := HR4.out.lt b hm; have := (own_lt hok6 b hb).1; have := hm5.size; omega⟩⟩
    have HKEY := Lib.hid hkey
    have HR6 := Lib.hid (HR4.out.stay hm46 (by simp)); have HST6 := Lib.hid (HST4.out.trans (Stp.pure hm46)); have HROW6 := Lib.hid (HROW.out.mod0 hm46)
    have hpl := HOK.out.plen
    clear hm5 hb5 hok6 hm6 hm46 hkey
    go_wp2_with fail
    go_loopw [3, 36] (fun v i wr => ∃ (j : Nat) (J2 : WkI), j ≤ W.now.pages.length ∧ i = .int .i64 j ∧ WkR wr k J2 W ∧ Stp (J.F k) (J2.F k) w wr ∧ Hid (J2.key = J.key) ∧
        FarRow wr (J2.F k) w.heap.size 233 2 v (L0 ++ chgs W (W.now.pages.take j)).length ((L0 ++ chgs W (W.now.pages.take j)).flatMap chgc) ∧
        FarRow wr (J2.F k) w.heap.size 3 1 (.slice ka W.now.pages.length kc) W.now.pages.length ((W.now.pages.map (·.1)).map fun n => .int .i64 n)) (fun _ i _ => W.now.pages.length - (intOf i).toNat)
    case atStart => exact ⟨0, J1, Nat.zero_le _, rfl, HR6.out, HST6.out, HCA, by simpa [chgs] using HROW6.out, HKEY.out⟩
    case round =>
      obtain ⟨j, J2, hj, rfl, hr, hst, HC2, hrow, hky⟩ := hrel
      by_cases hlt : j < W.now.pages.length
      · have hpj := HOK.out.pg _ (List.getElem_mem hlt)
        have hgj : W.now.pages[j]? = some W.now.pages[j] := List.getElem?_eq_getElem hlt
        have hX : (W.now.pages.take (j + 1)) = W.now.pages.take j ++ [W.now.pages[j]] := List.take_succ_eq_append_getElem hlt
        have hal : alook W.now.pages W.now.pages[j].1 = some W.now.pages[j].2 := (alook_mem (hr.srt.nodup ilt_ord)).2 (List.getElem_mem hlt)
        obtain ⟨ka', kc', hv, hrd, hkb⟩ := RdS.ofOwn hky.own (by omega)
        cases hv
        have hc : ∃ b off, ka = some ⟨b, off, none⟩ ∧ wr.cell? ⟨b, off + j, none⟩ = some (.int .i64 W.now.pages[j].1) := by
          obtain ⟨b, off, hb, hcc⟩ := hrd.cell (by omega)
          refine ⟨b, off, hb, ?_⟩
          rw [hcc j (by omega), List.getElem?_map, List.getElem?_map, hgj]; rfl
        obtain ⟨b, off, rfl, hc0⟩ := hc
        generalize W.now.pages[j] = X at *
        obtain ⟨X1, X2⟩ := X
        dsimp only at *
        obtain ⟨x1, rfl⟩ := Int.eq_ofNat_of_zero_le (show 0 ≤ X1 by omega)
        obtain ⟨s1, hs1⟩ : ∃ s, W.G.pages[x1]? = some s := ⟨_, List.getElem?_eq_getElem (by omega)⟩
        have hg1 : W.G.pages.getD x1 [] = s1 := by rw [List.getD_eq_getElem?_getD, hs1]; rfl
        have hsn : chgs W (W.now.pages.take (j + 1)) = chgs W (W.now.pages.take j) ++ (if (isU W.now.used x1 && decide (s1 ≠ X2)) = true then [(x1, X2)] else []) := by
          rw [hX, chgs_snoc]; simp only [Int.toNat_natCast, hg1]
        have hx160 : x1 < 160 := by have := H.out.n2; omega
        have hlen : (L0 ++ chgs W (W.now.pages.take j)).length ≤ 1001 := by rw [List.length_append]; have := chgs_len W (W.now.pages.take j); rw [List.length_take] at this; omega
        have HSN := Lib.hid hsn; have HR := Lib.hid hr; have HST := Lib.hid hst; have HRW := Lib.hid hrow; have HKY := Lib.hid hky; have HAL := Lib.hid hal
        obtain ⟨c0, -⟩ := hr.cells
        have HRD := Lib.hid (cRead_c J2.ca J2.I W.G x1 s1 wr hr.ca hs1)
        clear hgj hX hrd hkb hsn hr hst hrow hky hal hs1 hg1 hpj
        go_wp2_with fail
        refine HRD.out.mono ?_
        rintro e w7 ⟨rfl, I7, hc7, hd7, hs7⟩
        obtain ⟨hr7, hst7⟩ := HR.out.cache hs7 hc7 rfl
        have HR7 := Lib.hid hr7; have HST7 := Lib.hid hst7; have HRW7 := Lib.hid (HRW.out.stp hst7); have HKY7 := Lib.hid (HKY.out.stp hst7)
        obtain ⟨-, cu, -⟩ := hr7.cells
        have HI := Lib.hid (is_c k 1 W.now.used x1 w7 hr7.u20 hx160 cu)
        clear hc7 hs7 hr7 hst7 HRD c0 hc0 cu
        have HC7 := Lib.hid (show ({ J2 with I := I7 } : WkI).key = J.key from (WkI.key_I hd7).trans HC2.out)
        generalize ({ J2 with I := I7 } : WkI) = J7 at *
        go_wp2_with fail
        refine HI.out.mono ?_
        generalize hU : isU W.now.used x1 = U at *
        clear hU HI
        rintro e w8 ⟨rfl, hm8⟩
        have HR8 := Lib.hid (HR7.out.stay hm8 (by simp)); have HST8 := Lib.hid ((HST.out.trans HST7.out).trans (Stp.pure hm8)); have HRW8 := Lib.hid (HRW7.out.mod0 hm8); have HKY8 := Lib.hid (HKY7.out.mod0 hm8)
        clear hm8 HR7 HST7 HRW7 HKY7
        have c22 := HR8.out.cells.2.2.2.1
        have hlk := look_page1 HR8.out.map (x1 : Int) X2 HAL.out
        have ht1 := str_toList s1
        have ht2 := str_toList X2
        cases U with
        | false =>
          simp only [Bool.false_and, Bool.false_eq_true, if_false, List.append_nil] at HSN
          clear hlk c22 ht1 ht2
          go_wp2_with fail
          go_roundw
          case rel => exact ⟨j + 1, J7, by omega, by go_num, HR8.out, HST8.out, HC7, by rw [HSN.out]; exact HRW8.out, HKY8.out⟩
          case measure => simp [intOf]; omega
        | true =>
          by_cases hne : s1 = X2
          · have hb : (s1 == X2) = true := by simpa using hne
            simp only [Bool.true_and, ne_eq, hne, not_true_eq_false, decide_false, Bool.false_eq_true, if_false, List.append_nil] at HSN
            clear hne
            go_wp2_with fail
            go_roundw
            case rel => exact ⟨j + 1, J7, by omega, by go_num, HR8.out, HST8.out, HC7, by rw [HSN.out]; exact HRW8.out, HKY8.out⟩
            case measure => simp [intOf]; omega
          · have hb : (s1 == X2) = false := by simpa using hne
            simp only [Bool.true_and, ne_eq, hne, not_false_eq_true, decide_true, if_true] at HSN
            clear hne
            go_wp2_with (at_builtin; refine wpList_app_new w.heap.size 172 233 (.agg #[.int .i64 0, .string ⟨#[]⟩]) 2 24 _ [.int .i64 (x1 : Int), .string (str X2)] _ rfl _ _ rfl Tryz.underlying172 Tryz.i_chg rfl (by decide) (by decide) _ _ _ HRW8.out.own rfl 1 1 rfl rfl rfl (by omega) HST8.out.mod.size ?_)
            intro v9 w9 ho9 hg9
            have hrow9 := HRW8.out.grew HR8.out.lt hg9 ho9
            have hrs := HRW8.out.rest hg9
            have hst9 := HST8.out.grew (Nat.le_refl _) HRW8.out.own hg9
            have hky9 := HKY8.out.other HR8.out.lt hg9 (own_ne' HKY8.out.own HRW8.out.own (by decide))
            have HR9 := Lib.hid (HR8.out.stay hg9.mod hrs); have HRW9 := Lib.hid hrow9; have HST9 := Lib.hid hst9; have HKY9 := Lib.hid hky9
            clear ho9 hg9 hrow9 hrs hst9 hky9 hlk c22
            go_wp2_with fail
            go_roundw
            case rel =>
              refine ⟨j + 1, J7, by omega, by go_num, HR9.out, HST9.out, HC7, ?_, HKY9.out⟩
              rw [HSN.out, ← List.append_assoc, flatChg_app, List.length_append]
              have := HRW9.out
              simpa [chgc, List.append_assoc] using this
            case measure => simp [intOf]; omega
      · obtain rfl : j = W.now.pages.length := by omega
        rw [List.take_length, ← HL0.out] at hrow
        have HR := Lib.hid hr; have HST := Lib.hid hst; have HRW := Lib.hid hrow
        clear hr hst hrow hky
        go_wp2_with fail
        go_ret
        exact ⟨_, J2, rfl, HR.out, HST.out, HC2.out, HRW.out⟩
end Go.Proofs.YtoffondipgjcoaaGreatDoor

/- The contracts of package space: Commit. -/
set_option linter.unusedVariables false
set_option maxRecDepth 100000
set_option linter.unusedSimpArgs false
namespace Go.Proofs.YtoffondipgjcoaaGreatDoor
open Go.RowKit

theorem WkR.setOver {w : World} {k : Nat} {J : WkI} {W : Wk} (h : WkR w k J W) (b : Bool) : WkR (w.setCell ⟨k, 24, none⟩ (.bool b)) k J { W with over := b } ∧ Mod [k] w (w.setCell ⟨k, 24, none⟩ (.bool b)) := by
  have hm : Mod [k] w (w.setCell ⟨k, 24, none⟩ (.bool b)) := (Mod.refl _ _).setCell _ _ (.inl (by simp))
  refine ⟨h.setK hm ?_ h.u20 rfl rfl rfl, hm⟩
  have hst := wk_setT J W h.u20 3 (.bool b)
  rw [show 21 + 3 = 24 from rfl] at hst
  rw [hp_set h.at_, hst]; rfl
set_option maxHeartbeats 2000000 in
theorem wCommit_c (k : Nat) (J : WkI) (W : Wk) (w : World) (h : WkR w k J W) (ho : W.over = false) (hok : WkOK W) (hG : PgOK W.G) (hch : ChgOK W.G.pages.length W.changes) (hcl : W.changes.length ≤ 1000) :
    Calls Tryz.prog 48 #[pt k] w fun e w' => e = .returned (.int .i64 W.commit.2) ∧ WkP k J W.commit.1 w w' := by
  have HMY := Lib.hid (wmay_c k J W w h)
  unfold mayN at HMY
  rw [ho, if_neg (by simp)] at HMY
  have HV := Lib.hid (show W.commit = ({ W with G := (W.G.commit W.changes).2, over := decide ((W.G.commit W.changes).1 = 0) }, (W.G.commit W.changes).1) from by simp [Wk.commit, ho])
  have H := Lib.hid h; have HOK := Lib.hid hok; have HG := Lib.hid hG; have HCH := Lib.hid hch; have HO := Lib.hid ho
  clear h ho hok hG hch
  go_enter Tryz.func48, Tryz.ntmps48
  go_wp2_with fail
  refine HMY.out.mono ?_
  rintro e w1 ⟨rfl, rfl⟩
  clear HMY
  go_wp2_with fail
  have hr0 := H.out.stay ((Mod.refl [] w).drew) (by simp)
  have hS : (fun w' : World => w'.cell? ⟨k, 0, none⟩ = some (pt J.ca)) w.drew := hr0.cells.1
  refine region_plan (n := 6) (fun w' : World => w'.cell? ⟨k, 0, none⟩ = some (pt J.ca)) [(true, 0), (true, 1), (true, 2), (true, 3), (true, 4), (false, 5)] Tryz.mixed (by kernel_rfl) hS ?_
  (apply Go.Proofs.YtoffondipgjcoaaGreatDoor.plan_q _ rfl hS; · (intro K hK w' hw'; (skip); go_simp; (first | exact hK | exact ⟨rfl, hK⟩)))
  (apply Go.Proofs.YtoffondipgjcoaaGreatDoor.plan_q _ rfl hS; · (intro K hK w' hw'; (skip); go_simp; (first | exact hK | exact ⟨rfl, hK⟩)))
  (apply Go.Proofs.YtoffondipgjcoaaGreatDoor.plan_q _ rfl hS; · (intro K hK w' hw'; (skip); go_simp; (first | exact hK | exact ⟨rfl, hK⟩)))
  (apply Go.Proofs.YtoffondipgjcoaaGreatDoor.plan_q _ rfl hS; · (intro K hK w' hw'; (have q : w'.cell? ⟨k, 0, none⟩ = some (pt J.ca) := hw'); go_simp; (first | exact hK | exact ⟨rfl, hK⟩)))
  (apply Go.Proofs.YtoffondipgjcoaaGreatDoor.plan_q _ rfl hS; · (intro K hK w' hw'; (skip); go_simp; (first | exact hK | exact ⟨rfl, hK⟩)))
  refine plan_e rfl ?_
  go_wp2_with fail
  refine (changes_c k J W w.drew hr0 HOK.out).mono ?_
  rintro e w2 ⟨v, J2, rfl, hr2, hst2, hca2, hrow2⟩
  obtain ⟨ao, cp, rfl, hrd, hbk⟩ := RdS.ofOwn hrow2.own (by omega)
  have hc0 := hr2.cells.1
  rw [WkI.ca_of hca2] at hc0
  have hao : ∀ b off, ao = some ⟨b, off, none⟩ → b ∉ J2.I.F J2.ca := fun b off hb hm => (hrow2.far b (hbk b off hb)).2 (List.mem_append_right _ hm)
  have HC := Lib.hid (cCommit_c J2.ca J2.I W.G ao cp W.changes w2 hr2.ca HG.out HCH.out hrd hao)
  have HR2 := Lib.hid hr2; have HST2 := Lib.hid ((Stp.pure ((Mod.refl [] w).drew)).trans hst2)
  rw [WkI.ca_of hca2] at HC
  have HCA := Lib.hid hca2
  clear hr0 hrow2 hrd hbk hao hr2 hst2 hca2
  go_wp2_with fail
  refine plan_n ⟨hc0, plan_t ?_⟩
  simp only [List.drop_succ_cons, List.drop_zero]
  clear hS hc0
  go_wp2_with fail
  refine HC.out.mono ?_
  have hcl' := commit_len W.G W.changes
  have HCL := Lib.hid hcl'
  clear hcl' HC
  generalize W.G.commit W.changes = RR at *
  obtain ⟨E, G'⟩ := RR
  dsimp only at *
  rintro e w3 ⟨rfl, I3, hc3, hd3, hs3⟩
  have hc3' : CaS w3 J2.ca I3 G' := by rw [WkI.ca_of HCA.out]; exact hc3
  obtain ⟨hr3, hst3⟩ := HR2.out.cache (by rw [WkI.ca_of HCA.out]; rw [WkI.ca_of HCA.out] at *; exact hs3) hc3' HCL.out
  have c24 := hr3.cells.2.2.2.2.2.1
  have f24 := hr3.cells.2.2.2.2.2.2 24
  have hov : ({ W with G := G' } : Wk).over = false := HO.out
  rw [hov] at c24
  have HR3 := Lib.hid hr3; have HST3 := Lib.hid (HST2.out.trans hst3)
  have HC3 := Lib.hid (show ({ J2 with I := I3 } : WkI).key = J.key from (WkI.key_I hd3).trans HCA.out)
  clear hc3 hs3 hc3' hr3 hst3 hov
  generalize ({ J2 with I := I3 } : WkI) = J3 at *
  by_cases hE : E = 0
  · subst hE
    go_wp2_with fail
    go_ret
    rw [HV.out]
    refine ⟨rfl, J3, ?_, HST3.out.trans (Stp.of (HR3.out.setOver true).2 (fun x hx => by simp at hx; subst hx; simp [WkI.F, WkI.own])), HC3.out⟩
    exact (HR3.out.setOver true).1
  · have hb : (E == 0) = false := by simpa using hE
    have hd : decide (E = 0) = false := by simpa using hE
    have HD := Lib.hid hd
    clear hE hd
    go_wp2_with fail
    go_ret
    rw [HV.out, HD.out]
    refine ⟨rfl, J3, ?_, HST3.out.trans (Stp.of (HR3.out.setOver false).2 (fun x hx => by simp at hx; subst hx; simp [WkI.F, WkI.own])), HC3.out⟩
    exact (HR3.out.setOver false).1
end Go.Proofs.YtoffondipgjcoaaGreatDoor
