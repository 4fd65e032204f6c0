/- Part 25 of 27 of the contracts below the law: each theorem states, of one function of the program, at a world of the form that its premises name, what the call answers and what it leaves. -/
import Derived.Test.YtoffondipgjcoaaGreatDoorP24
import Derived.Laws.RangeString
/- The contracts of package base: read of a head that is one. -/
set_option linter.unusedVariables false
set_option maxRecDepth 100000
set_option linter.unusedSimpArgs false
namespace Go.Proofs.YtoffondipgjcoaaGreatDoor
open Go.RowKit

theorem idxN_none (s : Bytes) (h : ∀ c ∈ s, oddR c.toNat = false ∧ c.toNat < 128) : ∀ f pos, Lib.idxFuncFrom oddR true (str s) f pos = -1
  | 0, _ => rfl
  | f + 1, pos => by
    unfold Lib.idxFuncFrom
    split
    · rename_i hlt
      have hl : pos < s.length := by rw [str_size] at hlt; exact hlt
      have hg : (str s)[pos]'hlt = s[pos] := by simp [str, ByteArray.getElem_eq_getElem_data]
      obtain ⟨h1, h2⟩ := h _ (List.getElem_mem hl)
      have hd := decode_ascii (str s) pos hlt (by rw [hg]; exact h2)
      rw [hd, hg]
      rw [h1]
      simp only [Bool.false_eq_true, if_false]
      exact idxN_none s h f (pos + 1)
    · rfl
theorem name_right (s : Bytes) (h : nameOK s = true) : rightB s = true := by
  unfold nameOK at h
  simp only [Bool.and_eq_true, List.all_eq_true, Bool.or_eq_true, decide_eq_true_eq, Bool.not_eq_true'] at h
  obtain ⟨⟨h1, h2⟩, h3⟩ := h
  unfold rightB
  rw [h1, Lib.idxFunc, idxN_none s (fun c hc => by
    have := h3 c hc
    refine ⟨?_, by omega⟩
    unfold oddR
    rw [Bool.eq_false_iff]
    simp only [ne_eq, Bool.and_eq_true, Bool.or_eq_true, decide_eq_true_eq, not_and, Decidable.not_not]
    omega)]
  simp [h2]
theorem sput_last {α : Type} (k : Bytes) (v : α) : ∀ m : List (Bytes × α), (∀ p ∈ m, blt p.1 k = true) → sput blt k v m = m ++ [(k, v)]
  | [], _ => rfl
  | p :: m, h => by
    have h1 := h p List.mem_cons_self
    have h2 : blt k p.1 = false := by
      cases hq : blt k p.1 with
      | false => rfl
      | true => have := blt_tr _ _ _ h1 hq; rw [blt_irr] at this; cases this
    have h3 : ¬ p.1 = k := by rintro rfl; rw [blt_irr] at h1; cases h1
    rw [sput, sput_last k v m (fun q hq => h q (List.mem_cons_of_mem _ hq))]
    simp [h2, h3]
theorem rdTabs_step {n : Nat} {r : LR} {last : Bytes} {t : Tabs × LR} (h : rdTabs (n + 1) r last = some t) :
    nameOK (r.str 8).1 = true ∧ blt last (r.str 8).1 = true ∧ ∃ u, rdTabs n (((r.str 8).2.num 2).2.num 2).2 (r.str 8).1 = some u ∧ t.1 = ((r.str 8).1, (((r.str 8).2.num 2).1, ((((r.str 8).2.num 2).2).num 2).1)) :: u.1 ∧ t.2 = u.2 := by
  rw [rdTabs] at h
  dsimp only at h
  split at h
  · cases h
  · rename_i hn
    simp only [not_or, Bool.not_eq_false] at hn
    refine ⟨hn.1, hn.2, ?_⟩
    rw [Option.map_eq_some_iff] at h
    obtain ⟨u, hu, rfl⟩ := h
    exact ⟨u, hu, rfl, rfl⟩
theorem num_lt (r : LR) (k : Nat) : (r.num k).1 < 18446744073709551616 := numL_lt _
theorem num2_lt (r : LR) : (r.num 2).1 < 65536 := by
  unfold LR.num LR.take
  split
  · simp [numL]
  · split
    · simp [numL]
    · rcases h : r.rest with _ | ⟨a, _ | ⟨b, l⟩⟩
      · simp [numL]
      · simp [numL]; have := a.toNat_lt; omega
      · simp [numL]; have := a.toNat_lt; have := b.toNat_lt; omega
def BrdP (tabs : Tabs) (w : World) (x : Ending) (w' : World) : Prop := ∃ m, x = .returned (.tuple #[.map (some m), .bool true]) ∧ MapP strK tabV w' m tabs ∧ Srt blt tabs ∧ Mod [] w w' ∧ w.heap.size ≤ m
set_option maxHeartbeats 1500000 in
theorem bread_c (s : Bytes) (tabs : Tabs) (w : World) (hs : s.length ≤ 100000) (hd : headRd s = some tabs) :
    Calls Tryz.prog 34 #[.string (str s)] w fun x w' => BrdP tabs w x w' := by
  have hd0 := hd
  unfold headRd at hd
  dsimp only at hd
  split at hd
  · cases hd
  rename_i fin hfin
  split at hd
  · rename_i hz
    obtain ⟨hz1, hz2, hz3⟩ := hz
    injection hd with hd
    have hcl := num1_lt ⟨s, 0⟩
    have hss := str_size s
    generalize hN1 : LR.num ⟨s, 0⟩ 1 = N1 at *
    have H1 := Lib.hid hN1; have HFIN := Lib.hid hfin; have HD := Lib.hid hd; have HZ1 := Lib.hid hz1; have HZ3 := Lib.hid hz3
    have hmm := @run_makeMap Tryz.prog
    clear hN1 hfin hd hd0 hz1 hz3
    go_enter Tryz.func34, Tryz.ntmps34
    go_wp2_with fail
    refine (From_c (str s) w (by rw [hss]; omega)).mono ?_
    rintro e w2 ⟨rfl, hm2, hr2⟩
    have hr2' : Rdr w2 w.heap.size (LR.rd ⟨s, 0⟩) := hr2
    have HM2 := Lib.hid hm2; have HR2 := Lib.hid hr2'
    clear hm2 hr2 hr2'
    go_wp2_with fail
    have hm3 : Mod [] w (w2.alloc (Obj.map #[] 0)) := HM2.out.alloc _
    have hr3 : Rdr (w2.alloc (Obj.map #[] 0)) w.heap.size (LR.rd ⟨s, 0⟩) := HR2.out.mod (R := []) ((Mod.refl _ _).alloc _) (by simp)
    have hp3 : MapP strK tabV (w2.alloc (Obj.map #[] 0)) w2.heap.size [] := MapP.new w2
    have hbm : w.heap.size < w2.heap.size := lt_of_block HR2.out.at_
    generalize w2.alloc (Obj.map #[] 0) = w3 at *
    refine (lNum_c w.heap.size ⟨s, 0⟩ 1 (by omega) (by omega) w3 hr3).mono ?_
    rw [H1.out]
    rintro e w4 ⟨rfl, hm4, hr4⟩
    have hp4 := hp3.mod hm4 (by simp; omega)
    have HM4 := Lib.hid (hm3.trans hm4 (R := []) (fun x hx => .inr (by simp at hx; omega))); have HR4 := Lib.hid hr4; have HP4 := Lib.hid hp4
    clear hm3 hr3 hp3 hm4 hr4 hp4 hmm
    generalize w2.heap.size = mp at *
    generalize hb0 : w.heap.size = b at hbm HR4 ⊢
    have HBW : Hid (w.heap.size ≤ b) := Lib.hid (by omega)
    clear hb0 HR2
    go_wp2_with fail
    go_loopw [6, 18] (fun l c wr => ∃ (i : Nat) (done : Tabs) (r : LR) (last : Bytes) (u : Tabs × LR), i ≤ N1.1 ∧ c = .int .u64 (i : Int) ∧ l = .string (str last) ∧ Rdr wr b r.rd ∧ MapP strK tabV wr mp done ∧ Srt blt done ∧
        (∀ p ∈ done, p.1 = last ∨ blt p.1 last = true) ∧ rdTabs (N1.1 - i) r last = some u ∧ done ++ u.1 = fin.1 ∧ u.2 = fin.2 ∧ Mod [] w wr) (fun _ c _ => N1.1 - (intOf c).toNat)
    case atStart => exact ⟨0, [], N1.2, [], fin, Nat.zero_le _, rfl, rfl, HR4.out, HP4.out, List.Pairwise.nil, by simp, HFIN.out, rfl, rfl, HM4.out⟩
    case round =>
      obtain ⟨i, done, r, last, u, hi, rfl, rfl, hr, hp, hso, hla, hrd, hdn, hfi, hm⟩ := hrel
      by_cases hlt : i < N1.1
      · obtain ⟨k, hk⟩ : ∃ k, N1.1 - i = k + 1 := ⟨N1.1 - i - 1, by omega⟩
        have hk' : N1.1 - (i + 1) = k := by omega
        rw [hk] at hrd
        obtain ⟨hn1, hn2, u', hu', hu1, hu2⟩ := rdTabs_step hrd
        have hS := lStr_c b r 8 wr hr
        generalize hR1 : r.str 8 = R1 at *
        obtain ⟨name, r1⟩ := R1
        dsimp only at hS hn1 hn2 hu' hu1 hu2
        have hz1 := num2_lt r1
        have hz2 := num2_lt (r1.num 2).2
        have HS := Lib.hid hS; have HNR := Lib.hid (name_right name hn1); have HP := Lib.hid hp; have HM := Lib.hid hm; have HSO := Lib.hid hso; have HLA := Lib.hid hla; have HU := Lib.hid hu'; have HU1 := Lib.hid hu1; have HU2 := Lib.hid hu2; have HDN := Lib.hid hdn; have HFI := Lib.hid hfi
        have HNN := Lib.hid hn2; have HKK := Lib.hid hk'
        clear hS hn1 hn2 hp hm hso hla hu' hu1 hu2 hdn hfi hR1 hrd hk hk' hr
        go_wp2_with fail
        refine HS.out.mono ?_
        rintro e w5 ⟨rfl, hm5, hr5⟩
        have HM5 := Lib.hid (HM.out.trans hm5 (R := []) (fun x hx => .inr (by simp at hx; have := HBW.out; omega))); have HR5 := Lib.hid hr5; have HP5 := Lib.hid (HP.out.mod hm5 (by simp; omega))
        clear hm5 hr5 HS
        go_wp2_with fail
        refine (bright_c name w5).mono ?_
        rw [HNR.out]
        rintro e w6 ⟨rfl, hm6⟩
        have HM6 := Lib.hid (HM5.out.trans hm6 (by simp)); have HR6 := Lib.hid (HR5.out.mod hm6 (by simp)); have HP6 := Lib.hid (HP5.out.mod hm6 (by simp))
        clear hm6
        have t1 := str_toList name
        have t2 := str_toList last
        have hbl : Op.bytesLess name last = false := by
          rw [bytesLess_blt]
          cases hq : blt name last with
          | false => rfl
          | true => have := blt_tr _ _ _ hq HNN.out; rw [blt_irr] at this; cases this
        have hbe : (name == last) = false := by
          rw [beq_eq_false_iff_ne]
          rintro rfl
          have := HNN.out
          rw [blt_irr] at this; cases this
        go_wp2_with fail
        refine (lNum_c b r1 2 (by omega) (by omega) w6 HR6.out).mono ?_
        rintro e w7 ⟨rfl, hm7, hr7⟩
        have HM7 := Lib.hid (HM6.out.trans hm7 (R := []) (fun x hx => .inr (by simp at hx; have := HBW.out; omega))); have HR7 := Lib.hid hr7; have HP7 := Lib.hid (HP6.out.mod hm7 (by simp; omega))
        clear hm7 hr7
        generalize hA : (r1.num 2).1 = A at *
        generalize hra : (r1.num 2).2 = r2 at *
        have hw1 : IntKind.i64.wrap (A : Int) = (A : Int) := by simp [IntKind.wrap, IntKind.bits, IntKind.signed]; omega
        go_wp2_with fail
        refine (lNum_c b r2 2 (by omega) (by omega) w7 HR7.out).mono ?_
        rintro e w8 ⟨rfl, hm8, hr8⟩
        have HM8 := Lib.hid (HM7.out.trans hm8 (R := []) (fun x hx => .inr (by simp at hx; have := HBW.out; omega))); have HR8 := Lib.hid hr8; have HP8 := Lib.hid (HP7.out.mod hm8 (by simp; omega))
        clear hm8 hr8
        generalize hB : (r2.num 2).1 = B at *
        generalize hrb : (r2.num 2).2 = r3 at *
        have hw2 : IntKind.i64.wrap (B : Int) = (B : Int) := by simp [IntKind.wrap, IntKind.bits, IntKind.signed]; omega
        go_wp2_with (with_reducible refine stop_map _ _ _ _ rfl ?_)
        refine Stop.go ?_
        have hall : ∀ p ∈ done, blt p.1 name = true := fun p hp => by
          rcases HLA.out p hp with h | h
          · rw [h]; exact HNN.out
          · exact blt_tr _ _ _ h HNN.out
        have HALL := Lib.hid hall
        clear hall hbl hbe t1 t2
        refine wpList_mapUpdateP rfl 76 84 _ _ _ rfl Tryz.underlying76 (keyOK_bytes Tryz.underlying9) (enc := tabV) blt blt_ord mp done name (A, B) rfl rfl rfl HP8.out HSO.out ?_
        rw [sput_last _ _ _ HALL.out]
        intro w9 hm9 hp9 hz9
        have hmw : w.heap.size ≤ mp := by have := HBW.out; omega
        have HM9 := Lib.hid (HM8.out.trans hm9 (R := []) (fun x hx => .inr (by simp at hx; omega))); have HR9 := Lib.hid (HR8.out.mod hm9 (by simp; omega)); have HP9 := Lib.hid hp9
        clear hm9 hp9 hz9 hw1 hw2
        go_wp2_with fail
        go_roundw
        case rel =>
          have hbt : blt last name = true := HNN.out
          refine ⟨i + 1, done ++ [(name, (A, B))], r3, name, u', by omega, by go_num, rfl, HR9.out, HP9.out, ?_, ?_, by rw [HKK.out]; exact HU.out, ?_, by rw [← HU2.out]; exact HFI.out, HM9.out⟩
          · have h1 := HSO.out.sput blt_ord (k := name) (v := (A, B))
            rw [sput_last _ _ _ HALL.out] at h1
            exact h1
          · intro p hp
            rcases List.mem_append.1 hp with hp | hp
            · exact .inr (HALL.out p hp)
            · rw [List.mem_singleton.1 hp]; exact .inl rfl
          · rw [List.append_assoc, ← HDN.out, HU1.out]; rfl
        case measure => simp [intOf]; omega
      · obtain rfl : i = N1.1 := by omega
        rw [Nat.sub_self] at hrd
        obtain rfl : u = ([], r) := by simpa [rdTabs] using hrd.symm
        dsimp only at hdn hfi
        rw [List.append_nil] at hdn
        have hdt : done = tabs := hdn.trans HD.out
        subst hdt
        rw [← hfi] at HZ1 HZ3
        have HP := Lib.hid hp; have HM := Lib.hid hm; have HSO := Lib.hid hso; have HR := Lib.hid hr
        have hrl : r.rest.length ≤ 140737488355328 := by
          have := hr.small
          simp only [LR.rd, str_size] at this
          exact this
        clear hp hm hso hr hla hrd hdn hfi
        go_wp2_with fail
        refine (lLeft_c b r wr HR.out).mono ?_
        rintro e w6 ⟨rfl, rfl⟩
        go_wp2_with fail
        refine (lRaw_c b r r.rest.length wr HR.out).mono ?_
        generalize hRW : r.raw r.rest.length = RW at *
        obtain ⟨Tl, Rl⟩ := RW
        dsimp only at *
        rintro e w6 ⟨rfl, hm6, hr6⟩
        have HM6 := Lib.hid (HM.out.trans hm6 (R := []) (fun x hx => .inr (by simp at hx; have := HBW.out; omega))); have HR6 := Lib.hid hr6; have HP6 := Lib.hid (HP.out.mod hm6 (by simp; omega))
        have hTl : Tl.length ≤ 140737488355328 := by
          have h1 : Tl = (r.raw r.rest.length).1 := by rw [hRW]
          rw [h1]
          unfold LR.raw LR.take
          dsimp only
          split
          · simp
          · split
            · simp
            · simp; omega
        clear hm6 hr6 hRW
        go_wp2_with fail
        refine (lErr_c b Rl w6 HR6.out).mono ?_
        rw [HZ1.out]
        rintro e w7 ⟨rfl, rfl⟩
        have hc12 : ((N1.1 : Nat) : Int) ≤ 12 := by omega
        go_wp2_with fail
        refine (Trim_c Tl w6 hTl).mono ?_
        rw [HZ3.out]
        rintro e w8 ⟨⟨t, rfl, ht⟩, hm8⟩
        obtain rfl : t = [] := List.isEmpty_iff.1 ht
        have HM8 := Lib.hid (HM6.out.trans hm8 (by simp)); have HP8 := Lib.hid (HP6.out.mod hm8 (by simp))
        have hst : str [] = ⟨#[]⟩ := rfl
        rw [hst]
        clear hm8 ht hst
        go_wp2_with fail
        go_ret2
        exact ⟨mp, rfl, HP8.out, HSO.out, HM8.out, by have := HBW.out; omega⟩
  · cases hd
end Go.Proofs.YtoffondipgjcoaaGreatDoor

/- The contracts of package base: Begin, and on nil. -/
set_option linter.unusedVariables false
set_option maxRecDepth 100000
set_option linter.unusedSimpArgs false
namespace Go.Proofs.YtoffondipgjcoaaGreatDoor
open Go.RowKit

/-- The base at b, at rest. -/
structure BsR (w : World) (b ca : Nat) (I : CaI) (G : Pg) (bz st : Bool) : Prop where
  bs : w.heap[b]? = some (.cells #[pt ca, .bool bz, .bool st] 72 (0, 0))
  cs : CaS w ca I G
  fb : b ∉ I.F ca
def XBegP (b ca : Nat) (I : CaI) (G : Pg) (tabs : Tabs) (w : World) (x : Ending) (w' : World) : Prop :=
  ∃ t TI, x = .returned (.tuple #[pt t, .int .i64 0]) ∧ TxR w' t TI ⟨Wk.begin G, tabs, [], false, true, false⟩ ∧ TI.b = b ∧ TI.J.ca = ca ∧ TI.J.I.d = I.d ∧ Stp (b :: I.F ca) (TI.F t) w w'
set_option maxHeartbeats 1500000 in
theorem xbegin_c (b ca : Nat) (I : CaI) (G : Pg) (s : Bytes) (tabs : Tabs) (w : World) (h : BsR w b ca I G false false) (hs : G.pages[0]? = some s) (hl : s.length = 256) (h2 : G.pages.length ≤ 160) (hd : headRd (s.drop 20) = some tabs) :
    Calls Tryz.prog 6 #[pt b] w fun x w' => XBegP b ca I G tabs w x w' := by
  obtain ⟨cb, fb⟩ := cells_of h.bs
  have c0 : w.cell? ⟨b, 0, none⟩ = some (pt ca) := cb 0
  have c1 : w.cell? ⟨b, 1, none⟩ = some (.bool false) := cb 1
  have c2 : w.cell? ⟨b, 2, none⟩ = some (.bool false) := cb 2
  have H := Lib.hid h; have HS := Lib.hid hs; have HD := Lib.hid hd
  have HB := Lib.hid (wBegin_c ca I G s w h.cs hs hl h2)
  clear h hs hd cb fb
  go_enter Tryz.func6, Tryz.ntmps6
  go_wp2_with fail
  refine HB.out.mono ?_
  rintro x w1 ⟨k, J, rfl, hr1, hs1, hca1, hdd1⟩
  have f1 := hs1.far (b := b) ⟨lt_of_block H.out.bs, H.out.fb⟩
  have HR1 := Lib.hid hr1; have HS1 := Lib.hid hs1; have HCA1 := Lib.hid hca1; have HDD1 := Lib.hid hdd1; have HF1 := Lib.hid f1
  have HB1 := Lib.hid (hs1.at H.out.fb H.out.bs)
  clear hr1 hs1 hca1 hdd1 f1 HB c0 c1 c2
  go_wp2_with fail
  refine (Head_c k J (Wk.begin G) w1 HR1.out rfl).mono ?_
  have hhd : (Wk.begin G).now.head = s.drop 20 := by
    show (G.pages.getD 0 []).drop 20 = _
    rw [List.getD_eq_getElem?_getD, HS.out]; rfl
  rw [hhd]
  clear hhd
  rintro x w2 ⟨rfl, rfl⟩
  go_wp2_with fail
  refine (bread_c (s.drop 20) tabs w1 (by rw [List.length_drop]; omega) HD.out).mono ?_
  rintro x w3 ⟨m, rfl, hp3, hso, hm3, hmb⟩
  have hb3 := hm3.at HB1.out (by simp)
  obtain ⟨cb, fb⟩ := cells_of hb3
  have f1 := fb 1
  have c1 : w3.cell? ⟨b, 1, none⟩ = some (.bool false) := cb 1
  have HP3 := Lib.hid hp3; have HSO := Lib.hid hso; have HM3 := Lib.hid hm3; have HB3 := Lib.hid hb3
  clear hp3 hso hm3 hb3 cb fb
  go_wp2_with fail
  go_ret2
  have hm5 : Mod [b] w3 ((w3.setCell ⟨b, 1, none⟩ (.bool true)).alloc (Obj.cells #[pt b, pt k, .map (some m), .slice none 0 0, .bool false] 82)) := ((Mod.refl _ _).setCell _ _ (.inl (by simp))).alloc _
  have ht : ((w3.setCell ⟨b, 1, none⟩ (.bool true)).alloc (Obj.cells #[pt b, pt k, .map (some m), .slice none 0 0, .bool false] 82)).heap[w3.heap.size]? = some (.cells #[pt b, pt k, .map (some m), .slice none 0 0, .bool false] 82 (0, 0)) := by
    have h1 := hp_new (w3.setCell ⟨b, 1, none⟩ (.bool true)) (Obj.cells #[pt b, pt k, .map (some m), .slice none 0 0, .bool false] 82)
    simpa using h1
  have hbs := hp_old (o' := Obj.cells #[pt b, pt k, .map (some m), .slice none 0 0, .bool false] 82) (hp_set (i := 1) (v := .bool true) HB3.out)
  generalize (w3.setCell ⟨b, 1, none⟩ (.bool true)).alloc (Obj.cells #[pt b, pt k, .map (some m), .slice none 0 0, .bool false] 82) = w5 at *
  have hblt := lt_of_block HB3.out
  have hr3 := HR1.out.stay HM3.out (by simp)
  have hz1 := HS1.out.mod.size
  have hz3 := HM3.out.size
  refine ⟨w3.heap.size, ⟨b, k, m, J⟩, rfl, ⟨ht, ?_, hr3.stay hm5 (by simpa using HF1.out.2), HP3.out.mod hm5 (by simpa using HP3.out.ne HB3.out), HSO.out, by dsimp only; omega, fun hm => ?_, HF1.out.2, fun hm => ?_⟩, rfl, HCA1.out, HDD1.out, ?_⟩
  · dsimp only
    rw [HCA1.out]
    exact hbs
  · have := hr3.lt _ hm; omega
  · have := HR1.out.lt _ hm; dsimp only at this; omega
  · refine (((Stp.cons b HS1.out).trans (Stp.pure HM3.out)).trans (Stp.of hm5 (by simp))).le ?_
    intro x hx
    simp only [TxI.F, List.mem_cons] at hx
    rcases hx with rfl | rfl | rfl | hx
    · exact .inr (by omega)
    · exact .inl (by simp)
    · exact .inr (by omega)
    · exact .inl (by simp [hx])
end Go.Proofs.YtoffondipgjcoaaGreatDoor

/- The contracts of package base: Open. -/
set_option linter.unusedVariables false
set_option maxRecDepth 100000
set_option linter.unusedSimpArgs false
namespace Go.Proofs.YtoffondipgjcoaaGreatDoor
open Go.RowKit

theorem CaR.toS {w : World} {c am p d sb ub pg pcap : Nat} {G : Pg} (h : CaR w c am p d sb ub pg pcap 16 [] [] 0 0 G) (h2 : am ≠ ub) : CaS w c ⟨am, p, d, sb, ub, pg, pcap, [], [], 0, 0⟩ G :=
  ⟨⟨h.at_, h.seg, h.nd⟩, h.nn, h.map, h.knd, h.kok, h.data, h.len, h.pg, h2⟩
def OpenP (d sb ub : Nat) (G : Pg) (w : World) (x : Ending) (w' : World) : Prop :=
  ∃ b ca I, x = .returned (.tuple #[pt b, .int .i64 0]) ∧ BsR w' b ca I G false false ∧ I.d = d ∧ Stp [d, sb, ub] (b :: I.F ca) w w'
set_option maxHeartbeats 1500000 in
theorem bopen_c (d sb ub n : Nat) (D : Dev) (s : Bytes) (tabs : Tabs) (w : World) (h : DevR w d sb ub D) (h1 : 1 ≤ n) (h2 : n ≤ 160) (hn : D.sure.length = 126 + 4 * n) (hmk : (D.read 0).headD 0 = 0)
    (hs : (openG D n).pages[0]? = some s) (hl : s.length = 256) (hd : headRd (s.drop 20) = some tabs) :
    Calls Tryz.prog 27 #[pt d, .int .i64 (n : Int)] w fun x w' => OpenP d sb ub (openG D n) w x w' := by
  have HO := Lib.hid (pOpen_c d sb ub n D w h h1 h2 hn hmk)
  have H := Lib.hid h; have HS := Lib.hid hs; have HD := Lib.hid hd
  have hpl : (openG D n).pages.length = n := by simp [openG, pagesOf]
  clear h hs hd hn hmk
  generalize openG D n = G at *
  go_enter Tryz.func27, Tryz.ntmps27
  go_wp2_with fail
  refine HO.out.mono ?_
  rintro x w1 ⟨p, pv, rfl, hm1, hpg, hpb, hvb⟩
  have hrw : ∃ pg pcap, pv = .slice (some ⟨pg, 0, none⟩) G.pages.length pcap := by
    rcases hpg.row.2 with ⟨-, hz⟩ | ⟨g, cap, cur, rfl, _⟩
    · omega
    · exact ⟨g, cap, rfl⟩
  obtain ⟨pg, pcap, rfl⟩ := hrw
  have HM1 := Lib.hid hm1; have HPG := Lib.hid hpg
  have HPB := Lib.hid hpb; have HVB := Lib.hid (hvb pg rfl)
  clear hm1 hpg hpb hvb HO
  go_wp2_with fail
  refine (cNew_c p d sb ub pg pcap G w1 HPG.out).mono ?_
  rintro x w2 ⟨c, am, rfl, hcb, hab, hca, hm2, hcr⟩
  have hul : ub < w1.heap.size := by obtain ⟨es, cl, hu, _⟩ := HPG.out.dev.unsure; exact lt_of_block hu
  have HCS := Lib.hid (hcr.toS (by omega)); have HM2 := Lib.hid (HM1.out.trans hm2 (by simp))
  have HZ := Lib.hid hcb; have HZ2 := Lib.hid hab; have HSZ := Lib.hid hm2.size
  clear hcb hab hca hm2 hcr hul
  go_wp2_with fail
  have hm3 : Mod [] w2 (w2.alloc (Obj.cells #[pt c, .bool false, .bool false] 72)) := (Mod.refl _ _).alloc _
  have hb3 := hp_new w2 (Obj.cells #[pt c, .bool false, .bool false] 72)
  generalize w2.alloc (Obj.cells #[pt c, .bool false, .bool false] 72) = w3 at *
  have hcs3 := HCS.out.stay hm3 (by simp)
  have hsz1 := HM1.out.size
  have hlc := lt_of_block HCS.out.rg.at_
  have hla : am < w2.heap.size := by obtain ⟨es, cl, hu, _⟩ := HCS.out.map; exact lt_of_block hu
  have hl1 := lt_of_block HCS.out.pg.at_.at_
  have hl2 := lt_of_block HCS.out.pg.dev.at_
  have hl3 := lt_of_block HCS.out.pg.dev.sure
  have hl4 : ub < w2.heap.size := by obtain ⟨es, cl, hu, _⟩ := HCS.out.pg.dev.unsure; exact lt_of_block hu
  have hl5 : pg < w2.heap.size := by obtain ⟨cur, hg⟩ := strs_blk HCS.out.pg.row; exact lt_of_block hg
  dsimp only at hla hl1 hl2 hl3 hl4 hl5
  have hbs : BsR w3 w2.heap.size c ⟨am, p, d, sb, ub, pg, pcap, [], [], 0, 0⟩ G false false := ⟨hb3, hcs3, by
    simp only [CaI.F, List.map_nil, List.mem_cons, List.not_mem_nil, or_false, not_or]
    omega⟩
  have hst : Stp [d, sb, ub] (w2.heap.size :: (⟨am, p, d, sb, ub, pg, pcap, [], [], 0, 0⟩ : CaI).F c) w w3 := by
    refine (Stp.pure (HM2.out.trans hm3 (by simp))).le ?_
    intro x hx
    have := HM2.out.size; have := HZ.out; have := HZ2.out; have := HPB.out; have := HVB.out
    simp only [CaI.F, List.map_nil, List.mem_cons, List.not_mem_nil, or_false] at hx
    rcases hx with rfl | rfl | rfl | rfl | rfl | rfl | rfl | rfl
    · exact .inr (by omega)
    · exact .inr (by omega)
    · exact .inr (by omega)
    · exact .inr (by omega)
    · exact .inl (by simp)
    · exact .inl (by simp)
    · exact .inl (by simp)
    · exact .inr (by omega)
  have HBS := Lib.hid hbs; have HST := Lib.hid hst
  have hpl2 : G.pages.length ≤ 160 := by omega
  clear hm3 hb3 hcs3 hbs hst hlc hla hl1 hl2 hl3 hl4 hl5
  refine (xbegin_c w2.heap.size c _ G s tabs w3 HBS.out HS.out hl hpl2 HD.out).mono ?_
  rintro x w4 ⟨t, TI, rfl, ht4, hb4, hc4, hd4, hs4⟩
  have HT4 := Lib.hid ht4; have HB4 := Lib.hid hb4; have HC4 := Lib.hid hc4; have HD4 := Lib.hid hd4; have HS4 := Lib.hid hs4
  clear ht4 hb4 hc4 hd4 hs4
  go_wp2_with fail
  refine (Abort_c t TI _ w4 HT4.out rfl).mono ?_
  rintro x w5 ⟨rfl, J5, ht5, hs5, hk5⟩
  dsimp only at ht5
  have hbF : TI.b ∉ J5.I.F J5.ca := fun hm => ht5.fb (List.mem_append_right _ hm)
  have hfin : OpenP d sb ub G w (.returned (.tuple #[pt w2.heap.size, .int .i64 0])) w5 := by
    refine ⟨w2.heap.size, J5.ca, J5.I, rfl, ⟨?_, ht5.wk.ca, by rw [← HB4.out]; exact hbF⟩, ?_, ?_⟩
    · rw [← HB4.out]; exact ht5.bs
    · exact (WkI.d_of hk5).trans HD4.out
    · refine ((HST.out.trans HS4.out).trans hs5).le ?_
      intro x hx
      refine .inl ?_
      rw [← HB4.out] at hx
      simp only [TxI.F, WkI.F, List.mem_cons, List.mem_append] at hx ⊢
      rcases hx with hx | hx
      · exact .inr (.inl hx)
      · exact .inr (.inr (.inr (.inr hx)))
  have HF := Lib.hid hfin
  clear ht5 hs5 hk5 hbF hfin
  go_wp2_with fail
  go_ret2
  exact HF.out
end Go.Proofs.YtoffondipgjcoaaGreatDoor

/- lives: what the plain functions answer there. -/
set_option linter.unusedVariables false
set_option maxRecDepth 100000
set_option linter.unusedSimpArgs false
namespace Go.Proofs.YtoffondipgjcoaaGreatDoor
open Go.RowKit

def lD0 : Dev := newDev 150
def lG0 : Pg := openG lD0 6
def lS0 : Bytes := lG0.pages.getD 0 []
def lW0 : Wk := Wk.begin lG0
def lTk : Nat × Wk × Nat := lW0.save.2.take
def lPg : Bytes × Nat := (leafN [([97], [49])]).write
def lWr : Wk × Nat := lTk.2.1.write lTk.1 lPg.1
def lTb : Tabs := [([116], (1, 1))]
def lSh : Wk × Nat := lWr.1.setHead (headWr lTb)
def lCm : Wk × Int := lSh.1.commit
def lD1 : Dev := lCm.1.G.dev
def lG1 : Pg := openG lD1 6
def lS1 : Bytes := lG1.pages.getD 0 []
def lW1 : Wk := Wk.begin lG1
theorem l_d0 : lD0.sure.length = 126 + 4 * 6 ∧ (lD0.read 0).headD 0 = 0 := by decide +kernel
theorem l_s0 : lG0.pages[0]? = some lS0 ∧ lS0.length = 256 ∧ lG0.pages.length ≤ 160 ∧ headRd (lS0.drop 20) = some [] := by decide +kernel
theorem l_tk : lTk.1 = 1 ∧ lTk.2.2 = 0 ∧ lPg.2 = 0 ∧ lWr.2 = 0 ∧ lW0.over = false ∧ lW0.notes.length ≤ 1000000 := by decide +kernel
theorem l_sh : lSh.2 = 0 ∧ (headWr lTb).length ≤ 1000000000 ∧ lSh.1.over = false ∧ lCm.2 = 0 := by decide +kernel
theorem l_ok1 : lSh.1.now.head.length = 236 ∧ (∀ p ∈ lSh.1.now.pages, 1 ≤ p.1 ∧ p.1 < lSh.1.G.pages.length ∧ p.2.length = 256) ∧ (∀ s ∈ lSh.1.G.pages, s.length = 256) ∧ lSh.1.now.pages.length ≤ 1000 := by decide +kernel
theorem l_ok2 : 1 ≤ lSh.1.G.pages.length ∧ lSh.1.G.pages.length ≤ 160 ∧ lSh.1.G.dev.sure.length = 126 + 4 * lSh.1.G.pages.length ∧ 0 ≤ lSh.1.G.dev.calls ∧ lSh.1.G.dev.calls + 1000 ≤ 4611686018427387904 ∧ 0 ≤ lSh.1.G.commits ∧ lSh.1.G.commits + 1 ≤ 4611686018427387904 := by decide +kernel
theorem l_ok3 : (lSh.1.changes.map (·.1)).Nodup ∧ (∀ c ∈ lSh.1.changes, c.1 < lSh.1.G.pages.length) ∧ (∀ c ∈ lSh.1.changes, c.2.length = 256) ∧ lSh.1.changes.length ≤ 1000 := by decide +kernel
theorem l_com : ComOK lSh.1 := ⟨⟨l_ok1.1, l_ok1.2.1, l_ok1.2.2.1, l_ok1.2.2.2⟩, ⟨l_ok1.2.2.1, l_ok2.1, l_ok2.2.1, l_ok2.2.2.1, l_ok2.2.2.2.1, l_ok2.2.2.2.2.1, l_ok2.2.2.2.2.2.1, l_ok2.2.2.2.2.2.2⟩, ⟨l_ok3.1, l_ok3.2.1, l_ok3.2.2.1⟩, l_ok3.2.2.2⟩
theorem l_d1 : lD1.sure.length = 126 + 4 * 6 ∧ (lD1.read 0).headD 0 = 0 := by decide +kernel
theorem l_s1 : lG1.pages[0]? = some lS1 ∧ lS1.length = 256 ∧ lG1.pages.length ≤ 160 ∧ headRd (lS1.drop 20) = some lTb := by decide +kernel
theorem l_rd : (lW1.read 1).2 = 0 ∧ (LR.num ⟨(lW1.read 1).1, 0⟩ 1).1 = 1 := by decide +kernel
theorem l_lf : Nd.read (lW1.read 1).1 = (leafN [([97], [49])], 0) := by kernel_rfl
theorem l_leaf : LeafPage (lW1.read 1).1 [([97], [49])] := ⟨l_rd.2, l_lf⟩
theorem l_fd : ((leafN [([97], [49])]).find [97]).2 = true ∧ (([([97], [49])] : List (Bytes × Bytes))[((leafN [([97], [49])]).find [97]).1]?).map (·.2) = some [49] := by decide +kernel
theorem l_us : 1 + (lTb.map fun _ => 1).sum = lW1.used ∧ lW1.over = false := by decide +kernel
theorem l_nm : rightB [116] = true := name_right _ (by decide)
end Go.Proofs.YtoffondipgjcoaaGreatDoor

/- lives, walked. -/
set_option linter.unusedVariables false
set_option maxRecDepth 100000
set_option linter.unusedSimpArgs false
namespace Go.Proofs.YtoffondipgjcoaaGreatDoor
open Go.RowKit

theorem Stp.mod0 {F F' : List Nat} {w a b : World} (h : Stp F F' a b) (hm : Mod [] w a) (hF : ∀ x ∈ F, w.heap.size ≤ x) : Mod [] w b ∧ ∀ x ∈ F', w.heap.size ≤ x :=
  ⟨hm.trans h.mod (fun x hx => .inr (hF x hx)), fun x hx => (h.sub x hx).elim (hF x) (Nat.le_trans hm.size)⟩
theorem l_get0 (k : Nat) (W : Wk) (key : Bytes) : TGet k W 0 key [] false 0 := fun J w h => (Get_none k key w).mono fun x w' ⟨he, hm⟩ => ⟨he, WkP.refl h hm⟩
theorem l_put (k : Nat) : TPut k lW0 0 [97] [49] 1 0 lWr.1 := fun J w h => by
  have ht : lW0.save.2.take = (1, lTk.2.1, 0) := Prod.ext l_tk.1 (Prod.ext rfl l_tk.2.1)
  have hw : (leafN [([97], [49])]).write = (lPg.1, 0) := Prod.ext rfl l_tk.2.2.1
  have hp : lTk.2.1.write ((1 : Nat) : Int) lPg.1 = (lWr.1, 0) := by
    have h1 : lTk.2.1.write (lTk.1 : Int) lPg.1 = (lWr.1, 0) := Prod.ext rfl l_tk.2.2.2.1
    rw [l_tk.1] at h1
    exact h1
  exact tput_c k 1 J lW0 lTk.2.1 lWr.1 [97] [49] lPg.1 w h l_tk.2.2.2.2.1 l_tk.2.2.2.2.2 (by simp) (by decide) (by decide) ht hw hp
theorem l_rdd : lW1.read 1 = ((lW1.read 1).1, 0) := Prod.ext rfl l_rd.1
theorem l_get1 (k : Nat) : TGet k lW1 1 [97] [49] true 0 := fun J w h => Get_leaf k 1 J lW1 [97] [49] (lW1.read 1).1 [([97], [49])] w h (by decide) (by decide) l_rdd l_leaf l_fd.1 l_fd.2 (by decide)
theorem l_snd (k : Nat) : TSnd k lW1 1 1 := fun J w h => (Sound_leaf k 1 J lW1 (lW1.read 1).1 [([97], [49])] w h (by decide) l_rdd l_leaf (by decide) (by decide)).mono fun x w' ⟨he, hp⟩ => ⟨⟨1, he⟩, hp⟩
theorem l_scn (k : Nat) : TScn k lW1 1 1 := fun J w h => Scan_leaf k 1 J lW1 (lW1.read 1).1 [([97], [49])] w h (by decide) l_rdd l_leaf (by decide)
set_option maxHeartbeats 4000000 in
theorem lives_c (w : World) : Calls Tryz.prog 5 #[] w fun x w' => x = .returned (.bool true) ∧ Mod [] w w' := by
  go_enter Tryz.func5, Tryz.ntmps5
  go_wp2_with fail
  refine (need_c 6 w (by omega)).mono ?_
  rintro x w1 ⟨rfl, rfl⟩
  go_wp2_with fail
  refine (New_c 150 w (by decide)).mono ?_
  rintro x w1 ⟨d, sb, ub, rfl, hm1, hd1, hb1, hb2, hb3⟩
  have HM1 := Lib.hid hm1; have HD1 := Lib.hid (show DevR w1 d sb ub lD0 from hd1)
  have HB := Lib.hid (show ∀ x ∈ [d, sb, ub], w.heap.size ≤ x from by intro x hx; simp at hx; rcases hx with rfl | rfl | rfl <;> assumption)
  clear hm1 hd1 hb1 hb2 hb3
  go_wp2_with fail
  refine (bopen_c d sb ub 6 lD0 lS0 [] w1 HD1.out (by decide) (by decide) l_d0.1 l_d0.2 l_s0.1 l_s0.2.1 l_s0.2.2.2).mono ?_
  rintro x w2 ⟨b, ca, I, rfl, hbs, hid, hst⟩
  obtain ⟨hm2, hf2⟩ := hst.mod0 HM1.out HB.out
  have HBS := Lib.hid hbs; have HID := Lib.hid hid; have HM2 := Lib.hid hm2; have HF2 := Lib.hid hf2
  clear hbs hid hst hm2 hf2
  go_wp2_with fail
  refine (xbegin_c b ca I lG0 lS0 [] w2 HBS.out l_s0.1 l_s0.2.1 l_s0.2.2.1 l_s0.2.2.2).mono ?_
  rintro x w3 ⟨t, T, rfl, ht3, hb3, hc3, hd3, hs3⟩
  obtain ⟨hm3, hf3⟩ := hs3.mod0 HM2.out HF2.out
  have HT3 := Lib.hid (show TxR w3 t T ⟨lW0, [], [], false, true, false⟩ from ht3); have HD3 := Lib.hid (hd3.trans HID.out); have HM3 := Lib.hid hm3; have HF3 := Lib.hid hf3
  clear ht3 hb3 hc3 hd3 hs3 hm3 hf3
  go_wp2_with fail
  refine (Make_c t T _ [116] w3 HT3.out rfl rfl l_nm (by decide)).mono ?_
  rintro x w4 ⟨rfl, J4, ht4, hs4, hk4⟩
  obtain ⟨hm4, hf4⟩ := hs4.mod0 HM3.out HF3.out
  have HT4 := Lib.hid (show TxR w4 t { T with J := J4 } ⟨lW0, [([116], (0, 0))], [], false, true, false⟩ from ht4); have HD4 := Lib.hid (show ({ T with J := J4 } : TxI).J.I.d = d from (WkI.d_of hk4).trans HD3.out); have HM4 := Lib.hid hm4; have HF4 := Lib.hid hf4
  clear ht4 hs4 hk4 hm4 hf4
  generalize ({ T with J := J4 } : TxI) = T4 at *
  go_wp2_with fail
  refine (xput_c t T4 _ [116] [97] [49] [] false 0 0 1 lWr.1 w4 HT4.out rfl rfl (by decide) (l_get0 T4.k lW0 [97]) (l_put T4.k)).mono ?_
  rintro x w5 ⟨rfl, J5, ht5, hs5, hk5⟩
  obtain ⟨hm5, hf5⟩ := hs5.mod0 HM4.out HF4.out
  have HT5 := Lib.hid (show TxR w5 t { T4 with J := J5 } ⟨lWr.1, lTb, [], false, true, false⟩ from ht5); have HD5 := Lib.hid (show ({ T4 with J := J5 } : TxI).J.I.d = d from (WkI.d_of hk5).trans HD4.out); have HM5 := Lib.hid hm5; have HF5 := Lib.hid hf5
  clear ht5 hs5 hk5 hm5 hf5
  generalize ({ T4 with J := J5 } : TxI) = T5 at *
  go_wp2_with fail
  refine (xcommit_c t T5 _ lSh.1 lCm.1 w5 HT5.out rfl rfl l_sh.2.2.1 (by decide) (by decide) (Prod.ext rfl l_sh.1) l_sh.2.1 l_com (Prod.ext rfl l_sh.2.2.2)).mono ?_
  rintro x w6 ⟨rfl, J6, ht6, hs6, hk6⟩
  obtain ⟨hm6, hf6⟩ := hs6.mod0 HM5.out HF5.out
  have hdv : DevR w6 J6.I.d J6.I.sb J6.I.ub lD1 := ht6.wk.ca.pg.dev
  rw [(WkI.d_of hk6).trans HD5.out] at hdv
  have hown : ∀ x ∈ [d, J6.I.sb, J6.I.ub], w.heap.size ≤ x := by
    intro x hx
    rw [← (WkI.d_of hk6).trans HD5.out] at hx
    refine hf6 x ?_
    simp only [TxI.F, WkI.F, CaI.F, List.mem_cons, List.mem_append, List.not_mem_nil, or_false] at hx ⊢
    rcases hx with h | h | h <;> simp [h]
  generalize J6.I.sb = sb2 at *
  generalize J6.I.ub = ub2 at *
  have HDV := Lib.hid hdv; have HOW := Lib.hid hown; have HM6 := Lib.hid hm6
  clear ht6 hs6 hk6 hm6 hf6 hdv hown
  go_wp2_with fail
  refine (bopen_c d sb2 ub2 6 lD1 lS1 lTb w6 HDV.out (by decide) (by decide) l_d1.1 l_d1.2 l_s1.1 l_s1.2.1 l_s1.2.2.2).mono ?_
  rintro x w7 ⟨b7, ca7, I7, rfl, hbs, hid, hst⟩
  obtain ⟨hm7, hf7⟩ := hst.mod0 HM6.out HOW.out
  have HBS7 := Lib.hid hbs; have HM7 := Lib.hid hm7; have HF7 := Lib.hid hf7
  clear hbs hid hst hm7 hf7
  go_wp2_with fail
  refine (xbegin_c b7 ca7 I7 lG1 lS1 lTb w7 HBS7.out l_s1.1 l_s1.2.1 l_s1.2.2.1 l_s1.2.2.2).mono ?_
  rintro x w8 ⟨t8, T8, rfl, ht8, hb8, hc8, hd8, hs8⟩
  obtain ⟨hm8, hf8⟩ := hs8.mod0 HM7.out HF7.out
  have HT8 := Lib.hid (show TxR w8 t8 T8 ⟨lW1, lTb, [], false, true, false⟩ from ht8); have HM8 := Lib.hid hm8; have HF8 := Lib.hid hf8
  clear ht8 hb8 hc8 hd8 hs8 hm8 hf8
  go_wp2_with fail
  refine (xget_c t8 T8 _ [116] [97] [49] true 0 1 1 w8 HT8.out rfl rfl (l_get1 T8.k)).mono ?_
  rintro x w9 ⟨rfl, J9, ht9, hs9, hk9⟩
  obtain ⟨hm9, hf9⟩ := hs9.mod0 HM8.out HF8.out
  have HT9 := Lib.hid (show TxR w9 t8 { T8 with J := J9 } ⟨lW1, lTb, [], false, true, false⟩ from ht9); have HM9 := Lib.hid hm9; have HF9 := Lib.hid hf9
  clear ht9 hs9 hk9 hm9 hf9
  generalize ({ T8 with J := J9 } : TxI) = T9 at *
  have hst : str [49] = ⟨#[49]⟩ := rfl
  rw [hst]
  clear hst
  go_wp2_with fail
  refine (xsound_c t8 T9 _ (fun _ => 1) w9 HT9.out rfl l_us.2 (by decide) (fun p hp => ?_)).mono ?_
  · obtain rfl : p = ([116], (1, 1)) := by simpa [lTb] using hp
    exact ⟨l_snd T9.k, l_scn T9.k, by decide⟩
  rintro x w10 ⟨rfl, J10, ht10, hs10, hk10⟩
  obtain ⟨hm10, hf10⟩ := hs10.mod0 HM9.out HF9.out
  have hdu : decide (1 + (lTb.map fun _ => 1).sum = lW1.used) = true := decide_eq_true l_us.1
  have HM10 := Lib.hid hm10
  dsimp only
  rw [hdu]
  clear ht10 hs10 hk10 hm10 hf10 hdu
  go_wp2_with fail
  go_ret
  exact ⟨rfl, HM10.out⟩
end Go.Proofs.YtoffondipgjcoaaGreatDoor
