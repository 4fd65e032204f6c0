/- Part 9 of 27 of the contracts below the law: each theorem states, of one function of the program, at a world of the form that its premises name, what the call answers and what it leaves. -/
import Derived.Test.YtoffondipgjcoaaGreatDoorP8
import Derived.Test.YtoffondipgjcoaaGreatDoorP2
/- The contracts of package undo: joining, directories. -/
set_option linter.unusedVariables false
set_option maxRecDepth 100000
set_option linter.unusedSimpArgs false
namespace Go.Proofs.YtoffondipgjcoaaGreatDoor
open Go.RowKit

theorem own_slice {w : World} {B e k n : Nat} {v : Value} {xs : List Value} (h : w.ownsRow B e k v n xs) (hn : 0 < n) : ∃ g cap, v = .slice (some ⟨g, 0, none⟩) n cap ∧ B ≤ g ∧ g < w.heap.size ∧ n ≤ cap ∧ ∀ j, j < n * k → w.cell? ⟨g, j, none⟩ = xs[j]? := by
  obtain ⟨hl, h2⟩ := h
  rcases h2 with ⟨rfl, rfl⟩ | ⟨g, cap, cur, rfl, hbg, hh, h1, h2, h3, h4⟩
  · omega
  · refine ⟨g, cap, rfl, hbg, lt_of_block hh, h1, fun j hj => ?_⟩
    rw [(cells_of hh).1, ← h4, List.getElem?_take, if_pos hj]; simp
theorem own_form {w : World} {B e k n : Nat} {v : Value} {xs : List Value} (h : w.ownsRow B e k v n xs) : ∃ ao c, v = .slice ao n c := by
  rcases h.2 with ⟨rfl, rfl⟩ | ⟨g, cap, cur, rfl, _⟩
  · exact ⟨_, _, rfl⟩
  · exact ⟨_, _, rfl⟩
theorem join_nil (l : List (List UInt8)) : Lib.join l [] = l.flatten := by
  induction l with
  | nil => rfl
  | cons x l ih =>
    cases l with
    | nil => simp [Lib.join]
    | cons y l =>
      have h1 : Lib.join (x :: y :: l) [] = x ++ Lib.join (y :: l) [] := by
        have : List.intersperse [] (x :: y :: l) = x :: [] :: List.intersperse [] (y :: l) := rfl
        simp [Lib.join, List.intercalate, this]
      rw [h1, ih]; rfl
theorem flatten_len (l : List (List UInt8)) (h : ∀ s ∈ l, s.length = 64) : l.flatten.length = 64 * l.length := by
  induction l with
  | nil => rfl
  | cons s l ih => rw [List.flatten_cons, List.length_append, ih (fun t ht => h t (by simp [ht])), h s (by simp), List.length_cons]; omega
set_option maxHeartbeats 1000000 in
theorem Join_c (B : Nat) (v : Value) (l : List (List UInt8)) (hl : l.length = 4) (h6 : ∀ s ∈ l, s.length = 64) (w : World) (h : Strs w B v l) :
    Calls Tryz.prog 165 #[v] w fun e w' => e = .returned (.tuple #[.string (str l.flatten), .int .i64 0]) ∧ Mod [] w w' := by
  obtain ⟨g, cap, rfl, hB, hg, hcap, hc⟩ := own_slice h (by omega)
  have hflat : (l.map str).flatMap strc = l.map fun s => .string (str s) := by
    rw [List.flatMap_map, List.map_eq_flatMap]; rfl
  have hrd : ∀ w', Mod [] w w' → RdS w' 1 (some ⟨g, 0, none⟩) (l.map str).length ((l.map str).flatMap strc) := fun w' hm => by
    rw [hflat]
    refine ⟨by simp, by simp; omega, fun _ => ⟨g, 0, rfl, fun j hj => ?_⟩⟩
    have hjl : j < l.length := by simpa using hj
    have h1 := hc j (by omega)
    rw [List.getElem?_eq_getElem (by simpa using hjl)] at h1 ⊢
    rw [Nat.zero_add]
    exact cell_mod hm h1 (by simp)
  have hany : (l.map str).any (fun b => b.size != 64) = false := by
    rw [List.any_eq_false]; intro b hb; simp at hb; obtain ⟨s, hs, rfl⟩ := hb; simp [str_size, h6 s hs]
  have CF : ∀ w', Mod [] w w' → Calls Tryz.prog 214 #[.slice (some ⟨g, 0, none⟩) 4 cap, .func (.func 215) #[] #[]] w' fun e w'' => e = .returned (.bool false) ∧ Mod [] w' w'' := fun w' hm => by
    have h1 := ContainsFunc_str 215 (fun args w => rfl) (fun b => b.size != 64) _ cap _ w' (hrd w' hm) (by
      intro x hx w'
      simp at hx
      obtain ⟨s, hs, rfl⟩ := hx
      exact (Join1_c s w').mono fun e w'' ⟨he, hw⟩ => ⟨by rw [he]; rfl, by rw [hw]; exact Mod.refl _ _⟩)
    rw [hany, show (l.map str).length = 4 by simp [hl]] at h1
    exact h1
  have JN : ∀ w', Mod [] w w' → Calls Tryz.prog 216 #[.slice (some ⟨g, 0, none⟩) 4 cap, .string ⟨#[]⟩] w' fun e w'' => e = .returned (.string (str l.flatten)) ∧ Mod [] w' w'' := fun w' hm => by
    have h1 := Tryz.strings_Join g 0 cap (l.map str) ⟨#[]⟩ w' (by
      intro j x hx
      have h2 := (hrd w' hm).cell (by simp; omega)
      obtain ⟨b, off, hb, hcc⟩ := h2
      cases hb
      have hj : j < l.length := by have := (List.getElem?_eq_some_iff.1 hx).1; simpa using this
      rw [hcc j (by simpa using hj), hflat]
      simp at hx ⊢
      obtain ⟨s, hs, rfl⟩ := hx
      simp [hs]) (Nat.lt_of_lt_of_le hg hm.size) (by simp; omega) (by simp; omega) (by
        have : ((l.map str).map (·.data.toList)) = l := by simp [str, Function.comp_def]
        rw [this, show (⟨#[]⟩ : ByteArray).data.toList = [] from rfl, join_nil, flatten_len l h6]; omega)
    have h3 : ((l.map str).map (·.data.toList)) = l := by simp [str, Function.comp_def]
    rw [h3, show (⟨#[]⟩ : ByteArray).data.toList = [] from rfl, join_nil, show (l.map str).length = 4 by simp [hl]] at h1
    exact h1.mono fun e w'' ⟨he, hb⟩ => ⟨he, Mod.ofBelow hb⟩
  clear hrd hany hflat hc h6 h
  have hsz : (str l.flatten).size ≤ 1000000 ∨ True := .inr trivial
  rw [hl]
  clear hl
  have HC := Lib.hid CF; have HJ := Lib.hid JN
  clear CF JN
  go_enter Tryz.func165, Tryz.ntmps165
  go_wp2_with fail
  refine (HC.out w (Mod.refl _ _)).mono ?_
  rintro e w1 ⟨rfl, hm1⟩
  have HM1 := Lib.hid hm1
  clear hm1
  go_wp2_with fail
  refine (HJ.out w1 HM1.out).mono ?_
  rintro e w2 ⟨rfl, hm2⟩
  have HM2 := Lib.hid hm2
  clear hm2
  go_wp2_with fail
  go_ret2
  exact ⟨rfl, HM1.out.trans HM2.out (by simp)⟩
theorem Fits_c (n : Nat) (w : World) (hn : n < 18446744073709551616) :
    Calls Tryz.prog 264 #[.int .u64 n, .int .i64 2] w fun e w' => e = .returned (.bool (decide (n < 65536))) ∧ w = w' := by
  go_enter Tryz.func264, Tryz.ntmps264
  go_wp2_with fail
  refine (wide_c _ _).mono ?_
  rintro e w' ⟨rfl, rfl⟩
  rw [show wideN 2 = 2 from rfl]
  go_wp2_with fail
  go_ret
  refine ⟨ret_bool ?_, rfl⟩
  rw [Bool.eq_iff_iff]; simp; omega
theorem zero_int (w : World) : (zeroValue 3).run Tryz.prog w = .ok (.int .i64 0) w := Tryz.zeroValue3 w
theorem wpList_load_cell {P : Program} {ops : Array Oper} {rest : List Oper} {o : Oper} {a : Act} {Q : Exit → Act → World → Prop} {w : World} : True := trivial
set_option maxHeartbeats 1000000 in
theorem right_c (ao : Option Addr) (c : Nat) (l : List Nat) (w : World) (hl : ∀ n ∈ l, n < 65536) (hd : l.Nodup) (hlen : l.length ≤ 1000) (h : RdS w 1 ao l.length (l.flatMap fun n : Nat => intc (n : Int))) :
    Calls Tryz.prog 217 #[.slice ao l.length c] w fun e w' => e = .returned (.bool true) ∧ Mod [] w w' := by
  have hmm := @run_makeMap Tryz.prog
  have HC := Lib.hid h; have HL := Lib.hid hl; have HD := Lib.hid hd
  clear hl hd h
  go_enter Tryz.func217, Tryz.ntmps217
  go_wp2_with fail
  go_loopw [9] (fun i wr => ∃ j : Nat, j ≤ l.length ∧ i = .int .i64 j ∧ Mod [] w wr ∧ MapAt wr w.heap.size (mkv intK intK ((l.take j).map fun n : Nat => ((n : Int), (1 : Int))))) (fun i _ => l.length - (intOf i).toNat)
  case atStart => exact ⟨0, Nat.zero_le _, rfl, ((Mod.refl _ _).alloc _), MapAt.new _⟩
  case round =>
    obtain ⟨j, hj, rfl, hm, hmap⟩ := hrel
    by_cases hlt : j < l.length
    · obtain ⟨b, off, rfl, hcc⟩ := (HC.out.mod hm (by simp)).at (fun x => rfl) (List.getElem?_eq_getElem hlt)
      have hc0 := hcc 0 (by omega)
      simp only [Nat.mul_one, Nat.add_zero, intc, List.getElem?_cons_zero] at hc0
      have hno : ∀ p ∈ (l.take j).map (fun n : Nat => ((n : Int), (1 : Int))), p.1 ≠ (l[j] : Int) := by
        intro p hp
        obtain ⟨x, hx, rfl⟩ := List.mem_map.1 hp
        intro he
        have he' : x = l[j] := Int.ofNat_inj.1 he
        subst he'
        have h2 : (l.take (j + 1)).Nodup := HD.out.sublist (List.take_sublist _ _)
        rw [List.take_succ_eq_append_getElem hlt, List.nodup_append] at h2
        exact h2.2.2 _ hx _ (by simp) rfl
      have hl1 : alook ((l.take j).map fun n : Nat => ((n : Int), (1 : Int))) (l[j] : Int) = none := alook_none hno
      have hlk : ∀ k : Int, (Instr.lookup 176 (.map (some w.heap.size)) (.int .i64 k) false).run Tryz.prog wr = _ := fun k => run_lookup_map (P := Tryz.prog) 176 3 Tryz.underlying176 (keyOK_int Tryz.underlying3) (.int .i64 0) zero_int hmap k false
      have hlj := hlk (l[j] : Int)
      rw [hl1] at hlj
      have hlj' : ∀ k : Int, k = (l[j] : Int) → (Instr.lookup 176 (.map (some w.heap.size)) (.int .i64 k) false).run Tryz.prog wr = .ok (.int .i64 0) wr := by rintro k rfl; exact hlj
      have hbig := HL.out _ (List.getElem_mem hlt)
      have HMAP := Lib.hid hmap; have HNO := Lib.hid hno; have HM := Lib.hid hm
      clear hlk hlj hl1 hno hcc hmap hm
      generalize hX : l[j] = X at *
      have HX := Lib.hid hX; clear hX
      have hq := hlj' X rfl
      clear hlj'
      go_wp2_with (with_reducible refine stop_map _ _ _ _ rfl ?_)
      refine Stop.go ?_
      refine wpList_mapUpdate rfl 176 3 _ _ _ rfl Tryz.underlying176 (keyOK_int Tryz.underlying3) (enc := intK) w.heap.size _ (X : Int) (1 : Int) rfl rfl rfl HMAP.out ?_ ?_
      · rw [List.map_map]
        exact List.Pairwise.map _ (fun a b hab he => hab (Int.ofNat_inj.1 he)) (HD.out.sublist (List.take_sublist _ _))
      intro w1 hm1 hmap1 hz1
      rw [aput_none HNO.out] at hmap1
      have hlk : ∀ k : Int, (Instr.lookup 176 (.map (some w.heap.size)) (.int .i64 k) false).run Tryz.prog w1 = _ := fun k => run_lookup_map (P := Tryz.prog) 176 3 Tryz.underlying176 (keyOK_int Tryz.underlying3) (.int .i64 0) zero_int hmap1 k false
      have hlj := hlk (X : Int)
      have hl1 : alook ((l.take j).map (fun n : Nat => ((n : Int), (1 : Int))) ++ [((X : Int), (1 : Int))]) (X : Int) = some 1 := by
        rw [← aput_none HNO.out, alook_aput]; simp
      rw [hl1] at hlj
      have hlj' : ∀ k : Int, k = (X : Int) → (Instr.lookup 176 (.map (some w.heap.size)) (.int .i64 k) false).run Tryz.prog w1 = .ok (.int .i64 1) w1 := by rintro k rfl; exact hlj
      have hq1 := hlj' X rfl
      have HMAP1 := Lib.hid hmap1; have HM1 := Lib.hid hm1
      clear hlk hlj hlj' hl1 hmap1 hm1 hz1 hq
      go_wp2_with fail
      refine (Fits_c X _ (by omega)).mono ?_
      rintro e w' ⟨rfl, rfl⟩
      rw [show decide (X < 65536) = true from by simpa using hbig]
      go_wp2_with fail
      go_roundw
      case rel =>
        refine ⟨j + 1, by omega, by go_num, HM.out.trans HM1.out (by simp), ?_⟩
        rw [List.take_succ_eq_append_getElem hlt, List.map_append, HX.out]
        exact HMAP1.out
      case measure => simp [intOf]; omega
    · go_wp2_with fail
      go_ret
      exact ⟨rfl, hm⟩
end Go.Proofs.YtoffondipgjcoaaGreatDoor

/- The contracts of package undo: a directory's sector; pack.Str. -/
set_option linter.unusedVariables false
set_option maxRecDepth 100000
set_option linter.unusedSimpArgs false
namespace Go.Proofs.YtoffondipgjcoaaGreatDoor
open Go.RowKit

def dirL (l : List Nat) : List UInt8 := wholeL (UInt8.ofNat l.length :: l.flatMap fun n => be n 2)
theorem dir_len (l : List Nat) : (l.flatMap fun n => be n 2).length = 2 * l.length := by
  induction l with
  | nil => rfl
  | cons x l ih => rw [List.flatMap_cons, List.length_append, ih, List.length_cons]; simp [be]; omega
theorem Bts.rd {w : World} {B : Nat} {v : Value} {l : List UInt8} (h : Bts w B v l) (h0 : 0 < l.length) (hb : l.length ≤ 140737488355328) : ∃ ao c, v = .slice ao l.length c ∧ RdS w 1 ao l.length (bcs l) := by
  obtain ⟨ao, c, hv, hr, _⟩ := RdS.ofOwn h hb
  exact ⟨ao, c, hv, hr⟩
theorem own_lit (w : World) (B e k : Nat) (cs : List Value) (n : Nat) (hB : B ≤ w.heap.size) (hn : cs.length = n * k) (hm : n ≤ 1000000000) : (w.alloc (.cells cs.toArray e)).ownsRow B e k (.slice (some ⟨w.heap.size, 0, none⟩) n n) n cs :=
  ⟨hn, .inr ⟨w.heap.size, n, _, rfl, hB, hp_new _ _, Nat.le_refl _, by simp only [maxLen]; omega, by simpa using hn, by rw [← hn]; simp⟩⟩
set_option maxHeartbeats 1000000 in
theorem uWrite_c (ao : Option Addr) (c : Nat) (l : List Nat) (w : World) (hl : ∀ n ∈ l, n < 65536) (hd : l.Nodup) (hlen : l.length ≤ 31) (h : RdS w 1 ao l.length (l.flatMap fun n : Nat => intc (n : Int))) :
    Calls Tryz.prog 247 #[.slice ao l.length c] w fun e w' => e = .returned (.tuple #[.string (str (dirL l)), .int .i64 0]) ∧ Mod [] w w' := by
  have hR := right_c ao c l w hl hd (by omega) h
  have HC := Lib.hid h; have HL := Lib.hid hl; have HR := Lib.hid hR
  clear hl hd h hR
  go_enter Tryz.func247, Tryz.ntmps247
  go_wp2_with fail
  refine HR.out.mono ?_
  rintro e w1 ⟨rfl, hm1⟩
  have HM1 := Lib.hid hm1
  have hs1 := hm1.size
  clear hm1
  go_wp2_with fail
  go_loopw [4, 21] (fun v i wr => ∃ j : Nat, j ≤ l.length ∧ i = .int .i64 j ∧ Mod [] w wr ∧ Bts wr w.heap.size v (UInt8.ofNat l.length :: (l.take j).flatMap fun n => be n 2)) (fun _ i _ => l.length - (intOf i).toNat)
  case atStart =>
    refine ⟨0, Nat.zero_le _, rfl, HM1.out.alloc _, ?_⟩
    have := own_lit w1 w.heap.size 5 1 (bcs [UInt8.ofNat l.length]) 1 hs1 rfl (by decide)
    have h2 : ((UInt8.ofNat l.length).toNat : Int) = l.length := by simp; omega
    simp only [bcs, List.map_cons, List.map_nil, h2] at this
    unfold Bts
    simp only [List.take_zero, List.flatMap_nil, bcs, List.map_cons, List.map_nil, h2, List.length_cons, List.length_nil]
    exact this
  case round =>
    obtain ⟨j, hj, rfl, hm, hv⟩ := hrel
    by_cases hlt : j < l.length
    · obtain ⟨b, off, rfl, hcc⟩ := (HC.out.mod hm (by simp)).at (fun x => rfl) (List.getElem?_eq_getElem hlt)
      have hc0 := hcc 0 (by omega)
      simp only [Nat.mul_one, Nat.add_zero, intc, List.getElem?_cons_zero] at hc0
      have hbig := HL.out _ (List.getElem_mem hlt)
      have HM := Lib.hid hm; have HV := Lib.hid hv; have hsz := hm.size
      clear hm hv hcc
      generalize hX : l[j] = X at *
      have HX := Lib.hid hX; clear hX
      go_wp2_with fail
      refine (pNum_c w.heap.size _ _ X 2 _ hsz HV.out (by omega) (by simp only [List.length_cons, dir_len, List.length_take]; omega)).mono ?_
      rintro e w2 ⟨v2, rfl, hv2, hg2⟩
      have HG := Lib.hid hg2; have HV2 := Lib.hid hv2
      clear hg2 hv2
      go_wp2_with fail
      go_roundw
      case rel =>
        refine ⟨j + 1, by omega, by go_num, HM.out.trans HG.out.mod (fun x hx => ?_), ?_⟩
        · simp at hx; exact .inr (own_lt HV.out x hx).1
        · rw [List.take_succ_eq_append_getElem hlt, HX.out, List.flatMap_append]
          have := HV2.out
          simpa [show wideN 2 = 2 from rfl] using this
      case measure => simp [intOf]; omega
    · obtain rfl : j = l.length := by omega
      rw [List.take_length] at hv
      have hWl : (UInt8.ofNat l.length :: l.flatMap fun n => be n 2).length ≤ 63 ∧ 0 < (UInt8.ofNat l.length :: l.flatMap fun n => be n 2).length := by simp only [List.length_cons, dir_len]; omega
      have hD : dirL l = wholeL (UInt8.ofNat l.length :: l.flatMap fun n => be n 2) := rfl
      generalize (UInt8.ofNat l.length :: l.flatMap fun n => be n 2) = W at *
      obtain ⟨a', c', rfl, hr'⟩ := hv.rd (by omega) (by omega)
      have HM := Lib.hid hm; have HR' := Lib.hid hr'; have HD := Lib.hid hD
      clear hm hv hr' hD
      go_wp2_with fail
      refine (whole_c a' c' _ _ (by omega) HR'.out (.inr (by omega))).mono ?_
      rintro e w2 ⟨rfl, hm2⟩
      have HM2 := Lib.hid hm2; clear hm2
      go_wp2_with fail
      go_ret2
      exact ⟨by rw [HD.out]; rfl, HM.out.trans HM2.out (by simp)⟩

set_option maxHeartbeats 1000000 in
theorem pStr_c (B : Nat) (v : Value) (l s : List UInt8) (w : World) (hB : B ≤ w.heap.size) (HO : Bts w B v l) (hs : s.length ≤ 255) (hl : l.length ≤ 1000000000) :
    Calls Tryz.prog 100 #[v, .string (str s)] w fun e w' => ∃ v', e = .returned v' ∧ Bts w' B v' (l ++ UInt8.ofNat s.length :: s) ∧ Grew w w' v v' := by
  have hsz : (str s).size = s.length := rfl
  have H := Lib.hid HO
  clear HO
  have hmin : min (s.length : Int) 255 = s.length := by omega
  have hex : (str s).extract 0 s.length = str s := by rw [str_sub]; simp
  go_enter Tryz.func100, Tryz.ntmps100
  go_wp2_with (at_builtin; refine wpList_app_new B 118 5 (.int .u8 0) 1 1 _ [.int .u8 _] _ rfl _ _ rfl Tryz.underlying118 Tryz.i_u8 rfl (by decide) (by decide) _ l.length _ H.out rfl 1 1 rfl rfl rfl ?_ hB ?_)
  case refine_1 => omega
  case refine_2 =>
  intro v1 w1 ho1 hg1
  have HO1 := Lib.hid ho1; have HG1 := Lib.hid hg1
  have hB1 : B ≤ w1.heap.size := Nat.le_trans hB hg1.mod.size
  clear ho1 hg1
  go_wp2_with (at_builtin; refine wpList_app_str B 118 9 5 rfl _ _ rfl Tryz.underlying118 Tryz.underlying9 Tryz.i_u8 _ (l.length + 1) _ HO1.out rfl s rfl ?_ hB1 ?_)
  case refine_1 => omega
  case refine_2 =>
  intro v2 w2 ho2 hg2
  have HO2 := Lib.hid ho2; have HG2 := Lib.hid hg2
  clear ho2 hg2
  go_wp2_with fail
  go_ret
  refine ⟨_, rfl, ?_, HG1.out.trans HG2.out⟩
  have := HO2.out
  have h2 : ((UInt8.ofNat s.length).toNat : Int) = s.length := by simp; omega
  have h3 : bcs (l ++ UInt8.ofNat s.length :: s) = bcs l ++ Value.int IntKind.u8 ↑s.length :: bcs s := by
    rw [bcs_app]; congr 1; show Value.int .u8 _ :: bcs s = _; rw [h2]
  have h4 : (l ++ UInt8.ofNat s.length :: s).length = l.length + 1 + s.length := by simp; omega
  unfold Bts
  rw [h3, h4]
  exact this
end Go.Proofs.YtoffondipgjcoaaGreatDoor
