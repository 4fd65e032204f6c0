/- Part 12 of 27 of the contracts below the law: each theorem states, of one function of the program, at a world of the form that its premises name, what the call answers and what it leaves. -/
import Derived.Test.YtoffondipgjcoaaGreatDoorP10
import Derived.Test.YtoffondipgjcoaaGreatDoorP11
/- The contracts of package cache: use. -/
set_option linter.unusedVariables false
set_option maxRecDepth 100000
set_option linter.unusedSimpArgs false
namespace Go.Proofs.YtoffondipgjcoaaGreatDoor
open Go.RowKit

theorem RgR.mod {w w' : World} {c p size am : Nat} {hits misses : Int} {xs : List Lk} {R : List Nat} (h : RgR w c p size am hits misses xs) (hm : Mod R w w') (hc : c ∉ R) (hR : ∀ x ∈ xs, x.blk ∉ R) : RgR w' c p size am hits misses xs :=
  ⟨hm.at h.at_ hc, h.seg.mod hm hR, h.nd⟩
theorem RgR.map_ne {w : World} {c p size am r : Nat} {hits misses : Int} {xs : List Lk} {kv : List (Value × Value)} (h : RgR w c p size am hits misses xs) (hm : MapAt w r kv) : r ≠ c ∧ ∀ x ∈ xs, r ≠ x.blk :=
  ⟨hm.ne h.at_, fun x hx => by
    obtain ⟨l, m, rfl⟩ := List.append_of_mem hx
    exact hm.ne h.seg.mid⟩
/-- The map has just the links. -/
def kvOK (kv : List (Int × (Nat × Nat))) (xs : List Lk) : Prop := ∀ n : Int, alook kv n = (xs.find? fun x => decide ((x.num : Int) = n)).map fun x => (x.blk, 0)
/-- What use leaves. -/
def UseP (c p am : Nat) (hits misses : Int) (xs : List Lk) (x : Lk) (w w' : World) : Prop :=
  ∃ kv', RgR w' c p 16 am hits misses ((x :: xs).take 16) ∧ MapAt w' am (mkv intK pq kv') ∧ (kv'.map (·.1)).Nodup ∧ kvOK kv' ((x :: xs).take 16) ∧ Mod (c :: am :: x.blk :: xs.map (·.blk)) w w'
set_option maxHeartbeats 2000000 in
theorem use_R (c p am : Nat) (hits misses : Int) (xs : List Lk) (kv : List (Int × (Nat × Nat))) (x : Lk) (q0 q1 : Option Addr) (w : World) (h : RgR w c p 16 am hits misses xs)
    (hx : w.heap[x.blk]? = some (.cells #[.pointer q0, .pointer q1, .int .i64 (x.num : Int), .string (str x.data)] 199 (0, 0))) (hxn : ∀ y ∈ xs, y.blk ≠ x.blk) (hxm : ∀ y ∈ xs, y.num ≠ x.num)
    (hnn : (xs.map (·.num)).Nodup) (hmap : MapAt w am (mkv intK pq kv)) (hkn : (kv.map (·.1)).Nodup)
    (hkok : ∀ n : Int, n ≠ (x.num : Int) → alook kv n = (xs.find? fun x => decide ((x.num : Int) = n)).map fun x => (x.blk, 0)) (hlen : xs.length ≤ 16) :
    Calls Tryz.prog 128 #[pt c, pt x.blk] w fun e w' => (∃ v, e = .returned v) ∧ UseP c p am hits misses xs x w w' := by
  obtain ⟨hamc, hams⟩ := h.map_ne hmap
  have hamx : am ≠ x.blk := hmap.ne hx
  have hkv1 : kvOK (aput kv (x.num : Int) (x.blk, 0)) (x :: xs) := by
    intro n
    rw [alook_aput]
    by_cases hn : n = (x.num : Int)
    · subst hn; simp
    · rw [if_neg hn, hkok n hn, List.find?_cons, decide_eq_false (fun h => hn h.symm)]
  have HKV := Lib.hid hkv1; have HKN := Lib.hid (aput_nodup hkn (x.num : Int) (x.blk, 0)); have HNN := Lib.hid hnn; have HXM := Lib.hid hxm
  have hcall := first_R c p 16 am hits misses xs x q0 q1 w h (by omega) hx hxn
  have HC := Lib.hid hcall; have HM := Lib.hid hmap; have HS := Lib.hid hams; have HKN0 := Lib.hid hkn
  clear hcall hkv1 hkok hkn hnn hxm hmap hams h hx
  go_enter Tryz.func128, Tryz.ntmps128
  go_wp2_with fail
  refine HC.out.mono ?_
  rintro e w1 ⟨⟨v, rfl⟩, hr1, hm1⟩
  have hmap1 := HM.out.mod hm1 (by simp only [List.mem_cons, List.mem_map, not_or, not_exists, not_and]; exact ⟨hamc, hamx, fun y hy he => HS.out y hy he.symm⟩)
  obtain ⟨cc, fc⟩ := cells_of hr1.at_
  have c7 : w1.cell? ⟨c, 7, none⟩ = some (.map (some am)) := cc 7
  obtain ⟨cx, fx⟩ := cells_of hr1.seg.1
  have x2 : w1.cell? ⟨x.blk, 2, none⟩ = some (.int .i64 (x.num : Int)) := cx 2
  have HR1 := Lib.hid hr1; have HM1 := Lib.hid hm1; have HMAP1 := Lib.hid hmap1
  clear cc fc cx fx hr1 hm1 hmap1
  go_wp2_with fail
  (refine region_still_tail 10 Tryz.mixed (by kernel_rfl) ?_; simp only [List.take_succ_cons, List.take_zero, List.drop_succ_cons, List.drop_zero]; (iterate 10 still_step); refine wpStill_nil ?_)
  refine wpList_mapUpdate rfl 194 195 _ _ _ rfl Tryz.underlying194 (keyOK_int Tryz.underlying3) (enc := pq) am kv (x.num : Int) (x.blk, 0) rfl rfl rfl (HMAP1.out.mod ((Mod.refl [] _).drew) (by simp)) HKN0.out ?_
  intro w2 hm2 hmap2 hz2
  have hr2 := (HR1.out.mod ((Mod.refl [] _).drew) (by simp) (by simp)).mod hm2 (by simpa using Ne.symm hamc) (by
    intro y hy
    rcases List.mem_cons.1 hy with rfl | hy
    · simpa using Ne.symm hamx
    · simpa using Ne.symm (HS.out y hy))
  have hm02 := HM1.out.mono (R' := c :: am :: x.blk :: xs.map (·.blk)) (fun y hy => by simp only [List.mem_cons] at hy ⊢; rcases hy with h | h | h <;> simp [h])
  have hm02 := (hm02.drew).trans hm2 (fun y hy => .inl (by simp only [List.mem_cons, List.not_mem_nil, or_false] at hy; simp [hy]))
  obtain ⟨cc, fc⟩ := cells_of hr2.at_
  have c1 : w2.cell? ⟨c, 1, none⟩ = some (.int .i64 16) := cc 1
  have c6 : w2.cell? ⟨c, 6, none⟩ = some (.int .i64 ((x :: xs).length : Int)) := cc 6
  have c2 : w2.cell? ⟨c, 2, none⟩ = some (pq (lastA (c, 2) (x :: xs))) := cc 2
  have c7 : w2.cell? ⟨c, 7, none⟩ = some (.map (some am)) := cc 7
  have HR2 := Lib.hid hr2; have HM2 := Lib.hid hm02; have HMAP2 := Lib.hid hmap2
  clear cc fc hr2 hm2 hm02 hmap2 HC HM HR1 HM1 HMAP1 x2
  rw [List.length_cons] at c6
  by_cases hle : xs.length < 16
  · have htk : (x :: xs).take 16 = x :: xs := List.take_of_length_le (by simp; omega)
    have HTK := Lib.hid htk
    clear htk
    go_wp2_with fail
    go_quiet (fail)
    go_wp2_with fail
    go_end0
    refine ⟨⟨_, rfl⟩, _, ?_, HMAP2.out.mod ((Mod.refl [] _).drewN _) (by simp), HKN.out, ?_, HM2.out.drewN _⟩
    · rw [HTK.out]; exact HR2.out.mod ((Mod.refl [] _).drewN _) (by simp) (by simp)
    · rw [HTK.out]; exact HKV.out
  · have hl16 : xs.length = 16 := by omega
    obtain ⟨ys, z, rfl⟩ : ∃ ys z, xs = ys ++ [z] := by
      rcases List.eq_nil_or_concat xs with rfl | ⟨ys, z, rfl⟩
      · simp at hl16
      · exact ⟨ys, z, by rw [List.concat_eq_append]⟩
    have hlast : lastA (c, 2) (x :: (ys ++ [z])) = (z.blk, 0) := lastA_snoc _ (x :: ys) z
    rw [hlast] at c2
    have htk : (x :: (ys ++ [z])).take 16 = (x :: ys) ++ [] := by
      rw [List.append_nil, show x :: (ys ++ [z]) = (x :: ys) ++ [z] from rfl, List.take_left' (by simp at hl16 ⊢; exact hl16)]
    have HTK := Lib.hid htk
    have hyl : ys.length = 15 := by simpa using hl16
    clear hlast htk hl16
    go_wp2_with fail
    go_quiet (fail)
    go_wp2_with fail
    have hr2' : RgR (w2.drewN nq) c p 16 am hits misses ((x :: ys) ++ z :: []) := HR2.out.mod ((Mod.refl [] _).drewN _) (by simp) (by simp)
    have hzn := hr2'.nd
    have hzc := hr2'.ne z (by simp)
    have hz := hr2'.seg.mid
    have hmz := HMAP2.out.mod ((Mod.refl [] w2).drewN nq) (by simp)
    refine (out_R c p 16 am hits misses (x :: ys) [] z _ hr2' (by simp; omega)).mono ?_
    rintro e w3 ⟨⟨v, rfl⟩, hr3, hm3⟩
    have hzz : z.blk ∉ c :: ((x :: ys) ++ []).map (fun y : Lk => y.blk) := by
      rw [List.map_append, List.nodup_append] at hzn
      simp only [List.mem_cons, List.append_nil, not_or]
      exact ⟨hzc, fun hm => hzn.2.2 _ hm _ (by simp) rfl⟩
    have hz3 := hm3.at hz hzz
    have hmap3 := hmz.mod hm3 (by
      simp only [List.mem_cons, List.append_nil, List.mem_map, not_or, not_exists, not_and]
      refine ⟨hamc, ?_⟩
      rintro y (rfl | hy) he
      · exact hamx he.symm
      · exact HS.out y (by simp [hy]) he.symm)
    obtain ⟨cc, fc⟩ := cells_of hr3.at_
    have c7 : w3.cell? ⟨c, 7, none⟩ = some (.map (some am)) := cc 7
    obtain ⟨cz, fz⟩ := cells_of hz3
    have z2 : w3.cell? ⟨z.blk, 2, none⟩ = some (.int .i64 (z.num : Int)) := cz 2
    have HR3 := Lib.hid hr3; have HM3 := Lib.hid hm3; have HMAP3 := Lib.hid hmap3; have HMQ := Lib.hid ((Mod.refl [] w2).drewN nq)
    clear cc fc cz fz hr3 hm3 hmap3 hr2' hzn hzc hz hmz hzz hz3 c1 c2 c6
    generalize w2.drewN nq = w2q at *
    go_wp2_with fail
    (refine region_still_tail 9 Tryz.mixed (by kernel_rfl) ?_; simp only [List.take_succ_cons, List.take_zero, List.drop_succ_cons, List.drop_zero]; (iterate 9 still_step); refine wpStill_nil ?_)
    refine wpList_delete rfl 194 _ 195 _ _ rfl Tryz.underlying194 (keyOK_int Tryz.underlying3) (enc := pq) am _ (z.num : Int) rfl rfl (HMAP3.out.mod ((Mod.refl [] _).drew) (by simp)) HKN.out ?_
    intro w4 hm4 hmap4 hz4
    have hr4 := (HR3.out.mod ((Mod.refl [] _).drew) (by simp) (by simp)).mod hm4 (by simpa using Ne.symm hamc) (by
      intro y hy
      rw [List.append_nil] at hy
      rcases List.mem_cons.1 hy with rfl | hy
      · simpa using Ne.symm hamx
      · simpa using Ne.symm (HS.out y (by simp [hy])))
    have hm5 := ((HM2.out.trans HMQ.out (by simp)).trans HM3.out (fun y hy => .inl (by
      simp only [List.mem_cons, List.append_nil, List.map_cons, List.map_append] at hy ⊢
      rcases hy with h | h | h <;> simp [h]))).drew.trans hm4 (fun y hy => .inl (by simp only [List.mem_cons, List.not_mem_nil, or_false] at hy; simp [hy]))
    have HR4 := Lib.hid hr4; have HM4 := Lib.hid hm5; have HMAP4 := Lib.hid hmap4
    clear hr4 hm5 hmap4 hm4
    go_wp2_with fail
    go_end0
    refine ⟨⟨_, rfl⟩, adel (aput kv (x.num : Int) (x.blk, 0)) (z.num : Int), ?_, HMAP4.out, adel_nodup HKN.out _, ?_, by simpa using HM4.out⟩
    · rw [HTK.out]; exact HR4.out
    rw [HTK.out, List.append_nil]
    intro n
    rw [alook_adel, HKV.out n, show x :: (ys ++ [z]) = (x :: ys) ++ [z] from rfl, List.find?_append]
    by_cases hn : n = (z.num : Int)
    · subst hn
      rw [if_pos rfl]
      have : (x :: ys).find? (fun x => decide ((x.num : Int) = (z.num : Int))) = none := by
        rw [List.find?_eq_none]
        intro y hy
        have hne : y.num ≠ z.num := by
          rcases List.mem_cons.1 hy with rfl | hy
          · exact fun h => HXM.out z (by simp) h.symm
          · have := HNN.out
            rw [List.map_append, List.nodup_append] at this
            exact this.2.2 _ (List.mem_map_of_mem hy) _ (by simp)
        simp; omega
      rw [this]; rfl
    · rw [if_neg hn]
      have : [z].find? (fun x => decide ((x.num : Int) = n)) = none := by
        rw [List.find?_eq_none]; simp; omega
      rw [this, Option.or_none]
end Go.Proofs.YtoffondipgjcoaaGreatDoor

/- The contracts of package cache: Read, Pages. -/
set_option linter.unusedVariables false
set_option maxRecDepth 100000
set_option linter.unusedSimpArgs false
namespace Go.Proofs.YtoffondipgjcoaaGreatDoor
open Go.RowKit

theorem cells_ne {w : World} {b b' T T' : Nat} {cs cs' : Array Value} {f f' : Nat × Nat} (h : w.heap[b]? = some (.cells cs T f)) (h' : w.heap[b']? = some (.cells cs' T' f')) (hn : T ≠ T') : b ≠ b' := by
  rintro rfl
  rw [h] at h'
  cases h'
  exact hn rfl
theorem map_ne {w : World} {b b' T n : Nat} {cs : Array Value} {f : Nat × Nat} {es : Array MapEntry} (h : w.heap[b]? = some (.cells cs T f)) (h' : w.heap[b']? = some (.map es n)) : b ≠ b' := by
  rintro rfl
  rw [h] at h'
  cases h'
/-- Where a cache's parts lie. -/
structure CaI where
  am : Nat
  p : Nat
  d : Nat
  sb : Nat
  ub : Nat
  pg : Nat
  pcap : Nat
  xs : List Lk
  kv : List (Int × (Nat × Nat))
  hits : Int
  misses : Int
/-- The cache at c keeps pages of G. -/
structure CaS (w : World) (c : Nat) (I : CaI) (G : Pg) : Prop where
  rg : RgR w c I.p 16 I.am I.hits I.misses I.xs
  nn : (I.xs.map (·.num)).Nodup
  map : MapAt w I.am (mkv intK pq I.kv)
  knd : (I.kv.map (·.1)).Nodup
  kok : kvOK I.kv I.xs
  data : ∀ x ∈ I.xs, G.pages[x.num]? = some x.data
  len : I.xs.length ≤ 16
  pg : PgR w I.p I.d I.sb I.ub (.slice (some ⟨I.pg, 0, none⟩) G.pages.length I.pcap) G
  two : I.am ≠ I.ub
def CaI.F (I : CaI) (c : Nat) : List Nat := c :: I.am :: I.p :: I.d :: I.sb :: I.ub :: I.pg :: I.xs.map (·.blk)
def CaI.base (I : CaI) : List Nat := [I.p, I.d, I.sb, I.ub, I.pg]
theorem CaS.apart {w : World} {c : Nat} {I : CaI} {G : Pg} (h : CaS w c I G) (hG : 0 < G.pages.length) : ∀ b ∈ c :: I.am :: I.xs.map (·.blk), b ∉ [I.p, I.d, I.sb, I.ub, I.pg] := by
  obtain ⟨es, cl, hmap, _⟩ := h.map
  obtain ⟨eu, cu, hu, _⟩ := h.pg.dev.unsure
  have hp := h.pg.at_.at_
  have hd := h.pg.dev.at_
  have hs := h.pg.dev.sure
  obtain ⟨cur, hg⟩ := strs_blk h.pg.row
  have hc := h.rg.at_
  intro b hb
  simp only [List.mem_cons, List.not_mem_nil, or_false, not_or]
  simp only [List.mem_cons, List.mem_map] at hb
  rcases hb with rfl | rfl | ⟨x, hx, rfl⟩
  · exact ⟨cells_ne hc hp (by decide), cells_ne hc hd (by decide), cells_ne hc hs (by decide), map_ne hc hu, cells_ne hc hg (by decide)⟩
  · exact ⟨(map_ne hp hmap).symm, (map_ne hd hmap).symm, (map_ne hs hmap).symm, h.two, (map_ne hg hmap).symm⟩
  · obtain ⟨l, m, he⟩ := List.append_of_mem hx
    have hr := h.rg.seg
    rw [he] at hr
    have hx := hr.mid
    exact ⟨cells_ne hx hp (by decide), cells_ne hx hd (by decide), cells_ne hx hs (by decide), map_ne hx hu, cells_ne hx hg (by decide)⟩
theorem PgR.modL {w w' : World} {p d sb ub pg n cap : Nat} {G : Pg} {R : List Nat} (h : PgR w p d sb ub (.slice (some ⟨pg, 0, none⟩) n cap) G) (hm : Mod R w w') (hR : ∀ b ∈ R, b ∉ [p, d, sb, ub, pg]) : PgR w' p d sb ub (.slice (some ⟨pg, 0, none⟩) n cap) G :=
  h.mod hm ⟨fun h => hR _ h (by simp), fun h => hR _ h (by simp), fun h => hR _ h (by simp), fun h => hR _ h (by simp)⟩ (fun b hb hm => by simp [Value.ownBlock] at hb; subst hb; exact hR _ hm (by simp))
theorem CaS.stay {w w' : World} {c : Nat} {I : CaI} {G : Pg} {R : List Nat} (h : CaS w c I G) (hm : Mod R w w') (hR : ∀ b ∈ R, b ∉ I.F c) : CaS w' c I G :=
  ⟨h.rg.mod hm (fun hb => hR _ hb (by simp [CaI.F])) (fun x hx hb => hR _ hb (by simp only [CaI.F, List.mem_cons, List.mem_map]; exact .inr (.inr (.inr (.inr (.inr (.inr (.inr ⟨x, hx, rfl⟩)))))))), h.nn, h.map.mod hm (fun hb => hR _ hb (by simp [CaI.F])), h.knd, h.kok, h.data, h.len,
    h.pg.modL hm (fun b hb hq => hR b hb (by simp only [CaI.F, List.mem_cons, List.not_mem_nil, or_false] at hq ⊢; rcases hq with h | h | h | h | h <;> simp [h])), h.two⟩
theorem zero_link (w : World) : (zeroValue 195).run Tryz.prog w = .ok (.pointer none) w := by
  have hz : (Tryz.prog.info? 195).map (·.zero) = some (some (.pointer none)) := by kernel_rfl
  cases hq : Tryz.prog.info? 195 with
  | none => simp [hq] at hz
  | some i => simp [hq] at hz; simp [zeroValue, typeInfo, hq, hz]
theorem look_link {w : World} {r : Nat} {m : List (Int × (Nat × Nat))} (h : MapAt w r (mkv intK pq m)) (k : Int) (a : Nat × Nat) (hx : alook m k = some a) :
    ∀ b : Nat, b = r → (Instr.lookup 194 (.map (some b)) (.int .i64 k) true).run Tryz.prog w = .ok (.tuple #[pq a, .bool true]) w := by
  rintro b rfl
  have h1 := run_lookup_map (P := Tryz.prog) 194 195 Tryz.underlying194 (keyOK_int Tryz.underlying3) (.pointer none) zero_link h k true
  rw [hx] at h1
  exact h1
theorem look_link0 {w : World} {r : Nat} {m : List (Int × (Nat × Nat))} (h : MapAt w r (mkv intK pq m)) (k : Int) (hx : alook m k = none) :
    ∀ b : Nat, b = r → (Instr.lookup 194 (.map (some b)) (.int .i64 k) true).run Tryz.prog w = .ok (.tuple #[.pointer none, .bool false]) w := by
  rintro b rfl
  have h1 := run_lookup_map (P := Tryz.prog) 194 195 Tryz.underlying194 (keyOK_int Tryz.underlying3) (.pointer none) zero_link h k true
  rw [hx] at h1
  exact h1
theorem PgR.len0 {w : World} {p d sb ub : Nat} {pv : Value} {G : Pg} {n : Nat} {s : List UInt8} (h : PgR w p d sb ub pv G) (hn : G.pages[n]? = some s) : n < G.pages.length := (List.getElem?_eq_some_iff.1 hn).1
set_option maxHeartbeats 2000000 in
theorem Pages_c (c : Nat) (I : CaI) (G : Pg) (w : World) (h : CaS w c I G) :
    Calls Tryz.prog 108 #[pt c] w fun e w' => e = .returned (.int .i64 G.pages.length) ∧ w = w' := by
  obtain ⟨cc, fc⟩ := cells_of h.rg.at_
  have c0 : w.cell? ⟨c, 0, none⟩ = some (pt I.p) := cc 0
  have HC := Lib.hid (pSize_c I.p I.d I.sb I.ub _ G w h.pg)
  clear cc fc h
  go_enter Tryz.func108, Tryz.ntmps108
  go_wp2_with fail
  refine HC.out.mono ?_
  rintro e w1 ⟨rfl, rfl⟩
  go_wp2_with fail
  go_ret
  exact ⟨rfl, rfl⟩
theorem RgR.setHits {w : World} {c p size am : Nat} {hits misses : Int} {xs : List Lk} (h : RgR w c p size am hits misses xs) (k : Int) : RgR (w.setCell ⟨c, 8, none⟩ (.int .i64 k)) c p size am k misses xs :=
  ⟨by rw [hp_set h.at_]; simp [headC], h.seg.setFar _ _ h.ne, h.nd⟩
theorem RgR.setMisses {w : World} {c p size am : Nat} {hits misses : Int} {xs : List Lk} (h : RgR w c p size am hits misses xs) (k : Int) : RgR (w.setCell ⟨c, 9, none⟩ (.int .i64 k)) c p size am hits k xs :=
  ⟨by rw [hp_set h.at_]; simp [headC], h.seg.setFar _ _ h.ne, h.nd⟩
/-- what a page's reading leaves -/
def ReadP (c : Nat) (I : CaI) (G : Pg) (w w' : World) : Prop := ∃ I', CaS w' c I' G ∧ I'.d = I.d ∧ Stp (I.F c) (I'.F c) w w'
set_option maxHeartbeats 4000000 in
theorem cRead_c (c : Nat) (I : CaI) (G : Pg) (n : Nat) (s : List UInt8) (w : World) (h : CaS w c I G) (hn : G.pages[n]? = some s) :
    Calls Tryz.prog 69 #[pt c, .int .i64 (n : Int)] w fun e w' => e = .returned (.tuple #[.string (str s), .int .i64 0]) ∧ ReadP c I G w w' := by
  have hap := h.apart (by have := h.pg.len0 hn; omega)
  obtain ⟨hamc, hams⟩ := h.rg.map_ne h.map
  obtain ⟨cc, fc⟩ := cells_of h.rg.at_
  have c7 : w.cell? ⟨c, 7, none⟩ = some (.map (some I.am)) := cc 7
  have c8 : w.cell? ⟨c, 8, none⟩ = some (.int .i64 I.hits) := cc 8
  have f8 : w.frozen? ⟨c, 8, none⟩ = false := fc 8
  have c9 : w.cell? ⟨c, 9, none⟩ = some (.int .i64 I.misses) := cc 9
  have f9 : w.frozen? ⟨c, 9, none⟩ = false := fc 9
  have c0 : w.cell? ⟨c, 0, none⟩ = some (pt I.p) := cc 0
  have H := Lib.hid h; have HN := Lib.hid hn; have HAP := Lib.hid hap; have HAMS := Lib.hid hams
  clear cc fc h hn hap hams
  cases hf : I.xs.find? (fun x => decide ((x.num : Int) = (n : Int))) with
  | some x =>
    have hk : alook I.kv (n : Int) = some (x.blk, 0) := by rw [H.out.kok n, hf]; rfl
    have hxn : x.num = n := by have := List.find?_some hf; simp only [decide_eq_true_eq] at this; omega
    obtain ⟨l, m, hlm⟩ := List.append_of_mem (List.mem_of_find?_eq_some hf)
    have hlk := look_link H.out.map (n : Int) _ hk
    have hxd : x.data = s := by
      have := H.out.data x (by rw [hlm]; simp)
      rw [hxn, HN.out] at this
      exact (Option.some.inj this).symm
    have HXN := Lib.hid hxn; have HXD := Lib.hid hxd; have HLM := Lib.hid hlm
    clear hk hf hxn hxd hlm c0 c9 f9
    go_enter Tryz.func69, Tryz.ntmps69
    go_wp2_with fail
    generalize hh : wrap64 (I.hits + 1) = k'
    clear hh hlk
    have hr0 : RgR (w.setCell ⟨c, 8, none⟩ (.int .i64 k')) c I.p 16 I.am k' I.misses (l ++ x :: m) := by rw [← HLM.out]; exact H.out.rg.setHits k'
    have hm0 : Mod [c] w (w.setCell ⟨c, 8, none⟩ (.int .i64 k')) := (Mod.refl _ _).setCell _ _ (.inl (by simp))
    have hlen := H.out.len
    rw [HLM.out] at hlen
    refine (out_R c I.p 16 I.am _ _ l m x _ hr0 (by omega)).mono ?_
    rintro e w1 ⟨⟨v, rfl⟩, hr1, hm1⟩
    have hnd0 := hr0.nd
    have hx0 := hr0.seg.mid
    have hxc := hr0.ne x (by simp)
    rw [List.map_append, List.map_cons, List.nodup_append, List.nodup_cons] at hnd0
    have hxl : x.blk ∉ (l ++ m).map (fun y : Lk => y.blk) := by
      rw [List.map_append, List.mem_append]
      rintro (hm | hm)
      · exact hnd0.2.2 _ hm _ (by simp) rfl
      · exact hnd0.2.1.1 hm
    have hx1 := hm1.at hx0 (by simp only [List.mem_cons, not_or]; exact ⟨hxc, hxl⟩)
    have hmap1 := (H.out.map.mod hm0 (by simpa using hamc)).mod hm1 (by
      simp only [List.mem_cons, List.mem_map, not_or, not_exists, not_and]
      exact ⟨hamc, fun y hy he => HAMS.out y (by rw [HLM.out]; simp at hy ⊢; rcases hy with h | h <;> simp [h]) he.symm⟩)
    have hnn := H.out.nn
    rw [HLM.out, List.map_append, List.map_cons, List.nodup_append, List.nodup_cons] at hnn
    have huse := use_R c I.p I.am k' I.misses (l ++ m) I.kv x _ _ w1 hr1 hx1 (fun y hy he => hxl (he ▸ List.mem_map_of_mem hy)) (fun y hy he => by
        rcases List.mem_append.1 hy with hy | hy
        · exact hnn.2.2 _ (List.mem_map_of_mem hy) _ (by simp) he
        · exact hnn.2.1.1 (he ▸ List.mem_map_of_mem hy))
      (by rw [List.map_append, List.nodup_append]; exact ⟨hnn.1, hnn.2.1.2, fun a ha b hb => hnn.2.2 a ha b (by simp [hb])⟩) hmap1 H.out.knd
      (fun j hj => by
        rw [H.out.kok j, HLM.out, List.find?_append, List.find?_append, List.find?_cons, decide_eq_false (fun h => hj h.symm)]) (by simp at hlen ⊢; omega)
    have hsub : ∀ y ∈ (l ++ m).map (fun y : Lk => y.blk), y ∈ I.xs.map (fun y : Lk => y.blk) := by
      intro y hy
      rw [HLM.out]
      simp only [List.map_append, List.map_cons, List.mem_append, List.mem_cons] at hy ⊢
      rcases hy with h | h <;> simp [h]
    have hm01 := (hm0.mono (R' := c :: I.am :: I.xs.map (·.blk)) (by simp)).trans hm1 (fun y hy => .inl (by
      rcases List.mem_cons.1 hy with h | h
      · simp [h]
      · exact List.mem_cons_of_mem _ (List.mem_cons_of_mem _ (hsub y h))))
    have HU := Lib.hid huse; have HM1 := Lib.hid hm01; have HSUB := Lib.hid hsub; have HNN := Lib.hid hnn
    clear huse hm01 hm0 hm1 hr0 hr1 hx0 hx1 hxl hxc hnd0 hmap1 hsub hnn c7 c8 f8
    go_wp2_with fail
    refine HU.out.mono ?_
    rintro e w2 ⟨⟨v, rfl⟩, kv', hr2, hmap2, hkn2, hkok2, hm2⟩
    rw [show (x :: (l ++ m)).take 16 = x :: (l ++ m) from List.take_of_length_le (by simp at hlen ⊢; omega)] at hr2 hkok2
    obtain ⟨cx, fx⟩ := cells_of hr2.seg.1
    have x3 : w2.cell? ⟨x.blk, 3, none⟩ = some (.string (str x.data)) := cx 3
    rw [HXD.out] at x3
    have hm02 := HM1.out.trans hm2 (fun y hy => .inl (by
      simp only [List.mem_cons] at hy
      rcases hy with h | h | h | h
      · simp [h]
      · simp [h]
      · rw [HLM.out]; simp [h]
      · exact List.mem_cons_of_mem _ (List.mem_cons_of_mem _ (HSUB.out y h))))
    have HR2 := Lib.hid hr2; have HMAP2 := Lib.hid hmap2; have HKN2 := Lib.hid hkn2; have HKOK2 := Lib.hid hkok2; have HM2 := Lib.hid hm02
    clear hr2 hmap2 hkn2 hkok2 hm2 hm02 cx fx
    go_wp2_with fail
    go_ret2
    refine ⟨rfl, { I with xs := x :: (l ++ m), kv := kv', hits := k' }, ⟨HR2.out, ?_, HMAP2.out, HKN2.out, HKOK2.out, ?_, by simp at hlen ⊢; omega, H.out.pg.modL HM2.out (fun b hb => HAP.out b hb), H.out.two⟩, rfl, ?_, ?_⟩
    · have := HNN.out
      show (x.num :: (l ++ m).map (·.num)).Nodup
      rw [List.nodup_cons, List.map_append, List.nodup_append, List.mem_append]
      refine ⟨?_, this.1, this.2.1.2, fun a ha b hb => this.2.2 a ha b (by simp [hb])⟩
      rintro (h | h)
      · exact this.2.2 _ h _ (by simp) rfl
      · exact this.2.1.1 h
    · intro y hy
      refine H.out.data y ?_
      rw [HLM.out]
      simp only [List.mem_cons, List.mem_append] at hy ⊢
      rcases hy with h | h | h <;> simp [h]
    · exact HM2.out.mono (fun y hy => .inl (by simp only [CaI.F, List.mem_cons] at hy ⊢; rcases hy with h | h | h <;> simp [h]))
    · intro b hb
      refine .inl ?_
      simp only [CaI.F, List.mem_cons, List.map_cons] at hb ⊢
      rcases hb with h | h | h | h | h | h | h | h | h
      · simp [h]
      · simp [h]
      · simp [h]
      · simp [h]
      · simp [h]
      · simp [h]
      · simp [h]
      · simp only [HLM.out, List.map_append, List.map_cons, List.mem_append, List.mem_cons]; simp [h]
      · simp [HSUB.out b h]
  | none =>
    have hk : alook I.kv (n : Int) = none := by rw [H.out.kok n, hf]; rfl
    have hlk := look_link0 H.out.map (n : Int) hk
    have hno : ∀ y ∈ I.xs, y.num ≠ n := by
      intro y hy he
      have := List.find?_eq_none.1 hf y hy
      simp only [decide_eq_true_eq] at this
      omega
    have HNO := Lib.hid hno; have HRD := Lib.hid (pRead_c I.p I.d I.sb I.ub n _ G w H.out.pg s HN.out)
    clear hk hf hno c8 f8
    go_enter Tryz.func69, Tryz.ntmps69
    go_wp2_with fail
    refine HRD.out.mono ?_
    rintro e w0 ⟨rfl, rfl⟩
    clear hlk c7
    go_wp2_with fail
    generalize hh : wrap64 (I.misses + 1) = k'
    clear hh c9 f9 c0
    have hr0 := H.out.rg.setMisses k'
    have hm0 : Mod [c] w (w.setCell ⟨c, 9, none⟩ (.int .i64 k')) := (Mod.refl _ _).setCell _ _ (.inl (by simp))
    have hmap0 := H.out.map.mod hm0 (by simpa using hamc)
    have hsz : (w.setCell ⟨c, 9, none⟩ (.int .i64 k')).heap.size = w.heap.size := by simp
    generalize w.setCell ⟨c, 9, none⟩ (.int .i64 k') = w1 at *
    have hx1 := hp_new w1 (Obj.cells #[.pointer none, .pointer none, .int .i64 (n : Int), .string (str s)] 199)
    have hm1 : Mod [] w1 (w1.alloc (Obj.cells #[.pointer none, .pointer none, .int .i64 (n : Int), .string (str s)] 199)) := (Mod.refl _ _).alloc _
    have hr1 := hr0.mod hm1 (by simp) (by simp)
    have hmap1 := hmap0.mod hm1 (by simp)
    rw [hsz] at hx1
    generalize w1.alloc (Obj.cells #[.pointer none, .pointer none, .int .i64 (n : Int), .string (str s)] 199) = w2 at *
    have hlt : ∀ y ∈ I.xs, y.blk < w.heap.size := H.out.rg.seg.lt
    refine (use_R c I.p I.am I.hits k' I.xs I.kv ⟨w.heap.size, n, s⟩ none none w2 hr1 hx1 (fun y hy he => by have := hlt y hy; simp at he; omega) HNO.out H.out.nn hmap1 H.out.knd (fun j hj => H.out.kok j) H.out.len).mono ?_
    rintro e w3 ⟨⟨v, rfl⟩, kv', hr3, hmap3, hkn3, hkok3, hm3⟩
    have hm03 : Mod (c :: I.am :: I.xs.map (·.blk)) w w3 := ((hm0.mono (by simp)).trans hm1 (by simp)).trans hm3 (fun y hy => by
      simp only [List.mem_cons] at hy
      rcases hy with h | h | h | h
      · exact .inl (by simp [h])
      · exact .inl (by simp [h])
      · exact .inr (by omega)
      · exact .inl (by simp [h]))
    have HR3 := Lib.hid hr3; have HMAP3 := Lib.hid hmap3; have HKN3 := Lib.hid hkn3; have HKOK3 := Lib.hid hkok3; have HM3 := Lib.hid hm03
    clear hr3 hmap3 hkn3 hkok3 hm3 hm03 hr0 hm0 hmap0 hx1 hm1 hr1 hmap1 hsz hlt
    go_wp2_with fail
    go_ret2
    have hsub := List.take_sublist 16 ((⟨w.heap.size, n, s⟩ : Lk) :: I.xs)
    refine ⟨rfl, { I with xs := ((⟨w.heap.size, n, s⟩ : Lk) :: I.xs).take 16, kv := kv', misses := k' }, ⟨HR3.out, ?_, HMAP3.out, HKN3.out, HKOK3.out, ?_, List.length_take_le _ _, H.out.pg.modL HM3.out (fun b hb => HAP.out b hb), H.out.two⟩, rfl, ?_, ?_⟩
    · refine List.Nodup.sublist (hsub.map _) ?_
      rw [List.map_cons, List.nodup_cons]
      refine ⟨fun h => ?_, H.out.nn⟩
      obtain ⟨y, hy, he⟩ := List.mem_map.1 h
      exact HNO.out y hy he
    · intro y hy
      rcases List.mem_cons.1 (hsub.subset hy) with rfl | hy
      · exact HN.out
      · exact H.out.data y hy
    · exact HM3.out.mono (fun y hy => .inl (by simp only [CaI.F, List.mem_cons] at hy ⊢; rcases hy with h | h | h <;> simp [h]))
    · intro b hb
      simp only [CaI.F, List.mem_cons] at hb ⊢
      rcases hb with h | h | h | h | h | h | h | h
      · simp [h]
      · simp [h]
      · simp [h]
      · simp [h]
      · simp [h]
      · simp [h]
      · simp [h]
      · obtain ⟨y, hy, rfl⟩ := List.mem_map.1 h
        rcases List.mem_cons.1 (hsub.subset hy) with rfl | hy
        · exact .inr (Nat.le_refl _)
        · exact .inl (by simp only [List.mem_map]; exact .inr (.inr (.inr (.inr (.inr (.inr (.inr ⟨y, hy, rfl⟩)))))))
end Go.Proofs.YtoffondipgjcoaaGreatDoor

/- The contracts of package cache: Commit. -/
set_option linter.unusedVariables false
set_option maxRecDepth 100000
set_option linter.unusedSimpArgs false
namespace Go.Proofs.YtoffondipgjcoaaGreatDoor
open Go.RowKit

theorem commit_err (G : Pg) (l : List Chg) (h : (G.commit l).1 ≠ 0) : (G.commit l).2.pages = G.pages := by
  unfold Pg.commit at h ⊢
  split
  · rfl
  · rename_i h1
    rw [if_neg h1] at h
    split
    · rfl
    · rename_i h2
      rw [if_neg h2] at h
      exact absurd rfl h
theorem commit_ok (G : Pg) (l : List Chg) (h : (G.commit l).1 = 0) : (G.commit l).2.pages = setP G.pages l := by
  unfold Pg.commit at h ⊢
  split
  · rename_i h1
    rw [if_pos h1] at h
    rcases h1 with h1 | h1
    · exact absurd h h1
    · subst h1; rfl
  · rename_i h1
    rw [if_neg h1] at h
    split
    · rename_i h2
      rw [if_pos h2] at h
      exact absurd h h2
    · rfl
theorem commit_len (G : Pg) (l : List Chg) : (G.commit l).2.pages.length = G.pages.length := by
  by_cases h : (G.commit l).1 = 0
  · rw [commit_ok G l h, setP_len]
  · rw [commit_err G l h]
def setX1 (c : Chg) (x : Lk) : Lk := if x.num = c.1 then { x with data := c.2 } else x
def setX (xs : List Lk) (l : List Chg) : List Lk := l.foldl (fun xs c => xs.map (setX1 c)) xs
theorem setX1_blk (c : Chg) (x : Lk) : (setX1 c x).blk = x.blk := by unfold setX1; split <;> rfl
theorem setX1_num (c : Chg) (x : Lk) : (setX1 c x).num = x.num := by unfold setX1; split <;> rfl
theorem setX_snoc (xs : List Lk) (l : List Chg) (c : Chg) : setX xs (l ++ [c]) = (setX xs l).map (setX1 c) := by simp [setX, List.foldl_append]
theorem setX_blk (l : List Chg) : ∀ xs, (setX xs l).map (·.blk) = xs.map (·.blk) := by
  induction l with
  | nil => intro xs; rfl
  | cons c l ih => intro xs; simp only [setX, List.foldl_cons] at ih ⊢; rw [ih, List.map_map]; exact List.map_congr_left fun x _ => setX1_blk c x
theorem setX_num (l : List Chg) : ∀ xs, (setX xs l).map (·.num) = xs.map (·.num) := by
  induction l with
  | nil => intro xs; rfl
  | cons c l ih => intro xs; simp only [setX, List.foldl_cons] at ih ⊢; rw [ih, List.map_map]; exact List.map_congr_left fun x _ => setX1_num c x
theorem kvOK_map {kv : List (Int × (Nat × Nat))} {xs : List Lk} (h : kvOK kv xs) (c : Chg) : kvOK kv (xs.map (setX1 c)) := by
  intro n
  rw [h n, List.find?_map]
  have : ((fun x : Lk => decide ((x.num : Int) = n)) ∘ setX1 c) = fun x : Lk => decide ((x.num : Int) = n) := by funext x; simp [setX1_num]
  rw [this]
  cases xs.find? fun x => decide ((x.num : Int) = n) with
  | none => rfl
  | some x => simp [setX1_blk]
theorem kvOK_setX {kv : List (Int × (Nat × Nat))} (l : List Chg) : ∀ {xs : List Lk}, kvOK kv xs → kvOK kv (setX xs l) := by
  induction l with
  | nil => intro xs h; exact h
  | cons c l ih => intro xs h; exact ih (kvOK_map h c)
theorem data_setX (l : List Chg) : ∀ {xs : List Lk} {P : List (List UInt8)}, (∀ x ∈ xs, P[x.num]? = some x.data) → ∀ x ∈ setX xs l, (setP P l)[x.num]? = some x.data := by
  induction l with
  | nil => intro xs P h; exact h
  | cons c l ih =>
    intro xs P h
    refine ih (xs := xs.map (setX1 c)) (P := P.set c.1 c.2) ?_
    intro x hx
    obtain ⟨y, hy, rfl⟩ := List.mem_map.1 hx
    have h1 := h y hy
    rw [setX1_num, List.getElem?_set]
    by_cases hn : y.num = c.1
    · have hlt := (List.getElem?_eq_some_iff.1 h1).1
      simp [setX1, hn]; rw [← hn]; exact hlt
    · rw [if_neg (fun h => hn h.symm), h1]; simp [setX1, hn]
theorem RgR.setData {w : World} {c p size am : Nat} {hits misses : Int} {l m : List Lk} {x : Lk} (h : RgR w c p size am hits misses (l ++ x :: m)) (d : List UInt8) :
    RgR (w.setCell ⟨x.blk, 3, none⟩ (.string (str d))) c p size am hits misses (l ++ { x with data := d } :: m) := by
  have hnd := h.nd
  have hs := (segR_app w l (x :: m) (c, 2) (c, 2)).1 h.seg
  rw [List.map_append, List.map_cons, List.nodup_append, List.nodup_cons] at hnd
  refine ⟨?_, (segR_app _ l _ _ _).2 ⟨?_, ?_, ?_⟩, ?_⟩
  · have h1 := hp_ne (p := ⟨x.blk, 3, none⟩) (v := .string (str d)) h.at_ (h.ne x (by simp)).symm
    have e1 : lastA (c, 2) (l ++ { x with data := d } :: m) = lastA (c, 2) (l ++ x :: m) := by rw [lastA_app, lastA_app]; rfl
    have e2 : hdA (l ++ { x with data := d } :: m) (c, 2) = hdA (l ++ x :: m) (c, 2) := by rw [hdA_app, hdA_app]; rfl
    have e3 : (l ++ { x with data := d } :: m).length = (l ++ x :: m).length := by simp
    rw [e1, e2, e3]; exact h1
  · exact hs.1.setFar _ _ (fun y hy => fun he => hnd.2.2 _ (List.mem_map_of_mem hy) _ (by simp) he)
  · rw [hp_set hs.2.1]; simp
  · exact hs.2.2.setFar _ _ (fun y hy he => hnd.2.1.1 ((show y.blk = x.blk from he) ▸ List.mem_map_of_mem hy))
  · rw [List.map_append, List.map_cons, List.nodup_append, List.nodup_cons]; exact hnd
/-- what a commit leaves -/
def ComP (c : Nat) (I : CaI) (G : Pg) (w w' : World) : Prop := ∃ I', CaS w' c I' G ∧ I'.d = I.d ∧ Stp (I.F c) (I'.F c) w w'
set_option maxHeartbeats 4000000 in
theorem cCommit_c (c : Nat) (I : CaI) (G : Pg) (ao : Option Addr) (cp : Nat) (l : List Chg) (w : World) (h : CaS w c I G) (hG : PgOK G) (hl : ChgOK G.pages.length l) (hrd : RdS w 2 ao l.length (l.flatMap chgc))
    (hao : ∀ b off, ao = some ⟨b, off, none⟩ → b ∉ I.F c) :
    Calls Tryz.prog 102 #[pt c, .slice ao l.length cp] w fun e w' => e = .returned (.int .i64 (G.commit l).1) ∧ ComP c I (G.commit l).2 w w' := by
  have hap := h.apart (by have := hG.n1; omega)
  have hbig := hrd.big
  obtain ⟨hamc, hams⟩ := h.rg.map_ne h.map
  obtain ⟨cc, fc⟩ := cells_of h.rg.at_
  have c0 : w.cell? ⟨c, 0, none⟩ = some (pt I.p) := cc 0
  have hcom := pCommit_c I.p I.d I.sb I.ub I.pg I.pcap G ao cp l w h.pg hG hl hrd (fun b off hb hm => hao b off hb (by simp only [CaI.F, List.mem_cons, List.not_mem_nil, or_false] at hm ⊢; rcases hm with h | h | h | h | h <;> simp [h]))
  have HC := Lib.hid hcom; have H := Lib.hid h; have HAP := Lib.hid hap; have HAMS := Lib.hid hams; have HR := Lib.hid hrd; have HAO := Lib.hid hao
  have HE := Lib.hid (commit_err G l); have HK := Lib.hid (commit_ok G l); have HLN := Lib.hid (commit_len G l)
  clear hcom h hap hams cc fc hrd hao hl
  go_enter Tryz.func102, Tryz.ntmps102
  go_wp2_with fail
  refine HC.out.mono ?_
  clear HC
  generalize hRR : G.commit l = RR at *
  obtain ⟨E, G'⟩ := RR
  have HRR := Lib.hid hRR
  clear hRR
  dsimp only at *
  rintro e w1 ⟨rfl, hm1, hp1⟩
  have hr1 := H.out.rg.mod hm1 (HAP.out _ (by simp)) (fun x hx => HAP.out _ (by simp only [List.mem_cons, List.mem_map]; exact .inr (.inr ⟨x, hx, rfl⟩)))
  have hmap1 := H.out.map.mod hm1 (HAP.out _ (by simp))
  rw [← HLN.out] at hp1
  have hmF : Mod (I.F c) w w1 := hm1.mono (fun y hy => .inl (by simp only [CaI.F, List.mem_cons, List.not_mem_nil, or_false] at hy ⊢; rcases hy with h | h | h | h | h <;> simp [h]))
  have HR1 := Lib.hid hr1; have HMAP1 := Lib.hid hmap1; have HP1 := Lib.hid hp1; have HMF := Lib.hid hmF
  clear hr1 hmap1 hp1 hm1 hmF c0
  by_cases he : E = 0
  · subst he
    have HK1 := Lib.hid (HK.out rfl)
    clear HE HK
    go_wp2_with fail
    go_loopw [23] (fun i wr => ∃ j : Nat, j ≤ l.length ∧ i = .int .i64 j ∧ Mod (I.xs.map (·.blk)) w1 wr ∧ RgR wr c I.p 16 I.am I.hits I.misses (setX I.xs (l.take j))) (fun i _ => l.length - (intOf i).toNat)
    case atStart => exact ⟨0, Nat.zero_le _, rfl, Mod.refl _ _, HR1.out⟩
    case round =>
      obtain ⟨j, hj, rfl, hm, hr⟩ := hrel
      have hmw : Mod (I.F c) w wr := HMF.out.trans hm (fun y hy => .inl (by simp only [CaI.F, List.mem_cons]; simp [hy]))
      have hcx : c ∉ I.xs.map (·.blk) := by rw [← setX_blk (l.take j)]; intro hc; obtain ⟨y, hy, he⟩ := List.mem_map.1 hc; exact hr.ne y hy he
      have hamx : I.am ∉ I.xs.map (·.blk) := by intro hc; obtain ⟨y, hy, he⟩ := List.mem_map.1 hc; exact HAMS.out y hy he.symm
      have hmapr := HMAP1.out.mod hm hamx
      by_cases hlt : j < l.length
      · have hrr := HR.out.mod hmw (fun b off hb => HAO.out b off hb)
        obtain ⟨b, off, rfl, hcc⟩ := hrr.at (fun x => rfl) (List.getElem?_eq_getElem hlt)
        have hc0 := hcc 0 (by omega)
        have hc1 := hcc 1 (by omega)
        simp only [Nat.add_zero, chgc, List.getElem?_cons_zero, List.getElem?_cons_succ] at hc0 hc1
        have hX : (l.take (j + 1)) = l.take j ++ [l[j]] := List.take_succ_eq_append_getElem hlt
        have hkok := kvOK_setX (l.take j) H.out.kok
        have hnn := H.out.nn
        rw [← setX_num (l.take j)] at hnn
        generalize l[j] = X at *
        have hss := setX_snoc I.xs (l.take j) X
        rw [← hX] at hss
        generalize hxj : setX I.xs (l.take j) = xj at *
        have HX := Lib.hid hX; have HSS := Lib.hid hss; have HM := Lib.hid hm; have HRG := Lib.hid hr; have HMP := Lib.hid hmapr; have HKOK := Lib.hid hkok; have HNN := Lib.hid hnn; have HXB := Lib.hid (show xj.map (·.blk) = I.xs.map (·.blk) from by rw [← hxj]; exact setX_blk _ _)
        clear hxj hX hss hcc hm hr hmapr hkok hnn hrr hmw
        obtain ⟨X1, X2⟩ := X
        dsimp only at *
        go_wp2_with fail
        have hM0 : Mod [] wr (wr.alloc (Obj.cells #[.int .i64 (X1 : Int), .string (str X2)] 233)) := (Mod.refl _ _).alloc _
        have hB := hp_new wr (Obj.cells #[.int .i64 (X1 : Int), .string (str X2)] 233)
        generalize hw2 : wr.alloc (Obj.cells #[.int .i64 (X1 : Int), .string (str X2)] 233) = w4 at *
        clear hw2 hc0 hc1
        have hd4 : Mod [] w4 w4.drew := (Mod.refl _ _).drew
        obtain ⟨cb, fb⟩ := cells_of (hd4.at hB (by simp))
        have hrg4 := (HRG.out.mod hM0 (by simp) (by simp)).mod hd4 (by simp) (by simp)
        have hmp4 := (HMP.out.mod hM0 (by simp)).mod hd4 (by simp)
        obtain ⟨cc, fc⟩ := cells_of hrg4.at_
        have c7 : w4.drew.cell? ⟨c, 7, none⟩ = some (.map (some I.am)) := cc 7
        clear cc fc
        have HM4 := Lib.hid (hM0.trans hd4 (by simp))
        cases hf : xj.find? (fun x => decide ((x.num : Int) = (X1 : Int))) with
        | some x =>
          have hk : alook I.kv (X1 : Int) = some (x.blk, 0) := by rw [HKOK.out X1, hf]; rfl
          have hlk := look_link hmp4 (X1 : Int) _ hk
          have hxn : x.num = X1 := by have := List.find?_some hf; simp only [decide_eq_true_eq] at this; omega
          obtain ⟨a, b, hab⟩ := List.append_of_mem (List.mem_of_find?_eq_some hf)
          have hmp : xj.map (setX1 (X1, X2)) = a ++ { x with data := X2 } :: b := by
            have hn := HNN.out
            rw [hab, List.map_append, List.map_cons, List.nodup_append, List.nodup_cons] at hn
            have ha : a.map (setX1 (X1, X2)) = a := by
              conv => rhs; rw [← List.map_id a]
              exact List.map_congr_left fun y hy => by
                have : y.num ≠ X1 := fun he => hn.2.2 _ (List.mem_map_of_mem hy) _ (by simp) (he.trans hxn.symm)
                simp [setX1, this]
            have hb : b.map (setX1 (X1, X2)) = b := by
              conv => rhs; rw [← List.map_id b]
              exact List.map_congr_left fun y hy => by
                have : y.num ≠ X1 := fun he => hn.2.1.1 ((he.trans hxn.symm) ▸ List.mem_map_of_mem hy)
                simp [setX1, this]
            rw [hab, List.map_append, List.map_cons, ha, hb]
            simp [setX1, hxn]
          rw [hab] at hrg4
          have hx4 := hrg4.seg.mid
          obtain ⟨cx, fx⟩ := cells_of hx4
          have x3 : w4.drew.cell? ⟨x.blk, 3, none⟩ = some (.string (str x.data)) := cx 3
          have f3 : w4.drew.frozen? ⟨x.blk, 3, none⟩ = false := fx 3
          have HMP2 := Lib.hid hmp; have HRG4 := Lib.hid hrg4; have HAB := Lib.hid hab
          clear hk hmp4 hf hxn hab hmp hrg4 hx4 cx fx
          go_wp2_with fail
          (refine region_still_tail 11 Tryz.mixed (by kernel_rfl) ?_; simp only [List.take_succ_cons, List.take_zero, List.drop_succ_cons, List.drop_zero]; (iterate 11 still_step); refine wpStill_nil ?_)
          go_wp2_with fail
          go_roundw
          case rel =>
            refine ⟨j + 1, by omega, by go_num, ?_, ?_⟩
            · exact (HM.out.trans HM4.out (by simp)).setCell _ _ (.inl (by rw [← HXB.out, HAB.out]; simp))
            · rw [HSS.out, HMP2.out]; exact HRG4.out.setData X2
          case measure => simp [intOf]; omega
        | none =>
          have hk : alook I.kv (X1 : Int) = none := by rw [HKOK.out X1, hf]; rfl
          have hlk := look_link0 hmp4 (X1 : Int) hk
          have hmp : xj.map (setX1 (X1, X2)) = xj := by
            conv => rhs; rw [← List.map_id xj]
            exact List.map_congr_left fun y hy => by
              have := List.find?_eq_none.1 hf y hy
              simp only [decide_eq_true_eq] at this
              have : y.num ≠ X1 := by omega
              simp [setX1, this]
          have HMP2 := Lib.hid hmp; have HRG4 := Lib.hid hrg4
          clear hk hmp4 hf hmp hrg4
          go_wp2_with fail
          (refine region_still_tail 11 Tryz.mixed (by kernel_rfl) ?_; simp only [List.take_succ_cons, List.take_zero, List.drop_succ_cons, List.drop_zero]; (iterate 11 still_step); refine wpStill_nil ?_)
          go_wp2_with fail
          go_roundw
          case rel =>
            refine ⟨j + 1, by omega, by go_num, ?_, ?_⟩
            · exact HM.out.trans HM4.out (by simp)
            · rw [HSS.out, HMP2.out]; exact HRG4.out
          case measure => simp [intOf]; omega
      · obtain rfl : j = l.length := by omega
        rw [List.take_length] at hr
        have hd := data_setX l H.out.data
        rw [← HK1.out] at hd
        have hpr := HP1.out.modL hm (fun b hb => HAP.out b (by simp [hb]))
        have hlx : (setX I.xs l).length ≤ 16 := by have := congrArg List.length (setX_num l I.xs); simp only [List.length_map] at this; rw [this]; exact H.out.len
        have hfin : ComP c I G' w wr := ⟨{ I with xs := setX I.xs l }, ⟨hr, by rw [setX_num]; exact H.out.nn, hmapr, H.out.knd, kvOK_setX l H.out.kok, hd, hlx, hpr, H.out.two⟩, rfl, hmw, fun b hb => .inl (by
          simp only [CaI.F] at hb ⊢; rw [setX_blk] at hb; exact hb)⟩
        have HF := Lib.hid hfin
        clear hfin hlx hpr hd hr hmapr hm hmw hcx hamx
        go_wp2_with fail
        go_ret
        rw [HRR.out]
        exact ⟨rfl, HF.out⟩
  · have he' : (E != 0) = true := by simpa using he
    have hpg := HE.out he
    have hfin : ComP c I G' w w1 := ⟨I, ⟨HR1.out, H.out.nn, HMAP1.out, H.out.knd, H.out.kok, by rw [hpg]; exact H.out.data, H.out.len, HP1.out, H.out.two⟩, rfl, HMF.out, fun b hb => .inl hb⟩
    have HF := Lib.hid hfin
    clear hfin hpg he
    go_wp2_with fail
    go_ret
    rw [HRR.out]
    exact ⟨rfl, HF.out⟩
end Go.Proofs.YtoffondipgjcoaaGreatDoor
