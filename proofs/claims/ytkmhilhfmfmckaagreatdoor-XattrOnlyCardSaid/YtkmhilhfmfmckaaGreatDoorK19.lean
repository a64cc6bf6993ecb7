/- Own texts and printed words of the kit, put together and trimmed by a program of mine (merge.py). -/
import Derived.Test.YtkmhilhfmfmckaaGreatDoorK18
namespace Go.Proofs.YtkmhilhfmfmckaaGreatDoor.Hand
set_option linter.unusedSimpArgs false
set_option linter.unusedVariables false
open Go.Shelf Go.RowKit Go.Proofs.YtkmhilhfmfmckaaGreatDoorW.PrintWords Go.Proofs.YtkmhilhfmfmckaaGreatDoorW.PrintLast Go.Proofs.YtkmhilhfmfmckaaGreatDoorW.PrintMore
set_option maxHeartbeats 8000000 in
set_option maxRecDepth 100000 in
theorem xset_calls {D : Nat → Prop} {s0 : Nat} {s : St} (r : Ino) (A : Option Addr) (n c : Nat) (nm : ByteArray) (Av : Option Addr) (cv : Nat) (val : List Int) (how goal : Int) (w : World) (h : StIs w D s0 s) (hsb : ∀ b ∈ s.now, allB b)
    (hv : Kd.C (Kd.int .u8) w Av val.length val) (hvn : Av = none → cv = 0) (hvb : allB val) (hvD : ∀ ad, Av = some ad → ¬ D ad.block) (hh : s.hist.length ≤ 900000) (hT : Tab w) (hTD : ¬ D 2) (hg0 : -4611686018427387904 ≤ goal) (hg1 : goal < 4611686018427387904) :
    Calls Tryz.prog 18 #[.pointer (some ⟨s0, 0, none⟩), .agg (r.cells (.slice A n c)).toArray, .string nm, .slice Av val.length cv, .int .i64 how, .int .i64 goal] w (InoPost D s0 (xsetI s r n (.slice A n c) nm val how goal).1 (xsetI s r n (.slice A n c) nm val how goal).2.1 (xsetI s r n (.slice A n c) nm val how goal).2.2 w) := by
  have HT := Aside0.mk (And.intro hT (And.intro hTD (show 2 < w.heap.size from World.block_lt_of_cell? w _ (hT 0 (by omega)))))
  have HG := Aside0.mk (And.intro hg0 hg1)
  clear hT hTD hg0 hg1
  have HLIST := Aside0.mk (fun (W : World) (hW : Below w.heap.size w W) => xlist_calls r A n c W (h.below hW))
  obtain ⟨res, hres⟩ : ∃ res, xsetI s r n (.slice A n c) nm val how goal = res := ⟨_, rfl⟩
  have HRES := Aside0.mk hres
  obtain ⟨cs, hcs⟩ : ∃ cs, r.cells (.slice A n c) = cs := ⟨_, rfl⟩
  have hcl : cs.length = 15 := by rw [← hcs]; rfl
  have hinf := infIno hcl
  have hll := xlistI_len (r := r) (rl := n) hsb
  obtain ⟨L, hL⟩ : ∃ L, xlistI s.now r n = L := ⟨_, rfl⟩
  rw [hL] at HLIST hll
  rw [hcs] at HLIST ⊢
  rw [hres]
  have HCS := Aside0.mk (And.intro hcs (And.intro hcl hL))
  have HH := Aside0.mk h
  have HV := Aside0.mk (And.intro hv (And.intro hvn (And.intro hvb hvD)))
  clear hres hcs h hv hvn hvb hvD hL
  obtain ⟨l, e0⟩ := L
  dsimp only at HLIST hll
  obtain ⟨rs, rc, re⟩ := res
  dsimp only
  obtain ⟨vl, hvl⟩ : ∃ vl, val.length = vl := ⟨_, rfl⟩
  rw [hvl]
  have HVL := Aside0.mk hvl
  clear hvl
  go_enter Tryz.func18, Tryz.ntmps18
  go_upto_region 1 with fail
  have hb0 := below_alloc (below_alloc (Below.refl w.heap.size w) (.cells cs.toArray 47)) (.cells inoZ.toArray 47)
  have hs1 : Strc ((w.alloc (.cells cs.toArray 47)).alloc (.cells inoZ.toArray 47)) w.heap.size 47 cs := by
    have := alloc_last w (.cells cs.toArray 47)
    unfold Strc
    rw [alloc_old _ _ _ (lt_of_obj this)]
    exact this
  have hs2 : Strc ((w.alloc (.cells cs.toArray 47)).alloc (.cells inoZ.toArray 47)) (w.heap.size + 1) 47 inoZ := by
    have := alloc_last (w.alloc (.cells cs.toArray 47)) (.cells inoZ.toArray 47)
    rw [show ∀ o, (w.alloc o).heap.size = w.heap.size + 1 from fun o => by simp] at this
    exact this
  change Code.wp _ _ _ _ ((w.alloc (.cells cs.toArray 47)).alloc (.cells inoZ.toArray 47))
  generalize (w.alloc (.cells cs.toArray 47)).alloc (.cells inoZ.toArray 47) = w1 at hb0 hs1 hs2 ⊢
  obtain ⟨q, hq⟩ : ∃ q, w.heap.size = q := ⟨_, rfl⟩
  have HB0 := Aside0.mk hb0
  rw [hq] at hs1 hs2 ⊢
  have HQ := Aside0.mk hq
  clear hq hb0
  have HQ1 := Aside0.mk hs2.lt
  have HS1 := Aside0.mk hs1
  have HS2 := Aside0.mk hs2
  clear hs1 hs2
  refine wp_region_lit ?_
  refine wpList_plain rfl fun K hK => ?_
  unfold Oper.wp execOp
  go_simp
  refine hK _ _ ?_
  clear hK K
  refine wpList_load_row rfl 47 _ rfl q rfl 47 cs.toArray (0, 0) _ HS1.out Tryz.underlying47 rfl hinf ?_
  go_wp2_with fail
  refine (HLIST.out w1 HB0.out).mono ?_
  rintro e w2 ⟨D2, v2, b2', rfl, ho2, hD2, hb2, hst2, hgD2, hm2⟩
  obtain ⟨b2, ho2, hD2, hb2, hbs2⟩ := ownA_base ho2 hD2 hst2.sub hb2 hm2.size
  have HBS := Aside0.mk hbs2
  have HLL := Aside0.mk hll
  clear hbs2
  dsimp only
  have hs1 := HS1.out.mod hm2 (fun hd => by have := HH.out.sub _ hd; have := HQ.out; omega)
  have hs2 := HS2.out.mod hm2 (fun hd => by have := HH.out.sub _ hd; have := HQ.out; omega)
  have HS1 := Aside0.mk hs1
  have HS2 := Aside0.mk hs2
  obtain ⟨A2, c2, rfl, hc2, hE2⟩ := ho2.reads (by dsimp only; omega)
  have HSK := Aside0.mk (seek_calls A2 c2 l nm w2 hE2 (by dsimp only at *; omega))
  obtain ⟨k, hk⟩ : ∃ k, seekI l nm = k := ⟨_, rfl⟩
  rw [hk] at HSK
  obtain ⟨i, is⟩ := k
  dsimp only at HSK
  obtain ⟨ln, hln⟩ : ∃ ln, l.length = ln := ⟨_, rfl⟩
  rw [hln] at HSK hc2 ⊢
  have HK := Aside0.mk (And.intro hk hln)
  have HM2 := Aside0.mk (And.intro ho2 (And.intro hD2 (And.intro hb2 (And.intro hst2 (And.intro hgD2 (And.intro hE2 (Mod.trans (Mod.of_below HB0.out D) hm2 (fun _ _ h => h))))))))
  clear hk hln ho2 hD2 hb2 hst2 hgD2 hE2 hm2 hs1 hs2
  have HN := Aside0.mk (fun W : World => named_calls nm W)
  obtain ⟨nb, hnb⟩ : ∃ nb, namedB nm = nb := ⟨_, rfl⟩
  rw [hnb] at HN
  have HNB := Aside0.mk hnb
  clear hnb
  go_wp2_with fail
  refine HSK.out.mono ?_
  rintro e w3 ⟨rfl, hb3⟩
  have hs2 := HS2.out.below hb3
  have HS1 := Aside0.mk (HS1.out.below hb3)
  have HS2 := Aside0.mk hs2
  have HB3 := Aside0.mk hb3
  clear hs2 hb3
  dsimp only
  have hst3 : StIs w3 D2 s0 s ∧ (∀ k, D2 k → D k ∨ w.heap.size ≤ k) ∧ ¬ D2 (q + 1) ∧ Mod w w3 D := by
    refine ⟨HM2.out.2.2.2.1.below HB3.out, fun k hk => (HM2.out.2.2.2.2.1 k hk).imp id (fun h => Nat.le_trans HB0.out.size h), fun hd => ?_, HM2.out.2.2.2.2.2.2.below HB3.out⟩
    rcases HM2.out.2.2.2.2.1 _ hd with h | h
    · have := HH.out.sub _ h
      have := HQ.out
      omega
    · have := HQ1.out
      omega
  have HST := Aside0.mk hst3
  clear hst3
  by_cases he0 : e0 = 0
  · subst he0
    go_upto_region 5 with fail
    by_cases h64 : 64 < vl
    · have h64i : (64 : Int) < (vl : Int) := by omega
      go_upto_region 6 with fail
      refine wp_region_lit ?_
      refine wpList_buildZ rfl rfl ?_
      refine wpList_store_row rfl 47 _ _ rfl (q + 1) inoZ.toArray rfl rfl 47 _ HS2.out infZ rfl inoZ_one ?_
      have hfin := ino_fin inoZ (34) (q := q + 1) (by have := HQ.out; omega) HST.out.1 HST.out.2.1 HST.out.2.2.1 HST.out.2.2.2
      have hres := setRow_heap w3 (q + 1) _ inoZ.toArray 47 (0, 0) HS2.out
      generalize World.setRow w3 (q + 1) inoZ.toArray = w9 at hfin hres ⊢
      have HFIN := Aside0.mk hfin
      have HRS := Aside0.mk hres
      clear hfin hres
      go_wp2
      refine bodyPost_ret (results_ino rfl _ _ (q + 1) inoZ.toArray (34) rfl rfl HRS.out infZ) rfl ?_
      have hr : (rs, rc, re) = (s, inoZ, (34)) := by
        rw [← HRES.out]
        unfold xsetI
        rw [HCS.out.2.2, HK.out.1, HVL.out]
        rw [if_neg (by simp), if_pos h64]
      cases hr
      exact HFIN.out
    · have h64i : ¬ ((64 : Int) < (vl : Int)) := by omega
      go_upto_region 7 with fail
      go_wp2_with fail
      refine (HN.out w3).mono ?_
      rintro e w4 ⟨rfl, rfl⟩
      dsimp only
      cases nb
      · go_upto_region 8 with fail
        refine wp_region_lit ?_
        refine wpList_buildZ rfl rfl ?_
        refine wpList_store_row rfl 47 _ _ rfl (q + 1) inoZ.toArray rfl rfl 47 _ HS2.out infZ rfl inoZ_one ?_
        have hfin := ino_fin inoZ (22) (q := q + 1) (by have := HQ.out; omega) HST.out.1 HST.out.2.1 HST.out.2.2.1 HST.out.2.2.2
        have hres := setRow_heap w3 (q + 1) _ inoZ.toArray 47 (0, 0) HS2.out
        generalize World.setRow w3 (q + 1) inoZ.toArray = w9 at hfin hres ⊢
        have HFIN := Aside0.mk hfin
        have HRS := Aside0.mk hres
        clear hfin hres
        go_wp2
        refine bodyPost_ret (results_ino rfl _ _ (q + 1) inoZ.toArray (22) rfl rfl HRS.out infZ) rfl ?_
        have hr : (rs, rc, re) = (s, inoZ, (22)) := by
          rw [← HRES.out]
          unfold xsetI
          rw [HCS.out.2.2, HK.out.1, HVL.out]
          rw [if_neg (by simp), if_neg h64, if_pos (.inl HNB.out)]
        cases hr
        exact HFIN.out
      · by_cases hw0 : how < 0
        · go_upto_region 8 with fail
          refine wp_region_lit ?_
          refine wpList_buildZ rfl rfl ?_
          refine wpList_store_row rfl 47 _ _ rfl (q + 1) inoZ.toArray rfl rfl 47 _ HS2.out infZ rfl inoZ_one ?_
          have hfin := ino_fin inoZ (22) (q := q + 1) (by have := HQ.out; omega) HST.out.1 HST.out.2.1 HST.out.2.2.1 HST.out.2.2.2
          have hres := setRow_heap w3 (q + 1) _ inoZ.toArray 47 (0, 0) HS2.out
          generalize World.setRow w3 (q + 1) inoZ.toArray = w9 at hfin hres ⊢
          have HFIN := Aside0.mk hfin
          have HRS := Aside0.mk hres
          clear hfin hres
          go_wp2
          refine bodyPost_ret (results_ino rfl _ _ (q + 1) inoZ.toArray (22) rfl rfl HRS.out infZ) rfl ?_
          have hr : (rs, rc, re) = (s, inoZ, (22)) := by
            rw [← HRES.out]
            unfold xsetI
            rw [HCS.out.2.2, HK.out.1, HVL.out]
            rw [if_neg (by simp), if_neg h64, if_pos (.inr (.inl hw0))]
          cases hr
          exact HFIN.out
        · by_cases hw2 : 2 < how
          · go_upto_region 8 with fail
            refine wp_region_lit ?_
            refine wpList_buildZ rfl rfl ?_
            refine wpList_store_row rfl 47 _ _ rfl (q + 1) inoZ.toArray rfl rfl 47 _ HS2.out infZ rfl inoZ_one ?_
            have hfin := ino_fin inoZ (22) (q := q + 1) (by have := HQ.out; omega) HST.out.1 HST.out.2.1 HST.out.2.2.1 HST.out.2.2.2
            have hres := setRow_heap w3 (q + 1) _ inoZ.toArray 47 (0, 0) HS2.out
            generalize World.setRow w3 (q + 1) inoZ.toArray = w9 at hfin hres ⊢
            have HFIN := Aside0.mk hfin
            have HRS := Aside0.mk hres
            clear hfin hres
            go_wp2
            refine bodyPost_ret (results_ino rfl _ _ (q + 1) inoZ.toArray (22) rfl rfl HRS.out infZ) rfl ?_
            have hr : (rs, rc, re) = (s, inoZ, (22)) := by
              rw [← HRES.out]
              unfold xsetI
              rw [HCS.out.2.2, HK.out.1, HVL.out]
              rw [if_neg (by simp), if_neg h64, if_pos (.inr (.inr hw2))]
            cases hr
            exact HFIN.out
          · have HNE := Aside0.mk (show ¬ (namedB nm = false ∨ how < 0 ∨ 2 < how) by rw [HNB.out]; simp [hw0, hw2])
            have HV64 := Aside0.mk h64
            obtain rfl | rfl | rfl : how = 0 ∨ how = 1 ∨ how = 2 := by omega
            · have HCL := Aside0.mk (show ∀ W : World, Mod w W D → Calls Tryz.prog 42 #[.slice Av vl cv] W fun e w' => ∃ v, e = .returned v ∧ Own w' W.heap.size 5 .u8 v val ∧ Below W.heap.size W w' from fun W hW => HVL.out ▸ cloneany_calls (C_int_mod HV.out.1 hW HV.out.2.2.2) HV.out.2.1 (by have := HV64.out; have := HVL.out; omega))
              go_upto_region 13 with fail
              go_wp2_with fail
              refine (HCL.out w3 HST.out.2.2.2).mono ?_
              rintro e w4 ⟨v4, rfl, ho4, hb4⟩
              have HO4 := Aside0.mk (And.intro ho4 hb4)
              obtain ⟨A4, c4, rfl, hc4, hC4⟩ := ho4.reads
              rw [HVL.out] at HO4 hc4 hC4 ⊢
              have HC4 := Aside0.mk hC4
              clear ho4 hb4 hC4
              dsimp only
              have hb5 := below_alloc (Below.refl w4.heap.size w4) (.cells #[.string nm, .slice A4 vl c4] 72)
              have hb6 := below_alloc hb5 (.cells #[.string nm, .slice A4 vl c4] 72)
              have ho6 : OwnA ((w4.alloc (.cells #[.string nm, .slice A4 vl c4] 72)).alloc (.cells #[.string nm, .slice A4 vl c4] 72)) b2 (.slice A2 ln c2) l := by have := ((HM2.out.1.below HB3.out).below HO4.out.2).below hb6; rw [HK.out.2] at this; exact this
              have hv6 : Own ((w4.alloc (.cells #[.string nm, .slice A4 vl c4] 72)).alloc (.cells #[.string nm, .slice A4 vl c4] 72)) b2 5 .u8 (.slice A4 vl c4) (⟨nm, val⟩ : Att).val := (own_low HO4.out.1 (Nat.le_trans HBS.out HB3.out.size)).below hb6
              have hvb6 := alloc_last (w4.alloc (.cells #[.string nm, .slice A4 vl c4] 72)) (.cells #[.string nm, .slice A4 vl c4] 72)
              have hsz6 : (w4.alloc (.cells #[.string nm, .slice A4 vl c4] 72)).heap.size = w4.heap.size + 1 := by simp
              cases is
              · have hins := insert_calls (x := ⟨nm, val⟩) (i := i) ho6 hv6 HV.out.2.2.1 (seekI_le HK.out.1) (by have := HLL.out; omega) hvb6 (fun e => by have := ownA_lt (HM2.out.1) _ (by rw [HK.out.2]; exact e); have := HB3.out.size; have := HO4.out.2.size; simp at *; omega) (by have := HBS.out; have := HB3.out.size; have := HO4.out.2.size; simp; omega)
                rw [hsz6] at hins
                have HINS := Aside0.mk hins
                clear hins ho6 hv6 hvb6 hb5 hb6
                go_wp2_with fail
                refine HINS.out.mono ?_
                rintro e w7 ⟨v7, rfl, ho7, hm7⟩
                dsimp only
                have hm37 : Mod w3 w7 (fun k => (Value.slice A2 ln c2).ownBlock = some k) := Mod.trans (Mod.of_below (below_then HO4.out.2 HO4.out.2.size (below_alloc (below_alloc (Below.refl w4.heap.size w4) _) _)) _) hm7 (fun _ _ h => h)
                have hge : ∀ k, (Value.slice A2 ln c2).ownBlock = some k → b2 ≤ k := fun k hk => ownA_ge HM2.out.1 k (by rw [HK.out.2]; exact hk)
                have hq2 : q + 1 < b2 := by have := HQ1.out; have := HM2.out.2.2.1; omega
                have hs1 := HS1.out.mod hm37 (fun e => by have := hge _ e; omega)
                have hs2 := HS2.out.mod hm37 (fun e => by have := hge _ e; omega)
                have hst7 : StIs w7 D2 s0 s ∧ (∀ k, D2 k → D k ∨ w.heap.size ≤ k) ∧ ¬ D2 (q + 1) ∧ Mod w w7 D := ⟨HST.out.1.mod hm37 (fun k hk e => by have := hge _ e; have := HM2.out.2.1 k hk; omega), HST.out.2.1, HST.out.2.2.1, Mod.trans HST.out.2.2.2 hm37 (fun k hk e => by have := hge _ e; have := HM2.out.2.2.1; have := HB0.out.size; omega)⟩
                obtain ⟨l2, hl2⟩ : ∃ l2, insL l i (⟨nm, val⟩ : Att) = l2 := ⟨_, rfl⟩
                rw [hl2] at ho7
                have hln2 : l2.length ≤ 256 := by rw [← hl2, insL_length]; have := HLL.out; omega
                have HL2 := Aside0.mk (show xsetL l (i, false) ⟨nm, val⟩ = l2 from hl2)
                clear hl2 hm7 hge
                obtain ⟨A7, c7, rfl, hc7, hE7⟩ := ho7.reads (by omega)
                have hall7 : ∀ y ∈ l2, allB y.val := fun y hy => by
                  obtain ⟨vs, _, _, h3⟩ := ho7
                  obtain ⟨j, hj, rfl⟩ := List.getElem_of_mem hy
                  have := (h3 j hj).2
                  simpa [attAt, List.getD_eq_getElem?_getD, hj] using this
                have HPK := Aside0.mk (xpack_calls A7 c7 0 l2 w7 hE7 hc7 (by omega) (by omega) (by omega))
                have HW7 := Aside0.mk (And.intro hst7 (And.intro hs1 (And.intro hs2 (And.intro hE7 (And.intro hc7 (And.intro hln2 hall7))))))
                obtain ⟨pc, hpc⟩ : ∃ pc, xpackI l2 0 = pc := ⟨_, rfl⟩
                rw [hpc] at HPK
                have HPC := Aside0.mk hpc
                have HO7 := Aside0.mk ho7
                obtain ⟨p1, p2⟩ := pc
                obtain ⟨ln2, hln2⟩ : ∃ ln2, l2.length = ln2 := ⟨_, rfl⟩
                rw [hln2] at HPK ⊢
                have HLN2 := Aside0.mk hln2
                clear hm37 hq2 hs1 hs2 hst7 ho7 hc7 hE7 hall7 hpc hln2 HS1 HS2 HST HINS HCL HO4 HC4
                go_wp2_with fail
                refine HPK.out.mono ?_
                rintro e w8 ⟨v8, rfl, hb8, _⟩
                dsimp only
                have hs1 := HW7.out.2.1.below hb8
                have HS1 := Aside0.mk hs1
                have HS2 := Aside0.mk (HW7.out.2.2.1.below hb8)
                have HST := Aside0.mk (show StIs w8 D2 s0 s ∧ (∀ k, D2 k → D k ∨ w.heap.size ≤ k) ∧ ¬ D2 (q + 1) ∧ Mod w w8 D from ⟨HW7.out.1.1.below hb8, HW7.out.1.2.1, HW7.out.1.2.2.1, HW7.out.1.2.2.2.below hb8⟩)
                have HE8 := Aside0.mk (HW7.out.2.2.2.1.below hb8)
                have HO8 := Aside0.mk (HO7.out.below hb8)
                clear hs1 hb8
                by_cases hp20 : p2 ≠ 0
                · go_upto_region 19 with fail
                  refine wp_region_lit ?_
                  refine wpList_buildZ rfl rfl ?_
                  refine wpList_plain rfl fun K hK => ?_
                  unfold Oper.wp execOp
                  go_simp
                  refine hK _ _ ?_
                  clear hK K
                  refine wpList_store_row rfl 47 _ _ rfl (q + 1) inoZ.toArray rfl rfl 47 _ HS2.out infZ rfl inoZ_one ?_
                  have hfin := ino_fin inoZ p2 (q := q + 1) (by have := HQ.out; omega) HST.out.1 HST.out.2.1 HST.out.2.2.1 HST.out.2.2.2
                  have hres := setRow_heap w8 (q + 1) _ inoZ.toArray 47 (0, 0) HS2.out
                  generalize World.setRow w8 (q + 1) inoZ.toArray = w9 at hfin hres ⊢
                  have HFIN := Aside0.mk hfin
                  have HRS := Aside0.mk hres
                  clear hfin hres
                  go_wp2
                  refine bodyPost_ret (results_ino rfl _ _ (q + 1) inoZ.toArray p2 rfl rfl HRS.out infZ) rfl ?_
                  have hr : (rs, rc, re) = (s, inoZ, p2) := by
                    rw [← HRES.out]
                    unfold xsetI
                    rw [HCS.out.2.2, HVL.out]
                    dsimp only
                    rw [HK.out.1, HL2.out, HPC.out, if_neg (by simp), if_neg HV64.out, if_neg HNE.out, if_neg (by simp), if_neg (by simp), if_pos hp20]
                  cases hr
                  exact HFIN.out
                · obtain rfl : p2 = 0 := by simpa using hp20
                  clear hp20
                  have c12 := HS1.out.cell 12 (.int .i64 r.xattr) (by rw [← HCS.out.1]; rfl)
                  go_upto_region 20 with fail
                  by_cases hx0 : r.xattr = 0
                  · rw [hx0] at c12
                    have HX0 := Aside0.mk hx0
                    have h2w : 2 < w.heap.size := HT.out.2.2
                    have hblk := blocks_calls goal 1 w8 HST.out.1 (HT.out.1.mod HST.out.2.2.2 HT.out.2.1) (fun hd => (HST.out.2.1 _ hd).elim HT.out.2.1 (fun h => by omega)) hh HG.out.1 HG.out.2 (by omega) (by omega)
                    obtain ⟨bi, hbi⟩ : ∃ bi, blocksI s goal 1 = bi := ⟨_, rfl⟩
                    rw [hbi] at hblk
                    have HBI := Aside0.mk hbi
                    have HBLK := Aside0.mk hblk
                    obtain ⟨bs, bn, bw, be⟩ := bi
                    clear hblk hbi h2w hx0
                    go_upto_region 21 with fail
                    go_wp2_with fail
                    refine HBLK.out.mono ?_
                    rintro e w9 ⟨D9, rfl, h9, hD9, hm9⟩
                    dsimp only
                    have hs1 := HS1.out.mod hm9 (fun hd => (HM2.out.2.2.2.2.1 _ hd).elim (fun hd => by have := HH.out.sub _ hd; have := HQ.out; omega) (fun h => by have := HQ1.out; omega))
                    have hs2' := HS2.out.mod hm9 HST.out.2.2.1
                    have hq9 := HS2.out.lt
                    have hm19 : Mod w w9 D := Mod.trans HST.out.2.2.2 hm9 (fun k hk hd => (HST.out.2.1 k hd).elim id (fun h => by omega))
                    have hg9 : ∀ k, D9 k → D k ∨ w.heap.size ≤ k := fun k hk => (hD9 k hk).elim (HST.out.2.1 k) (fun h => .inr (by have := HST.out.2.2.2.size; omega))
                    have hn9 : ¬ D9 (q + 1) := fun hd => (hD9 _ hd).elim HST.out.2.2.1 (fun h => by omega)
                    have H9 := Aside0.mk (And.intro h9 (And.intro hg9 (And.intro hn9 (And.intro hm19 hs2'))))
                    have HS9 := Aside0.mk hs1
                    have HNQ9 := Aside0.mk (show ¬ D9 q from fun hd => (hD9 _ hd).elim (fun hd => (HM2.out.2.2.2.2.1 _ hd).elim (fun hd => by have := HH.out.sub _ hd; have := HQ.out; omega) (fun h => by have := HQ1.out; omega)) (fun h => by have := HS1.out.lt; omega))
                    have HO9 := Aside0.mk (HO8.out.mod hm9 (fun k hk _ hd => by have := HM2.out.2.1 k hd; omega))
                    clear h9 hD9 hm9 hs2' hq9 hm19 hg9 hn9 hs1
                    by_cases hbe : be ≠ 0
                    · go_upto_region 23 with fail
                      refine wp_region_lit ?_
                      refine wpList_buildZ rfl rfl ?_
                      refine wpList_plain rfl fun K hK => ?_
                      unfold Oper.wp execOp
                      go_simp
                      refine hK _ _ ?_
                      clear hK K
                      refine wpList_store_row rfl 47 _ _ rfl (q + 1) inoZ.toArray rfl rfl 47 _ H9.out.2.2.2.2 infZ rfl inoZ_one ?_
                      have hfin := ino_fin inoZ be (q := q + 1) (by have := HQ.out; omega) H9.out.1 H9.out.2.1 H9.out.2.2.1 H9.out.2.2.2.1
                      have hres := setRow_heap w9 (q + 1) _ inoZ.toArray 47 (0, 0) H9.out.2.2.2.2
                      generalize World.setRow w9 (q + 1) inoZ.toArray = w10 at hfin hres ⊢
                      have HFIN := Aside0.mk hfin
                      have HRS := Aside0.mk hres
                      clear hfin hres
                      go_wp2
                      refine bodyPost_ret (results_ino rfl _ _ (q + 1) inoZ.toArray be rfl rfl HRS.out infZ) rfl ?_
                      have hr : (rs, rc, re) = (bs, inoZ, be) := by
                        rw [← HRES.out]
                        unfold xsetI
                        rw [HCS.out.2.2, HVL.out]
                        dsimp only
                        rw [HK.out.1, HL2.out, HPC.out, if_neg (by simp), if_neg HV64.out, if_neg HNE.out, if_neg (by simp), if_neg (by simp), if_neg (by simp), if_neg (fun h => h HX0.out), HBI.out, if_pos hbe]
                      cases hr
                      exact HFIN.out
                    · obtain rfl : be = 0 := by simpa using hbe
                      clear hbe
                      have c12 := HS9.out.cell 12 (.int .i64 r.xattr) (by rw [← HCS.out.1]; rfl)
                      have c6 := HS9.out.cell 6 (.int .i64 r.blocks) (by rw [← HCS.out.1]; rfl)
                      have f12 := HS9.out.free 12
                      have f6 := HS9.out.free 6
                      go_upto_region 25 with fail
                      have hs10 := HS9.out.set 12 (.int .i64 bn)
                      have hm10 : Mod w9 (w9.setCell ⟨q, 12, none⟩ (.int .i64 bn)) (· = q) := (Mod.refl w9 _).set_own 12 _
                      generalize w9.setCell ⟨q, 12, none⟩ (.int .i64 bn) = w10 at hs10 hm10 ⊢
                      obtain ⟨hbl0, hbl1⟩ := inoI_blocks (xlistI_ino HCS.out.2.2)
                      have c6' := hs10.cell 6 (.int .i64 r.blocks) (by rw [← HCS.out.1]; rfl)
                      have f6' := hs10.free 6
                      have HS10 := Aside0.mk (And.intro hs10 hm10)
                      clear c12 c6 f12 f6 hs10 hm10
                      go_upto_region 26 with fail
                      have hs11 := HS10.out.1.set 6 (.int .i64 (r.blocks + 1))
                      have hm11 : Mod w9 (w10.setCell ⟨q, 6, none⟩ (.int .i64 (r.blocks + 1))) (· = q) := HS10.out.2.set_own 6 _
                      generalize w10.setCell ⟨q, 6, none⟩ (.int .i64 (r.blocks + 1)) = w11 at hs11 hm11 ⊢
                      obtain ⟨cs2, hcs2⟩ : ∃ cs2, ({ r with xattr := bn, blocks := r.blocks + 1 } : Ino).cells (.slice A n c) = cs2 := ⟨_, rfl⟩
                      have hcs3 : (cs.set 12 (.int .i64 bn)).set 6 (.int .i64 (r.blocks + 1)) = cs2 := by rw [← hcs2, ← HCS.out.1]; rfl
                      rw [hcs3] at hs11
                      obtain ⟨x, rfl, hx1, hx2, hx3⟩ := blocksI_ok HBI.out hh
                      have hnq := HNQ9.out
                      have hs112 : Strc w11 (q + 1) 47 inoZ := H9.out.2.2.2.2.mod hm11 (by omega)
                      have h11 : StIs w11 D9 s0 bs := H9.out.1.mod hm11 (fun k hk e => hnq (by have : k = q := e; rw [← this]; exact hk))
                      have hm111 : Mod w w11 D := H9.out.2.2.2.1.trans hm11 (fun k hk e => by have : k = q := e; have := HQ.out; omega)
                      have ho11 := HO9.out.mod hm11 (fun k hk _ e => by have : k = q := e; have := HQ1.out; have := HM2.out.2.2.1; omega)
                      have hE11 : Atts w11 A7 l2 := by
                        obtain ⟨A', c', e, _, hE⟩ := ho11.reads (by have := HW7.out.2.2.2.2.2.1; omega)
                        cases e
                        exact hE
                      have hlay := lay_calls cs2 x A7 c7 l2 w11 h11 (by rw [← hcs2]; rfl) (by rw [← hcs2]; exact Ino_one _ A n c) (by rw [← hcs2]; rfl) hx1 hx2 hE11 HW7.out.2.2.2.2.1 (by have := HW7.out.2.2.2.2.2.1; omega) (xpackI_code (by rw [HPC.out])) HW7.out.2.2.2.2.2.2 hx3
                      rw [HLN2.out] at hlay
                      have HLAY := Aside0.mk hlay
                      have H11 := Aside0.mk (And.intro h11 (And.intro hm111 (And.intro hs112 (And.intro hnq (And.intro hs11 (And.intro hcs2 hm11.size))))))
                      have hinf2 := infIno (cs := cs2) (by rw [← hcs2]; rfl)
                      clear hlay h11 hm111 hs112 hE11 hcs3 hm11 hs11 hcs2 hnq
                      refine wp_region_lit ?_
                      refine wpList_plain rfl fun K hK => ?_
                      unfold Oper.wp execOp
                      go_simp
                      refine hK _ _ ?_
                      clear hK K
                      refine wpList_load_row rfl 47 _ rfl q rfl 47 cs2.toArray (0, 0) _ H11.out.2.2.2.2.1 Tryz.underlying47 rfl hinf2 ?_
                      refine wpList_plain rfl fun K hK => ?_
                      unfold Oper.wp execOp
                      go_simp
                      refine hK _ _ ?_
                      clear hK K
                      refine wpList_plain rfl fun K hK => ?_
                      unfold Oper.wp execOp
                      go_simp
                      refine HLAY.out.mono ?_
                      rintro e w12 ⟨D12, rfl, h12, hD12, hm12⟩
                      have hs2' := H11.out.2.2.1.mod hm12 H9.out.2.2.1
                      have hq9 := H11.out.2.2.1.lt
                      have hm19 : Mod w w12 D := Mod.trans H11.out.2.1 hm12 (fun k hk hd => (H9.out.2.1 k hd).elim id (fun h => by omega))
                      have hg9 : ∀ k, D12 k → D k ∨ w.heap.size ≤ k := fun k hk => (hD12 k hk).elim (H9.out.2.1 k) (fun h => .inr (by have := H11.out.2.1.size; omega))
                      have hn9 : ¬ D12 (q + 1) := fun hd => (hD12 _ hd).elim H9.out.2.2.1 (fun h => by omega)
                      have H12 := Aside0.mk (And.intro h12 (And.intro hg9 (And.intro hn9 (And.intro hm19 hs2'))))
                      clear h12 hD12 hm12 hs2' hq9 hm19 hg9 hn9
                      dsimp only
                      refine hK _ _ ?_
                      clear hK K
                      refine wpList_plain rfl fun K hK => ?_
                      unfold Oper.wp execOp
                      go_simp
                      refine hK _ _ ?_
                      clear hK K
                      refine wpList_plain rfl fun K hK => ?_
                      unfold Oper.wp execOp
                      go_simp
                      refine hK _ _ ?_
                      clear hK K
                      refine wpList_store_row rfl 47 _ _ rfl (q + 1) cs2.toArray rfl rfl 47 _ H12.out.2.2.2.2 hinf2 (by rw [List.size_toArray, List.size_toArray, ← H11.out.2.2.2.2.2.1]; rfl) (by have := Ino_one { r with xattr := (x : Int), blocks := r.blocks + 1 } A n c; rw [H11.out.2.2.2.2.2.1] at this; simpa using this) ?_
                      have hfin := ino_fin cs2 0 (q := q + 1) (by have := HQ.out; omega) H12.out.1 H12.out.2.1 H12.out.2.2.1 H12.out.2.2.2.1
                      have hres := setRow_heap w12 (q + 1) _ cs2.toArray 47 (0, 0) H12.out.2.2.2.2
                      generalize World.setRow w12 (q + 1) cs2.toArray = w13 at hfin hres ⊢
                      have HFIN := Aside0.mk hfin
                      have HRS := Aside0.mk hres
                      clear hfin hres
                      go_wp2
                      refine bodyPost_ret (results_ino rfl _ _ (q + 1) cs2.toArray 0 rfl rfl HRS.out hinf2) rfl ?_
                      have hr : (rs, rc, re) = (bs.write x (xpackI l2 x).1, cs2, 0) := by
                        rw [← HRES.out]
                        unfold xsetI
                        rw [HCS.out.2.2, HVL.out]
                        dsimp only
                        rw [HK.out.1, HL2.out, HPC.out, if_neg (by simp), if_neg HV64.out, if_neg HNE.out, if_neg (by simp), if_neg (by simp), if_neg (by simp), if_neg (fun h => h HX0.out), HBI.out, if_neg (by simp), H11.out.2.2.2.2.2.1, Int.toNat_natCast]
                      cases hr
                      exact HFIN.out
                  · obtain ⟨hx1, hx2, hx3⟩ := xlistI_in HCS.out.2.2 hx0
                    obtain ⟨x, hxx⟩ : ∃ x : Nat, r.xattr = x := ⟨r.xattr.toNat, by omega⟩
                    have hxn : x < s.now.length := by rw [hxx] at hx3; simpa using hx3
                    have hxne : ¬ ((x : Int) = 0) := by omega
                    rw [hxx] at c12
                    have hlay := lay_calls cs x A7 c7 l2 w8 HST.out.1 HCS.out.2.1 (by rw [← HCS.out.1]; exact Ino_one r A n c) (by rw [← HCS.out.1, ← hxx]; rfl) hxn (by omega) HE8.out HW7.out.2.2.2.2.1 (by have := HW7.out.2.2.2.2.2.1; omega) (xpackI_code (by rw [HPC.out])) HW7.out.2.2.2.2.2.2 (by omega)
                    rw [HLN2.out] at hlay
                    have HLAY := Aside0.mk hlay
                    have HX := Aside0.mk (And.intro hxx hx0)
                    clear hlay hxn hx1 hx2 hx3 hxx
                    go_upto_region 26 with fail
                    refine wp_region_lit ?_
                    refine wpList_plain rfl fun K hK => ?_
                    unfold Oper.wp execOp
                    go_simp
                    refine hK _ _ ?_
                    clear hK K
                    refine wpList_load_row rfl 47 _ rfl q rfl 47 cs.toArray (0, 0) _ HS1.out Tryz.underlying47 rfl hinf ?_
                    refine wpList_plain rfl fun K hK => ?_
                    unfold Oper.wp execOp
                    go_simp
                    refine hK _ _ ?_
                    clear hK K
                    refine wpList_plain rfl fun K hK => ?_
                    unfold Oper.wp execOp
                    go_simp
                    refine HLAY.out.mono ?_
                    rintro e w9 ⟨D9, rfl, h9, hD9, hm9⟩
                    have hs2' := HS2.out.mod hm9 HST.out.2.2.1
                    have hq9 := HS2.out.lt
                    have hm19 : Mod w w9 D := Mod.trans HST.out.2.2.2 hm9 (fun k hk hd => (HST.out.2.1 k hd).elim id (fun h => by omega))
                    have hg9 : ∀ k, D9 k → D k ∨ w.heap.size ≤ k := fun k hk => (hD9 k hk).elim (HST.out.2.1 k) (fun h => .inr (by have := HST.out.2.2.2.size; omega))
                    have hn9 : ¬ D9 (q + 1) := fun hd => (hD9 _ hd).elim HST.out.2.2.1 (fun h => by omega)
                    have H9 := Aside0.mk (And.intro h9 (And.intro hg9 (And.intro hn9 (And.intro hm19 hs2'))))
                    clear h9 hD9 hm9 hs2' hq9 hm19 hg9 hn9
                    dsimp only
                    refine hK _ _ ?_
                    clear hK K
                    refine wpList_plain rfl fun K hK => ?_
                    unfold Oper.wp execOp
                    go_simp
                    refine hK _ _ ?_
                    clear hK K
                    refine wpList_plain rfl fun K hK => ?_
                    unfold Oper.wp execOp
                    go_simp
                    refine hK _ _ ?_
                    clear hK K
                    refine wpList_store_row rfl 47 _ _ rfl (q + 1) cs.toArray rfl rfl 47 _ H9.out.2.2.2.2 hinf (by rw [List.size_toArray, List.size_toArray, HCS.out.2.1]; rfl) (by have := Ino_one r A n c; rw [HCS.out.1] at this; simpa using this) ?_
                    have hfin := ino_fin cs 0 (q := q + 1) (by have := HQ.out; omega) H9.out.1 H9.out.2.1 H9.out.2.2.1 H9.out.2.2.2.1
                    have hres := setRow_heap w9 (q + 1) _ cs.toArray 47 (0, 0) H9.out.2.2.2.2
                    generalize World.setRow w9 (q + 1) cs.toArray = w10 at hfin hres ⊢
                    have HFIN := Aside0.mk hfin
                    have HRS := Aside0.mk hres
                    clear hfin hres
                    go_wp2
                    refine bodyPost_ret (results_ino rfl _ _ (q + 1) cs.toArray 0 rfl rfl HRS.out hinf) rfl ?_
                    have hr : (rs, rc, re) = (s.write x (xpackI l2 x).1, cs, 0) := by
                      rw [← HRES.out]
                      unfold xsetI
                      rw [HCS.out.2.2, HVL.out]
                      dsimp only
                      rw [HK.out.1, HL2.out, HPC.out, if_neg (by simp), if_neg HV64.out, if_neg HNE.out, if_neg (by simp), if_neg (by simp), if_neg (by simp), if_pos HX.out.2, HX.out.1, HCS.out.1, Int.toNat_natCast]
                    cases hr
                    exact HFIN.out
              · clear hb6 ho6 hv6 hvb6 hsz6
                have hil : i < l.length := seekI_lt HK.out.1
                go_upto_region 15 with fail
                have ho5 : OwnA (w4.alloc (.cells #[.string nm, .slice A4 vl c4] 72)) b2 (.slice A2 ln c2) l := by have := ((HM2.out.1.below HB3.out).below HO4.out.2).below hb5; rw [HK.out.2] at this; exact this
                have hv5 : Own (w4.alloc (.cells #[.string nm, .slice A4 vl c4] 72)) b2 5 .u8 (.slice A4 vl c4) (⟨nm, val⟩ : Att).val := (own_low HO4.out.1 (Nat.le_trans HBS.out HB3.out.size)).below hb5
                have hvb5 := alloc_last w4 (.cells #[.string nm, .slice A4 vl c4] 72)
                have hm35 : Mod w3 (w4.alloc (.cells #[.string nm, .slice A4 vl c4] 72)) (fun k => b2 ≤ k) := Mod.of_below (below_then HO4.out.2 HO4.out.2.size hb5) _
                obtain ⟨g, rfl, hq1, hq2, hf1, hf2, ho7, hm7⟩ := ownA_put (x := ⟨nm, val⟩) (i := i) ho5 HK.out.2 hv5 HV.out.2.2.1 hil
                have hgb : b2 ≤ g := ownA_ge ho5 g rfl
                generalize (w4.alloc (.cells #[.string nm, .slice A4 vl c4] 72)) = w5 at hvb5 hm35 hq1 hq2 hf1 hf2 ho7 hm7 ⊢
                obtain ⟨z1, hq1⟩ := hq1
                obtain ⟨z2, hq2, hq3⟩ := hq2
                obtain ⟨hf2, hf3⟩ := hf2
                have hiln : i < ln := by have := HK.out.2; omega
                have hln0 := hil
                have HO57 := Aside0.mk (And.intro ho7 hm7)
                have hv5a : w5.cell? ⟨w4.heap.size, 0, none⟩ = some (.string nm) := by simp [World.cell?, hvb5]
                have hv5b : w5.cell? ⟨w4.heap.size, 1, none⟩ = some (.slice A4 vl c4) := by simp [World.cell?, hvb5]
                clear ho5 hv5 hvb5 hb5 ho7 hm7
                go_upto_region 17 with fail
                have ho7 := HO57.out.1
                have hm7 := HO57.out.2
                generalize (w5.setCell ⟨g, i * 2, none⟩ (.string nm)).setCell ⟨g, i * 2 + 1, none⟩ (.slice A4 vl c4) = w7 at ho7 hm7 ⊢
                clear hq1 hq2 hq3 hf1 hf2 hf3 hv5a hv5b HO57
                have hm37 : Mod w3 w7 (fun k => b2 ≤ k) := Mod.trans hm35 (hm7.mono (fun k _ e => by have : g = k := e; show b2 ≤ k; omega)) (fun _ _ h => h)
                have hq2 : q + 1 < b2 := by have := HQ1.out; have := HM2.out.2.2.1; omega
                have hs1 := HS1.out.mod hm37 (fun e => by have : b2 ≤ q := e; omega)
                have hs2 := HS2.out.mod hm37 (fun e => by have : b2 ≤ q + 1 := e; omega)
                have hst7 : StIs w7 D2 s0 s ∧ (∀ k, D2 k → D k ∨ w.heap.size ≤ k) ∧ ¬ D2 (q + 1) ∧ Mod w w7 D := ⟨HST.out.1.mod hm37 (fun k hk e => by have : b2 ≤ k := e; have := HM2.out.2.1 k hk; omega), HST.out.2.1, HST.out.2.2.1, Mod.trans HST.out.2.2.2 hm37 (fun k hk e => by have : b2 ≤ k := e; have := HM2.out.2.2.1; have := HB0.out.size; omega)⟩
                obtain ⟨l2, hl2⟩ : ∃ l2, l.set i (⟨nm, val⟩ : Att) = l2 := ⟨_, rfl⟩
                rw [hl2] at ho7
                have hlnl : l2.length = ln := by rw [← hl2, List.length_set]; exact HK.out.2
                have hln2 : l2.length ≤ 256 := by have := HLL.out; have := HK.out.2; omega
                have HL2 := Aside0.mk (show xsetL l (i, true) ⟨nm, val⟩ = l2 from hl2)
                have HINS := Aside0.mk trivial
                generalize Value.slice (some ⟨g, 0, none⟩) ln c2 = v7 at ho7 ⊢
                clear hl2 hm7 hil hln0 hiln hlnl hgb hm35
                obtain ⟨A7, c7, rfl, hc7, hE7⟩ := ho7.reads (by omega)
                have hall7 : ∀ y ∈ l2, allB y.val := fun y hy => by
                  obtain ⟨vs, _, _, h3⟩ := ho7
                  obtain ⟨j, hj, rfl⟩ := List.getElem_of_mem hy
                  have := (h3 j hj).2
                  simpa [attAt, List.getD_eq_getElem?_getD, hj] using this
                have HPK := Aside0.mk (xpack_calls A7 c7 0 l2 w7 hE7 hc7 (by omega) (by omega) (by omega))
                have HW7 := Aside0.mk (And.intro hst7 (And.intro hs1 (And.intro hs2 (And.intro hE7 (And.intro hc7 (And.intro hln2 hall7))))))
                obtain ⟨pc, hpc⟩ : ∃ pc, xpackI l2 0 = pc := ⟨_, rfl⟩
                rw [hpc] at HPK
                have HPC := Aside0.mk hpc
                have HO7 := Aside0.mk ho7
                obtain ⟨p1, p2⟩ := pc
                obtain ⟨ln2, hln2⟩ : ∃ ln2, l2.length = ln2 := ⟨_, rfl⟩
                rw [hln2] at HPK ⊢
                have HLN2 := Aside0.mk hln2
                clear hm37 hq2 hs1 hs2 hst7 ho7 hc7 hE7 hall7 hpc hln2 HS1 HS2 HST HINS HCL HO4 HC4
                go_wp2_with fail
                refine HPK.out.mono ?_
                rintro e w8 ⟨v8, rfl, hb8, _⟩
                dsimp only
                have hs1 := HW7.out.2.1.below hb8
                have HS1 := Aside0.mk hs1
                have HS2 := Aside0.mk (HW7.out.2.2.1.below hb8)
                have HST := Aside0.mk (show StIs w8 D2 s0 s ∧ (∀ k, D2 k → D k ∨ w.heap.size ≤ k) ∧ ¬ D2 (q + 1) ∧ Mod w w8 D from ⟨HW7.out.1.1.below hb8, HW7.out.1.2.1, HW7.out.1.2.2.1, HW7.out.1.2.2.2.below hb8⟩)
                have HE8 := Aside0.mk (HW7.out.2.2.2.1.below hb8)
                have HO8 := Aside0.mk (HO7.out.below hb8)
                clear hs1 hb8
                by_cases hp20 : p2 ≠ 0
                · go_upto_region 19 with fail
                  refine wp_region_lit ?_
                  refine wpList_buildZ rfl rfl ?_
                  refine wpList_plain rfl fun K hK => ?_
                  unfold Oper.wp execOp
                  go_simp
                  refine hK _ _ ?_
                  clear hK K
                  refine wpList_store_row rfl 47 _ _ rfl (q + 1) inoZ.toArray rfl rfl 47 _ HS2.out infZ rfl inoZ_one ?_
                  have hfin := ino_fin inoZ p2 (q := q + 1) (by have := HQ.out; omega) HST.out.1 HST.out.2.1 HST.out.2.2.1 HST.out.2.2.2
                  have hres := setRow_heap w8 (q + 1) _ inoZ.toArray 47 (0, 0) HS2.out
                  generalize World.setRow w8 (q + 1) inoZ.toArray = w9 at hfin hres ⊢
                  have HFIN := Aside0.mk hfin
                  have HRS := Aside0.mk hres
                  clear hfin hres
                  go_wp2
                  refine bodyPost_ret (results_ino rfl _ _ (q + 1) inoZ.toArray p2 rfl rfl HRS.out infZ) rfl ?_
                  have hr : (rs, rc, re) = (s, inoZ, p2) := by
                    rw [← HRES.out]
                    unfold xsetI
                    rw [HCS.out.2.2, HVL.out]
                    dsimp only
                    rw [HK.out.1, HL2.out, HPC.out, if_neg (by simp), if_neg HV64.out, if_neg HNE.out, if_neg (by simp), if_neg (by simp), if_pos hp20]
                  cases hr
                  exact HFIN.out
                · obtain rfl : p2 = 0 := by simpa using hp20
                  clear hp20
                  have c12 := HS1.out.cell 12 (.int .i64 r.xattr) (by rw [← HCS.out.1]; rfl)
                  go_upto_region 20 with fail
                  by_cases hx0 : r.xattr = 0
                  · rw [hx0] at c12
                    have HX0 := Aside0.mk hx0
                    have h2w : 2 < w.heap.size := HT.out.2.2
                    have hblk := blocks_calls goal 1 w8 HST.out.1 (HT.out.1.mod HST.out.2.2.2 HT.out.2.1) (fun hd => (HST.out.2.1 _ hd).elim HT.out.2.1 (fun h => by omega)) hh HG.out.1 HG.out.2 (by omega) (by omega)
                    obtain ⟨bi, hbi⟩ : ∃ bi, blocksI s goal 1 = bi := ⟨_, rfl⟩
                    rw [hbi] at hblk
                    have HBI := Aside0.mk hbi
                    have HBLK := Aside0.mk hblk
                    obtain ⟨bs, bn, bw, be⟩ := bi
                    clear hblk hbi h2w hx0
                    go_upto_region 21 with fail
                    go_wp2_with fail
                    refine HBLK.out.mono ?_
                    rintro e w9 ⟨D9, rfl, h9, hD9, hm9⟩
                    dsimp only
                    have hs1 := HS1.out.mod hm9 (fun hd => (HM2.out.2.2.2.2.1 _ hd).elim (fun hd => by have := HH.out.sub _ hd; have := HQ.out; omega) (fun h => by have := HQ1.out; omega))
                    have hs2' := HS2.out.mod hm9 HST.out.2.2.1
                    have hq9 := HS2.out.lt
                    have hm19 : Mod w w9 D := Mod.trans HST.out.2.2.2 hm9 (fun k hk hd => (HST.out.2.1 k hd).elim id (fun h => by omega))
                    have hg9 : ∀ k, D9 k → D k ∨ w.heap.size ≤ k := fun k hk => (hD9 k hk).elim (HST.out.2.1 k) (fun h => .inr (by have := HST.out.2.2.2.size; omega))
                    have hn9 : ¬ D9 (q + 1) := fun hd => (hD9 _ hd).elim HST.out.2.2.1 (fun h => by omega)
                    have H9 := Aside0.mk (And.intro h9 (And.intro hg9 (And.intro hn9 (And.intro hm19 hs2'))))
                    have HS9 := Aside0.mk hs1
                    have HNQ9 := Aside0.mk (show ¬ D9 q from fun hd => (hD9 _ hd).elim (fun hd => (HM2.out.2.2.2.2.1 _ hd).elim (fun hd => by have := HH.out.sub _ hd; have := HQ.out; omega) (fun h => by have := HQ1.out; omega)) (fun h => by have := HS1.out.lt; omega))
                    have HO9 := Aside0.mk (HO8.out.mod hm9 (fun k hk _ hd => by have := HM2.out.2.1 k hd; omega))
                    clear h9 hD9 hm9 hs2' hq9 hm19 hg9 hn9 hs1
                    by_cases hbe : be ≠ 0
                    · go_upto_region 23 with fail
                      refine wp_region_lit ?_
                      refine wpList_buildZ rfl rfl ?_
                      refine wpList_plain rfl fun K hK => ?_
                      unfold Oper.wp execOp
                      go_simp
                      refine hK _ _ ?_
                      clear hK K
                      refine wpList_store_row rfl 47 _ _ rfl (q + 1) inoZ.toArray rfl rfl 47 _ H9.out.2.2.2.2 infZ rfl inoZ_one ?_
                      have hfin := ino_fin inoZ be (q := q + 1) (by have := HQ.out; omega) H9.out.1 H9.out.2.1 H9.out.2.2.1 H9.out.2.2.2.1
                      have hres := setRow_heap w9 (q + 1) _ inoZ.toArray 47 (0, 0) H9.out.2.2.2.2
                      generalize World.setRow w9 (q + 1) inoZ.toArray = w10 at hfin hres ⊢
                      have HFIN := Aside0.mk hfin
                      have HRS := Aside0.mk hres
                      clear hfin hres
                      go_wp2
                      refine bodyPost_ret (results_ino rfl _ _ (q + 1) inoZ.toArray be rfl rfl HRS.out infZ) rfl ?_
                      have hr : (rs, rc, re) = (bs, inoZ, be) := by
                        rw [← HRES.out]
                        unfold xsetI
                        rw [HCS.out.2.2, HVL.out]
                        dsimp only
                        rw [HK.out.1, HL2.out, HPC.out, if_neg (by simp), if_neg HV64.out, if_neg HNE.out, if_neg (by simp), if_neg (by simp), if_neg (by simp), if_neg (fun h => h HX0.out), HBI.out, if_pos hbe]
                      cases hr
                      exact HFIN.out
                    · obtain rfl : be = 0 := by simpa using hbe
                      clear hbe
                      have c12 := HS9.out.cell 12 (.int .i64 r.xattr) (by rw [← HCS.out.1]; rfl)
                      have c6 := HS9.out.cell 6 (.int .i64 r.blocks) (by rw [← HCS.out.1]; rfl)
                      have f12 := HS9.out.free 12
                      have f6 := HS9.out.free 6
                      go_upto_region 25 with fail
                      have hs10 := HS9.out.set 12 (.int .i64 bn)
                      have hm10 : Mod w9 (w9.setCell ⟨q, 12, none⟩ (.int .i64 bn)) (· = q) := (Mod.refl w9 _).set_own 12 _
                      generalize w9.setCell ⟨q, 12, none⟩ (.int .i64 bn) = w10 at hs10 hm10 ⊢
                      obtain ⟨hbl0, hbl1⟩ := inoI_blocks (xlistI_ino HCS.out.2.2)
                      have c6' := hs10.cell 6 (.int .i64 r.blocks) (by rw [← HCS.out.1]; rfl)
                      have f6' := hs10.free 6
                      have HS10 := Aside0.mk (And.intro hs10 hm10)
                      clear c12 c6 f12 f6 hs10 hm10
                      go_upto_region 26 with fail
                      have hs11 := HS10.out.1.set 6 (.int .i64 (r.blocks + 1))
                      have hm11 : Mod w9 (w10.setCell ⟨q, 6, none⟩ (.int .i64 (r.blocks + 1))) (· = q) := HS10.out.2.set_own 6 _
                      generalize w10.setCell ⟨q, 6, none⟩ (.int .i64 (r.blocks + 1)) = w11 at hs11 hm11 ⊢
                      obtain ⟨cs2, hcs2⟩ : ∃ cs2, ({ r with xattr := bn, blocks := r.blocks + 1 } : Ino).cells (.slice A n c) = cs2 := ⟨_, rfl⟩
                      have hcs3 : (cs.set 12 (.int .i64 bn)).set 6 (.int .i64 (r.blocks + 1)) = cs2 := by rw [← hcs2, ← HCS.out.1]; rfl
                      rw [hcs3] at hs11
                      obtain ⟨x, rfl, hx1, hx2, hx3⟩ := blocksI_ok HBI.out hh
                      have hnq := HNQ9.out
                      have hs112 : Strc w11 (q + 1) 47 inoZ := H9.out.2.2.2.2.mod hm11 (by omega)
                      have h11 : StIs w11 D9 s0 bs := H9.out.1.mod hm11 (fun k hk e => hnq (by have : k = q := e; rw [← this]; exact hk))
                      have hm111 : Mod w w11 D := H9.out.2.2.2.1.trans hm11 (fun k hk e => by have : k = q := e; have := HQ.out; omega)
                      have ho11 := HO9.out.mod hm11 (fun k hk _ e => by have : k = q := e; have := HQ1.out; have := HM2.out.2.2.1; omega)
                      have hE11 : Atts w11 A7 l2 := by
                        obtain ⟨A', c', e, _, hE⟩ := ho11.reads (by have := HW7.out.2.2.2.2.2.1; omega)
                        cases e
                        exact hE
                      have hlay := lay_calls cs2 x A7 c7 l2 w11 h11 (by rw [← hcs2]; rfl) (by rw [← hcs2]; exact Ino_one _ A n c) (by rw [← hcs2]; rfl) hx1 hx2 hE11 HW7.out.2.2.2.2.1 (by have := HW7.out.2.2.2.2.2.1; omega) (xpackI_code (by rw [HPC.out])) HW7.out.2.2.2.2.2.2 hx3
                      rw [HLN2.out] at hlay
                      have HLAY := Aside0.mk hlay
                      have H11 := Aside0.mk (And.intro h11 (And.intro hm111 (And.intro hs112 (And.intro hnq (And.intro hs11 (And.intro hcs2 hm11.size))))))
                      have hinf2 := infIno (cs := cs2) (by rw [← hcs2]; rfl)
                      clear hlay h11 hm111 hs112 hE11 hcs3 hm11 hs11 hcs2 hnq
                      refine wp_region_lit ?_
                      refine wpList_plain rfl fun K hK => ?_
                      unfold Oper.wp execOp
                      go_simp
                      refine hK _ _ ?_
                      clear hK K
                      refine wpList_load_row rfl 47 _ rfl q rfl 47 cs2.toArray (0, 0) _ H11.out.2.2.2.2.1 Tryz.underlying47 rfl hinf2 ?_
                      refine wpList_plain rfl fun K hK => ?_
                      unfold Oper.wp execOp
                      go_simp
                      refine hK _ _ ?_
                      clear hK K
                      refine wpList_plain rfl fun K hK => ?_
                      unfold Oper.wp execOp
                      go_simp
                      refine HLAY.out.mono ?_
                      rintro e w12 ⟨D12, rfl, h12, hD12, hm12⟩
                      have hs2' := H11.out.2.2.1.mod hm12 H9.out.2.2.1
                      have hq9 := H11.out.2.2.1.lt
                      have hm19 : Mod w w12 D := Mod.trans H11.out.2.1 hm12 (fun k hk hd => (H9.out.2.1 k hd).elim id (fun h => by omega))
                      have hg9 : ∀ k, D12 k → D k ∨ w.heap.size ≤ k := fun k hk => (hD12 k hk).elim (H9.out.2.1 k) (fun h => .inr (by have := H11.out.2.1.size; omega))
                      have hn9 : ¬ D12 (q + 1) := fun hd => (hD12 _ hd).elim H9.out.2.2.1 (fun h => by omega)
                      have H12 := Aside0.mk (And.intro h12 (And.intro hg9 (And.intro hn9 (And.intro hm19 hs2'))))
                      clear h12 hD12 hm12 hs2' hq9 hm19 hg9 hn9
                      dsimp only
                      refine hK _ _ ?_
                      clear hK K
                      refine wpList_plain rfl fun K hK => ?_
                      unfold Oper.wp execOp
                      go_simp
                      refine hK _ _ ?_
                      clear hK K
                      refine wpList_plain rfl fun K hK => ?_
                      unfold Oper.wp execOp
                      go_simp
                      refine hK _ _ ?_
                      clear hK K
                      refine wpList_store_row rfl 47 _ _ rfl (q + 1) cs2.toArray rfl rfl 47 _ H12.out.2.2.2.2 hinf2 (by rw [List.size_toArray, List.size_toArray, ← H11.out.2.2.2.2.2.1]; rfl) (by have := Ino_one { r with xattr := (x : Int), blocks := r.blocks + 1 } A n c; rw [H11.out.2.2.2.2.2.1] at this; simpa using this) ?_
                      have hfin := ino_fin cs2 0 (q := q + 1) (by have := HQ.out; omega) H12.out.1 H12.out.2.1 H12.out.2.2.1 H12.out.2.2.2.1
                      have hres := setRow_heap w12 (q + 1) _ cs2.toArray 47 (0, 0) H12.out.2.2.2.2
                      generalize World.setRow w12 (q + 1) cs2.toArray = w13 at hfin hres ⊢
                      have HFIN := Aside0.mk hfin
                      have HRS := Aside0.mk hres
                      clear hfin hres
                      go_wp2
                      refine bodyPost_ret (results_ino rfl _ _ (q + 1) cs2.toArray 0 rfl rfl HRS.out hinf2) rfl ?_
                      have hr : (rs, rc, re) = (bs.write x (xpackI l2 x).1, cs2, 0) := by
                        rw [← HRES.out]
                        unfold xsetI
                        rw [HCS.out.2.2, HVL.out]
                        dsimp only
                        rw [HK.out.1, HL2.out, HPC.out, if_neg (by simp), if_neg HV64.out, if_neg HNE.out, if_neg (by simp), if_neg (by simp), if_neg (by simp), if_neg (fun h => h HX0.out), HBI.out, if_neg (by simp), H11.out.2.2.2.2.2.1, Int.toNat_natCast]
                      cases hr
                      exact HFIN.out
                  · obtain ⟨hx1, hx2, hx3⟩ := xlistI_in HCS.out.2.2 hx0
                    obtain ⟨x, hxx⟩ : ∃ x : Nat, r.xattr = x := ⟨r.xattr.toNat, by omega⟩
                    have hxn : x < s.now.length := by rw [hxx] at hx3; simpa using hx3
                    have hxne : ¬ ((x : Int) = 0) := by omega
                    rw [hxx] at c12
                    have hlay := lay_calls cs x A7 c7 l2 w8 HST.out.1 HCS.out.2.1 (by rw [← HCS.out.1]; exact Ino_one r A n c) (by rw [← HCS.out.1, ← hxx]; rfl) hxn (by omega) HE8.out HW7.out.2.2.2.2.1 (by have := HW7.out.2.2.2.2.2.1; omega) (xpackI_code (by rw [HPC.out])) HW7.out.2.2.2.2.2.2 (by omega)
                    rw [HLN2.out] at hlay
                    have HLAY := Aside0.mk hlay
                    have HX := Aside0.mk (And.intro hxx hx0)
                    clear hlay hxn hx1 hx2 hx3 hxx
                    go_upto_region 26 with fail
                    refine wp_region_lit ?_
                    refine wpList_plain rfl fun K hK => ?_
                    unfold Oper.wp execOp
                    go_simp
                    refine hK _ _ ?_
                    clear hK K
                    refine wpList_load_row rfl 47 _ rfl q rfl 47 cs.toArray (0, 0) _ HS1.out Tryz.underlying47 rfl hinf ?_
                    refine wpList_plain rfl fun K hK => ?_
                    unfold Oper.wp execOp
                    go_simp
                    refine hK _ _ ?_
                    clear hK K
                    refine wpList_plain rfl fun K hK => ?_
                    unfold Oper.wp execOp
                    go_simp
                    refine HLAY.out.mono ?_
                    rintro e w9 ⟨D9, rfl, h9, hD9, hm9⟩
                    have hs2' := HS2.out.mod hm9 HST.out.2.2.1
                    have hq9 := HS2.out.lt
                    have hm19 : Mod w w9 D := Mod.trans HST.out.2.2.2 hm9 (fun k hk hd => (HST.out.2.1 k hd).elim id (fun h => by omega))
                    have hg9 : ∀ k, D9 k → D k ∨ w.heap.size ≤ k := fun k hk => (hD9 k hk).elim (HST.out.2.1 k) (fun h => .inr (by have := HST.out.2.2.2.size; omega))
                    have hn9 : ¬ D9 (q + 1) := fun hd => (hD9 _ hd).elim HST.out.2.2.1 (fun h => by omega)
                    have H9 := Aside0.mk (And.intro h9 (And.intro hg9 (And.intro hn9 (And.intro hm19 hs2'))))
                    clear h9 hD9 hm9 hs2' hq9 hm19 hg9 hn9
                    dsimp only
                    refine hK _ _ ?_
                    clear hK K
                    refine wpList_plain rfl fun K hK => ?_
                    unfold Oper.wp execOp
                    go_simp
                    refine hK _ _ ?_
                    clear hK K
                    refine wpList_plain rfl fun K hK => ?_
                    unfold Oper.wp execOp
                    go_simp
                    refine hK _ _ ?_
                    clear hK K
                    refine wpList_store_row rfl 47 _ _ rfl (q + 1) cs.toArray rfl rfl 47 _ H9.out.2.2.2.2 hinf (by rw [List.size_toArray, List.size_toArray, HCS.out.2.1]; rfl) (by have := Ino_one r A n c; rw [HCS.out.1] at this; simpa using this) ?_
                    have hfin := ino_fin cs 0 (q := q + 1) (by have := HQ.out; omega) H9.out.1 H9.out.2.1 H9.out.2.2.1 H9.out.2.2.2.1
                    have hres := setRow_heap w9 (q + 1) _ cs.toArray 47 (0, 0) H9.out.2.2.2.2
                    generalize World.setRow w9 (q + 1) cs.toArray = w10 at hfin hres ⊢
                    have HFIN := Aside0.mk hfin
                    have HRS := Aside0.mk hres
                    clear hfin hres
                    go_wp2
                    refine bodyPost_ret (results_ino rfl _ _ (q + 1) cs.toArray 0 rfl rfl HRS.out hinf) rfl ?_
                    have hr : (rs, rc, re) = (s.write x (xpackI l2 x).1, cs, 0) := by
                      rw [← HRES.out]
                      unfold xsetI
                      rw [HCS.out.2.2, HVL.out]
                      dsimp only
                      rw [HK.out.1, HL2.out, HPC.out, if_neg (by simp), if_neg HV64.out, if_neg HNE.out, if_neg (by simp), if_neg (by simp), if_neg (by simp), if_pos HX.out.2, HX.out.1, HCS.out.1, Int.toNat_natCast]
                    cases hr
                    exact HFIN.out
            · cases is
              · have HCL := Aside0.mk (show ∀ W : World, Mod w W D → Calls Tryz.prog 42 #[.slice Av vl cv] W fun e w' => ∃ v, e = .returned v ∧ Own w' W.heap.size 5 .u8 v val ∧ Below W.heap.size W w' from fun W hW => HVL.out ▸ cloneany_calls (C_int_mod HV.out.1 hW HV.out.2.2.2) HV.out.2.1 (by have := HV64.out; have := HVL.out; omega))
                go_upto_region 13 with fail
                go_wp2_with fail
                refine (HCL.out w3 HST.out.2.2.2).mono ?_
                rintro e w4 ⟨v4, rfl, ho4, hb4⟩
                have HO4 := Aside0.mk (And.intro ho4 hb4)
                obtain ⟨A4, c4, rfl, hc4, hC4⟩ := ho4.reads
                rw [HVL.out] at HO4 hc4 hC4 ⊢
                have HC4 := Aside0.mk hC4
                clear ho4 hb4 hC4
                dsimp only
                have hb5 := below_alloc (Below.refl w4.heap.size w4) (.cells #[.string nm, .slice A4 vl c4] 72)
                have hb6 := below_alloc hb5 (.cells #[.string nm, .slice A4 vl c4] 72)
                have ho6 : OwnA ((w4.alloc (.cells #[.string nm, .slice A4 vl c4] 72)).alloc (.cells #[.string nm, .slice A4 vl c4] 72)) b2 (.slice A2 ln c2) l := by have := ((HM2.out.1.below HB3.out).below HO4.out.2).below hb6; rw [HK.out.2] at this; exact this
                have hv6 : Own ((w4.alloc (.cells #[.string nm, .slice A4 vl c4] 72)).alloc (.cells #[.string nm, .slice A4 vl c4] 72)) b2 5 .u8 (.slice A4 vl c4) (⟨nm, val⟩ : Att).val := (own_low HO4.out.1 (Nat.le_trans HBS.out HB3.out.size)).below hb6
                have hvb6 := alloc_last (w4.alloc (.cells #[.string nm, .slice A4 vl c4] 72)) (.cells #[.string nm, .slice A4 vl c4] 72)
                have hsz6 : (w4.alloc (.cells #[.string nm, .slice A4 vl c4] 72)).heap.size = w4.heap.size + 1 := by simp
                have hins := insert_calls (x := ⟨nm, val⟩) (i := i) ho6 hv6 HV.out.2.2.1 (seekI_le HK.out.1) (by have := HLL.out; omega) hvb6 (fun e => by have := ownA_lt (HM2.out.1) _ (by rw [HK.out.2]; exact e); have := HB3.out.size; have := HO4.out.2.size; simp at *; omega) (by have := HBS.out; have := HB3.out.size; have := HO4.out.2.size; simp; omega)
                rw [hsz6] at hins
                have HINS := Aside0.mk hins
                clear hins ho6 hv6 hvb6 hb5 hb6
                go_wp2_with fail
                refine HINS.out.mono ?_
                rintro e w7 ⟨v7, rfl, ho7, hm7⟩
                dsimp only
                have hm37 : Mod w3 w7 (fun k => (Value.slice A2 ln c2).ownBlock = some k) := Mod.trans (Mod.of_below (below_then HO4.out.2 HO4.out.2.size (below_alloc (below_alloc (Below.refl w4.heap.size w4) _) _)) _) hm7 (fun _ _ h => h)
                have hge : ∀ k, (Value.slice A2 ln c2).ownBlock = some k → b2 ≤ k := fun k hk => ownA_ge HM2.out.1 k (by rw [HK.out.2]; exact hk)
                have hq2 : q + 1 < b2 := by have := HQ1.out; have := HM2.out.2.2.1; omega
                have hs1 := HS1.out.mod hm37 (fun e => by have := hge _ e; omega)
                have hs2 := HS2.out.mod hm37 (fun e => by have := hge _ e; omega)
                have hst7 : StIs w7 D2 s0 s ∧ (∀ k, D2 k → D k ∨ w.heap.size ≤ k) ∧ ¬ D2 (q + 1) ∧ Mod w w7 D := ⟨HST.out.1.mod hm37 (fun k hk e => by have := hge _ e; have := HM2.out.2.1 k hk; omega), HST.out.2.1, HST.out.2.2.1, Mod.trans HST.out.2.2.2 hm37 (fun k hk e => by have := hge _ e; have := HM2.out.2.2.1; have := HB0.out.size; omega)⟩
                obtain ⟨l2, hl2⟩ : ∃ l2, insL l i (⟨nm, val⟩ : Att) = l2 := ⟨_, rfl⟩
                rw [hl2] at ho7
                have hln2 : l2.length ≤ 256 := by rw [← hl2, insL_length]; have := HLL.out; omega
                have HL2 := Aside0.mk (show xsetL l (i, false) ⟨nm, val⟩ = l2 from hl2)
                clear hl2 hm7 hge
                obtain ⟨A7, c7, rfl, hc7, hE7⟩ := ho7.reads (by omega)
                have hall7 : ∀ y ∈ l2, allB y.val := fun y hy => by
                  obtain ⟨vs, _, _, h3⟩ := ho7
                  obtain ⟨j, hj, rfl⟩ := List.getElem_of_mem hy
                  have := (h3 j hj).2
                  simpa [attAt, List.getD_eq_getElem?_getD, hj] using this
                have HPK := Aside0.mk (xpack_calls A7 c7 0 l2 w7 hE7 hc7 (by omega) (by omega) (by omega))
                have HW7 := Aside0.mk (And.intro hst7 (And.intro hs1 (And.intro hs2 (And.intro hE7 (And.intro hc7 (And.intro hln2 hall7))))))
                obtain ⟨pc, hpc⟩ : ∃ pc, xpackI l2 0 = pc := ⟨_, rfl⟩
                rw [hpc] at HPK
                have HPC := Aside0.mk hpc
                have HO7 := Aside0.mk ho7
                obtain ⟨p1, p2⟩ := pc
                obtain ⟨ln2, hln2⟩ : ∃ ln2, l2.length = ln2 := ⟨_, rfl⟩
                rw [hln2] at HPK ⊢
                have HLN2 := Aside0.mk hln2
                clear hm37 hq2 hs1 hs2 hst7 ho7 hc7 hE7 hall7 hpc hln2 HS1 HS2 HST HINS HCL HO4 HC4
                go_wp2_with fail
                refine HPK.out.mono ?_
                rintro e w8 ⟨v8, rfl, hb8, _⟩
                dsimp only
                have hs1 := HW7.out.2.1.below hb8
                have HS1 := Aside0.mk hs1
                have HS2 := Aside0.mk (HW7.out.2.2.1.below hb8)
                have HST := Aside0.mk (show StIs w8 D2 s0 s ∧ (∀ k, D2 k → D k ∨ w.heap.size ≤ k) ∧ ¬ D2 (q + 1) ∧ Mod w w8 D from ⟨HW7.out.1.1.below hb8, HW7.out.1.2.1, HW7.out.1.2.2.1, HW7.out.1.2.2.2.below hb8⟩)
                have HE8 := Aside0.mk (HW7.out.2.2.2.1.below hb8)
                have HO8 := Aside0.mk (HO7.out.below hb8)
                clear hs1 hb8
                by_cases hp20 : p2 ≠ 0
                · go_upto_region 19 with fail
                  refine wp_region_lit ?_
                  refine wpList_buildZ rfl rfl ?_
                  refine wpList_plain rfl fun K hK => ?_
                  unfold Oper.wp execOp
                  go_simp
                  refine hK _ _ ?_
                  clear hK K
                  refine wpList_store_row rfl 47 _ _ rfl (q + 1) inoZ.toArray rfl rfl 47 _ HS2.out infZ rfl inoZ_one ?_
                  have hfin := ino_fin inoZ p2 (q := q + 1) (by have := HQ.out; omega) HST.out.1 HST.out.2.1 HST.out.2.2.1 HST.out.2.2.2
                  have hres := setRow_heap w8 (q + 1) _ inoZ.toArray 47 (0, 0) HS2.out
                  generalize World.setRow w8 (q + 1) inoZ.toArray = w9 at hfin hres ⊢
                  have HFIN := Aside0.mk hfin
                  have HRS := Aside0.mk hres
                  clear hfin hres
                  go_wp2
                  refine bodyPost_ret (results_ino rfl _ _ (q + 1) inoZ.toArray p2 rfl rfl HRS.out infZ) rfl ?_
                  have hr : (rs, rc, re) = (s, inoZ, p2) := by
                    rw [← HRES.out]
                    unfold xsetI
                    rw [HCS.out.2.2, HVL.out]
                    dsimp only
                    rw [HK.out.1, HL2.out, HPC.out, if_neg (by simp), if_neg HV64.out, if_neg HNE.out, if_neg (by simp), if_neg (by simp), if_pos hp20]
                  cases hr
                  exact HFIN.out
                · obtain rfl : p2 = 0 := by simpa using hp20
                  clear hp20
                  have c12 := HS1.out.cell 12 (.int .i64 r.xattr) (by rw [← HCS.out.1]; rfl)
                  go_upto_region 20 with fail
                  by_cases hx0 : r.xattr = 0
                  · rw [hx0] at c12
                    have HX0 := Aside0.mk hx0
                    have h2w : 2 < w.heap.size := HT.out.2.2
                    have hblk := blocks_calls goal 1 w8 HST.out.1 (HT.out.1.mod HST.out.2.2.2 HT.out.2.1) (fun hd => (HST.out.2.1 _ hd).elim HT.out.2.1 (fun h => by omega)) hh HG.out.1 HG.out.2 (by omega) (by omega)
                    obtain ⟨bi, hbi⟩ : ∃ bi, blocksI s goal 1 = bi := ⟨_, rfl⟩
                    rw [hbi] at hblk
                    have HBI := Aside0.mk hbi
                    have HBLK := Aside0.mk hblk
                    obtain ⟨bs, bn, bw, be⟩ := bi
                    clear hblk hbi h2w hx0
                    go_upto_region 21 with fail
                    go_wp2_with fail
                    refine HBLK.out.mono ?_
                    rintro e w9 ⟨D9, rfl, h9, hD9, hm9⟩
                    dsimp only
                    have hs1 := HS1.out.mod hm9 (fun hd => (HM2.out.2.2.2.2.1 _ hd).elim (fun hd => by have := HH.out.sub _ hd; have := HQ.out; omega) (fun h => by have := HQ1.out; omega))
                    have hs2' := HS2.out.mod hm9 HST.out.2.2.1
                    have hq9 := HS2.out.lt
                    have hm19 : Mod w w9 D := Mod.trans HST.out.2.2.2 hm9 (fun k hk hd => (HST.out.2.1 k hd).elim id (fun h => by omega))
                    have hg9 : ∀ k, D9 k → D k ∨ w.heap.size ≤ k := fun k hk => (hD9 k hk).elim (HST.out.2.1 k) (fun h => .inr (by have := HST.out.2.2.2.size; omega))
                    have hn9 : ¬ D9 (q + 1) := fun hd => (hD9 _ hd).elim HST.out.2.2.1 (fun h => by omega)
                    have H9 := Aside0.mk (And.intro h9 (And.intro hg9 (And.intro hn9 (And.intro hm19 hs2'))))
                    have HS9 := Aside0.mk hs1
                    have HNQ9 := Aside0.mk (show ¬ D9 q from fun hd => (hD9 _ hd).elim (fun hd => (HM2.out.2.2.2.2.1 _ hd).elim (fun hd => by have := HH.out.sub _ hd; have := HQ.out; omega) (fun h => by have := HQ1.out; omega)) (fun h => by have := HS1.out.lt; omega))
                    have HO9 := Aside0.mk (HO8.out.mod hm9 (fun k hk _ hd => by have := HM2.out.2.1 k hd; omega))
                    clear h9 hD9 hm9 hs2' hq9 hm19 hg9 hn9 hs1
                    by_cases hbe : be ≠ 0
                    · go_upto_region 23 with fail
                      refine wp_region_lit ?_
                      refine wpList_buildZ rfl rfl ?_
                      refine wpList_plain rfl fun K hK => ?_
                      unfold Oper.wp execOp
                      go_simp
                      refine hK _ _ ?_
                      clear hK K
                      refine wpList_store_row rfl 47 _ _ rfl (q + 1) inoZ.toArray rfl rfl 47 _ H9.out.2.2.2.2 infZ rfl inoZ_one ?_
                      have hfin := ino_fin inoZ be (q := q + 1) (by have := HQ.out; omega) H9.out.1 H9.out.2.1 H9.out.2.2.1 H9.out.2.2.2.1
                      have hres := setRow_heap w9 (q + 1) _ inoZ.toArray 47 (0, 0) H9.out.2.2.2.2
                      generalize World.setRow w9 (q + 1) inoZ.toArray = w10 at hfin hres ⊢
                      have HFIN := Aside0.mk hfin
                      have HRS := Aside0.mk hres
                      clear hfin hres
                      go_wp2
                      refine bodyPost_ret (results_ino rfl _ _ (q + 1) inoZ.toArray be rfl rfl HRS.out infZ) rfl ?_
                      have hr : (rs, rc, re) = (bs, inoZ, be) := by
                        rw [← HRES.out]
                        unfold xsetI
                        rw [HCS.out.2.2, HVL.out]
                        dsimp only
                        rw [HK.out.1, HL2.out, HPC.out, if_neg (by simp), if_neg HV64.out, if_neg HNE.out, if_neg (by simp), if_neg (by simp), if_neg (by simp), if_neg (fun h => h HX0.out), HBI.out, if_pos hbe]
                      cases hr
                      exact HFIN.out
                    · obtain rfl : be = 0 := by simpa using hbe
                      clear hbe
                      have c12 := HS9.out.cell 12 (.int .i64 r.xattr) (by rw [← HCS.out.1]; rfl)
                      have c6 := HS9.out.cell 6 (.int .i64 r.blocks) (by rw [← HCS.out.1]; rfl)
                      have f12 := HS9.out.free 12
                      have f6 := HS9.out.free 6
                      go_upto_region 25 with fail
                      have hs10 := HS9.out.set 12 (.int .i64 bn)
                      have hm10 : Mod w9 (w9.setCell ⟨q, 12, none⟩ (.int .i64 bn)) (· = q) := (Mod.refl w9 _).set_own 12 _
                      generalize w9.setCell ⟨q, 12, none⟩ (.int .i64 bn) = w10 at hs10 hm10 ⊢
                      obtain ⟨hbl0, hbl1⟩ := inoI_blocks (xlistI_ino HCS.out.2.2)
                      have c6' := hs10.cell 6 (.int .i64 r.blocks) (by rw [← HCS.out.1]; rfl)
                      have f6' := hs10.free 6
                      have HS10 := Aside0.mk (And.intro hs10 hm10)
                      clear c12 c6 f12 f6 hs10 hm10
                      go_upto_region 26 with fail
                      have hs11 := HS10.out.1.set 6 (.int .i64 (r.blocks + 1))
                      have hm11 : Mod w9 (w10.setCell ⟨q, 6, none⟩ (.int .i64 (r.blocks + 1))) (· = q) := HS10.out.2.set_own 6 _
                      generalize w10.setCell ⟨q, 6, none⟩ (.int .i64 (r.blocks + 1)) = w11 at hs11 hm11 ⊢
                      obtain ⟨cs2, hcs2⟩ : ∃ cs2, ({ r with xattr := bn, blocks := r.blocks + 1 } : Ino).cells (.slice A n c) = cs2 := ⟨_, rfl⟩
                      have hcs3 : (cs.set 12 (.int .i64 bn)).set 6 (.int .i64 (r.blocks + 1)) = cs2 := by rw [← hcs2, ← HCS.out.1]; rfl
                      rw [hcs3] at hs11
                      obtain ⟨x, rfl, hx1, hx2, hx3⟩ := blocksI_ok HBI.out hh
                      have hnq := HNQ9.out
                      have hs112 : Strc w11 (q + 1) 47 inoZ := H9.out.2.2.2.2.mod hm11 (by omega)
                      have h11 : StIs w11 D9 s0 bs := H9.out.1.mod hm11 (fun k hk e => hnq (by have : k = q := e; rw [← this]; exact hk))
                      have hm111 : Mod w w11 D := H9.out.2.2.2.1.trans hm11 (fun k hk e => by have : k = q := e; have := HQ.out; omega)
                      have ho11 := HO9.out.mod hm11 (fun k hk _ e => by have : k = q := e; have := HQ1.out; have := HM2.out.2.2.1; omega)
                      have hE11 : Atts w11 A7 l2 := by
                        obtain ⟨A', c', e, _, hE⟩ := ho11.reads (by have := HW7.out.2.2.2.2.2.1; omega)
                        cases e
                        exact hE
                      have hlay := lay_calls cs2 x A7 c7 l2 w11 h11 (by rw [← hcs2]; rfl) (by rw [← hcs2]; exact Ino_one _ A n c) (by rw [← hcs2]; rfl) hx1 hx2 hE11 HW7.out.2.2.2.2.1 (by have := HW7.out.2.2.2.2.2.1; omega) (xpackI_code (by rw [HPC.out])) HW7.out.2.2.2.2.2.2 hx3
                      rw [HLN2.out] at hlay
                      have HLAY := Aside0.mk hlay
                      have H11 := Aside0.mk (And.intro h11 (And.intro hm111 (And.intro hs112 (And.intro hnq (And.intro hs11 (And.intro hcs2 hm11.size))))))
                      have hinf2 := infIno (cs := cs2) (by rw [← hcs2]; rfl)
                      clear hlay h11 hm111 hs112 hE11 hcs3 hm11 hs11 hcs2 hnq
                      refine wp_region_lit ?_
                      refine wpList_plain rfl fun K hK => ?_
                      unfold Oper.wp execOp
                      go_simp
                      refine hK _ _ ?_
                      clear hK K
                      refine wpList_load_row rfl 47 _ rfl q rfl 47 cs2.toArray (0, 0) _ H11.out.2.2.2.2.1 Tryz.underlying47 rfl hinf2 ?_
                      refine wpList_plain rfl fun K hK => ?_
                      unfold Oper.wp execOp
                      go_simp
                      refine hK _ _ ?_
                      clear hK K
                      refine wpList_plain rfl fun K hK => ?_
                      unfold Oper.wp execOp
                      go_simp
                      refine HLAY.out.mono ?_
                      rintro e w12 ⟨D12, rfl, h12, hD12, hm12⟩
                      have hs2' := H11.out.2.2.1.mod hm12 H9.out.2.2.1
                      have hq9 := H11.out.2.2.1.lt
                      have hm19 : Mod w w12 D := Mod.trans H11.out.2.1 hm12 (fun k hk hd => (H9.out.2.1 k hd).elim id (fun h => by omega))
                      have hg9 : ∀ k, D12 k → D k ∨ w.heap.size ≤ k := fun k hk => (hD12 k hk).elim (H9.out.2.1 k) (fun h => .inr (by have := H11.out.2.1.size; omega))
                      have hn9 : ¬ D12 (q + 1) := fun hd => (hD12 _ hd).elim H9.out.2.2.1 (fun h => by omega)
                      have H12 := Aside0.mk (And.intro h12 (And.intro hg9 (And.intro hn9 (And.intro hm19 hs2'))))
                      clear h12 hD12 hm12 hs2' hq9 hm19 hg9 hn9
                      dsimp only
                      refine hK _ _ ?_
                      clear hK K
                      refine wpList_plain rfl fun K hK => ?_
                      unfold Oper.wp execOp
                      go_simp
                      refine hK _ _ ?_
                      clear hK K
                      refine wpList_plain rfl fun K hK => ?_
                      unfold Oper.wp execOp
                      go_simp
                      refine hK _ _ ?_
                      clear hK K
                      refine wpList_store_row rfl 47 _ _ rfl (q + 1) cs2.toArray rfl rfl 47 _ H12.out.2.2.2.2 hinf2 (by rw [List.size_toArray, List.size_toArray, ← H11.out.2.2.2.2.2.1]; rfl) (by have := Ino_one { r with xattr := (x : Int), blocks := r.blocks + 1 } A n c; rw [H11.out.2.2.2.2.2.1] at this; simpa using this) ?_
                      have hfin := ino_fin cs2 0 (q := q + 1) (by have := HQ.out; omega) H12.out.1 H12.out.2.1 H12.out.2.2.1 H12.out.2.2.2.1
                      have hres := setRow_heap w12 (q + 1) _ cs2.toArray 47 (0, 0) H12.out.2.2.2.2
                      generalize World.setRow w12 (q + 1) cs2.toArray = w13 at hfin hres ⊢
                      have HFIN := Aside0.mk hfin
                      have HRS := Aside0.mk hres
                      clear hfin hres
                      go_wp2
                      refine bodyPost_ret (results_ino rfl _ _ (q + 1) cs2.toArray 0 rfl rfl HRS.out hinf2) rfl ?_
                      have hr : (rs, rc, re) = (bs.write x (xpackI l2 x).1, cs2, 0) := by
                        rw [← HRES.out]
                        unfold xsetI
                        rw [HCS.out.2.2, HVL.out]
                        dsimp only
                        rw [HK.out.1, HL2.out, HPC.out, if_neg (by simp), if_neg HV64.out, if_neg HNE.out, if_neg (by simp), if_neg (by simp), if_neg (by simp), if_neg (fun h => h HX0.out), HBI.out, if_neg (by simp), H11.out.2.2.2.2.2.1, Int.toNat_natCast]
                      cases hr
                      exact HFIN.out
                  · obtain ⟨hx1, hx2, hx3⟩ := xlistI_in HCS.out.2.2 hx0
                    obtain ⟨x, hxx⟩ : ∃ x : Nat, r.xattr = x := ⟨r.xattr.toNat, by omega⟩
                    have hxn : x < s.now.length := by rw [hxx] at hx3; simpa using hx3
                    have hxne : ¬ ((x : Int) = 0) := by omega
                    rw [hxx] at c12
                    have hlay := lay_calls cs x A7 c7 l2 w8 HST.out.1 HCS.out.2.1 (by rw [← HCS.out.1]; exact Ino_one r A n c) (by rw [← HCS.out.1, ← hxx]; rfl) hxn (by omega) HE8.out HW7.out.2.2.2.2.1 (by have := HW7.out.2.2.2.2.2.1; omega) (xpackI_code (by rw [HPC.out])) HW7.out.2.2.2.2.2.2 (by omega)
                    rw [HLN2.out] at hlay
                    have HLAY := Aside0.mk hlay
                    have HX := Aside0.mk (And.intro hxx hx0)
                    clear hlay hxn hx1 hx2 hx3 hxx
                    go_upto_region 26 with fail
                    refine wp_region_lit ?_
                    refine wpList_plain rfl fun K hK => ?_
                    unfold Oper.wp execOp
                    go_simp
                    refine hK _ _ ?_
                    clear hK K
                    refine wpList_load_row rfl 47 _ rfl q rfl 47 cs.toArray (0, 0) _ HS1.out Tryz.underlying47 rfl hinf ?_
                    refine wpList_plain rfl fun K hK => ?_
                    unfold Oper.wp execOp
                    go_simp
                    refine hK _ _ ?_
                    clear hK K
                    refine wpList_plain rfl fun K hK => ?_
                    unfold Oper.wp execOp
                    go_simp
                    refine HLAY.out.mono ?_
                    rintro e w9 ⟨D9, rfl, h9, hD9, hm9⟩
                    have hs2' := HS2.out.mod hm9 HST.out.2.2.1
                    have hq9 := HS2.out.lt
                    have hm19 : Mod w w9 D := Mod.trans HST.out.2.2.2 hm9 (fun k hk hd => (HST.out.2.1 k hd).elim id (fun h => by omega))
                    have hg9 : ∀ k, D9 k → D k ∨ w.heap.size ≤ k := fun k hk => (hD9 k hk).elim (HST.out.2.1 k) (fun h => .inr (by have := HST.out.2.2.2.size; omega))
                    have hn9 : ¬ D9 (q + 1) := fun hd => (hD9 _ hd).elim HST.out.2.2.1 (fun h => by omega)
                    have H9 := Aside0.mk (And.intro h9 (And.intro hg9 (And.intro hn9 (And.intro hm19 hs2'))))
                    clear h9 hD9 hm9 hs2' hq9 hm19 hg9 hn9
                    dsimp only
                    refine hK _ _ ?_
                    clear hK K
                    refine wpList_plain rfl fun K hK => ?_
                    unfold Oper.wp execOp
                    go_simp
                    refine hK _ _ ?_
                    clear hK K
                    refine wpList_plain rfl fun K hK => ?_
                    unfold Oper.wp execOp
                    go_simp
                    refine hK _ _ ?_
                    clear hK K
                    refine wpList_store_row rfl 47 _ _ rfl (q + 1) cs.toArray rfl rfl 47 _ H9.out.2.2.2.2 hinf (by rw [List.size_toArray, List.size_toArray, HCS.out.2.1]; rfl) (by have := Ino_one r A n c; rw [HCS.out.1] at this; simpa using this) ?_
                    have hfin := ino_fin cs 0 (q := q + 1) (by have := HQ.out; omega) H9.out.1 H9.out.2.1 H9.out.2.2.1 H9.out.2.2.2.1
                    have hres := setRow_heap w9 (q + 1) _ cs.toArray 47 (0, 0) H9.out.2.2.2.2
                    generalize World.setRow w9 (q + 1) cs.toArray = w10 at hfin hres ⊢
                    have HFIN := Aside0.mk hfin
                    have HRS := Aside0.mk hres
                    clear hfin hres
                    go_wp2
                    refine bodyPost_ret (results_ino rfl _ _ (q + 1) cs.toArray 0 rfl rfl HRS.out hinf) rfl ?_
                    have hr : (rs, rc, re) = (s.write x (xpackI l2 x).1, cs, 0) := by
                      rw [← HRES.out]
                      unfold xsetI
                      rw [HCS.out.2.2, HVL.out]
                      dsimp only
                      rw [HK.out.1, HL2.out, HPC.out, if_neg (by simp), if_neg HV64.out, if_neg HNE.out, if_neg (by simp), if_neg (by simp), if_neg (by simp), if_pos HX.out.2, HX.out.1, HCS.out.1, Int.toNat_natCast]
                    cases hr
                    exact HFIN.out
              · go_upto_region 10 with fail
                refine wp_region_lit ?_
                refine wpList_buildZ rfl rfl ?_
                refine wpList_store_row rfl 47 _ _ rfl (q + 1) inoZ.toArray rfl rfl 47 _ HS2.out infZ rfl inoZ_one ?_
                have hfin := ino_fin inoZ (17) (q := q + 1) (by have := HQ.out; omega) HST.out.1 HST.out.2.1 HST.out.2.2.1 HST.out.2.2.2
                have hres := setRow_heap w3 (q + 1) _ inoZ.toArray 47 (0, 0) HS2.out
                generalize World.setRow w3 (q + 1) inoZ.toArray = w9 at hfin hres ⊢
                have HFIN := Aside0.mk hfin
                have HRS := Aside0.mk hres
                clear hfin hres
                go_wp2
                refine bodyPost_ret (results_ino rfl _ _ (q + 1) inoZ.toArray (17) rfl rfl HRS.out infZ) rfl ?_
                have hr : (rs, rc, re) = (s, inoZ, (17)) := by
                  rw [← HRES.out]
                  unfold xsetI
                  rw [HCS.out.2.2, HK.out.1, HVL.out]
                  rw [if_neg (by simp), if_neg HV64.out, if_neg HNE.out, if_pos ⟨rfl, rfl⟩]
                cases hr
                exact HFIN.out
            · cases is
              · go_upto_region 12 with fail
                refine wp_region_lit ?_
                refine wpList_buildZ rfl rfl ?_
                refine wpList_store_row rfl 47 _ _ rfl (q + 1) inoZ.toArray rfl rfl 47 _ HS2.out infZ rfl inoZ_one ?_
                have hfin := ino_fin inoZ (61) (q := q + 1) (by have := HQ.out; omega) HST.out.1 HST.out.2.1 HST.out.2.2.1 HST.out.2.2.2
                have hres := setRow_heap w3 (q + 1) _ inoZ.toArray 47 (0, 0) HS2.out
                generalize World.setRow w3 (q + 1) inoZ.toArray = w9 at hfin hres ⊢
                have HFIN := Aside0.mk hfin
                have HRS := Aside0.mk hres
                clear hfin hres
                go_wp2
                refine bodyPost_ret (results_ino rfl _ _ (q + 1) inoZ.toArray (61) rfl rfl HRS.out infZ) rfl ?_
                have hr : (rs, rc, re) = (s, inoZ, (61)) := by
                  rw [← HRES.out]
                  unfold xsetI
                  rw [HCS.out.2.2, HK.out.1, HVL.out]
                  rw [if_neg (by simp), if_neg HV64.out, if_neg HNE.out, if_neg (by simp), if_pos ⟨rfl, rfl⟩]
                cases hr
                exact HFIN.out
              · have HCL := Aside0.mk (show ∀ W : World, Mod w W D → Calls Tryz.prog 42 #[.slice Av vl cv] W fun e w' => ∃ v, e = .returned v ∧ Own w' W.heap.size 5 .u8 v val ∧ Below W.heap.size W w' from fun W hW => HVL.out ▸ cloneany_calls (C_int_mod HV.out.1 hW HV.out.2.2.2) HV.out.2.1 (by have := HV64.out; have := HVL.out; omega))
                go_upto_region 13 with fail
                go_wp2_with fail
                refine (HCL.out w3 HST.out.2.2.2).mono ?_
                rintro e w4 ⟨v4, rfl, ho4, hb4⟩
                have HO4 := Aside0.mk (And.intro ho4 hb4)
                obtain ⟨A4, c4, rfl, hc4, hC4⟩ := ho4.reads
                rw [HVL.out] at HO4 hc4 hC4 ⊢
                have HC4 := Aside0.mk hC4
                clear ho4 hb4 hC4
                dsimp only
                have hb5 := below_alloc (Below.refl w4.heap.size w4) (.cells #[.string nm, .slice A4 vl c4] 72)
                have hil : i < l.length := seekI_lt HK.out.1
                go_upto_region 15 with fail
                have ho5 : OwnA (w4.alloc (.cells #[.string nm, .slice A4 vl c4] 72)) b2 (.slice A2 ln c2) l := by have := ((HM2.out.1.below HB3.out).below HO4.out.2).below hb5; rw [HK.out.2] at this; exact this
                have hv5 : Own (w4.alloc (.cells #[.string nm, .slice A4 vl c4] 72)) b2 5 .u8 (.slice A4 vl c4) (⟨nm, val⟩ : Att).val := (own_low HO4.out.1 (Nat.le_trans HBS.out HB3.out.size)).below hb5
                have hvb5 := alloc_last w4 (.cells #[.string nm, .slice A4 vl c4] 72)
                have hm35 : Mod w3 (w4.alloc (.cells #[.string nm, .slice A4 vl c4] 72)) (fun k => b2 ≤ k) := Mod.of_below (below_then HO4.out.2 HO4.out.2.size hb5) _
                obtain ⟨g, rfl, hq1, hq2, hf1, hf2, ho7, hm7⟩ := ownA_put (x := ⟨nm, val⟩) (i := i) ho5 HK.out.2 hv5 HV.out.2.2.1 hil
                have hgb : b2 ≤ g := ownA_ge ho5 g rfl
                generalize (w4.alloc (.cells #[.string nm, .slice A4 vl c4] 72)) = w5 at hvb5 hm35 hq1 hq2 hf1 hf2 ho7 hm7 ⊢
                obtain ⟨z1, hq1⟩ := hq1
                obtain ⟨z2, hq2, hq3⟩ := hq2
                obtain ⟨hf2, hf3⟩ := hf2
                have hiln : i < ln := by have := HK.out.2; omega
                have hln0 := hil
                have HO57 := Aside0.mk (And.intro ho7 hm7)
                have hv5a : w5.cell? ⟨w4.heap.size, 0, none⟩ = some (.string nm) := by simp [World.cell?, hvb5]
                have hv5b : w5.cell? ⟨w4.heap.size, 1, none⟩ = some (.slice A4 vl c4) := by simp [World.cell?, hvb5]
                clear ho5 hv5 hvb5 hb5 ho7 hm7
                go_upto_region 17 with fail
                have ho7 := HO57.out.1
                have hm7 := HO57.out.2
                generalize (w5.setCell ⟨g, i * 2, none⟩ (.string nm)).setCell ⟨g, i * 2 + 1, none⟩ (.slice A4 vl c4) = w7 at ho7 hm7 ⊢
                clear hq1 hq2 hq3 hf1 hf2 hf3 hv5a hv5b HO57
                have hm37 : Mod w3 w7 (fun k => b2 ≤ k) := Mod.trans hm35 (hm7.mono (fun k _ e => by have : g = k := e; show b2 ≤ k; omega)) (fun _ _ h => h)
                have hq2 : q + 1 < b2 := by have := HQ1.out; have := HM2.out.2.2.1; omega
                have hs1 := HS1.out.mod hm37 (fun e => by have : b2 ≤ q := e; omega)
                have hs2 := HS2.out.mod hm37 (fun e => by have : b2 ≤ q + 1 := e; omega)
                have hst7 : StIs w7 D2 s0 s ∧ (∀ k, D2 k → D k ∨ w.heap.size ≤ k) ∧ ¬ D2 (q + 1) ∧ Mod w w7 D := ⟨HST.out.1.mod hm37 (fun k hk e => by have : b2 ≤ k := e; have := HM2.out.2.1 k hk; omega), HST.out.2.1, HST.out.2.2.1, Mod.trans HST.out.2.2.2 hm37 (fun k hk e => by have : b2 ≤ k := e; have := HM2.out.2.2.1; have := HB0.out.size; omega)⟩
                obtain ⟨l2, hl2⟩ : ∃ l2, l.set i (⟨nm, val⟩ : Att) = l2 := ⟨_, rfl⟩
                rw [hl2] at ho7
                have hlnl : l2.length = ln := by rw [← hl2, List.length_set]; exact HK.out.2
                have hln2 : l2.length ≤ 256 := by have := HLL.out; have := HK.out.2; omega
                have HL2 := Aside0.mk (show xsetL l (i, true) ⟨nm, val⟩ = l2 from hl2)
                have HINS := Aside0.mk trivial
                generalize Value.slice (some ⟨g, 0, none⟩) ln c2 = v7 at ho7 ⊢
                clear hl2 hm7 hil hln0 hiln hlnl hgb hm35
                obtain ⟨A7, c7, rfl, hc7, hE7⟩ := ho7.reads (by omega)
                have hall7 : ∀ y ∈ l2, allB y.val := fun y hy => by
                  obtain ⟨vs, _, _, h3⟩ := ho7
                  obtain ⟨j, hj, rfl⟩ := List.getElem_of_mem hy
                  have := (h3 j hj).2
                  simpa [attAt, List.getD_eq_getElem?_getD, hj] using this
                have HPK := Aside0.mk (xpack_calls A7 c7 0 l2 w7 hE7 hc7 (by omega) (by omega) (by omega))
                have HW7 := Aside0.mk (And.intro hst7 (And.intro hs1 (And.intro hs2 (And.intro hE7 (And.intro hc7 (And.intro hln2 hall7))))))
                obtain ⟨pc, hpc⟩ : ∃ pc, xpackI l2 0 = pc := ⟨_, rfl⟩
                rw [hpc] at HPK
                have HPC := Aside0.mk hpc
                have HO7 := Aside0.mk ho7
                obtain ⟨p1, p2⟩ := pc
                obtain ⟨ln2, hln2⟩ : ∃ ln2, l2.length = ln2 := ⟨_, rfl⟩
                rw [hln2] at HPK ⊢
                have HLN2 := Aside0.mk hln2
                clear hm37 hq2 hs1 hs2 hst7 ho7 hc7 hE7 hall7 hpc hln2 HS1 HS2 HST HINS HCL HO4 HC4
                go_wp2_with fail
                refine HPK.out.mono ?_
                rintro e w8 ⟨v8, rfl, hb8, _⟩
                dsimp only
                have hs1 := HW7.out.2.1.below hb8
                have HS1 := Aside0.mk hs1
                have HS2 := Aside0.mk (HW7.out.2.2.1.below hb8)
                have HST := Aside0.mk (show StIs w8 D2 s0 s ∧ (∀ k, D2 k → D k ∨ w.heap.size ≤ k) ∧ ¬ D2 (q + 1) ∧ Mod w w8 D from ⟨HW7.out.1.1.below hb8, HW7.out.1.2.1, HW7.out.1.2.2.1, HW7.out.1.2.2.2.below hb8⟩)
                have HE8 := Aside0.mk (HW7.out.2.2.2.1.below hb8)
                have HO8 := Aside0.mk (HO7.out.below hb8)
                clear hs1 hb8
                by_cases hp20 : p2 ≠ 0
                · go_upto_region 19 with fail
                  refine wp_region_lit ?_
                  refine wpList_buildZ rfl rfl ?_
                  refine wpList_plain rfl fun K hK => ?_
                  unfold Oper.wp execOp
                  go_simp
                  refine hK _ _ ?_
                  clear hK K
                  refine wpList_store_row rfl 47 _ _ rfl (q + 1) inoZ.toArray rfl rfl 47 _ HS2.out infZ rfl inoZ_one ?_
                  have hfin := ino_fin inoZ p2 (q := q + 1) (by have := HQ.out; omega) HST.out.1 HST.out.2.1 HST.out.2.2.1 HST.out.2.2.2
                  have hres := setRow_heap w8 (q + 1) _ inoZ.toArray 47 (0, 0) HS2.out
                  generalize World.setRow w8 (q + 1) inoZ.toArray = w9 at hfin hres ⊢
                  have HFIN := Aside0.mk hfin
                  have HRS := Aside0.mk hres
                  clear hfin hres
                  go_wp2
                  refine bodyPost_ret (results_ino rfl _ _ (q + 1) inoZ.toArray p2 rfl rfl HRS.out infZ) rfl ?_
                  have hr : (rs, rc, re) = (s, inoZ, p2) := by
                    rw [← HRES.out]
                    unfold xsetI
                    rw [HCS.out.2.2, HVL.out]
                    dsimp only
                    rw [HK.out.1, HL2.out, HPC.out, if_neg (by simp), if_neg HV64.out, if_neg HNE.out, if_neg (by simp), if_neg (by simp), if_pos hp20]
                  cases hr
                  exact HFIN.out
                · obtain rfl : p2 = 0 := by simpa using hp20
                  clear hp20
                  have c12 := HS1.out.cell 12 (.int .i64 r.xattr) (by rw [← HCS.out.1]; rfl)
                  go_upto_region 20 with fail
                  by_cases hx0 : r.xattr = 0
                  · rw [hx0] at c12
                    have HX0 := Aside0.mk hx0
                    have h2w : 2 < w.heap.size := HT.out.2.2
                    have hblk := blocks_calls goal 1 w8 HST.out.1 (HT.out.1.mod HST.out.2.2.2 HT.out.2.1) (fun hd => (HST.out.2.1 _ hd).elim HT.out.2.1 (fun h => by omega)) hh HG.out.1 HG.out.2 (by omega) (by omega)
                    obtain ⟨bi, hbi⟩ : ∃ bi, blocksI s goal 1 = bi := ⟨_, rfl⟩
                    rw [hbi] at hblk
                    have HBI := Aside0.mk hbi
                    have HBLK := Aside0.mk hblk
                    obtain ⟨bs, bn, bw, be⟩ := bi
                    clear hblk hbi h2w hx0
                    go_upto_region 21 with fail
                    go_wp2_with fail
                    refine HBLK.out.mono ?_
                    rintro e w9 ⟨D9, rfl, h9, hD9, hm9⟩
                    dsimp only
                    have hs1 := HS1.out.mod hm9 (fun hd => (HM2.out.2.2.2.2.1 _ hd).elim (fun hd => by have := HH.out.sub _ hd; have := HQ.out; omega) (fun h => by have := HQ1.out; omega))
                    have hs2' := HS2.out.mod hm9 HST.out.2.2.1
                    have hq9 := HS2.out.lt
                    have hm19 : Mod w w9 D := Mod.trans HST.out.2.2.2 hm9 (fun k hk hd => (HST.out.2.1 k hd).elim id (fun h => by omega))
                    have hg9 : ∀ k, D9 k → D k ∨ w.heap.size ≤ k := fun k hk => (hD9 k hk).elim (HST.out.2.1 k) (fun h => .inr (by have := HST.out.2.2.2.size; omega))
                    have hn9 : ¬ D9 (q + 1) := fun hd => (hD9 _ hd).elim HST.out.2.2.1 (fun h => by omega)
                    have H9 := Aside0.mk (And.intro h9 (And.intro hg9 (And.intro hn9 (And.intro hm19 hs2'))))
                    have HS9 := Aside0.mk hs1
                    have HNQ9 := Aside0.mk (show ¬ D9 q from fun hd => (hD9 _ hd).elim (fun hd => (HM2.out.2.2.2.2.1 _ hd).elim (fun hd => by have := HH.out.sub _ hd; have := HQ.out; omega) (fun h => by have := HQ1.out; omega)) (fun h => by have := HS1.out.lt; omega))
                    have HO9 := Aside0.mk (HO8.out.mod hm9 (fun k hk _ hd => by have := HM2.out.2.1 k hd; omega))
                    clear h9 hD9 hm9 hs2' hq9 hm19 hg9 hn9 hs1
                    by_cases hbe : be ≠ 0
                    · go_upto_region 23 with fail
                      refine wp_region_lit ?_
                      refine wpList_buildZ rfl rfl ?_
                      refine wpList_plain rfl fun K hK => ?_
                      unfold Oper.wp execOp
                      go_simp
                      refine hK _ _ ?_
                      clear hK K
                      refine wpList_store_row rfl 47 _ _ rfl (q + 1) inoZ.toArray rfl rfl 47 _ H9.out.2.2.2.2 infZ rfl inoZ_one ?_
                      have hfin := ino_fin inoZ be (q := q + 1) (by have := HQ.out; omega) H9.out.1 H9.out.2.1 H9.out.2.2.1 H9.out.2.2.2.1
                      have hres := setRow_heap w9 (q + 1) _ inoZ.toArray 47 (0, 0) H9.out.2.2.2.2
                      generalize World.setRow w9 (q + 1) inoZ.toArray = w10 at hfin hres ⊢
                      have HFIN := Aside0.mk hfin
                      have HRS := Aside0.mk hres
                      clear hfin hres
                      go_wp2
                      refine bodyPost_ret (results_ino rfl _ _ (q + 1) inoZ.toArray be rfl rfl HRS.out infZ) rfl ?_
                      have hr : (rs, rc, re) = (bs, inoZ, be) := by
                        rw [← HRES.out]
                        unfold xsetI
                        rw [HCS.out.2.2, HVL.out]
                        dsimp only
                        rw [HK.out.1, HL2.out, HPC.out, if_neg (by simp), if_neg HV64.out, if_neg HNE.out, if_neg (by simp), if_neg (by simp), if_neg (by simp), if_neg (fun h => h HX0.out), HBI.out, if_pos hbe]
                      cases hr
                      exact HFIN.out
                    · obtain rfl : be = 0 := by simpa using hbe
                      clear hbe
                      have c12 := HS9.out.cell 12 (.int .i64 r.xattr) (by rw [← HCS.out.1]; rfl)
                      have c6 := HS9.out.cell 6 (.int .i64 r.blocks) (by rw [← HCS.out.1]; rfl)
                      have f12 := HS9.out.free 12
                      have f6 := HS9.out.free 6
                      go_upto_region 25 with fail
                      have hs10 := HS9.out.set 12 (.int .i64 bn)
                      have hm10 : Mod w9 (w9.setCell ⟨q, 12, none⟩ (.int .i64 bn)) (· = q) := (Mod.refl w9 _).set_own 12 _
                      generalize w9.setCell ⟨q, 12, none⟩ (.int .i64 bn) = w10 at hs10 hm10 ⊢
                      obtain ⟨hbl0, hbl1⟩ := inoI_blocks (xlistI_ino HCS.out.2.2)
                      have c6' := hs10.cell 6 (.int .i64 r.blocks) (by rw [← HCS.out.1]; rfl)
                      have f6' := hs10.free 6
                      have HS10 := Aside0.mk (And.intro hs10 hm10)
                      clear c12 c6 f12 f6 hs10 hm10
                      go_upto_region 26 with fail
                      have hs11 := HS10.out.1.set 6 (.int .i64 (r.blocks + 1))
                      have hm11 : Mod w9 (w10.setCell ⟨q, 6, none⟩ (.int .i64 (r.blocks + 1))) (· = q) := HS10.out.2.set_own 6 _
                      generalize w10.setCell ⟨q, 6, none⟩ (.int .i64 (r.blocks + 1)) = w11 at hs11 hm11 ⊢
                      obtain ⟨cs2, hcs2⟩ : ∃ cs2, ({ r with xattr := bn, blocks := r.blocks + 1 } : Ino).cells (.slice A n c) = cs2 := ⟨_, rfl⟩
                      have hcs3 : (cs.set 12 (.int .i64 bn)).set 6 (.int .i64 (r.blocks + 1)) = cs2 := by rw [← hcs2, ← HCS.out.1]; rfl
                      rw [hcs3] at hs11
                      obtain ⟨x, rfl, hx1, hx2, hx3⟩ := blocksI_ok HBI.out hh
                      have hnq := HNQ9.out
                      have hs112 : Strc w11 (q + 1) 47 inoZ := H9.out.2.2.2.2.mod hm11 (by omega)
                      have h11 : StIs w11 D9 s0 bs := H9.out.1.mod hm11 (fun k hk e => hnq (by have : k = q := e; rw [← this]; exact hk))
                      have hm111 : Mod w w11 D := H9.out.2.2.2.1.trans hm11 (fun k hk e => by have : k = q := e; have := HQ.out; omega)
                      have ho11 := HO9.out.mod hm11 (fun k hk _ e => by have : k = q := e; have := HQ1.out; have := HM2.out.2.2.1; omega)
                      have hE11 : Atts w11 A7 l2 := by
                        obtain ⟨A', c', e, _, hE⟩ := ho11.reads (by have := HW7.out.2.2.2.2.2.1; omega)
                        cases e
                        exact hE
                      have hlay := lay_calls cs2 x A7 c7 l2 w11 h11 (by rw [← hcs2]; rfl) (by rw [← hcs2]; exact Ino_one _ A n c) (by rw [← hcs2]; rfl) hx1 hx2 hE11 HW7.out.2.2.2.2.1 (by have := HW7.out.2.2.2.2.2.1; omega) (xpackI_code (by rw [HPC.out])) HW7.out.2.2.2.2.2.2 hx3
                      rw [HLN2.out] at hlay
                      have HLAY := Aside0.mk hlay
                      have H11 := Aside0.mk (And.intro h11 (And.intro hm111 (And.intro hs112 (And.intro hnq (And.intro hs11 (And.intro hcs2 hm11.size))))))
                      have hinf2 := infIno (cs := cs2) (by rw [← hcs2]; rfl)
                      clear hlay h11 hm111 hs112 hE11 hcs3 hm11 hs11 hcs2 hnq
                      refine wp_region_lit ?_
                      refine wpList_plain rfl fun K hK => ?_
                      unfold Oper.wp execOp
                      go_simp
                      refine hK _ _ ?_
                      clear hK K
                      refine wpList_load_row rfl 47 _ rfl q rfl 47 cs2.toArray (0, 0) _ H11.out.2.2.2.2.1 Tryz.underlying47 rfl hinf2 ?_
                      refine wpList_plain rfl fun K hK => ?_
                      unfold Oper.wp execOp
                      go_simp
                      refine hK _ _ ?_
                      clear hK K
                      refine wpList_plain rfl fun K hK => ?_
                      unfold Oper.wp execOp
                      go_simp
                      refine HLAY.out.mono ?_
                      rintro e w12 ⟨D12, rfl, h12, hD12, hm12⟩
                      have hs2' := H11.out.2.2.1.mod hm12 H9.out.2.2.1
                      have hq9 := H11.out.2.2.1.lt
                      have hm19 : Mod w w12 D := Mod.trans H11.out.2.1 hm12 (fun k hk hd => (H9.out.2.1 k hd).elim id (fun h => by omega))
                      have hg9 : ∀ k, D12 k → D k ∨ w.heap.size ≤ k := fun k hk => (hD12 k hk).elim (H9.out.2.1 k) (fun h => .inr (by have := H11.out.2.1.size; omega))
                      have hn9 : ¬ D12 (q + 1) := fun hd => (hD12 _ hd).elim H9.out.2.2.1 (fun h => by omega)
                      have H12 := Aside0.mk (And.intro h12 (And.intro hg9 (And.intro hn9 (And.intro hm19 hs2'))))
                      clear h12 hD12 hm12 hs2' hq9 hm19 hg9 hn9
                      dsimp only
                      refine hK _ _ ?_
                      clear hK K
                      refine wpList_plain rfl fun K hK => ?_
                      unfold Oper.wp execOp
                      go_simp
                      refine hK _ _ ?_
                      clear hK K
                      refine wpList_plain rfl fun K hK => ?_
                      unfold Oper.wp execOp
                      go_simp
                      refine hK _ _ ?_
                      clear hK K
                      refine wpList_store_row rfl 47 _ _ rfl (q + 1) cs2.toArray rfl rfl 47 _ H12.out.2.2.2.2 hinf2 (by rw [List.size_toArray, List.size_toArray, ← H11.out.2.2.2.2.2.1]; rfl) (by have := Ino_one { r with xattr := (x : Int), blocks := r.blocks + 1 } A n c; rw [H11.out.2.2.2.2.2.1] at this; simpa using this) ?_
                      have hfin := ino_fin cs2 0 (q := q + 1) (by have := HQ.out; omega) H12.out.1 H12.out.2.1 H12.out.2.2.1 H12.out.2.2.2.1
                      have hres := setRow_heap w12 (q + 1) _ cs2.toArray 47 (0, 0) H12.out.2.2.2.2
                      generalize World.setRow w12 (q + 1) cs2.toArray = w13 at hfin hres ⊢
                      have HFIN := Aside0.mk hfin
                      have HRS := Aside0.mk hres
                      clear hfin hres
                      go_wp2
                      refine bodyPost_ret (results_ino rfl _ _ (q + 1) cs2.toArray 0 rfl rfl HRS.out hinf2) rfl ?_
                      have hr : (rs, rc, re) = (bs.write x (xpackI l2 x).1, cs2, 0) := by
                        rw [← HRES.out]
                        unfold xsetI
                        rw [HCS.out.2.2, HVL.out]
                        dsimp only
                        rw [HK.out.1, HL2.out, HPC.out, if_neg (by simp), if_neg HV64.out, if_neg HNE.out, if_neg (by simp), if_neg (by simp), if_neg (by simp), if_neg (fun h => h HX0.out), HBI.out, if_neg (by simp), H11.out.2.2.2.2.2.1, Int.toNat_natCast]
                      cases hr
                      exact HFIN.out
                  · obtain ⟨hx1, hx2, hx3⟩ := xlistI_in HCS.out.2.2 hx0
                    obtain ⟨x, hxx⟩ : ∃ x : Nat, r.xattr = x := ⟨r.xattr.toNat, by omega⟩
                    have hxn : x < s.now.length := by rw [hxx] at hx3; simpa using hx3
                    have hxne : ¬ ((x : Int) = 0) := by omega
                    rw [hxx] at c12
                    have hlay := lay_calls cs x A7 c7 l2 w8 HST.out.1 HCS.out.2.1 (by rw [← HCS.out.1]; exact Ino_one r A n c) (by rw [← HCS.out.1, ← hxx]; rfl) hxn (by omega) HE8.out HW7.out.2.2.2.2.1 (by have := HW7.out.2.2.2.2.2.1; omega) (xpackI_code (by rw [HPC.out])) HW7.out.2.2.2.2.2.2 (by omega)
                    rw [HLN2.out] at hlay
                    have HLAY := Aside0.mk hlay
                    have HX := Aside0.mk (And.intro hxx hx0)
                    clear hlay hxn hx1 hx2 hx3 hxx
                    go_upto_region 26 with fail
                    refine wp_region_lit ?_
                    refine wpList_plain rfl fun K hK => ?_
                    unfold Oper.wp execOp
                    go_simp
                    refine hK _ _ ?_
                    clear hK K
                    refine wpList_load_row rfl 47 _ rfl q rfl 47 cs.toArray (0, 0) _ HS1.out Tryz.underlying47 rfl hinf ?_
                    refine wpList_plain rfl fun K hK => ?_
                    unfold Oper.wp execOp
                    go_simp
                    refine hK _ _ ?_
                    clear hK K
                    refine wpList_plain rfl fun K hK => ?_
                    unfold Oper.wp execOp
                    go_simp
                    refine HLAY.out.mono ?_
                    rintro e w9 ⟨D9, rfl, h9, hD9, hm9⟩
                    have hs2' := HS2.out.mod hm9 HST.out.2.2.1
                    have hq9 := HS2.out.lt
                    have hm19 : Mod w w9 D := Mod.trans HST.out.2.2.2 hm9 (fun k hk hd => (HST.out.2.1 k hd).elim id (fun h => by omega))
                    have hg9 : ∀ k, D9 k → D k ∨ w.heap.size ≤ k := fun k hk => (hD9 k hk).elim (HST.out.2.1 k) (fun h => .inr (by have := HST.out.2.2.2.size; omega))
                    have hn9 : ¬ D9 (q + 1) := fun hd => (hD9 _ hd).elim HST.out.2.2.1 (fun h => by omega)
                    have H9 := Aside0.mk (And.intro h9 (And.intro hg9 (And.intro hn9 (And.intro hm19 hs2'))))
                    clear h9 hD9 hm9 hs2' hq9 hm19 hg9 hn9
                    dsimp only
                    refine hK _ _ ?_
                    clear hK K
                    refine wpList_plain rfl fun K hK => ?_
                    unfold Oper.wp execOp
                    go_simp
                    refine hK _ _ ?_
                    clear hK K
                    refine wpList_plain rfl fun K hK => ?_
                    unfold Oper.wp execOp
                    go_simp
                    refine hK _ _ ?_
                    clear hK K
                    refine wpList_store_row rfl 47 _ _ rfl (q + 1) cs.toArray rfl rfl 47 _ H9.out.2.2.2.2 hinf (by rw [List.size_toArray, List.size_toArray, HCS.out.2.1]; rfl) (by have := Ino_one r A n c; rw [HCS.out.1] at this; simpa using this) ?_
                    have hfin := ino_fin cs 0 (q := q + 1) (by have := HQ.out; omega) H9.out.1 H9.out.2.1 H9.out.2.2.1 H9.out.2.2.2.1
                    have hres := setRow_heap w9 (q + 1) _ cs.toArray 47 (0, 0) H9.out.2.2.2.2
                    generalize World.setRow w9 (q + 1) cs.toArray = w10 at hfin hres ⊢
                    have HFIN := Aside0.mk hfin
                    have HRS := Aside0.mk hres
                    clear hfin hres
                    go_wp2
                    refine bodyPost_ret (results_ino rfl _ _ (q + 1) cs.toArray 0 rfl rfl HRS.out hinf) rfl ?_
                    have hr : (rs, rc, re) = (s.write x (xpackI l2 x).1, cs, 0) := by
                      rw [← HRES.out]
                      unfold xsetI
                      rw [HCS.out.2.2, HVL.out]
                      dsimp only
                      rw [HK.out.1, HL2.out, HPC.out, if_neg (by simp), if_neg HV64.out, if_neg HNE.out, if_neg (by simp), if_neg (by simp), if_neg (by simp), if_pos HX.out.2, HX.out.1, HCS.out.1, Int.toNat_natCast]
                    cases hr
                    exact HFIN.out
  · have hne0 : ¬ (e0 = 0) := he0
    go_upto_region 4 with fail
    refine wp_region_lit ?_
    refine wpList_buildZ rfl rfl ?_
    refine wpList_plain rfl fun K hK => ?_
    unfold Oper.wp execOp
    go_simp
    refine hK _ _ ?_
    clear hK K
    refine wpList_store_row rfl 47 _ _ rfl (q + 1) inoZ.toArray rfl rfl 47 _ HS2.out infZ rfl inoZ_one ?_
    have hfin := ino_fin inoZ e0 (q := q + 1) (by have := HQ.out; omega) HST.out.1 HST.out.2.1 HST.out.2.2.1 HST.out.2.2.2
    have hres := setRow_heap w3 (q + 1) _ inoZ.toArray 47 (0, 0) HS2.out
    generalize World.setRow w3 (q + 1) inoZ.toArray = w9 at hfin hres ⊢
    have HFIN := Aside0.mk hfin
    have HRS := Aside0.mk hres
    clear hfin hres
    go_wp2
    refine bodyPost_ret (results_ino rfl _ _ (q + 1) inoZ.toArray e0 rfl rfl HRS.out infZ) rfl ?_
    have hr : (rs, rc, re) = (s, inoZ, e0) := by
      rw [← HRES.out]
      unfold xsetI
      rw [HCS.out.2.2]
      exact if_pos he0
    cases hr
    exact HFIN.out
end Go.Proofs.YtkmhilhfmfmckaaGreatDoor.Hand
