/- Own texts and printed words of the kit, put together and trimmed by a program of mine (merge.py). -/
import Derived.Test.YtkmhilhfmfmckaaGreatDoorR18
namespace Go.Proofs.YtkmhilhfmfmckaaGreatDoor.Hand
set_option linter.unusedSimpArgs false
set_option linter.unusedVariables false
open Go.Shelf Go.RowKit Go.Proofs.YtkmhilhfmfmckaaGreatDoorW.PrintWords Go.Proofs.YtkmhilhfmfmckaaGreatDoorW.PrintLast Go.Proofs.YtkmhilhfmfmckaaGreatDoorW.PrintMore
set_option maxHeartbeats 8000000 in
set_option maxRecDepth 100000 in
theorem xsetm_calls {D : Nat → Prop} {s0 : Nat} {s : St} (r : Ino) (A : Option Addr) (n c : Nat) (nm : ByteArray) (Av : Option Addr) (cv : Nat) (val : List Int) (how goal : Int) (w : World) (h : StIs w D s0 s) (hsb : ∀ b ∈ s.now, allB b)
  (hv : Kd.C (Kd.int .u8) w Av val.length val) (hvn : Av = none → cv = 0) (hvb : allB val) (hvD : ∀ W : World, Mod w W D → Kd.C (Kd.int .u8) W Av val.length val) (hh : s.hist.length ≤ 900000) (hT : Tab w) (hTD : ¬ D 2) (hg0 : -9223372036854775808 ≤ goal) (hg1 : goal < 9223372036854775808) :
  Calls Tryz.prog 18 #[.pointer (some ⟨s0, 0, none⟩), .agg (r.cells (.slice A n c)).toArray, .string nm, .slice Av val.length cv, .int .i64 how, .int .i64 goal] w (InoPost D s0 (xsetI s r n (.slice A n c) nm val how goal).1 (xsetI s r n (.slice A n c) nm val how goal).2.1 (xsetI s r n (.slice A n c) nm val how goal).2.2 w) := by
 have HT := Aside0.mk (And.intro hT (And.intro hTD (show 2 < w.heap.size from World.block_lt_of_cell? w _ (hT 0 (by omega)))))
 have HG := Aside0.mk (And.intro hg0 hg1)
 clear hT hTD hg0 hg1
 have HLIST := Aside0.mk (fun (W : World) (hW : Below w.heap.size w W) => xlist_calls r A n c W (h.below hW))
 obtain ⟨res, hres⟩ : ∃ res, xsetI s r n (.slice A n c) nm val how goal = res := ⟨_, rfl⟩
 have HRES := Aside0.mk hres
 obtain ⟨cs, hcs⟩ : ∃ cs, r.cells (.slice A n c) = cs := ⟨_, rfl⟩
 have hcl : cs.length = 15 := by rw [← hcs]; rfl
 have hinf := infIno hcl
 have hll := xlistI_len (r := r) (rl := n) hsb
 obtain ⟨L, hL⟩ : ∃ L, xlistI s.now r n = L := ⟨_, rfl⟩
 rw [hL] at HLIST hll
 rw [hcs] at HLIST ⊢
 rw [hres]
 have HCS := Aside0.mk (And.intro hcs (And.intro hcl hL))
 have HH := Aside0.mk h
 have HV := Aside0.mk (And.intro hv (And.intro hvn (And.intro hvb hvD)))
 clear hres hcs h hv hvn hvb hvD hL
 obtain ⟨l, e0⟩ := L
 dsimp only at HLIST hll
 obtain ⟨rs, rc, re⟩ := res
 dsimp only
 obtain ⟨vl, hvl⟩ : ∃ vl, val.length = vl := ⟨_, rfl⟩
 rw [hvl]
 have HVL := Aside0.mk hvl
 clear hvl
 go_enter Tryz.func18, Tryz.ntmps18
 go_upto_region 1 with fail
 have hb0 := below_alloc (below_alloc (Below.refl w.heap.size w) (.cells cs.toArray 47)) (.cells inoZ.toArray 47)
 have hs1 : Strc ((w.alloc (.cells cs.toArray 47)).alloc (.cells inoZ.toArray 47)) w.heap.size 47 cs := by
  have := alloc_last w (.cells cs.toArray 47)
  unfold Strc
  rw [alloc_old _ _ _ (lt_of_obj this)]
  exact this
 have hs2 : Strc ((w.alloc (.cells cs.toArray 47)).alloc (.cells inoZ.toArray 47)) (w.heap.size + 1) 47 inoZ := by
  have := alloc_last (w.alloc (.cells cs.toArray 47)) (.cells inoZ.toArray 47)
  rw [show ∀ o, (w.alloc o).heap.size = w.heap.size + 1 from fun o => by simp] at this
  exact this
 change Code.wp _ _ _ _ ((w.alloc (.cells cs.toArray 47)).alloc (.cells inoZ.toArray 47))
 generalize (w.alloc (.cells cs.toArray 47)).alloc (.cells inoZ.toArray 47) = w1 at hb0 hs1 hs2 ⊢
 obtain ⟨q, hq⟩ : ∃ q, w.heap.size = q := ⟨_, rfl⟩
 have HB0 := Aside0.mk hb0
 rw [hq] at hs1 hs2 ⊢
 have HQ := Aside0.mk hq
 clear hq hb0
 have HQ1 := Aside0.mk hs2.lt
 have HS1 := Aside0.mk hs1
 have HS2 := Aside0.mk hs2
 clear hs1 hs2
 refine wp_region_lit ?_
 refine wpList_plain rfl fun K hK => ?_
 unfold Oper.wp execOp
 go_simp
 refine hK _ _ ?_
 clear hK K
 refine wpList_load_row rfl 47 _ rfl q rfl 47 cs.toArray (0, 0) _ HS1.out Tryz.underlying47 rfl hinf ?_
 go_wp2_with fail
 refine (HLIST.out w1 HB0.out).mono ?_
 rintro e w2 ⟨D2, v2, b2', rfl, ho2, hD2, hb2, hst2, hgD2, hm2⟩
 obtain ⟨b2, ho2, hD2, hb2, hbs2⟩ := ownA_base ho2 hD2 hst2.sub hb2 hm2.size
 have HBS := Aside0.mk hbs2
 have HLL := Aside0.mk hll
 clear hbs2
 dsimp only
 have hs1 := HS1.out.mod hm2 (fun hd => by have := HH.out.sub _ hd; have := HQ.out; omega)
 have hs2 := HS2.out.mod hm2 (fun hd => by have := HH.out.sub _ hd; have := HQ.out; omega)
 have HS1 := Aside0.mk hs1
 have HS2 := Aside0.mk hs2
 obtain ⟨A2, c2, rfl, hc2, hE2⟩ := ho2.reads (by dsimp only; omega)
 have HSK := Aside0.mk (seek_calls A2 c2 l nm w2 hE2 (by dsimp only at *; omega))
 obtain ⟨k, hk⟩ : ∃ k, seekI l nm = k := ⟨_, rfl⟩
 rw [hk] at HSK
 obtain ⟨i, is⟩ := k
 dsimp only at HSK
 obtain ⟨ln, hln⟩ : ∃ ln, l.length = ln := ⟨_, rfl⟩
 rw [hln] at HSK hc2 ⊢
 have HK := Aside0.mk (And.intro hk hln)
 have HM2 := Aside0.mk (And.intro ho2 (And.intro hD2 (And.intro hb2 (And.intro hst2 (And.intro hgD2 (And.intro hE2 (Mod.trans (Mod.of_below HB0.out D) hm2 (fun _ _ h => h))))))))
 clear hk hln ho2 hD2 hb2 hst2 hgD2 hE2 hm2 hs1 hs2
 have HN := Aside0.mk (fun W : World => named_calls nm W)
 obtain ⟨nb, hnb⟩ : ∃ nb, namedB nm = nb := ⟨_, rfl⟩
 rw [hnb] at HN
 have HNB := Aside0.mk hnb
 clear hnb
 go_wp2_with fail
 refine HSK.out.mono ?_
 rintro e w3 ⟨rfl, hb3⟩
 have hs2 := HS2.out.below hb3
 have HS1 := Aside0.mk (HS1.out.below hb3)
 have HS2 := Aside0.mk hs2
 have HB3 := Aside0.mk hb3
 clear hs2 hb3
 dsimp only
 have hst3 : StIs w3 D2 s0 s ∧ (∀ k, D2 k → D k ∨ w.heap.size ≤ k) ∧ ¬ D2 (q + 1) ∧ Mod w w3 D := by
  refine ⟨HM2.out.2.2.2.1.below HB3.out, fun k hk => (HM2.out.2.2.2.2.1 k hk).imp id (fun h => Nat.le_trans HB0.out.size h), fun hd => ?_, HM2.out.2.2.2.2.2.2.below HB3.out⟩
  rcases HM2.out.2.2.2.2.1 _ hd with h | h
  ·have := HH.out.sub _ h
   have := HQ.out
   omega
  ·have := HQ1.out
   omega
 have HST := Aside0.mk hst3
 clear hst3
 by_cases he0 : e0 = 0
 ·subst he0
  go_upto_region 5 with fail
  by_cases h64 : 64 < vl
  ·have h64i : (64 : Int) < (vl : Int) := by omega
   go_upto_region 6 with fail
   refine wp_region_lit ?_
   refine wpList_buildZ rfl rfl ?_
   refine wpList_store_row rfl 47 _ _ rfl (q + 1) inoZ.toArray rfl rfl 47 _ HS2.out infZ rfl inoZ_one ?_
   have hfin := ino_fin inoZ (34) (q := q + 1) (by have := HQ.out; omega) HST.out.1 HST.out.2.1 HST.out.2.2.1 HST.out.2.2.2
   have hres := setRow_heap w3 (q + 1) _ inoZ.toArray 47 (0, 0) HS2.out
   generalize World.setRow w3 (q + 1) inoZ.toArray = w9 at hfin hres ⊢
   have HFIN := Aside0.mk hfin
   have HRS := Aside0.mk hres
   clear hfin hres
   go_wp2
   refine bodyPost_ret (results_ino rfl _ _ (q + 1) inoZ.toArray (34) rfl rfl HRS.out infZ) rfl ?_
   have hr : (rs, rc, re) = (s, inoZ, (34)) := by
    rw [← HRES.out]
    unfold xsetI
    rw [HCS.out.2.2, HK.out.1, HVL.out]
    rw [if_neg (by simp), if_pos h64]
   cases hr
   exact HFIN.out
  ·have h64i : ¬ ((64 : Int) < (vl : Int)) := by omega
   go_upto_region 7 with fail
   go_wp2_with fail
   refine (HN.out w3).mono ?_
   rintro e w4 ⟨rfl, rfl⟩
   dsimp only
   cases nb
   ·go_upto_region 8 with fail
    refine wp_region_lit ?_
    refine wpList_buildZ rfl rfl ?_
    refine wpList_store_row rfl 47 _ _ rfl (q + 1) inoZ.toArray rfl rfl 47 _ HS2.out infZ rfl inoZ_one ?_
    have hfin := ino_fin inoZ (22) (q := q + 1) (by have := HQ.out; omega) HST.out.1 HST.out.2.1 HST.out.2.2.1 HST.out.2.2.2
    have hres := setRow_heap w3 (q + 1) _ inoZ.toArray 47 (0, 0) HS2.out
    generalize World.setRow w3 (q + 1) inoZ.toArray = w9 at hfin hres ⊢
    have HFIN := Aside0.mk hfin
    have HRS := Aside0.mk hres
    clear hfin hres
    go_wp2
    refine bodyPost_ret (results_ino rfl _ _ (q + 1) inoZ.toArray (22) rfl rfl HRS.out infZ) rfl ?_
    have hr : (rs, rc, re) = (s, inoZ, (22)) := by
     rw [← HRES.out]
     unfold xsetI
     rw [HCS.out.2.2, HK.out.1, HVL.out]
     rw [if_neg (by simp), if_neg h64, if_pos (.inl HNB.out)]
    cases hr
    exact HFIN.out
   ·by_cases hw0 : how < 0
    ·go_upto_region 8 with fail
     refine wp_region_lit ?_
     refine wpList_buildZ rfl rfl ?_
     refine wpList_store_row rfl 47 _ _ rfl (q + 1) inoZ.toArray rfl rfl 47 _ HS2.out infZ rfl inoZ_one ?_
     have hfin := ino_fin inoZ (22) (q := q + 1) (by have := HQ.out; omega) HST.out.1 HST.out.2.1 HST.out.2.2.1 HST.out.2.2.2
     have hres := setRow_heap w3 (q + 1) _ inoZ.toArray 47 (0, 0) HS2.out
     generalize World.setRow w3 (q + 1) inoZ.toArray = w9 at hfin hres ⊢
     have HFIN := Aside0.mk hfin
     have HRS := Aside0.mk hres
     clear hfin hres
     go_wp2
     refine bodyPost_ret (results_ino rfl _ _ (q + 1) inoZ.toArray (22) rfl rfl HRS.out infZ) rfl ?_
     have hr : (rs, rc, re) = (s, inoZ, (22)) := by
      rw [← HRES.out]
      unfold xsetI
      rw [HCS.out.2.2, HK.out.1, HVL.out]
      rw [if_neg (by simp), if_neg h64, if_pos (.inr (.inl hw0))]
     cases hr
     exact HFIN.out
    ·by_cases hw2 : 2 < how
     ·go_upto_region 8 with fail
      refine wp_region_lit ?_
      refine wpList_buildZ rfl rfl ?_
      refine wpList_store_row rfl 47 _ _ rfl (q + 1) inoZ.toArray rfl rfl 47 _ HS2.out infZ rfl inoZ_one ?_
      have hfin := ino_fin inoZ (22) (q := q + 1) (by have := HQ.out; omega) HST.out.1 HST.out.2.1 HST.out.2.2.1 HST.out.2.2.2
      have hres := setRow_heap w3 (q + 1) _ inoZ.toArray 47 (0, 0) HS2.out
      generalize World.setRow w3 (q + 1) inoZ.toArray = w9 at hfin hres ⊢
      have HFIN := Aside0.mk hfin
      have HRS := Aside0.mk hres
      clear hfin hres
      go_wp2
      refine bodyPost_ret (results_ino rfl _ _ (q + 1) inoZ.toArray (22) rfl rfl HRS.out infZ) rfl ?_
      have hr : (rs, rc, re) = (s, inoZ, (22)) := by
       rw [← HRES.out]
       unfold xsetI
       rw [HCS.out.2.2, HK.out.1, HVL.out]
       rw [if_neg (by simp), if_neg h64, if_pos (.inr (.inr hw2))]
      cases hr
      exact HFIN.out
     ·have HNE := Aside0.mk (show ¬ (namedB nm = false ∨ how < 0 ∨ 2 < how) by rw [HNB.out]; simp [hw0, hw2])
      have HV64 := Aside0.mk h64
      obtain rfl | rfl | rfl : how = 0 ∨ how = 1 ∨ how = 2 := by omega
      focus
       have HCL := Aside0.mk (show ∀ W : World, Mod w W D → Calls Tryz.prog 42 #[.slice Av vl cv] W fun e w' => ∃ v, e = .returned v ∧ Own w' W.heap.size 5 .u8 v val ∧ Below W.heap.size W w' from fun W hW => HVL.out ▸ cloneany_calls (HV.out.2.2.2 W hW) HV.out.2.1 (by have := HV64.out; have := HVL.out; omega))
       go_upto_region 13 with fail
       go_wp2_with fail
       refine (HCL.out w3 HST.out.2.2.2).mono ?_
       rintro e w4 ⟨v4, rfl, ho4, hb4⟩
       have HO4 := Aside0.mk (And.intro ho4 hb4)
       obtain ⟨A4, c4, rfl, hc4, hC4⟩ := ho4.reads
       rw [HVL.out] at HO4 hc4 hC4 ⊢
       have HC4 := Aside0.mk hC4
       clear ho4 hb4 hC4
       dsimp only
       have hb5 := below_alloc (Below.refl w4.heap.size w4) (.cells #[.string nm, .slice A4 vl c4] 72)
       have hb6 := below_alloc hb5 (.cells #[.string nm, .slice A4 vl c4] 72)
       have ho6 : OwnA ((w4.alloc (.cells #[.string nm, .slice A4 vl c4] 72)).alloc (.cells #[.string nm, .slice A4 vl c4] 72)) b2 (.slice A2 ln c2) l := by have := ((HM2.out.1.below HB3.out).below HO4.out.2).below hb6; rw [HK.out.2] at this; exact this
       have hv6 : Own ((w4.alloc (.cells #[.string nm, .slice A4 vl c4] 72)).alloc (.cells #[.string nm, .slice A4 vl c4] 72)) b2 5 .u8 (.slice A4 vl c4) (⟨nm, val⟩ : Att).val := (own_low HO4.out.1 (Nat.le_trans HBS.out HB3.out.size)).below hb6
       have hvb6 := alloc_last (w4.alloc (.cells #[.string nm, .slice A4 vl c4] 72)) (.cells #[.string nm, .slice A4 vl c4] 72)
       have hsz6 : (w4.alloc (.cells #[.string nm, .slice A4 vl c4] 72)).heap.size = w4.heap.size + 1 := by simp
       cases is
       focus
        have hins := insert_calls (x := ⟨nm, val⟩) (i := i) ho6 hv6 HV.out.2.2.1 (seekI_le HK.out.1) (by have := HLL.out; omega) hvb6 (fun e => by have := ownA_lt (HM2.out.1) _ (by rw [HK.out.2]; exact e); have := HB3.out.size; have := HO4.out.2.size; simp at *; omega) (by have := HBS.out; have := HB3.out.size; have := HO4.out.2.size; simp; omega)
        rw [hsz6] at hins
        have HINS := Aside0.mk hins
        clear hins ho6 hv6 hvb6 hb5 hb6
        go_wp2_with fail
        refine HINS.out.mono ?_
        rintro e w7 ⟨v7, rfl, ho7, hm7⟩
        dsimp only
        have hm37 : Mod w3 w7 (fun k => (Value.slice A2 ln c2).ownBlock = some k) := Mod.trans (Mod.of_below (below_then HO4.out.2 HO4.out.2.size (below_alloc (below_alloc (Below.refl w4.heap.size w4) _) _)) _) hm7 (fun _ _ h => h)
        have hge : ∀ k, (Value.slice A2 ln c2).ownBlock = some k → b2 ≤ k := fun k hk => ownA_ge HM2.out.1 k (by rw [HK.out.2]; exact hk)
        have hq2 : q + 1 < b2 := by have := HQ1.out; have := HM2.out.2.2.1; omega
        have hs1 := HS1.out.mod hm37 (fun e => by have := hge _ e; omega)
        have hs2 := HS2.out.mod hm37 (fun e => by have := hge _ e; omega)
        have hst7 : StIs w7 D2 s0 s ∧ (∀ k, D2 k → D k ∨ w.heap.size ≤ k) ∧ ¬ D2 (q + 1) ∧ Mod w w7 D := ⟨HST.out.1.mod hm37 (fun k hk e => by have := hge _ e; have := HM2.out.2.1 k hk; omega), HST.out.2.1, HST.out.2.2.1, Mod.trans HST.out.2.2.2 hm37 (fun k hk e => by have := hge _ e; have := HM2.out.2.2.1; have := HB0.out.size; omega)⟩
        obtain ⟨l2, hl2⟩ : ∃ l2, insL l i (⟨nm, val⟩ : Att) = l2 := ⟨_, rfl⟩
        rw [hl2] at ho7
        have hln2 : l2.length ≤ 256 := by rw [← hl2, insL_length]; have := HLL.out; omega
        have HL2 := Aside0.mk (show xsetL l (i, false) ⟨nm, val⟩ = l2 from hl2)
        clear hl2 hm7 hge
       rotate_left
       focus
        clear hb6 ho6 hv6 hvb6 hsz6
        have hil : i < l.length := seekI_lt HK.out.1
        go_upto_region 15 with fail
        have ho5 : OwnA (w4.alloc (.cells #[.string nm, .slice A4 vl c4] 72)) b2 (.slice A2 ln c2) l := by have := ((HM2.out.1.below HB3.out).below HO4.out.2).below hb5; rw [HK.out.2] at this; exact this
        have hv5 : Own (w4.alloc (.cells #[.string nm, .slice A4 vl c4] 72)) b2 5 .u8 (.slice A4 vl c4) (⟨nm, val⟩ : Att).val := (own_low HO4.out.1 (Nat.le_trans HBS.out HB3.out.size)).below hb5
        have hvb5 := alloc_last w4 (.cells #[.string nm, .slice A4 vl c4] 72)
        have hm35 : Mod w3 (w4.alloc (.cells #[.string nm, .slice A4 vl c4] 72)) (fun k => b2 ≤ k) := Mod.of_below (below_then HO4.out.2 HO4.out.2.size hb5) _
        obtain ⟨g, rfl, hq1, hq2, hf1, hf2, ho7, hm7⟩ := ownA_put (x := ⟨nm, val⟩) (i := i) ho5 HK.out.2 hv5 HV.out.2.2.1 hil
        have hgb : b2 ≤ g := ownA_ge ho5 g rfl
        generalize (w4.alloc (.cells #[.string nm, .slice A4 vl c4] 72)) = w5 at hvb5 hm35 hq1 hq2 hf1 hf2 ho7 hm7 ⊢
        obtain ⟨z1, hq1⟩ := hq1
        obtain ⟨z2, hq2, hq3⟩ := hq2
        obtain ⟨hf2, hf3⟩ := hf2
        have hiln : i < ln := by have := HK.out.2; omega
        have hln0 := hil
        have HO57 := Aside0.mk (And.intro ho7 hm7)
        have hv5a : w5.cell? ⟨w4.heap.size, 0, none⟩ = some (.string nm) := by simp [World.cell?, hvb5]
        have hv5b : w5.cell? ⟨w4.heap.size, 1, none⟩ = some (.slice A4 vl c4) := by simp [World.cell?, hvb5]
        clear ho5 hv5 hvb5 hb5 ho7 hm7
        go_upto_region 17 with fail
        have ho7 := HO57.out.1
        have hm7 := HO57.out.2
        generalize (w5.setCell ⟨g, i * 2, none⟩ (.string nm)).setCell ⟨g, i * 2 + 1, none⟩ (.slice A4 vl c4) = w7 at ho7 hm7 ⊢
        clear hq1 hq2 hq3 hf1 hf2 hf3 hv5a hv5b HO57
        have hm37 : Mod w3 w7 (fun k => b2 ≤ k) := Mod.trans hm35 (hm7.mono (fun k _ e => by have : g = k := e; show b2 ≤ k; omega)) (fun _ _ h => h)
        have hq2 : q + 1 < b2 := by have := HQ1.out; have := HM2.out.2.2.1; omega
        have hs1 := HS1.out.mod hm37 (fun e => by have : b2 ≤ q := e; omega)
        have hs2 := HS2.out.mod hm37 (fun e => by have : b2 ≤ q + 1 := e; omega)
        have hst7 : StIs w7 D2 s0 s ∧ (∀ k, D2 k → D k ∨ w.heap.size ≤ k) ∧ ¬ D2 (q + 1) ∧ Mod w w7 D := ⟨HST.out.1.mod hm37 (fun k hk e => by have : b2 ≤ k := e; have := HM2.out.2.1 k hk; omega), HST.out.2.1, HST.out.2.2.1, Mod.trans HST.out.2.2.2 hm37 (fun k hk e => by have : b2 ≤ k := e; have := HM2.out.2.2.1; have := HB0.out.size; omega)⟩
        obtain ⟨l2, hl2⟩ : ∃ l2, l.set i (⟨nm, val⟩ : Att) = l2 := ⟨_, rfl⟩
        rw [hl2] at ho7
        have hlnl : l2.length = ln := by rw [← hl2, List.length_set]; exact HK.out.2
        have hln2 : l2.length ≤ 256 := by have := HLL.out; have := HK.out.2; omega
        have HL2 := Aside0.mk (show xsetL l (i, true) ⟨nm, val⟩ = l2 from hl2)
        have HINS := Aside0.mk trivial
        generalize Value.slice (some ⟨g, 0, none⟩) ln c2 = v7 at ho7 ⊢
        clear hl2 hm7 hil hln0 hiln hlnl hgb hm35
      rotate_left 2
      focus
       cases is
       focus
        have HCL := Aside0.mk (show ∀ W : World, Mod w W D → Calls Tryz.prog 42 #[.slice Av vl cv] W fun e w' => ∃ v, e = .returned v ∧ Own w' W.heap.size 5 .u8 v val ∧ Below W.heap.size W w' from fun W hW => HVL.out ▸ cloneany_calls (HV.out.2.2.2 W hW) HV.out.2.1 (by have := HV64.out; have := HVL.out; omega))
        go_upto_region 13 with fail
        go_wp2_with fail
        refine (HCL.out w3 HST.out.2.2.2).mono ?_
        rintro e w4 ⟨v4, rfl, ho4, hb4⟩
        have HO4 := Aside0.mk (And.intro ho4 hb4)
        obtain ⟨A4, c4, rfl, hc4, hC4⟩ := ho4.reads
        rw [HVL.out] at HO4 hc4 hC4 ⊢
        have HC4 := Aside0.mk hC4
        clear ho4 hb4 hC4
        dsimp only
        have hb5 := below_alloc (Below.refl w4.heap.size w4) (.cells #[.string nm, .slice A4 vl c4] 72)
        have hb6 := below_alloc hb5 (.cells #[.string nm, .slice A4 vl c4] 72)
        have ho6 : OwnA ((w4.alloc (.cells #[.string nm, .slice A4 vl c4] 72)).alloc (.cells #[.string nm, .slice A4 vl c4] 72)) b2 (.slice A2 ln c2) l := by have := ((HM2.out.1.below HB3.out).below HO4.out.2).below hb6; rw [HK.out.2] at this; exact this
        have hv6 : Own ((w4.alloc (.cells #[.string nm, .slice A4 vl c4] 72)).alloc (.cells #[.string nm, .slice A4 vl c4] 72)) b2 5 .u8 (.slice A4 vl c4) (⟨nm, val⟩ : Att).val := (own_low HO4.out.1 (Nat.le_trans HBS.out HB3.out.size)).below hb6
        have hvb6 := alloc_last (w4.alloc (.cells #[.string nm, .slice A4 vl c4] 72)) (.cells #[.string nm, .slice A4 vl c4] 72)
        have hsz6 : (w4.alloc (.cells #[.string nm, .slice A4 vl c4] 72)).heap.size = w4.heap.size + 1 := by simp
        have hins := insert_calls (x := ⟨nm, val⟩) (i := i) ho6 hv6 HV.out.2.2.1 (seekI_le HK.out.1) (by have := HLL.out; omega) hvb6 (fun e => by have := ownA_lt (HM2.out.1) _ (by rw [HK.out.2]; exact e); have := HB3.out.size; have := HO4.out.2.size; simp at *; omega) (by have := HBS.out; have := HB3.out.size; have := HO4.out.2.size; simp; omega)
        rw [hsz6] at hins
        have HINS := Aside0.mk hins
        clear hins ho6 hv6 hvb6 hb5 hb6
        go_wp2_with fail
        refine HINS.out.mono ?_
        rintro e w7 ⟨v7, rfl, ho7, hm7⟩
        dsimp only
        have hm37 : Mod w3 w7 (fun k => (Value.slice A2 ln c2).ownBlock = some k) := Mod.trans (Mod.of_below (below_then HO4.out.2 HO4.out.2.size (below_alloc (below_alloc (Below.refl w4.heap.size w4) _) _)) _) hm7 (fun _ _ h => h)
        have hge : ∀ k, (Value.slice A2 ln c2).ownBlock = some k → b2 ≤ k := fun k hk => ownA_ge HM2.out.1 k (by rw [HK.out.2]; exact hk)
        have hq2 : q + 1 < b2 := by have := HQ1.out; have := HM2.out.2.2.1; omega
        have hs1 := HS1.out.mod hm37 (fun e => by have := hge _ e; omega)
        have hs2 := HS2.out.mod hm37 (fun e => by have := hge _ e; omega)
        have hst7 : StIs w7 D2 s0 s ∧ (∀ k, D2 k → D k ∨ w.heap.size ≤ k) ∧ ¬ D2 (q + 1) ∧ Mod w w7 D := ⟨HST.out.1.mod hm37 (fun k hk e => by have := hge _ e; have := HM2.out.2.1 k hk; omega), HST.out.2.1, HST.out.2.2.1, Mod.trans HST.out.2.2.2 hm37 (fun k hk e => by have := hge _ e; have := HM2.out.2.2.1; have := HB0.out.size; omega)⟩
        obtain ⟨l2, hl2⟩ : ∃ l2, insL l i (⟨nm, val⟩ : Att) = l2 := ⟨_, rfl⟩
        rw [hl2] at ho7
        have hln2 : l2.length ≤ 256 := by rw [← hl2, insL_length]; have := HLL.out; omega
        have HL2 := Aside0.mk (show xsetL l (i, false) ⟨nm, val⟩ = l2 from hl2)
        clear hl2 hm7 hge
       rotate_left
       ·go_upto_region 10 with fail
        refine wp_region_lit ?_
        refine wpList_buildZ rfl rfl ?_
        refine wpList_store_row rfl 47 _ _ rfl (q + 1) inoZ.toArray rfl rfl 47 _ HS2.out infZ rfl inoZ_one ?_
        have hfin := ino_fin inoZ (17) (q := q + 1) (by have := HQ.out; omega) HST.out.1 HST.out.2.1 HST.out.2.2.1 HST.out.2.2.2
        have hres := setRow_heap w3 (q + 1) _ inoZ.toArray 47 (0, 0) HS2.out
        generalize World.setRow w3 (q + 1) inoZ.toArray = w9 at hfin hres ⊢
        have HFIN := Aside0.mk hfin
        have HRS := Aside0.mk hres
        clear hfin hres
        go_wp2
        refine bodyPost_ret (results_ino rfl _ _ (q + 1) inoZ.toArray (17) rfl rfl HRS.out infZ) rfl ?_
        have hr : (rs, rc, re) = (s, inoZ, (17)) := by
         rw [← HRES.out]
         unfold xsetI
         rw [HCS.out.2.2, HK.out.1, HVL.out]
         rw [if_neg (by simp), if_neg HV64.out, if_neg HNE.out, if_pos ⟨rfl, rfl⟩]
        cases hr
        exact HFIN.out
      rotate_left
      focus
       cases is
       ·go_upto_region 12 with fail
        refine wp_region_lit ?_
        refine wpList_buildZ rfl rfl ?_
        refine wpList_store_row rfl 47 _ _ rfl (q + 1) inoZ.toArray rfl rfl 47 _ HS2.out infZ rfl inoZ_one ?_
        have hfin := ino_fin inoZ (61) (q := q + 1) (by have := HQ.out; omega) HST.out.1 HST.out.2.1 HST.out.2.2.1 HST.out.2.2.2
        have hres := setRow_heap w3 (q + 1) _ inoZ.toArray 47 (0, 0) HS2.out
        generalize World.setRow w3 (q + 1) inoZ.toArray = w9 at hfin hres ⊢
        have HFIN := Aside0.mk hfin
        have HRS := Aside0.mk hres
        clear hfin hres
        go_wp2
        refine bodyPost_ret (results_ino rfl _ _ (q + 1) inoZ.toArray (61) rfl rfl HRS.out infZ) rfl ?_
        have hr : (rs, rc, re) = (s, inoZ, (61)) := by
         rw [← HRES.out]
         unfold xsetI
         rw [HCS.out.2.2, HK.out.1, HVL.out]
         rw [if_neg (by simp), if_neg HV64.out, if_neg HNE.out, if_neg (by simp), if_pos ⟨rfl, rfl⟩]
        cases hr
        exact HFIN.out
       focus
        have HCL := Aside0.mk (show ∀ W : World, Mod w W D → Calls Tryz.prog 42 #[.slice Av vl cv] W fun e w' => ∃ v, e = .returned v ∧ Own w' W.heap.size 5 .u8 v val ∧ Below W.heap.size W w' from fun W hW => HVL.out ▸ cloneany_calls (HV.out.2.2.2 W hW) HV.out.2.1 (by have := HV64.out; have := HVL.out; omega))
        go_upto_region 13 with fail
        go_wp2_with fail
        refine (HCL.out w3 HST.out.2.2.2).mono ?_
        rintro e w4 ⟨v4, rfl, ho4, hb4⟩
        have HO4 := Aside0.mk (And.intro ho4 hb4)
        obtain ⟨A4, c4, rfl, hc4, hC4⟩ := ho4.reads
        rw [HVL.out] at HO4 hc4 hC4 ⊢
        have HC4 := Aside0.mk hC4
        clear ho4 hb4 hC4
        dsimp only
        have hb5 := below_alloc (Below.refl w4.heap.size w4) (.cells #[.string nm, .slice A4 vl c4] 72)
        have hil : i < l.length := seekI_lt HK.out.1
        go_upto_region 15 with fail
        have ho5 : OwnA (w4.alloc (.cells #[.string nm, .slice A4 vl c4] 72)) b2 (.slice A2 ln c2) l := by have := ((HM2.out.1.below HB3.out).below HO4.out.2).below hb5; rw [HK.out.2] at this; exact this
        have hv5 : Own (w4.alloc (.cells #[.string nm, .slice A4 vl c4] 72)) b2 5 .u8 (.slice A4 vl c4) (⟨nm, val⟩ : Att).val := (own_low HO4.out.1 (Nat.le_trans HBS.out HB3.out.size)).below hb5
        have hvb5 := alloc_last w4 (.cells #[.string nm, .slice A4 vl c4] 72)
        have hm35 : Mod w3 (w4.alloc (.cells #[.string nm, .slice A4 vl c4] 72)) (fun k => b2 ≤ k) := Mod.of_below (below_then HO4.out.2 HO4.out.2.size hb5) _
        obtain ⟨g, rfl, hq1, hq2, hf1, hf2, ho7, hm7⟩ := ownA_put (x := ⟨nm, val⟩) (i := i) ho5 HK.out.2 hv5 HV.out.2.2.1 hil
        have hgb : b2 ≤ g := ownA_ge ho5 g rfl
        generalize (w4.alloc (.cells #[.string nm, .slice A4 vl c4] 72)) = w5 at hvb5 hm35 hq1 hq2 hf1 hf2 ho7 hm7 ⊢
        obtain ⟨z1, hq1⟩ := hq1
        obtain ⟨z2, hq2, hq3⟩ := hq2
        obtain ⟨hf2, hf3⟩ := hf2
        have hiln : i < ln := by have := HK.out.2; omega
        have hln0 := hil
        have HO57 := Aside0.mk (And.intro ho7 hm7)
        have hv5a : w5.cell? ⟨w4.heap.size, 0, none⟩ = some (.string nm) := by simp [World.cell?, hvb5]
        have hv5b : w5.cell? ⟨w4.heap.size, 1, none⟩ = some (.slice A4 vl c4) := by simp [World.cell?, hvb5]
        clear ho5 hv5 hvb5 hb5 ho7 hm7
        go_upto_region 17 with fail
        have ho7 := HO57.out.1
        have hm7 := HO57.out.2
        generalize (w5.setCell ⟨g, i * 2, none⟩ (.string nm)).setCell ⟨g, i * 2 + 1, none⟩ (.slice A4 vl c4) = w7 at ho7 hm7 ⊢
        clear hq1 hq2 hq3 hf1 hf2 hf3 hv5a hv5b HO57
        have hm37 : Mod w3 w7 (fun k => b2 ≤ k) := Mod.trans hm35 (hm7.mono (fun k _ e => by have : g = k := e; show b2 ≤ k; omega)) (fun _ _ h => h)
        have hq2 : q + 1 < b2 := by have := HQ1.out; have := HM2.out.2.2.1; omega
        have hs1 := HS1.out.mod hm37 (fun e => by have : b2 ≤ q := e; omega)
        have hs2 := HS2.out.mod hm37 (fun e => by have : b2 ≤ q + 1 := e; omega)
        have hst7 : StIs w7 D2 s0 s ∧ (∀ k, D2 k → D k ∨ w.heap.size ≤ k) ∧ ¬ D2 (q + 1) ∧ Mod w w7 D := ⟨HST.out.1.mod hm37 (fun k hk e => by have : b2 ≤ k := e; have := HM2.out.2.1 k hk; omega), HST.out.2.1, HST.out.2.2.1, Mod.trans HST.out.2.2.2 hm37 (fun k hk e => by have : b2 ≤ k := e; have := HM2.out.2.2.1; have := HB0.out.size; omega)⟩
        obtain ⟨l2, hl2⟩ : ∃ l2, l.set i (⟨nm, val⟩ : Att) = l2 := ⟨_, rfl⟩
        rw [hl2] at ho7
        have hlnl : l2.length = ln := by rw [← hl2, List.length_set]; exact HK.out.2
        have hln2 : l2.length ≤ 256 := by have := HLL.out; have := HK.out.2; omega
        have HL2 := Aside0.mk (show xsetL l (i, true) ⟨nm, val⟩ = l2 from hl2)
        have HINS := Aside0.mk trivial
        generalize Value.slice (some ⟨g, 0, none⟩) ln c2 = v7 at ho7 ⊢
        clear hl2 hm7 hil hln0 hiln hlnl hgb hm35
      all_goals
       obtain ⟨A7, c7, rfl, hc7, hE7⟩ := ho7.reads (by omega)
       have hall7 : ∀ y ∈ l2, allB y.val := fun y hy => by
        obtain ⟨vs, _, _, h3⟩ := ho7
        obtain ⟨j, hj, rfl⟩ := List.getElem_of_mem hy
        have := (h3 j hj).2
        simpa [attAt, List.getD_eq_getElem?_getD, hj] using this
       have HPK := Aside0.mk (xpack_calls A7 c7 0 l2 w7 hE7 hc7 (by omega) (by omega) (by omega))
       have HW7 := Aside0.mk (And.intro hst7 (And.intro hs1 (And.intro hs2 (And.intro hE7 (And.intro hc7 (And.intro hln2 hall7))))))
       obtain ⟨pc, hpc⟩ : ∃ pc, xpackI l2 0 = pc := ⟨_, rfl⟩
       rw [hpc] at HPK
       have HPC := Aside0.mk hpc
       have HO7 := Aside0.mk ho7
       obtain ⟨p1, p2⟩ := pc
       obtain ⟨ln2, hln2⟩ : ∃ ln2, l2.length = ln2 := ⟨_, rfl⟩
       rw [hln2] at HPK ⊢
       have HLN2 := Aside0.mk hln2
       clear hm37 hq2 hs1 hs2 hst7 ho7 hc7 hE7 hall7 hpc hln2 HS1 HS2 HST HINS HCL HO4 HC4
       go_wp2_with fail
       refine HPK.out.mono ?_
       rintro e w8 ⟨v8, rfl, hb8, _⟩
       dsimp only
       have hs1 := HW7.out.2.1.below hb8
       have HS1 := Aside0.mk hs1
       have HS2 := Aside0.mk (HW7.out.2.2.1.below hb8)
       have HST := Aside0.mk (show StIs w8 D2 s0 s ∧ (∀ k, D2 k → D k ∨ w.heap.size ≤ k) ∧ ¬ D2 (q + 1) ∧ Mod w w8 D from ⟨HW7.out.1.1.below hb8, HW7.out.1.2.1, HW7.out.1.2.2.1, HW7.out.1.2.2.2.below hb8⟩)
       have HE8 := Aside0.mk (HW7.out.2.2.2.1.below hb8)
       have HO8 := Aside0.mk (HO7.out.below hb8)
       clear hs1 hb8
       by_cases hp20 : p2 ≠ 0
       ·go_upto_region 19 with fail
        refine wp_region_lit ?_
        refine wpList_buildZ rfl rfl ?_
        refine wpList_plain rfl fun K hK => ?_
        unfold Oper.wp execOp
        go_simp
        refine hK _ _ ?_
        clear hK K
        refine wpList_store_row rfl 47 _ _ rfl (q + 1) inoZ.toArray rfl rfl 47 _ HS2.out infZ rfl inoZ_one ?_
        have hfin := ino_fin inoZ p2 (q := q + 1) (by have := HQ.out; omega) HST.out.1 HST.out.2.1 HST.out.2.2.1 HST.out.2.2.2
        have hres := setRow_heap w8 (q + 1) _ inoZ.toArray 47 (0, 0) HS2.out
        generalize World.setRow w8 (q + 1) inoZ.toArray = w9 at hfin hres ⊢
        have HFIN := Aside0.mk hfin
        have HRS := Aside0.mk hres
        clear hfin hres
        go_wp2
        refine bodyPost_ret (results_ino rfl _ _ (q + 1) inoZ.toArray p2 rfl rfl HRS.out infZ) rfl ?_
        have hr : (rs, rc, re) = (s, inoZ, p2) := by
         rw [← HRES.out]
         unfold xsetI
         rw [HCS.out.2.2, HVL.out]
         dsimp only
         rw [HK.out.1, HL2.out, HPC.out, if_neg (by simp), if_neg HV64.out, if_neg HNE.out, if_neg (by simp), if_neg (by simp), if_pos hp20]
        cases hr
        exact HFIN.out
       ·obtain rfl : p2 = 0 := by simpa using hp20
        clear hp20
        have c12 := HS1.out.cell 12 (.int .i64 r.xattr) (by rw [← HCS.out.1]; rfl)
        go_upto_region 20 with fail
        by_cases hx0 : r.xattr = 0
        ·rw [hx0] at c12
         have HX0 := Aside0.mk hx0
         have h2w : 2 < w.heap.size := HT.out.2.2
         have hblk := blocks_calls goal 1 w8 HST.out.1 (HT.out.1.mod HST.out.2.2.2 HT.out.2.1) (fun hd => (HST.out.2.1 _ hd).elim HT.out.2.1 (fun h => by omega)) hh HG.out.1 HG.out.2 (by omega) (by omega)
         obtain ⟨bi, hbi⟩ : ∃ bi, blocksI s goal 1 = bi := ⟨_, rfl⟩
         rw [hbi] at hblk
         have HBI := Aside0.mk hbi
         have HBLK := Aside0.mk hblk
         obtain ⟨bs, bn, bw, be⟩ := bi
         clear hblk hbi h2w hx0
         go_upto_region 21 with fail
         go_wp2_with fail
         refine HBLK.out.mono ?_
         rintro e w9 ⟨D9, rfl, h9, hD9, hm9⟩
         dsimp only
         have hs1 := HS1.out.mod hm9 (fun hd => (HM2.out.2.2.2.2.1 _ hd).elim (fun hd => by have := HH.out.sub _ hd; have := HQ.out; omega) (fun h => by have := HQ1.out; omega))
         have hs2' := HS2.out.mod hm9 HST.out.2.2.1
         have hq9 := HS2.out.lt
         have hm19 : Mod w w9 D := Mod.trans HST.out.2.2.2 hm9 (fun k hk hd => (HST.out.2.1 k hd).elim id (fun h => by omega))
         have hg9 : ∀ k, D9 k → D k ∨ w.heap.size ≤ k := fun k hk => (hD9 k hk).elim (HST.out.2.1 k) (fun h => .inr (by have := HST.out.2.2.2.size; omega))
         have hn9 : ¬ D9 (q + 1) := fun hd => (hD9 _ hd).elim HST.out.2.2.1 (fun h => by omega)
         have H9 := Aside0.mk (And.intro h9 (And.intro hg9 (And.intro hn9 (And.intro hm19 hs2'))))
         have HS9 := Aside0.mk hs1
         have HNQ9 := Aside0.mk (show ¬ D9 q from fun hd => (hD9 _ hd).elim (fun hd => (HM2.out.2.2.2.2.1 _ hd).elim (fun hd => by have := HH.out.sub _ hd; have := HQ.out; omega) (fun h => by have := HQ1.out; omega)) (fun h => by have := HS1.out.lt; omega))
         have HO9 := Aside0.mk (HO8.out.mod hm9 (fun k hk _ hd => by have := HM2.out.2.1 k hd; omega))
         clear h9 hD9 hm9 hs2' hq9 hm19 hg9 hn9 hs1
         by_cases hbe : be ≠ 0
         ·go_upto_region 23 with fail
          refine wp_region_lit ?_
          refine wpList_buildZ rfl rfl ?_
          refine wpList_plain rfl fun K hK => ?_
          unfold Oper.wp execOp
          go_simp
          refine hK _ _ ?_
          clear hK K
          refine wpList_store_row rfl 47 _ _ rfl (q + 1) inoZ.toArray rfl rfl 47 _ H9.out.2.2.2.2 infZ rfl inoZ_one ?_
          have hfin := ino_fin inoZ be (q := q + 1) (by have := HQ.out; omega) H9.out.1 H9.out.2.1 H9.out.2.2.1 H9.out.2.2.2.1
          have hres := setRow_heap w9 (q + 1) _ inoZ.toArray 47 (0, 0) H9.out.2.2.2.2
          generalize World.setRow w9 (q + 1) inoZ.toArray = w10 at hfin hres ⊢
          have HFIN := Aside0.mk hfin
          have HRS := Aside0.mk hres
          clear hfin hres
          go_wp2
          refine bodyPost_ret (results_ino rfl _ _ (q + 1) inoZ.toArray be rfl rfl HRS.out infZ) rfl ?_
          have hr : (rs, rc, re) = (bs, inoZ, be) := by
           rw [← HRES.out]
           unfold xsetI
           rw [HCS.out.2.2, HVL.out]
           dsimp only
           rw [HK.out.1, HL2.out, HPC.out, if_neg (by simp), if_neg HV64.out, if_neg HNE.out, if_neg (by simp), if_neg (by simp), if_neg (by simp), if_neg (fun h => h HX0.out), HBI.out, if_pos hbe]
          cases hr
          exact HFIN.out
         ·obtain rfl : be = 0 := by simpa using hbe
          clear hbe
          have c12 := HS9.out.cell 12 (.int .i64 r.xattr) (by rw [← HCS.out.1]; rfl)
          have c6 := HS9.out.cell 6 (.int .i64 r.blocks) (by rw [← HCS.out.1]; rfl)
          have f12 := HS9.out.free 12
          have f6 := HS9.out.free 6
          go_upto_region 25 with fail
          have hs10 := HS9.out.set 12 (.int .i64 bn)
          have hm10 : Mod w9 (w9.setCell ⟨q, 12, none⟩ (.int .i64 bn)) (· = q) := (Mod.refl w9 _).set_own 12 _
          generalize w9.setCell ⟨q, 12, none⟩ (.int .i64 bn) = w10 at hs10 hm10 ⊢
          obtain ⟨hbl0, hbl1⟩ := inoI_blocks (xlistI_ino HCS.out.2.2)
          have c6' := hs10.cell 6 (.int .i64 r.blocks) (by rw [← HCS.out.1]; rfl)
          have f6' := hs10.free 6
          have HS10 := Aside0.mk (And.intro hs10 hm10)
          clear c12 c6 f12 f6 hs10 hm10
          go_upto_region 26 with fail
          have hs11 := HS10.out.1.set 6 (.int .i64 (r.blocks + 1))
          have hm11 : Mod w9 (w10.setCell ⟨q, 6, none⟩ (.int .i64 (r.blocks + 1))) (· = q) := HS10.out.2.set_own 6 _
          generalize w10.setCell ⟨q, 6, none⟩ (.int .i64 (r.blocks + 1)) = w11 at hs11 hm11 ⊢
          obtain ⟨cs2, hcs2⟩ : ∃ cs2, ({ r with xattr := bn, blocks := r.blocks + 1 } : Ino).cells (.slice A n c) = cs2 := ⟨_, rfl⟩
          have hcs3 : (cs.set 12 (.int .i64 bn)).set 6 (.int .i64 (r.blocks + 1)) = cs2 := by rw [← hcs2, ← HCS.out.1]; rfl
          rw [hcs3] at hs11
          obtain ⟨x, rfl, hx1, hx2, hx3⟩ := blocksI_ok HBI.out hh
          have hnq := HNQ9.out
          have hs112 : Strc w11 (q + 1) 47 inoZ := H9.out.2.2.2.2.mod hm11 (by omega)
          have h11 : StIs w11 D9 s0 bs := H9.out.1.mod hm11 (fun k hk e => hnq (by have : k = q := e; rw [← this]; exact hk))
          have hm111 : Mod w w11 D := H9.out.2.2.2.1.trans hm11 (fun k hk e => by have : k = q := e; have := HQ.out; omega)
          have ho11 := HO9.out.mod hm11 (fun k hk _ e => by have : k = q := e; have := HQ1.out; have := HM2.out.2.2.1; omega)
          have hE11 : Atts w11 A7 l2 := by
           obtain ⟨A', c', e, _, hE⟩ := ho11.reads (by have := HW7.out.2.2.2.2.2.1; omega)
           cases e
           exact hE
          have hlay := lay_calls cs2 x A7 c7 l2 w11 h11 (by rw [← hcs2]; rfl) (by rw [← hcs2]; exact Ino_one _ A n c) (by rw [← hcs2]; rfl) hx1 hx2 hE11 HW7.out.2.2.2.2.1 (by have := HW7.out.2.2.2.2.2.1; omega) (xpackI_code (by rw [HPC.out])) HW7.out.2.2.2.2.2.2 hx3
          rw [HLN2.out] at hlay
          have HLAY := Aside0.mk hlay
          have H11 := Aside0.mk (And.intro h11 (And.intro hm111 (And.intro hs112 (And.intro hnq (And.intro hs11 (And.intro hcs2 hm11.size))))))
          have hinf2 := infIno (cs := cs2) (by rw [← hcs2]; rfl)
          clear hlay h11 hm111 hs112 hE11 hcs3 hm11 hs11 hcs2 hnq
          refine wp_region_lit ?_
          refine wpList_plain rfl fun K hK => ?_
          unfold Oper.wp execOp
          go_simp
          refine hK _ _ ?_
          clear hK K
          refine wpList_load_row rfl 47 _ rfl q rfl 47 cs2.toArray (0, 0) _ H11.out.2.2.2.2.1 Tryz.underlying47 rfl hinf2 ?_
          refine wpList_plain rfl fun K hK => ?_
          unfold Oper.wp execOp
          go_simp
          refine hK _ _ ?_
          clear hK K
          refine wpList_plain rfl fun K hK => ?_
          unfold Oper.wp execOp
          go_simp
          refine HLAY.out.mono ?_
          rintro e w12 ⟨D12, rfl, h12, hD12, hm12⟩
          have hs2' := H11.out.2.2.1.mod hm12 H9.out.2.2.1
          have hq9 := H11.out.2.2.1.lt
          have hm19 : Mod w w12 D := Mod.trans H11.out.2.1 hm12 (fun k hk hd => (H9.out.2.1 k hd).elim id (fun h => by omega))
          have hg9 : ∀ k, D12 k → D k ∨ w.heap.size ≤ k := fun k hk => (hD12 k hk).elim (H9.out.2.1 k) (fun h => .inr (by have := H11.out.2.1.size; omega))
          have hn9 : ¬ D12 (q + 1) := fun hd => (hD12 _ hd).elim H9.out.2.2.1 (fun h => by omega)
          have H12 := Aside0.mk (And.intro h12 (And.intro hg9 (And.intro hn9 (And.intro hm19 hs2'))))
          clear h12 hD12 hm12 hs2' hq9 hm19 hg9 hn9
          dsimp only
          refine hK _ _ ?_
          clear hK K
          refine wpList_plain rfl fun K hK => ?_
          unfold Oper.wp execOp
          go_simp
          refine hK _ _ ?_
          clear hK K
          refine wpList_plain rfl fun K hK => ?_
          unfold Oper.wp execOp
          go_simp
          refine hK _ _ ?_
          clear hK K
          refine wpList_store_row rfl 47 _ _ rfl (q + 1) cs2.toArray rfl rfl 47 _ H12.out.2.2.2.2 hinf2 (by rw [List.size_toArray, List.size_toArray, ← H11.out.2.2.2.2.2.1]; rfl) (by have := Ino_one { r with xattr := (x : Int), blocks := r.blocks + 1 } A n c; rw [H11.out.2.2.2.2.2.1] at this; simpa using this) ?_
          have hfin := ino_fin cs2 0 (q := q + 1) (by have := HQ.out; omega) H12.out.1 H12.out.2.1 H12.out.2.2.1 H12.out.2.2.2.1
          have hres := setRow_heap w12 (q + 1) _ cs2.toArray 47 (0, 0) H12.out.2.2.2.2
          generalize World.setRow w12 (q + 1) cs2.toArray = w13 at hfin hres ⊢
          have HFIN := Aside0.mk hfin
          have HRS := Aside0.mk hres
          clear hfin hres
          go_wp2
          refine bodyPost_ret (results_ino rfl _ _ (q + 1) cs2.toArray 0 rfl rfl HRS.out hinf2) rfl ?_
          have hr : (rs, rc, re) = (bs.write x (xpackI l2 x).1, cs2, 0) := by
           rw [← HRES.out]
           unfold xsetI
           rw [HCS.out.2.2, HVL.out]
           dsimp only
           rw [HK.out.1, HL2.out, HPC.out, if_neg (by simp), if_neg HV64.out, if_neg HNE.out, if_neg (by simp), if_neg (by simp), if_neg (by simp), if_neg (fun h => h HX0.out), HBI.out, if_neg (by simp), H11.out.2.2.2.2.2.1, Int.toNat_natCast]
          cases hr
          exact HFIN.out
        ·obtain ⟨hx1, hx2, hx3⟩ := xlistI_in HCS.out.2.2 hx0
         obtain ⟨x, hxx⟩ : ∃ x : Nat, r.xattr = x := ⟨r.xattr.toNat, by omega⟩
         have hxn : x < s.now.length := by rw [hxx] at hx3; simpa using hx3
         have hxne : ¬ ((x : Int) = 0) := by omega
         rw [hxx] at c12
         have hlay := lay_calls cs x A7 c7 l2 w8 HST.out.1 HCS.out.2.1 (by rw [← HCS.out.1]; exact Ino_one r A n c) (by rw [← HCS.out.1, ← hxx]; rfl) hxn (by omega) HE8.out HW7.out.2.2.2.2.1 (by have := HW7.out.2.2.2.2.2.1; omega) (xpackI_code (by rw [HPC.out])) HW7.out.2.2.2.2.2.2 (by omega)
         rw [HLN2.out] at hlay
         have HLAY := Aside0.mk hlay
         have HX := Aside0.mk (And.intro hxx hx0)
         clear hlay hxn hx1 hx2 hx3 hxx
         go_upto_region 26 with fail
         refine wp_region_lit ?_
         refine wpList_plain rfl fun K hK => ?_
         unfold Oper.wp execOp
         go_simp
         refine hK _ _ ?_
         clear hK K
         refine wpList_load_row rfl 47 _ rfl q rfl 47 cs.toArray (0, 0) _ HS1.out Tryz.underlying47 rfl hinf ?_
         refine wpList_plain rfl fun K hK => ?_
         unfold Oper.wp execOp
         go_simp
         refine hK _ _ ?_
         clear hK K
         refine wpList_plain rfl fun K hK => ?_
         unfold Oper.wp execOp
         go_simp
         refine HLAY.out.mono ?_
         rintro e w9 ⟨D9, rfl, h9, hD9, hm9⟩
         have hs2' := HS2.out.mod hm9 HST.out.2.2.1
         have hq9 := HS2.out.lt
         have hm19 : Mod w w9 D := Mod.trans HST.out.2.2.2 hm9 (fun k hk hd => (HST.out.2.1 k hd).elim id (fun h => by omega))
         have hg9 : ∀ k, D9 k → D k ∨ w.heap.size ≤ k := fun k hk => (hD9 k hk).elim (HST.out.2.1 k) (fun h => .inr (by have := HST.out.2.2.2.size; omega))
         have hn9 : ¬ D9 (q + 1) := fun hd => (hD9 _ hd).elim HST.out.2.2.1 (fun h => by omega)
         have H9 := Aside0.mk (And.intro h9 (And.intro hg9 (And.intro hn9 (And.intro hm19 hs2'))))
         clear h9 hD9 hm9 hs2' hq9 hm19 hg9 hn9
         dsimp only
         refine hK _ _ ?_
         clear hK K
         refine wpList_plain rfl fun K hK => ?_
         unfold Oper.wp execOp
         go_simp
         refine hK _ _ ?_
         clear hK K
         refine wpList_plain rfl fun K hK => ?_
         unfold Oper.wp execOp
         go_simp
         refine hK _ _ ?_
         clear hK K
         refine wpList_store_row rfl 47 _ _ rfl (q + 1) cs.toArray rfl rfl 47 _ H9.out.2.2.2.2 hinf (by rw [List.size_toArray, List.size_toArray, HCS.out.2.1]; rfl) (by have := Ino_one r A n c; rw [HCS.out.1] at this; simpa using this) ?_
         have hfin := ino_fin cs 0 (q := q + 1) (by have := HQ.out; omega) H9.out.1 H9.out.2.1 H9.out.2.2.1 H9.out.2.2.2.1
         have hres := setRow_heap w9 (q + 1) _ cs.toArray 47 (0, 0) H9.out.2.2.2.2
         generalize World.setRow w9 (q + 1) cs.toArray = w10 at hfin hres ⊢
         have HFIN := Aside0.mk hfin
         have HRS := Aside0.mk hres
         clear hfin hres
         go_wp2
         refine bodyPost_ret (results_ino rfl _ _ (q + 1) cs.toArray 0 rfl rfl HRS.out hinf) rfl ?_
         have hr : (rs, rc, re) = (s.write x (xpackI l2 x).1, cs, 0) := by
          rw [← HRES.out]
          unfold xsetI
          rw [HCS.out.2.2, HVL.out]
          dsimp only
          rw [HK.out.1, HL2.out, HPC.out, if_neg (by simp), if_neg HV64.out, if_neg HNE.out, if_neg (by simp), if_neg (by simp), if_neg (by simp), if_pos HX.out.2, HX.out.1, HCS.out.1, Int.toNat_natCast]
         cases hr
         exact HFIN.out
 ·have hne0 : ¬ (e0 = 0) := he0
  go_upto_region 4 with fail
  refine wp_region_lit ?_
  refine wpList_buildZ rfl rfl ?_
  refine wpList_plain rfl fun K hK => ?_
  unfold Oper.wp execOp
  go_simp
  refine hK _ _ ?_
  clear hK K
  refine wpList_store_row rfl 47 _ _ rfl (q + 1) inoZ.toArray rfl rfl 47 _ HS2.out infZ rfl inoZ_one ?_
  have hfin := ino_fin inoZ e0 (q := q + 1) (by have := HQ.out; omega) HST.out.1 HST.out.2.1 HST.out.2.2.1 HST.out.2.2.2
  have hres := setRow_heap w3 (q + 1) _ inoZ.toArray 47 (0, 0) HS2.out
  generalize World.setRow w3 (q + 1) inoZ.toArray = w9 at hfin hres ⊢
  have HFIN := Aside0.mk hfin
  have HRS := Aside0.mk hres
  clear hfin hres
  go_wp2
  refine bodyPost_ret (results_ino rfl _ _ (q + 1) inoZ.toArray e0 rfl rfl HRS.out infZ) rfl ?_
  have hr : (rs, rc, re) = (s, inoZ, e0) := by
   rw [← HRES.out]
   unfold xsetI
   rw [HCS.out.2.2]
   exact if_pos he0
  cases hr
  exact HFIN.out
theorem xset_calls {D : Nat → Prop} {s0 : Nat} {s : St} (r : Ino) (A : Option Addr) (n c : Nat) (nm : ByteArray) (Av : Option Addr) (cv : Nat) (val : List Int) (how goal : Int) (w : World) (h : StIs w D s0 s) (hsb : ∀ b ∈ s.now, allB b)
  (hv : Kd.C (Kd.int .u8) w Av val.length val) (hvn : Av = none → cv = 0) (hvb : allB val) (hvD : ∀ ad, Av = some ad → ¬ D ad.block) (hh : s.hist.length ≤ 900000) (hT : Tab w) (hTD : ¬ D 2) (hg0 : -9223372036854775808 ≤ goal) (hg1 : goal < 9223372036854775808) :
  Calls Tryz.prog 18 #[.pointer (some ⟨s0, 0, none⟩), .agg (r.cells (.slice A n c)).toArray, .string nm, .slice Av val.length cv, .int .i64 how, .int .i64 goal] w (InoPost D s0 (xsetI s r n (.slice A n c) nm val how goal).1 (xsetI s r n (.slice A n c) nm val how goal).2.1 (xsetI s r n (.slice A n c) nm val how goal).2.2 w) :=
 xsetm_calls r A n c nm Av cv val how goal w h hsb hv hvn hvb (fun W hW => C_int_mod hv hW hvD) hh hT hTD hg0 hg1
def BothPost (w : World) (e : Ending) (w' : World) : Prop := ∃ s0 q D, e = .returned (.tuple #[.pointer (some ⟨s0, 0, none⟩), .pointer (some ⟨q, 0, none⟩)]) ∧ StIs w' D s0 exS ∧ (∀ k, D k → w.heap.size ≤ k) ∧ Below w.heap.size w w'
theorem exDisk : List.replicate 300 zeros = exL := rfl
set_option maxHeartbeats 4000000 in
set_option maxRecDepth 100000 in
theorem both_calls (w : World) : Calls Tryz.prog 17 #[] w (BothPost w) := by
 go_enter Tryz.func17, Tryz.ntmps17
 go_upto_region 2 with fail
 have hq1 : Strc (w.alloc (.cells #[.int .i64 300, .int .i64 200, .int .i64 16, .int .i64 96] 80)) w.heap.size 80 [.int .i64 300, .int .i64 200, .int .i64 16, .int .i64 96] := alloc_last w _
 have hb0 := below_alloc (Below.refl w.heap.size w) (.cells #[.int .i64 300, .int .i64 200, .int .i64 16, .int .i64 96] 80)
 generalize w.alloc (.cells #[.int .i64 300, .int .i64 200, .int .i64 16, .int .i64 96] 80) = w0 at hq1 hb0 ⊢
 have HB0 := Aside0.mk hb0
 have HQ1 := Aside0.mk hq1
 have hq0l := hq1.lt
 obtain ⟨q0, hq0⟩ : ∃ q0, w.heap.size = q0 := ⟨_, rfl⟩
 have HQ0 := Aside0.mk hq0
 rw [hq0] at HQ1 hq0l ⊢
 clear hq1 hb0 hq0
 have hdn := dnew_calls 300 w0 (by omega) (by omega)
 rw [show ((300 : Nat) : Int) = 300 from rfl, exDisk] at hdn
 have HDN := Aside0.mk hdn
 clear hdn
 go_wp2_with fail
 with_reducible refine HDN.out.mono ?_
 rintro e w1 ⟨p1, rfl, hd1, hb1⟩
 have hcs := HQ1.out.below hb1
 have HQ2 := Aside0.mk hcs
 have d0 := hcs.cell 0 _ rfl
 have d1 := hcs.cell 1 _ rfl
 have d2 := hcs.cell 2 _ rfl
 have d3 := hcs.cell 3 _ rfl
 have HB1 := Aside0.mk hb1
 have HMK := Aside0.mk (show Calls Tryz.prog 46 #[.pointer (some ⟨p1, 0, none⟩), .agg #[.int .i64 300, .int .i64 200, .int .i64 16, .int .i64 96]] w1 _ from make_calls exG w1 hd1 (fun k h => h.2) rfl exMkOk (by omega))
 clear hcs hd1 hb1
 dsimp only
 go_wp2_with fail
 with_reducible refine HMK.out.mono ?_
 rintro e w2 ⟨rfl, D2, hd2, hD2, hm2⟩
 have hm02 : Below w0.heap.size w0 w2 := (HB1.out.trans ⟨hm2.os, hm2.tape, hm2.output, hm2.size, fun k hk => hm2.block k (Nat.lt_of_lt_of_le hk HB1.out.size) (fun h => by omega)⟩)
 have HQ3 := Aside0.mk (HQ1.out.below hm02)
 have HB2 := Aside0.mk hm02
 have HSN := Aside0.mk (snew_calls 4 64 w2 hd2 (fun k h => (hD2 k h).2) (by omega) (by omega) (by omega) (by omega))
 have HD2 := Aside0.mk (show ∀ k, D2 k → w0.heap.size ≤ k from fun k h => (hD2 k h).1.elim (fun h => h.1) (fun h => Nat.le_trans HB1.out.size h))
 clear hd2 hD2 hm2 hm02 d0 d1 d2 d3
 dsimp only
 rw [show ((4 : Nat) : Int) = 4 from rfl, show ((64 : Nat) : Int) = 64 from rfl] at HSN
 go_wp2_with fail
 with_reducible refine HSN.out.mono ?_
 rintro e w3 ⟨s0, rfl, hst3, hb3⟩
 have HB3 := Aside0.mk (below_then HB2.out HB2.out.size hb3)
 have HST3 := Aside0.mk hst3
 have HQ4 := Aside0.mk (HQ3.out.below hb3)
 have HDS := Aside0.mk (show ∀ k, (D2 k ∨ (w2.heap.size ≤ k ∧ k < w3.heap.size)) → w0.heap.size ≤ k from fun k h => h.elim (HD2.out k) (fun h => Nat.le_trans HB2.out.size h.1))
 obtain ⟨DS, hDS⟩ : ∃ DS, (fun k => D2 k ∨ (w2.heap.size ≤ k ∧ k < w3.heap.size)) = DS := ⟨_, rfl⟩
 have HDS2 := Aside0.mk (show ∀ k, DS k → w0.heap.size ≤ k by rw [← hDS]; exact HDS.out)
 rw [hDS] at HST3
 clear hst3 hb3 hDS HDS
 dsimp only
 go_wp2_with fail
 with_reducible refine (rnew2_calls w3).mono ?_
 rintro e w4 ⟨p4, rfl, hd4, hb4⟩
 have HB4 := Aside0.mk (below_then HB3.out HB3.out.size hb4)
 have HST4 := Aside0.mk (HST3.out.below hb4)
 have HSB := Aside0.mk HST3.out.sub
 have hcs := HQ4.out.below hb4
 have d0 := hcs.cell 0 _ rfl
 have d1 := hcs.cell 1 _ rfl
 have d2 := hcs.cell 2 _ rfl
 have d3 := hcs.cell 3 _ rfl
 have HMK2 := Aside0.mk (show Calls Tryz.prog 49 #[.pointer (some ⟨p4, 0, none⟩), .agg #[.int .i64 300, .int .i64 200, .int .i64 16, .int .i64 96]] w4 _ from rmake_calls exG w4 hd4 (by omega) exGeo.1 rfl)
 clear hcs hd4 hb4
 dsimp only
 go_wp2_with fail
 with_reducible refine HMK2.out.mono ?_
 rintro e w5 ⟨D5, x5, m5, rfl, hd5, hD5, hm5⟩
 have HST5 := Aside0.mk (HST4.out.mod hm5 (fun k hk h => by have := HSB.out k hk; omega))
 have HB5 := Aside0.mk (show Below w0.heap.size w0 w5 from HB4.out.trans ⟨hm5.os, hm5.tape, hm5.output, hm5.size, fun k hk => hm5.block k (Nat.lt_of_lt_of_le hk HB4.out.size) (fun h => by have := HB3.out.size; omega)⟩)
 have HN6 := Aside0.mk (rnew6_calls w5 hd5 (by omega) (by omega))
 clear hd5 hD5 hm5 d0 d1 d2 d3
 dsimp only
 go_wp2_with fail
 with_reducible refine HN6.out.mono ?_
 rintro e w6 ⟨q6, rfl, hb6⟩
 have HST6 := Aside0.mk (HST5.out.below hb6)
 have HB6 := Aside0.mk (below_then HB5.out HB5.out.size hb6)
 clear hb6
 dsimp only
 go_wp2
 go_ret2
 exact ⟨s0, q6, DS, rfl, HST6.out, fun k hk => Nat.le_trans HB0.out.size (HDS2.out k hk), below_then HB0.out HB0.out.size HB6.out⟩
def frC (g : Nat) : List Value := exR.cells (.slice (some ⟨g, 0, none⟩) 48 48)
theorem run_build2 (g : Nat) (w : World) : (Instr.build 47 #[(0, .int .i64 1), (14, .slice (some ⟨g, 0, none⟩) 48 48)]).run Tryz.prog w = .ok (.agg (frC g).toArray) w := by kernel_rfl
set_option maxHeartbeats 4000000 in
set_option maxRecDepth 100000 in
theorem fresh_calls (w : World) : Calls Tryz.prog 19 #[] w fun e w' => ∃ g, e = .returned (.agg (frC g).toArray) ∧ Below w.heap.size w w' := by
 have hmk : ∀ w : World, (Instr.makeSlice 23 (.int .i64 48) (.int .i64 48)).run Tryz.prog w = .ok (.slice (some ⟨w.heap.size, 0, none⟩) 48 48) (w.alloc (.cells (nums .u8 (List.replicate 48 0)).toArray 5)) := fun w => by kernel_rfl
 obtain ⟨z, hz⟩ : ∃ z, (nums .u8 (List.replicate 48 0)).toArray = z := ⟨_, rfl⟩
 rw [hz] at hmk
 clear hz
 go_enter Tryz.func19, Tryz.ntmps19
 go_upto_region 1 with fail
 have hs : Strc (w.alloc (.cells inoZ.toArray 47)) w.heap.size 47 inoZ := alloc_last w _
 have hb := below_alloc (Below.refl w.heap.size w) (.cells inoZ.toArray 47)
 change Code.wp _ _ _ _ (w.alloc (.cells inoZ.toArray 47))
 generalize w.alloc (.cells inoZ.toArray 47) = w1 at hs hb ⊢
 obtain ⟨q, hq⟩ : ∃ q, w.heap.size = q := ⟨_, rfl⟩
 have HQ := Aside0.mk hq
 rw [hq] at hs ⊢
 refine wp_region_lit ?_
 refine wpList_plain rfl fun K hK => ?_
 unfold Oper.wp execOp
 go_simp
 refine hK _ _ ?_
 clear hK K
 have hs2 := hs.below (below_alloc (Below.refl w1.heap.size w1) (.cells z 5))
 have hb2 := below_then hb hb.size (below_alloc (Below.refl w1.heap.size w1) (.cells z 5))
 generalize w1.alloc (.cells z 5) = w2 at hs2 hb2 ⊢
 generalize w1.heap.size = g1
 refine wpList_plain rfl fun K hK => ?_
 have hbd := run_build2 g1 w2
 unfold Oper.wp
 simp only [execOp]
 rw [Sem.run_bind]
 simp only [List.map_toArray, List.map_cons, List.map_nil]
 erw [hbd]
 simp only [Result.andThen, Sem.run_pure]
 refine hK _ _ ?_
 clear hK K hbd
 have hinf := infIno (cs := frC g1) rfl
 refine wpList_store_row rfl 47 _ _ rfl q (frC g1).toArray rfl rfl 47 _ hs2 hinf rfl (by have := Ino_one exR (some ⟨g1, 0, none⟩) 48 48; simpa [frC] using this) ?_
 have hres := setRow_heap w2 q _ (frC g1).toArray 47 (0, 0) hs2
 have hm := mod_setRow w2 q (frC g1).toArray
 have hb3 : Below w.heap.size w (World.setRow w2 q (frC g1).toArray) := below_mod hb2 hm (by have := HQ.out; omega)
 generalize World.setRow w2 q (frC g1).toArray = w9 at hres hm hb3 ⊢
 have HRS := Aside0.mk hres
 have HB3 := Aside0.mk hb3
 clear hres hm hb3 hs hs2 hb hb2
 go_wp2
 refine bodyPost_ret (results_cell_row rfl _ w9 q 47 (frC g1).toArray (0, 0) _ rfl HRS.out Tryz.underlying47 rfl hinf) rfl ?_
 exact ⟨g1, rfl, HB3.out⟩
theorem StIs.allb {w : World} {D : Nat → Prop} {s0 : Nat} {s : St} (h : StIs w D s0 s) : ∀ b ∈ s.now, allB b := fun b hb => by
 obtain ⟨j, hj, e⟩ := List.getElem_of_mem hb
 have := (h.blk j hj).2
 rw [List.getD_eq_getElem?_getD, List.getElem?_eq_getElem hj, Option.getD_some, e] at this
 exact this
theorem resC_ok (r : Ino) (A : Option Addr) (n c : Nat) (x : Int) : (resC r (.slice A n c) x).length = 15 ∧ (resC r (.slice A n c) x).toArray.all (·.oneCell') = true := by
 unfold resC
 split
 ·exact ⟨rfl, by have := Ino_one r A n c; simpa using this⟩
 ·exact ⟨rfl, inoZ_one⟩
theorem aset_calls {D : Nat → Prop} {s0 : Nat} {s t : St} {r r' : Ino} {code : Int} (A : Option Addr) (n c : Nat) (nm : ByteArray) (Av : Option Addr) (cv : Nat) (val : List Int) (how goal : Int) (w : World) (heq : xsetR s r n nm val how goal = (t, r', code)) (h : StIs w D s0 s)
  (hv : Kd.C (Kd.int .u8) w Av val.length val) (hvn : Av = none → cv = 0) (hvb : allB val) (hvD : ∀ ad, Av = some ad → ¬ D ad.block) (hh : s.hist.length ≤ 900000) (hT : Tab w) (hTD : ¬ D 2) (hg0 : -9223372036854775808 ≤ goal) (hg1 : goal < 9223372036854775808) :
  Calls Tryz.prog 18 #[.pointer (some ⟨s0, 0, none⟩), .agg (r.cells (.slice A n c)).toArray, .string nm, .slice Av val.length cv, .int .i64 how, .int .i64 goal] w (InoPost D s0 t (resC r' (.slice A n c) code) code w) := by
 have := xset_calls r A n c nm Av cv val how goal w h h.allb hv hvn hvb hvD hh hT hTD hg0 hg1
 rw [xsetI_eq, heq] at this
 exact this
theorem arem_calls {D : Nat → Prop} {s0 : Nat} {s t : St} {r r' : Ino} {code : Int} (A : Option Addr) (n c : Nat) (nm : ByteArray) (w : World) (heq : xremR s r n nm = (t, r', code)) (h : StIs w D s0 s) (hh : s.hist.length ≤ 900000) :
  Calls Tryz.prog 22 #[.pointer (some ⟨s0, 0, none⟩), .agg (r.cells (.slice A n c)).toArray, .string nm] w (InoPost D s0 t (resC r' (.slice A n c) code) code w) := by
 have := xrem_calls r A n c nm w h h.allb hh
 rw [heq] at this
 exact this
def AwI (w0 : World) (s0 : Nat) (s : St) (bx : List (Nat × TypeId × List Value)) (w : World) : Prop := ∃ D, StIs w D s0 s ∧ (∀ k, D k → w0.heap.size ≤ k) ∧ Below w0.heap.size w0 w ∧ ∀ p ∈ bx, Strc w p.1 p.2.1 p.2.2 ∧ ¬ D p.1
theorem AwI.below {w0 w w1 : World} {s0 : Nat} {s : St} {bx : List (Nat × TypeId × List Value)} (h : AwI w0 s0 s bx w) (hb : Below w.heap.size w w1) : AwI w0 s0 s bx w1 := by
 obtain ⟨D, h1, h2, h3, h4⟩ := h
 exact ⟨D, h1.below hb, h2, below_then h3 h3.size hb, fun p hp => ⟨(h4 p hp).1.below hb, (h4 p hp).2⟩⟩
theorem AwI.push {w0 w : World} {s0 : Nat} {s : St} {bx : List (Nat × TypeId × List Value)} (h : AwI w0 s0 s bx w) (t : TypeId) (cs : List Value) : AwI w0 s0 s ((w.heap.size, t, cs) :: bx) (w.alloc (.cells cs.toArray t)) := by
 obtain ⟨D, h1, h2, h3, h4⟩ := h.below (below_alloc (Below.refl _ _) (.cells cs.toArray t))
 obtain ⟨D', h1', _, _, h4'⟩ := h
 refine ⟨D', h1'.below (below_alloc (Below.refl _ _) _), by assumption, h3, fun p hp => ?_⟩
 rcases List.mem_cons.1 hp with rfl | hp
 ·exact ⟨alloc_last w _, fun hd => Nat.lt_irrefl _ (h1'.sub _ hd)⟩
 ·exact ⟨(h4' p hp).1.below (below_alloc (Below.refl _ _) _), (h4' p hp).2⟩
theorem AwI.put {w0 w : World} {s0 q : Nat} {s : St} {bx : List (Nat × TypeId × List Value)} {t : TypeId} {cs : List Value} (cs' : List Value) (h : AwI w0 s0 s ((q, t, cs) :: bx) w) (hq : w0.heap.size ≤ q) (hne : ∀ p ∈ bx, p.1 ≠ q) : AwI w0 s0 s ((q, t, cs') :: bx) (w.setRow q cs'.toArray) := by
 obtain ⟨D, h1, h2, h3, h4⟩ := h
 have hs := h4 (q, t, cs) (List.mem_cons_self ..)
 have hm := mod_setRow w q cs'.toArray
 refine ⟨D, h1.mod hm (fun k hk e => hs.2 (e ▸ hk)), h2, h3.trans ⟨hm.os, hm.tape, hm.output, hm.size, fun k hk => hm.block k (Nat.lt_of_lt_of_le hk h3.size) (by omega)⟩, fun p hp => ?_⟩
 rcases List.mem_cons.1 hp with rfl | hp
 ·exact ⟨setRow_heap w q _ cs'.toArray t (0, 0) hs.1, hs.2⟩
 ·exact ⟨(h4 p (List.mem_cons_of_mem _ hp)).1.mod hm (hne p hp), (h4 p (List.mem_cons_of_mem _ hp)).2⟩
theorem AwI.get {w0 w : World} {s0 : Nat} {s : St} {bx : List (Nat × TypeId × List Value)} (h : AwI w0 s0 s bx w) {p : Nat × TypeId × List Value} (hp : p ∈ bx) : Strc w p.1 p.2.1 p.2.2 := h.elim fun D h => (h.2.2.2 p hp).1
theorem AwI.ge {w0 w : World} {s0 : Nat} {s : St} {bx : List (Nat × TypeId × List Value)} (h : AwI w0 s0 s bx w) : w0.heap.size ≤ w.heap.size := h.elim fun D h => h.2.2.1.size
theorem AwI.post {w0 w w' : World} {s0 : Nat} {t : St} {bx : List (Nat × TypeId × List Value)} {D D' : Nat → Prop} (h2 : ∀ k, D k → w0.heap.size ≤ k) (h3 : Below w0.heap.size w0 w) (h4 : ∀ p ∈ bx, Strc w p.1 p.2.1 p.2.2 ∧ ¬ D p.1) (g1 : StIs w' D' s0 t) (g2 : ∀ k, D' k → D k ∨ w.heap.size ≤ k) (g3 : Mod w w' D) : AwI w0 s0 t bx w' :=
 ⟨D', g1, fun k hk => (g2 k hk).elim (h2 k) (fun h => Nat.le_trans h3.size h), h3.trans ⟨g3.os, g3.tape, g3.output, g3.size, fun k hk => g3.block k (Nat.lt_of_lt_of_le hk h3.size) (fun h => by have := h2 k h; omega)⟩, fun p hp => ⟨(h4 p hp).1.mod g3 (h4 p hp).2, fun hd => (g2 _ hd).elim (h4 p hp).2 (fun h => by have := (h4 p hp).1.lt; omega)⟩⟩
def AwPost (w0 : World) (s0 : Nat) (t : St) (bx : List (Nat × TypeId × List Value)) (cs : List Value) (code : Int) (e : Ending) (w' : World) : Prop := e = .returned (.tuple #[.agg cs.toArray, .int .i64 code]) ∧ AwI w0 s0 t bx w'
theorem strc_reads {w : World} {q : Nat} {val : List Int} (h : Strc w q 5 (nums .u8 val)) (hl : val.length ≤ 1000) : Kd.C (Kd.int .u8) w (some ⟨q, 0, none⟩) val.length val := Row.reads ⟨[], by rw [List.append_nil]; exact h⟩ (by omega)
theorem AwI.set {w0 w : World} {s0 : Nat} {s t : St} {bx : List (Nat × TypeId × List Value)} {r r' : Ino} {code : Int} (h : AwI w0 s0 s bx w) (A : Option Addr) (n c : Nat) (nm : ByteArray) (Av : Option Addr) (cv : Nat) (val : List Int) (how goal : Int) (heq : xsetR s r n nm val how goal = (t, r', code)) (hT : Tab w0) (h2 : 2 < w0.heap.size)
  (hv : (val = [] ∧ Av = none ∧ cv = 0) ∨ ∃ q, Av = some ⟨q, 0, none⟩ ∧ (q, 5, nums .u8 val) ∈ bx) (hvb : allB val) (hl : val.length ≤ 1000) (hh : s.hist.length ≤ 900000) (hg0 : -9223372036854775808 ≤ goal) (hg1 : goal < 9223372036854775808) :
  Calls Tryz.prog 18 #[.pointer (some ⟨s0, 0, none⟩), .agg (r.cells (.slice A n c)).toArray, .string nm, .slice Av val.length cv, .int .i64 how, .int .i64 goal] w (AwPost w0 s0 t bx (resC r' (.slice A n c) code) code) := by
 obtain ⟨D, h1, hD, h3, h4⟩ := h
 have hTw : Tab w := hT.below h3
 have hd2 : ¬ D 2 := fun hd => by have := hD 2 hd; omega
 have key : Kd.C (Kd.int .u8) w Av val.length val ∧ (Av = none → cv = 0) ∧ ∀ ad, Av = some ad → ¬ D ad.block := by
  rcases hv with ⟨rfl, rfl, rfl⟩ | ⟨q, rfl, hq⟩
  ·exact ⟨C_int_nil _ _ _, fun _ => rfl, fun ad h => nomatch h⟩
  ·exact ⟨strc_reads (h4 _ hq).1 hl, (fun h => nomatch h), fun ad h => by cases h; exact (h4 _ hq).2⟩
 refine (aset_calls A n c nm Av cv val how goal w heq h1 key.1 key.2.1 hvb key.2.2 hh hTw hd2 hg0 hg1).mono ?_
 rintro e w' ⟨D', he, g1, g2, g3⟩
 exact ⟨he, AwI.post hD h3 h4 g1 g2 g3⟩
theorem AwI.rem {w0 w : World} {s0 : Nat} {s t : St} {bx : List (Nat × TypeId × List Value)} {r r' : Ino} {code : Int} (h : AwI w0 s0 s bx w) (A : Option Addr) (n c : Nat) (nm : ByteArray) (heq : xremR s r n nm = (t, r', code)) (hh : s.hist.length ≤ 900000) :
  Calls Tryz.prog 22 #[.pointer (some ⟨s0, 0, none⟩), .agg (r.cells (.slice A n c)).toArray, .string nm] w (AwPost w0 s0 t bx (resC r' (.slice A n c) code) code) := by
 obtain ⟨D, h1, hD, h3, h4⟩ := h
 refine (arem_calls A n c nm w heq h1 hh).mono ?_
 rintro e w' ⟨D', he, g1, g2, g3⟩
 exact ⟨he, AwI.post hD h3 h4 g1 g2 g3⟩
def AwList (w0 : World) (s0 : Nat) (s : St) (bx : List (Nat × TypeId × List Value)) (e : Ending) (w' : World) : Prop := ∃ g c h c' cur cur2, e = .returned (.tuple #[.slice (some ⟨g, 0, none⟩) 2 c, .int .i64 0]) ∧ AwI w0 s0 s ((g, 72, cur) :: (h, 5, cur2) :: bx) w' ∧ cur[0]? = some (.string exA) ∧ cur[1]? = some (.slice (some ⟨h, 0, none⟩) 1 c') ∧ cur2[0]? = some (.int .u8 2)
theorem AwI.list {w0 w : World} {s0 : Nat} {s : St} {bx : List (Nat × TypeId × List Value)} {r : Ino} (h : AwI w0 s0 s bx w) (A : Option Addr) (n c : Nat) (heq : xlistI s.now r n = ([exa, exb], 0)) :
  Calls Tryz.prog 26 #[.pointer (some ⟨s0, 0, none⟩), .agg (r.cells (.slice A n c)).toArray] w (AwList w0 s0 s bx) := by
 obtain ⟨D, h1, hD, h3, h4⟩ := h
 have := xlist_calls r A n c w h1
 rw [heq] at this
 refine this.mono ?_
 rintro e w' ⟨D', v, b, he, ⟨vs, hv, hrow, hvals⟩, hDb, hb, g1, g2, g3⟩
 obtain ⟨D2, i1, i2, i3, i4⟩ := AwI.post hD h3 h4 g1 g2 g3
 have h0 := hvals 0 (by simp)
 have hvl : vs.length = 2 := hv
 rcases hrow.2 with ⟨_, h0'⟩ | ⟨g, cp, cur, rfl, hbg, hh, _, _, hsz, htk⟩
 ·simp at h0'
 ·have hv0 : vs.getD 0 undef = vs[0]'(by omega) := by rw [List.getD_eq_getElem?_getD, List.getElem?_eq_getElem (by omega)]; rfl
  obtain ⟨hown, hab⟩ := h0
  have e0 : (attAt [exa, exb] 0).val = [2] := rfl
  rw [e0] at hown
  rcases hown.2 with ⟨_, h1'⟩ | ⟨gv, cv, curv, ev, hbv, hhv, _, _, hszv, htv⟩
  ·simp at h1'
  ·have hc := acells_at [exa, exb] vs 0 (by simp) hv
   have hlt : ∀ j u, (acells [exa, exb] vs)[j]? = some u → cur.toList[j]? = some u := fun j u hj => by
    rw [← htk, List.getElem?_take] at hj
    split at hj
    ·exact hj
    ·cases hj
   refine ⟨g, cp, gv, cv, cur.toList, curv.toList, he, ⟨D', g1, fun k hk => (g2 k hk).elim (hD k) (fun h => Nat.le_trans h3.size h), i3, ?_⟩, hlt 0 _ hc.1, ?_, ?_⟩
   ·intro p hp
    rcases List.mem_cons.1 hp with rfl | hp
    ·exact ⟨by simpa [Strc] using hh, fun hd => by have := hDb g hd; omega⟩
    ·rcases List.mem_cons.1 hp with rfl | hp
     ·exact ⟨by simpa [Strc] using hhv, fun hd => by have := hDb gv hd; omega⟩
     ·exact ⟨(h4 p hp).1.mod g3 (h4 p hp).2, fun hd => (g2 _ hd).elim (h4 p hp).2 (fun h => by have := (h4 p hp).1.lt; omega)⟩
   ·have := hlt 1 _ hc.2
    rw [ev] at this
    exact this
   ·have : curv.toList.take (1 * 1) = [.int .u8 2] := htv
    have h0 : (curv.toList.take (1 * 1))[0]? = some (.int .u8 2) := by rw [this]; rfl
    rw [List.getElem?_take] at h0
    simpa using h0
theorem AwI.sub {w0 w : World} {s0 : Nat} {s : St} {bx bx' : List (Nat × TypeId × List Value)} (h : AwI w0 s0 s bx w) (hs : ∀ p ∈ bx', p ∈ bx) : AwI w0 s0 s bx' w := by
 obtain ⟨D, h1, h2, h3, h4⟩ := h
 exact ⟨D, h1, h2, h3, fun p hp => h4 p (hs p hp)⟩
theorem AwI.lt {w0 w : World} {s0 : Nat} {s : St} {bx : List (Nat × TypeId × List Value)} (h : AwI w0 s0 s bx w) {p : Nat × TypeId × List Value} (hp : p ∈ bx) : p.1 < w.heap.size := (h.get hp).lt
theorem AwI.made {w0 w : World} {s0 : Nat} {s : St} {bx : List (Nat × TypeId × List Value)} (h : AwI w0 s0 s bx w) (t : TypeId) (cs cs' : List Value) : AwI w0 s0 s ((w.heap.size, t, cs') :: bx) ((w.alloc (.cells cs.toArray t)).setRow w.heap.size cs'.toArray) :=
 (h.push t cs).put cs' h.ge (fun p hp e => by have := h.lt hp; omega)
set_option maxHeartbeats 8000000 in
set_option maxRecDepth 100000 in
theorem awake_calls (w : World) (hT : Tab w) : Calls Tryz.prog 9 #[] w fun e w' => e = .returned (.bool true) ∧ Below w.heap.size w w' := by
 have h2w : 2 < w.heap.size := World.block_lt_of_cell? w _ (hT 0 (by omega))
 have HT := Aside0.mk (And.intro hT h2w)
 obtain ⟨s1, s2, s3, s4, x1, x2, x3, x4, x5, x6, x7, y1, y2, y3⟩ := exAll
 have HX := Aside0.mk (And.intro x1 (And.intro x2 (And.intro x3 (And.intro x4 (And.intro x5 (And.intro x6 x7))))))
 have HY := Aside0.mk (And.intro y1 (And.intro y2 y3))
 clear hT h2w x1 x2 x3 x4 x5 x6 x7 y1 y2 y3
 go_enter Tryz.func9, Tryz.ntmps9
 go_wp2_with fail
 with_reducible refine (both_calls w).mono ?_
 rintro e w1 ⟨s0, q, D, rfl, hst, hD, hb⟩
 have HA1 := Aside0.mk (show AwI w s0 exS [] w1 from ⟨D, hst, hD, hb, fun p hp => nomatch hp⟩)
 clear hst hD hb
 dsimp only
 go_upto_region 2 with fail
 refine wp_region_lit ?_
 refine wpList_plain rfl fun K hK => ?_
 unfold Oper.wp execOp
 go_simp
 refine hK _ _ ?_
 clear hK K
 refine wpList_plain rfl fun K hK => ?_
 unfold Oper.wp execOp
 go_simp
 with_reducible refine (fresh_calls w1).mono ?_
 rintro e w2 ⟨g1, rfl, hb2⟩
 have HA2 := Aside0.mk (HA1.out.below hb2)
 clear hb2
 dsimp only
 refine hK _ _ ?_
 clear hK K
 refine wpList_plain rfl fun K hK => ?_
 unfold Oper.wp execOp
 go_simp
 refine hK _ _ ?_
 clear hK K
 have ha3 := HA2.out.push 5 [.int .u8 1]
 have hge := HA2.out.ge
 obtain ⟨cs1, hcs1⟩ : ∃ cs, resC exRx (.slice (some ⟨g1, 0, none⟩) 48 48) 0 = cs := ⟨_, rfl⟩
 have Hcs1 := Aside0.mk (And.intro hcs1 (by rw [← hcs1]; exact resC_ok exRx _ _ _ _ : cs1.length = 15 ∧ cs1.toArray.all (·.oneCell') = true))
 have hs : Calls Tryz.prog 18 #[.pointer (some ⟨s0, 0, none⟩), .agg (frC g1).toArray, .string ⟨#[98]⟩, .slice (some ⟨w2.heap.size, 0, none⟩) 1 1, .int .i64 0, .int .i64 0] (w2.alloc (.cells #[.int .u8 1] 5)) (AwPost w s0 s1 [(w2.heap.size, 5, [.int .u8 1])] cs1 0) := hcs1 ▸ ha3.set (some ⟨g1, 0, none⟩) 48 48 exB (some ⟨w2.heap.size, 0, none⟩) 1 [1] 0 0 HX.out.1 HT.out.1 HT.out.2 (.inr ⟨_, rfl, List.mem_cons_self ..⟩) (by decide) (by decide) (by decide) (by decide) (by decide)
 have HS := Aside0.mk hs
 clear ha3 hs hge hcs1
 generalize w2.alloc (.cells #[.int .u8 1] 5) = w3 at HS ⊢
 refine wpList_plain rfl fun K hK => ?_
 unfold Oper.wp execOp
 go_simp
 with_reducible refine HS.out.mono ?_
 rintro e w4 ⟨rfl, hax⟩
 have HA4 := Aside0.mk hax
 clear hax HS
 dsimp only
 refine hK _ _ ?_
 clear hK K
 refine wpList_plain rfl fun K hK => ?_
 unfold Oper.wp execOp
 go_simp
 refine hK _ _ ?_
 clear hK K
 refine wpList_plain rfl fun K hK => ?_
 unfold Oper.wp execOp
 go_simp
 refine hK _ _ ?_
 clear hK K
 refine wpList_plain rfl fun K hK => ?_
 unfold Oper.wp execOp
 go_simp
 refine hK _ _ ?_
 clear hK K
 refine wpList_plain rfl fun K hK => ?_
 unfold Oper.wp execOp
 go_simp
 refine hK _ _ ?_
 clear hK K
 change wpList _ _ _ _ _ (w4.alloc (.cells inoZ.toArray 47))
 have hsx : Strc (w4.alloc (.cells inoZ.toArray 47)) w4.heap.size 47 inoZ := alloc_last w4 _
 have hax := HA4.out.made 47 inoZ cs1
 refine wpList_store_row rfl 47 _ _ rfl w4.heap.size cs1.toArray rfl rfl 47 _ hsx (infIno (Hcs1.out.2.1)) (by first | rfl | (rw [List.size_toArray, List.size_toArray, Hcs1.out.2.1]; rfl)) Hcs1.out.2.2 ?_
 generalize World.setRow (w4.alloc (.cells inoZ.toArray 47)) w4.heap.size cs1.toArray = w5 at hax ⊢
 obtain ⟨qa, hqa⟩ : ∃ q, w4.heap.size = q := ⟨_, rfl⟩
 rw [hqa] at hax ⊢
 have HA5 := Aside0.mk hax
 clear hax hsx hqa
 refine wpList_plain rfl fun K hK => ?_
 unfold Oper.wp execOp
 go_simp
 refine hK _ _ ?_
 clear hK K
 go_upto_region 3 with fail
 refine wp_region_lit ?_
 refine wpList_plain rfl fun K hK => ?_
 unfold Oper.wp execOp
 go_simp
 refine hK _ _ ?_
 clear hK K
 refine wpList_load_row rfl 47 _ rfl qa rfl 47 cs1.toArray (0, 0) _ (HA5.out.get (p := (qa, 47, cs1)) (List.mem_cons_self ..)) Tryz.underlying47 rfl (infIno (Hcs1.out.2.1)) ?_
 refine wpList_plain rfl fun K hK => ?_
 unfold Oper.wp execOp
 go_simp
 refine hK _ _ ?_
 clear hK K
 have ha6 := (HA5.out.sub (bx' := [(qa, 47, cs1)]) (fun p hp => by simp at hp; subst hp; exact List.mem_cons_self ..)).push 5 [.int .u8 2]
 have hs : Calls Tryz.prog 18 #[.pointer (some ⟨s0, 0, none⟩), .agg cs1.toArray, .string ⟨#[97]⟩, .slice (some ⟨w5.heap.size, 0, none⟩) 1 1, .int .i64 0, .int .i64 0] (w5.alloc (.cells #[.int .u8 2] 5)) (AwPost w s0 s2 ((w5.heap.size, 5, [.int .u8 2]) :: [(qa, 47, cs1)]) cs1 0) := by
  have := ha6.set (r := exRx) (some ⟨g1, 0, none⟩) 48 48 exA (some ⟨w5.heap.size, 0, none⟩) 1 [2] 0 0 HX.out.2.1 HT.out.1 HT.out.2 (.inr ⟨_, rfl, List.mem_cons_self ..⟩) (by decide) (by decide) (by have := HY.out.1; omega) (by decide) (by decide)
  rw [Hcs1.out.1, show exRx.cells (.slice (some ⟨g1, 0, none⟩) 48 48) = cs1 from Hcs1.out.1] at this
  exact this
 have HS := Aside0.mk hs
 clear ha6 hs
 generalize w5.alloc (.cells #[.int .u8 2] 5) = w6 at HS ⊢
 refine wpList_plain rfl fun K hK => ?_
 unfold Oper.wp execOp
 go_simp
 with_reducible refine HS.out.mono ?_
 rintro e w7 ⟨rfl, hax⟩
 have HA7 := Aside0.mk hax
 clear hax HS
 dsimp only
 refine hK _ _ ?_
 clear hK K
 refine wpList_plain rfl fun K hK => ?_
 unfold Oper.wp execOp
 go_simp
 refine hK _ _ ?_
 clear hK K
 refine wpList_plain rfl fun K hK => ?_
 unfold Oper.wp execOp
 go_simp
 refine hK _ _ ?_
 clear hK K
 refine wpList_plain rfl fun K hK => ?_
 unfold Oper.wp execOp
 go_simp
 refine hK _ _ ?_
 clear hK K
 refine wpList_plain rfl fun K hK => ?_
 unfold Oper.wp execOp
 go_simp
 refine hK _ _ ?_
 clear hK K
 change wpList _ _ _ _ _ (w7.alloc (.cells inoZ.toArray 47))
 have hsx : Strc (w7.alloc (.cells inoZ.toArray 47)) w7.heap.size 47 inoZ := alloc_last w7 _
 have hax := HA7.out.made 47 inoZ cs1
 refine wpList_store_row rfl 47 _ _ rfl w7.heap.size cs1.toArray rfl rfl 47 _ hsx (infIno (Hcs1.out.2.1)) (by first | rfl | (rw [List.size_toArray, List.size_toArray, Hcs1.out.2.1]; rfl)) Hcs1.out.2.2 ?_
 generalize World.setRow (w7.alloc (.cells inoZ.toArray 47)) w7.heap.size cs1.toArray = w8 at hax ⊢
 obtain ⟨qb, hqb⟩ : ∃ q, w7.heap.size = q := ⟨_, rfl⟩
 rw [hqb] at hax ⊢
 have HA8 := Aside0.mk hax
 clear hax hsx hqb
 refine wpList_plain rfl fun K hK => ?_
 unfold Oper.wp execOp
 go_simp
 refine hK _ _ ?_
 clear hK K
 go_upto_region 4 with fail
 refine wp_region_lit ?_
 refine wpList_plain rfl fun K hK => ?_
 unfold Oper.wp execOp
 go_simp
 refine hK _ _ ?_
 clear hK K
 refine wpList_load_row rfl 47 _ rfl qb rfl 47 cs1.toArray (0, 0) _ (HA8.out.get (p := (qb, 47, cs1)) (List.mem_cons_self ..)) Tryz.underlying47 rfl (infIno (Hcs1.out.2.1)) ?_
 have hl : Calls Tryz.prog 26 #[.pointer (some ⟨s0, 0, none⟩), .agg cs1.toArray] w8 (AwList w s0 s2 [(qb, 47, cs1)]) := by
  have := (HA8.out.sub (bx' := [(qb, 47, cs1)]) (fun p hp => by simp at hp; subst hp; exact List.mem_cons_self ..)).list (r := exRx) (some ⟨g1, 0, none⟩) 48 48 HX.out.2.2.1
  rw [show exRx.cells (.slice (some ⟨g1, 0, none⟩) 48 48) = cs1 from Hcs1.out.1] at this
  exact this
 have HS := Aside0.mk hl
 clear hl
 refine wpList_plain rfl fun K hK => ?_
 unfold Oper.wp execOp
 go_simp
 with_reducible refine HS.out.mono ?_
 rintro e w9 ⟨g, c, h, c', cur, cur2, rfl, hax, k0, k1, k2⟩
 have HA9 := Aside0.mk hax
 have HKK := Aside0.mk (And.intro k0 (And.intro k1 k2))
 clear hax HS k0 k1 k2
 dsimp only
 refine hK _ _ ?_
 clear hK K
 refine wpList_plain rfl fun K hK => ?_
 unfold Oper.wp execOp
 go_simp
 refine hK _ _ ?_
 clear hK K
 refine wpList_plain rfl fun K hK => ?_
 unfold Oper.wp execOp
 go_simp
 refine hK _ _ ?_
 clear hK K
 refine wpList_plain rfl fun K hK => ?_
 unfold Oper.wp execOp
 go_simp
 refine hK _ _ ?_
 clear hK K
 refine wpList_plain rfl fun K hK => ?_
 unfold Oper.wp execOp
 go_simp
 refine hK _ _ ?_
 clear hK K
 refine wpList_plain rfl fun K hK => ?_
 unfold Oper.wp execOp
 go_simp
 refine hK _ _ ?_
 clear hK K
 have HinoZ := Aside0.mk (And.intro (rfl : inoZ = inoZ) (show inoZ.length = 15 ∧ inoZ.toArray.all (·.oneCell') = true from ⟨rfl, inoZ_one⟩))
 go_upto_region 5 with fail
 refine wp_region_lit ?_
 refine wpList_plain rfl fun K hK => ?_
 unfold Oper.wp execOp
 go_simp
 refine hK _ _ ?_
 clear hK K
 refine wpList_load_row rfl 47 _ rfl qb rfl 47 cs1.toArray (0, 0) _ (HA9.out.get (p := (qb, 47, cs1)) (by simp)) Tryz.underlying47 rfl (infIno (Hcs1.out.2.1)) ?_
 have hs : Calls Tryz.prog 18 #[.pointer (some ⟨s0, 0, none⟩), .agg cs1.toArray, .string ⟨#[97]⟩, .slice none 0 0, .int .i64 1, .int .i64 0] w9 (AwPost w s0 s2 [(g, 72, cur), (h, 5, cur2), (qb, 47, cs1)] inoZ 17) := by
  have := HA9.out.set (r := exRx) (some ⟨g1, 0, none⟩) 48 48 exA none 0 [] 1 0 HX.out.2.2.2.1 HT.out.1 HT.out.2 (.inl ⟨rfl, rfl, rfl⟩) (by decide) (by decide) (by have := HY.out.2.1; omega) (by decide) (by decide)
  rw [show exRx.cells (.slice (some ⟨g1, 0, none⟩) 48 48) = cs1 from Hcs1.out.1] at this
  exact this
 have HS := Aside0.mk hs
 clear hs
 refine wpList_plain rfl fun K hK => ?_
 unfold Oper.wp execOp
 go_simp
 with_reducible refine HS.out.mono ?_
 rintro e w10 ⟨rfl, hax⟩
 have HA10 := Aside0.mk hax
 clear hax HS
 dsimp only
 refine hK _ _ ?_
 clear hK K
 refine wpList_plain rfl fun K hK => ?_
 unfold Oper.wp execOp
 go_simp
 refine hK _ _ ?_
 clear hK K
 refine wpList_plain rfl fun K hK => ?_
 unfold Oper.wp execOp
 go_simp
 refine hK _ _ ?_
 clear hK K
 refine wpList_plain rfl fun K hK => ?_
 unfold Oper.wp execOp
 go_simp
 refine hK _ _ ?_
 clear hK K
 refine wpList_plain rfl fun K hK => ?_
 unfold Oper.wp execOp
 go_simp
 refine hK _ _ ?_
 clear hK K
 change wpList _ _ _ _ _ (w10.alloc (.cells inoZ.toArray 47))
 have hsx : Strc (w10.alloc (.cells inoZ.toArray 47)) w10.heap.size 47 inoZ := alloc_last w10 _
 have hax := HA10.out.made 47 inoZ inoZ
 refine wpList_store_row rfl 47 _ _ rfl w10.heap.size inoZ.toArray rfl rfl 47 _ hsx (infIno (HinoZ.out.2.1)) (by first | rfl | (rw [List.size_toArray, List.size_toArray, HinoZ.out.2.1]; rfl)) HinoZ.out.2.2 ?_
 generalize World.setRow (w10.alloc (.cells inoZ.toArray 47)) w10.heap.size inoZ.toArray = w11 at hax ⊢
 obtain ⟨qc, hqc⟩ : ∃ q, w10.heap.size = q := ⟨_, rfl⟩
 rw [hqc] at hax ⊢
 have HA11 := Aside0.mk hax
 clear hax hsx hqc
 refine wpList_plain rfl fun K hK => ?_
 unfold Oper.wp execOp
 go_simp
 refine hK _ _ ?_
 clear hK K
 have HA11 := Aside0.mk (HA11.out.sub (bx' := [(g, 72, cur), (h, 5, cur2), (qb, 47, cs1)]) (fun p hp => List.mem_cons_of_mem _ hp))
 go_upto_region 6 with fail
 refine wp_region_lit ?_
 refine wpList_plain rfl fun K hK => ?_
 unfold Oper.wp execOp
 go_simp
 refine hK _ _ ?_
 clear hK K
 refine wpList_load_row rfl 47 _ rfl qb rfl 47 cs1.toArray (0, 0) _ (HA11.out.get (p := (qb, 47, cs1)) (by simp)) Tryz.underlying47 rfl (infIno (Hcs1.out.2.1)) ?_
 have hs : Calls Tryz.prog 18 #[.pointer (some ⟨s0, 0, none⟩), .agg cs1.toArray, .string ⟨#[99]⟩, .slice none 0 0, .int .i64 2, .int .i64 0] w11 (AwPost w s0 s2 [(g, 72, cur), (h, 5, cur2), (qb, 47, cs1)] inoZ 61) := by
  have := HA11.out.set (r := exRx) (some ⟨g1, 0, none⟩) 48 48 exC none 0 [] 2 0 HX.out.2.2.2.2.1 HT.out.1 HT.out.2 (.inl ⟨rfl, rfl, rfl⟩) (by decide) (by decide) (by have := HY.out.2.1; omega) (by decide) (by decide)
  rw [show exRx.cells (.slice (some ⟨g1, 0, none⟩) 48 48) = cs1 from Hcs1.out.1] at this
  exact this
 have HS := Aside0.mk hs
 clear hs
 refine wpList_plain rfl fun K hK => ?_
 unfold Oper.wp execOp
 go_simp
 with_reducible refine HS.out.mono ?_
 rintro e w12 ⟨rfl, hax⟩
 have HA12 := Aside0.mk hax
 clear hax HS
 dsimp only
 refine hK _ _ ?_
 clear hK K
 refine wpList_plain rfl fun K hK => ?_
 unfold Oper.wp execOp
 go_simp
 refine hK _ _ ?_
 clear hK K
 refine wpList_plain rfl fun K hK => ?_
 unfold Oper.wp execOp
 go_simp
 refine hK _ _ ?_
 clear hK K
 refine wpList_plain rfl fun K hK => ?_
 unfold Oper.wp execOp
 go_simp
 refine hK _ _ ?_
 clear hK K
 refine wpList_plain rfl fun K hK => ?_
 unfold Oper.wp execOp
 go_simp
 refine hK _ _ ?_
 clear hK K
 change wpList _ _ _ _ _ (w12.alloc (.cells inoZ.toArray 47))
 have hsx : Strc (w12.alloc (.cells inoZ.toArray 47)) w12.heap.size 47 inoZ := alloc_last w12 _
 have hax := HA12.out.made 47 inoZ inoZ
 refine wpList_store_row rfl 47 _ _ rfl w12.heap.size inoZ.toArray rfl rfl 47 _ hsx (infIno (HinoZ.out.2.1)) (by first | rfl | (rw [List.size_toArray, List.size_toArray, HinoZ.out.2.1]; rfl)) HinoZ.out.2.2 ?_
 generalize World.setRow (w12.alloc (.cells inoZ.toArray 47)) w12.heap.size inoZ.toArray = w13 at hax ⊢
 obtain ⟨qd, hqd⟩ : ∃ q, w12.heap.size = q := ⟨_, rfl⟩
 rw [hqd] at hax ⊢
 have HA13 := Aside0.mk hax
 clear hax hsx hqd
 refine wpList_plain rfl fun K hK => ?_
 unfold Oper.wp execOp
 go_simp
 refine hK _ _ ?_
 clear hK K
 have HA13 := Aside0.mk (HA13.out.sub (bx' := [(g, 72, cur), (h, 5, cur2), (qb, 47, cs1)]) (fun p hp => List.mem_cons_of_mem _ hp))
 go_upto_region 7 with fail
 refine wp_region_lit ?_
 refine wpList_plain rfl fun K hK => ?_
 unfold Oper.wp execOp
 go_simp
 refine hK _ _ ?_
 clear hK K
 refine wpList_load_row rfl 47 _ rfl qb rfl 47 cs1.toArray (0, 0) _ (HA13.out.get (p := (qb, 47, cs1)) (by simp)) Tryz.underlying47 rfl (infIno (Hcs1.out.2.1)) ?_
 have hs : Calls Tryz.prog 22 #[.pointer (some ⟨s0, 0, none⟩), .agg cs1.toArray, .string ⟨#[97]⟩] w13 (AwPost w s0 s3 [(g, 72, cur), (h, 5, cur2), (qb, 47, cs1)] cs1 0) := by
  have := HA13.out.rem (r := exRx) (some ⟨g1, 0, none⟩) 48 48 exA HX.out.2.2.2.2.2.1 (by have := HY.out.2.1; omega)
  rw [Hcs1.out.1, show exRx.cells (.slice (some ⟨g1, 0, none⟩) 48 48) = cs1 from Hcs1.out.1] at this
  exact this
 have HS := Aside0.mk hs
 clear hs
 refine wpList_plain rfl fun K hK => ?_
 unfold Oper.wp execOp
 go_simp
 with_reducible refine HS.out.mono ?_
 rintro e w14 ⟨rfl, hax⟩
 have HA14 := Aside0.mk hax
 clear hax HS
 dsimp only
 refine hK _ _ ?_
 clear hK K
 refine wpList_plain rfl fun K hK => ?_
 unfold Oper.wp execOp
 go_simp
 refine hK _ _ ?_
 clear hK K
 refine wpList_plain rfl fun K hK => ?_
 unfold Oper.wp execOp
 go_simp
 refine hK _ _ ?_
 clear hK K
 refine wpList_plain rfl fun K hK => ?_
 unfold Oper.wp execOp
 go_simp
 refine hK _ _ ?_
 clear hK K
 refine wpList_plain rfl fun K hK => ?_
 unfold Oper.wp execOp
 go_simp
 refine hK _ _ ?_
 clear hK K
 change wpList _ _ _ _ _ (w14.alloc (.cells inoZ.toArray 47))
 have hsx : Strc (w14.alloc (.cells inoZ.toArray 47)) w14.heap.size 47 inoZ := alloc_last w14 _
 have hax := HA14.out.made 47 inoZ cs1
 refine wpList_store_row rfl 47 _ _ rfl w14.heap.size cs1.toArray rfl rfl 47 _ hsx (infIno (Hcs1.out.2.1)) (by first | rfl | (rw [List.size_toArray, List.size_toArray, Hcs1.out.2.1]; rfl)) Hcs1.out.2.2 ?_
 generalize World.setRow (w14.alloc (.cells inoZ.toArray 47)) w14.heap.size cs1.toArray = w15 at hax ⊢
 obtain ⟨qe, hqe⟩ : ∃ q, w14.heap.size = q := ⟨_, rfl⟩
 rw [hqe] at hax ⊢
 have HA15 := Aside0.mk hax
 clear hax hsx hqe
 refine wpList_plain rfl fun K hK => ?_
 unfold Oper.wp execOp
 go_simp
 refine hK _ _ ?_
 clear hK K
 obtain ⟨cs4, hcs4⟩ : ∃ cs, resC exR (.slice (some ⟨g1, 0, none⟩) 48 48) 0 = cs := ⟨_, rfl⟩
 have Hcs4 := Aside0.mk (And.intro hcs4 (by rw [← hcs4]; exact resC_ok exR _ _ _ _ : cs4.length = 15 ∧ cs4.toArray.all (·.oneCell') = true))
 clear hcs4
 go_upto_region 8 with fail
 refine wp_region_lit ?_
 refine wpList_plain rfl fun K hK => ?_
 unfold Oper.wp execOp
 go_simp
 refine hK _ _ ?_
 clear hK K
 refine wpList_load_row rfl 47 _ rfl qe rfl 47 cs1.toArray (0, 0) _ (HA15.out.get (p := (qe, 47, cs1)) (by simp)) Tryz.underlying47 rfl (infIno (Hcs1.out.2.1)) ?_
 have hs : Calls Tryz.prog 22 #[.pointer (some ⟨s0, 0, none⟩), .agg cs1.toArray, .string ⟨#[98]⟩] w15 (AwPost w s0 s4 ((qe, 47, cs1) :: [(g, 72, cur), (h, 5, cur2), (qb, 47, cs1)]) cs4 0) := by
  have := HA15.out.rem (r := exRx) (some ⟨g1, 0, none⟩) 48 48 exB HX.out.2.2.2.2.2.2 (by have := HY.out.2.2; omega)
  rw [Hcs4.out.1, show exRx.cells (.slice (some ⟨g1, 0, none⟩) 48 48) = cs1 from Hcs1.out.1] at this
  exact this
 have HS := Aside0.mk hs
 clear hs
 refine wpList_plain rfl fun K hK => ?_
 unfold Oper.wp execOp
 go_simp
 with_reducible refine HS.out.mono ?_
 rintro e w16 ⟨rfl, hax⟩
 have HA16 := Aside0.mk hax
 clear hax HS
 dsimp only
 refine hK _ _ ?_
 clear hK K
 refine wpList_plain rfl fun K hK => ?_
 unfold Oper.wp execOp
 go_simp
 refine hK _ _ ?_
 clear hK K
 refine wpList_plain rfl fun K hK => ?_
 unfold Oper.wp execOp
 go_simp
 refine hK _ _ ?_
 clear hK K
 refine wpList_plain rfl fun K hK => ?_
 unfold Oper.wp execOp
 go_simp
 refine hK _ _ ?_
 clear hK K
 refine wpList_plain rfl fun K hK => ?_
 unfold Oper.wp execOp
 go_simp
 refine hK _ _ ?_
 clear hK K
 change wpList _ _ _ _ _ (w16.alloc (.cells inoZ.toArray 47))
 have hsx : Strc (w16.alloc (.cells inoZ.toArray 47)) w16.heap.size 47 inoZ := alloc_last w16 _
 have hax := HA16.out.made 47 inoZ cs4
 refine wpList_store_row rfl 47 _ _ rfl w16.heap.size cs4.toArray rfl rfl 47 _ hsx (infIno (Hcs4.out.2.1)) (by first | rfl | (rw [List.size_toArray, List.size_toArray, Hcs4.out.2.1]; rfl)) Hcs4.out.2.2 ?_
 generalize World.setRow (w16.alloc (.cells inoZ.toArray 47)) w16.heap.size cs4.toArray = w17 at hax ⊢
 obtain ⟨qf, hqf⟩ : ∃ q, w16.heap.size = q := ⟨_, rfl⟩
 rw [hqf] at hax ⊢
 have HA17 := Aside0.mk hax
 clear hax hsx hqf
 refine wpList_plain rfl fun K hK => ?_
 unfold Oper.wp execOp
 go_simp
 refine hK _ _ ?_
 clear hK K
 have hA := HA17.out
 have f0 := (hA.get (p := (g, 72, cur)) (by simp)).cell 0 _ HKK.out.1
 have f1 := (hA.get (p := (g, 72, cur)) (by simp)).cell 1 _ HKK.out.2.1
 have f2 := (hA.get (p := (h, 5, cur2)) (by simp)).cell 0 _ HKK.out.2.2
 have f3 := (hA.get (p := (qf, 47, cs4)) (by simp)).cell 12 (.int .i64 0) (by rw [← Hcs4.out.1]; rfl)
 have f4 := (hA.get (p := (qf, 47, cs4)) (by simp)).cell 6 (.int .i64 0) (by rw [← Hcs4.out.1]; rfl)
 have HB := Aside0.mk (hA.elim fun D h => h.2.2.1)
 unfold exA at f0
 clear hA
 go_wp2
 go_ret
 exact ⟨rfl, HB.out⟩
end Go.Proofs.YtkmhilhfmfmckaaGreatDoor.Hand
