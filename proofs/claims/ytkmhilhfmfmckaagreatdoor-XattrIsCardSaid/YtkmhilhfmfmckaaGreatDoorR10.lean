/- Own texts and printed words of the kit, put together and trimmed by a program of mine (merge.py). -/
import Derived.Test.YtkmhilhfmfmckaaGreatDoorR09
import Derived.RangeFuncNested
import Derived.RangeFuncCalls
import Derived.RangeFuncLeaves
import Derived.Shelf.RegionOpen
import Derived.WalkKit
import Derived.OwnWalkIn
import Derived.TacticsInMore
import Derived.LoopNIn
import Derived.LoopIn
import Derived.Sort.LoopGhostIn
import Derived.Sort.CutIn
namespace Go.Proofs.YtkmhilhfmfmckaaGreatDoor.Hand
set_option linter.unusedSimpArgs false
set_option linter.unusedVariables false
open Go.Shelf Go.RowKit Go.Proofs.YtkmhilhfmfmckaaGreatDoorW.PrintWords Go.Proofs.YtkmhilhfmfmckaaGreatDoorW.PrintLast Go.Proofs.YtkmhilhfmfmckaaGreatDoorW.PrintMore
theorem psuperI_ok {x : Sup} (h : (psuperI x).2 = 0) : (psuperI x).1.length = 256 ∧ allB (psuperI x).1 := by
 by_cases hs : supOk x = true
 ·have hk := And.intro (blockI_length (wordsI x.nums) superW 0) (blockI_allB (wordsI x.nums) superW 0)
  rw [psuper_good hs]
  generalize blockI (wordsI x.nums) superW 0 = b at hk ⊢
  exact hk
 ·have : psuperI x = ([], 22) := by unfold psuperI; rw [if_neg hs]
  rw [this] at h; cases h
theorem pgroupsI_ok {l : List Grp} (h : (pgroupsI l).2 = 0) : (pgroupsI l).1.length = 256 ∧ allB (pgroupsI l).1 := by
 by_cases hs : 1 ≤ l.length ∧ l.length ≤ 14 ∧ l.all gOk = true
 ·have hk := And.intro (blockI_length (wordsI (l.flatMap gnums)) (groupW l.length) 1) (blockI_allB (wordsI (l.flatMap gnums)) (groupW l.length) 1)
  rw [pgroups_good hs]
  generalize blockI (wordsI (l.flatMap gnums)) (groupW l.length) 1 = b at hk ⊢
  exact hk
 ·have : pgroupsI l = ([], 22) := by unfold pgroupsI; rw [if_neg hs]
  rw [this] at h; cases h
def leaveI (s : St) (mark : Nat) (x : Sup) (l : List Grp) (e : Int) : St × Int :=
 if e ≠ 0 then (s.back mark, e) else
 if (pgroupsI l).2 ≠ 0 ∨ (psuperI x).2 ≠ 0 then (s.back mark, 117) else
 ((s.write 1 (pgroupsI l).1).write 0 (psuperI x).1, 0)
set_option maxHeartbeats 4000000 in
set_option maxRecDepth 100000 in
theorem leave_calls {D : Nat → Prop} {s0 k0 mark : Nat} {s : St} {x : Sup} {gv : Value} {l : List Grp} (e0 : Int) (w : World) (h : StIs w D s0 s) (hk : DeskAt w D k0 s0 x gv l mark) (hm : mark ≤ s.hist.length) (hh : s.hist.length ≤ 999990) (hl : l.length ≤ 1000) :
  Calls Tryz.prog 73 #[.pointer (some ⟨k0, 0, none⟩), .int .i64 e0] w (DoPost D s0 (leaveI s mark x l e0) w) := by
 obtain ⟨r, hr⟩ : ∃ r, leaveI s mark x l e0 = r := ⟨_, rfl⟩
 have hr0 : e0 ≠ 0 → r = (s.back mark, e0) := fun h => by rw [← hr]; unfold leaveI; rw [if_pos h]
 have hr1 : e0 = 0 → ((pgroupsI l).2 ≠ 0 ∨ (psuperI x).2 ≠ 0) → r = (s.back mark, 117) := fun h h2 => by rw [← hr]; unfold leaveI; rw [if_neg (fun h' => h' h), if_pos h2]
 have hr2 : e0 = 0 → (pgroupsI l).2 = 0 → (psuperI x).2 = 0 → r = ((s.write 1 (pgroupsI l).1).write 0 (psuperI x).1, 0) := fun h h2 h3 => by rw [← hr]; unfold leaveI; rw [if_neg (fun h' => h' h), if_neg (by rintro (h' | h'); exact h' h2; exact h' h3)]
 rw [hr]
 obtain ⟨A, c, rfl, hlc, hG⟩ := hk.gr.reads
 have HPG := Aside0.mk (pgroups_calls A c l w hG (by omega))
 have HPS := Aside0.mk (fun W => psuper_calls x W)
 have hok1 := pgroupsI_ok (l := l)
 have hok2 := psuperI_ok (x := x)
 obtain ⟨⟨p1, p2⟩, hp⟩ : ∃ p, pgroupsI l = p := ⟨_, rfl⟩
 obtain ⟨⟨q1, q2⟩, hq⟩ : ∃ q, psuperI x = q := ⟨_, rfl⟩
 rw [hp] at HPG hr1 hr2 hok1
 rw [hq] at HPS hr1 hr2 hok2
 have HR0 := Aside0.mk hr0
 have HR1 := Aside0.mk hr1
 have HR2 := Aside0.mk hr2
 have HOK := Aside0.mk (And.intro hok1 hok2)
 have HH := Aside0.mk (And.intro h (And.intro hm hh))
 have HK := Aside0.mk hk
 have c0 := hk.st.cell 0 _ rfl
 have c1 := hk.st.cell 1 _ rfl
 have c2 := hk.st.cell 2 _ rfl
 have c3 := hk.st.cell 3 _ rfl
 have c4 := hk.st.cell 4 _ rfl
 have c5 := hk.st.cell 5 _ rfl
 have c6 := hk.st.cell 6 _ rfl
 have c7 := hk.st.cell 7 _ rfl
 have c8 := hk.st.cell 8 _ rfl
 have c9 := hk.st.cell 9 _ rfl
 have c10 := hk.st.cell 10 _ rfl
 clear hr hr0 hr1 hr2 hok1 hok2 hp hq h hm hh hG hl
 go_enter Tryz.func73, Tryz.ntmps73
 go_wp2_with fail
 refine HPG.out.mono ?_
 rintro e w1 ⟨v1, rfl, hb1, hgood1, hbad1⟩
 have HB1 := Aside0.mk hb1
 have HV1 := Aside0.mk (And.intro hgood1 hbad1)
 have hk1 := hk.below hb1
 have d0 := hk1.st.cell 0 _ rfl
 have d1 := hk1.st.cell 1 _ rfl
 have d2 := hk1.st.cell 2 _ rfl
 have d3 := hk1.st.cell 3 _ rfl
 have d4 := hk1.st.cell 4 _ rfl
 have d5 := hk1.st.cell 5 _ rfl
 have d6 := hk1.st.cell 6 _ rfl
 have d7 := hk1.st.cell 7 _ rfl
 have d8 := hk1.st.cell 8 _ rfl
 have d9 := hk1.st.cell 9 _ rfl
 clear c0 c1 c2 c3 c4 c5 c6 c7 c8 c9 c10 hb1 hgood1 hbad1 hk hk1
 dsimp only
 go_wp2_with fail
 refine (HPS.out w1).mono ?_
 rintro e w2 ⟨v2, rfl, hb2, hgood2, hbad2⟩
 have HB2 := Aside0.mk hb2
 have HV2 := Aside0.mk (And.intro hgood2 hbad2)
 have hk2 := HK.out.below (below_then HB1.out HB1.out.size hb2)
 have h2 := HH.out.1.below (below_then HB1.out HB1.out.size hb2)
 have H2 := Aside0.mk h2
 have HK2 := Aside0.mk hk2
 have HBK := Aside0.mk (sback_calls mark w2.drew (h2.below (below_drew (Below.refl _ _))) HH.out.2.1 (by have := HH.out.2.2; omega))
 clear d0 d1 d2 d3 d4 d5 d6 d7 d8 d9
 have d0 := hk2.st.cell 0 _ rfl
 have d11 := hk2.st.cell 11 _ rfl
 clear hb2 hgood2 hbad2 hk2 h2
 dsimp only
 by_cases he : e0 = 0
 ·subst he
  by_cases hp2 : p2 = 0
  ·subst hp2
   by_cases hq2 : q2 = 0
   ·subst hq2
    have hrn := HR2.out rfl rfl rfl
    subst hrn
    obtain ⟨g1, c1, rfl, hg1, hc1, hrow1⟩ := HV1.out.1 rfl
    obtain ⟨g2, c2, rfl, hg2, hc2, hrow2⟩ := HV2.out.1 rfl
    have ho1 := HOK.out.1 rfl
    have ho2 := HOK.out.2 rfl
    rw [ho1.1] at hc1
    rw [ho2.1] at hc2
    rw [ho1.1, ho2.1]
    have hlen := HH.out.1.len
    have hDlt := HH.out.1.sub
    have hg1D : ¬ D g1 := fun hd => by have := hDlt _ hd; omega
    have hg2D : ¬ D g2 := fun hd => by have := hDlt _ hd; have := HB1.out.size; omega
    have hr1 := hrow1.below HB2.out
    have hsw := swrite_calls 1 ⟨g1, 0, none⟩ c1 p1 w2 H2.out (by omega) (hr1.reads (by rw [ho1.1]; omega)) ho1.1 ho1.2 (by have := HH.out.2.2; omega) hg1D
    rw [show ((1 : Nat) : Int) = 1 from rfl] at hsw
    have HSW := Aside0.mk hsw
    have HROW2 := Aside0.mk hrow2
    have HO2 := Aside0.mk ho2
    have HLEN := Aside0.mk hlen.1
    have hg2lt := hrow2.lt
    clear hr1 hsw hrow1 hrow2 ho1 ho2 hlen hDlt d11 hc2 hc1
    go_wp2_with fail
    refine HSW.out.mono ?_
    rintro e w3 ⟨D3, rfl, h3, hD3, hm3⟩
    have e0 := hm3.cell d0 HK.out.nk
    have hsw := swrite_calls 0 ⟨g2, 0, none⟩ c2 q1 w3 h3 (by have := HLEN.out; simp [St.write]; omega) ((HROW2.out.mod hm3 hg2D).reads (by rw [HO2.out.1]; omega)) HO2.out.1 HO2.out.2 (by have := HH.out.2.2; simp [St.write]; omega) (fun hd => (hD3 _ hd).elim hg2D (fun h => by simp at h; omega))
    rw [show ((0 : Nat) : Int) = 0 from rfl] at hsw
    have HSW2 := Aside0.mk hsw
    have HY := Aside0.mk (And.intro hD3 hm3)
    clear h3 hD3 hm3 hsw d0
    dsimp only
    go_wp2_with fail
    refine HSW2.out.mono ?_
    rintro e w4 ⟨D4, rfl, h4, hD4, hm4⟩
    have HZ := Aside0.mk (And.intro h4 (And.intro hD4 hm4))
    clear h4 hD4 hm4
    dsimp only
    go_wp2
    go_ret
    have hm2 : Mod w w2 D := Mod.of_below (below_then HB1.out HB1.out.size HB2.out) D
    have hd0 : ∀ k, D k → D k ∨ w.heap.size ≤ k := fun _ => .inl
    have hm3 : Mod w w3 D := mod_then hm2 hd0 HY.out.2
    have hd3 : ∀ k, D3 k → D k ∨ w.heap.size ≤ k := hd_then hm2 hd0 HY.out.1
    exact ⟨D4, rfl, HZ.out.1, hd_then hm3 hd3 HZ.out.2.1, mod_then hm3 hd3 HZ.out.2.2⟩
   ·have hrn := HR1.out rfl (.inr hq2)
    subst hrn
    have hqb : (q2 != 0) = true := by simpa using hq2
    go_upto_region 8 with fail
    refine wp_region_in [0, 0, 0, 1, 0, 0, 0, 1, 3] [8] (fun w' => w'.cell? ⟨k0, 0, none⟩ = some (.pointer (some ⟨s0, 0, none⟩)) ∧ w'.cell? ⟨k0, 11, none⟩ = some (.int .i64 mark)) (by kernel_rfl) rfl (by kernel_rfl) (fun _ _ _ _ h => h) ⟨d0, d11⟩ ?_
    iterate 8 (first
     | (refine in_off0 (by rfl) ?_; simp only [Act.put, stA, stZ, stS, i64_w, i32_w])
     | (refine in_off1 (by rfl) ?_; simp only [Act.put, stA, stZ, stS, i64_w, i32_w])
     | (refine in_0 (v := ?_) (by rfl) rfl ?_ (a' := ?_) ?_ ?_; rotate_left; (intro w'; go_simp; with_reducible rfl); rotate_left; (simp only [Act.put, stA, stZ, stS, i64_w, i32_w]; rfl))
     | (refine in_1 (v := ?_) (by rfl) rfl ?_ (a' := ?_) ?_ ?_; rotate_left; (rintro w' hs; go_split_ands; go_simp; with_reducible rfl); rotate_left; (simp only [Act.put, stA, stZ, stS, i64_w, i32_w]; rfl)))
    refine in_3 (by rfl) (fun K hK => ?_)
    go_simp
    refine HBK.out.mono ?_
    rintro e w3 ⟨rfl, h3, hm3⟩
    have HY := Aside0.mk (And.intro h3 hm3)
    clear h3 hm3
    dsimp only
    refine hK _ _ ?_
    clear hK K
    try simp only [Act.put, stA, stZ, stS, i64_w, i32_w]
    refine out_nil ?_
    go_wp2
    go_ret
    exact ⟨D, rfl, HY.out.1, fun _ => .inl, (Mod.of_below (below_then HB1.out HB1.out.size HB2.out) D).drew.trans HY.out.2 (fun _ _ e => e)⟩
  ·have hrn := HR1.out rfl (.inl hp2)
   subst hrn
   have hqb : (p2 != 0) = true := by simpa using hp2
   go_upto_region 8 with fail
   refine wp_region_in [0, 0, 0, 1, 0, 0, 0, 1, 3] [8] (fun w' => w'.cell? ⟨k0, 0, none⟩ = some (.pointer (some ⟨s0, 0, none⟩)) ∧ w'.cell? ⟨k0, 11, none⟩ = some (.int .i64 mark)) (by kernel_rfl) rfl (by kernel_rfl) (fun _ _ _ _ h => h) ⟨d0, d11⟩ ?_
   iterate 8 (first
    | (refine in_off0 (by rfl) ?_; simp only [Act.put, stA, stZ, stS, i64_w, i32_w])
    | (refine in_off1 (by rfl) ?_; simp only [Act.put, stA, stZ, stS, i64_w, i32_w])
    | (refine in_0 (v := ?_) (by rfl) rfl ?_ (a' := ?_) ?_ ?_; rotate_left; (intro w'; go_simp; with_reducible rfl); rotate_left; (simp only [Act.put, stA, stZ, stS, i64_w, i32_w]; rfl))
    | (refine in_1 (v := ?_) (by rfl) rfl ?_ (a' := ?_) ?_ ?_; rotate_left; (rintro w' hs; go_split_ands; go_simp; with_reducible rfl); rotate_left; (simp only [Act.put, stA, stZ, stS, i64_w, i32_w]; rfl)))
   refine in_3 (by rfl) (fun K hK => ?_)
   go_simp
   refine HBK.out.mono ?_
   rintro e w3 ⟨rfl, h3, hm3⟩
   have HY := Aside0.mk (And.intro h3 hm3)
   clear h3 hm3
   dsimp only
   refine hK _ _ ?_
   clear hK K
   try simp only [Act.put, stA, stZ, stS, i64_w, i32_w]
   refine out_nil ?_
   go_wp2
   go_ret
   exact ⟨D, rfl, HY.out.1, fun _ => .inl, (Mod.of_below (below_then HB1.out HB1.out.size HB2.out) D).drew.trans HY.out.2 (fun _ _ e => e)⟩
 ·have hrn := HR0.out he
  subst hrn
  have hqb : (e0 != 0) = true := by simpa using he
  go_upto_region 8 with fail
  refine wp_region_in [0, 0, 0, 1, 0, 0, 0, 1, 3] [8] (fun w' => w'.cell? ⟨k0, 0, none⟩ = some (.pointer (some ⟨s0, 0, none⟩)) ∧ w'.cell? ⟨k0, 11, none⟩ = some (.int .i64 mark)) (by kernel_rfl) rfl (by kernel_rfl) (fun _ _ _ _ h => h) ⟨d0, d11⟩ ?_
  iterate 8 (first
   | (refine in_off0 (by rfl) ?_; simp only [Act.put, stA, stZ, stS, i64_w, i32_w])
   | (refine in_off1 (by rfl) ?_; simp only [Act.put, stA, stZ, stS, i64_w, i32_w])
   | (refine in_0 (v := ?_) (by rfl) rfl ?_ (a' := ?_) ?_ ?_; rotate_left; (intro w'; go_simp; with_reducible rfl); rotate_left; (simp only [Act.put, stA, stZ, stS, i64_w, i32_w]; rfl))
   | (refine in_1 (v := ?_) (by rfl) rfl ?_ (a' := ?_) ?_ ?_; rotate_left; (rintro w' hs; go_split_ands; go_simp; with_reducible rfl); rotate_left; (simp only [Act.put, stA, stZ, stS, i64_w, i32_w]; rfl)))
  refine in_3 (by rfl) (fun K hK => ?_)
  go_simp
  refine HBK.out.mono ?_
  rintro e w3 ⟨rfl, h3, hm3⟩
  have HY := Aside0.mk (And.intro h3 hm3)
  clear h3 hm3
  dsimp only
  refine hK _ _ ?_
  clear hK K
  try simp only [Act.put, stA, stZ, stS, i64_w, i32_w]
  refine out_nil ?_
  go_wp2
  go_ret
  exact ⟨D, rfl, HY.out.1, fun _ => .inl, (Mod.of_below (below_then HB1.out HB1.out.size HB2.out) D).drew.trans HY.out.2 (fun _ _ e => e)⟩
theorem unsuperI_ok {b : List Int} (h : (unsuperI b).2 = 0) : supOk (unsuperI b).1 = true := by
 unfold unsuperI at h ⊢
 by_cases h1 : (psuperI (supB b)).2 = 0 ∧ (psuperI (supB b)).1 = b
 ·rw [if_pos h1]
  by_cases hs : supOk (supB b) = true
  ·exact hs
  ·have : psuperI (supB b) = ([], 22) := by unfold psuperI; rw [if_neg hs]
   rw [this] at h1
   exact absurd h1.1 (by decide)
 ·rw [if_neg h1] at h
  cases h
theorem ungroupsI_ok {b : List Int} {n : Int} (h : (ungroupsI b n).2 = 0) : (((ungroupsI b n).1.length : Nat) : Int) = n ∧ 1 ≤ n ∧ n ≤ 14 ∧ (ungroupsI b n).1.all gOk = true := by
 unfold ungroupsI at h ⊢
 by_cases h0 : inI n 1 14 = false
 ·rw [if_pos h0] at h; cases h
 ·rw [if_neg h0] at h ⊢
  have hr := inI_iff.1 (by simpa using h0)
  by_cases h1 : (pgroupsI (grpsB b n.toNat)).2 = 0 ∧ (pgroupsI (grpsB b n.toNat)).1 = b
  ·rw [if_pos h1]
   refine ⟨by show (((grpsB b n.toNat).length : Nat) : Int) = n; rw [grpsB_len]; omega, hr.1, hr.2, ?_⟩
   by_cases hs : 1 ≤ (grpsB b n.toNat).length ∧ (grpsB b n.toNat).length ≤ 14 ∧ (grpsB b n.toNat).all gOk = true
   ·exact hs.2.2
   ·have : pgroupsI (grpsB b n.toNat) = ([], 22) := by unfold pgroupsI; rw [if_neg hs]
    rw [this] at h1
    exact absurd h1.1 (by decide)
  ·rw [if_neg h1] at h
   cases h
structure Sat (now : List (List Int)) (x : Sup) (l : List Grp) : Prop where
 geo : geoI x.geo = 0
 bl : x.geo.blocks = now.length
 len : ((l.length : Nat) : Int) = groupsI x.geo
 l0 : 1 ≤ l.length
 l1 : l.length ≤ 14
 f0 : 0 ≤ x.fb
 f1 : x.fb ≤ 300000
 gr : ∀ i, i < l.length → 0 ≤ (grpAt l i).fb ∧ (grpAt l i).fb ≤ 65535
theorem fixedI_room {g : Geo} (h : geoI g = 0) : g.blocks - fixedI g ≤ 300000 := by
 have hz := geoI_zero h
 have hr := groupsI_range g
 have hd := dataI_range (g := g) (groupsI g).toNat (by omega)
 unfold fixedI
 split
 ·omega
 ·have : ((groupsI g).toNat : Int) ≤ 14 := by omega
  omega
theorem sitI_sat {now : List (List Int)} {x : Sup} {l : List Grp} (h : sitI now = some (x, l)) : Sat now x l := by
 unfold sitI at h
 by_cases h1 : (unsuperI (now.getD 0 [])).2 ≠ 0 ∨ (unsuperI (now.getD 0 [])).1.geo.blocks ≠ now.length
 ·rw [if_pos h1] at h; cases h
 ·rw [if_neg h1] at h
  by_cases h2 : (ungroupsI (now.getD 1 []) (groupsI (unsuperI (now.getD 0 [])).1.geo)).2 ≠ 0
  ·rw [if_pos h2] at h; cases h
  ·rw [if_neg h2] at h
   have a1 : (unsuperI (now.getD 0 [])).2 = 0 := Classical.not_not.1 (fun e => h1 (.inl e))
   have a2 : (unsuperI (now.getD 0 [])).1.geo.blocks = now.length := Classical.not_not.1 (fun e => h1 (.inr e))
   have a3 := Classical.not_not.1 h2
   obtain ⟨rfl, rfl⟩ : (unsuperI (now.getD 0 [])).1 = x ∧ (ungroupsI (now.getD 1 []) (groupsI (unsuperI (now.getD 0 [])).1.geo)).1 = l := by
    simpa using h
   have b1 := unsuperI_ok a1
   have b2 := ungroupsI_ok a3
   generalize (unsuperI (now.getD 0 [])).1 = x at b1 b2 a2 ⊢
   generalize (ungroupsI (now.getD 1 []) (groupsI x.geo)).1 = l at b2 ⊢
   unfold supOk at b1
   simp only [Bool.and_eq_true, decide_eq_true_eq] at b1
   obtain ⟨⟨⟨⟨c1, c2⟩, _⟩, _⟩, _⟩ := b1
   have hg : geoI x.geo = 0 := by
    by_cases hz : geoI x.geo = 0
    ·exact hz
    ·exfalso
     have : groupsI x.geo = 0 := by unfold groupsI; rw [if_neg hz]
     rw [this] at c1
     simp at c1
   have c3 := inI_iff.1 c2
   have hf := fixedI_room hg
   refine ⟨hg, a2, b2.1, by omega, by omega, c3.1, by omega, fun i hi => ?_⟩
   have hm : grpAt l i ∈ l := by unfold grpAt; rw [List.getD_eq_getElem?_getD, List.getElem?_eq_getElem hi]; exact List.getElem_mem hi
   have := List.all_eq_true.1 b2.2.2.2 _ hm
   unfold gOk at this
   simp only [Bool.and_eq_true] at this
   have := inI_iff.1 this.1.1
   exact this
theorem geo_at {g : Geo} (h : geoI g = 0) {a : Int} (h0 : 0 ≤ a) (h1 : a < g.blocks) :
  ∃ i fr zz bm : Nat, a / g.per = (i : Int) ∧ (i : Int) < groupsI g ∧ spanI g (i : Int) = ((fr : Int), (zz : Int), 0) ∧ placeI g (i : Int) = ((bm : Int), (bm : Int) + 1, (bm : Int) + 2, (bm : Int) + 2 + g.inodes / 2, 0) ∧ fr ≤ bm ∧ (fr : Int) ≤ a ∧ a < (zz : Int) ∧ (bm : Int) + 2 + g.inodes / 2 < (zz : Int) ∧ (zz : Int) ≤ g.blocks ∧ zz - fr ≤ 2016 ∧ fr < zz := by
 have hz := geoI_zero h
 have hp : 0 < g.per := by omega
 have hi0 : 0 ≤ a / g.per := Int.ediv_nonneg h0 (by omega)
 obtain ⟨i, hi⟩ : ∃ i : Nat, a / g.per = (i : Int) := ⟨(a / g.per).toNat, by omega⟩
 have hlo : (i : Int) * g.per ≤ a := by rw [← hi]; exact Int.ediv_mul_le _ (by omega)
 have hhi : a < (i : Int) * g.per + g.per := by
  have := Int.lt_ediv_add_one_mul_self a hp
  rw [hi, Int.add_mul, Int.one_mul] at this
  exact this
 have hgr : (i : Int) < groupsI g := by
  unfold groupsI
  rw [if_pos h, ← hi]
  have := Int.ediv_le_ediv hp (show a ≤ g.blocks - 1 by omega)
  omega
 have hs : spanI g (i : Int) = ((i : Int) * g.per, min ((i : Int) * g.per + g.per) g.blocks, 0) := by
  unfold spanI
  rw [if_neg (by rintro (h2 | h2) <;> omega)]
 have hpl : placeI g (i : Int) = ((if (i : Int) = 0 then 2 + g.journal else (i : Int) * g.per), (if (i : Int) = 0 then 2 + g.journal else (i : Int) * g.per) + 1, (if (i : Int) = 0 then 2 + g.journal else (i : Int) * g.per) + 2, (if (i : Int) = 0 then 2 + g.journal else (i : Int) * g.per) + 2 + g.inodes / 2, 0) := by
  unfold placeI
  rw [if_neg (by rw [hs]; simp), hs]
 have hm0 : 0 ≤ (i : Int) * g.per := Int.mul_nonneg (by omega) (by omega)
 have hlast : g.blocks - 1 < (i : Int) * g.per + g.per → (g.blocks - 1) % g.per = g.blocks - 1 - (i : Int) * g.per := fun hl => by
  have e : (g.blocks - 1) / g.per = (i : Int) := by
   have h3 := Int.ediv_le_ediv hp (show a ≤ g.blocks - 1 by omega)
   have h4 : (g.blocks - 1) / g.per < (i : Int) + 1 := by
    apply Int.ediv_lt_of_lt_mul hp
    rw [Int.add_mul, Int.one_mul]; exact hl
   omega
  have h5 := Int.emod_add_mul_ediv (g.blocks - 1) g.per
  rw [e, Int.mul_comm] at h5
  omega
 have hi00 : (i : Int) = 0 → (i : Int) * g.per = 0 := fun e => by rw [e, Int.zero_mul]
 obtain ⟨bm, hbm⟩ : ∃ bm : Nat, (if (i : Int) = 0 then 2 + g.journal else (i : Int) * g.per) = (bm : Int) := ⟨(if (i : Int) = 0 then 2 + g.journal else (i : Int) * g.per).toNat, by split <;> omega⟩
 rw [hbm] at hpl
 generalize (i : Int) * g.per = m at *
 refine ⟨i, m.toNat, (min (m + g.per) g.blocks).toNat, bm, hi, hgr, ?_, hpl, ?_⟩
 ·rw [hs, show ((m.toNat : Nat) : Int) = m by omega, show (((min (m + g.per) g.blocks).toNat : Nat) : Int) = min (m + g.per) g.blocks by omega]
 ·by_cases e0 : (i : Int) = 0
  ·rw [if_pos e0] at hbm
   have := hi00 e0
   omega
  ·rw [if_neg e0] at hbm
   by_cases hl : g.blocks - 1 < m + g.per
   ·have := hlast hl
    omega
   ·omega
def holds : Nat → Nat → St → St
 | 0, _, s => s
 | n + 1, a, s => holds n (a + 1) (s.hold a)
def freeAt (s : St) (x : Sup) (l : List Grp) (i fr zz bm : Nat) (a n : Nat) : St × Int :=
 if (leaveI (dturnI s bm (zz - fr) ((a : Int) - fr) n false).1 s.hist.length (addFb x n) (setFb l i ((grpAt l i).fb + n)) (dturnI s bm (zz - fr) ((a : Int) - fr) n false).2).2 ≠ 0 then
  leaveI (dturnI s bm (zz - fr) ((a : Int) - fr) n false).1 s.hist.length (addFb x n) (setFb l i ((grpAt l i).fb + n)) (dturnI s bm (zz - fr) ((a : Int) - fr) n false).2
 else (holds n a (leaveI (dturnI s bm (zz - fr) ((a : Int) - fr) n false).1 s.hist.length (addFb x n) (setFb l i ((grpAt l i).fb + n)) (dturnI s bm (zz - fr) ((a : Int) - fr) n false).2).1, 0)
def freeI (s : St) (first n : Int) : St × Int :=
 match sitI s.now with
 | none => (s, 117)
 | some (x, l) =>
  if n < 1 ∨ first < 0 ∨ x.geo.blocks ≤ first then (s, 22) else
  if first < (placeI x.geo (first / x.geo.per)).2.2.2.1 ∨ (spanI x.geo (first / x.geo.per)).2.1 - first < n then (s, 22) else
  freeAt s x l (first / x.geo.per).toNat (spanI x.geo (first / x.geo.per)).1.toNat (spanI x.geo (first / x.geo.per)).2.1.toNat (placeI x.geo (first / x.geo.per)).1.toNat first.toNat n.toNat
theorem dturnI_len (s : St) (n m : Nat) (fr ct : Int) (on : Bool) : (dturnI s n m fr ct on).1.now.length = s.now.length ∧ s.hist.length ≤ (dturnI s n m fr ct on).1.hist.length ∧ (dturnI s n m fr ct on).1.hist.length ≤ s.hist.length + 1 := by
 unfold dturnI
 split
 ·exact ⟨by simp [St.write], by simp [St.write], by simp [St.write]⟩
 ·exact ⟨rfl, Nat.le_refl _, Nat.le_succ _⟩
theorem leaveI_len (s : St) (mark : Nat) (x : Sup) (l : List Grp) (e : Int) (h : (leaveI s mark x l e).2 = 0) : (leaveI s mark x l e).1.now.length = s.now.length ∧ (leaveI s mark x l e).1.hist.length ≤ s.hist.length + 2 := by
 unfold leaveI at h ⊢
 by_cases h1 : e ≠ 0
 ·rw [if_pos h1] at h; exact absurd h h1
 ·rw [if_neg h1] at h ⊢
  by_cases h2 : (pgroupsI l).2 ≠ 0 ∨ (psuperI x).2 ≠ 0
  ·rw [if_pos h2] at h; cases h
  ·rw [if_neg h2]
   exact ⟨by simp [St.write], by simp [St.write]⟩
set_option maxHeartbeats 4000000 in
set_option maxRecDepth 100000 in
theorem free_calls {D : Nat → Prop} {s0 : Nat} {s : St} (first n : Int) (w : World) (h : StIs w D s0 s) (hh : s.hist.length ≤ 900000)
  (hf0 : -9223372036854775808 ≤ first) (hf1 : first < 9223372036854775808) (hn0 : -9223372036854775808 ≤ n) (hn1 : n < 9223372036854775808) :
  Calls Tryz.prog 63 #[.pointer (some ⟨s0, 0, none⟩), .int .i64 first, .int .i64 n] w (DoPost D s0 (freeI s first n) w) := by
 have HSIT := Aside0.mk (sit_calls w h)
 have hlen := h.len
 obtain ⟨r, hr⟩ : ∃ r, freeI s first n = r := ⟨_, rfl⟩
 rw [hr]
 have HR := Aside0.mk hr
 have HH := Aside0.mk h
 clear h hr
 go_enter Tryz.func63, Tryz.ntmps63
 go_wp2_with fail
 refine HSIT.out.mono ?_
 rintro e w1 ⟨D1, h1, hd1, hm1, hrest⟩
 have HX := Aside0.mk (And.intro h1 (And.intro hd1 hm1))
 clear h1 hd1 hm1
 cases hsi : sitI s.now with
 | none =>
  rw [hsi] at hrest
  have hl : r = (s, 117) := by rw [← HR.out]; unfold freeI; rw [hsi]
  subst hl
  subst hrest
  clear hsi HR
  dsimp only
  go_wp2
  go_ret
  exact ⟨D1, rfl, HX.out.1, HX.out.2.1, HX.out.2.2⟩
 | some q =>
  obtain ⟨⟨⟨bl, pr, ino, jo⟩, fb, fi, orp, mnt, cl⟩, l⟩ := q
  obtain ⟨x, hx⟩ : ∃ x : Sup, (⟨⟨bl, pr, ino, jo⟩, fb, fi, orp, mnt, cl⟩ : Sup) = x := ⟨_, rfl⟩
  rw [hx] at hsi
  rw [hsi] at hrest
  obtain ⟨k0, gv, rfl, hk, hk0, hgv⟩ := hrest
  have hsat := sitI_sat hsi
  have hr0 : r = if n < 1 ∨ first < 0 ∨ x.geo.blocks ≤ first then (s, 22) else
   if first < (placeI x.geo (first / x.geo.per)).2.2.2.1 ∨ (spanI x.geo (first / x.geo.per)).2.1 - first < n then (s, 22) else
   freeAt s x l (first / x.geo.per).toNat (spanI x.geo (first / x.geo.per)).1.toNat (spanI x.geo (first / x.geo.per)).2.1.toNat (placeI x.geo (first / x.geo.per)).1.toNat first.toNat n.toNat := by
   rw [← HR.out]; unfold freeI; rw [hsi]
  have c1 : w1.cell? ⟨k0, 1, none⟩ = some (.int .i64 bl) := by have := hk.st.cell 1 _ rfl; rw [← hx] at this; exact this
  have c2 : w1.cell? ⟨k0, 2, none⟩ = some (.int .i64 pr) := by have := hk.st.cell 2 _ rfl; rw [← hx] at this; exact this
  have c3 : w1.cell? ⟨k0, 3, none⟩ = some (.int .i64 ino) := by have := hk.st.cell 3 _ rfl; rw [← hx] at this; exact this
  have c4 : w1.cell? ⟨k0, 4, none⟩ = some (.int .i64 jo) := by have := hk.st.cell 4 _ rfl; rw [← hx] at this; exact this
  have hgeo : x.geo = ⟨bl, pr, ino, jo⟩ := by rw [← hx]
  rw [hgeo] at hr0
  dsimp only at hr0
  have HK := Aside0.mk hk
  have HSAT := Aside0.mk hsat
  have HR0 := Aside0.mk hr0
  have HSI := Aside0.mk hsi
  have HGEO := Aside0.mk hgeo
  have hgz := hsat.geo
  rw [hgeo] at hgz
  have hbl := hsat.bl
  rw [hgeo] at hbl
  dsimp only at hbl
  have HGZ := Aside0.mk hgz
  have hzz := geoI_zero hgz
  dsimp only at hzz
  have HBL := Aside0.mk hbl
  have hbl2 : bl ≤ 4096 := hzz.1.2
  clear hbl
  have hpr1 : 32 ≤ pr := hzz.2.1.1
  have hpr2 : pr ≤ 2016 := hzz.2.1.2
  have HGV := Aside0.mk hgv
  clear hk hr0 hsi hgv HR hx hgeo hsat hgz hzz
  dsimp only
  go_upto_region 5 with fail
  have hsc := alloc_last w1 (.cells #[.int .i64 bl, .int .i64 pr, .int .i64 ino, .int .i64 jo] 80)
  have hb2 := below_alloc (Below.refl w1.heap.size w1) (.cells #[.int .i64 bl, .int .i64 pr, .int .i64 ino, .int .i64 jo] 80)
  generalize w1.alloc (.cells #[.int .i64 bl, .int .i64 pr, .int .i64 ino, .int .i64 jo] 80) = W2 at hsc hb2 ⊢
  have hst2 : Strc W2 w1.heap.size 80 [.int .i64 bl, .int .i64 pr, .int .i64 ino, .int .i64 jo] := hsc
  have HST2 := Aside0.mk hst2
  have HB2 := Aside0.mk hb2
  have g0 := hst2.cell 0 _ rfl
  have g1 := hst2.cell 1 _ rfl
  have g2 := hst2.cell 2 _ rfl
  have g3 := hst2.cell 3 _ rfl
  clear hsc hb2 hst2 c1 c2 c3 c4
  by_cases b1 : n < 1
  ·have hl : r = (s, 22) := by rw [HR0.out, if_pos (.inl b1)]
   subst hl
   clear HR0
   go_wp2
   go_ret
   exact ⟨D1, rfl, HX.out.1.below HB2.out, HX.out.2.1, HX.out.2.2.below HB2.out⟩
  ·by_cases b2 : first < 0
   ·have hl : r = (s, 22) := by rw [HR0.out, if_pos (.inr (.inl b2))]
    subst hl
    clear HR0
    go_wp2
    go_ret
    exact ⟨D1, rfl, HX.out.1.below HB2.out, HX.out.2.1, HX.out.2.2.below HB2.out⟩
   ·by_cases b3 : bl ≤ first
    ·have hl : r = (s, 22) := by rw [HR0.out, if_pos (.inr (.inr b3))]
     subst hl
     clear HR0
     go_wp2
     go_ret
     exact ⟨D1, rfl, HX.out.1.below HB2.out, HX.out.2.1, HX.out.2.2.below HB2.out⟩
    ·have hl := HR0.out
     rw [if_neg (by rintro (h | h | h); exact b1 h; exact b2 h; exact b3 h)] at hl
     obtain ⟨a, rfl⟩ : ∃ a : Nat, first = a := ⟨first.toNat, by omega⟩
     obtain ⟨m, rfl⟩ : ∃ m : Nat, n = m := ⟨n.toNat, by omega⟩
     obtain ⟨i, fr, zz, bm, e1, e2, e3, e4, e5, e6, e7, e8, e9, e10, e11⟩ := geo_at HGZ.out (a := (a : Int)) (by omega) (by show (a : Int) < bl; omega)
     dsimp only at e1 e8 e9 e4
     rw [e1, e3, e4] at hl
     simp only [Int.toNat_natCast] at hl
     have hsp : ∀ W : World, Calls Tryz.prog 67 #[.agg #[.int .i64 bl, .int .i64 pr, .int .i64 ino, .int .i64 jo], .int .i64 i] W fun e w' => e = .returned (.tuple #[.int .i64 fr, .int .i64 zz, .int .i64 0]) ∧ Below W.heap.size W w' := fun W => by
      have := span_calls ⟨bl, pr, ino, jo⟩ i W
      rw [e3] at this
      exact this
     have hpl : ∀ W : World, Calls Tryz.prog 68 #[.agg #[.int .i64 bl, .int .i64 pr, .int .i64 ino, .int .i64 jo], .int .i64 i] W fun e w' => e = .returned (.tuple #[.int .i64 bm, .int .i64 ((bm : Int) + 1), .int .i64 ((bm : Int) + 2), .int .i64 ((bm : Int) + 2 + ino / 2), .int .i64 0]) ∧ Below W.heap.size W w' := fun W => by
      have := place_calls ⟨bl, pr, ino, jo⟩ i W
      rw [e4] at this
      exact this
     have HSP := Aside0.mk hsp
     have HPL := Aside0.mk hpl
     have HL := Aside0.mk hl
     have HE2 := Aside0.mk e2
     obtain ⟨da, hda⟩ : ∃ da : Int, (bm : Int) + 2 + ino / 2 = da := ⟨_, rfl⟩
     rw [hda] at HPL HL e8
     have hbd : (bm : Int) < da := by
      have h9 := (geoI_zero HGZ.out).2.2.1.1
      dsimp only at h9
      omega
     have ht : (a : Int).tdiv pr = (i : Int) := by rw [Int.tdiv_eq_ediv_of_nonneg (by omega)]; exact e1
     have hp0 : (pr == 0) = false := by rw [beq_eq_false_iff_ne]; omega
     have hp1 : ¬ pr = 0 := by omega
     have i1 : i < 4096 := by
      have := groupsI_range ⟨bl, pr, ino, jo⟩
      omega
     clear hsp hpl hl e2 e3 e4 HR0 hda
     go_wp2_with fail
     refine (HSP.out W2).mono ?_
     rintro e W3 ⟨rfl, hb3⟩
     have HB3 := Aside0.mk (below_then HB2.out HB2.out.size hb3)
     have hst3 := HST2.out.below hb3
     clear g0 g1 g2 g3
     have g0 := hst3.cell 0 _ rfl
     have g1 := hst3.cell 1 _ rfl
     have g2 := hst3.cell 2 _ rfl
     have g3 := hst3.cell 3 _ rfl
     clear hb3 hst3
     dsimp only
     go_wp2_with fail
     refine (HPL.out W3).mono ?_
     rintro e W4 ⟨rfl, hb4⟩
     have HB4 := Aside0.mk (below_then HB3.out HB3.out.size hb4)
     clear hb4 g0 g1 g2 g3
     dsimp only
     by_cases d1 : (a : Int) < da
     ·have hl := HL.out
      rw [if_pos (.inl d1)] at hl
      subst hl
      clear HL
      go_wp2
      go_ret
      exact ⟨D1, rfl, HX.out.1.below HB4.out, HX.out.2.1, HX.out.2.2.below HB4.out⟩
     ·by_cases d2 : (zz : Int) - (a : Int) < (m : Int)
      ·have hl := HL.out
       rw [if_pos (.inr d2)] at hl
       subst hl
       clear HL
       go_wp2
       go_ret
       exact ⟨D1, rfl, HX.out.1.below HB4.out, HX.out.2.1, HX.out.2.2.below HB4.out⟩
      ·have hl := HL.out
       rw [if_neg (by rintro (h' | h'); exact d1 h'; exact d2 h')] at hl
       obtain ⟨M, hM⟩ : ∃ M : Nat, zz - fr = M := ⟨_, rfl⟩
       have hMi : (zz : Int) - (fr : Int) = (M : Int) := by omega
       have hm4 : m ≤ 4096 := by omega
       have hil : i < l.length := by
        have q1 := HSAT.out.len
        have q2 := HE2.out
        rw [← HGEO.out, ← q1] at q2
        omega
       have hbmN : bm < s.now.length := by have := HBL.out; omega
       have hk4 := HK.out.below HB4.out
       have hgr := HSAT.out.gr i hil
       have hxf := And.intro HSAT.out.f0 HSAT.out.f1
       have hct := counted_calls i (m : Int) W4 hk4 hil (by omega) (by omega) (by omega) (by omega) (by omega) (by omega)
       have HCT := Aside0.mk hct
       have HBMN := Aside0.mk hbmN
       have HK4 := Aside0.mk hk4
       have H4 := Aside0.mk (HX.out.1.below HB4.out)
       have HM4 := Aside0.mk (HX.out.2.2.below HB4.out)
       unfold freeAt at hl
       rw [hM] at hl
       have HL2 := Aside0.mk hl
       clear hl HL hk4 hgr hxf hct hbmN
       go_wp2_with fail
       refine HCT.out.mono ?_
       rintro e W5 ⟨rfl, hk5, hm5⟩
       have h5 := H4.out.mod hm5 (fun k hk e => e.elim (fun e => HK4.out.nk (e ▸ hk)) (fun e => (HK4.out.ng k e).1 hk))
       have hm5' : Mod w W5 D := HM4.out.trans hm5 (fun k hk e => by
        exfalso
        rcases e with e | e
        ·omega
        ·have := HGV.out k e; omega)
       have hdt := dturn_calls bm M ((a : Int) - (fr : Int)) (m : Int) false W5 h5 (hk5.st.cell 0 _ rfl) hk5.nk HBMN.out (by omega) (by omega) (by omega) (by omega) (by omega) (by omega)
       have HDT := Aside0.mk hdt
       have HK5 := Aside0.mk hk5
       have HM5 := Aside0.mk hm5'
       clear hk5 hm5 h5 hm5' hdt
       dsimp only
       go_wp2_with fail
       refine HDT.out.mono ?_
       rintro e W6 ⟨D6, rfl, h6, hD6, hm6⟩
       have hdl := dturnI_len s bm M ((a : Int) - (fr : Int)) (m : Int) false
       obtain ⟨⟨t1, t2⟩, htt⟩ : ∃ t, dturnI s bm M ((a : Int) - (fr : Int)) (m : Int) false = t := ⟨_, rfl⟩
       rw [htt] at h6 hdl HL2 ⊢
       dsimp only at h6 hdl HL2 ⊢
       have hlv := leave_calls t2 W6 h6 (HK5.out.mod hm6 hD6) hdl.2.1 (by omega) (by rw [setFb_length]; have := HSAT.out.l1; omega)
       have hll := leaveI_len t1 s.hist.length (addFb x m) (setFb l i ((grpAt l i).fb + m)) t2
       have hD6' := hd_then HM5.out HX.out.2.1 hD6
       have hm6' := mod_then HM5.out HX.out.2.1 hm6
       obtain ⟨⟨u1, u2⟩, hu⟩ : ∃ u, leaveI t1 s.hist.length (addFb x m) (setFb l i ((grpAt l i).fb + m)) t2 = u := ⟨_, rfl⟩
       rw [hu] at hlv hll HL2
       dsimp only at hll HL2
       have HLV := Aside0.mk hlv
       have HLL := Aside0.mk (And.intro hdl hll)
       have HD6 := Aside0.mk (And.intro hD6' hm6')
       clear h6 hdl hlv hll hD6 hm6 hD6' hm6' htt hu
       go_wp2_with fail
       refine HLV.out.mono ?_
       rintro e W7 ⟨D7, rfl, h7, hD7, hm7⟩
       have HY := Aside0.mk (And.intro h7 (And.intro (hd_then HD6.out.2 HD6.out.1 hD7) (mod_then HD6.out.2 HD6.out.1 hm7)))
       clear h7 hD7 hm7
       dsimp only
       by_cases hu0 : u2 = 0
       ·subst hu0
        have hl := HL2.out
        rw [if_neg (by simp)] at hl
        subst hl
        clear HL2
        go_wp2
        go_loopg [20] m (fun g v wr => ∃ (b : Nat) (sx : St) (Dx : Nat → Prop), v = .int .i64 (b : Nat) ∧ b + g = a + m ∧ sx.now.length = s.now.length ∧ sx.hist.length + g ≤ 920000 ∧ Aside0 (holds m a u1 = holds g b sx) ∧ Aside0 (StIs wr Dx s0 sx) ∧ Aside0 (∀ k, Dx k → D k ∨ w.heap.size ≤ k) ∧ Aside0 (Mod w wr D))
        case atStart =>
         have q1 := HLL.out.1
         have q2 := HLL.out.2 (by first | trivial | rfl)
         exact ⟨a, u1, D7, rfl, by omega, by omega, by omega, ⟨rfl⟩, ⟨HY.out.1⟩, ⟨HY.out.2.1⟩, ⟨HY.out.2.2⟩⟩
        case round =>
         obtain ⟨b, sx, Dx, rfl, hbg, hnl, hhl, HE, HS, HDx, HMx⟩ := hrel
         cases gk with
         | zero =>
          have hb : b = a + m := by omega
          subst hb
          go_wp2
          go_ret
          exact ⟨Dx, rfl, by rw [show holds m a u1 = sx from HE.out]; exact HS.out, HDx.out, HMx.out⟩
         | succ g =>
          have hbN : b < sx.now.length := by have := HBL.out; omega
          have HHO := Aside0.mk (shold_calls b wr HS.out hbN (by omega))
          have hb1 : (b : Int) < (a : Int) + (m : Int) := by omega
          have hb2 : b < a + m := by omega
          have HNL := Aside0.mk (show (sx.hold b).now.length = s.now.length ∧ (sx.hold b).hist.length = sx.hist.length + 1 from ⟨hnl, rfl⟩)
          clear hbN hnl
          go_wp2_with fail
          refine HHO.out.mono ?_
          rintro e W8 ⟨D8, rfl, h8, hD8, hm8⟩
          have HZ := Aside0.mk (And.intro h8 (And.intro (hd_then HMx.out HDx.out hD8) (mod_then HMx.out HDx.out hm8)))
          clear h8 hD8 hm8
          dsimp only
          go_wp2
          go_roundg g
          case measure => omega
          case rel => exact ⟨b + 1, sx.hold b, D8, by go_num, by omega, HNL.out.1, by have := HNL.out.2; omega, HE, ⟨HZ.out.1⟩, ⟨HZ.out.2.1⟩, ⟨HZ.out.2.2⟩⟩
       ·have hl := HL2.out
        rw [if_pos hu0] at hl
        subst hl
        have hub : (u2 != 0) = true := by simpa using hu0
        clear HL2
        go_wp2
        go_ret
        exact ⟨D7, rfl, HY.out.1, HY.out.2.1, HY.out.2.2⟩
def mostL (kind : Int) : List Int := [3, 1, 511, 65535, 65535, 65535, if kind = 3 then 512 else 65536, 4096, -1, -1, -1, 65535, 65535, 65535]
def wideL : List Int := [1, 1, 2, 2, 2, 2, 4, 4, 8, 8, 8, 4, 4, 4]
def fieldC (kind : Int) : List Int := [1, 3, 1, 1, 2, 511, 2, 65535, 2, 65535, 2, 65535, 4, if kind = 3 then 512 else 65536, 4, 4096, 8, -1, 8, -1, 8, -1, 4, 65535, 4, 65535, 4, 65535]
set_option maxHeartbeats 4000000 in
set_option maxRecDepth 100000 in
theorem fields_calls (kind : Int) (w : World) :
  Calls Tryz.prog 126 #[.int .i64 kind] w fun e w' => ∃ g c, e = .returned (.slice (some ⟨g, 0, none⟩) 14 c) ∧ w.heap.size ≤ g ∧ 14 ≤ c ∧ Strc w' g 189 (nums .i64 (fieldC kind)) ∧ Below w.heap.size w w' := by
 by_cases hk : kind = 3
 ·have hkb : (kind == 3) = true := by simpa using hk
  have HK := Aside0.mk (show nums .i64 (fieldC kind) = [.int .i64 1, .int .i64 3, .int .i64 1, .int .i64 1, .int .i64 2, .int .i64 511, .int .i64 2, .int .i64 65535, .int .i64 2, .int .i64 65535, .int .i64 2, .int .i64 65535, .int .i64 4, .int .i64 512, .int .i64 4, .int .i64 4096, .int .i64 8, .int .i64 (-1), .int .i64 8, .int .i64 (-1), .int .i64 8, .int .i64 (-1), .int .i64 4, .int .i64 65535, .int .i64 4, .int .i64 65535, .int .i64 4, .int .i64 65535] by unfold fieldC; rw [if_pos hk]; rfl)
  clear hk
  go_enter Tryz.func126, Tryz.ntmps126
  go_wp2
  go_ret
  refine ⟨w.heap.size, 14, rfl, Nat.le_refl _, Nat.le_refl _, ?_, below_alloc (Below.refl _ _) _⟩
  rw [HK.out]
  exact alloc_last w _
 ·have hkb : (kind == 3) = false := by simpa using hk
  have HK := Aside0.mk (show nums .i64 (fieldC kind) = [.int .i64 1, .int .i64 3, .int .i64 1, .int .i64 1, .int .i64 2, .int .i64 511, .int .i64 2, .int .i64 65535, .int .i64 2, .int .i64 65535, .int .i64 2, .int .i64 65535, .int .i64 4, .int .i64 65536, .int .i64 4, .int .i64 4096, .int .i64 8, .int .i64 (-1), .int .i64 8, .int .i64 (-1), .int .i64 8, .int .i64 (-1), .int .i64 4, .int .i64 65535, .int .i64 4, .int .i64 65535, .int .i64 4, .int .i64 65535] by unfold fieldC; rw [if_neg hk]; rfl)
  clear hk
  go_enter Tryz.func126, Tryz.ntmps126
  go_wp2
  go_ret
  refine ⟨w.heap.size, 14, rfl, Nat.le_refl _, Nat.le_refl _, ?_, below_alloc (Below.refl _ _) _⟩
  rw [HK.out]
  exact alloc_last w _
structure Ino where
 kind : Int
 perm : Int
 uid : Int
 gid : Int
 links : Int
 size : Int
 blocks : Int
 atime : Int
 mtime : Int
 ctime : Int
 next : Int
 parent : Int
 xattr : Int
 indexed : Bool
deriving DecidableEq
def Ino.cells (r : Ino) (rv : Value) : List Value := [.int .i64 r.kind, .int .i64 r.perm, .int .i64 r.uid, .int .i64 r.gid, .int .i64 r.links, .int .i64 r.size, .int .i64 r.blocks, .int .i64 r.atime, .int .i64 r.mtime, .int .i64 r.ctime, .int .i64 r.next, .int .i64 r.parent, .int .i64 r.xattr, .bool r.indexed, rv]
def Ino.nums (r : Ino) : List Int := [r.kind, if r.indexed then 1 else 0, r.perm, r.uid, r.gid, r.links, r.size, r.blocks, r.atime, r.mtime, r.ctime, r.next, r.parent, r.xattr]
theorem infoInt64 : (Tryz.prog.info? 2).map (fun i => (i.zero, i.size, i.bytes)) = some (some (.int .i64 0), 1, 8) := by kernel_rfl
set_option maxHeartbeats 4000000 in
set_option maxRecDepth 100000 in
theorem inums_calls (kind perm uid gid links size blocks atime mtime ctime next parent xattr : Int) (indexed : Bool) (A : Option Addr) (n c : Nat) (w : World) :
  Calls Tryz.prog 125 #[.agg #[.int .i64 kind, .int .i64 perm, .int .i64 uid, .int .i64 gid, .int .i64 links, .int .i64 size, .int .i64 blocks, .int .i64 atime, .int .i64 mtime, .int .i64 ctime, .int .i64 next, .int .i64 parent, .int .i64 xattr, .bool indexed, .slice A n c]] w fun e w' => ∃ v, e = .returned v ∧ Own w' w.heap.size 2 .i64 v (Ino.nums ⟨kind, perm, uid, gid, links, size, blocks, atime, mtime, ctime, next, parent, xattr, indexed⟩) ∧ Below w.heap.size w w' := by
 cases indexed with
 | true =>
  go_enter Tryz.func125, Tryz.ntmps125
  go_wp2
  have hst1 : Strc ((w.alloc (.cells #[.int .i64 kind, .int .i64 perm, .int .i64 uid, .int .i64 gid, .int .i64 links, .int .i64 size, .int .i64 blocks, .int .i64 atime, .int .i64 mtime, .int .i64 ctime, .int .i64 next, .int .i64 parent, .int .i64 xattr, .bool true, .slice A n c] 47)).alloc (.cells #[.int .i64 kind, .int .i64 1, .int .i64 perm, .int .i64 uid, .int .i64 gid, .int .i64 links, .int .i64 size, .int .i64 blocks] 3)) w.heap.size 47 (#[.int .i64 kind, .int .i64 perm, .int .i64 uid, .int .i64 gid, .int .i64 links, .int .i64 size, .int .i64 blocks, .int .i64 atime, .int .i64 mtime, .int .i64 ctime, .int .i64 next, .int .i64 parent, .int .i64 xattr, .bool true, .slice A n c] : Array Value).toList := Strc.below (w := w.alloc _) (alloc_last w _) (below_alloc (Below.refl _ _) _)
  have hst2 : Strc ((w.alloc (.cells #[.int .i64 kind, .int .i64 perm, .int .i64 uid, .int .i64 gid, .int .i64 links, .int .i64 size, .int .i64 blocks, .int .i64 atime, .int .i64 mtime, .int .i64 ctime, .int .i64 next, .int .i64 parent, .int .i64 xattr, .bool true, .slice A n c] 47)).alloc (.cells #[.int .i64 kind, .int .i64 1, .int .i64 perm, .int .i64 uid, .int .i64 gid, .int .i64 links, .int .i64 size, .int .i64 blocks] 3)) (w.heap.size + 1) 3 (nums .i64 [kind, 1, perm, uid, gid, links, size, blocks]) := by
   have := alloc_last (w.alloc (.cells #[.int .i64 kind, .int .i64 perm, .int .i64 uid, .int .i64 gid, .int .i64 links, .int .i64 size, .int .i64 blocks, .int .i64 atime, .int .i64 mtime, .int .i64 ctime, .int .i64 next, .int .i64 parent, .int .i64 xattr, .bool true, .slice A n c] 47)) (.cells #[.int .i64 kind, .int .i64 1, .int .i64 perm, .int .i64 uid, .int .i64 gid, .int .i64 links, .int .i64 size, .int .i64 blocks] 3)
   rw [show ∀ o, (w.alloc o).heap.size = w.heap.size + 1 from fun o => by simp] at this
   exact this
  have hb2 := below_alloc (below_alloc (Below.refl w.heap.size w) (.cells #[.int .i64 kind, .int .i64 perm, .int .i64 uid, .int .i64 gid, .int .i64 links, .int .i64 size, .int .i64 blocks, .int .i64 atime, .int .i64 mtime, .int .i64 ctime, .int .i64 next, .int .i64 parent, .int .i64 xattr, .bool true, .slice A n c] 47)) (.cells #[.int .i64 kind, .int .i64 1, .int .i64 perm, .int .i64 uid, .int .i64 gid, .int .i64 links, .int .i64 size, .int .i64 blocks] 3)
  generalize (w.alloc (.cells #[.int .i64 kind, .int .i64 perm, .int .i64 uid, .int .i64 gid, .int .i64 links, .int .i64 size, .int .i64 blocks, .int .i64 atime, .int .i64 mtime, .int .i64 ctime, .int .i64 next, .int .i64 parent, .int .i64 xattr, .bool true, .slice A n c] 47)).alloc (.cells #[.int .i64 kind, .int .i64 1, .int .i64 perm, .int .i64 uid, .int .i64 gid, .int .i64 links, .int .i64 size, .int .i64 blocks] 3) = W2 at hst1 hst2 hb2 ⊢
  obtain ⟨xs, hxs⟩ : ∃ xs : List Int, [kind, 1, perm, uid, gid, links, size, blocks] = xs := ⟨_, rfl⟩
  have hxl : xs.length = 8 := by rw [← hxs]; rfl
  rw [hxs] at hst2
  have HXS := Aside0.mk (And.intro hxs hxl)
  have HS1 := Aside0.mk hst1
  have HS2 := Aside0.mk hst2
  have HB2 := Aside0.mk hb2
  clear hst1 hst2 hb2 hxs hxl
  go_loopg [4, 6, 26] 8 (fun g v u i wr => ∃ k : Nat, k + g = 8 ∧ i = .int .i64 k ∧ Aside0 (Own wr W2.heap.size 2 .i64 v (xs.take k)) ∧ Aside0 (Below W2.heap.size W2 wr))
  case atStart => exact ⟨0, rfl, rfl, ⟨own_of_nil _ _ _ _⟩, ⟨Below.refl _ _⟩⟩
  case round =>
   obtain ⟨k, hk, rfl, HO, HB⟩ := hrel
   cases gk with
   | zero =>
    have hk8 : k = 8 := by omega
    subst hk8
    have hs1 := HS1.out.below HB.out
    have c7 := hs1.cell 7 _ rfl
    have c8 := hs1.cell 8 _ rfl
    have c9 := hs1.cell 9 _ rfl
    have c10 := hs1.cell 10 _ rfl
    have c11 := hs1.cell 11 _ rfl
    have c12 := hs1.cell 12 _ rfl
    have HLN := Aside0.mk (show (xs.take 8).length = 8 by rw [List.length_take, HXS.out.2]; rfl)
    have HTK := Aside0.mk (show xs.take 8 = xs by rw [List.take_of_length_le (by rw [HXS.out.2]; exact Nat.le_refl _)])
    have HOa := Aside0.mk (fun o => HO.out.below (below_alloc (Below.refl _ _) o))
    have HBa := Aside0.mk (fun o => below_alloc HB.out o)
    obtain ⟨e0, he, hz0, hz1, hz2⟩ := info_parts infoInt64
    clear hs1
    go_wp2_with ((with_reducible refine gate_dst (N := 49) rfl ?_); (refine wpList_append_own _ rfl (.tmp 35) (.tmp 48) 184 rfl W2.heap.size 2 e0 (.int .i64 0) 1 8 Tryz.underlying184 he hz0 hz1 hz2 rfl (by decide) _ _ _ rfl (HOa.out _) ⟨wr.heap.size, 0, none⟩ 6 6 [.int .i64 atime, .int .i64 mtime, .int .i64 ctime, .int .i64 next, .int .i64 parent, .int .i64 xattr] rfl ?c6 ?c1 ?c2 ?c3 ?c4 ?c5 ?_; (case c6 => rfl); (case c1 => (intro j u hj; rw [add_plain]; exact cell_alloc wr _ _ j u (by simpa using hj))); (case c2 => simp [Value.oneCell']); (case c3 => (rw [HLN.out]; simp only [maxLen]; omega)); (case c4 => (rw [HLN.out]; omega)); (case c5 => exact (HBa.out _).size); intro v1 w5 hown1 hgrow1 _; have HO5 := Aside0.mk (own_snoc (ys := [atime, mtime, ctime, next, parent, xattr]) hown1 rfl rfl); have HB5 := Aside0.mk (pw_below_grown (HBa.out _) _ (HBa.out _).size hgrow1 (fun g hg => HO.out.base g hg)); clear hown1 hgrow1 hz0 hz1 hz2 he))
    go_ret
    refine ⟨_, rfl, ?_, below_then HB2.out HB2.out.size HB5.out⟩
    have ho := HO5.out
    rw [HTK.out, ← HXS.out.1] at ho
    exact own_any ho (fun g hg => by have := own_base ho g hg; have := HB2.out.size; omega)
   | succ g =>
    have hk8 : k < 8 := by omega
    have i1 : (k : Int) < 8 := by omega
    have hsn : xs.take (k + 1) = xs.take k ++ [xs.getD k 0] := by
     rw [List.take_succ_eq_append_getElem (by rw [HXS.out.2]; exact hk8)]
     simp [List.getD_eq_getElem?_getD, HXS.out.2, hk8]
    have c1 := (HS2.out.below HB.out).cell k _ (nums_at _ _ _ (by rw [HXS.out.2]; exact hk8))
    obtain ⟨y, hy⟩ : ∃ y, xs.getD k 0 = y := ⟨_, rfl⟩
    rw [hy] at c1 hsn
    have HSN := Aside0.mk hsn
    have HLN := Aside0.mk (show (xs.take k).length = k by rw [List.length_take, HXS.out.2]; omega)
    have HOa := Aside0.mk (fun o => HO.out.below (below_alloc (Below.refl _ _) o))
    have HBa := Aside0.mk (fun o => below_alloc HB.out o)
    obtain ⟨e0, he, hz0, hz1, hz2⟩ := info_parts infoInt64
    clear hsn hy
    go_wp2_with ((with_reducible refine gate_dst (N := 33) rfl ?_); (refine wpList_append_own _ rfl (.tmp 30) (.tmp 32) 184 rfl W2.heap.size 2 e0 (.int .i64 0) 1 8 Tryz.underlying184 he hz0 hz1 hz2 rfl (by decide) _ _ _ rfl (HOa.out _) ⟨wr.heap.size, 0, none⟩ 1 1 [.int .i64 y] rfl ?c6 ?c1 ?c2 ?c3 ?c4 ?c5 ?_; (case c6 => rfl); (case c1 => (intro j u hj; rw [add_plain]; exact cell_alloc wr _ _ j u (by simpa using hj))); (case c2 => simp [Value.oneCell']); (case c3 => (rw [HLN.out]; simp only [maxLen]; omega)); (case c4 => (rw [HLN.out]; omega)); (case c5 => exact (HBa.out _).size); intro v1 w5 hown1 hgrow1 _; have HO5 := Aside0.mk (own_snoc (ys := [y]) hown1 rfl rfl); have HB5 := Aside0.mk (pw_below_grown (HBa.out _) _ (HBa.out _).size hgrow1 (fun g hg => HO.out.base g hg)); clear hown1 hgrow1 hz0 hz1 hz2 he))
    go_roundg g
    case measure => omega
    case rel => exact ⟨k + 1, by omega, by go_num, ⟨by rw [HSN.out]; exact HO5.out⟩, HB5⟩
 | false =>
  go_enter Tryz.func125, Tryz.ntmps125
  go_wp2
  have hst1 : Strc ((w.alloc (.cells #[.int .i64 kind, .int .i64 perm, .int .i64 uid, .int .i64 gid, .int .i64 links, .int .i64 size, .int .i64 blocks, .int .i64 atime, .int .i64 mtime, .int .i64 ctime, .int .i64 next, .int .i64 parent, .int .i64 xattr, .bool false, .slice A n c] 47)).alloc (.cells #[.int .i64 kind, .int .i64 0, .int .i64 perm, .int .i64 uid, .int .i64 gid, .int .i64 links, .int .i64 size, .int .i64 blocks] 3)) w.heap.size 47 (#[.int .i64 kind, .int .i64 perm, .int .i64 uid, .int .i64 gid, .int .i64 links, .int .i64 size, .int .i64 blocks, .int .i64 atime, .int .i64 mtime, .int .i64 ctime, .int .i64 next, .int .i64 parent, .int .i64 xattr, .bool false, .slice A n c] : Array Value).toList := Strc.below (w := w.alloc _) (alloc_last w _) (below_alloc (Below.refl _ _) _)
  have hst2 : Strc ((w.alloc (.cells #[.int .i64 kind, .int .i64 perm, .int .i64 uid, .int .i64 gid, .int .i64 links, .int .i64 size, .int .i64 blocks, .int .i64 atime, .int .i64 mtime, .int .i64 ctime, .int .i64 next, .int .i64 parent, .int .i64 xattr, .bool false, .slice A n c] 47)).alloc (.cells #[.int .i64 kind, .int .i64 0, .int .i64 perm, .int .i64 uid, .int .i64 gid, .int .i64 links, .int .i64 size, .int .i64 blocks] 3)) (w.heap.size + 1) 3 (nums .i64 [kind, 0, perm, uid, gid, links, size, blocks]) := by
   have := alloc_last (w.alloc (.cells #[.int .i64 kind, .int .i64 perm, .int .i64 uid, .int .i64 gid, .int .i64 links, .int .i64 size, .int .i64 blocks, .int .i64 atime, .int .i64 mtime, .int .i64 ctime, .int .i64 next, .int .i64 parent, .int .i64 xattr, .bool false, .slice A n c] 47)) (.cells #[.int .i64 kind, .int .i64 0, .int .i64 perm, .int .i64 uid, .int .i64 gid, .int .i64 links, .int .i64 size, .int .i64 blocks] 3)
   rw [show ∀ o, (w.alloc o).heap.size = w.heap.size + 1 from fun o => by simp] at this
   exact this
  have hb2 := below_alloc (below_alloc (Below.refl w.heap.size w) (.cells #[.int .i64 kind, .int .i64 perm, .int .i64 uid, .int .i64 gid, .int .i64 links, .int .i64 size, .int .i64 blocks, .int .i64 atime, .int .i64 mtime, .int .i64 ctime, .int .i64 next, .int .i64 parent, .int .i64 xattr, .bool false, .slice A n c] 47)) (.cells #[.int .i64 kind, .int .i64 0, .int .i64 perm, .int .i64 uid, .int .i64 gid, .int .i64 links, .int .i64 size, .int .i64 blocks] 3)
  generalize (w.alloc (.cells #[.int .i64 kind, .int .i64 perm, .int .i64 uid, .int .i64 gid, .int .i64 links, .int .i64 size, .int .i64 blocks, .int .i64 atime, .int .i64 mtime, .int .i64 ctime, .int .i64 next, .int .i64 parent, .int .i64 xattr, .bool false, .slice A n c] 47)).alloc (.cells #[.int .i64 kind, .int .i64 0, .int .i64 perm, .int .i64 uid, .int .i64 gid, .int .i64 links, .int .i64 size, .int .i64 blocks] 3) = W2 at hst1 hst2 hb2 ⊢
  obtain ⟨xs, hxs⟩ : ∃ xs : List Int, [kind, 0, perm, uid, gid, links, size, blocks] = xs := ⟨_, rfl⟩
  have hxl : xs.length = 8 := by rw [← hxs]; rfl
  rw [hxs] at hst2
  have HXS := Aside0.mk (And.intro hxs hxl)
  have HS1 := Aside0.mk hst1
  have HS2 := Aside0.mk hst2
  have HB2 := Aside0.mk hb2
  clear hst1 hst2 hb2 hxs hxl
  go_loopg [4, 6, 26] 8 (fun g v u i wr => ∃ k : Nat, k + g = 8 ∧ i = .int .i64 k ∧ Aside0 (Own wr W2.heap.size 2 .i64 v (xs.take k)) ∧ Aside0 (Below W2.heap.size W2 wr))
  case atStart => exact ⟨0, rfl, rfl, ⟨own_of_nil _ _ _ _⟩, ⟨Below.refl _ _⟩⟩
  case round =>
   obtain ⟨k, hk, rfl, HO, HB⟩ := hrel
   cases gk with
   | zero =>
    have hk8 : k = 8 := by omega
    subst hk8
    have hs1 := HS1.out.below HB.out
    have c7 := hs1.cell 7 _ rfl
    have c8 := hs1.cell 8 _ rfl
    have c9 := hs1.cell 9 _ rfl
    have c10 := hs1.cell 10 _ rfl
    have c11 := hs1.cell 11 _ rfl
    have c12 := hs1.cell 12 _ rfl
    have HLN := Aside0.mk (show (xs.take 8).length = 8 by rw [List.length_take, HXS.out.2]; rfl)
    have HTK := Aside0.mk (show xs.take 8 = xs by rw [List.take_of_length_le (by rw [HXS.out.2]; exact Nat.le_refl _)])
    have HOa := Aside0.mk (fun o => HO.out.below (below_alloc (Below.refl _ _) o))
    have HBa := Aside0.mk (fun o => below_alloc HB.out o)
    obtain ⟨e0, he, hz0, hz1, hz2⟩ := info_parts infoInt64
    clear hs1
    go_wp2_with ((with_reducible refine gate_dst (N := 49) rfl ?_); (refine wpList_append_own _ rfl (.tmp 35) (.tmp 48) 184 rfl W2.heap.size 2 e0 (.int .i64 0) 1 8 Tryz.underlying184 he hz0 hz1 hz2 rfl (by decide) _ _ _ rfl (HOa.out _) ⟨wr.heap.size, 0, none⟩ 6 6 [.int .i64 atime, .int .i64 mtime, .int .i64 ctime, .int .i64 next, .int .i64 parent, .int .i64 xattr] rfl ?c6 ?c1 ?c2 ?c3 ?c4 ?c5 ?_; (case c6 => rfl); (case c1 => (intro j u hj; rw [add_plain]; exact cell_alloc wr _ _ j u (by simpa using hj))); (case c2 => simp [Value.oneCell']); (case c3 => (rw [HLN.out]; simp only [maxLen]; omega)); (case c4 => (rw [HLN.out]; omega)); (case c5 => exact (HBa.out _).size); intro v1 w5 hown1 hgrow1 _; have HO5 := Aside0.mk (own_snoc (ys := [atime, mtime, ctime, next, parent, xattr]) hown1 rfl rfl); have HB5 := Aside0.mk (pw_below_grown (HBa.out _) _ (HBa.out _).size hgrow1 (fun g hg => HO.out.base g hg)); clear hown1 hgrow1 hz0 hz1 hz2 he))
    go_ret
    refine ⟨_, rfl, ?_, below_then HB2.out HB2.out.size HB5.out⟩
    have ho := HO5.out
    rw [HTK.out, ← HXS.out.1] at ho
    exact own_any ho (fun g hg => by have := own_base ho g hg; have := HB2.out.size; omega)
   | succ g =>
    have hk8 : k < 8 := by omega
    have i1 : (k : Int) < 8 := by omega
    have hsn : xs.take (k + 1) = xs.take k ++ [xs.getD k 0] := by
     rw [List.take_succ_eq_append_getElem (by rw [HXS.out.2]; exact hk8)]
     simp [List.getD_eq_getElem?_getD, HXS.out.2, hk8]
    have c1 := (HS2.out.below HB.out).cell k _ (nums_at _ _ _ (by rw [HXS.out.2]; exact hk8))
    obtain ⟨y, hy⟩ : ∃ y, xs.getD k 0 = y := ⟨_, rfl⟩
    rw [hy] at c1 hsn
    have HSN := Aside0.mk hsn
    have HLN := Aside0.mk (show (xs.take k).length = k by rw [List.length_take, HXS.out.2]; omega)
    have HOa := Aside0.mk (fun o => HO.out.below (below_alloc (Below.refl _ _) o))
    have HBa := Aside0.mk (fun o => below_alloc HB.out o)
    obtain ⟨e0, he, hz0, hz1, hz2⟩ := info_parts infoInt64
    clear hsn hy
    go_wp2_with ((with_reducible refine gate_dst (N := 33) rfl ?_); (refine wpList_append_own _ rfl (.tmp 30) (.tmp 32) 184 rfl W2.heap.size 2 e0 (.int .i64 0) 1 8 Tryz.underlying184 he hz0 hz1 hz2 rfl (by decide) _ _ _ rfl (HOa.out _) ⟨wr.heap.size, 0, none⟩ 1 1 [.int .i64 y] rfl ?c6 ?c1 ?c2 ?c3 ?c4 ?c5 ?_; (case c6 => rfl); (case c1 => (intro j u hj; rw [add_plain]; exact cell_alloc wr _ _ j u (by simpa using hj))); (case c2 => simp [Value.oneCell']); (case c3 => (rw [HLN.out]; simp only [maxLen]; omega)); (case c4 => (rw [HLN.out]; omega)); (case c5 => exact (HBa.out _).size); intro v1 w5 hown1 hgrow1 _; have HO5 := Aside0.mk (own_snoc (ys := [y]) hown1 rfl rfl); have HB5 := Aside0.mk (pw_below_grown (HBa.out _) _ (HBa.out _).size hgrow1 (fun g hg => HO.out.base g hg)); clear hown1 hgrow1 hz0 hz1 hz2 he))
    go_roundg g
    case measure => omega
    case rel => exact ⟨k + 1, by omega, by go_num, ⟨by rw [HSN.out]; exact HO5.out⟩, HB5⟩
def numOk (r : Ino) (k : Nat) : Bool := decide ((mostL r.kind).getD k 0 < 0) || (decide (0 ≤ r.nums.getD k 0) && decide (r.nums.getD k 0 ≤ (mostL r.kind).getD k 0))
def inoI (r : Ino) (rl : Nat) : Int :=
 if (List.range 14).all (fun k => numOk r k) = true ∧ r.kind ≠ 0 ∧ rl = 48 ∧ (r.kind = 2 ∨ (r.parent = 0 ∧ r.indexed = false)) then 0 else 22
theorem fieldC_len (kind : Int) : (fieldC kind).length = 28 := rfl
theorem field_at (kind : Int) (k : Nat) (h : k < 14) : (fieldC kind).getD (k * 2) 0 = wideL.getD k 0 ∧ (fieldC kind).getD (k * 2 + 1) 0 = (mostL kind).getD k 0 := by
 have : k = 0 ∨ k = 1 ∨ k = 2 ∨ k = 3 ∨ k = 4 ∨ k = 5 ∨ k = 6 ∨ k = 7 ∨ k = 8 ∨ k = 9 ∨ k = 10 ∨ k = 11 ∨ k = 12 ∨ k = 13 := by omega
 rcases this with h | h | h | h | h | h | h | h | h | h | h | h | h | h <;> subst h <;> exact ⟨rfl, rfl⟩
theorem inoI_bad {r : Ino} {n k : Nat} (hk : k < 14) (h : numOk r k = false) : inoI r n = 22 := by
 unfold inoI
 rw [if_neg]
 intro h2
 have := List.all_eq_true.1 h2.1 k (List.mem_range.2 hk)
 rw [h] at this
 cases this
set_option maxHeartbeats 4000000 in
set_option maxRecDepth 100000 in
theorem icheck_calls (kind perm uid gid links size blocks atime mtime ctime next parent xattr : Int) (indexed : Bool) (A : Option Addr) (n c : Nat) (w : World) :
  Calls Tryz.prog 61 #[.agg #[.int .i64 kind, .int .i64 perm, .int .i64 uid, .int .i64 gid, .int .i64 links, .int .i64 size, .int .i64 blocks, .int .i64 atime, .int .i64 mtime, .int .i64 ctime, .int .i64 next, .int .i64 parent, .int .i64 xattr, .bool indexed, .slice A n c]] w fun e w' => e = .returned (.int .i64 (inoI ⟨kind, perm, uid, gid, links, size, blocks, atime, mtime, ctime, next, parent, xattr, indexed⟩ n)) ∧ Below w.heap.size w w' := by
 obtain ⟨r, hr⟩ : ∃ r : Ino, (⟨kind, perm, uid, gid, links, size, blocks, atime, mtime, ctime, next, parent, xattr, indexed⟩ : Ino) = r := ⟨_, rfl⟩
 rw [hr]
 obtain ⟨q, hq⟩ : ∃ q, inoI r n = q := ⟨_, rfl⟩
 rw [hq]
 have HNU := Aside0.mk (fun W => inums_calls kind perm uid gid links size blocks atime mtime ctime next parent xattr indexed A n c W)
 rw [hr] at HNU
 have HFI := Aside0.mk (fun W => fields_calls kind W)
 have hrk : r.kind = kind := by rw [← hr]
 have HRK := Aside0.mk hrk
 have HR := Aside0.mk hr
 have HQ := Aside0.mk hq
 clear hrk hr hq
 go_enter Tryz.func61, Tryz.ntmps61
 go_wp2_with fail
 have hst1 := alloc_last w (.cells #[.int .i64 kind, .int .i64 perm, .int .i64 uid, .int .i64 gid, .int .i64 links, .int .i64 size, .int .i64 blocks, .int .i64 atime, .int .i64 mtime, .int .i64 ctime, .int .i64 next, .int .i64 parent, .int .i64 xattr, .bool indexed, .slice A n c] 47)
 have hb1 := below_alloc (Below.refl w.heap.size w) (.cells #[.int .i64 kind, .int .i64 perm, .int .i64 uid, .int .i64 gid, .int .i64 links, .int .i64 size, .int .i64 blocks, .int .i64 atime, .int .i64 mtime, .int .i64 ctime, .int .i64 next, .int .i64 parent, .int .i64 xattr, .bool indexed, .slice A n c] 47)
 generalize w.alloc (.cells #[.int .i64 kind, .int .i64 perm, .int .i64 uid, .int .i64 gid, .int .i64 links, .int .i64 size, .int .i64 blocks, .int .i64 atime, .int .i64 mtime, .int .i64 ctime, .int .i64 next, .int .i64 parent, .int .i64 xattr, .bool indexed, .slice A n c] 47) = W1 at hst1 hb1 ⊢
 have hst : Strc W1 w.heap.size 47 [.int .i64 kind, .int .i64 perm, .int .i64 uid, .int .i64 gid, .int .i64 links, .int .i64 size, .int .i64 blocks, .int .i64 atime, .int .i64 mtime, .int .i64 ctime, .int .i64 next, .int .i64 parent, .int .i64 xattr, .bool indexed, .slice A n c] := hst1
 have HST := Aside0.mk hst
 have HB1 := Aside0.mk hb1
 clear hst hst1 hb1
 refine (HNU.out W1).mono ?_
 rintro e W2 ⟨v2, rfl, ho2, hb2⟩
 obtain ⟨A2, c2, rfl, hc2, hk2⟩ := ho2.reads
 have hst2 := HST.out.below hb2
 have k0 := hst2.cell 0 _ rfl
 have HST2 := Aside0.mk hst2
 have HB2 := Aside0.mk (below_then HB1.out HB1.out.size hb2)
 have HK2 := Aside0.mk hk2
 clear hst2 hb2 hk2 ho2
 dsimp only
 go_wp2_with fail
 refine (HFI.out W2).mono ?_
 rintro e W3 ⟨gf, cf, rfl, hgf, hcf, hs3, hb3⟩
 have HS3 := Aside0.mk hs3
 have HB3 := Aside0.mk hb3
 clear hs3 hb3 k0
 dsimp only
 go_wp2
 have hnl : r.nums.length = 14 := rfl
 rw [hnl] at hc2 ⊢
 go_loopg [12] 14 (fun g i wr => ∃ k : Nat, k + g = 14 ∧ i = .int .i64 k ∧ Aside0 ((List.range k).all (fun j => numOk r j) = true) ∧ Aside0 (Below W3.heap.size W3 wr))
 case atStart => exact ⟨0, rfl, rfl, ⟨rfl⟩, ⟨Below.refl _ _⟩⟩
 case round =>
  obtain ⟨k, hk, rfl, HA, HB⟩ := hrel
  cases gk with
  | zero =>
   have hk14 : k = 14 := by omega
   subst hk14
   have hs := HST2.out.below (below_then HB3.out HB3.out.size HB.out)
   have d0 := hs.cell 0 _ rfl
   have d14 := hs.cell 14 _ rfl
   have d11 := hs.cell 11 _ rfl
   have d13 := hs.cell 13 _ rfl
   have HPA := Aside0.mk (show r.parent = parent by rw [← HR.out])
   have HIX := Aside0.mk (show r.indexed = indexed by rw [← HR.out])
   clear hs
   by_cases z0 : kind = 0
   ·have z0b : (kind == 0) = true := by simpa using z0
    have hq2 : q = 22 := by rw [← HQ.out]; unfold inoI; rw [if_neg (by rw [HRK.out, HPA.out, HIX.out]; simp [z0])]
    subst hq2
    go_wp2
    go_ret
    exact ⟨rfl, below_then HB2.out HB2.out.size (below_then HB3.out HB3.out.size HB.out)⟩
   ·have z0b : (kind == 0) = false := by simpa using z0
    by_cases n0 : n = 48
    ·have n1 : ((n : Int) != 48) = false := by simp; omega
     by_cases k2 : kind = 2
     ·have k2b : (kind != 2) = false := by simpa using k2
      have hq2 : q = 0 := by rw [← HQ.out]; unfold inoI; rw [if_pos ⟨HA.out, by rw [HRK.out]; exact z0, n0, by rw [HRK.out, HPA.out, HIX.out]; simp [k2]⟩]
      subst hq2
      go_wp2
      go_ret
      exact ⟨rfl, below_then HB2.out HB2.out.size (below_then HB3.out HB3.out.size HB.out)⟩
     ·have k2b : (kind != 2) = true := by simpa using k2
      by_cases p0 : parent = 0
      ·have p0b : (parent != 0) = false := by simpa using p0
       cases indexed with
       | true =>
        have hq2 : q = 22 := by rw [← HQ.out]; unfold inoI; rw [if_neg (by rw [HRK.out, HPA.out, HIX.out]; simp [k2, p0])]
        subst hq2
        go_wp2
        go_ret
        exact ⟨rfl, below_then HB2.out HB2.out.size (below_then HB3.out HB3.out.size HB.out)⟩
       | false =>
        have hq2 : q = 0 := by rw [← HQ.out]; unfold inoI; rw [if_pos ⟨HA.out, by rw [HRK.out]; exact z0, n0, by rw [HRK.out, HPA.out, HIX.out]; simp [k2, p0]⟩]
        subst hq2
        go_wp2
        go_ret
        exact ⟨rfl, below_then HB2.out HB2.out.size (below_then HB3.out HB3.out.size HB.out)⟩
      ·have p0b : (parent != 0) = true := by simpa using p0
       have hq2 : q = 22 := by rw [← HQ.out]; unfold inoI; rw [if_neg (by rw [HRK.out, HPA.out, HIX.out]; simp [k2, p0])]
       subst hq2
       go_wp2
       go_ret
       exact ⟨rfl, below_then HB2.out HB2.out.size (below_then HB3.out HB3.out.size HB.out)⟩
    ·have n1 : ((n : Int) != 48) = true := by simp; omega
     have hq2 : q = 22 := by rw [← HQ.out]; unfold inoI; rw [if_neg (by rw [HRK.out, HPA.out, HIX.out]; simp [n0])]
     subst hq2
     go_wp2
     go_ret
     exact ⟨rfl, below_then HB2.out HB2.out.size (below_then HB3.out HB3.out.size HB.out)⟩
  | succ g =>
   have hk14 : k < 14 := by omega
   have i1 : (k : Int) < 14 := by omega
   have hk3 : Kd.C (Kd.int .i64) wr A2 r.nums.length r.nums := Kd.C_below (Kd.C_below HK2.out HB3.out) HB.out
   obtain ⟨ad, rfl, hx⟩ := C_int_at hk3 k (by rw [hnl]; exact hk14)
   have hs3 := HS3.out.below HB.out
   obtain ⟨f0, f1⟩ := field_at kind k hk14
   have c0 := hs3.cell (k * 2) _ (nums_at _ _ _ (by rw [fieldC_len]; omega))
   have c1 := hs3.cell (k * 2 + 1) _ (nums_at _ _ _ (by rw [fieldC_len]; omega))
   obtain ⟨y, hy⟩ : ∃ y, (fieldC kind).getD (k * 2) 0 = y := ⟨_, rfl⟩
   obtain ⟨m, hm⟩ : ∃ m, (mostL kind).getD k 0 = m := ⟨_, rfl⟩
   obtain ⟨x, hxx⟩ : ∃ x, r.nums.getD k 0 = x := ⟨_, rfl⟩
   rw [hy] at c0
   rw [f1, hm] at c1
   rw [hxx] at hx
   have HOK := Aside0.mk (show numOk r k = (decide (m < 0) || (decide (0 ≤ x) && decide (x ≤ m))) by unfold numOk; rw [HRK.out, hm, hxx])
   clear f0 f1 hy hm hxx hs3 hk3
   have e1 := cell_alloc wr #[.int .i64 y, .int .i64 m] 189 1 _ rfl
   have e2 := pw_cell_below (below_alloc (Below.refl wr.heap.size wr) (.cells #[.int .i64 y, .int .i64 m] 189)) hx
   rcases Int.lt_or_le m 0 with m0 | m0
   ·have m1 : ¬ m ≥ 0 := by omega
    have hok : numOk r k = true := by rw [HOK.out]; simp; omega
    have HA1 := Aside0.mk (show (List.range (k + 1)).all (fun j => numOk r j) = true by rw [List.range_succ, List.all_append, HA.out]; simp [hok])
    clear hok
    go_upto_region 5 with fail
    refine wp_region_in [0, 1, 0, 0, 0, 0, 0, 1, 0, 0, 0, 0, 0, 1, 0, 1, 0, 0, 0] [] (fun w' => w'.cell? ⟨wr.heap.size, 1, none⟩ = some (.int .i64 m) ∧ w'.cell? (ad.add k) = some (.int .i64 x)) (by kernel_rfl) rfl (by kernel_rfl) (fun _ _ _ _ h => h) ⟨e1, e2⟩ ?_
    iterate 19 (first
     | (refine in_off0 (by rfl) ?_; simp only [Act.put, stA, stZ, stS, i64_w, i32_w])
     | (refine in_off1 (by rfl) ?_; simp only [Act.put, stA, stZ, stS, i64_w, i32_w])
     | (refine in_0 (v := ?_) (by rfl) rfl ?_ (a' := ?_) ?_ ?_; rotate_left; (intro w'; go_simp; with_reducible rfl); rotate_left; (simp only [Act.put, stA, stZ, stS, i64_w, i32_w]; rfl))
     | (refine in_1 (v := ?_) (by rfl) rfl ?_ (a' := ?_) ?_ ?_; rotate_left; (rintro w' hs; go_split_ands; go_simp; with_reducible rfl); rotate_left; (simp only [Act.put, stA, stZ, stS, i64_w, i32_w]; rfl)))
    refine in_nil ?_
    go_wp2
    go_roundg g
    case measure => omega
    case rel => exact ⟨k + 1, by omega, by go_num, HA1, ⟨(below_alloc HB.out _).drew⟩⟩
   ·have m1 : m ≥ 0 := m0
    rcases Int.lt_or_le x 0 with x0 | x0
    ·have x1 : x < 0 := x0
     have hq22 : q = 22 := by rw [← HQ.out]; exact inoI_bad hk14 (by rw [HOK.out]; simp; omega)
     subst hq22
     go_upto_region 5 with fail
     refine wp_region_in [0, 1, 0, 0, 0, 0, 0, 1, 0, 0, 0, 0, 0, 1, 0, 1, 0, 0, 0] [] (fun w' => w'.cell? ⟨wr.heap.size, 1, none⟩ = some (.int .i64 m) ∧ w'.cell? (ad.add k) = some (.int .i64 x)) (by kernel_rfl) rfl (by kernel_rfl) (fun _ _ _ _ h => h) ⟨e1, e2⟩ ?_
     iterate 19 (first
      | (refine in_off0 (by rfl) ?_; simp only [Act.put, stA, stZ, stS, i64_w, i32_w])
      | (refine in_off1 (by rfl) ?_; simp only [Act.put, stA, stZ, stS, i64_w, i32_w])
      | (refine in_0 (v := ?_) (by rfl) rfl ?_ (a' := ?_) ?_ ?_; rotate_left; (intro w'; go_simp; with_reducible rfl); rotate_left; (simp only [Act.put, stA, stZ, stS, i64_w, i32_w]; rfl))
      | (refine in_1 (v := ?_) (by rfl) rfl ?_ (a' := ?_) ?_ ?_; rotate_left; (rintro w' hs; go_split_ands; go_simp; with_reducible rfl); rotate_left; (simp only [Act.put, stA, stZ, stS, i64_w, i32_w]; rfl)))
     refine in_nil ?_
     go_wp2
     go_ret
     exact ⟨rfl, below_then HB2.out HB2.out.size (below_then HB3.out HB3.out.size (below_alloc HB.out _).drew)⟩
    ·rcases Int.lt_or_le m x with y0 | y0
     ·have x1 : ¬ x < 0 := by omega
      have x2 : x > m := y0
      have hq22 : q = 22 := by rw [← HQ.out]; exact inoI_bad hk14 (by rw [HOK.out]; simp; omega)
      subst hq22
      go_upto_region 5 with fail
      refine wp_region_in [0, 1, 0, 0, 0, 0, 0, 1, 0, 0, 0, 0, 0, 1, 0, 1, 0, 0, 0] [] (fun w' => w'.cell? ⟨wr.heap.size, 1, none⟩ = some (.int .i64 m) ∧ w'.cell? (ad.add k) = some (.int .i64 x)) (by kernel_rfl) rfl (by kernel_rfl) (fun _ _ _ _ h => h) ⟨e1, e2⟩ ?_
      iterate 19 (first
       | (refine in_off0 (by rfl) ?_; simp only [Act.put, stA, stZ, stS, i64_w, i32_w])
       | (refine in_off1 (by rfl) ?_; simp only [Act.put, stA, stZ, stS, i64_w, i32_w])
       | (refine in_0 (v := ?_) (by rfl) rfl ?_ (a' := ?_) ?_ ?_; rotate_left; (intro w'; go_simp; with_reducible rfl); rotate_left; (simp only [Act.put, stA, stZ, stS, i64_w, i32_w]; rfl))
       | (refine in_1 (v := ?_) (by rfl) rfl ?_ (a' := ?_) ?_ ?_; rotate_left; (rintro w' hs; go_split_ands; go_simp; with_reducible rfl); rotate_left; (simp only [Act.put, stA, stZ, stS, i64_w, i32_w]; rfl)))
      refine in_nil ?_
      go_wp2
      go_ret
      exact ⟨rfl, below_then HB2.out HB2.out.size (below_then HB3.out HB3.out.size (below_alloc HB.out _).drew)⟩
     ·have x1 : ¬ x < 0 := by omega
      have x2 : ¬ x > m := by omega
      have hok : numOk r k = true := by rw [HOK.out]; simp; omega
      have HA1 := Aside0.mk (show (List.range (k + 1)).all (fun j => numOk r j) = true by rw [List.range_succ, List.all_append, HA.out]; simp [hok])
      clear hok
      go_upto_region 5 with fail
      refine wp_region_in [0, 1, 0, 0, 0, 0, 0, 1, 0, 0, 0, 0, 0, 1, 0, 1, 0, 0, 0] [] (fun w' => w'.cell? ⟨wr.heap.size, 1, none⟩ = some (.int .i64 m) ∧ w'.cell? (ad.add k) = some (.int .i64 x)) (by kernel_rfl) rfl (by kernel_rfl) (fun _ _ _ _ h => h) ⟨e1, e2⟩ ?_
      iterate 19 (first
       | (refine in_off0 (by rfl) ?_; simp only [Act.put, stA, stZ, stS, i64_w, i32_w])
       | (refine in_off1 (by rfl) ?_; simp only [Act.put, stA, stZ, stS, i64_w, i32_w])
       | (refine in_0 (v := ?_) (by rfl) rfl ?_ (a' := ?_) ?_ ?_; rotate_left; (intro w'; go_simp; with_reducible rfl); rotate_left; (simp only [Act.put, stA, stZ, stS, i64_w, i32_w]; rfl))
       | (refine in_1 (v := ?_) (by rfl) rfl ?_ (a' := ?_) ?_ ?_; rotate_left; (rintro w' hs; go_split_ands; go_simp; with_reducible rfl); rotate_left; (simp only [Act.put, stA, stZ, stS, i64_w, i32_w]; rfl)))
      refine in_nil ?_
      go_wp2
      go_roundg g
      case measure => omega
      case rel => exact ⟨k + 1, by omega, by go_num, HA1, ⟨(below_alloc HB.out _).drew⟩⟩
section
variable {P : Program} {l n : Nat} {ops : Array Oper} {Q : Exit → Act → World → Prop} {S : World → Prop} {ds : List Nat}
def noDefer (ops : Array Oper) : Bool := ops.all fun o => match o.op with
 | .defer _ => false
 | _ => true
theorem noDefer_spec (h : noDefer ops = true) {i : Nat} {o : Oper} (hi : ops[i]? = some o) : ∀ c, o.op ≠ .defer c := by
 intro c hc
 obtain ⟨hlt, e⟩ := Array.getElem?_eq_some_iff.1 hi
 have h2 := Array.all_eq_true.1 h i hlt
 rw [e, hc] at h2
 cases h2
theorem operIn_of_wp {o : Oper} {a : Act} {w : World} {K : Act → World → Prop} (hd : ∀ c, o.op ≠ .defer c) (h : o.wp P a w K Q) : o.wpIn (Fence.wide.inRound l) n P a w K Q := by
 refine ⟨fun _ _ => trivial, ?_⟩
 rw [Fence.inRound_round, Oper.semAt_some l _ o hd]
 unfold Oper.wp at h
 generalize (execOp a.eval o).run P w = r at h ⊢
 cases r with
 | ok x w' =>
  cases x
  case value v => exact h
  case skip => exact h
  case defer d => exact h
  case enter f args => exact ⟨fun h' => (by cases h'), CallsIn.inRound l (callsIn_wide.2 h)⟩
  case row r args =>
   refine ⟨fun h' => (by cases h'), fun c cs hr => ?_⟩
   obtain ⟨v, w'', h1, h2⟩ := h c cs
   exact ⟨v, w'', h1, stepsIn_wide.2 h2⟩
  all_goals exact h.elim
 | halt x w' => cases x <;> exact h
theorem opIn_of_wpOp {i : Nat} {a : Act} {w : World} {K : Act → World → Prop} (hd : noDefer ops = true) (hno : ¬ LetsOut Q) (h : wpOp P ops Q i K a w) : wpOpIn (Fence.wide.inRound l) n P ops Q i K a w := by
 unfold wpOp at h
 unfold wpOpIn
 cases ho : ops[i]? with
 | none => rw [ho] at h; exact h
 | some o =>
  rw [ho] at h
  dsimp only at h ⊢
  by_cases hw : Region.wanted o (yielded ops a.tmps) = true
  ·rw [if_pos hw] at h ⊢
   rcases h with h | h
   ·exact operIn_of_wp (noDefer_spec hd ho) h
   ·exact absurd h.2 hno
  ·rw [if_neg hw] at h ⊢
   exact ⟨fun _ _ => trivial, h⟩
theorem anyIn_of_any {md : Region.Mode} (hd : noDefer ops = true) (hno : ¬ LetsOut Q) : ∀ (fuel : Nat) (listed : Array Bool) (a : Act) (w : World), wpAny P md ops Q fuel listed a w → wpAnyIn (Fence.wide.inRound l) n P md ops Q fuel listed a w
 | 0, _, _, _, h => h
 | fuel + 1, _, _, _, h => ⟨h.1, fun i hi => wpOpIn_mono (fun a' w' h' => anyIn_of_any hd hno fuel _ a' w' h') (opIn_of_wpOp hd hno (h.2 i hi))⟩
def noOut (Q : Exit → Act → World → Prop) : Exit → Act → World → Prop
 | .outgrown, _, _ => False
 | .normal, a, w => Q .normal a w
 | .exit id, a, w => Q (.exit id) a w
 | .goto l, a, w => Q (.goto l) a w
 | .ret, a, w => Q .ret a w
 | .panic c, a, w => Q (.panic c) a w
theorem noOut_not (Q : Exit → Act → World → Prop) : ¬ LetsOut (noOut Q) := fun ⟨_, _, h⟩ => h
theorem noOut_le {Q : Exit → Act → World → Prop} : ∀ e a w, noOut Q e a w → Q e a w
 | .outgrown, _, _, h => h.elim
 | .normal, _, _, h => h
 | .exit _, _, _, h => h
 | .goto _, _, _, h => h
 | .ret, _, _, h => h
 | .panic _, _, _, h => h
theorem noOut_normal {Q : Exit → Act → World → Prop} {a : Act} {w : World} (h : Q .normal a w) : noOut Q .normal a w := h
theorem wpR_region_in {id : Nat} {l0 : List Oper} {a : Act} {w : World} (ks : List Nat) (ds : List Nat) (S : World → Prop) (hd : noDefer l0.toArray = true) (hm : P.follows .mixedOrders = true) (hl : ks.length = l0.length) (ho : ordB .any l0.toArray ds l0.toArray.size 0 ks = true)
  (hQ : ∀ c (a : Act) t w, Q (.panic c) { a with tmps := t } w → Q (.panic c) a w) (hS : S w.drew) (h : wpIn P l0.toArray (noOut Q) S ks l0 a w.drew) : (Code.region id l0.toArray true).wpIn (Fence.wide.inRound l) n P Q a w := by
 refine Go.wpIn_mono (wpIn_region_any hm (anyIn_of_any hd (noOut_not Q) _ _ _ _ (wpAny_of_last (S := S) (ds := ds) _ _ _ _ ?_))) noOut_le
 have := wpIn_sound (P := P) (md := .any) (ops := l0.toArray) (S := S) (ds := ds) (Q := noOut Q) hQ ks 0 l0 a w.drew hl (by simp) (fun j => by simp) ho hS h
 have e : flg l0.toArray.size 0 = Array.replicate l0.toArray.size false := by simp [flg]
 rw [e] at this
 have e2 : l0.length = l0.toArray.size := by simp
 rw [e2] at this
 exact this
end
def keptPost (B : Nat) (I : Nat → World → Prop) (Ix : Code → World → Prop) (k : Nat) (W : World) : Exit → Act → World → Prop
 | .normal, _, W' => (W'.heap[B]? = W.heap[B]? ∧ W'.heap[B + 1]? = W.heap[B + 1]?) ∧ I k W'
 | .ret, _, W' => (W'.heap[B]? = W.heap[B]? ∧ W'.heap[B + 1]? = W.heap[B + 1]?) ∧ Ix .ret W'
 | .exit id, _, W' => (W'.heap[B]? = W.heap[B]? ∧ W'.heap[B + 1]? = W.heap[B + 1]?) ∧ Ix (.exit id) W'
 | .goto _, _, _ => False
 | .panic _, _, _ => False
 | .outgrown, _, _ => False
theorem wp_rangeFunc_kept {P : Program} {n : Nat} {α : Type} {g : Operand} {ps : Array Tmp} {assign body : Code} {Q : Exit → Act → World → Prop} {a : Act} {w : World}
  {gf : Nat} {lb : Array Value} (hg : a.eval g = .func (.func gf) #[] lb) (eg : ∀ args w, (callFunc gf args).run P w = .ok (.enter gf args) w)
  {encs : α → Array Value} (hps : ∀ x, (encs x).size = ps.size) (xs : List α)
  (I : Nat → World → Prop) (Ix : Code → World → Prop)
  (hI : ∀ k W b o, (b = w.heap.size ∨ b = w.heap.size + 1) → I k W → I k (W.putObj b o))
  (hIx : ∀ c W b o, (b = w.heap.size ∨ b = w.heap.size + 1) → Ix c W → Ix c (W.putObj b o))
  (hIb : ∀ k W W', I k W → Below W.heap.size W W' → I k W') (h0 : I 0 w) {a₁ : α → Act}
  (hassign : ∀ (l : Nat) (x : α) (W : World) (K : Act → World → Prop), K (a₁ x) W →
   assign.wpIn (Fence.wide.inRound l) n P (Exit.then K (fun _ _ _ => False)) { tmps := (ps.zip (encs x)).foldl (fun t (p, v) => t.setIfInBounds p v) a.tmps, defers := [] } W)
  (hbody : ∀ (l k : Nat) (x : α) (W : World), xs[k]? = some x → I k W → w.heap.size + 1 < W.heap.size → body.wpIn (Fence.wide.inRound l) n P (keptPost w.heap.size I Ix (k + 1) W) (a₁ x) W)
  (hiter : ∀ (Y : Nat → World → Prop) (N : World → Prop) (W1 : World), (∀ k W, Y k W → I k W) → (∀ k W W', Y k W → Below W.heap.size W W' → Y k W') → Y 0 W1 →
   (∀ k x W, xs[k]? = some x → Y k W → YieldAt Fence.wide n P (w.heap.size + 1) (encs x) W fun e W' => (e = .returned (.bool true) ∧ Y (k + 1) W') ∨ (e = .returned (.bool false) ∧ N W')) →
   CallsIn Fence.wide n P gf (#[.func (.yield (w.heap.size + 1)) #[] #[]] ++ lb) W1 fun e W' => (∃ v, e = .returned v) ∧ (Y xs.length W' ∨ N W'))
  (hdone : ∀ W : World, w.heap.size < W.heap.size → I xs.length W → W.heap[w.heap.size]? = some (.deferred (some [])) → Q .normal { a with defers := { target := .collected w.heap.size, args := #[] } :: a.defers } W)
  (hstop : ∀ (c : Code) (W : World), w.heap.size < W.heap.size → Ix c W → W.heap[w.heap.size]? = some (.deferred (some [])) → c.wpIn Fence.wide n P Q { a with defers := { target := .collected w.heap.size, args := #[] } :: a.defers } W) :
  (Code.rangeFunc g ps assign body).wpIn Fence.wide n P Q a w := by
 refine wpIn_rangeFunc ?_
 intro fn hfn
 obtain ⟨rec, hrec⟩ : ∃ rec : LoopState → Option Code → Loop, rec = fun st pe => { state := st, pending := pe, fn, tmps := a.tmps, params := ps, assign, body, defers := w.heap.size } := ⟨_, rfl⟩
 obtain ⟨W1, hW1⟩ : ∃ W1, (w.alloc (.deferred (some []))).alloc (.loop (rec .ready none)) = W1 := ⟨_, rfl⟩
 have hL1 : W1.heap[w.heap.size + 1]? = some (.loop (rec .ready none)) := by
  rw [← hW1]; have := World.alloc_heap_new (w.alloc (.deferred (some []))) (.loop (rec .ready none)); rwa [World.size_alloc] at this
 have hK1 : W1.heap[w.heap.size]? = some (.deferred (some [])) := by
  rw [← hW1]; exact (Below.heap_alloc _ _ _ (by simp)).trans (World.alloc_heap_new w _)
 have hb1 : Below w.heap.size w W1 := by
  rw [← hW1]; exact ((Below.refl _ w).alloc (Nat.le_refl _) _).alloc (by simp) _
 have hI1 : I 0 W1 := hIb _ _ _ h0 hb1
 refine ⟨w.heap.size + 1, [{ target := .collected w.heap.size, args := #[] }], W1, { target := .fn (.func gf) lb, args := #[.func (.yield (w.heap.size + 1)) #[] #[]] }, W1, gf,
  #[.func (.yield (w.heap.size + 1)) #[] #[]] ++ lb, W1, ?_, ?_, ?_, ?_, fun h => (by cases h), ?_⟩
 ·rw [← hW1, hrec]; exact run_enterLoop_outer _ _ _ _ _
 ·simp only [resolve, hg]
  simp [go_sem]
 ·intro f' hf'; trivial
 ·simp [invoke, go_sem, eg]
 ·refine CallsIn.mono (callsIn_wide.2 (callsIn_wide.1 (hiter
   (fun k W => I k W ∧ W.heap[w.heap.size + 1]? = some (.loop (rec .ready none)) ∧ W.heap[w.heap.size]? = some (.deferred (some [])))
   (fun W => ∃ c, Ix c W ∧ W.heap[w.heap.size + 1]? = some (.loop (rec .done (some c))) ∧ W.heap[w.heap.size]? = some (.deferred (some [])))
   W1 (fun k W h => h.1)
   (fun k W W' h hb => ⟨hIb _ _ _ h.1 hb, (hb.block _ (lt_of_obj h.2.1)).trans h.2.1, (hb.block _ (lt_of_obj h.2.2)).trans h.2.2⟩)
   ⟨hI1, hL1, hK1⟩ ?_))) ?_
  ·rintro k x W hx ⟨hi, hl, hk⟩
   have hlt : w.heap.size + 1 < W.heap.size := lt_of_obj hl
   have hy := run_yield (P := P) (args := encs x) hl (by rw [hrec]; exact hps x)
   rw [hrec] at hy
   refine ⟨fn, _, assign, body, hy, roundIn_of_wpIn hfn (hassign _ x W _ ⟨_, run_beginRound hl (by rw [hrec]), ?_⟩)⟩
   have hl2 : (W.putObj (w.heap.size + 1) (.loop { rec .ready none with state := .busy })).heap[w.heap.size + 1]? = some (.loop { rec .ready none with state := .busy }) := World.putObj_heap_same hlt
   have hk2 : (W.putObj (w.heap.size + 1) (.loop { rec .ready none with state := .busy })).heap[w.heap.size]? = some (.deferred (some [])) := (World.putObj_heap_other (by omega)).trans hk
   refine wpIn_mono (hbody _ k x _ hx (hI _ _ _ _ (.inr rfl) hi) (by simpa using hlt)) ?_
   have fin : ∀ (jump : Option Code) (W3 : World), (W3.heap[w.heap.size]? = (W.putObj (w.heap.size + 1) (.loop { rec .ready none with state := .busy })).heap[w.heap.size]? ∧ W3.heap[w.heap.size + 1]? = (W.putObj (w.heap.size + 1) (.loop { rec .ready none with state := .busy })).heap[w.heap.size + 1]?) →
     (Instr.endRound (w.heap.size + 1) jump).run P W3 = .ok (.bool jump.isNone) (W3.putObj (w.heap.size + 1) (.loop (rec (if jump.isNone then .ready else .done) jump))) ∧
     (W3.putObj (w.heap.size + 1) (.loop (rec (if jump.isNone then .ready else .done) jump))).heap[w.heap.size + 1]? = some (.loop (rec (if jump.isNone then .ready else .done) jump)) ∧
     (W3.putObj (w.heap.size + 1) (.loop (rec (if jump.isNone then .ready else .done) jump))).heap[w.heap.size]? = some (.deferred (some [])) := fun jump W3 hk3 => by
    have hl3 := hk3.2.trans hl2
    have := run_endRound (P := P) jump hl3
    rw [hrec] at this ⊢
    exact ⟨this, World.putObj_heap_same (lt_of_obj hl3), (World.putObj_heap_other (by omega)).trans (hk3.1.trans hk2)⟩
   rintro e a3 W3 hp
   cases e with
   | normal =>
    obtain ⟨hk3, hi3⟩ := hp
    obtain ⟨hr, hl4, hk4⟩ := fin none W3 hk3
    exact ⟨_, _, hr, .inl ⟨rfl, hI _ _ _ _ (.inr rfl) hi3, hl4, hk4⟩⟩
   | ret =>
    obtain ⟨hk3, hi3⟩ := hp
    obtain ⟨hr, hl4, hk4⟩ := fin (some .ret) W3 hk3
    exact ⟨_, _, hr, .inr ⟨rfl, .ret, hIx _ _ _ _ (.inr rfl) hi3, hl4, hk4⟩⟩
   | exit id =>
    obtain ⟨hk3, hi3⟩ := hp
    obtain ⟨hr, hl4, hk4⟩ := fin (some (.exit id)) W3 hk3
    exact ⟨_, _, hr, .inr ⟨rfl, .exit id, hIx _ _ _ _ (.inr rfl) hi3, hl4, hk4⟩⟩
   | goto t => exact hp.elim
   | panic ch => exact hp.elim
   | outgrown => exact hp.elim
  ·rintro e W2 ⟨⟨v, rfl⟩, (⟨hi, hl, hk⟩ | ⟨c, hi, hl, hk⟩)⟩
   ·exact ⟨none, _, by have := run_endLoop (P := P) hl (by rw [hrec]; simp); rw [hrec] at this; exact this, hdone _ (by simpa using lt_of_obj hk) (hI _ _ _ _ (.inr rfl) hi) ((World.putObj_heap_other (by omega)).trans hk)⟩
   ·exact ⟨some c, _, by have := run_endLoop (P := P) hl (by rw [hrec]; simp); rw [hrec] at this; exact this, hstop c _ (by simpa using lt_of_obj hk) (hIx _ _ _ _ (.inr rfl) hi) ((World.putObj_heap_other (by omega)).trans hk)⟩
end Go.Proofs.YtkmhilhfmfmckaaGreatDoor.Hand
namespace Go.Proofs.YtkmhilhfmfmckaaGreatDoor.Hand
set_option linter.unusedSimpArgs false
set_option linter.unusedVariables false
open Go.Shelf Go.RowKit Go.Proofs.YtkmhilhfmfmckaaGreatDoorW.PrintWords Go.Proofs.YtkmhilhfmfmckaaGreatDoorW.PrintLast Go.Proofs.YtkmhilhfmfmckaaGreatDoorW.PrintMore
attribute [local go_sem] Oper.semAt_some
theorem roundIn_any {m m' : Nat} {P : Program} {l : Nat} {f : FuncId} {tmps : Array Value} {assign body : Code} {w : World} {R : Ending → World → Prop} (h : RoundIn Fence.wide m P l f tmps assign body w R) : RoundIn Fence.wide m' P l f tmps assign body w R :=
 ⟨h.1, fun c cs _ => h.2 c cs (room_wide _)⟩
theorem round_calls {k0 : Nat} (own : Int) (w : World) :
  Calls Tryz.prog 66 #[.pointer (some ⟨k0, 0, none⟩), .int .i64 own] w fun e w' => e = .returned (.func (.func 133) #[] #[.pointer (some ⟨w.heap.size, 0, none⟩), .pointer (some ⟨w.heap.size + 1, 0, none⟩)]) ∧
   w' = (w.alloc (.cells #[.pointer (some ⟨k0, 0, none⟩)] 117)).alloc (.cells #[.int .i64 own] 3) := by
 go_enter Tryz.func66, Tryz.ntmps66
 go_wp2
 go_ret
 exact ⟨by simp, rfl⟩
set_option maxHeartbeats 1000000 in
theorem round1_iter {m n k0 bk bo l own : Nat} {A : Option Addr} {c : Nat} {Y : Nat → World → Prop} {N : World → Prop} {W : World}
  (hc : ∀ k W, Y k W → W.cell? ⟨bk, 0, none⟩ = some (.pointer (some ⟨k0, 0, none⟩)) ∧ W.cell? ⟨bo, 0, none⟩ = some (.int .i64 own) ∧ W.cell? ⟨k0, 10, none⟩ = some (.slice A n c))
  (h0 : Y 0 W) (hn : n ≤ 14) (ho : own ≤ 100000)
  (hY : ∀ k W, k < n → Y k W → YieldAt Fence.wide m Tryz.prog l #[.int .i64 ((own + k) % n : Nat)] W fun e W' => (e = .returned (.bool true) ∧ Y (k + 1) W') ∨ (e = .returned (.bool false) ∧ N W')) :
  CallsIn Fence.wide m Tryz.prog 133 #[.func (.yield l) #[] #[], .pointer (some ⟨bk, 0, none⟩), .pointer (some ⟨bo, 0, none⟩)] W fun e W' => (∃ v, e = .returned v) ∧ (Y n W' ∨ N W') := by
 obtain ⟨c1, c2, c3⟩ := hc 0 W h0
 have HC := Aside0.mk hc
 have HY := Aside0.mk hY
 have H0 := Aside0.mk h0
 clear hc hY h0
 refine callsIn_of_wp Tryz.func133 rfl trivial ?_ rfl
 simp only [Tryz.ntmps133, List.size_toArray, List.length_cons, List.length_nil, Nat.reduceAdd, Nat.reduceSub, Array.replicate_succ, Array.replicate_zero, List.push_toArray, List.append_toArray, List.nil_append, List.cons_append]
 gi_wp2
 gi_loopg [12] n (fun g v wr => ∃ k : Nat, v = .int .i64 (k : Nat) ∧ k + g = n ∧ Aside0 (Y k wr))
 case atStart => exact ⟨0, rfl, by omega, H0⟩
 case round =>
  obtain ⟨k, rfl, hkg, hy⟩ := hrel
  clear c1 c2 c3 H0
  obtain ⟨c1, c2, c3⟩ := HC.out k wr hy.out
  cases gk with
  | zero =>
   have hk : k = n := by omega
   subst hk
   have hy' := hy
   clear HY hy HC
   gi_wp2
   go_end0
   exact ⟨⟨_, rfl⟩, .inl hy'.out⟩
  | succ g =>
   have hkn : k < n := by omega
   obtain ⟨i, hi⟩ : ∃ i, (own + k) % n = i := ⟨_, rfl⟩
   have hil : i < n := by rw [← hi]; exact Nat.mod_lt _ (by omega)
   have ht : ((own : Int) + (k : Int)).tmod (n : Int) = (i : Int) := by
    rw [Int.tmod_eq_emod_of_nonneg (by omega), ← hi]
    simp
   have hyy := HY.out k wr hkn hy.out
   rw [hi] at hyy
   obtain ⟨fn, tmps, assign, body, hy', hR⟩ := hyy
   have HRR := Aside0.mk hR
   have i0 : ¬ (n : Int) = 0 := by omega
   have i1 : (k : Int) < (n : Int) := by omega
   have i2 : ((n : Int) == 0) = false := by rw [beq_eq_false_iff_ne]; omega
   have i3 : ¬ n = 0 := by omega
   clear hR hy HY HC hi
   gi_wp2
   refine ⟨fun h => (by cases h), (roundIn_any HRR.out).mono ?_⟩
   rintro e W3 (⟨rfl, hJ⟩ | ⟨rfl, hN⟩)
   ·have HJ := Aside0.mk hJ
    clear hJ
    gi_wp2
    gi_roundg g
    case measure => omega
    case rel => exact ⟨k + 1, by go_num, by omega, HJ⟩
   ·have HN := Aside0.mk hN
    clear hN
    gi_wp2
    refine bodyPost_ret (results_none rfl _ _ _) rfl ?_
    exact ⟨⟨_, rfl⟩, .inr HN.out⟩
end Go.Proofs.YtkmhilhfmfmckaaGreatDoor.Hand
