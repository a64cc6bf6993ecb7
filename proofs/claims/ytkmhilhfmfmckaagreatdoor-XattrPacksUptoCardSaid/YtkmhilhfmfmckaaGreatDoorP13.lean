/- Own texts and printed words of the kit, put together and trimmed by a program of mine (merge.py). -/
import Derived.Test.YtkmhilhfmfmckaaGreatDoorP12
namespace Go.Proofs.YtkmhilhfmfmckaaGreatDoor.Hand
set_option linter.unusedSimpArgs false
set_option linter.unusedVariables false
open Go.Shelf Go.RowKit Go.Proofs.YtkmhilhfmfmckaaGreatDoorW.PrintWords Go.Proofs.YtkmhilhfmfmckaaGreatDoorW.PrintLast Go.Proofs.YtkmhilhfmfmckaaGreatDoorW.PrintMore
set_option maxHeartbeats 4000000 in
set_option maxRecDepth 100000 in
theorem make_calls {D : Nat → Prop} {p m : Nat} {L : List (List Int)} (g : Geo) (w : World) (h : DiskIs w D p L m) (hD : ∀ k, D k → k < w.heap.size) (hL : (L.length : Int) = g.blocks) (hok : MkOk g) (hm : m ≤ 900000) :
    Calls Tryz.prog 46 #[.pointer (some ⟨p, 0, none⟩), g.v] w fun e w' => e = .returned (.int .i64 0) ∧ ∃ D', DiskIs w' D' p (mkI g L) 0 ∧ (∀ k, D' k → (D k ∨ w.heap.size ≤ k) ∧ k < w'.heap.size) ∧ Mod w w' D := by
  obtain ⟨bl, pr, ino, jo⟩ := g
  have hzz0 := geoI_zero hok.geo
  dsimp only at hzz0
  obtain ⟨I, rfl⟩ : ∃ I : Nat, ino = I := ⟨ino.toNat, by omega⟩
  clear hzz0
  have hzz := geoI_zero hok.geo
  have hgr := groupsI_range ⟨bl, pr, (I : Int), jo⟩
  dsimp only at hzz hL
  obtain ⟨n, hn⟩ : ∃ n : Nat, groupsI ⟨bl, pr, (I : Int), jo⟩ = (n : Int) := ⟨(groupsI ⟨bl, pr, (I : Int), jo⟩).toNat, by omega⟩
  have hgrps := hok.grps
  have hsup := hok.sup
  have hr : mkI ⟨bl, pr, (I : Int), jo⟩ L = ((mkGo ⟨bl, pr, (I : Int), jo⟩ L n).set 1 (pgroupsI (mkGrps ⟨bl, pr, (I : Int), jo⟩ n)).1).set 0 (psuperI ⟨⟨bl, pr, (I : Int), jo⟩, mkFb ⟨bl, pr, (I : Int), jo⟩ n, n * (I : Int), 0, 0, false⟩).1 := by
    unfold mkI mkSup
    rw [hn, Int.toNat_natCast]
  unfold mkSup at hsup
  rw [hn, Int.toNat_natCast] at hgrps hsup
  dsimp only at hsup
  rw [hr]
  clear hr
  have hn14 : n ≤ 14 := by omega
  have HOK := Aside0.mk hok
  have HN := Aside0.mk hn
  have HPK := Aside0.mk (And.intro hgrps hsup)
  have HLL := Aside0.mk hL
  obtain ⟨hdc, hdlo, hdhi, hdp, hdl⟩ := h.n
  obtain ⟨q, hq⟩ : ∃ q, w.heap.size = q := ⟨_, rfl⟩
  have HH := Aside0.mk (And.intro h hD)
  have HGE := Aside0.mk (fun W : World => geo_calls ⟨bl, pr, (I : Int), jo⟩ W)
  rw [hok.geo] at HGE
  have HGR := Aside0.mk (fun W : World => groups_calls ⟨bl, pr, (I : Int), jo⟩ W)
  rw [hn] at HGR
  have hI2 : I ≤ 512 := by omega
  have HZ := Aside0.mk hzz
  clear h hD hok hn hgrps hsup hgr hzz hdc
  unfold Geo.v at HGE HGR ⊢
  dsimp only at HGE HGR ⊢
  go_enter Tryz.func46, Tryz.ntmps46
  go_upto_region 1 with fail
  have hs0 : Strc (w.alloc (.cells #[.int .i64 bl, .int .i64 pr, .int .i64 I, .int .i64 jo] 80)) q 80 [.int .i64 bl, .int .i64 pr, .int .i64 I, .int .i64 jo] := by
    rw [← hq]; exact alloc_last w _
  have hb0 := below_alloc (Below.refl w.heap.size w) (.cells #[.int .i64 bl, .int .i64 pr, .int .i64 I, .int .i64 jo] 80)
  have hz0 : (w.alloc (.cells #[.int .i64 bl, .int .i64 pr, .int .i64 I, .int .i64 jo] 80)).heap.size = q + 1 := by simp [hq]
  generalize w.alloc (.cells #[.int .i64 bl, .int .i64 pr, .int .i64 I, .int .i64 jo] 80) = w0 at hs0 hb0 hz0 ⊢
  have HB0 := Aside0.mk hb0.drew
  have HS0 := Aside0.mk (hs0.below (below_drew (Below.refl w0.heap.size w0)))
  have hz0d : w0.drew.heap.size = q + 1 := hz0
  have c0 := HS0.out.cell 0 _ rfl
  have c1 := HS0.out.cell 1 _ rfl
  have c2 := HS0.out.cell 2 _ rfl
  have c3 := HS0.out.cell 3 _ rfl
  clear hs0 hb0
  refine wp_region_ord [0, 1, 2, 3, 4, 6, 7, 5, 8, 9] [1, 2, 0, 0, 0, 0, 1, 2, 0, 0] (fun w' => w'.cell? ⟨q, 0, none⟩ = some (.int .i64 bl) ∧ w'.cell? ⟨q, 1, none⟩ = some (.int .i64 pr) ∧ w'.cell? ⟨q, 2, none⟩ = some (.int .i64 I) ∧ w'.cell? ⟨q, 3, none⟩ = some (.int .i64 jo)) (by kernel_rfl) rfl (by kernel_rfl) (fun _ _ _ _ h => h) ⟨c0, c1, c2, c3⟩ ?_
  iterate 1 (first
    | (refine inQ_off0 (by rfl) (by rfl) ?_; simp only [Act.put, stA, stZ, stS, i64_w, i32_w])
    | (refine inQ_off1 (by rfl) (by rfl) ?_; simp only [Act.put, stA, stZ, stS, i64_w, i32_w])
    | (refine inQ_0 (v := ?_) (by rfl) (by rfl) rfl ?_ (a' := ?_) ?_ ?_; rotate_left; (intro w'; go_simp; with_reducible rfl); rotate_left; (simp only [Act.put, stA, stZ, stS, i64_w, i32_w]; rfl))
    | (refine inQ_1 (v := ?_) (by rfl) (by rfl) rfl ?_ (a' := ?_) ?_ ?_; rotate_left; (rintro w' hs; go_split_ands; go_simp; with_reducible rfl); rotate_left; (simp only [Act.put, stA, stZ, stS, i64_w, i32_w]; rfl)))
  refine inQ_2 (by rfl) (by rfl) (fun K hK => ?_)
  go_simp
  with_reducible refine (HGE.out _).mono ?_
  rintro e w1 ⟨rfl, hb1⟩
  dsimp only
  have HB1 := Aside0.mk (below_then HB0.out HB0.out.size hb1)
  have HS1 := Aside0.mk (HS0.out.below hb1)
  have hz1 := hb1.size
  rw [hz0d] at hz1
  have hd1 := (HH.out.1.below HB1.out).n.1
  rw [hL] at hd1
  clear c0 c1 c2 c3 hb1
  have c0 := HS1.out.cell 0 _ rfl
  have c1 := HS1.out.cell 1 _ rfl
  have c2 := HS1.out.cell 2 _ rfl
  have c3 := HS1.out.cell 3 _ rfl
  refine hK _ _ ⟨c0, c1, c2, c3⟩ ?_
  clear hK K
  try simp only [Act.put, stA, stZ, stS, i64_w, i32_w]
  iterate 5 (first
    | (refine inQ_off0 (by rfl) (by rfl) ?_; simp only [Act.put, stA, stZ, stS, i64_w, i32_w])
    | (refine inQ_off1 (by rfl) (by rfl) ?_; simp only [Act.put, stA, stZ, stS, i64_w, i32_w])
    | (refine inQ_0 (v := ?_) (by rfl) (by rfl) rfl ?_ (a' := ?_) ?_ ?_; rotate_left; (intro w'; go_simp; with_reducible rfl); rotate_left; (simp only [Act.put, stA, stZ, stS, i64_w, i32_w]; rfl))
    | (refine inQ_1 (v := ?_) (by rfl) (by rfl) rfl ?_ (a' := ?_) ?_ ?_; rotate_left; (rintro w' hs; go_split_ands; go_simp; with_reducible rfl); rotate_left; (simp only [Act.put, stA, stZ, stS, i64_w, i32_w]; rfl)))
  refine inQ_2 (by rfl) (by rfl) (fun K hK => ?_)
  go_simp
  with_reducible refine (dblocks_calls hd1).mono ?_
  rintro e _w ⟨rfl, rfl⟩
  dsimp only
  refine hK _ _ ⟨c0, c1, c2, c3⟩ ?_
  clear hK K hd1
  try simp only [Act.put, stA, stZ, stS, i64_w, i32_w]
  iterate 2 (first
    | (refine inQ_off0 (by rfl) (by rfl) ?_; simp only [Act.put, stA, stZ, stS, i64_w, i32_w])
    | (refine inQ_off1 (by rfl) (by rfl) ?_; simp only [Act.put, stA, stZ, stS, i64_w, i32_w])
    | (refine inQ_0 (v := ?_) (by rfl) (by rfl) rfl ?_ (a' := ?_) ?_ ?_; rotate_left; (intro w'; go_simp; with_reducible rfl); rotate_left; (simp only [Act.put, stA, stZ, stS, i64_w, i32_w]; rfl))
    | (refine inQ_1 (v := ?_) (by rfl) (by rfl) rfl ?_ (a' := ?_) ?_ ?_; rotate_left; (rintro w' hs; go_split_ands; go_simp; with_reducible rfl); rotate_left; (simp only [Act.put, stA, stZ, stS, i64_w, i32_w]; rfl)))
  refine inP_nil ?_
  go_upto_region 5 with fail
  obtain ⟨z, hz⟩ : ∃ z, w1.heap.size = z := ⟨_, rfl⟩
  have hs2 : Strc (w1.alloc (.cells #[.int .i64 bl, .int .i64 pr, .int .i64 I, .int .i64 jo, .int .i64 0, .int .i64 0, .int .i64 0, .int .i64 0, .bool false] 121)) z 121 [.int .i64 bl, .int .i64 pr, .int .i64 I, .int .i64 jo, .int .i64 0, .int .i64 0, .int .i64 0, .int .i64 0, .bool false] := by
    rw [← hz]; exact alloc_last w1 _
  have hb2 := below_alloc (Below.refl w1.heap.size w1) (.cells #[.int .i64 bl, .int .i64 pr, .int .i64 I, .int .i64 jo, .int .i64 0, .int .i64 0, .int .i64 0, .int .i64 0, .bool false] 121)
  rw [hz] at hz1 ⊢
  generalize w1.alloc (.cells #[.int .i64 bl, .int .i64 pr, .int .i64 I, .int .i64 jo, .int .i64 0, .int .i64 0, .int .i64 0, .int .i64 0, .bool false] 121) = w2 at hs2 hb2 ⊢
  have HB2 := Aside0.mk (below_then HB1.out HB1.out.size hb2)
  have hsq2 := HS1.out.below hb2
  have HS2 := Aside0.mk (And.intro hsq2 hs2)
  clear c0 c1 c2 c3
  have c0 := hsq2.cell 0 _ rfl
  have c1 := hsq2.cell 1 _ rfl
  have c2 := hsq2.cell 2 _ rfl
  have c3 := hsq2.cell 3 _ rfl
  clear hs2 hb2 hsq2 HS1 HB0 HB1 HS0 hz
  go_wp2_with fail
  refine (HGR.out w2).mono ?_
  rintro e w3 ⟨rfl, hb3⟩
  have HB3 := Aside0.mk (below_then HB2.out HB2.out.size hb3)
  have HS3 := Aside0.mk (And.intro (HS2.out.1.below hb3) (HS2.out.2.below hb3))
  clear c0 c1 c2 c3 hb3 HS2 HB2
  dsimp only
  go_wp2
  go_loopg [5, 39] n (fun gq v5 v39 wr => ∃ (k : Nat) (D' : Nat → Prop) (m' : Nat), k + gq = n ∧ v39 = .int .i64 (k : Nat) ∧ m' ≤ m + k * 600 ∧ Aside0 (DiskIs wr D' p (mkGo ⟨bl, pr, (I : Int), jo⟩ L k) m') ∧ Aside0 (∀ j, D' j → (D j ∨ q ≤ j) ∧ j < wr.heap.size) ∧
    Aside0 (¬ D' q ∧ ¬ D' z ∧ ∀ g', v5.ownBlock = some g' → ¬ D' g' ∧ g' ≠ q ∧ g' ≠ z ∧ q ≤ g') ∧ Aside0 (OwnG wr 0 v5 (mkGrps ⟨bl, pr, (I : Int), jo⟩ k)) ∧ Aside0 (Mod w wr D) ∧
    Aside0 (Strc wr q 80 [.int .i64 bl, .int .i64 pr, .int .i64 I, .int .i64 jo] ∧ Strc wr z 121 [.int .i64 bl, .int .i64 pr, .int .i64 I, .int .i64 jo, .int .i64 (mkFb ⟨bl, pr, (I : Int), jo⟩ k), .int .i64 (k * (I : Int)), .int .i64 0, .int .i64 0, .bool false]))
  case atStart =>
    have hDD := HH.out.2
    refine ⟨0, D, m, by omega, rfl, by omega, ⟨HH.out.1.below HB3.out⟩, ⟨fun j hj => ⟨.inl hj, by have := hDD j hj; have := HB3.out.size; omega⟩⟩, ⟨fun hd => by have := hDD _ hd; omega, fun hd => by have := hDD _ hd; omega, fun g' hg => by simp [Value.ownBlock] at hg⟩, ⟨own_nil _ _ _ _⟩, ⟨Mod.of_below HB3.out D⟩, ⟨HS3.out.1, ?_⟩⟩
    have := HS3.out.2
    simpa [mkFb] using this
  case round =>
    obtain ⟨k, D', m', hkn, rfl, hmk, HDK, HDD, HNN, HOG, HMW, HST⟩ := hrel
    obtain ⟨wo, rfl⟩ : ∃ x, x = wr := ⟨_, rfl⟩
    obtain ⟨A, cg, rfl, hcg, hG⟩ := HOG.out.reads
    have HLN := Aside0.mk (mkGrps_length ⟨bl, pr, (I : Int), jo⟩ k)
    have HGG := Aside0.mk hG
    have c0 := HST.out.1.cell 0 _ rfl
    have c1 := HST.out.1.cell 1 _ rfl
    have c2 := HST.out.1.cell 2 _ rfl
    have c3 := HST.out.1.cell 3 _ rfl
    clear hG
    cases gk with
    | zero =>
      have hk : k = n := by omega
      subst hk
      obtain ⟨fbk, hfbk⟩ : ∃ fbk, mkFb ⟨bl, pr, (I : Int), jo⟩ k = fbk := ⟨_, rfl⟩
      obtain ⟨ki, hki⟩ : ∃ ki : Int, (k : Int) * (I : Int) = ki := ⟨_, rfl⟩
      have hpk := HPK.out
      rw [hfbk, hki] at hpk HST
      have hpg := pgroups_calls A cg (mkGrps ⟨bl, pr, (I : Int), jo⟩ k) wo HGG.out (by rw [HLN.out]; omega)
      have hps := fun W => psuper_calls ⟨⟨bl, pr, (I : Int), jo⟩, fbk, ki, 0, 0, false⟩ W
      have hok1 := pgroupsI_ok hpk.1
      have hok2 := psuperI_ok hpk.2
      obtain ⟨⟨p1, p2⟩, hp⟩ : ∃ p', pgroupsI (mkGrps ⟨bl, pr, (I : Int), jo⟩ k) = p' := ⟨_, rfl⟩
      obtain ⟨⟨s1, s2⟩, hs⟩ : ∃ p', psuperI ⟨⟨bl, pr, (I : Int), jo⟩, fbk, ki, 0, 0, false⟩ = p' := ⟨_, rfl⟩
      have HEP := Aside0.mk (And.intro (And.intro hfbk hki) (And.intro hp hs))
      rw [hp] at hpg hok1 hpk
      rw [hs] at hps hok2 hpk
      dsimp only at hpk hok1 hok2
      obtain ⟨rfl, rfl⟩ := hpk
      dsimp only [Sup.v] at hps
      have HPG := Aside0.mk hpg
      have HPS := Aside0.mk hps
      have HO1 := Aside0.mk hok1
      have HO2 := Aside0.mk hok2
      have HLD := Aside0.mk (mkGo_length ⟨bl, pr, (I : Int), jo⟩ L k)
      obtain ⟨LL, hLL⟩ : ∃ LL, mkGo ⟨bl, pr, (I : Int), jo⟩ L k = LL := ⟨_, rfl⟩
      have HELL := Aside0.mk hLL
      rw [hLL] at HDK HLD
      have hLL2 : LL.length = L.length := HLD.out
      have HSTA := Aside0.mk HST.out
      clear hfbk hki hpg hps hok1 hok2 hp hs hLL
      go_wp2_with fail
      with_reducible refine HPG.out.mono ?_
      rintro e w4 ⟨v4, rfl, hb4, hgood4, _⟩
      obtain ⟨g4, cc4, rfl, hg4, hc4, hr4⟩ := hgood4 rfl
      have HB4 := Aside0.mk hb4
      have hzz4 := HSTA.out.2.below hb4
      clear c0 c1 c2 c3
      have c0 := hzz4.cell 0 _ rfl
      have c1 := hzz4.cell 1 _ rfl
      have c2 := hzz4.cell 2 _ rfl
      have c3 := hzz4.cell 3 _ rfl
      have c4 := hzz4.cell 4 _ rfl
      have c5 := hzz4.cell 5 _ rfl
      have c6 := hzz4.cell 6 _ rfl
      have c7 := hzz4.cell 7 _ rfl
      have c8 := hzz4.cell 8 _ rfl
      dsimp only at hc4 hr4
      rw [HO1.out.1] at hc4
      have HR4 := Aside0.mk hr4
      have HG4 := Aside0.mk hg4
      dsimp only
      rw [HO1.out.1]
      clear hgood4 hb4 hzz4 hr4 hg4
      go_wp2_with fail
      with_reducible refine (HPS.out w4).mono ?_
      rintro e w5 ⟨v5, rfl, hb5, hgood5, _⟩
      obtain ⟨g5, cc5, rfl, hg5, hc5, hr5⟩ := hgood5 rfl
      have HB5 := Aside0.mk (below_then HB4.out HB4.out.size hb5)
      dsimp only at hc5 hr5
      rw [HO2.out.1] at hc5
      have hg5D : ¬ D' g5 := fun hd => by have := (HDD.out _ hd).2; have := HB4.out.size; omega
      have hdw := dwrite_calls 1 ⟨g4, 0, none⟩ cc4 p1 w5 (HDK.out.below HB5.out) (by omega) (by omega) ((HR4.out.below hb5).reads (by rw [HO1.out.1]; omega)) HO1.out.1 HO1.out.2
      rw [show ((1 : Nat) : Int) = 1 from rfl] at hdw
      have HDW := Aside0.mk hdw
      have HR5 := Aside0.mk hr5
      have HG5 := Aside0.mk hg5D
      clear c0 c1 c2 c3 c4 c5 c6 c7 c8 hb5 hgood5 hr5 hg5 hg5D hdw
      dsimp only
      rw [HO2.out.1]
      go_wp2_with fail
      with_reducible refine HDW.out.mono ?_
      rintro e w6 ⟨rfl, hd6, hm6⟩
      have hdw := dwrite_calls 0 ⟨g5, 0, none⟩ cc5 s1 w6 hd6 (by rw [List.length_set]; omega) (by omega) ((HR5.out.mod hm6 HG5.out).reads (by rw [HO2.out.1]; omega)) HO2.out.1 HO2.out.2
      rw [show ((0 : Nat) : Int) = 0 from rfl] at hdw
      have HDW2 := Aside0.mk hdw
      have HM6 := Aside0.mk hm6
      clear hd6 hm6 hdw
      dsimp only
      go_wp2_with fail
      with_reducible refine HDW2.out.mono ?_
      rintro e w7 ⟨rfl, hd7, hm7⟩
      have hD7 : ∀ j, orNew w6 w7 (orNew w5 w6 D') j → (D' j ∨ wo.heap.size ≤ j) ∧ j < w7.heap.size := fun j hj => by
        have s1 := HB5.out.size
        have s2 := HM6.out.size
        have s3 := hm7.size
        rcases hj with (hj | hj) | hj
        · exact ⟨.inl hj, by have := (HDD.out j hj).2; omega⟩
        · exact ⟨.inr (by omega), by omega⟩
        · exact ⟨.inr (by omega), by omega⟩
      have hm57 : Mod wo w7 D' := ((Mod.of_below HB5.out D').trans HM6.out (fun _ _ e => e)).trans hm7 (fun i hi e => e.elim id (fun e => by have := HB5.out.size; exfalso; omega))
      have HFL := Aside0.mk (flush_calls w7 hd7)
      have HX7 := Aside0.mk (And.intro hD7 hm57)
      obtain ⟨D7, hD7e⟩ : ∃ D7, orNew w6 w7 (orNew w5 w6 D') = D7 := ⟨_, rfl⟩
      rw [hD7e] at HX7 HFL
      clear hd7 hm7 hD7 hm57 hD7e
      dsimp only
      go_wp2_with fail
      with_reducible refine HFL.out.mono ?_
      rintro e w8 ⟨rfl, hd8, hm8⟩
      have hm78 : Mod wo w8 (fun j => D' j ∨ wo.heap.size ≤ j) := (HX7.out.2.mono (fun _ _ h => .inl h)).trans hm8 (fun i hi e => (HX7.out.1 i e).1)
      have HX8 := Aside0.mk (And.intro hd8 hm78)
      have HS8 := Aside0.mk hm8.size
      clear hd8 hm8 hm78
      dsimp only
      go_wp2
      go_ret
      rw [HEP.out.1.1, HEP.out.1.2, HEP.out.2.1, HEP.out.2.2, HELL.out]
      refine ⟨rfl, D7, HX8.out.1, fun j hj => ⟨((HX7.out.1 j hj).1).elim (fun h => by rw [hq]; exact (HDD.out j h).1) (fun h => .inr (by have := HMW.out.size; omega)), by have := (HX7.out.1 j hj).2; have := HS8.out; omega⟩, HMW.out.trans HX8.out.2 (fun i hi e => e.elim (fun h => ((HDD.out i h).1).elim id (fun h => by exfalso; omega)) (fun h => by have := HMW.out.size; exfalso; omega))⟩
    | succ go =>
      have i1 : (k : Int) < (n : Int) := by omega
      have hgi : (k : Int) < groupsI ⟨bl, pr, (I : Int), jo⟩ := by rw [HN.out]; exact i1
      obtain ⟨fr, zz, bm, da, e3, e4, e5, e6, e7, e8, e9, e10⟩ := geo_grp2 HOK.out.geo hgi
      dsimp only at e8
      obtain ⟨x1, x2, x3, x4⟩ := mk_is e3 e4
      obtain ⟨b1, hb1e⟩ : ∃ b1, bm + 1 = b1 := ⟨_, rfl⟩
      obtain ⟨b2, hb2e⟩ : ∃ b2, bm + 2 = b2 := ⟨_, rfl⟩
      have hbit := HOK.out.bits k hgi
      have hone : mkGo ⟨bl, pr, (I : Int), jo⟩ L (k + 1) = zeroGo (da - b2) b2 (((mkGo ⟨bl, pr, (I : Int), jo⟩ L k).set bm (mkBits ⟨bl, pr, (I : Int), jo⟩ k).1).set b1 (newB I b1)) := by
        rw [mkGo, mkOne, x3, x4, Int.toNat_natCast, hb1e, hb2e]
      have hbits : mkBits ⟨bl, pr, (I : Int), jo⟩ k = turnI (newB (zz - fr) bm) (zz - fr) 0 ((da : Int) - fr) true bm := by
        unfold mkBits; rw [x1, x2, x3, x4]
      have hgrp : mkGrps ⟨bl, pr, (I : Int), jo⟩ (k + 1) = mkGrps ⟨bl, pr, (I : Int), jo⟩ k ++ [⟨(zz : Int) - da, (I : Int), 0⟩] := by rw [mkGrps, x2, x4]
      have hfb : mkFb ⟨bl, pr, (I : Int), jo⟩ (k + 1) = mkFb ⟨bl, pr, (I : Int), jo⟩ k + ((zz : Int) - da) := by rw [mkFb, x2, x4]
      have hfr := mkFb_range HOK.out.geo k (by omega)
      have HSP := Aside0.mk (span_calls ⟨bl, pr, (I : Int), jo⟩ k wo)
      rw [e3] at HSP
      have HPL := Aside0.mk (fun W => place_calls ⟨bl, pr, (I : Int), jo⟩ k W)
      rw [e4, show (bm : Int) + 1 = (b1 : Int) by omega, show (bm : Int) + 2 = (b2 : Int) by omega] at HPL
      unfold Geo.v at HSP HPL
      dsimp only at HSP HPL
      obtain ⟨M, hM⟩ : ∃ M, zz - fr = M := ⟨_, rfl⟩
      obtain ⟨N, hN⟩ : ∃ N, da - fr = N := ⟨_, rfl⟩
      have hMi : (zz : Int) - (fr : Int) = (M : Int) := by omega
      have hNi : (da : Int) - (fr : Int) = (N : Int) := by omega
      rw [hM, hNi] at hbits
      have hbm4 : bm < 4096 := by omega
      have hM2 : M ≤ 2016 := by omega
      have hN2 : N ≤ 2016 := by omega
      have hNM : zz ≤ 4096 := by omega
      have hb1l : b1 < 4096 := by omega
      obtain ⟨R, hR⟩ : ∃ R, zz - da = R := ⟨_, rfl⟩
      have hRi : (zz : Int) - (da : Int) = (R : Int) := by omega
      obtain ⟨ki, hki⟩ : ∃ ki : Nat, k * I = ki := ⟨_, rfl⟩
      have hki2 : ki ≤ 10000 := by
        have := Nat.mul_le_mul (show k ≤ 14 by omega) hI2
        omega
      have hkii : (k : Int) * (I : Int) = (ki : Int) := by rw [← hki]; simp
      have hkis : ((k + 1 : Nat) : Int) * (I : Int) = (ki : Int) + (I : Int) := by rw [← hkii, Int.natCast_add, Int.add_mul]; simp
      have HKI := Aside0.mk (And.intro hkii hkis)
      obtain ⟨fbk, hfbk⟩ : ∃ fbk, mkFb ⟨bl, pr, (I : Int), jo⟩ k = fbk := ⟨_, rfl⟩
      rw [hfbk] at hfr hfb
      rw [hfbk, hkii] at HST
      have hfr2 : fbk ≤ 30000 := by omega
      rw [hRi] at hgrp hfb
      have HFBK := Aside0.mk hfbk
      have HMK := Aside0.mk (And.intro hone (And.intro hgrp hfb))
      obtain ⟨bb, hbb⟩ : ∃ bb, mkBits ⟨bl, pr, (I : Int), jo⟩ k = bb := ⟨_, rfl⟩
      rw [hbb] at hbits hbit HMK
      have HBIT := Aside0.mk (And.intro hbits hbit)
      have HLD := Aside0.mk (mkGo_length ⟨bl, pr, (I : Int), jo⟩ L k)
      obtain ⟨LL, hLL⟩ : ∃ LL, mkGo ⟨bl, pr, (I : Int), jo⟩ L k = LL := ⟨_, rfl⟩
      rw [hLL] at HDK HMK HLD
      have hLL2 : LL.length = L.length := HLD.out
      clear hgi e3 e4 x1 x2 x3 x4 hbit hone hbits hgrp hfb hbb hLL hM hN hR hki hkii hkis hfbk
      go_wp2_with fail
      with_reducible refine HSP.out.mono ?_
      rintro e w4 ⟨rfl, hb4⟩
      have HB4 := Aside0.mk hb4
      have hs4 := HST.out.1.below hb4
      clear c0 c1 c2 c3
      have c0 := hs4.cell 0 _ rfl
      have c1 := hs4.cell 1 _ rfl
      have c2 := hs4.cell 2 _ rfl
      have c3 := hs4.cell 3 _ rfl
      clear hb4 hs4
      dsimp only
      go_wp2_with fail
      with_reducible refine (HPL.out w4).mono ?_
      rintro e w5 ⟨rfl, hb5⟩
      have HB5 := Aside0.mk (below_then HB4.out HB4.out.size hb5)
      have HNC := Aside0.mk (new_calls M bm w5 hM2 (by omega) (by omega))
      clear c0 c1 c2 c3 hb5
      dsimp only
      go_wp2_with fail
      with_reducible refine HNC.out.mono ?_
      rintro e w6 ⟨g6, rfl, hg6, hr6, hb6⟩
      have HB6 := Aside0.mk (below_then HB5.out HB5.out.size hb6)
      have hnb := newB_ok M bm
      have htc := turn_calls (some ⟨g6, 0, none⟩) 256 (newB M bm) M 0 N true bm w6 (hr6.reads (by rw [hnb.1]; omega)) (by rw [hnb.1]; omega) hnb.2 hM2 (by omega) (by omega) (by omega) (by omega) (by omega) (by omega)
      rw [hnb.1, ← HBIT.out.1] at htc
      have HTC := Aside0.mk htc
      clear hb6 hr6 hnb htc
      dsimp only
      go_wp2_with fail
      with_reducible refine HTC.out.mono ?_
      rintro e w7 ⟨v7, rfl, hb7, hgood, _⟩
      obtain ⟨g7, c7, rfl, hg7, hc7, hr7⟩ := hgood HBIT.out.2
      have hbok := turnI_ok (b := newB M bm) (n := M) (fr := 0) (ct := N) (on := true) (s := bm) (newB_ok M bm).2 (by rw [← HBIT.out.1]; exact HBIT.out.2)
      rw [← HBIT.out.1] at hbok
      rw [hbok.1] at hc7 ⊢
      have HB7 := Aside0.mk (below_then HB6.out HB6.out.size hb7)
      have HR7 := Aside0.mk hr7
      have HBOK := Aside0.mk hbok
      have HG7 := Aside0.mk (And.intro hg7 hc7)
      have hs7 := HST.out.1.below HB7.out
      have c2 := hs7.cell 2 _ rfl
      have HNC2 := Aside0.mk (new_calls I b1 w7 (by omega) (by omega) (by omega))
      clear hb7 hgood hr7 hbok hs7 hg7
      dsimp only
      go_wp2_with fail
      with_reducible refine HNC2.out.mono ?_
      rintro e w8 ⟨g8, rfl, hg8, hr8, hb8⟩
      have HB8 := Aside0.mk (below_then HB7.out HB7.out.size hb8)
      have hnb1 := newB_ok I b1
      obtain ⟨nb, hnbe⟩ : ∃ nb, newB I b1 = nb := ⟨_, rfl⟩
      rw [hnbe] at hr8 hnb1 HMK
      have HNB := Aside0.mk hnb1
      have hDs := HDD.out
      have hg8D : ¬ D' g8 := fun hd => by have := (hDs _ hd).2; have := HB7.out.size; omega
      have hdw := dwrite_calls bm ⟨g7, 0, none⟩ c7 bb.1 w8 (HDK.out.below HB8.out) (by omega) (by omega) ((HR7.out.below hb8).reads (by rw [HBOK.out.1]; omega)) HBOK.out.1 HBOK.out.2
      have HDW := Aside0.mk hdw
      have HR8 := Aside0.mk hr8
      have HG8 := Aside0.mk (And.intro hg8 hg8D)
      clear c2 hg8 hr8 hb8 hnb1 hnbe hDs hg8D hdw
      dsimp only
      go_wp2_with fail
      with_reducible refine HDW.out.mono ?_
      rintro e w9 ⟨rfl, hd9, hm9⟩
      have hdw := dwrite_calls b1 ⟨g8, 0, none⟩ 256 nb w9 hd9 (by rw [List.length_set]; omega) (by omega) ((HR8.out.mod hm9 HG8.out.2).reads (by rw [HNB.out.1]; omega)) HNB.out.1 HNB.out.2
      have HDW2 := Aside0.mk hdw
      have HM9 := Aside0.mk hm9
      clear hd9 hm9 hdw
      dsimp only
      go_wp2_with fail
      with_reducible refine HDW2.out.mono ?_
      rintro e w10 ⟨rfl, hd10, hm10⟩
      have hD10 : ∀ j, orNew w9 w10 (orNew w8 w9 D') j → (D' j ∨ wo.heap.size ≤ j) ∧ j < w10.heap.size := fun j hj => by
        have s1 := HB8.out.size
        have s2 := HM9.out.size
        have s3 := hm10.size
        rcases hj with (hj | hj) | hj
        · exact ⟨.inl hj, by have := (HDD.out j hj).2; omega⟩
        · exact ⟨.inr (by omega), by omega⟩
        · exact ⟨.inr (by omega), by omega⟩
      have hm810 : Mod wo w10 D' := ((Mod.of_below HB8.out D').trans HM9.out (fun _ _ e => e)).trans hm10 (fun i hi e => e.elim id (fun e => by have := HB8.out.size; exfalso; omega))
      obtain ⟨L2, hL2⟩ : ∃ L2, (LL.set bm bb.1).set b1 nb = L2 := ⟨_, rfl⟩
      have hL2l : L2.length = L.length := by rw [← hL2]; simp [hLL2]
      rw [hL2] at hd10 HMK
      have HX10 := Aside0.mk (And.intro hd10 (And.intro hD10 hm810))
      obtain ⟨D10, hD10e⟩ : ∃ D10, orNew w9 w10 (orNew w8 w9 D') = D10 := ⟨_, rfl⟩
      rw [hD10e] at HX10
      clear hd10 hm10 hD10 hm810 hL2 hD10e
      have hmk2 : ∀ w : World, (Instr.makeSlice 23 (.int .i64 256) (.int .i64 256)).run Tryz.prog w = .ok (.slice (some ⟨w.heap.size, 0, none⟩) 256 256) (noughts w) := make256
      dsimp only
      go_wp2
      go_loopg [20] (da - b2) (fun gi v wr2 => ∃ (jn : Nat) (D2 : Nat → Prop) (m2 : Nat) (L3 : List (List Int)), v = .int .i64 (jn : Nat) ∧ jn + gi = da ∧ b2 ≤ jn ∧ m2 + b2 = m' + 2 + jn ∧ L3.length = L.length ∧ Aside0 (zeroGo (da - b2) b2 L2 = zeroGo gi jn L3) ∧ Aside0 (DiskIs wr2 D2 p L3 m2) ∧ Aside0 (∀ j, D2 j → (D' j ∨ wo.heap.size ≤ j) ∧ j < wr2.heap.size) ∧ Aside0 (Mod wo wr2 D'))
      case atStart => exact ⟨b2, D10, m' + 2, L2, rfl, by omega, by omega, by omega, hL2l, ⟨rfl⟩, ⟨HX10.out.1⟩, ⟨HX10.out.2.1⟩, ⟨HX10.out.2.2⟩⟩
      case round =>
        obtain ⟨jn, D2, m2, L3, rfl, hjn, hbj, hm2, hL3, HZG, HD3, HDD3, HM3⟩ := hrel
        obtain ⟨wr2, rfl⟩ : ∃ x, x = wr := ⟨_, rfl⟩
        have hwq : q < wo.heap.size := HST.out.1.lt
        have hwz : z < wo.heap.size := HST.out.2.lt
        have hnq : ¬ D' q := HNN.out.1
        have hnz : ¬ D' z := HNN.out.2.1
        have hsq := HST.out.1.mod HM3.out hnq
        have hsz := HST.out.2.mod HM3.out hnz
        have HSZ := Aside0.mk (And.intro hsq hsz)
        have HWQ := Aside0.mk (And.intro hwq hwz)
        cases gk with
        | zero =>
          have hje : jn = da := by omega
          subst hje
          have hog3 := own_mod HOG.out HM3.out (fun g' hg => (HNN.out.2.2 g' hg).1)
          have c2 := hsq.cell 2 _ rfl
          obtain ⟨q0, hqi, hz0', hz1', hz2'⟩ := info_parts infoGrp
          have hlt := HLN.out
          have HF := Aside0.mk (show ∀ (w' : World) (v' : Value), (wr2.alloc (.cells #[.int .i64 R, .int .i64 I, .int .i64 0] 144)).grownBy w' (Value.slice A (mkGrps ⟨bl, pr, (I : Int), jo⟩ k).length cg).ownBlock → (v'.ownBlock = (Value.slice A (mkGrps ⟨bl, pr, (I : Int), jo⟩ k).length cg).ownBlock ∨ v'.ownBlock = some (wr2.alloc (.cells #[.int .i64 R, .int .i64 I, .int .i64 0] 144)).heap.size) →
              Strc w' q 80 [.int .i64 bl, .int .i64 pr, .int .i64 I, .int .i64 jo] ∧ Strc w' z 121 [.int .i64 bl, .int .i64 pr, .int .i64 I, .int .i64 jo, .int .i64 fbk, .int .i64 ki, .int .i64 0, .int .i64 0, .bool false] ∧ DiskIs w' D2 p L3 m2 ∧ Mod w w' D ∧ wr2.heap.size ≤ w'.heap.size ∧ ∀ g', v'.ownBlock = some g' → ¬ D2 g' ∧ g' ≠ q ∧ g' ≠ z ∧ q ≤ g' from fun w' v' hg hl => by
            have hba := below_alloc (Below.refl wr2.heap.size wr2) (.cells #[.int .i64 R, .int .i64 I, .int .i64 0] 144)
            have hmg := mod_grown hg
            have hsz2 := hmg.size
            have hsza : (wr2.alloc (.cells #[.int .i64 R, .int .i64 I, .int .i64 0] 144)).heap.size = wr2.heap.size + 1 := by simp
            have hnn := HNN.out.2.2
            have hw2 := HM3.out.size
            have hown := fun g' hg => own_lt HOG.out g' hg
            refine ⟨(hsq.below hba).mod hmg (fun e => (hnn q e).2.1 rfl), (hsz.below hba).mod hmg (fun e => (hnn z e).2.2.1 rfl), (HD3.out.below hba).mod hmg (fun j _ hj e => ?_), ?_, by omega, fun g' hg' => ?_⟩
            · have h1 := hown j e
              exact ((HDD3.out j hj).1).elim ((hnn j e).1) (fun h => by omega)
            · have h2 : Mod wo wr2 D' := HM3.out
              have h3 : Mod w wr2 D := HMW.out.trans h2 (fun i hi e => ((HDD.out i e).1).elim id (fun h => by exfalso; omega))
              exact (h3.below hba).trans hmg (fun i hi e => by have := (hnn i e).2.2.2; exfalso; omega)
            · rcases hl with h1 | h1
              · have h2 := hnn g' (h1.symm.trans hg')
                have h3 := hown g' (h1.symm.trans hg')
                exact ⟨fun hd => ((HDD3.out g' hd).1).elim h2.1 (fun h => by omega), h2.2⟩
              · have h2 : g' = wr2.heap.size + 1 := by rw [hg', hsza] at h1; exact Option.some.inj h1
                exact ⟨fun hd => by have := (HDD3.out g' hd).2; omega, by omega, by omega, by omega⟩)
          have HPa := Aside0.mk (fun o => own_any (pw_own_below hog3 (below_alloc (Below.refl wr2.heap.size wr2) o)) (base' := 0) (fun _ _ => Nat.zero_le _))
          clear hsq hsz hog3 hnq hnz hwq hwz
          go_wp2_with ((with_reducible refine gate_dst (N := 114) rfl ?_); (refine wpList_append_own_at _ rfl (.tmp 106) (.tmp 113) 122 rfl 0 144 q0 (.agg #[.int .i64 0, .int .i64 0, .int .i64 0]) 3 24 Tryz.underlying122 hqi hz0' hz1' hz2' rfl (by decide) _ _ _ rfl (HPa.out _) ⟨wr2.heap.size, 0, none⟩ 1 1 [.int .i64 R, .int .i64 I, .int .i64 0] rfl ?c6 ?c1 ?c2 ?c3 ?c4 ?c5 ?_; (case c6 => rfl); (case c1 => (intro j u hj; rw [add_plain]; exact cell_alloc wr2 _ _ j u (by simpa using hj))); (case c2 => simp [Value.oneCell']); (case c3 => (rw [hlt]; simp only [maxLen]; omega)); (case c4 => (rw [hlt]; omega)); (case c5 => exact Nat.zero_le _); intro v2 w2' hown2 hgrow2 _ hloc; clear hz0' hz1' hz2' hqi; obtain ⟨hq2, hzz2, hdd2, hmm2, hss2, hbb2⟩ := HF.out w2' v2 hgrow2 hloc; obtain ⟨g2, cap2, rfl⟩ := own_succ hown2; have HFF := Aside0.mk (And.intro hq2 (And.intro hzz2 (And.intro hdd2 (And.intro hmm2 (And.intro hss2 hbb2))))); have HOO := Aside0.mk (ownG_snoc (x := ⟨(R : Int), (I : Int), 0⟩) hown2 rfl); have c2 := hq2.cell 2 _ rfl; have c4 := hzz2.cell 4 _ rfl; have c5 := hzz2.cell 5 _ rfl; have z4 := hzz2.free 4; have z5 := hzz2.free 5; have hzl := hzz2.lt; clear hown2 hgrow2 hloc hq2 hzz2 hdd2 hmm2 hss2 hbb2 HPa HF))
          obtain ⟨hq2, hzz2, hdd2, hmm2, hss2, hbb2⟩ := HFF.out
          have hm4 := (Mod.refl w2' (fun j => j = z)).set_own 4 (.int .i64 (fbk + R))
          have hm5 := (Mod.refl (w2'.setCell ⟨z, 4, none⟩ (.int .i64 (fbk + R))) (fun j => j = z)).set_own 5 (.int .i64 ((ki : Int) + I))
          have hmz := hm4.trans hm5 (fun _ _ e => e)
          have hsz5 := (hzz2.set 4 (.int .i64 (fbk + R))).set 5 (.int .i64 ((ki : Int) + I))
          have hszE := hmz.size
          have hoo := HOO.out
          rw [hlt] at hoo
          generalize ((w2'.setCell ⟨z, 4, none⟩ (.int .i64 (fbk + R))).setCell ⟨z, 5, none⟩ (.int .i64 ((ki : Int) + I))) = WE at hmz hsz5 hszE ⊢
          have hzo := HWQ.out.2
          have hqo := HWQ.out.1
          have hm3s := HM3.out.size
          go_roundg go
          case measure => omega
          case rel =>
            refine ⟨k + 1, D2, m2, by omega, by go_num, by omega, ⟨?_⟩, ⟨fun j hj => ⟨((HDD3.out j hj).1).elim (fun h => (HDD.out j h).1) (fun h => .inr (by omega)), by have := (HDD3.out j hj).2; omega⟩⟩, ⟨fun hd => ((HDD3.out q hd).1).elim HNN.out.1 (fun h => by omega), fun hd => ((HDD3.out z hd).1).elim HNN.out.2.1 (fun h => by omega), hbb2⟩, ⟨?_⟩, ⟨hmm2.trans hmz (fun i hi e => by exfalso; omega)⟩, ⟨hq2.mod hmz (by omega), ?_⟩⟩
            · rw [HMK.out.1, HZG.out]
              exact hdd2.mod hmz (fun j _ hj e => ((HDD3.out j hj).1).elim (fun h => HNN.out.2.1 (e ▸ h)) (fun h => by omega))
            · rw [HMK.out.2.1]
              unfold OwnG
              rw [List.length_append, hlt]
              refine own_mod ?_ hmz (fun g' hg e => (hbb2 g' hg).2.2.1 e)
              have := hoo
              unfold OwnG at this
              rw [List.length_append, hlt] at this
              exact this
            · rw [HMK.out.2.2, HKI.out.2]
              exact hsz5
        | succ gi =>
          have i2 : (jn : Int) < (da : Int) := by omega
          have hdn : DiskIs (noughts wr2) D2 p L3 m2 := HD3.out.below (below_alloc (Below.refl _ _) _)
          have hdw := dwrite_calls jn ⟨wr2.heap.size, 0, none⟩ 256 zeros (noughts wr2) hdn (by omega) (by omega) ((show Row (noughts wr2) .u8 wr2.heap.size 5 zeros from row_last _ _ _ _).reads (by rw [zeros_length]; omega)) zeros_length zeros_allB
          have HDW3 := Aside0.mk hdw
          have hns : (noughts wr2).heap.size = wr2.heap.size + 1 := by unfold noughts; simp
          have HNS := Aside0.mk (And.intro hns (show Below wr2.heap.size wr2 (noughts wr2) from below_alloc (Below.refl _ _) _))
          clear hdn hdw hsq hsz hns hnq hnz hwq hwz
          go_wp2_with fail
          with_reducible refine HDW3.out.mono ?_
          rintro e w11 ⟨rfl, hd11, hm11⟩
          have hD11 : ∀ j, orNew (noughts wr2) w11 D2 j → (D' j ∨ wo.heap.size ≤ j) ∧ j < w11.heap.size := fun j hj => by
            have s1 := HNS.out.1
            have s2 := hm11.size
            have s3 := HM3.out.size
            rcases hj with hj | hj
            · exact ⟨(HDD3.out j hj).1, by have := (HDD3.out j hj).2; omega⟩
            · exact ⟨.inr (by omega), by omega⟩
          have hm3 : Mod wo w11 D' := (HM3.out.below HNS.out.2).trans hm11 (fun i hi e => ((HDD3.out i e).1).elim id (fun h => by exfalso; omega))
          have HX11 := Aside0.mk (And.intro hd11 (And.intro hD11 hm3))
          clear hd11 hm11 hD11 hm3
          dsimp only
          go_wp2
          go_roundg gi
          case measure => omega
          case rel => exact ⟨jn + 1, _, m2 + 1, L3.set jn zeros, by go_num, by omega, by omega, by omega, by rw [List.length_set]; exact hL3, ⟨by rw [HZG.out, zeroGo]⟩, ⟨HX11.out.1⟩, ⟨HX11.out.2.1⟩, ⟨HX11.out.2.2⟩⟩
theorem infoBy : (Tryz.prog.info? 23).map (fun i => (i.zero, i.size, i.bytes)) = some (some (.slice none 0 0), 1, 24) := by kernel_rfl
def RDkB (w : World) (base p N m : Nat) : Prop :=
  ∃ Lv Pv k cs ps, Strc w p 176 [Lv, Pv, .int .i64 k] ∧ base ≤ p ∧ w.ownsRow base 23 1 Lv N cs ∧ (∀ q ∈ cs, q.oneCell' = true) ∧ w.ownsRow base 207 2 Pv m ps ∧ (∀ q ∈ ps, q.oneCell' = true) ∧ ∀ j, j < m → ∃ (b : Nat) (A : Option Addr) (n c : Nat), b < N ∧ ps[j * 2]? = some (.int .i64 b) ∧ ps[j * 2 + 1]? = some (.slice A n c)
theorem not_strc {w : World} {base e size n p : Nat} {v : Value} {cs l : List Value} {t : TypeId} (h : w.ownsRow base e size v n cs) (hs : Strc w p t l) (hne : t ≠ e) : v.ownBlock ≠ some p := fun hg => own_not_strc h hs hne hg
theorem own_apart {w : World} {b1 b2 e1 e2 s1 s2 n1 n2 : Nat} {v1 v2 : Value} {c1 c2 : List Value} (h1 : w.ownsRow b1 e1 s1 v1 n1 c1) (h2 : w.ownsRow b2 e2 s2 v2 n2 c2) (he : e1 ≠ e2) (g : Nat) (h : v1.ownBlock = some g) : v2.ownBlock ≠ some g := by
  intro h'
  rcases h1.2 with ⟨rfl, _⟩ | ⟨g1, _, _, rfl, _, hh1, _⟩
  · simp [Value.ownBlock] at h
  · rcases h2.2 with ⟨rfl, _⟩ | ⟨g2, _, _, rfl, _, hh2, _⟩
    · simp [Value.ownBlock] at h'
    · simp only [Value.ownBlock, Option.some.injEq] at h h'
      subst h
      subst h'
      rw [hh1] at hh2
      simp at hh2
      exact he hh2.2
def RDk (w : World) (D : Nat → Prop) (p N m : Nat) : Prop :=
  ∃ Lv Pv k cs ps, Strc w p 176 [Lv, Pv, .int .i64 k] ∧ (D p ∧ (∀ k, Lv.ownBlock = some k → D k) ∧ ∀ k, Pv.ownBlock = some k → D k) ∧ w.ownsRow 0 23 1 Lv N cs ∧ (∀ q ∈ cs, q.oneCell' = true) ∧ w.ownsRow 0 207 2 Pv m ps ∧ (∀ q ∈ ps, q.oneCell' = true) ∧ ∀ j, j < m → ∃ (b : Nat) (A : Option Addr) (n c : Nat), b < N ∧ ps[j * 2]? = some (.int .i64 b) ∧ ps[j * 2 + 1]? = some (.slice A n c)
theorem own_zero {w : World} {base e size n : Nat} {v : Value} {cs : List Value} (h : w.ownsRow base e size v n cs) : w.ownsRow 0 e size v n cs := by
  refine ⟨h.1, ?_⟩
  rcases h.2 with h0 | ⟨g, c, cur, e, h1, h2⟩
  · exact .inl h0
  · exact .inr ⟨g, c, cur, e, Nat.zero_le _, h2⟩
theorem RDkB.to {w : World} {base p N m : Nat} (h : RDkB w base p N m) : RDk w (fun k => base ≤ k) p N m := by
  obtain ⟨Lv, Pv, k, cs, ps, h1, h2, h3, h4, h5, h6, h7⟩ := h
  exact ⟨Lv, Pv, k, cs, ps, h1, ⟨h2, own_base h3, own_base h5⟩, own_zero h3, h4, own_zero h5, h6, h7⟩
theorem RDk.mod {w w1 : World} {D S : Nat → Prop} {p N m : Nat} (h : RDk w D p N m) (hm : Mod w w1 S) (hn : ∀ k, D k → k < w.heap.size → ¬ S k) : RDk w1 D p N m := by
  obtain ⟨Lv, Pv, k, cs, ps, h1, ⟨h2, h8, h9⟩, h3, h4, h5, h6, h7⟩ := h
  exact ⟨Lv, Pv, k, cs, ps, h1.mod hm (hn p h2 h1.lt), ⟨h2, h8, h9⟩, own_mod h3 hm (fun g hg => hn g (h8 g hg) (own_lt h3 g hg)), h4, own_mod h5 hm (fun g hg => hn g (h9 g hg) (own_lt h5 g hg)), h6, h7⟩
theorem RDkB.below {w w1 : World} {base p N m : Nat} (h : RDkB w base p N m) (hb : Below w.heap.size w w1) : RDkB w1 base p N m := by
  obtain ⟨Lv, Pv, k, cs, ps, h1, h2, h3, h4, h5, h6, h7⟩ := h
  exact ⟨Lv, Pv, k, cs, ps, h1.below hb, h2, pw_own_below h3 hb, h4, pw_own_below h5 hb, h6, h7⟩
theorem RDkB.lt {w : World} {base p N m : Nat} (h : RDkB w base p N m) : p < w.heap.size ∧ base ≤ p := by
  obtain ⟨Lv, Pv, k, cs, ps, h1, h2, h3, h4, h5, h6, h7⟩ := h
  exact ⟨h1.lt, h2⟩
set_option maxHeartbeats 1000000 in
set_option maxRecDepth 100000 in
theorem rcopied_calls (A : Option Addr) (c : Nat) (b : List Int) (w : World) (hb : Kd.C (Kd.int .u8) w A b.length b) (hn : A = none → c = 0) (hm : b.length ≤ 1000000000) :
    Calls Tryz.prog 44 #[.slice A b.length c] w fun e w' => ∃ v, e = .returned v ∧ Own w' w.heap.size 5 .u8 v b ∧ Below w.heap.size w w' := by
  have HB := Aside0.mk hb
  clear hb
  go_enter Tryz.func44, Tryz.ntmps44
  go_wp2_with (at_builtin; go_loud (refine wpList_plain rfl fun K hK => ?_; refine wp_append_read (w0 := w) (.tmp 4) (.tmp 5) 23 5 rfl w.heap.size Tryz.underlying23 infoU8 (.slice none 0 0) [] b rfl (own_of_nil _ _ _ _) (Below.refl _ _) (Nat.le_refl _) A c rfl HB.out hn (by simp; omega) ?_; intro v1 w1 h1 h2 _; refine hK _ _ ?_; have HO := Aside0.mk h1; have HBE := Aside0.mk h2; clear h1 h2 hK K))
  go_ret
  exact ⟨v1, rfl, HO.out, HBE.out⟩
set_option maxHeartbeats 4000000 in
set_option maxRecDepth 100000 in
theorem rnew2_calls (w : World) : Calls Tryz.prog 48 #[.int .i64 300] w fun e w' => ∃ p, e = .returned (.tuple #[.pointer (some ⟨p, 0, none⟩), .int .i64 0]) ∧ RDk w' (fun k => w.heap.size ≤ k) p 300 0 ∧ Below w.heap.size w w' := by
  obtain ⟨N, hN⟩ : ∃ N : Nat, N = 300 := ⟨_, rfl⟩
  rw [show (300 : Int) = (N : Int) by omega, ← hN]
  obtain ⟨i0, hi, hz0, hz1, hz2⟩ := info_parts infoBy
  go_enter Tryz.func48, Tryz.ntmps48
  have i1 : ¬ (N : Int) < 128 := by omega
  have i2 : ¬ (4096 : Int) < (N : Int) := by omega
  go_upto_region 4 with fail
  have hst : Strc (w.alloc (.cells #[.slice none 0 0, .slice none 0 0, .int .i64 0] 176)) w.heap.size 176 [.slice none 0 0, .slice none 0 0, .int .i64 0] := alloc_last w _
  have hr : RDkB (w.alloc (.cells #[.slice none 0 0, .slice none 0 0, .int .i64 0] 176)) w.heap.size w.heap.size 0 0 := ⟨.slice none 0 0, .slice none 0 0, 0, [], [], hst, Nat.le_refl _, own_nil _ _ _ _, by simp, own_nil _ _ _ _, by simp, by simp⟩
  have hb := below_alloc (Below.refl w.heap.size w) (.cells #[.slice none 0 0, .slice none 0 0, .int .i64 0] 176)
  generalize w.alloc (.cells #[.slice none 0 0, .slice none 0 0, .int .i64 0] 176) = w1 at hr hb ⊢
  obtain ⟨p, hp⟩ : ∃ p, w.heap.size = p := ⟨_, rfl⟩
  have HR := Aside0.mk hr
  have HB := Aside0.mk hb
  have HP := Aside0.mk hp
  have hrp : RDkB w1 w.heap.size p 0 0 := by rw [hp] at hr ⊢; exact hr
  have HRP := Aside0.mk hrp
  rw [hp]
  clear hst hr hb hrp hp
  go_wp2
  go_loopg [5] N (fun g i wr => ∃ k : Nat, k + g = N ∧ i = .int .i64 k ∧ Aside0 (RDkB wr w.heap.size p k 0) ∧ Aside0 (Below w.heap.size w wr))
  case atStart => exact ⟨0, by omega, rfl, HRP, HB⟩
  case round =>
    obtain ⟨k, hk, rfl, HR, HB⟩ := hrel
    cases gk with
    | zero =>
      obtain rfl : k = N := by omega
      go_wp2
      go_ret2
      exact ⟨p, rfl, HR.out.to, HB.out⟩
    | succ g =>
      have i3 : (k : Int) < (N : Int) := by omega
      obtain ⟨Lv, Pv, kk, cs, ps, hst, hbp, hL, hcs, hP, hps, hpb⟩ := HR.out
      have hk0 := hst.cell 0 Lv rfl
      have hpl := hst.lt
      have HH := Aside0.mk (And.intro hst (And.intro hbp (And.intro hL (And.intro hcs (And.intro hP (And.intro hps hpb))))))
      clear hst hbp hL hcs hP hps hpb
      go_upto_region 7 with fail
      have hmk : ∀ w : World, (Instr.makeSlice 23 (.int .i64 256) (.int .i64 256)).run Tryz.prog w = .ok (.slice (some ⟨w.heap.size, 0, none⟩) 256 256) (noughts w) := make256
      refine wp_region_in [0, 0, 0, 0, 1, 2, 2, 2, 0, 0, 3] [10] (fun W => W.cell? ⟨p, 0, none⟩ = some Lv) (by kernel_rfl) rfl (by kernel_rfl) (fun _ _ _ _ h => h) hk0 ?_
      iterate 5 (first
        | (refine in_off0 (by rfl) ?_; simp only [Act.put, stA, stZ, stS, i64_w, i32_w])
        | (refine in_off1 (by rfl) ?_; simp only [Act.put, stA, stZ, stS, i64_w, i32_w])
        | (refine in_0 (v := ?_) (by rfl) rfl ?_ (a' := ?_) ?_ ?_; rotate_left; (intro w'; go_simp; with_reducible rfl); rotate_left; (simp only [Act.put, stA, stZ, stS, i64_w, i32_w]; rfl))
        | (refine in_1 (v := ?_) (by rfl) rfl ?_ (a' := ?_) ?_ ?_; rotate_left; (rintro w' hs; go_split_ands; go_simp; with_reducible rfl); rotate_left; (simp only [Act.put, stA, stZ, stS, i64_w, i32_w]; rfl)))
      refine in_2 (by rfl) (fun K hK => ?_)
      unfold Oper.wp execOp
      go_simp
      have b1 : Below wr.heap.size wr (noughts wr.drew) := below_alloc ((Below.refl _ _).drew) _
      refine hK _ _ (pw_cell_below b1 hk0) ?_
      clear hK K
      try simp only [Act.put, stA, stZ, stS, i64_w, i32_w]
      have hz : wr.drew.heap.size = wr.heap.size := rfl
      obtain ⟨wa, hwa⟩ : ∃ wa, noughts wr.drew = wa := ⟨_, rfl⟩
      rw [hwa] at b1 ⊢
      refine in_2 (by rfl) (fun K hK => ?_)
      unfold Oper.wp execOp
      go_simp
      have b2 : Below wr.heap.size wr (wa.alloc (.cells #[.slice (some ⟨wr.heap.size, 0, none⟩) 256 256] 23)) := below_alloc b1 _
      have hx := alloc_last wa (.cells #[.slice (some ⟨wr.heap.size, 0, none⟩) 256 256] 23)
      refine hK _ _ (pw_cell_below b2 hk0) ?_
      clear hK K
      try simp only [Act.put, stA, stZ, stS, i64_w, i32_w]
      obtain ⟨wb, hwb⟩ : ∃ wb, wa.alloc (.cells #[.slice (some ⟨wr.heap.size, 0, none⟩) 256 256] 23) = wb := ⟨_, rfl⟩
      rw [hwb] at b2 hx ⊢
      have hLb := pw_own_below HH.out.2.2.1 b2
      have hstb := HH.out.1.below b2
      have hPb := pw_own_below HH.out.2.2.2.2.1 b2
      have hbw : w.heap.size ≤ wb.heap.size := Nat.le_trans HB.out.size b2.size
      refine in_2 (by rfl) (fun K hK => ?_)
      refine wp_append_own _ (.tmp 23) (.tmp 25) 148 rfl w.heap.size 23 i0 (.slice none 0 0) 1 24 Tryz.underlying148 hi hz0 hz1 hz2 rfl (by decide) Lv k cs rfl hLb ⟨wa.heap.size, 0, none⟩ 1 1 [.slice (some ⟨wr.heap.size, 0, none⟩) 256 256] rfl rfl (fun j u hj => ?_) (fun u hu => ?_) (by simp only [maxLen]; omega) (by omega) hbw ?_
      · rw [add_plain]
        simpa [World.cell?, hx] using hj
      · simp only [List.mem_cons, List.not_mem_nil, or_false] at hu
        subst hu
        rfl
      intro v' w4 h4 hg4 _
      obtain ⟨A', c', rfl, _, _⟩ := own_shape h4
      have hm4 := mod_grown hg4
      have hst4 := hstb.mod hm4 (not_strc hLb hstb (by decide))
      have hP4 := own_mod hPb hm4 (fun g hg => own_apart hPb hLb (by decide) g hg)
      have hk4 := hst4.cell 0 Lv rfl
      have hf4 := hst4.free 0
      have hb4 : Below w.heap.size w w4 := pw_below_grown (below_then HB.out HB.out.size b2) _ hbw hg4 (own_base HH.out.2.2.1)
      refine hK _ _ hk4 ?_
      clear hK K
      try simp only [Act.put, stA, stZ, stS, i64_w, i32_w]
      iterate 2 (first
        | (refine in_off0 (by rfl) ?_; simp only [Act.put, stA, stZ, stS, i64_w, i32_w])
        | (refine in_off1 (by rfl) ?_; simp only [Act.put, stA, stZ, stS, i64_w, i32_w])
        | (refine in_0 (v := ?_) (by rfl) rfl ?_ (a' := ?_) ?_ ?_; rotate_left; (intro w'; go_simp; with_reducible rfl); rotate_left; (simp only [Act.put, stA, stZ, stS, i64_w, i32_w]; rfl))
        | (refine in_1 (v := ?_) (by rfl) rfl ?_ (a' := ?_) ?_ ?_; rotate_left; (rintro w' hs; go_split_ands; go_simp; with_reducible rfl); rotate_left; (simp only [Act.put, stA, stZ, stS, i64_w, i32_w]; rfl)))
      refine in_3 (by rfl) (fun K hK => ?_)
      unfold Oper.wp execOp
      go_simp
      have hm5 : Mod w4 (w4.setCell ⟨p, 0, none⟩ (.slice A' (k + 1) c')) (· = p) := (Mod.refl w4 (· = p)).set_own 0 _
      have hst5 := hst4.set 0 (.slice A' (k + 1) c')
      refine hK _ _ ?_
      clear hK K
      try simp only [Act.put, stA, stZ, stS, i64_w, i32_w]
      refine out_nil ?_
      have hcs' : ∀ q ∈ cs ++ [.slice (some ⟨wr.heap.size, 0, none⟩) 256 256], q.oneCell' = true := fun q hq => by
        rcases List.mem_append.1 hq with h | h
        · exact HH.out.2.2.2.1 q h
        · simp only [List.mem_cons, List.not_mem_nil, or_false] at h
          subst h
          rfl
      have hb5 : Below w.heap.size w (w4.setCell ⟨p, 0, none⟩ (.slice A' (k + 1) c')) := below_mod hb4 hm5 HH.out.2.1
      have hr5 : RDkB (w4.setCell ⟨p, 0, none⟩ (.slice A' (k + 1) c')) w.heap.size p (k + 1) 0 :=
        ⟨_, Pv, kk, _, ps, hst5, HH.out.2.1, own_mod h4 hm5 (fun g hg e => own_not_strc h4 hst4 (by decide) (by rw [hg, e])), hcs', own_mod hP4 hm5 (fun g hg e => own_not_strc hP4 hst4 (by decide) (by rw [hg, e])), HH.out.2.2.2.2.2.1, fun j hj => by omega⟩
      have HR5 := Aside0.mk hr5
      have HB5 := Aside0.mk hb5
      clear hr5 hb5 hcs' hst5 hm5 hb4 hf4 hk4 hP4 hst4 hm4 hg4 h4 hPb hstb hLb hx b2 b1 hwb hwa
      generalize w4.setCell ⟨p, 0, none⟩ (.slice A' (k + 1) c') = w6 at HR5 HB5 ⊢
      go_wp2
      go_roundg g
      case measure => omega
      case rel => exact ⟨k + 1, by omega, by go_num, HR5, HB5⟩
def OwnRA (w : World) (base : Nat) (v : Value) (l : List Att) : Prop :=
  ∃ vs : List Value, vs.length = l.length ∧ w.ownsRow base 76 2 v l.length (acells l vs) ∧ ∀ j, j < l.length → Own w base 5 .u8 (vs.getD j undef) (attAt l j).val ∧ allB (attAt l j).val
theorem OwnRA.below {w w1 : World} {base : Nat} {v : Value} {l : List Att} (h : OwnRA w base v l) (hb : Below w.heap.size w w1) : OwnRA w1 base v l := by
  obtain ⟨vs, h1, h2, h3⟩ := h
  exact ⟨vs, h1, pw_own_below h2 hb, fun j hj => ⟨(h3 j hj).1.below hb, (h3 j hj).2⟩⟩
theorem OwnRA.reads {w : World} {base : Nat} {v : Value} {l : List Att} (h : OwnRA w base v l) (hs : l.length ≤ 1125899906842624) : ∃ A c, v = .slice A l.length c ∧ l.length ≤ c ∧ Atts w A l := by
  obtain ⟨vs, h1, h2, h3⟩ := h
  obtain ⟨A, c, rfl, hc, _, hA, hcell⟩ := own_shape h2
  refine ⟨A, c, rfl, hc, hs, fun j hj => ?_⟩
  obtain ⟨ad, rfl⟩ := hA (by omega)
  obtain ⟨q1, q2⟩ := acells_at l vs j hj h1
  obtain ⟨hown, _⟩ := h3 j hj
  obtain ⟨Av, cv, ev, hcv, hC⟩ := hown.reads
  rw [ev] at hown
  refine ⟨ad, Av, cv, rfl, hcell ad rfl _ _ q1, ?_, hcv, hC, own_nocap hown⟩
  have := hcell ad rfl _ _ q2
  rw [add_next ad (j * 2) 1 (by omega), ev] at this
  exact this
theorem ownRA_snoc {w1 w2 : World} {base : Nat} {v v2 vx : Value} {l : List Att} {x : Att} {vs : List Value} (hvl : vs.length = l.length) (hrow : w1.ownsRow base 76 2 v l.length (acells l vs)) (hvals : ∀ j, j < l.length → Own w1 base 5 .u8 (vs.getD j undef) (attAt l j).val ∧ allB (attAt l j).val)
    (hx : Own w1 base 5 .u8 vx x.val) (hxb : allB x.val) (hg : w1.grownBy w2 v.ownBlock) (h2 : w2.ownsRow base 76 2 v2 (l.length + 1) (acells l vs ++ [.string x.name, vx])) : OwnRA w2 base v2 (l ++ [x]) := by
  have hne : (76 : TypeId) ≠ 5 := by decide
  refine ⟨vs ++ [vx], by simp [hvl], by rw [acells_snoc l vs x vx hvl, List.length_append]; exact h2, fun j hj => ?_⟩
  have hk : ∀ {u : Value} {z : List Int}, Own w1 base 5 .u8 u z → Own w2 base 5 .u8 u z := fun hu => own_mod hu (mod_grown hg) (fun g hg' e => own_ne hrow hu hne g e hg')
  by_cases h : j < l.length
  · obtain ⟨p1, p2⟩ := hvals j h
    have e1 : (vs ++ [vx]).getD j undef = vs.getD j undef := by simp [List.getD_eq_getElem?_getD, List.getElem?_append_left (show j < vs.length by omega)]
    have e2 : attAt (l ++ [x]) j = attAt l j := by simp [attAt, List.getD_eq_getElem?_getD, List.getElem?_append_left h]
    rw [e1, e2]
    exact ⟨hk p1, p2⟩
  · have hj' : j = l.length := by simp at hj; omega
    subst hj'
    have e1 : (vs ++ [vx]).getD l.length undef = vx := by rw [← hvl]; simp [List.getD_eq_getElem?_getD]
    have e2 : attAt (l ++ [x]) l.length = x := by simp [attAt, List.getD_eq_getElem?_getD]
    rw [e1, e2]
    exact ⟨hk hx, hxb⟩
theorem OwnRA.nil (w : World) (base : Nat) : OwnRA w base (.slice none 0 0) [] := ⟨[], rfl, own_nil _ _ _ _, fun j hj => by simp at hj⟩
theorem infoRAtt : (Tryz.prog.info? 76).map (fun i => (i.zero, i.size, i.bytes)) = some (some (.agg #[.string ⟨#[]⟩, .slice none 0 0]), 2, 40) := by kernel_rfl
def RXUnpPost (r : List Att × Int) (w : World) (e : Ending) (w' : World) : Prop :=
  ∃ v, e = .returned (.tuple #[v, .int .i64 r.2]) ∧ OwnRA w' w.heap.size v r.1 ∧ Below w.heap.size w w'
theorem rxunpPost_bad {r : List Att × Int} {w w' : World} {e : Ending} {c : Int} (hp : r = ([], c)) (he : e = .returned (.tuple #[.slice none 0 0, .int .i64 c])) (hb : Below w.heap.size w w') : RXUnpPost r w e w' :=
  ⟨.slice none 0 0, by rw [hp]; exact he, by rw [hp]; exact OwnRA.nil _ _, hb⟩
structure XUnq (w wr : World) (m k g a : Nat) (l : List Int) (v : Value) (out : List Att) : Prop where
  own : OwnRA wr w.heap.size v out
  cnt : out.length = k
  below : Below w.heap.size w wr
  eq : xreadI m ((l.drop 2).take 250) [] = xreadI g ((l.drop a).take (252 - a)) out
set_option maxHeartbeats 16000000 in
set_option maxRecDepth 100000 in
theorem rxunpack_calls (A : Option Addr) (c : Nat) (s : Int) (l : List Int) (w : World) (hl : Kd.C (Kd.int .u8) w A l.length l) (hc : l.length ≤ c) (hs0 : 0 ≤ s) (hs1 : s < 4294967296) (hb : allB l) :
    Calls Tryz.prog 14 #[.slice A l.length c, .int .u32 s] w (RXUnpPost (xunpI l s) w) := by
  by_cases h256 : l.length = 256
  · have HL := Aside0.mk hl
    have hub : xunpI l s = match xreadI (l.getD 1 0).toNat ((l.drop 2).take 250) [] with | none => ([], 117) | some out => if (xpackI out s).2 = 0 ∧ (xpackI out s).1 = l then (out, 0) else ([], 117) := by unfold xunpI; exact if_neg (fun h => h h256)
    obtain ⟨ad, rfl, hx1⟩ := C_int_at hl 1 (by omega)
    obtain ⟨hm0, hm1⟩ := allB_get hb 1
    have HB := Aside0.mk hb
    obtain ⟨m, hm⟩ : ∃ m : Nat, l.getD 1 0 = m := ⟨(l.getD 1 0).toNat, by omega⟩
    rw [hm] at hx1 hm1
    replace hx1 : w.cell? ⟨ad.block, ad.off + 1, none⟩ = some (.int .u8 m) := hx1
    have HX1 := Aside0.mk (fun (W : World) (hW : Below w.heap.size w W) => show W.cell? ⟨ad.block, ad.off + 1, none⟩ = some (.int .u8 m) from pw_cell_below hW hx1)
    have hmm : (l.getD 1 0).toNat = m := by rw [hm]; exact Int.toNat_natCast m
    rw [hmm] at hub
    obtain ⟨rr, hrr⟩ : ∃ rr, xunpI l s = rr := ⟨_, rfl⟩
    rw [hrr] at hub ⊢
    have HBAD := Aside0.mk (fun (h : xreadI m ((l.drop 2).take 250) [] = none) => show rr = ([], 117) by rw [hub, h])
    have HGOOD := Aside0.mk (fun out (h : xreadI m ((l.drop 2).take 250) [] = some out) => show rr = if (xpackI out s).2 = 0 ∧ (xpackI out s).1 = l then (out, 0) else ([], 117) by rw [hub, h])
    have HL2 := Aside0.mk h256
    rw [h256] at hc ⊢
    clear hl hub hb hm hm0 h256 hmm hrr hx1
    go_enter Tryz.func14, Tryz.ntmps14
    go_wp2
    go_loopg [6, 7, 8] m (fun g v va i wr => ∃ (k a : Nat) (out : List Att), k + g = m ∧ 2 ≤ a ∧ a ≤ 252 ∧ va = .int .i64 a ∧ i = .int .i64 k ∧ Aside0 (XUnq w wr m k g a l v out))
    case atStart => exact ⟨0, 2, [], by omega, by omega, by omega, rfl, rfl, ⟨⟨OwnRA.nil _ _, rfl, Below.refl _ _, rfl⟩⟩⟩
    case round =>
      obtain ⟨k, a, out, hk, ha2, ha252, rfl, rfl, HU⟩ := hrel
      have hx1 := HX1.out wr HU.out.below
      cases gk with
      | zero =>
        obtain rfl : k = m := by omega
        have hg := HGOOD.out out HU.out.eq
        obtain ⟨A', c', rfl, hc', hE⟩ := HU.out.own.reads (by rw [HU.out.cnt]; omega)
        have HG := Aside0.mk hg
        have hC := HU.out.cnt
        have hlen := HL2.out
        have hall : ∀ j, j < out.length → allB (attAt out j).val := by
          obtain ⟨vs, _, _, h3⟩ := HU.out.own
          exact fun j hj => (h3 j hj).2
        have hall2 : ∀ x ∈ out, allB x.val := fun x hx => by
          obtain ⟨j, hj, rfl⟩ := List.getElem_of_mem hx
          have := hall j hj
          simpa [attAt, List.getD_eq_getElem?_getD, hj] using this
        obtain ⟨p, hp⟩ : ∃ p, xpackI out s = p := ⟨_, rfl⟩
        have hpk := rxpack_calls A' c' s out wr hE hc' (by omega) hs0 hs1 hall
        have hap := allB_xpack hall2 s
        have hpl := xpackI_len (l := out) (s := s)
        rw [hp] at hpk hap HG hpl
        obtain ⟨p1, p2⟩ := p
        dsimp only at HG hap hpl
        have HAP := Aside0.mk hap
        have HPK := Aside0.mk hpk
        clear hpk hap hp hC hlen hall hall2 hE hg
        by_cases hp0 : p2 = 0
        · subst hp0
          have HPLN := Aside0.mk (hpl rfl)
          clear hpl
          go_wp2_with fail
          refine HPK.out.mono ?_
          rintro e w1 ⟨v1, rfl, hb1, hv1, _⟩
          obtain ⟨g1, c1, rfl, hg1, hc1, hr1⟩ := hv1 rfl
          have HB1 := Aside0.mk (below_then HU.out.below HU.out.below.size hb1)
          have HO1 := Aside0.mk (HU.out.own.below hb1)
          have hR1 : Kd.C (Kd.int .u8) w1 (some ⟨g1, 0, none⟩) p1.length p1 := hr1.reads (by rw [HPLN.out]; omega)
          have heq := same_calls (some ad) (some ⟨g1, 0, none⟩) c c1 l p1 w1 (Kd.C_below HL.out HB1.out) hR1
          rw [HL2.out] at heq
          have HEQ := Aside0.mk heq
          clear heq hR1 hr1 hb1 hv1
          dsimp only
          go_wp2_with fail
          refine HEQ.out.mono ?_
          rintro e w2 ⟨rfl, hb2⟩
          have HB2 := Aside0.mk (below_then HB1.out HB1.out.size hb2)
          have HO2 := Aside0.mk (HO1.out.below hb2)
          obtain ⟨b, hb⟩ : ∃ b, (l == p1) = b := ⟨_, rfl⟩
          rw [hb]
          have HBB := Aside0.mk hb
          clear hb hb2
          dsimp only
          cases b
          · go_wp2
            go_ret2
            have hne : ¬ (p1 = l) := by rintro rfl; have := HBB.out; simp at this
            exact rxunpPost_bad (by rw [HG.out]; exact if_neg (fun h => hne h.2)) rfl HB2.out
          · go_wp2
            go_ret2
            have he : p1 = l := by have := HBB.out; simp at this; exact this.symm
            have hg : rr = (out, 0) := by rw [HG.out]; exact if_pos ⟨trivial, he⟩
            exact ⟨.slice A' out.length c', by rw [hg]; rfl, by rw [hg]; exact HO2.out, HB2.out⟩
        · clear hpl
          have hpb : (p2 != 0) = true := by simpa using hp0
          go_wp2_with fail
          refine HPK.out.mono ?_
          rintro e w1 ⟨v1, rfl, hb1, _, hv1⟩
          obtain rfl := hv1 hp0
          have HB1 := Aside0.mk (below_then HU.out.below HU.out.below.size hb1)
          clear hv1 hb1
          dsimp only
          go_wp2
          go_ret2
          exact rxunpPost_bad (by rw [HG.out]; exact if_neg (fun h => hp0 h.1)) rfl HB1.out
      | succ g =>
        have hkm : (k : Int) < (m : Int) := by omega
        have hkmn : k < m := by omega
        have hrl : ((l.drop a).take (252 - a)).length = 252 - a := by rw [List.length_take, List.length_drop, HL2.out]; omega
        have HRL := Aside0.mk hrl
        clear hrl
        by_cases h4 : 252 < a + 2
        · go_wp2
          go_ret2
          exact rxunpPost_bad (HBAD.out (HU.out.eq.trans (by rw [xreadI, if_pos (by rw [HRL.out]; omega)]))) rfl HU.out.below
        · obtain ⟨ad', e, hy0⟩ := C_int_at (Kd.C_below HL.out HU.out.below) a (by rw [HL2.out]; omega)
          cases e
          obtain ⟨ad', e, hy1⟩ := C_int_at (Kd.C_below HL.out HU.out.below) (a + 1) (by rw [HL2.out]; omega)
          cases e
          obtain ⟨p, hp⟩ : ∃ p : Nat, l.getD a 0 = p := ⟨(l.getD a 0).toNat, by have := allB_get HB.out a; omega⟩
          obtain ⟨q, hq⟩ : ∃ q : Nat, l.getD (a + 1) 0 = q := ⟨(l.getD (a + 1) 0).toNat, by have := allB_get HB.out (a + 1); omega⟩
          have hp1 : p < 256 := by have := allB_get HB.out a; omega
          have hq1 : q < 256 := by have := allB_get HB.out (a + 1); omega
          rw [hp] at hy0
          rw [hq] at hy1
          have hr0 : ((l.drop a).take (252 - a)).getD 0 0 = p := by rw [slice_at _ _ _ _ (by omega), Nat.add_zero, hp]
          have hr1 : ((l.drop a).take (252 - a)).getD 1 0 = q := by rw [slice_at _ _ _ _ (by omega), hq]
          have HR01 := Aside0.mk (And.intro hr0 hr1)
          obtain ⟨b1, hb1⟩ : ∃ b1 : Nat, a + 1 = b1 := ⟨_, rfl⟩
          rw [hb1] at hy1
          have hb1i : (a : Int) + 1 = (b1 : Int) := by omega
          have hb1l : (b1 : Int) < 256 := by omega
          have hb1n : b1 < 256 := by omega
          clear hr0 hr1 hp hq hb1
          by_cases h4q : 252 < a + 2 + p + q
          · go_wp2
            go_ret2
            exact rxunpPost_bad (HBAD.out (HU.out.eq.trans (by rw [xreadI, if_pos (by rw [HR01.out.1, HR01.out.2, HRL.out]; omega)]))) rfl HU.out.below
          · obtain ⟨b2, hb2⟩ : ∃ b2 : Nat, a + 2 = b2 := ⟨_, rfl⟩
            obtain ⟨b4, hb4⟩ : ∃ b4 : Nat, b2 + p = b4 := ⟨_, rfl⟩
            obtain ⟨b5, hb5⟩ : ∃ b5 : Nat, b4 + q = b5 := ⟨_, rfl⟩
            have hb2i : (a : Int) + 2 = (b2 : Int) := by omega
            have hb4i : (b2 : Int) + (p : Int) = (b4 : Int) := by omega
            have hb5i : (b4 : Int) + (q : Int) = (b5 : Int) := by omega
            have HB245 := Aside0.mk (And.intro hb2 (And.intro hb4 hb5))
            have hb5n : b5 ≤ 252 := by omega
            have hb2n : b2 ≤ 252 := by omega
            have hb4n : b4 ≤ 252 := by omega
            clear hb2 hb4 hb5
            have hvll : ((l.drop b4).take q).length = q := by rw [List.length_take, List.length_drop, HL2.out]; omega
            have hvlb : allB ((l.drop b4).take q) := allB_take (allB_drop HB.out _) _
            have hpart := C_int_part HL.out b2 p (by rw [HL2.out]; omega)
            have hpart2 := C_int_part HL.out b4 q (by rw [HL2.out]; omega)
            have hent : xattI ((l.drop a).take (252 - a)) = ⟨strOfNums ((l.drop b2).take p), (l.drop b4).take q⟩ := by
              have h245 := HB245.out
              unfold xattI
              rw [HR01.out.1, HR01.out.2, Int.toNat_natCast, Int.toNat_natCast, slice_part _ _ _ _ _ (by omega), slice_part _ _ _ _ _ (by omega)]
              rw [h245.1, show a + (2 + p) = b4 by omega]
            obtain ⟨vl, hvl⟩ : ∃ vl, (l.drop b4).take q = vl := ⟨_, rfl⟩
            rw [hvl] at hvll hvlb hpart2 hent
            have HENT := Aside0.mk hent
            have HS := Aside0.mk (show ∀ w' : World, Below wr.heap.size wr w' → ((convert 23 9 (.slice (some (ad.add b2)) p (c - b2))).run Tryz.prog w' = .ok (.string (strOfNums ((l.drop b2).take p))) w' ∧ Below wr.heap.size wr w') from fun w' hb =>
              ⟨Kd.C_string rfl rfl rfl (Kd.C_below (Kd.C_below hpart HU.out.below) hb), hb⟩)
            have HCL := Aside0.mk (show ∀ W : World, Below wr.heap.size wr W → Calls Tryz.prog 44 #[.slice (some (ad.add b4)) q (c - b4)] W fun e w' => ∃ v, e = .returned v ∧ Own w' W.heap.size 5 .u8 v vl ∧ Below W.heap.size W w' from fun W hb => by
              have := rcopied_calls (some (ad.add b4)) (c - b4) vl W (by rw [hvll]; exact Kd.C_below (Kd.C_below hpart2 HU.out.below) hb) (fun e => nomatch e) (by omega)
              rw [hvll] at this
              exact this)
            have hcut1 : ∀ W : World, (Instr.slice 23 (.slice (some ad) 256 c) (some (.int .i64 (b2 : Int))) (some (.int .i64 (b4 : Int))) none).run Tryz.prog W = .ok (.slice (some (ad.add b2)) p (c - b2)) W := by
              intro W
              obtain ⟨j0, hj, hj0, hj1, hj2⟩ := info_parts infoU8
              have := cut_mid (P := Tryz.prog) 23 5 .i64 .i64 (i := j0) rfl hj 1 hj1 (some ad) 256 c (b2 : Int) (b4 : Int) (by omega) (by omega) (by omega) (by omega) W
              have e0 : ((b2 : Nat) : Int).toNat = b2 := by omega
              have e1 : ((b4 : Nat) : Int).toNat - b2 = p := by omega
              rw [e0, e1] at this
              rw [this, if_neg (by omega), Nat.mul_one]
              rfl
            have hcut2 : ∀ W : World, (Instr.slice 23 (.slice (some ad) 256 c) (some (.int .i64 (b4 : Int))) (some (.int .i64 (b5 : Int))) none).run Tryz.prog W = .ok (.slice (some (ad.add b4)) q (c - b4)) W := by
              intro W
              obtain ⟨j0, hj, hj0, hj1, hj2⟩ := info_parts infoU8
              have := cut_mid (P := Tryz.prog) 23 5 .i64 .i64 (i := j0) rfl hj 1 hj1 (some ad) 256 c (b4 : Int) (b5 : Int) (by omega) (by omega) (by omega) (by omega) W
              have e0 : ((b4 : Nat) : Int).toNat = b4 := by omega
              have e1 : ((b5 : Nat) : Int).toNat - b4 = q := by omega
              rw [e0, e1] at this
              rw [this, if_neg (by omega), Nat.mul_one]
              rfl
            have HVL := Aside0.mk (And.intro hvll hvlb)
            have HW := Aside0.mk (And.intro (show wrap64 (b4 : Int) = (b4 : Int) by unfold wrap64; omega) (show wrap64 (b5 : Int) = (b5 : Int) by unfold wrap64; omega))
            clear hvl hvll hvlb hpart hpart2 hent
            go_upto_region 15 with fail
            obtain ⟨hw4, hw5⟩ := HW.out
            refine wp_region_in [0, 0, 0, 0, 0, 0, 0, 1, 0, 0, 0, 0, 0, 0, 0, 0, 0, 0, 2, 0, 2, 3, 0] [21] (fun w' => (convert 23 9 (.slice (some (ad.add b2)) p (c - b2))).run Tryz.prog w' = .ok (.string (strOfNums ((l.drop b2).take p))) w' ∧ Below wr.heap.size wr w') (by kernel_rfl) rfl (by kernel_rfl) (fun _ _ _ _ h => h) (HS.out _ (Below.refl _ _).drew) ?_
            iterate 18 (first
              | (refine in_off0 (by rfl) ?_; simp only [Act.put, stA, stZ, stS, i64_w, i32_w])
              | (refine in_off1 (by rfl) ?_; simp only [Act.put, stA, stZ, stS, i64_w, i32_w])
              | (refine in_0 (v := ?_) (by rfl) rfl ?_ (a' := ?_) ?_ ?_; rotate_left; (intro w'; go_simp; with_reducible rfl); rotate_left; (simp only [Act.put, stA, stZ, stS, i64_w, i32_w]; rfl))
              | (refine in_1 (v := ?_) (by rfl) rfl ?_ (a' := ?_) ?_ ?_; rotate_left; (rintro w' hs; go_split_ands; go_simp; with_reducible rfl); rotate_left; (simp only [Act.put, stA, stZ, stS, i64_w, i32_w]; rfl)))
            clear hw4 hw5
            refine in_2 (by rfl) (fun K hK => ?_)
            go_simp
            have hbd : Below wr.heap.size wr wr.drew := (Below.refl _ _).drew
            refine (HCL.out _ hbd).mono ?_
            rintro e w9 ⟨v9, rfl, ho9, hb9⟩
            obtain ⟨A9, c9, rfl, hc9, _⟩ := ho9.reads
            have hb9' : Below wr.heap.size wr w9 := below_then hbd (Nat.le_refl _) hb9
            dsimp only
            refine hK _ _ (HS.out _ hb9') ?_
            clear hK K
            try simp only [Act.put, stA, stZ, stS, i64_w, i32_w]
            iterate 1 (first
              | (refine in_off0 (by rfl) ?_; simp only [Act.put, stA, stZ, stS, i64_w, i32_w])
              | (refine in_off1 (by rfl) ?_; simp only [Act.put, stA, stZ, stS, i64_w, i32_w])
              | (refine in_0 (v := ?_) (by rfl) rfl ?_ (a' := ?_) ?_ ?_; rotate_left; (intro w'; go_simp; with_reducible rfl); rotate_left; (simp only [Act.put, stA, stZ, stS, i64_w, i32_w]; rfl))
              | (refine in_1 (v := ?_) (by rfl) rfl ?_ (a' := ?_) ?_ ?_; rotate_left; (rintro w' hs; go_split_ands; go_simp; with_reducible rfl); rotate_left; (simp only [Act.put, stA, stZ, stS, i64_w, i32_w]; rfl)))
            refine in_2 (by rfl) (fun K hK => ?_)
            go_simp
            have hb10 : Below wr.heap.size wr (w9.alloc (.cells #[.string (strOfNums ((l.drop b2).take p)), .slice A9 vl.length c9] 76)) := below_alloc hb9' _
            refine hK _ _ (HS.out _ hb10) ?_
            clear hK K
            try simp only [Act.put, stA, stZ, stS, i64_w, i32_w]
            refine in_3 (by rfl) (fun K hK => ?_)
            obtain ⟨e0, he, hz0, hz1, hz2⟩ := info_parts infoRAtt
            obtain ⟨vs, hvs1, hvs2, hvs3⟩ := HU.out.own
            have hba := below_alloc (Below.refl w9.heap.size w9) (.cells #[.string (strOfNums ((l.drop b2).take p)), .slice A9 vl.length c9] 76)
            have hown := pw_own_below hvs2 hb10
            have hbw := below_then HU.out.below HU.out.below.size hb10
            have hcnt := HU.out.cnt
            refine wp_append_own _ (.tmp 46) (.tmp 66) 22 rfl w.heap.size 76 e0 (.agg #[.string ⟨#[]⟩, .slice none 0 0]) 2 40 Tryz.underlying22 he hz0 hz1 hz2 rfl (by decide) u6 out.length (acells out vs) rfl hown ⟨w9.heap.size, 0, none⟩ 1 1 [.string (strOfNums ((l.drop b2).take p)), .slice A9 vl.length c9] rfl rfl ?c1 ?c2 (by simp only [maxLen]; omega) (by omega) hbw.size ?_
            case c1 =>
              intro j u hj
              rw [add_plain]
              exact cell_alloc w9 _ _ j u (by simpa using hj)
            case c2 => simp [Value.oneCell']
            intro v' w' h2 h3 _
            have hown2 : OwnRA w' w.heap.size v' (out ++ [xattI ((l.drop a).take (252 - a))]) := by
              rw [HENT.out]
              exact ownRA_snoc (x := ⟨strOfNums ((l.drop b2).take p), vl⟩) hvs1 hown (fun j hj => ⟨(hvs3 j hj).1.below hb10, (hvs3 j hj).2⟩)
                (own_any (ho9.below hba) (fun g' hg' => Nat.le_trans HU.out.below.size (own_base ho9 g' hg'))) HVL.out.2 h3 h2
            have hbl2 := pw_below_grown hbw _ hbw.size h3 (own_base hown)
            have HO2 := Aside0.mk hown2
            have HB2 := Aside0.mk hbl2
            refine hK _ _ ?_
            clear hK K h2 h3 hown2 hbl2 hown hbw hb10 hb9 hb9' hbd hba ho9 hvs1 hvs2 hvs3 hc9
            try simp only [Act.put, stA, stZ, stS, i64_w, i32_w]
            refine out_0 (v := ?_) (by rfl) rfl ?_ (a' := ?_) ?_ ?_
            rotate_left
            · intro w'
              go_simp
              with_reducible rfl
            rotate_left
            · simp only [Act.put, stA, stZ, stS, i64_w, i32_w]
              rfl
            refine out_nil ?_
            clear hcut1 hcut2 hcnt
            go_wp2
            go_roundg g
            case measure => omega
            case rel =>
              have h245 := HB245.out
              have hq4 : ¬ ((((l.drop a).take (252 - a)).length : Int) < 2 ∨ (((l.drop a).take (252 - a)).length : Int) < 2 + ((l.drop a).take (252 - a)).getD 0 0 + ((l.drop a).take (252 - a)).getD 1 0) := by rw [HR01.out.1, HR01.out.2, HRL.out]; omega
              exact ⟨k + 1, b5, out ++ [xattI ((l.drop a).take (252 - a))], by omega, by omega, by omega, by go_num, by go_num, ⟨⟨HO2.out, by rw [List.length_append, HU.out.cnt]; rfl, HB2.out, HU.out.eq.trans (by
                rw [xreadI, if_neg hq4, HR01.out.1, HR01.out.2, Int.toNat_natCast, Int.toNat_natCast, slice_rest]
                rw [show a + (2 + p + q) = b5 by omega, show 252 - a - (2 + p + q) = 252 - b5 by omega])⟩⟩⟩
  · have hub : xunpI l s = ([], 117) := by unfold xunpI; rw [if_pos h256]
    clear hl hb
    have hne : ((l.length : Int) != 256) = true := by rw [bne_iff_ne]; omega
    go_enter Tryz.func14, Tryz.ntmps14
    go_wp2
    go_ret2
    exact rxunpPost_bad hub rfl (Below.refl _ _)
theorem wp_append_at2 {P : Program} {w : World} {o : Oper} {a : Act} {K : Act → World → Prop} {Q : Exit → Act → World → Prop} (s x : Operand) (t : TypeId)
    (ho : o.op = .call { callee := .builtin .append, args := #[s, x], argTypes := #[t, t] })
    (base : Nat) (e : TypeId) (i : TypeInfo) (z : Value) (size bytes : Nat) (ht : P.underlying t = some (.slice e)) (hi : P.info? e = some i) (hz : i.zero = some z)
    (hsize : i.size = size) (hby : i.bytes = bytes) (hzs : z.cells.size = size) (hsz : 0 < size)
    (v : Value) (n : Nat) (xs : List Value) (hs : a.eval s = v) (hown : w.ownsRow base e size v n xs)
    (ad : Addr) (m c : Nat) (news : List Value) (hx : a.eval x = .slice (some ad) m c) (hl : news.length = m * size) (hnews : ∀ j u, news[j]? = some u → w.cell? (ad.add j) = some u) (h1 : ∀ u ∈ news, u.oneCell' = true)
    (h63 : n + m ≤ maxLen) (hbytes : (n + m) * bytes ≤ 140737488355328) (hbase : base ≤ w.heap.size)
    (h : ∀ v' w', w'.ownsRow base e size v' (n + m) (xs ++ news) → w.grownBy w' v.ownBlock → (v'.ownBlock = v.ownBlock ∨ v'.ownBlock = some w.heap.size) → K (a.put o.dst v') w') : o.wp P a w K Q := by
  obtain ⟨v', w', hr, h2, h3, h4, h5⟩ := run_append_own_at (P := P) w base t o.type e i z size bytes ht hi hz hsize hby hzs hsz v n xs hown ad m c news hl hnews h1 h63 hbytes hbase
  unfold Oper.wp execOp
  simp only [ho, resolve, invoke, builtin, Sem.run_bind, Sem.run_pure, Result.andThen_ok, List.map_toArray, List.map_cons, List.map_nil, hs, hx, hr]
  exact h v' w' h2 h3 h5
def RWPost (D : Nat → Prop) (p N m : Nat) (w : World) (e : Ending) (w' : World) : Prop := ∃ D' x m', e = .returned (.int .i64 x) ∧ m' ≤ m + 1 ∧ RDk w' D' p N m' ∧ (∀ k, D' k → D k ∨ w.heap.size ≤ k) ∧ Mod w w' D
set_option maxHeartbeats 4000000 in
set_option maxRecDepth 100000 in
theorem rwrite2_calls {D : Nat → Prop} {p N m : Nat} (n : Nat) (A : Option Addr) (c : Nat) (b : List Int) (w : World) (h : RDk w D p N m) (hm : m ≤ 100000) (hN : N ≤ 100000) (hn : n < N) (hb : Kd.C (Kd.int .u8) w A b.length b) (hnil : A = none → c = 0) (hl : b.length ≤ 1000) :
    Calls Tryz.prog 113 #[.pointer (some ⟨p, 0, none⟩), .int .i64 n, .slice A b.length c] w (RWPost D p N m w) := by
  obtain ⟨i0, hi, hz0, hz1, hz2⟩ := info_parts infoWr
  obtain ⟨Lv, Pv, kk, cs, ps, hst, hbp, hL, hcs, hP, hps, hpb⟩ := h
  obtain ⟨LA, Lc, rfl, _, _⟩ := own_shape hL
  have hk0 := hst.cell 0 _ rfl
  have hk1 := hst.cell 1 Pv rfl
  have hpl := hst.lt
  have HH := Aside0.mk (And.intro hst (And.intro hbp (And.intro hL (And.intro hcs (And.intro hP (And.intro hps hpb))))))
  have HCP := Aside0.mk (fun (W : World) (hW : Below w.heap.size w W) => rcopied_calls A c b W (Kd.C_below hb hW) hnil (by omega))
  obtain ⟨bl, hbl⟩ : ∃ bl, b.length = bl := ⟨_, rfl⟩
  rw [hbl] at HCP hl ⊢
  have HBL := Aside0.mk hbl
  clear hst hbp hL hcs hP hps hpb hb hnil hbl
  have i1 : ¬ (n : Int) < 0 := by omega
  have i2 : ¬ (N : Int) ≤ (n : Int) := by omega
  go_enter Tryz.func113, Tryz.ntmps113
  by_cases h256 : bl = 256
  · subst h256
    go_upto_region 5 with fail
    refine wp_region_in [0, 0, 0, 0, 1, 0, 0, 2, 0, 2, 2, 0, 0, 3] [13] (fun W => W.cell? ⟨p, 1, none⟩ = some Pv) (by kernel_rfl) rfl (by kernel_rfl) (fun _ _ _ _ h => h) hk1 ?_
    iterate 7 (first
      | (refine in_off0 (by rfl) ?_; simp only [Act.put, stA, stZ, stS, i64_w, i32_w])
      | (refine in_off1 (by rfl) ?_; simp only [Act.put, stA, stZ, stS, i64_w, i32_w])
      | (refine in_0 (v := ?_) (by rfl) rfl ?_ (a' := ?_) ?_ ?_; rotate_left; (intro w'; go_simp; with_reducible rfl); rotate_left; (simp only [Act.put, stA, stZ, stS, i64_w, i32_w]; rfl))
      | (refine in_1 (v := ?_) (by rfl) rfl ?_ (a' := ?_) ?_ ?_; rotate_left; (rintro w' hs; go_split_ands; go_simp; with_reducible rfl); rotate_left; (simp only [Act.put, stA, stZ, stS, i64_w, i32_w]; rfl)))
    refine in_2 (by rfl) (fun K hK => ?_)
    go_simp
    with_reducible refine (HCP.out _ ((Below.refl _ _).drew)).mono ?_
    rintro e w1 ⟨v1, rfl, ho1, hb1⟩
    obtain ⟨A1, c1, rfl, _, _⟩ := ho1.reads
    rw [HBL.out]
    dsimp only
    have b1 : Below w.heap.size w w1 := below_then ((Below.refl w.heap.size w).drew) (Nat.le_refl _) hb1
    have hst1 := HH.out.1.below b1
    refine hK _ _ (hst1.cell 1 Pv rfl) ?_
    clear hK K
    try simp only [Act.put, stA, stZ, stS, i64_w, i32_w]
    iterate 1 (first
      | (refine in_off0 (by rfl) ?_; simp only [Act.put, stA, stZ, stS, i64_w, i32_w])
      | (refine in_off1 (by rfl) ?_; simp only [Act.put, stA, stZ, stS, i64_w, i32_w])
      | (refine in_0 (v := ?_) (by rfl) rfl ?_ (a' := ?_) ?_ ?_; rotate_left; (intro w'; go_simp; with_reducible rfl); rotate_left; (simp only [Act.put, stA, stZ, stS, i64_w, i32_w]; rfl))
      | (refine in_1 (v := ?_) (by rfl) rfl ?_ (a' := ?_) ?_ ?_; rotate_left; (rintro w' hs; go_split_ands; go_simp; with_reducible rfl); rotate_left; (simp only [Act.put, stA, stZ, stS, i64_w, i32_w]; rfl)))
    refine in_2 (by rfl) (fun K hK => ?_)
    unfold Oper.wp execOp
    go_simp
    have b2 : Below w.heap.size w (w1.alloc (.cells #[.int .i64 n, .slice A1 256 c1] 207)) := below_alloc b1 _
    have hx := alloc_last w1 (.cells #[.int .i64 n, .slice A1 256 c1] 207)
    have hst2 := HH.out.1.below b2
    refine hK _ _ (hst2.cell 1 Pv rfl) ?_
    clear hK K
    try simp only [Act.put, stA, stZ, stS, i64_w, i32_w]
    have hn1 : w1.heap.size < (w1.alloc (.cells #[.int .i64 n, .slice A1 256 c1] 207)).heap.size := lt_of_obj hx
    obtain ⟨wb, hwb⟩ : ∃ wb, w1.alloc (.cells #[.int .i64 n, .slice A1 256 c1] 207) = wb := ⟨_, rfl⟩
    rw [hwb] at b2 hx hst2 hn1 ⊢
    have hLb := pw_own_below HH.out.2.2.1 b2
    have hPb := pw_own_below HH.out.2.2.2.2.1 b2
    have hbw : 0 ≤ wb.heap.size := Nat.zero_le _
    refine in_2 (by rfl) (fun K hK => ?_)
    refine wp_append_at2 (.tmp 25) (.tmp 30) 166 rfl 0 207 i0 (.agg #[.int .i64 0, .slice none 0 0]) 2 32 Tryz.underlying166 hi hz0 hz1 hz2 rfl (by decide) Pv m ps rfl hPb ⟨w1.heap.size, 0, none⟩ 1 1 [.int .i64 n, .slice A1 256 c1] rfl rfl (fun j u hj => ?_) (fun u hu => ?_) (by simp only [maxLen]; omega) (by omega) hbw ?_
    · rw [add_plain]
      simpa [World.cell?, hx] using hj
    · simp only [List.mem_cons, List.not_mem_nil, or_false] at hu
      rcases hu with rfl | rfl <;> rfl
    intro v' w4 h4 hg4 hloc
    obtain ⟨A', c', rfl, _, _⟩ := own_shape h4
    have hm4 := mod_grown hg4
    have hst4 := hst2.mod hm4 (not_strc hPb hst2 (by decide))
    have hL4 := own_mod hLb hm4 (fun g hg => own_apart hLb hPb (by decide) g hg)
    have hb4 : Mod w w4 D := Mod.trans (Mod.of_below b2 D) hm4 (fun k _ e => HH.out.2.1.2.2 k e)
    have hD4 : ∀ k, (Value.slice A' (m + 1) c').ownBlock = some k → D k ∨ w.heap.size ≤ k := fun k hk => by
      rcases hloc with e | e
      · exact .inl (HH.out.2.1.2.2 k (e.symm.trans hk))
      · rw [hk] at e
        have : k = wb.heap.size := Option.some.inj e
        exact .inr (by have := b2.size; omega)
    have HD4 := Aside0.mk hD4
    refine hK _ _ (hst4.cell 1 Pv rfl) ?_
    clear hK K
    try simp only [Act.put, stA, stZ, stS, i64_w, i32_w]
    iterate 2 (first
      | (refine in_off0 (by rfl) ?_; simp only [Act.put, stA, stZ, stS, i64_w, i32_w])
      | (refine in_off1 (by rfl) ?_; simp only [Act.put, stA, stZ, stS, i64_w, i32_w])
      | (refine in_0 (v := ?_) (by rfl) rfl ?_ (a' := ?_) ?_ ?_; rotate_left; (intro w'; go_simp; with_reducible rfl); rotate_left; (simp only [Act.put, stA, stZ, stS, i64_w, i32_w]; rfl))
      | (refine in_1 (v := ?_) (by rfl) rfl ?_ (a' := ?_) ?_ ?_; rotate_left; (rintro w' hs; go_split_ands; go_simp; with_reducible rfl); rotate_left; (simp only [Act.put, stA, stZ, stS, i64_w, i32_w]; rfl)))
    have hk4 := hst4.cell 1 Pv rfl
    have hf4 := hst4.free 1
    refine in_3 (by rfl) (fun K hK => ?_)
    unfold Oper.wp execOp
    go_simp
    have hm5 : Mod w4 (w4.setCell ⟨p, 1, none⟩ (.slice A' (m + 1) c')) (· = p) := (Mod.refl w4 (· = p)).set_own 1 _
    have hst5 := hst4.set 1 (.slice A' (m + 1) c')
    refine hK _ _ ?_
    clear hK K
    try simp only [Act.put, stA, stZ, stS, i64_w, i32_w]
    refine out_nil ?_
    have hL5 := own_mod hL4 hm5 (fun g hg e => own_not_strc hL4 hst4 (by decide) (by rw [hg, e]))
    have hP5 := own_mod h4 hm5 (fun g hg e => own_not_strc h4 hst4 (by decide) (by rw [hg, e]))
    have hb5 : Mod w (w4.setCell ⟨p, 1, none⟩ (.slice A' (m + 1) c')) D := hb4.setCell (p := ⟨p, 1, none⟩) (fun _ => HH.out.2.1.1) _
    clear hm5 hk4 hf4
    generalize w4.setCell ⟨p, 1, none⟩ (.slice A' (m + 1) c') = w5 at hst5 hL5 hP5 hb5 ⊢
    have hk5 := hst5.cell 2 (.int .i64 kk) rfl
    have hf5 := hst5.free 2
    have H5 := Aside0.mk (And.intro hst5 (And.intro hL5 (And.intro hP5 hb5)))
    clear hst5 hL5 hP5 hb5 hst4 hL4 hb4 hD4 hm4 hg4 h4 hloc hLb hPb hst2 hx b2 hwb hst1 b1 hb1 ho1 hk1 hk0
    go_wp2
    go_ret
    obtain ⟨x, hx⟩ : ∃ x, wrap64 (kk + 1) = x := ⟨_, rfl⟩
    rw [hx]
    have hm6 : Mod w5 (w5.setCell ⟨p, 2, none⟩ (.int .i64 x)) (· = p) := (Mod.refl w5 (· = p)).set_own 2 _
    have hpl0 : ps.length = m * 2 := HH.out.2.2.2.2.1.1
    refine ⟨fun k => D k ∨ w.heap.size ≤ k, 0, m + 1, rfl, Nat.le_refl _, ⟨_, _, x, cs, _, H5.out.1.set 2 (.int .i64 x), ⟨.inl HH.out.2.1.1, fun k hk => .inl (HH.out.2.1.2.1 k hk), HD4.out⟩, own_mod H5.out.2.1 hm6 (fun g hg e => own_not_strc H5.out.2.1 H5.out.1 (by decide) (by rw [hg, e])), HH.out.2.2.2.1, own_mod H5.out.2.2.1 hm6 (fun g hg e => own_not_strc H5.out.2.2.1 H5.out.1 (by decide) (by rw [hg, e])), fun q hq => ?_, fun j hj => ?_⟩, fun k hk => hk, H5.out.2.2.2.setCell (p := ⟨p, 2, none⟩) (fun _ => HH.out.2.1.1) _⟩
    · rcases List.mem_append.1 hq with h | h
      · exact HH.out.2.2.2.2.2.1 q h
      · simp only [List.mem_cons, List.not_mem_nil, or_false] at h
        rcases h with rfl | rfl <;> rfl
    · by_cases hjm : j < m
      · obtain ⟨y, yA, yn, yc, hy1, hy2, hy3⟩ := HH.out.2.2.2.2.2.2 j hjm
        exact ⟨y, yA, yn, yc, hy1, by rw [List.getElem?_append_left (by omega)]; exact hy2, by rw [List.getElem?_append_left (by omega)]; exact hy3⟩
      · obtain rfl : j = m := by omega
        exact ⟨n, A1, 256, c1, hn, by rw [List.getElem?_append_right (by omega), hpl0, Nat.sub_self]; rfl, by rw [List.getElem?_append_right (by omega), hpl0, show j * 2 + 1 - j * 2 = 1 by omega]; rfl⟩
  · have hne : ((bl : Int) != 256) = true := by rw [bne_iff_ne]; omega
    have hne' : ¬ ((bl : Int) = 256) := by omega
    go_wp2
    go_ret
    exact ⟨D, 22, m, rfl, Nat.le_succ _, ⟨_, Pv, kk, cs, ps, HH.out.1, HH.out.2.1, HH.out.2.2.1, HH.out.2.2.2.1, HH.out.2.2.2.2.1, HH.out.2.2.2.2.2.1, HH.out.2.2.2.2.2.2⟩, fun k hk => .inl hk, Mod.refl _ _⟩
def mostL (kind : Int) : List Int := [3, 1, 511, 65535, 65535, 65535, if kind = 3 then 512 else 65536, 4096, -1, -1, -1, 65535, 65535, 65535]
def wideL : List Int := [1, 1, 2, 2, 2, 2, 4, 4, 8, 8, 8, 4, 4, 4]
def fieldC (kind : Int) : List Int := [1, 3, 1, 1, 2, 511, 2, 65535, 2, 65535, 2, 65535, 4, if kind = 3 then 512 else 65536, 4, 4096, 8, -1, 8, -1, 8, -1, 4, 65535, 4, 65535, 4, 65535]
set_option maxHeartbeats 4000000 in
set_option maxRecDepth 100000 in
theorem fields_calls (kind : Int) (w : World) :
    Calls Tryz.prog 126 #[.int .i64 kind] w fun e w' => ∃ g c, e = .returned (.slice (some ⟨g, 0, none⟩) 14 c) ∧ w.heap.size ≤ g ∧ 14 ≤ c ∧ Strc w' g 189 (nums .i64 (fieldC kind)) ∧ Below w.heap.size w w' := by
  by_cases hk : kind = 3
  · have hkb : (kind == 3) = true := by simpa using hk
    have HK := Aside0.mk (show nums .i64 (fieldC kind) = [.int .i64 1, .int .i64 3, .int .i64 1, .int .i64 1, .int .i64 2, .int .i64 511, .int .i64 2, .int .i64 65535, .int .i64 2, .int .i64 65535, .int .i64 2, .int .i64 65535, .int .i64 4, .int .i64 512, .int .i64 4, .int .i64 4096, .int .i64 8, .int .i64 (-1), .int .i64 8, .int .i64 (-1), .int .i64 8, .int .i64 (-1), .int .i64 4, .int .i64 65535, .int .i64 4, .int .i64 65535, .int .i64 4, .int .i64 65535] by unfold fieldC; rw [if_pos hk]; rfl)
    clear hk
    go_enter Tryz.func126, Tryz.ntmps126
    go_wp2
    go_ret
    refine ⟨w.heap.size, 14, rfl, Nat.le_refl _, Nat.le_refl _, ?_, below_alloc (Below.refl _ _) _⟩
    rw [HK.out]
    exact alloc_last w _
  · have hkb : (kind == 3) = false := by simpa using hk
    have HK := Aside0.mk (show nums .i64 (fieldC kind) = [.int .i64 1, .int .i64 3, .int .i64 1, .int .i64 1, .int .i64 2, .int .i64 511, .int .i64 2, .int .i64 65535, .int .i64 2, .int .i64 65535, .int .i64 2, .int .i64 65535, .int .i64 4, .int .i64 65536, .int .i64 4, .int .i64 4096, .int .i64 8, .int .i64 (-1), .int .i64 8, .int .i64 (-1), .int .i64 8, .int .i64 (-1), .int .i64 4, .int .i64 65535, .int .i64 4, .int .i64 65535, .int .i64 4, .int .i64 65535] by unfold fieldC; rw [if_neg hk]; rfl)
    clear hk
    go_enter Tryz.func126, Tryz.ntmps126
    go_wp2
    go_ret
    refine ⟨w.heap.size, 14, rfl, Nat.le_refl _, Nat.le_refl _, ?_, below_alloc (Below.refl _ _) _⟩
    rw [HK.out]
    exact alloc_last w _
end Go.Proofs.YtkmhilhfmfmckaaGreatDoor.Hand
