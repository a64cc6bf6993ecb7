/- Own texts and printed words of the kit, put together and trimmed by a program of mine (merge.py). -/
import Derived.Test.YtkmhilhfmfmckaaGreatDoorK13
namespace Go.Proofs.YtkmhilhfmfmckaaGreatDoor.Hand
set_option linter.unusedSimpArgs false
set_option linter.unusedVariables false
open Go.Shelf Go.RowKit Go.Proofs.YtkmhilhfmfmckaaGreatDoorW.PrintWords Go.Proofs.YtkmhilhfmfmckaaGreatDoorW.PrintLast Go.Proofs.YtkmhilhfmfmckaaGreatDoorW.PrintMore
set_option maxHeartbeats 1000000 in
set_option maxRecDepth 100000 in
theorem rwithin_calls (x lo hi : Int) (w : World) : Calls Tryz.prog 163 #[.int .i64 x, .int .i64 lo, .int .i64 hi] w fun e w' => e = .returned (.bool (inI x lo hi)) ∧ w = w' := by
  unfold inI
  by_cases h1 : lo ≤ x
  · by_cases h2 : x ≤ hi
    · have e : (decide (lo ≤ x) && decide (x ≤ hi)) = true := by simp [h1, h2]
      rw [e]
      clear e
      go_enter Tryz.func163, Tryz.ntmps163
      go_wp2
      go_ret
      exact ⟨rfl, rfl⟩
    · have e : (decide (lo ≤ x) && decide (x ≤ hi)) = false := by simp [h1, h2]
      rw [e]
      clear e
      go_enter Tryz.func163, Tryz.ntmps163
      go_wp2
      go_ret
      exact ⟨rfl, rfl⟩
  · have e : (decide (lo ≤ x) && decide (x ≤ hi)) = false := by simp [h1]
    rw [e]
    clear e
    go_enter Tryz.func163, Tryz.ntmps163
    go_wp2
    go_ret
    exact ⟨rfl, rfl⟩
set_option maxHeartbeats 1000000 in
set_option maxRecDepth 100000 in
theorem rgroups_calls (B P I J q : Int) (w : World) (hB : 128 ≤ B ∧ B ≤ 4096) (hP : 32 ≤ P ∧ P ≤ 2016) (hq : (B - 1) / P = q) : Calls Tryz.prog 164 #[.agg #[.int .i64 B, .int .i64 P, .int .i64 I, .int .i64 J]] w fun e w' => e = .returned (.int .i64 (q + 1)) ∧ Below w.heap.size w w' := by
  have ht1 : (B + P - 1).tdiv P = q + 1 := by
    rw [Int.tdiv_eq_ediv_of_nonneg (by omega), show B + P - 1 = (B - 1) + P by omega, Int.add_ediv_of_dvd_right ⟨1, by omega⟩, Int.ediv_self (by omega), hq]
  have hd0 : 0 ≤ q := by rw [← hq]; exact Int.ediv_nonneg (by omega) (by omega)
  have hd1 : q ≤ B - 1 := by rw [← hq]; exact Int.ediv_le_self _ (by omega)
  have hP0 : ¬ P = 0 := by omega
  have hPm : ¬ P = -1 := by omega
  clear hq
  go_enter Tryz.func164, Tryz.ntmps164
  go_wp2
  go_ret
  exact ⟨rfl, below_alloc (Below.refl _ _) _⟩
set_option maxHeartbeats 2000000 in
set_option maxRecDepth 100000 in
theorem rgeo_calls (g : Geo) (w : World) : Calls Tryz.prog 110 #[g.v] w fun e w' => e = .returned (.int .i64 (geoI g)) ∧ Below w.heap.size w w' := by
  obtain ⟨r, hr⟩ : ∃ r, geoI g = r := ⟨_, rfl⟩
  rw [hr]
  obtain ⟨B, P, I, J⟩ := g
  unfold Geo.v
  dsimp only
  have hA : geoA ⟨B, P, I, J⟩ = (inI B 128 4096 && inI P 32 2016 && inI I 8 512 && (I % 2 == 0) && inI J 96 512) := rfl
  have hbad : geoA ⟨B, P, I, J⟩ = false → r = 22 := fun h => by rw [← hr]; unfold geoI; rw [h]; simp
  by_cases h1 : inI B 128 4096 = true
  · by_cases h2 : inI P 32 2016 = true
    · by_cases h3 : inI I 8 512 = true
      · obtain ⟨i, rfl⟩ : ∃ i : Nat, I = i := ⟨I.toNat, by have := inI_iff.1 h3; omega⟩
        have h3' := inI_iff.1 h3
        have hand := i64_and_one i (by omega)
        by_cases h4 : i % 2 = 0
        · rw [h4] at hand
          by_cases h5 : inI J 96 512 = true
          · have hA1 : geoA ⟨B, P, (i : Int), J⟩ = true := by rw [hA, h1, h2, h3, h5]; simp; omega
            have hgd : r = if geoB ⟨B, P, (i : Int), J⟩ = true then 0 else 22 := by rw [← hr]; unfold geoI; rw [hA1]; simp
            have h1' := inI_iff.1 h1
            have h2' := inI_iff.1 h2
            have h5' := inI_iff.1 h5
            unfold geoB at hgd
            dsimp only at hgd
            have hd0 : 0 ≤ (B - 1) / P := Int.ediv_nonneg (by omega) (by omega)
            have hd1 : (B - 1) / P ≤ B - 1 := Int.ediv_le_self _ (by omega)
            have hm0 : 0 ≤ (B - 1) % P := Int.emod_nonneg _ (by omega)
            have hm1 : (B - 1) % P < P := Int.emod_lt_of_pos _ (by omega)
            have ht1 : (B - 1).tdiv P = (B - 1) / P := Int.tdiv_eq_ediv_of_nonneg (by omega)
            have ht2 : (B - 1).tmod P = (B - 1) % P := Int.tmod_eq_emod_of_nonneg (by omega)
            obtain ⟨q, hq⟩ : ∃ q, (B - 1) / P = q := ⟨_, rfl⟩
            obtain ⟨m, hm⟩ : ∃ m, (B - 1) % P = m := ⟨_, rfl⟩
            rw [hq] at hd0 hd1 hgd ht1
            rw [hm] at hm0 hm1 hgd ht2
            have hmul : P * q + m = B - 1 := by rw [← hq, ← hm]; exact Int.mul_ediv_add_emod _ _
            have hqP : 0 ≤ q * P := Int.mul_nonneg hd0 (by omega)
            obtain ⟨qp, hqp⟩ : ∃ qp, q * P = qp := ⟨_, rfl⟩
            rw [Int.mul_comm, hqp] at hmul
            rw [hqp] at hqP
            have HGR := Aside0.mk (fun (W : World) => rgroups_calls B P (i : Int) J q W (by omega) (by omega) hq)
            have HB0 := Aside0.mk (fun o => below_alloc (Below.refl w.heap.size w) o)
            have hP0 : ¬ P = 0 := by omega
            have hBP : ¬ (P = -1) := by omega
            have HGD := Aside0.mk hgd
            clear hA hbad hA1 hr hgd
            by_cases c1 : q < 14
            · by_cases hbp : B ≤ P
              · rw [Int.min_eq_left hbp] at HGD
                by_cases c2 : 5 + J + (i : Int) / 2 ≤ B
                · by_cases c3 : 3 + (i : Int) / 2 ≤ m + 1
                  · have hr2 : r = 0 := by rw [HGD.out]; simp; omega
                    subst hr2
                    clear HGD
                    go_enter Tryz.func110, Tryz.ntmps110
                    go_wp2_with (first | (go_at_call 163; refine (rwithin_calls _ _ _ _).mono ?_; rintro e w' ⟨rfl, rfl⟩) | (go_at_call 164; refine (HGR.out _).mono ?_; rintro e w2 ⟨rfl, hb2⟩; have HB2 := Aside0.mk (below_then (HB0.out _) (HB0.out _).size hb2); have m0 := pw_cell_below hb2 (cell_alloc w #[.int .i64 B, .int .i64 P, .int .i64 (i : Int), .int .i64 J] 80 0 _ rfl); have m1 := pw_cell_below hb2 (cell_alloc w #[.int .i64 B, .int .i64 P, .int .i64 (i : Int), .int .i64 J] 80 1 _ rfl); have m2 := pw_cell_below hb2 (cell_alloc w #[.int .i64 B, .int .i64 P, .int .i64 (i : Int), .int .i64 J] 80 2 _ rfl); have m3 := pw_cell_below hb2 (cell_alloc w #[.int .i64 B, .int .i64 P, .int .i64 (i : Int), .int .i64 J] 80 3 _ rfl); clear hb2))
                    all_goals first | (go_ret; exact ⟨rfl, HB2.out⟩) | (exfalso; omega)
                  · have hr2 : r = 22 := by rw [HGD.out]; simp; omega
                    subst hr2
                    clear HGD
                    go_enter Tryz.func110, Tryz.ntmps110
                    go_wp2_with (first | (go_at_call 163; refine (rwithin_calls _ _ _ _).mono ?_; rintro e w' ⟨rfl, rfl⟩) | (go_at_call 164; refine (HGR.out _).mono ?_; rintro e w2 ⟨rfl, hb2⟩; have HB2 := Aside0.mk (below_then (HB0.out _) (HB0.out _).size hb2); have m0 := pw_cell_below hb2 (cell_alloc w #[.int .i64 B, .int .i64 P, .int .i64 (i : Int), .int .i64 J] 80 0 _ rfl); have m1 := pw_cell_below hb2 (cell_alloc w #[.int .i64 B, .int .i64 P, .int .i64 (i : Int), .int .i64 J] 80 1 _ rfl); have m2 := pw_cell_below hb2 (cell_alloc w #[.int .i64 B, .int .i64 P, .int .i64 (i : Int), .int .i64 J] 80 2 _ rfl); have m3 := pw_cell_below hb2 (cell_alloc w #[.int .i64 B, .int .i64 P, .int .i64 (i : Int), .int .i64 J] 80 3 _ rfl); clear hb2))
                    all_goals first | (go_ret; exact ⟨rfl, HB2.out⟩) | (exfalso; omega)
                · have hr2 : r = 22 := by rw [HGD.out]; simp; omega
                  subst hr2
                  clear HGD
                  go_enter Tryz.func110, Tryz.ntmps110
                  go_wp2_with (first | (go_at_call 163; refine (rwithin_calls _ _ _ _).mono ?_; rintro e w' ⟨rfl, rfl⟩) | (go_at_call 164; refine (HGR.out _).mono ?_; rintro e w2 ⟨rfl, hb2⟩; have HB2 := Aside0.mk (below_then (HB0.out _) (HB0.out _).size hb2); have m0 := pw_cell_below hb2 (cell_alloc w #[.int .i64 B, .int .i64 P, .int .i64 (i : Int), .int .i64 J] 80 0 _ rfl); have m1 := pw_cell_below hb2 (cell_alloc w #[.int .i64 B, .int .i64 P, .int .i64 (i : Int), .int .i64 J] 80 1 _ rfl); have m2 := pw_cell_below hb2 (cell_alloc w #[.int .i64 B, .int .i64 P, .int .i64 (i : Int), .int .i64 J] 80 2 _ rfl); have m3 := pw_cell_below hb2 (cell_alloc w #[.int .i64 B, .int .i64 P, .int .i64 (i : Int), .int .i64 J] 80 3 _ rfl); clear hb2))
                  all_goals first | (go_ret; exact ⟨rfl, HB2.out⟩) | (exfalso; omega)
              · rw [Int.min_eq_right (by omega)] at HGD
                by_cases c2 : 5 + J + (i : Int) / 2 ≤ P
                · by_cases c3 : 3 + (i : Int) / 2 ≤ m + 1
                  · have hr2 : r = 0 := by rw [HGD.out]; simp; omega
                    subst hr2
                    clear HGD
                    go_enter Tryz.func110, Tryz.ntmps110
                    go_wp2_with (first | (go_at_call 163; refine (rwithin_calls _ _ _ _).mono ?_; rintro e w' ⟨rfl, rfl⟩) | (go_at_call 164; refine (HGR.out _).mono ?_; rintro e w2 ⟨rfl, hb2⟩; have HB2 := Aside0.mk (below_then (HB0.out _) (HB0.out _).size hb2); have m0 := pw_cell_below hb2 (cell_alloc w #[.int .i64 B, .int .i64 P, .int .i64 (i : Int), .int .i64 J] 80 0 _ rfl); have m1 := pw_cell_below hb2 (cell_alloc w #[.int .i64 B, .int .i64 P, .int .i64 (i : Int), .int .i64 J] 80 1 _ rfl); have m2 := pw_cell_below hb2 (cell_alloc w #[.int .i64 B, .int .i64 P, .int .i64 (i : Int), .int .i64 J] 80 2 _ rfl); have m3 := pw_cell_below hb2 (cell_alloc w #[.int .i64 B, .int .i64 P, .int .i64 (i : Int), .int .i64 J] 80 3 _ rfl); clear hb2))
                    all_goals first | (go_ret; exact ⟨rfl, HB2.out⟩) | (exfalso; omega)
                  · have hr2 : r = 22 := by rw [HGD.out]; simp; omega
                    subst hr2
                    clear HGD
                    go_enter Tryz.func110, Tryz.ntmps110
                    go_wp2_with (first | (go_at_call 163; refine (rwithin_calls _ _ _ _).mono ?_; rintro e w' ⟨rfl, rfl⟩) | (go_at_call 164; refine (HGR.out _).mono ?_; rintro e w2 ⟨rfl, hb2⟩; have HB2 := Aside0.mk (below_then (HB0.out _) (HB0.out _).size hb2); have m0 := pw_cell_below hb2 (cell_alloc w #[.int .i64 B, .int .i64 P, .int .i64 (i : Int), .int .i64 J] 80 0 _ rfl); have m1 := pw_cell_below hb2 (cell_alloc w #[.int .i64 B, .int .i64 P, .int .i64 (i : Int), .int .i64 J] 80 1 _ rfl); have m2 := pw_cell_below hb2 (cell_alloc w #[.int .i64 B, .int .i64 P, .int .i64 (i : Int), .int .i64 J] 80 2 _ rfl); have m3 := pw_cell_below hb2 (cell_alloc w #[.int .i64 B, .int .i64 P, .int .i64 (i : Int), .int .i64 J] 80 3 _ rfl); clear hb2))
                    all_goals first | (go_ret; exact ⟨rfl, HB2.out⟩) | (exfalso; omega)
                · have hr2 : r = 22 := by rw [HGD.out]; simp; omega
                  subst hr2
                  clear HGD
                  go_enter Tryz.func110, Tryz.ntmps110
                  go_wp2_with (first | (go_at_call 163; refine (rwithin_calls _ _ _ _).mono ?_; rintro e w' ⟨rfl, rfl⟩) | (go_at_call 164; refine (HGR.out _).mono ?_; rintro e w2 ⟨rfl, hb2⟩; have HB2 := Aside0.mk (below_then (HB0.out _) (HB0.out _).size hb2); have m0 := pw_cell_below hb2 (cell_alloc w #[.int .i64 B, .int .i64 P, .int .i64 (i : Int), .int .i64 J] 80 0 _ rfl); have m1 := pw_cell_below hb2 (cell_alloc w #[.int .i64 B, .int .i64 P, .int .i64 (i : Int), .int .i64 J] 80 1 _ rfl); have m2 := pw_cell_below hb2 (cell_alloc w #[.int .i64 B, .int .i64 P, .int .i64 (i : Int), .int .i64 J] 80 2 _ rfl); have m3 := pw_cell_below hb2 (cell_alloc w #[.int .i64 B, .int .i64 P, .int .i64 (i : Int), .int .i64 J] 80 3 _ rfl); clear hb2))
                  all_goals first | (go_ret; exact ⟨rfl, HB2.out⟩) | (exfalso; omega)
            · have hr2 : r = 22 := by rw [HGD.out]; simp; omega
              subst hr2
              clear HGD
              go_enter Tryz.func110, Tryz.ntmps110
              go_wp2_with (first | (go_at_call 163; refine (rwithin_calls _ _ _ _).mono ?_; rintro e w' ⟨rfl, rfl⟩) | (go_at_call 164; refine (HGR.out _).mono ?_; rintro e w2 ⟨rfl, hb2⟩; have HB2 := Aside0.mk (below_then (HB0.out _) (HB0.out _).size hb2); have m0 := pw_cell_below hb2 (cell_alloc w #[.int .i64 B, .int .i64 P, .int .i64 (i : Int), .int .i64 J] 80 0 _ rfl); have m1 := pw_cell_below hb2 (cell_alloc w #[.int .i64 B, .int .i64 P, .int .i64 (i : Int), .int .i64 J] 80 1 _ rfl); have m2 := pw_cell_below hb2 (cell_alloc w #[.int .i64 B, .int .i64 P, .int .i64 (i : Int), .int .i64 J] 80 2 _ rfl); have m3 := pw_cell_below hb2 (cell_alloc w #[.int .i64 B, .int .i64 P, .int .i64 (i : Int), .int .i64 J] 80 3 _ rfl); clear hb2))
              all_goals first | (go_ret; exact ⟨rfl, HB2.out⟩) | (exfalso; omega)
          · have hr2 := hbad (by rw [hA, show inI J 96 512 = false by simpa using h5]; simp)
            subst hr2
            have h5' : inI J 96 512 = false := by simpa using h5
            clear hA hbad hr h5 h3'
            go_enter Tryz.func110, Tryz.ntmps110
            go_wp2_with (go_at_call 163; refine (rwithin_calls _ _ _ _).mono ?_; rintro e w' ⟨rfl, rfl⟩)
            all_goals first | (go_ret; exact ⟨rfl, below_alloc (Below.refl _ _) _⟩) | (exfalso; omega) | (exfalso; simp_all; done)
        · rw [show i % 2 = 1 by omega] at hand
          have hr2 := hbad (by rw [hA]; have : ((i : Int) % 2 == 0) = false := by { rw [beq_eq_false_iff_ne]; omega }; rw [this]; simp)
          subst hr2
          clear hA hbad hr h3'
          go_enter Tryz.func110, Tryz.ntmps110
          go_wp2_with (go_at_call 163; refine (rwithin_calls _ _ _ _).mono ?_; rintro e w' ⟨rfl, rfl⟩)
          all_goals first | (go_ret; exact ⟨rfl, below_alloc (Below.refl _ _) _⟩) | (exfalso; omega) | (exfalso; simp_all; done)
      · have h3' : inI I 8 512 = false := by simpa using h3
        have hr2 := hbad (by rw [hA, h3']; simp)
        subst hr2
        clear hA hbad hr h3
        go_enter Tryz.func110, Tryz.ntmps110
        go_wp2_with (go_at_call 163; refine (rwithin_calls _ _ _ _).mono ?_; rintro e w' ⟨rfl, rfl⟩)
        all_goals first | (go_ret; exact ⟨rfl, below_alloc (Below.refl _ _) _⟩) | (exfalso; omega) | (exfalso; simp_all; done)
    · have h2' : inI P 32 2016 = false := by simpa using h2
      have hr2 := hbad (by rw [hA, h2']; simp)
      subst hr2
      clear hA hbad hr h2
      go_enter Tryz.func110, Tryz.ntmps110
      go_wp2_with (go_at_call 163; refine (rwithin_calls _ _ _ _).mono ?_; rintro e w' ⟨rfl, rfl⟩)
      all_goals first | (go_ret; exact ⟨rfl, below_alloc (Below.refl _ _) _⟩) | (exfalso; omega) | (exfalso; simp_all; done)
  · have h1' : inI B 128 4096 = false := by simpa using h1
    have hr2 := hbad (by rw [hA, h1']; simp)
    subst hr2
    clear hA hbad hr h1
    go_enter Tryz.func110, Tryz.ntmps110
    go_wp2_with (go_at_call 163; refine (rwithin_calls _ _ _ _).mono ?_; rintro e w' ⟨rfl, rfl⟩)
    all_goals first | (go_ret; exact ⟨rfl, below_alloc (Below.refl _ _) _⟩) | (exfalso; omega) | (exfalso; simp_all; done)
set_option maxHeartbeats 1000000 in
set_option maxRecDepth 100000 in
theorem rgrps_calls (g : Geo) (w : World) : Calls Tryz.prog 111 #[g.v] w fun e w' => e = .returned (.int .i64 (groupsI g)) ∧ Below w.heap.size w w' := by
  have hz := fun h => geoI_zero (g := g) h
  have hcs := geoI_cases g
  obtain ⟨r, hr⟩ : ∃ r, groupsI g = r := ⟨_, rfl⟩
  have h0 : geoI g = 0 → r = (g.blocks - 1) / g.per + 1 := fun h => by rw [← hr]; unfold groupsI; rw [if_pos h]
  have h22 : geoI g = 22 → r = 0 := fun h => by rw [← hr]; unfold groupsI; rw [if_neg (by rw [h]; decide)]
  rw [hr]
  have HC := Aside0.mk (fun (W : World) => rgeo_calls g W)
  have HB0 := Aside0.mk (fun o => below_alloc (Below.refl w.heap.size w) o)
  obtain ⟨B, P, I, J⟩ := g
  unfold Geo.v at HC ⊢
  dsimp only at hz h0 HC ⊢
  rcases hcs with hc | hc
  · have hr2 := h0 hc
    have hz2 := hz hc
    rw [hc] at HC
    obtain ⟨q, hq⟩ : ∃ q, (B - 1) / P = q := ⟨_, rfl⟩
    rw [hq] at hr2
    have HGR := Aside0.mk (fun (W : World) => rgroups_calls B P I J q W hz2.1 hz2.2.1 hq)
    subst hr2
    clear hz hz2 h0 h22 hc hr hq
    go_enter Tryz.func111, Tryz.ntmps111
    go_wp2_with fail
    refine (HC.out _).mono ?_
    rintro e w1 ⟨rfl, hb1⟩
    have HB1 := Aside0.mk (below_then (HB0.out _) (HB0.out _).size hb1)
    have m0 := pw_cell_below hb1 (cell_alloc w #[.int .i64 B, .int .i64 P, .int .i64 I, .int .i64 J] 80 0 _ rfl)
    have m1 := pw_cell_below hb1 (cell_alloc w #[.int .i64 B, .int .i64 P, .int .i64 I, .int .i64 J] 80 1 _ rfl)
    have m2 := pw_cell_below hb1 (cell_alloc w #[.int .i64 B, .int .i64 P, .int .i64 I, .int .i64 J] 80 2 _ rfl)
    have m3 := pw_cell_below hb1 (cell_alloc w #[.int .i64 B, .int .i64 P, .int .i64 I, .int .i64 J] 80 3 _ rfl)
    clear hb1
    dsimp only
    go_wp2_with fail
    refine (HGR.out _).mono ?_
    rintro e w2 ⟨rfl, hb2⟩
    have HB2 := Aside0.mk (below_then HB1.out HB1.out.size hb2)
    clear hb2 m0 m1 m2 m3
    dsimp only
    go_wp2
    go_ret
    exact ⟨rfl, HB2.out⟩
  · have hr2 := h22 hc
    rw [hc] at HC
    subst hr2
    clear hz h0 h22 hc hr
    go_enter Tryz.func111, Tryz.ntmps111
    go_wp2_with fail
    refine (HC.out _).mono ?_
    rintro e w1 ⟨rfl, hb1⟩
    have HB1 := Aside0.mk (below_then (HB0.out _) (HB0.out _).size hb1)
    clear hb1
    dsimp only
    go_wp2
    go_ret
    exact ⟨rfl, HB1.out⟩
set_option maxHeartbeats 1000000 in
set_option maxRecDepth 100000 in
theorem rfixed_calls (g : Geo) (w : World) : Calls Tryz.prog 116 #[g.v] w fun e w' => e = .returned (.int .i64 (fixedI g)) ∧ Below w.heap.size w w' := by
  have HG := Aside0.mk (fun (W : World) => rgrps_calls g W)
  have HB0 := Aside0.mk (fun o => below_alloc (Below.refl w.heap.size w) o)
  have hgr := groupsI_range g
  have hcs := geoI_cases g
  have hzz := geoI_zero (g := g)
  have hfs := fixedI_sum (g := g)
  have hf0 : groupsI g = 0 → fixedI g = 0 := fun h => by unfold fixedI; rw [h]; rfl
  have hgz : geoI g = 22 → groupsI g = 0 := fun h => by unfold groupsI; rw [if_neg (by rw [h]; decide)]
  obtain ⟨r, hr⟩ : ∃ r, fixedI g = r := ⟨_, rfl⟩
  obtain ⟨n, hn⟩ : ∃ n, groupsI g = n := ⟨_, rfl⟩
  rw [hr] at hfs hf0 ⊢
  rw [hn] at HG hgr hfs hf0 hgz
  obtain ⟨B, P, I, J⟩ := g
  unfold Geo.v at HG ⊢
  dsimp only at HG hzz hfs ⊢
  by_cases h0 : n = 0
  · obtain rfl := hf0 h0
    subst h0
    clear hcs hzz hfs hf0 hgz hr hn
    go_enter Tryz.func116, Tryz.ntmps116
    go_wp2_with fail
    refine (HG.out _).mono ?_
    rintro e w1 ⟨rfl, hb1⟩
    have HB1 := Aside0.mk (below_then (HB0.out _) (HB0.out _).size hb1)
    clear hb1
    dsimp only
    go_wp2
    go_ret
    exact ⟨rfl, HB1.out⟩
  · have hz : geoI ⟨B, P, I, J⟩ = 0 := hcs.resolve_right (fun h => h0 (hgz h))
    have hz2 := hzz hz
    have hf2 := (hfs hz).1
    have hI : 8 ≤ I ∧ I ≤ 512 := hz2.2.2.1
    have hJ : 96 ≤ J ∧ J ≤ 512 := hz2.2.2.2.1
    have hti : I.tdiv 2 = I / 2 := Int.tdiv_eq_ediv_of_nonneg (by omega)
    obtain ⟨t, ht⟩ : ∃ t, I / 2 = t := ⟨_, rfl⟩
    have ht0 : 0 ≤ t ∧ t ≤ 256 := by omega
    rw [ht] at hf2 hti
    have hb1 : n * (2 + t) ≤ 14 * (2 + t) := Int.mul_le_mul_of_nonneg_right hgr.2 (by omega)
    have hb2 : 0 ≤ n * (2 + t) := Int.mul_nonneg hgr.1 (by omega)
    obtain ⟨p, hp⟩ : ∃ p, n * (2 + t) = p := ⟨_, rfl⟩
    rw [hp] at hf2 hb1 hb2
    have hnb : (n == 0) = false := by simpa using h0
    subst hf2
    clear hcs hzz hfs hf0 hgz hr hn hz hz2 h0
    go_enter Tryz.func116, Tryz.ntmps116
    go_wp2_with fail
    refine (HG.out _).mono ?_
    rintro e w1 ⟨rfl, hb1'⟩
    have HB1 := Aside0.mk (below_then (HB0.out _) (HB0.out _).size hb1')
    have m2 := pw_cell_below hb1' (cell_alloc w #[.int .i64 B, .int .i64 P, .int .i64 I, .int .i64 J] 80 2 _ rfl)
    have m3 := pw_cell_below hb1' (cell_alloc w #[.int .i64 B, .int .i64 P, .int .i64 I, .int .i64 J] 80 3 _ rfl)
    clear hb1'
    dsimp only
    go_wp2
    go_ret
    exact ⟨rfl, HB1.out⟩
set_option maxHeartbeats 4000000 in
set_option maxRecDepth 100000 in
theorem rmay_calls (s : Sup) (w : World) (h : supOk s = true) : Calls Tryz.prog 167 #[s.v] w fun e w' => e = .returned (.bool true) ∧ Below w.heap.size w w' := by
  have HG := Aside0.mk (fun (W : World) => rgrps_calls s.geo W)
  have HF := Aside0.mk (fun (W : World) => rfixed_calls s.geo W)
  obtain ⟨hz, _, _, _, _⟩ := sup_ranges h
  have hzz := geoI_zero hz
  have hgr := groupsI_range s.geo
  have hm : groupsI s.geo * s.geo.inodes ≤ 14 * 512 := Int.mul_le_mul hgr.2 hzz.2.2.1.2 (by omega) (by omega)
  have hm0 : 0 ≤ groupsI s.geo * s.geo.inodes := Int.mul_nonneg hgr.1 (by omega)
  have hf := fixedI_sum hz
  have hf2 : 0 ≤ groupsI s.geo * (2 + s.geo.inodes / 2) := Int.mul_nonneg hgr.1 (by omega)
  have hn0 : ¬ (groupsI s.geo = 0) := fun e => by
    unfold supOk at h
    rw [e] at h
    simp at h
  unfold supOk at h
  simp only [Bool.and_eq_true, decide_eq_true_eq] at h
  obtain ⟨⟨⟨⟨h0, h1⟩, h2⟩, h3⟩, h4⟩ := h
  have hwa : wrap64 (groupsI s.geo * s.geo.inodes) = groupsI s.geo * s.geo.inodes := by unfold wrap64; omega
  have hwf : wrap64 (s.geo.blocks - fixedI s.geo) = s.geo.blocks - fixedI s.geo := by unfold wrap64; omega
  obtain ⟨⟨B, P, I, J⟩, fb, fi, orp, mnt, clean⟩ := s
  unfold Geo.v at HG HF
  unfold Sup.v
  dsimp only at *
  obtain ⟨n, hn⟩ : ∃ n, groupsI ⟨B, P, I, J⟩ = n := ⟨_, rfl⟩
  obtain ⟨f, hff⟩ : ∃ f, fixedI ⟨B, P, I, J⟩ = f := ⟨_, rfl⟩
  rw [hn] at HG hn0 h2 h3 hwa
  rw [hff] at HF h1 hwf
  obtain ⟨a, ha⟩ : ∃ a, n * I = a := ⟨_, rfl⟩
  rw [ha] at h2 h3 hwa
  have HW := Aside0.mk (And.intro hwa hwf)
  have HI := Aside0.mk (And.intro h1 (And.intro h2 (And.intro h3 h4)))
  have HA := Aside0.mk ha
  clear hz hzz hgr hm hm0 hf hf2 hn hff h0 h1 h2 h3 h4 hwa hwf ha
  go_enter Tryz.func167, Tryz.ntmps167
  go_upto_region 1 with fail
  have hcells : ∀ (W : World), Below (w.alloc (.cells #[.int .i64 B, .int .i64 P, .int .i64 I, .int .i64 J, .int .i64 fb, .int .i64 fi, .int .i64 orp, .int .i64 mnt, .bool clean] 121)).heap.size (w.alloc (.cells #[.int .i64 B, .int .i64 P, .int .i64 I, .int .i64 J, .int .i64 fb, .int .i64 fi, .int .i64 orp, .int .i64 mnt, .bool clean] 121)) W →
      W.cell? ⟨w.heap.size, 0, none⟩ = some (.int .i64 B) ∧ W.cell? ⟨w.heap.size, 1, none⟩ = some (.int .i64 P) ∧ W.cell? ⟨w.heap.size, 2, none⟩ = some (.int .i64 I) ∧ W.cell? ⟨w.heap.size, 3, none⟩ = some (.int .i64 J) ∧ W.cell? ⟨w.heap.size, 4, none⟩ = some (.int .i64 fb) ∧ W.cell? ⟨w.heap.size, 5, none⟩ = some (.int .i64 fi) ∧ W.cell? ⟨w.heap.size, 6, none⟩ = some (.int .i64 orp) ∧ W.cell? ⟨w.heap.size, 7, none⟩ = some (.int .i64 mnt) := fun W hb => by
    have hx := fun j v hj => pw_cell_below hb (cell_alloc w #[.int .i64 B, .int .i64 P, .int .i64 I, .int .i64 J, .int .i64 fb, .int .i64 fi, .int .i64 orp, .int .i64 mnt, .bool clean] 121 j v hj)
    exact ⟨hx 0 _ rfl, hx 1 _ rfl, hx 2 _ rfl, hx 3 _ rfl, hx 4 _ rfl, hx 5 _ rfl, hx 6 _ rfl, hx 7 _ rfl⟩
  have HB0 := Aside0.mk (below_alloc (Below.refl w.heap.size w) (.cells #[.int .i64 B, .int .i64 P, .int .i64 I, .int .i64 J, .int .i64 fb, .int .i64 fi, .int .i64 orp, .int .i64 mnt, .bool clean] 121))
  generalize w.alloc (.cells #[.int .i64 B, .int .i64 P, .int .i64 I, .int .i64 J, .int .i64 fb, .int .i64 fi, .int .i64 orp, .int .i64 mnt, .bool clean] 121) = W0 at hcells HB0 ⊢
  have HC := Aside0.mk hcells
  obtain ⟨d0, d1, d2, d3, d4, d5, d6, d7⟩ := hcells W0 (Below.refl _ _)
  clear hcells
  go_wp2_with fail
  refine (HG.out W0).mono ?_
  rintro e w1 ⟨rfl, hb1⟩
  have HB1 := Aside0.mk hb1
  clear d0 d1 d2 d3 d4 d5 d6 d7
  obtain ⟨d0, d1, d2, d3, d4, d5, d6, d7⟩ := HC.out w1 hb1
  clear hb1
  dsimp only
  go_upto_region 5 with fail
  rw [HA.out, HW.out.1]
  refine wp_region_in [0, 1, 0, 0, 1, 0, 1, 2, 0, 2, 0, 0, 1, 0, 2, 0, 0, 0, 1, 0, 2, 0, 0, 0, 1, 2, 0, 0] [] (fun W => W.cell? ⟨w.heap.size, 0, none⟩ = some (.int .i64 B) ∧ W.cell? ⟨w.heap.size, 1, none⟩ = some (.int .i64 P) ∧ W.cell? ⟨w.heap.size, 2, none⟩ = some (.int .i64 I) ∧ W.cell? ⟨w.heap.size, 3, none⟩ = some (.int .i64 J) ∧ W.cell? ⟨w.heap.size, 4, none⟩ = some (.int .i64 fb) ∧ W.cell? ⟨w.heap.size, 5, none⟩ = some (.int .i64 fi) ∧ W.cell? ⟨w.heap.size, 6, none⟩ = some (.int .i64 orp) ∧ W.cell? ⟨w.heap.size, 7, none⟩ = some (.int .i64 mnt)) (by kernel_rfl) rfl (by kernel_rfl) (fun _ _ _ _ h => h) ⟨d0, d1, d2, d3, d4, d5, d6, d7⟩ ?_
  iterate 7 (first
    | (refine in_off0 (by rfl) ?_; simp only [Act.put, stA, stZ, stS, i64_w, i32_w])
    | (refine in_off1 (by rfl) ?_; simp only [Act.put, stA, stZ, stS, i64_w, i32_w])
    | (refine in_0 (v := ?_) (by rfl) rfl ?_ (a' := ?_) ?_ ?_; rotate_left; (intro w'; go_simp; with_reducible rfl); rotate_left; (simp only [Act.put, stA, stZ, stS, i64_w, i32_w]; rfl))
    | (refine in_1 (v := ?_) (by rfl) rfl ?_ (a' := ?_) ?_ ?_; rotate_left; (rintro w' hs; go_split_ands; go_simp; with_reducible rfl); rotate_left; (simp only [Act.put, stA, stZ, stS, i64_w, i32_w]; rfl)))
  refine in_2 (by rfl) (fun K hK => ?_)
  go_simp
  with_reducible refine (HF.out _).mono ?_
  rintro e w2 ⟨rfl, hb2⟩
  dsimp only
  have HB2 := Aside0.mk (below_then HB1.out HB1.out.size (below_then ((Below.refl w1.heap.size w1).drew) (Nat.le_refl _) hb2))
  have hS := HC.out w2 HB2.out
  refine hK _ _ hS ?_
  clear hK K hb2
  try simp only [Act.put, stA, stZ, stS, i64_w, i32_w]
  iterate 1 (first
    | (refine in_off0 (by rfl) ?_; simp only [Act.put, stA, stZ, stS, i64_w, i32_w])
    | (refine in_off1 (by rfl) ?_; simp only [Act.put, stA, stZ, stS, i64_w, i32_w])
    | (refine in_0 (v := ?_) (by rfl) rfl ?_ (a' := ?_) ?_ ?_; rotate_left; (intro w'; go_simp; with_reducible rfl); rotate_left; (simp only [Act.put, stA, stZ, stS, i64_w, i32_w]; rfl))
    | (refine in_1 (v := ?_) (by rfl) rfl ?_ (a' := ?_) ?_ ?_; rotate_left; (rintro w' hs; go_split_ands; go_simp; with_reducible rfl); rotate_left; (simp only [Act.put, stA, stZ, stS, i64_w, i32_w]; rfl)))
  rw [HW.out.2]
  have HT1 := Aside0.mk (fun W : World => HI.out.1 ▸ rwithin_calls fb 0 (B - f) W)
  have HT2 := Aside0.mk (fun W : World => HI.out.2.1 ▸ rwithin_calls fi 0 a W)
  have HT3 := Aside0.mk (fun W : World => HI.out.2.2.1 ▸ rwithin_calls orp 0 a W)
  have HT4 := Aside0.mk (fun W : World => HI.out.2.2.2 ▸ rwithin_calls mnt 0 2147483647 W)
  refine in_2 (by rfl) (fun K hK => ?_)
  go_simp
  refine (HT1.out _).mono ?_
  rintro e _w ⟨rfl, rfl⟩
  dsimp only
  refine hK _ _ hS ?_
  clear hK K
  try simp only [Act.put, stA, stZ, stS, i64_w, i32_w]
  iterate 4 (first
    | (refine in_off0 (by rfl) ?_; simp only [Act.put, stA, stZ, stS, i64_w, i32_w])
    | (refine in_off1 (by rfl) ?_; simp only [Act.put, stA, stZ, stS, i64_w, i32_w])
    | (refine in_0 (v := ?_) (by rfl) rfl ?_ (a' := ?_) ?_ ?_; rotate_left; (intro w'; go_simp; with_reducible rfl); rotate_left; (simp only [Act.put, stA, stZ, stS, i64_w, i32_w]; rfl))
    | (refine in_1 (v := ?_) (by rfl) rfl ?_ (a' := ?_) ?_ ?_; rotate_left; (rintro w' hs; go_split_ands; go_simp; with_reducible rfl); rotate_left; (simp only [Act.put, stA, stZ, stS, i64_w, i32_w]; rfl)))
  refine in_2 (by rfl) (fun K hK => ?_)
  go_simp
  refine (HT2.out _).mono ?_
  rintro e _w ⟨rfl, rfl⟩
  dsimp only
  refine hK _ _ hS ?_
  clear hK K
  try simp only [Act.put, stA, stZ, stS, i64_w, i32_w]
  iterate 5 (first
    | (refine in_off0 (by rfl) ?_; simp only [Act.put, stA, stZ, stS, i64_w, i32_w])
    | (refine in_off1 (by rfl) ?_; simp only [Act.put, stA, stZ, stS, i64_w, i32_w])
    | (refine in_0 (v := ?_) (by rfl) rfl ?_ (a' := ?_) ?_ ?_; rotate_left; (intro w'; go_simp; with_reducible rfl); rotate_left; (simp only [Act.put, stA, stZ, stS, i64_w, i32_w]; rfl))
    | (refine in_1 (v := ?_) (by rfl) rfl ?_ (a' := ?_) ?_ ?_; rotate_left; (rintro w' hs; go_split_ands; go_simp; with_reducible rfl); rotate_left; (simp only [Act.put, stA, stZ, stS, i64_w, i32_w]; rfl)))
  refine in_2 (by rfl) (fun K hK => ?_)
  go_simp
  refine (HT3.out _).mono ?_
  rintro e _w ⟨rfl, rfl⟩
  dsimp only
  refine hK _ _ hS ?_
  clear hK K
  try simp only [Act.put, stA, stZ, stS, i64_w, i32_w]
  iterate 4 (first
    | (refine in_off0 (by rfl) ?_; simp only [Act.put, stA, stZ, stS, i64_w, i32_w])
    | (refine in_off1 (by rfl) ?_; simp only [Act.put, stA, stZ, stS, i64_w, i32_w])
    | (refine in_0 (v := ?_) (by rfl) rfl ?_ (a' := ?_) ?_ ?_; rotate_left; (intro w'; go_simp; with_reducible rfl); rotate_left; (simp only [Act.put, stA, stZ, stS, i64_w, i32_w]; rfl))
    | (refine in_1 (v := ?_) (by rfl) rfl ?_ (a' := ?_) ?_ ?_; rotate_left; (rintro w' hs; go_split_ands; go_simp; with_reducible rfl); rotate_left; (simp only [Act.put, stA, stZ, stS, i64_w, i32_w]; rfl)))
  refine in_2 (by rfl) (fun K hK => ?_)
  go_simp
  refine (HT4.out _).mono ?_
  rintro e _w ⟨rfl, rfl⟩
  dsimp only
  refine hK _ _ hS ?_
  clear hK K
  try simp only [Act.put, stA, stZ, stS, i64_w, i32_w]
  iterate 2 (first
    | (refine in_off0 (by rfl) ?_; simp only [Act.put, stA, stZ, stS, i64_w, i32_w])
    | (refine in_off1 (by rfl) ?_; simp only [Act.put, stA, stZ, stS, i64_w, i32_w])
    | (refine in_0 (v := ?_) (by rfl) rfl ?_ (a' := ?_) ?_ ?_; rotate_left; (intro w'; go_simp; with_reducible rfl); rotate_left; (simp only [Act.put, stA, stZ, stS, i64_w, i32_w]; rfl))
    | (refine in_1 (v := ?_) (by rfl) rfl ?_ (a' := ?_) ?_ ?_; rotate_left; (rintro w' hs; go_split_ands; go_simp; with_reducible rfl); rotate_left; (simp only [Act.put, stA, stZ, stS, i64_w, i32_w]; rfl)))
  refine in_nil ?_
  go_wp2
  go_ret
  exact ⟨rfl, below_then HB0.out HB0.out.size HB2.out⟩
set_option maxHeartbeats 4000000 in
set_option maxRecDepth 100000 in
theorem rpsuper_calls (s : Sup) (w : World) (h : supOk s = true) (hcl : s.clean = false) : Calls Tryz.prog 115 #[s.v] w (BytesPost (psuperI s) w) := by
  have HM := Aside0.mk (fun W : World => rmay_calls s W h)
  have hgo := sup_goes h
  have hg : psuperI s = (blockI (wordsI s.nums) superW 0, 0) := by unfold psuperI; rw [if_pos h]
  have HG := Aside0.mk hg
  rw [hg]
  obtain ⟨ns, hns⟩ : ∃ ns, s.nums = ns := ⟨_, rfl⟩
  have hnum : ns = [1213813321, 1, s.geo.blocks, s.geo.per, s.geo.inodes, s.geo.journal, s.fb, s.fi, s.orp, s.mnt, 0] := by rw [← hns]; unfold Sup.nums; rw [hcl]; rfl
  rw [hns] at hgo ⊢
  have HGO := Aside0.mk hgo
  obtain ⟨⟨B, P, I, J⟩, fb, fi, orp, mnt, clean⟩ := s
  dsimp only at hcl hnum
  subst hcl
  unfold Sup.v at HM ⊢
  dsimp only at HM ⊢
  have hwn : wordsI ns = [1213813321, 1, IntKind.u64.wrap B, IntKind.u64.wrap P, IntKind.u64.wrap I, IntKind.u64.wrap J, IntKind.u64.wrap fb, IntKind.u64.wrap fi, IntKind.u64.wrap orp, IntKind.u64.wrap mnt, 0] := by rw [hnum]; rfl
  have HWN := Aside0.mk hwn
  clear hg hns hnum hgo hwn h
  go_enter Tryz.func115, Tryz.ntmps115
  go_upto_region 1 with fail
  have hcells : ∀ (W : World), Below (w.alloc (.cells #[.int .i64 B, .int .i64 P, .int .i64 I, .int .i64 J, .int .i64 fb, .int .i64 fi, .int .i64 orp, .int .i64 mnt, .bool false] 121)).heap.size (w.alloc (.cells #[.int .i64 B, .int .i64 P, .int .i64 I, .int .i64 J, .int .i64 fb, .int .i64 fi, .int .i64 orp, .int .i64 mnt, .bool false] 121)) W →
      W.cell? ⟨w.heap.size, 0, none⟩ = some (.int .i64 B) ∧ W.cell? ⟨w.heap.size, 1, none⟩ = some (.int .i64 P) ∧ W.cell? ⟨w.heap.size, 2, none⟩ = some (.int .i64 I) ∧ W.cell? ⟨w.heap.size, 3, none⟩ = some (.int .i64 J) ∧ W.cell? ⟨w.heap.size, 4, none⟩ = some (.int .i64 fb) ∧ W.cell? ⟨w.heap.size, 5, none⟩ = some (.int .i64 fi) ∧ W.cell? ⟨w.heap.size, 6, none⟩ = some (.int .i64 orp) ∧ W.cell? ⟨w.heap.size, 7, none⟩ = some (.int .i64 mnt) ∧ W.cell? ⟨w.heap.size, 8, none⟩ = some (.bool false) := fun W hb => by
    have hx := fun j v hj => pw_cell_below hb (cell_alloc w #[.int .i64 B, .int .i64 P, .int .i64 I, .int .i64 J, .int .i64 fb, .int .i64 fi, .int .i64 orp, .int .i64 mnt, .bool false] 121 j v hj)
    exact ⟨hx 0 _ rfl, hx 1 _ rfl, hx 2 _ rfl, hx 3 _ rfl, hx 4 _ rfl, hx 5 _ rfl, hx 6 _ rfl, hx 7 _ rfl, hx 8 _ rfl⟩
  have HB0 := Aside0.mk (below_alloc (Below.refl w.heap.size w) (.cells #[.int .i64 B, .int .i64 P, .int .i64 I, .int .i64 J, .int .i64 fb, .int .i64 fi, .int .i64 orp, .int .i64 mnt, .bool false] 121))
  generalize w.alloc (.cells #[.int .i64 B, .int .i64 P, .int .i64 I, .int .i64 J, .int .i64 fb, .int .i64 fi, .int .i64 orp, .int .i64 mnt, .bool false] 121) = W0 at hcells HB0 ⊢
  have HC := Aside0.mk hcells
  obtain ⟨d0, d1, d2, d3, d4, d5, d6, d7, d8⟩ := hcells W0 (Below.refl _ _)
  clear hcells
  go_wp2_with fail
  refine (HM.out W0).mono ?_
  rintro e w1 ⟨rfl, hb1⟩
  have HB1 := Aside0.mk hb1
  clear d0 d1 d2 d3 d4 d5 d6 d7 d8
  obtain ⟨d0, d1, d2, d3, d4, d5, d6, d7, d8⟩ := HC.out w1 hb1
  clear hb1
  dsimp only
  go_upto_region 7 with fail
  have hba := below_alloc (Below.refl w1.heap.size w1) (.cells #[.int .i64 B, .int .i64 P, .int .i64 I, .int .i64 J] 80)
  have e0 := cell_alloc w1 #[.int .i64 B, .int .i64 P, .int .i64 I, .int .i64 J] 80 0 _ rfl
  have e1 := cell_alloc w1 #[.int .i64 B, .int .i64 P, .int .i64 I, .int .i64 J] 80 1 _ rfl
  have e2 := cell_alloc w1 #[.int .i64 B, .int .i64 P, .int .i64 I, .int .i64 J] 80 2 _ rfl
  have e3 := cell_alloc w1 #[.int .i64 B, .int .i64 P, .int .i64 I, .int .i64 J] 80 3 _ rfl
  have HB2 := Aside0.mk (below_then HB1.out HB1.out.size hba)
  clear d0 d1 d2 d3 d4 d5 d6 d7 d8 hba
  obtain ⟨d0, d1, d2, d3, d4, d5, d6, d7, d8⟩ := HC.out _ HB2.out
  generalize w1.alloc (.cells #[.int .i64 B, .int .i64 P, .int .i64 I, .int .i64 J] 80) = w2 at d0 d1 d2 d3 d4 d5 d6 d7 d8 e0 e1 e2 e3 HB2 ⊢
  generalize w1.heap.size = q1 at e0 e1 e2 e3 ⊢
  go_upto_region 8 with fail
  have hrow : Row (w2.alloc (.cells #[.int .u64 1213813321, .int .u64 1, .int .u64 (IntKind.u64.wrap B), .int .u64 (IntKind.u64.wrap P), .int .u64 (IntKind.u64.wrap I), .int .u64 (IntKind.u64.wrap J), .int .u64 (IntKind.u64.wrap fb), .int .u64 (IntKind.u64.wrap fi), .int .u64 (IntKind.u64.wrap orp), .int .u64 (IntKind.u64.wrap mnt), .int .u64 0] 163)) .u64 w2.heap.size 163 (wordsI ns) := by
    rw [HWN.out]
    exact row_last w2 .u64 163 [1213813321, 1, IntKind.u64.wrap B, IntKind.u64.wrap P, IntKind.u64.wrap I, IntKind.u64.wrap J, IntKind.u64.wrap fb, IntKind.u64.wrap fi, IntKind.u64.wrap orp, IntKind.u64.wrap mnt, 0]
  have hb3 := below_alloc (Below.refl w2.heap.size w2) (.cells #[.int .u64 1213813321, .int .u64 1, .int .u64 (IntKind.u64.wrap B), .int .u64 (IntKind.u64.wrap P), .int .u64 (IntKind.u64.wrap I), .int .u64 (IntKind.u64.wrap J), .int .u64 (IntKind.u64.wrap fb), .int .u64 (IntKind.u64.wrap fi), .int .u64 (IntKind.u64.wrap orp), .int .u64 (IntKind.u64.wrap mnt), .int .u64 0] 163)
  generalize w2.alloc (.cells #[.int .u64 1213813321, .int .u64 1, .int .u64 (IntKind.u64.wrap B), .int .u64 (IntKind.u64.wrap P), .int .u64 (IntKind.u64.wrap I), .int .u64 (IntKind.u64.wrap J), .int .u64 (IntKind.u64.wrap fb), .int .u64 (IntKind.u64.wrap fi), .int .u64 (IntKind.u64.wrap orp), .int .u64 (IntKind.u64.wrap mnt), .int .u64 0] 163) = w3 at hrow hb3 ⊢
  obtain ⟨q2, hq2⟩ : ∃ q2, w2.heap.size = q2 := ⟨_, rfl⟩
  have HB3 := Aside0.mk (below_then HB2.out HB2.out.size hb3)
  rw [hq2] at hrow ⊢
  have hlen : (wordsI ns).length = 11 := by rw [HWN.out]; rfl
  have hrow2 : Row (w3.alloc (.cells #[.int .i64 4, .int .i64 2, .int .i64 4, .int .i64 4, .int .i64 4, .int .i64 4, .int .i64 4, .int .i64 4, .int .i64 4, .int .i64 4, .int .i64 1] 3)) .i64 w3.heap.size 3 superW := row_last w3 .i64 3 superW
  have hb4 := below_alloc (Below.refl w3.heap.size w3) (.cells #[.int .i64 4, .int .i64 2, .int .i64 4, .int .i64 4, .int .i64 4, .int .i64 4, .int .i64 4, .int .i64 4, .int .i64 4, .int .i64 4, .int .i64 1] 3)
  have hpk := rpackw_calls (some ⟨q2, 0, none⟩) (some ⟨w3.heap.size, 0, none⟩) 11 11 (wordsI ns) superW (w3.alloc (.cells #[.int .i64 4, .int .i64 2, .int .i64 4, .int .i64 4, .int .i64 4, .int .i64 4, .int .i64 4, .int .i64 4, .int .i64 4, .int .i64 4, .int .i64 1] 3)) ((hrow.below hb4).reads (by omega)) (hrow2.reads (by decide)) (by rw [hlen]; rfl) (by decide) superW_ok superW_sum HGO.out
  rw [hlen] at hpk
  have HPK := Aside0.mk hpk
  have HB4 := Aside0.mk (below_then HB3.out HB3.out.size hb4)
  clear hrow hrow2 hb3 hb4 hpk hq2 d0 d1 d2 d3 d4 d5 d6 d7 d8 e0 e1 e2 e3
  go_wp2_with fail
  refine HPK.out.mono ?_
  rintro e w5 ⟨g5, rfl, hg5, hr5, hb5⟩
  have HB5 := Aside0.mk (below_then HB4.out HB4.out.size hb5)
  have hpl : (packW (wordsI ns) superW 256).length = 256 := by unfold packW; rw [packGo_length]; simp
  have HPL := Aside0.mk hpl
  have hsl := rseal_calls g5 252 256 0 w5 _ hr5 (by rw [hpl]) (by omega) (by omega) (by omega) (by omega) (packGo_allB (fun x hx => by rw [List.eq_of_mem_replicate hx]; omega) _ _ _)
  have HSL := Aside0.mk hsl
  have HG5 := Aside0.mk hg5
  clear hr5 hb5 hsl hpl hg5 hlen
  dsimp only
  go_wp2_with fail
  refine HSL.out.mono ?_
  rintro e w6 ⟨rfl, hr6, hm6⟩
  have HR6 := Aside0.mk hr6
  have hgw : w.heap.size ≤ g5 := Nat.le_trans (Nat.le_trans HB0.out.size HB4.out.size) HG5.out
  have HB6 := Aside0.mk (below_mod (below_then HB0.out HB0.out.size HB5.out) hm6 hgw)
  clear hr6 hm6
  dsimp only
  go_wp2
  go_ret2
  exact bytesPost_good rfl (by rw [blockI_length]) rfl hgw (Nat.le_refl _) HR6.out HB6.out
theorem grp_take (l : List Grp) (k : Nat) (h : k < l.length) : (l.take (k + 1)).flatMap gnums = (l.take k).flatMap gnums ++ gnums (grpAt l k) := by
  rw [List.take_succ_eq_append_getElem h, List.flatMap_append]
  simp [grpAt, List.getD_eq_getElem?_getD, h]
theorem grp_take_len (l : List Grp) (k : Nat) (h : k ≤ l.length) : ((l.take k).flatMap gnums).length = 3 * k := by
  induction k with
  | zero => simp
  | succ k ih => rw [grp_take l k (by omega), List.length_append, ih (by omega)]; simp [gnums]; omega
set_option maxHeartbeats 4000000 in
set_option maxRecDepth 100000 in
theorem rpgroups_calls (A : Option Addr) (c : Nat) (l : List Grp) (w : World) (hl : Grps w A l) (h1 : 1 ≤ l.length) (h14 : l.length ≤ 14) (hok : l.all gOk = true) :
    Calls Tryz.prog 114 #[.slice A l.length c] w (BytesPost (pgroupsI l) w) := by
  have HL := Aside0.mk hl
  have hg : pgroupsI l = (blockI (wordsI (l.flatMap gnums)) (groupW l.length) 1, 0) := by unfold pgroupsI; rw [if_pos ⟨h1, h14, hok⟩]
  rw [hg]
  have HOK := Aside0.mk (show ∀ k, k < l.length → inI (grpAt l k).fb 0 65535 = true ∧ inI (grpAt l k).fi 0 65535 = true ∧ inI (grpAt l k).dirs 0 65535 = true from fun k hk => by
    have hm : grpAt l k ∈ l := by unfold grpAt; rw [List.getD_eq_getElem?_getD, List.getElem?_eq_getElem hk]; exact List.getElem_mem hk
    have := List.all_eq_true.1 hok _ hm
    unfold gOk at this
    simp only [Bool.and_eq_true] at this
    exact ⟨this.1.1, this.1.2, this.2⟩)
  obtain ⟨i0, hi, hz0, hz1, hz2⟩ := info_parts infoU64
  obtain ⟨j0, hj, hy0, hy1, hy2⟩ := info_parts infoIntS
  obtain ⟨m, hm⟩ : ∃ m, l.length = m := ⟨_, rfl⟩
  rw [hm] at h1 h14 HOK ⊢
  have HM := Aside0.mk hm
  have HGO := Aside0.mk (groups_go hok)
  clear hl hg hok hm
  have i1 : ¬ (m : Int) < 1 := by omega
  have i2 : ¬ (14 : Int) < (m : Int) := by omega
  go_enter Tryz.func114, Tryz.ntmps114
  go_wp2
  go_loopg [4, 5, 6] m (fun g v u i wr => ∃ k : Nat, k + g = m ∧ i = .int .i64 k ∧ Aside0 (Own wr w.heap.size 163 .u64 v (wordsI ((l.take k).flatMap gnums))) ∧ Aside0 (Own wr w.heap.size 3 .i64 u (groupW k)) ∧ Aside0 (Below w.heap.size w wr))
  case atStart => exact ⟨0, by omega, rfl, ⟨own_of_nil _ _ _ _⟩, ⟨own_of_nil _ _ _ _⟩, ⟨Below.refl _ _⟩⟩
  case round =>
    obtain ⟨k, hk, rfl, HV, HU, HB⟩ := hrel
    cases gk with
    | zero =>
      obtain rfl : k = m := by omega
      have htk : l.take k = l := by rw [← HM.out, List.take_length]
      have hgl := grp_take_len l k (by rw [HM.out]; exact Nat.le_refl _)
      rw [htk] at HV hgl
      obtain ⟨A1, c1, rfl, _, hr1⟩ := HV.out.reads
      obtain ⟨A2, c2, rfl, _, hr2⟩ := HU.out.reads
      have hwl : (wordsI (l.flatMap gnums)).length = 3 * k := by rw [wordsI_len, hgl]
      have hpk := rpackw_calls A1 A2 c1 c2 (wordsI (l.flatMap gnums)) (groupW k) wr hr1 hr2 (by rw [hwl, groupW_len]) (by rw [groupW_len]; omega) (groupW_ok k) (by rw [groupW_sum]; omega) (by have := HGO.out; rw [HM.out] at this; exact this)
      rw [hwl, groupW_len] at hpk ⊢
      have HPK := Aside0.mk hpk
      clear hpk hwl hr1 hr2 htk hgl
      go_wp2_with fail
      refine HPK.out.mono ?_
      rintro e w5 ⟨g5, rfl, hg5, hr5, hb5⟩
      have HB5 := Aside0.mk (below_then HB.out HB.out.size hb5)
      have hpl : (packW (wordsI (l.flatMap gnums)) (groupW k) 256).length = 256 := by unfold packW; rw [packGo_length]; simp
      have hsl := rseal_calls g5 252 256 1 w5 _ hr5 (by rw [hpl]) (by omega) (by omega) (by omega) (by omega) (packGo_allB (fun x hx => by rw [List.eq_of_mem_replicate hx]; omega) _ _ _)
      have HSL := Aside0.mk hsl
      have hgw : w.heap.size ≤ g5 := Nat.le_trans HB.out.size hg5
      have HGW := Aside0.mk hgw
      clear hr5 hb5 hsl hpl hg5 hgw
      dsimp only
      go_wp2_with fail
      refine HSL.out.mono ?_
      rintro e w6 ⟨rfl, hr6, hm6⟩
      have HR6 := Aside0.mk hr6
      have HB6 := Aside0.mk (below_mod HB5.out hm6 HGW.out)
      clear hr6 hm6
      dsimp only
      go_wp2
      go_ret2
      exact bytesPost_good rfl (by rw [blockI_length]) rfl HGW.out (Nat.le_refl _) HR6.out HB6.out
    | succ g =>
      have hkm : k < l.length := by have := HM.out; omega
      obtain ⟨ad, rfl, c0, c1, c2⟩ := (HL.out.below HB.out) k hkm
      have hgt := grp_take l k hkm
      have hgl := grp_take_len l k (by omega)
      obtain ⟨b0, b1, b2⟩ := HOK.out k (by omega)
      obtain ⟨x, hx⟩ : ∃ x, grpAt l k = x := ⟨_, rfl⟩
      rw [hx] at c0 c1 c2 hgt b0 b1 b2
      obtain ⟨fb, fi, dirs⟩ := x
      dsimp only at c0 c1 c2 b0 b1 b2
      have HGT := Aside0.mk (And.intro hgt hgl)
      have HXX := Aside0.mk hx
      have HT1 := Aside0.mk (fun W : World => b0 ▸ rwithin_calls fb 0 65535 W)
      have HT2 := Aside0.mk (fun W : World => b1 ▸ rwithin_calls fi 0 65535 W)
      have HT3 := Aside0.mk (fun W : World => b2 ▸ rwithin_calls dirs 0 65535 W)
      have i3 : (k : Int) < (m : Int) := by omega
      have i4 : k < m := by omega
      clear hgt hgl b0 b1 b2 hx
      go_upto_region 8 with fail
      go_wp2_with fail
      refine (HT1.out wr).mono ?_
      rintro e w2 ⟨rfl, rfl⟩
      dsimp only
      go_wp2_with fail
      refine (HT2.out wr).mono ?_
      rintro e w2 ⟨rfl, rfl⟩
      dsimp only
      go_wp2_with fail
      refine (HT3.out wr).mono ?_
      rintro e w2 ⟨rfl, rfl⟩
      dsimp only
      go_upto_region 10 with fail
      obtain ⟨L, hL⟩ : ∃ L, wordsI ((l.take k).flatMap gnums) = L := ⟨_, rfl⟩
      have hLn : L.length = 3 * k := by rw [← hL, wordsI_len, HGT.out.2]
      have hL1 : wordsI ((l.take (k + 1)).flatMap gnums) = L ++ [IntKind.u64.wrap fb, IntKind.u64.wrap fi, IntKind.u64.wrap dirs] := by rw [HGT.out.1, ← hL]; unfold wordsI; rw [List.map_append]; rfl
      rw [hL] at HV
      have HLL := Aside0.mk (And.intro hLn hL1)
      clear hL hLn hL1
      refine wp_region_in [0, 0, 0, 0, 0, 1, 0, 0, 0, 0, 0, 1, 0, 0, 0, 0, 0, 1, 0, 2, 2, 0] [] (fun W => W.cell? (ad.add (k * 3)) = some (.int .i64 fb) ∧ W.cell? ⟨(ad.add (k * 3)).block, (ad.add (k * 3)).off + 1, none⟩ = some (.int .i64 fi) ∧ W.cell? ⟨(ad.add (k * 3)).block, (ad.add (k * 3)).off + 2, none⟩ = some (.int .i64 dirs)) (by kernel_rfl) rfl (by kernel_rfl) (fun _ _ _ _ h => h) ⟨c0, c1, c2⟩ ?_
      iterate 19 (first
        | (refine in_off0 (by rfl) ?_; simp only [Act.put, stA, stZ, stS, i64_w, i32_w])
        | (refine in_off1 (by rfl) ?_; simp only [Act.put, stA, stZ, stS, i64_w, i32_w])
        | (refine in_0 (v := ?_) (by rfl) rfl ?_ (a' := ?_) ?_ ?_; rotate_left; (intro w'; go_simp; with_reducible rfl); rotate_left; (simp only [Act.put, stA, stZ, stS, i64_w, i32_w]; rfl))
        | (refine in_1 (v := ?_) (by rfl) rfl ?_ (a' := ?_) ?_ ?_; rotate_left; (rintro w' hs; go_split_ands; go_simp; with_reducible rfl); rotate_left; (simp only [Act.put, stA, stZ, stS, i64_w, i32_w]; rfl)))
      refine in_2 (by rfl) (fun K hK => ?_)
      unfold Oper.wp execOp
      go_simp
      have b1 : Below wr.heap.size wr (wr.alloc (.cells #[.int .u64 (IntKind.u64.wrap fb), .int .u64 (IntKind.u64.wrap fi), .int .u64 (IntKind.u64.wrap dirs)] 163)).drew := (below_alloc (Below.refl _ _) _).drew
      have hx : (wr.alloc (.cells #[.int .u64 (IntKind.u64.wrap fb), .int .u64 (IntKind.u64.wrap fi), .int .u64 (IntKind.u64.wrap dirs)] 163)).drew.heap[wr.heap.size]? = some (.cells #[.int .u64 (IntKind.u64.wrap fb), .int .u64 (IntKind.u64.wrap fi), .int .u64 (IntKind.u64.wrap dirs)] 163) := alloc_last wr (.cells #[.int .u64 (IntKind.u64.wrap fb), .int .u64 (IntKind.u64.wrap fi), .int .u64 (IntKind.u64.wrap dirs)] 163)
      refine hK _ _ ⟨pw_cell_below b1 c0, pw_cell_below b1 c1, pw_cell_below b1 c2⟩ ?_
      clear hK K
      try simp only [Act.put, stA, stZ, stS, i64_w, i32_w]
      obtain ⟨wb, hwb⟩ : ∃ wb, (wr.alloc (.cells #[.int .u64 (IntKind.u64.wrap fb), .int .u64 (IntKind.u64.wrap fi), .int .u64 (IntKind.u64.wrap dirs)] 163)).drew = wb := ⟨_, rfl⟩
      rw [hwb] at b1 hx ⊢
      have hVb := HV.out.below b1
      have hbw : w.heap.size ≤ wb.heap.size := Nat.le_trans HB.out.size b1.size
      refine in_2 (by rfl) (fun K hK => ?_)
      refine wp_append_own _ (.tmp 48) (.tmp 67) 215 rfl w.heap.size 163 i0 (.int .u64 0) 1 8 Tryz.underlying215 hi hz0 hz1 hz2 rfl (by decide) _ L.length (nums .u64 L) rfl hVb ⟨wr.heap.size, 0, none⟩ 3 3 [.int .u64 (IntKind.u64.wrap fb), .int .u64 (IntKind.u64.wrap fi), .int .u64 (IntKind.u64.wrap dirs)] rfl rfl (fun j u hj => by rw [add_plain]; exact (cell_of_obj (L := [.int .u64 (IntKind.u64.wrap fb), .int .u64 (IntKind.u64.wrap fi), .int .u64 (IntKind.u64.wrap dirs)]) hx j).trans hj) (fun u hu => ?_) (by have := HLL.out.1; simp only [maxLen]; omega) (by have := HLL.out.1; omega) hbw ?_
      · simp only [List.mem_cons, List.not_mem_nil, or_false] at hu
        rcases hu with rfl | rfl | rfl <;> rfl
      intro v' w4 h4 hg4 hloc
      have hV4 : Own w4 w.heap.size 163 .u64 v' (wordsI ((l.take (k + 1)).flatMap gnums)) := by
        rw [HLL.out.2]
        exact own_snoc h4 rfl rfl
      have hm4 := mod_grown hg4
      have hU4 := own_mod (HU.out.below b1) hm4 (fun g hg => own_ne (HU.out.below b1) hVb (by decide) g hg)
      have hb4 : Below w.heap.size w w4 := pw_below_grown (below_then HB.out HB.out.size b1) _ hbw hg4 (own_base HV.out)
      obtain ⟨ad', e', d0, d1, d2⟩ := (HL.out.below hb4) k hkm
      cases e'
      rw [HXX.out] at d0 d1 d2
      refine hK _ _ ⟨d0, d1, d2⟩ ?_
      clear hK K
      try simp only [Act.put, stA, stZ, stS, i64_w, i32_w]
      iterate 1 (first
        | (refine in_off0 (by rfl) ?_; simp only [Act.put, stA, stZ, stS, i64_w, i32_w])
        | (refine in_off1 (by rfl) ?_; simp only [Act.put, stA, stZ, stS, i64_w, i32_w])
        | (refine in_0 (v := ?_) (by rfl) rfl ?_ (a' := ?_) ?_ ?_; rotate_left; (intro w'; go_simp; with_reducible rfl); rotate_left; (simp only [Act.put, stA, stZ, stS, i64_w, i32_w]; rfl))
        | (refine in_1 (v := ?_) (by rfl) rfl ?_ (a' := ?_) ?_ ?_; rotate_left; (rintro w' hs; go_split_ands; go_simp; with_reducible rfl); rotate_left; (simp only [Act.put, stA, stZ, stS, i64_w, i32_w]; rfl)))
      refine in_nil ?_
      have HV4 := Aside0.mk hV4
      have HB4 := Aside0.mk hb4
      have HUA := Aside0.mk (fun o => (Own.below (k := .i64) (l := groupW k) hU4 (below_alloc (Below.refl _ _) o)))
      have HVA := Aside0.mk (fun o => hV4.below (below_alloc (Below.refl _ _) o))
      have HBA := Aside0.mk (fun o => below_then hb4 hb4.size (below_alloc (Below.refl _ _) o))
      have hx4 := alloc_last w4 (.cells #[.int .i64 4, .int .i64 4, .int .i64 4] 3)
      have hc1 : ∀ (j : Nat) (u : Value), [Value.int .i64 4, .int .i64 4, .int .i64 4][j]? = some u → (w4.alloc (.cells #[.int .i64 4, .int .i64 4, .int .i64 4] 3)).cell? ((⟨w4.heap.size, 0, none⟩ : Addr).add j) = some u := fun j u hj => by rw [add_plain]; exact (cell_of_obj (L := [.int .i64 4, .int .i64 4, .int .i64 4]) hx4 j).trans hj
      have hc2 : ∀ u ∈ [Value.int .i64 4, .int .i64 4, .int .i64 4], u.oneCell' = true := fun u hu => by
        simp only [List.mem_cons, List.not_mem_nil, or_false] at hu
        rcases hu with rfl | rfl | rfl <;> rfl
      have HCC := Aside0.mk (And.intro hc1 hc2)
      clear c0 c1 c2 d0 d1 d2 hc1 hc2 hx4 hV4 hU4 hb4 hm4 hg4 h4 hVb hx hwb hbw b1 hloc
      go_wp2_with (at_builtin; go_loud (refine wpList_append_own _ rfl (.tmp 69) (.tmp 70) 105 rfl w.heap.size 3 j0 (.int .i64 0) 1 8 Tryz.underlying105 hj hy0 hy1 hy2 rfl (by decide) _ (groupW k).length (nums .i64 (groupW k)) rfl (HUA.out _) ⟨w4.heap.size, 0, none⟩ 3 3 [.int .i64 4, .int .i64 4, .int .i64 4] rfl rfl HCC.out.1 HCC.out.2 (by rw [groupW_len]; simp only [maxLen]; omega) (by rw [groupW_len]; omega) (HBA.out _).size ?_; intro v1 w5 h2 h3 _; have H2 := Aside0.mk (And.intro h2 h3); clear h2 h3))
      have HU5 := Aside0.mk (show Own w5 w.heap.size 3 .i64 v1 (groupW (k + 1)) by rw [groupW_succ]; exact own_snoc H2.out.1 rfl rfl)
      have HV5 := Aside0.mk (own_mod (HVA.out (.cells #[.int .i64 4, .int .i64 4, .int .i64 4] 3)) (mod_grown H2.out.2) (fun g hg => own_ne (HVA.out (.cells #[.int .i64 4, .int .i64 4, .int .i64 4] 3)) (HUA.out (.cells #[.int .i64 4, .int .i64 4, .int .i64 4] 3)) (by decide) g hg))
      have HB5 := Aside0.mk (pw_below_grown (HBA.out (.cells #[.int .i64 4, .int .i64 4, .int .i64 4] 3)) _ (HBA.out (.cells #[.int .i64 4, .int .i64 4, .int .i64 4] 3)).size H2.out.2 (own_base (HUA.out (.cells #[.int .i64 4, .int .i64 4, .int .i64 4] 3))))
      clear H2
      go_wp2
      go_roundg g
      case measure => omega
      case rel => exact ⟨k + 1, by omega, by go_num, HV5, HU5, HB5⟩
set_option maxHeartbeats 1000000 in
set_option maxRecDepth 100000 in
theorem rspan_calls (g : Geo) (i : Int) (w : World) : Calls Tryz.prog 76 #[g.v, .int .i64 i] w fun e w' => e = .returned (.tuple #[.int .i64 (spanI g i).1, .int .i64 (spanI g i).2.1, .int .i64 (spanI g i).2.2]) ∧ Below w.heap.size w w' := by
  have HG := Aside0.mk (fun (W : World) => rgrps_calls g W)
  have hgood := groupsI_good (g := g) (i := i)
  have hzero := geoI_zero (g := g)
  obtain ⟨r, hr⟩ : ∃ r, spanI g i = r := ⟨_, rfl⟩
  have hbad : (i < 0 ∨ groupsI g ≤ i) → r = (0, 0, 22) := fun h => by rw [← hr]; unfold spanI; rw [if_pos h]
  have hok : ¬ (i < 0 ∨ groupsI g ≤ i) → r = (i * g.per, min (i * g.per + g.per) g.blocks, 0) := fun h => by rw [← hr]; unfold spanI; rw [if_neg h]
  rw [hr]
  obtain ⟨q, hq⟩ : ∃ q, groupsI g = q := ⟨_, rfl⟩
  rw [hq] at HG hgood hbad hok
  obtain ⟨B, P, I, J⟩ := g
  unfold Geo.v at HG ⊢
  dsimp only at HG hgood hzero hok ⊢
  have HB0 := Aside0.mk (fun o => below_alloc (Below.refl w.heap.size w) o)
  by_cases h1 : i < 0
  · obtain rfl := hbad (.inl h1)
    clear hbad hok hgood hzero hr hq
    go_enter Tryz.func76, Tryz.ntmps76
    go_wp2
    go_ret3
    exact ⟨rfl, HB0.out _⟩
  · by_cases h2 : q ≤ i
    · obtain rfl := hbad (.inr h2)
      clear hbad hok hgood hzero hr hq
      go_enter Tryz.func76, Tryz.ntmps76
      go_wp2_with fail
      refine (HG.out _).mono ?_
      rintro e w1 ⟨rfl, hb1⟩
      have HB1 := Aside0.mk (below_then (HB0.out _) (HB0.out _).size hb1)
      clear hb1
      dsimp only
      go_wp2
      go_ret3
      exact ⟨rfl, HB1.out⟩
    · obtain ⟨hz, h13, hip⟩ := hgood (by omega) (by omega)
      have hzz := hzero hz
      have hrr := hok (by rintro (h | h); exact h1 h; exact h2 h)
      have hip0 : 0 ≤ i * P := Int.mul_nonneg (by omega) (by omega)
      obtain ⟨m, hm⟩ : ∃ m, i * P = m := ⟨_, rfl⟩
      rw [hm] at hip hip0 hrr
      have hP : 32 ≤ P ∧ P ≤ 2016 := hzz.2.1
      have hBB : 128 ≤ B ∧ B ≤ 4096 := hzz.1
      obtain ⟨mn, hmn⟩ : ∃ mn, min (m + P) B = mn := ⟨_, rfl⟩
      rw [hmn] at hrr
      subst hrr
      have hmin : ∀ W : World, (Builtin.min_ #[3, 3] 3 #[.int .i64 (m + P), .int .i64 B]).run Tryz.prog W = .ok (.int .i64 mn) W := fun W => by
        have e : mn = if B < m + P then B else m + P := by rw [← hmn]; split <;> omega
        rw [e]
        rfl
      have HMIN := Aside0.mk hmin
      have HMN := Aside0.mk hmn
      have HMM := Aside0.mk (And.intro hm (show (i + 1) * P = m + P by rw [Int.add_mul, Int.one_mul, hm]))
      have HI := Aside0.mk (And.intro (show 0 ≤ i by omega) (show i ≤ 13 by omega))
      clear hbad hok hzero hr hq hz hzz hgood hmn hmin
      go_enter Tryz.func76, Tryz.ntmps76
      go_wp2_with fail
      refine (HG.out _).mono ?_
      rintro e w1 ⟨rfl, hb1⟩
      have HB1 := Aside0.mk (below_then (HB0.out _) (HB0.out _).size hb1)
      have m0 := pw_cell_below hb1 (cell_alloc w #[.int .i64 B, .int .i64 P, .int .i64 I, .int .i64 J] 80 0 _ rfl)
      have m1 := pw_cell_below hb1 (cell_alloc w #[.int .i64 B, .int .i64 P, .int .i64 I, .int .i64 J] 80 1 _ rfl)
      clear hb1
      dsimp only
      go_wp2
      have hmin := HMIN.out
      have HW3 := Aside0.mk (And.intro (show wrap64 (m + P) = m + P by unfold wrap64; omega) (And.intro (show wrap64 m = m by unfold wrap64; omega) (show wrap64 (i + 1) = i + 1 by have := HI.out; unfold wrap64; omega)))
      obtain ⟨hw, hwm, hwi⟩ := HW3.out
      obtain ⟨hmm1, hmm2⟩ := HMM.out
      refine wp_region_in [0, 0, 1, 0, 0, 0, 0, 1, 0, 0, 1, 0, 0, 0, 0] [] (fun w' => w'.cell? ⟨w.heap.size, 0, none⟩ = some (.int .i64 B) ∧ w'.cell? ⟨w.heap.size, 1, none⟩ = some (.int .i64 P)) (by kernel_rfl) rfl (by kernel_rfl) (fun _ _ _ _ h => h) ⟨m0, m1⟩ ?_
      iterate 15 (first
        | (refine in_off0 (by rfl) ?_; simp only [Act.put, stA, stZ, stS, i64_w, i32_w])
        | (refine in_off1 (by rfl) ?_; simp only [Act.put, stA, stZ, stS, i64_w, i32_w])
        | (refine in_0 (v := ?_) (by rfl) rfl ?_ (a' := ?_) ?_ ?_; rotate_left; (intro w'; go_simp; with_reducible rfl); rotate_left; (simp only [Act.put, stA, stZ, stS, i64_w, i32_w]; rfl))
        | (refine in_1 (v := ?_) (by rfl) rfl ?_ (a' := ?_) ?_ ?_; rotate_left; (rintro w' hs; go_split_ands; go_simp; with_reducible rfl); rotate_left; (simp only [Act.put, stA, stZ, stS, i64_w, i32_w]; rfl)))
      refine in_nil ?_
      clear hmin hw hwm hwi hmm1 hmm2
      go_wp2
      go_ret3
      exact ⟨rfl, HB1.out.drew⟩
set_option maxHeartbeats 1000000 in
set_option maxRecDepth 100000 in
theorem rplace_calls (g : Geo) (i : Int) (w : World) : Calls Tryz.prog 77 #[g.v, .int .i64 i] w fun e w' => e = .returned (.tuple #[.int .i64 (placeI g i).1, .int .i64 (placeI g i).2.1, .int .i64 (placeI g i).2.2.1, .int .i64 (placeI g i).2.2.2.1, .int .i64 (placeI g i).2.2.2.2]) ∧ Below w.heap.size w w' := by
  have HS := Aside0.mk (fun (W : World) => rspan_calls g i W)
  have hcs := spanI_cases g i
  have hgood := groupsI_good (g := g) (i := i)
  have hzero := geoI_zero (g := g)
  have hpd : placeI g i = if (spanI g i).2.2 ≠ 0 then (0, 0, 0, 0, (spanI g i).2.2) else ((if i = 0 then 2 + g.journal else (spanI g i).1), (if i = 0 then 2 + g.journal else (spanI g i).1) + 1, (if i = 0 then 2 + g.journal else (spanI g i).1) + 2, (if i = 0 then 2 + g.journal else (spanI g i).1) + 2 + g.inodes / 2, 0) := rfl
  obtain ⟨r, hr⟩ : ∃ r, placeI g i = r := ⟨_, rfl⟩
  rw [hr] at hpd ⊢
  have HB0 := Aside0.mk (fun o => below_alloc (Below.refl w.heap.size w) o)
  rcases hcs with hc | ⟨hc, hi0, hi1⟩
  · rw [hc] at HS hpd
    simp only [ne_eq, show ¬ (22 : Int) = 0 by decide, not_false_eq_true, if_true] at hpd
    subst hpd
    obtain ⟨B, P, I, J⟩ := g
    unfold Geo.v at HS ⊢
    dsimp only at HS ⊢
    clear hgood hzero hc hr
    go_enter Tryz.func77, Tryz.ntmps77
    go_wp2_with fail
    refine (HS.out _).mono ?_
    rintro e w1 ⟨rfl, hb1⟩
    have HB1 := Aside0.mk (below_then (HB0.out _) (HB0.out _).size hb1)
    clear hb1
    dsimp only
    go_wp2
    refine bodyPost_ret (v := .tuple #[.int .i64 0, .int .i64 0, .int .i64 0, .int .i64 0, .int .i64 22]) ?_ rfl ⟨rfl, HB1.out⟩
    simp [results, Tryz.results77, go_sem]
  · rw [hc] at HS hpd
    simp only [ne_eq, not_true_eq_false, if_false] at hpd
    obtain ⟨hz, h13, hip⟩ := hgood hi0 hi1
    have hzz := hzero hz
    obtain ⟨B, P, I, J⟩ := g
    unfold Geo.v at HS ⊢
    dsimp only at HS hpd hip hzz ⊢
    have hip0 : 0 ≤ i * P := Int.mul_nonneg (by omega) (by omega)
    obtain ⟨m, hm⟩ : ∃ m, i * P = m := ⟨_, rfl⟩
    rw [hm] at hip hip0 hpd HS
    generalize min (m + P) B = mn at HS
    have hI : 8 ≤ I ∧ I ≤ 512 := hzz.2.2.1
    have hJ : 96 ≤ J ∧ J ≤ 512 := hzz.2.2.2.1
    have hBB : 128 ≤ B ∧ B ≤ 4096 := hzz.1
    have hti : I.tdiv 2 = I / 2 := Int.tdiv_eq_ediv_of_nonneg (by omega)
    obtain ⟨t, ht⟩ : ∃ t, I / 2 = t := ⟨_, rfl⟩
    have ht0 : 0 ≤ t ∧ t ≤ 256 := by omega
    rw [ht] at hpd hti
    have HTI := Aside0.mk ht
    by_cases hi : i = 0
    · subst hi
      simp only [if_true] at hpd
      subst hpd
      have HW := Aside0.mk (And.intro (show wrap64 (2 + J + 1) = 2 + J + 1 by unfold wrap64; omega) (And.intro (show wrap64 (2 + J + 2) = 2 + J + 2 by unfold wrap64; omega) (show wrap64 (2 + J + 2 + t) = 2 + J + 2 + t by unfold wrap64; omega)))
      have HWT := Aside0.mk (show wrap64 t = t by unfold wrap64; omega)
      clear hgood hzero hc hr hz hzz hm hip hip0 h13 hi0 hi1 ht
      go_enter Tryz.func77, Tryz.ntmps77
      go_wp2_with fail
      refine (HS.out _).mono ?_
      rintro e w1 ⟨rfl, hb1⟩
      have HB1 := Aside0.mk (below_then (HB0.out _) (HB0.out _).size hb1)
      have m2 := pw_cell_below hb1 (cell_alloc w #[.int .i64 B, .int .i64 P, .int .i64 I, .int .i64 J] 80 2 _ rfl)
      have m3 := pw_cell_below hb1 (cell_alloc w #[.int .i64 B, .int .i64 P, .int .i64 I, .int .i64 J] 80 3 _ rfl)
      clear hb1
      dsimp only
      go_wp2
      obtain ⟨hw1, hw2, hw3⟩ := HW.out
      have hw4 := HWT.out
      have hti2 := HTI.out
      refine wp_region_in [0, 0, 0, 0, 0, 0, 0, 0, 1, 0, 0, 0, 0, 0, 0, 0] [] (fun w' => w'.cell? ⟨w.heap.size, 2, none⟩ = some (.int .i64 I)) (by kernel_rfl) rfl (by kernel_rfl) (fun _ _ _ _ h => h) m2 ?_
      iterate 16 (first
        | (refine in_off0 (by rfl) ?_; simp only [Act.put, stA, stZ, stS, i64_w, i32_w])
        | (refine in_off1 (by rfl) ?_; simp only [Act.put, stA, stZ, stS, i64_w, i32_w])
        | (refine in_0 (v := ?_) (by rfl) rfl ?_ (a' := ?_) ?_ ?_; rotate_left; (intro w'; go_simp; with_reducible rfl); rotate_left; (simp only [Act.put, stA, stZ, stS, i64_w, i32_w]; rfl))
        | (refine in_1 (v := ?_) (by rfl) rfl ?_ (a' := ?_) ?_ ?_; rotate_left; (rintro w' hs; go_split_ands; go_simp; with_reducible rfl); rotate_left; (simp only [Act.put, stA, stZ, stS, i64_w, i32_w]; rfl)))
      refine in_nil ?_
      clear hw1 hw2 hw3 hw4 hti2
      go_wp2
      refine bodyPost_ret (v := .tuple #[.int .i64 (2 + J), .int .i64 (2 + J + 1), .int .i64 (2 + J + 2), .int .i64 (2 + J + 2 + t), .int .i64 0]) ?_ rfl ⟨rfl, HB1.out.drew⟩
      simp [results, Tryz.results77, go_sem]
    · simp only [hi, if_false] at hpd
      subst hpd
      have HW := Aside0.mk (And.intro (show wrap64 (m + 1) = m + 1 by unfold wrap64; omega) (And.intro (show wrap64 (m + 2) = m + 2 by unfold wrap64; omega) (show wrap64 (m + 2 + t) = m + 2 + t by unfold wrap64; omega)))
      have HWT := Aside0.mk (show wrap64 t = t by unfold wrap64; omega)
      clear hgood hzero hc hr hz hzz hm hip hip0 h13 hi0 hi1 ht
      go_enter Tryz.func77, Tryz.ntmps77
      go_wp2_with fail
      refine (HS.out _).mono ?_
      rintro e w1 ⟨rfl, hb1⟩
      have HB1 := Aside0.mk (below_then (HB0.out _) (HB0.out _).size hb1)
      have m2 := pw_cell_below hb1 (cell_alloc w #[.int .i64 B, .int .i64 P, .int .i64 I, .int .i64 J] 80 2 _ rfl)
      clear hb1
      dsimp only
      go_wp2
      obtain ⟨hw1, hw2, hw3⟩ := HW.out
      have hw4 := HWT.out
      have hti2 := HTI.out
      refine wp_region_in [0, 0, 0, 0, 0, 0, 0, 0, 1, 0, 0, 0, 0, 0, 0, 0] [] (fun w' => w'.cell? ⟨w.heap.size, 2, none⟩ = some (.int .i64 I)) (by kernel_rfl) rfl (by kernel_rfl) (fun _ _ _ _ h => h) m2 ?_
      iterate 16 (first
        | (refine in_off0 (by rfl) ?_; simp only [Act.put, stA, stZ, stS, i64_w, i32_w])
        | (refine in_off1 (by rfl) ?_; simp only [Act.put, stA, stZ, stS, i64_w, i32_w])
        | (refine in_0 (v := ?_) (by rfl) rfl ?_ (a' := ?_) ?_ ?_; rotate_left; (intro w'; go_simp; with_reducible rfl); rotate_left; (simp only [Act.put, stA, stZ, stS, i64_w, i32_w]; rfl))
        | (refine in_1 (v := ?_) (by rfl) rfl ?_ (a' := ?_) ?_ ?_; rotate_left; (rintro w' hs; go_split_ands; go_simp; with_reducible rfl); rotate_left; (simp only [Act.put, stA, stZ, stS, i64_w, i32_w]; rfl)))
      refine in_nil ?_
      clear hw1 hw2 hw3 hw4 hti2
      go_wp2
      refine bodyPost_ret (v := .tuple #[.int .i64 m, .int .i64 (m + 1), .int .i64 (m + 2), .int .i64 (m + 2 + t), .int .i64 0]) ?_ rfl ⟨rfl, HB1.out.drew⟩
      simp [results, Tryz.results77, go_sem]
def BmPost (x : Int) (w : World) (e : Ending) (w' : World) : Prop :=
  ∃ A c l B d m, e = .returned (.tuple #[.slice A (List.length l) c, .slice B (List.length m) d, .int .i64 x]) ∧ (Kd.C (Kd.int .u8) w' A l.length l ∧ l.length ≤ 256 ∧ (A = none → c = 0) ∧ ∀ ad, A = some ad → w.heap.size ≤ ad.block) ∧ (Kd.C (Kd.int .u8) w' B m.length m ∧ m.length ≤ 256 ∧ (B = none → d = 0) ∧ ∀ ad, B = some ad → w.heap.size ≤ ad.block) ∧ Below w.heap.size w w'
set_option maxHeartbeats 4000000 in
set_option maxRecDepth 100000 in
theorem rbitmaps_calls (g : Geo) (i : Nat) (w : World) (hz : geoI g = 0) (hi : (i : Int) < groupsI g) :
    Calls Tryz.prog 112 #[g.v, .int .i64 i] w (BmPost ((mkTo g i : Int) - mkDa g i) w) := by
  have HSP := Aside0.mk (fun W : World => rspan_calls g i W)
  have HPL := Aside0.mk (fun W : World => rplace_calls g i W)
  obtain ⟨fr, zz, bm, da, e3, e4, hr⟩ := geo_grp2 hz hi
  obtain ⟨m1, m2, m3, m4⟩ := mk_is e3 e4
  rw [m2, m4]
  rw [e3] at HSP
  rw [e4] at HPL
  have hzz := geoI_zero hz
  obtain ⟨B, P, I, J⟩ := g
  unfold Geo.v at HSP HPL ⊢
  dsimp only at HSP HPL hzz hr ⊢
  clear e3 e4 m1 m2 m3 m4 hz hi
  obtain ⟨r1, r2, r3, r4, r5, r6⟩ := hr
  obtain ⟨n, hn⟩ : ∃ n : Nat, (zz : Int) - (fr : Int) = (n : Int) := ⟨zz - fr, by omega⟩
  obtain ⟨ct, hct⟩ : ∃ ct : Nat, (da : Int) - (fr : Int) = (ct : Int) := ⟨da - fr, by omega⟩
  obtain ⟨bm1, hbm1⟩ : ∃ bm1 : Nat, (bm : Int) + 1 = (bm1 : Int) := ⟨bm + 1, by omega⟩
  obtain ⟨I', hI⟩ : ∃ I' : Nat, I = (I' : Int) := ⟨I.toNat, by omega⟩
  have HNW := Aside0.mk (fun W : World => hn ▸ rnewb_calls n bm W (by omega) (by omega) (by omega))
  have HNI := Aside0.mk (fun W : World => rnewb_calls I' bm1 W (by omega) (by omega) (by omega))
  have HTN := Aside0.mk (fun (A : Option Addr) (c : Nat) (b : List Int) (W : World) (h1 : Kd.C (Kd.int .u8) W A b.length b) (h2 : b.length ≤ c) (h3 : allB b) => hn ▸ hct ▸ rturnb_calls A c b n 0 ct true bm W h1 h2 h3 (by omega) (by omega) (by omega) (by omega) (by omega))
  rw [show ((0 : Nat) : Int) = 0 from rfl] at HTN
  rw [hbm1] at HPL
  subst hI
  have hzf : (fr : Int) ≤ (zz : Int) := by omega
  have hdf : (fr : Int) ≤ (da : Int) := by omega
  have hdz : (da : Int) ≤ (zz : Int) := by omega
  have hz4 : (zz : Int) ≤ 4096 := by omega
  have hwx : IntKind.u32.wrap (bm : Int) = (bm : Int) := by rw [IntKind.wrap_u32]; omega
  have hwy : IntKind.u32.wrap (bm1 : Int) = (bm1 : Int) := by rw [IntKind.wrap_u32]; omega
  clear hzz r1 r2 r3 r4 r5 r6 hn hct hbm1
  go_enter Tryz.func112, Tryz.ntmps112
  go_upto_region 1 with fail
  have hcells : ∀ (W : World), Below (w.alloc (.cells #[.int .i64 B, .int .i64 P, .int .i64 (I' : Int), .int .i64 J] 80)).heap.size (w.alloc (.cells #[.int .i64 B, .int .i64 P, .int .i64 (I' : Int), .int .i64 J] 80)) W → W.cell? ⟨w.heap.size, 0, none⟩ = some (.int .i64 B) ∧ W.cell? ⟨w.heap.size, 1, none⟩ = some (.int .i64 P) ∧ W.cell? ⟨w.heap.size, 2, none⟩ = some (.int .i64 (I' : Int)) ∧ W.cell? ⟨w.heap.size, 3, none⟩ = some (.int .i64 J) := fun W hb => by
    have hx := fun j v hj => pw_cell_below hb (cell_alloc w #[.int .i64 B, .int .i64 P, .int .i64 (I' : Int), .int .i64 J] 80 j v hj)
    exact ⟨hx 0 _ rfl, hx 1 _ rfl, hx 2 _ rfl, hx 3 _ rfl⟩
  have HB0 := Aside0.mk (below_alloc (Below.refl w.heap.size w) (.cells #[.int .i64 B, .int .i64 P, .int .i64 (I' : Int), .int .i64 J] 80))
  generalize w.alloc (.cells #[.int .i64 B, .int .i64 P, .int .i64 (I' : Int), .int .i64 J] 80) = W0 at hcells HB0 ⊢
  have HC := Aside0.mk hcells
  obtain ⟨d0, d1, d2, d3⟩ := hcells W0 (Below.refl _ _)
  clear hcells
  go_wp2_with fail
  refine (HSP.out W0).mono ?_
  rintro e w1 ⟨rfl, hb1⟩
  have HB1 := Aside0.mk hb1
  clear d0 d1 d2 d3
  obtain ⟨d0, d1, d2, d3⟩ := HC.out w1 hb1
  clear hb1
  dsimp only
  go_wp2_with fail
  refine (HPL.out w1).mono ?_
  rintro e w2 ⟨rfl, hb2⟩
  have HB2 := Aside0.mk (below_then HB1.out HB1.out.size hb2)
  clear d0 d1 d2 d3 hb2
  obtain ⟨d0, d1, d2, d3⟩ := HC.out w2 HB2.out
  dsimp only
  go_wp2_with fail
  with_reducible refine (HNW.out w2).mono ?_
  rintro e w3 ⟨A3, c3, l3, x3, rfl, hC3, hab3, hl3, hlc3, hn3, _, hb3⟩
  have HB3 := Aside0.mk (below_then HB2.out HB2.out.size hb3)
  have HT := Aside0.mk (HTN.out A3 c3 l3 w3 hC3 hlc3 hab3)
  clear d0 d1 d2 d3 hb3 hC3 hab3 hl3 hlc3 hn3
  obtain ⟨d0, d1, d2, d3⟩ := HC.out w3 HB3.out
  dsimp only
  go_wp2_with fail
  with_reducible refine HT.out.mono ?_
  rintro e w4 ⟨A4, c4, l4, x4, rfl, hC4, hab4, hl4, hlc4, hn4, hg4, hb4⟩
  have HB4 := Aside0.mk (below_then HB3.out HB3.out.size hb4)
  have H4 := Aside0.mk (And.intro hC4 (And.intro hl4 (And.intro hn4 (fun ad h => Nat.le_trans (Nat.le_trans HB0.out.size HB3.out.size) (hg4 ad h)))))
  clear d0 d1 d2 d3 hb4 hC4 hab4 hl4 hlc4 hn4 hg4 HT
  obtain ⟨d0, d1, d2, d3⟩ := HC.out w4 HB4.out
  dsimp only
  go_wp2_with fail
  with_reducible refine (HNI.out w4).mono ?_
  rintro e w5 ⟨A5, c5, l5, x5, rfl, hC5, hab5, hl5, hlc5, hn5, hg5, hb5⟩
  have HB5 := Aside0.mk (below_then HB4.out HB4.out.size hb5)
  have H5 := Aside0.mk (And.intro hC5 (And.intro hl5 (And.intro hn5 (fun ad h => Nat.le_trans (Nat.le_trans HB0.out.size HB4.out.size) (hg5 ad h)))))
  have HC4 := Aside0.mk (Kd.C_below H4.out.1 hb5)
  clear d0 d1 d2 d3 hb5 hC5 hab5 hl5 hlc5 hn5 hg5
  dsimp only
  go_wp2
  refine bodyPost_ret (results_tmp3 rfl _ _ _) rfl ?_
  exact ⟨A4, c4, l4, A5, c5, l5, rfl, ⟨HC4.out, H4.out.2.1, H4.out.2.2⟩, ⟨H5.out.1, H5.out.2.1, H5.out.2.2⟩, below_then HB0.out HB0.out.size HB5.out⟩
theorem infoIy : (Tryz.prog.info? 105).map (fun i => (i.zero, i.size, i.bytes)) = some (some (.slice none 0 0), 1, 24) := by kernel_rfl
theorem own_setw {w : World} {base e sz g n c : Nat} {cs : List Value} (h : w.ownsRow base e sz (.slice (some ⟨g, 0, none⟩) n c) n cs) (j : Nat) (x : Value) : (w.setCell ⟨g, j, none⟩ x).ownsRow base e sz (.slice (some ⟨g, 0, none⟩) n c) n (cs.set j x) := by
  refine ⟨by rw [List.length_set]; exact h.1, ?_⟩
  rcases h.2 with ⟨h0, _⟩ | ⟨g', cap, cur, hv, hb, hh, h1, h2, h3, h4⟩
  · cases h0
  · cases hv
    refine .inr ⟨g, c, cur.setIfInBounds j x, rfl, hb, ?_, h1, h2, by simpa using h3, ?_⟩
    · unfold World.setCell
      simp only [Array.getElem?_modify, if_true, hh, Option.map_some]
      simp
    · rw [Array.toList_setIfInBounds, List.take_set, h4]
theorem own_cells {w : World} {base e sz n : Nat} {v : Value} {cs : List Value} (h : w.ownsRow base e sz v n cs) (hp : 0 < n * sz) : ∃ g c, v = .slice (some ⟨g, 0, none⟩) n c ∧ base ≤ g ∧ g < w.heap.size ∧ n ≤ c ∧ (∀ j u, cs[j]? = some u → w.cell? ⟨g, j, none⟩ = some u) ∧ ∀ j, w.frozen? ⟨g, j, none⟩ = false := by
  have hl := h.1
  rcases h.2 with ⟨rfl, h0⟩ | ⟨g, c, cur, rfl, hb, hh, h1, h2, h3, h4⟩
  · subst h0
    simp at hp
  · refine ⟨g, c, rfl, hb, lt_of_obj hh, h1, fun j u hj => ?_, fun j => by simp [World.frozen?, hh]⟩
    rw [← h4, List.getElem?_take] at hj
    split at hj
    · simp only [World.cell?, hh]
      simpa using hj
    · cases hj
set_option maxHeartbeats 4000000 in
set_option maxRecDepth 100000 in
theorem rflush2_calls {D : Nat → Prop} {p N m : Nat} (w : World) (h : RDk w D p N m) (hm : m ≤ 1000000) (hN : N ≤ 100000) :
    Calls Tryz.prog 117 #[.pointer (some ⟨p, 0, none⟩)] w fun e w' => e = .returned (.tuple #[]) ∧ RDk w' D p N 0 ∧ Mod w w' D := by
  obtain ⟨Lv, Pv, kk, cs, ps, hst, ⟨hbp, hLD, hPD⟩, hL, hcs, hP, hps, hpb⟩ := h
  have HLD := Aside0.mk hLD
  obtain ⟨PA, Pc, rfl, _, _⟩ := own_shape hP
  have HP := Aside0.mk (And.intro hps hpb)
  have HST := Aside0.mk hst
  have HOP := Aside0.mk hP
  have hpl := hst.lt
  have HC := Aside0.mk (show ∃ cs', w.ownsRow 0 23 1 Lv N cs' ∧ (∀ q ∈ cs', q.oneCell' = true) from ⟨cs, hL, hcs⟩)
  have HB0 := Aside0.mk (Mod.refl w D)
  clear hst hL hcs hP hps hpb hPD hLD
  go_enter Tryz.func117, Tryz.ntmps117
  go_upto_region 0 with fail
  go_wp2
  go_loopg [2] m (fun g i wr => ∃ k : Nat, k + g = m ∧ i = .int .i64 k ∧ Aside0 (Strc wr p 176 [Lv, .slice PA m Pc, .int .i64 kk]) ∧ Aside0 (wr.ownsRow 0 207 2 (.slice PA m Pc) m ps) ∧ Aside0 (∃ cs', wr.ownsRow 0 23 1 Lv N cs' ∧ (∀ q ∈ cs', q.oneCell' = true)) ∧ Aside0 (Mod w wr D))
  case atStart => exact ⟨0, by omega, rfl, HST, HOP, HC, HB0⟩
  case round =>
    obtain ⟨k, hk, rfl, HS, HO, HCS, HB⟩ := hrel
    have hk0 := HS.out.cell 0 Lv rfl
    have hk1 := HS.out.cell 1 (.slice PA m Pc) rfl
    have hpw := HS.out.lt
    cases gk with
    | zero =>
      obtain rfl : k = m := by omega
      have hf1 := HS.out.free 1
      go_upto_region 5 with fail
      have hS5 := HS.out.set 1 (.slice none 0 0)
      have hm5 : Mod wr (wr.setCell ⟨p, 1, none⟩ (.slice none 0 0)) (· = p) := (Mod.refl wr (· = p)).set_own 1 _
      have hB5 : Mod w (wr.setCell ⟨p, 1, none⟩ (.slice none 0 0)) D := HB.out.setCell (p := ⟨p, 1, none⟩) (fun _ => hbp) _
      obtain ⟨cs', hL', hcs'⟩ := HCS.out
      have hL5 := own_mod hL' hm5 (fun g hg e => own_not_strc hL' HS.out (by decide) (by rw [hg, e]))
      have H5 := Aside0.mk (And.intro hS5 (And.intro hL5 (And.intro hcs' hB5)))
      clear hk0 hk1 hf1 hm5 hL' hcs'
      generalize wr.setCell ⟨p, 1, none⟩ (.slice none 0 0) = w5 at H5 hS5 hL5 hB5 ⊢
      have hk2 := hS5.cell 2 (.int .i64 kk) rfl
      have hf2 := hS5.free 2
      have hl5 := hS5.lt
      clear hS5 hL5 hB5
      go_wp2
      go_end0
      obtain ⟨x, hx⟩ : ∃ x, wrap64 (kk + 1) = x := ⟨_, rfl⟩
      rw [hx]
      have hm6 : Mod w5 (w5.setCell ⟨p, 2, none⟩ (.int .i64 x)) (· = p) := (Mod.refl w5 (· = p)).set_own 2 _
      exact ⟨rfl, ⟨Lv, .slice none 0 0, x, cs', [], H5.out.1.set 2 (.int .i64 x), ⟨hbp, HLD.out, fun k hk => by cases hk⟩, own_mod H5.out.2.1 hm6 (fun g hg e => own_not_strc H5.out.2.1 H5.out.1 (by decide) (by rw [hg, e])), H5.out.2.2.1, own_nil _ _ _ _, (fun q hq => nomatch hq), fun j hj => by omega⟩, H5.out.2.2.2.setCell (p := ⟨p, 2, none⟩) (fun _ => hbp) _⟩
    | succ g =>
      obtain ⟨b, yA, yn, yc, hb, hy1, hy2⟩ := HP.out.2 k (by omega)
      obtain ⟨gp, cp, e, hgp1, hgp2, _, hcell, _⟩ := own_cells HO.out (by omega)
      cases e
      obtain ⟨cs', hL', hcs'⟩ := HCS.out
      obtain ⟨gl, cl, rfl, hgl1, hgl2, hcl, hlcell, hlf⟩ := own_cells hL' (by omega)
      have p0 := hcell _ _ hy1
      have p1 := hcell _ _ hy2
      obtain ⟨z, hz⟩ : ∃ z, cs'[b]? = some z := ⟨_, List.getElem?_eq_getElem (by rw [hL'.1]; omega)⟩
      have l0 := hlcell _ _ hz
      have l1 := hlf b
      have HX := Aside0.mk (And.intro hL' hcs')
      have hbn : (b : Int) < (N : Int) := by omega
      have hkm : (k : Int) < (m : Int) := by omega
      have hkm' : k < m := by omega
      clear hgl1 hcell hlcell hlf hy1 hy2 hz hL' hcs'
      go_upto_region 3 with fail
      refine wp_region_in [0, 0, 0, 1, 0, 0, 0, 1, 0, 0, 0, 1, 0, 0, 0, 1, 0, 0, 0, 1, 0, 3] [21] (fun W => W.cell? ⟨p, 0, none⟩ = some (.slice (some ⟨gl, 0, none⟩) N cl) ∧ W.cell? ⟨p, 1, none⟩ = some (.slice (some ⟨gp, 0, none⟩) m Pc) ∧ W.cell? ⟨gp, k * 2, none⟩ = some (.int .i64 b) ∧ W.cell? ⟨gp, k * 2 + 1, none⟩ = some (.slice yA yn yc) ∧ W.cell? ⟨gl, b, none⟩ = some z ∧ W.frozen? ⟨gl, b, none⟩ = false) (by kernel_rfl) rfl (by kernel_rfl) (fun _ _ _ _ h => h) ⟨hk0, hk1, p0, p1, l0, l1⟩ ?_
      iterate 21 (first
        | (refine in_off0 (by rfl) ?_; simp only [Act.put, stA, stZ, stS, i64_w, i32_w])
        | (refine in_off1 (by rfl) ?_; simp only [Act.put, stA, stZ, stS, i64_w, i32_w])
        | (refine in_0 (v := ?_) (by rfl) rfl ?_ (a' := ?_) ?_ ?_; rotate_left; (intro w'; go_simp; with_reducible rfl); rotate_left; (simp only [Act.put, stA, stZ, stS, i64_w, i32_w]; rfl))
        | (refine in_1 (v := ?_) (by rfl) rfl ?_ (a' := ?_) ?_ ?_; rotate_left; (rintro w' hs; go_split_ands; go_simp; with_reducible rfl); rotate_left; (simp only [Act.put, stA, stZ, stS, i64_w, i32_w]; rfl)))
      refine in_3 (by rfl) (fun K hK => ?_)
      unfold Oper.wp execOp
      go_simp
      refine hK _ _ ?_
      clear hK K
      try simp only [Act.put, stA, stZ, stS, i64_w, i32_w]
      refine out_nil ?_
      have hL5 := pw_own_below (own_setw HX.out.1 b (.slice yA yn yc)) ((Below.refl _ _).drew)
      have hm5 : Mod wr (wr.setCell ⟨gl, b, none⟩ (.slice yA yn yc)).drew (· = gl) := ((Mod.refl wr (· = gl)).set_own b _).drew
      have hS5 := HS.out.mod hm5 (fun e => own_not_strc HX.out.1 HS.out (by decide) (by rw [e]; rfl))
      have hO5 := own_mod HO.out hm5 (fun g hg e => own_apart HO.out HX.out.1 (by decide) g hg (by rw [e]; rfl))
      have hc5 : ∀ q ∈ cs'.set b (.slice yA yn yc), q.oneCell' = true := fun q hq => by
        rcases List.mem_or_eq_of_mem_set hq with h | h
        · exact HX.out.2 q h
        · rw [h]; rfl
      have hB5 : Mod w (wr.setCell ⟨gl, b, none⟩ (.slice yA yn yc)).drew D := (HB.out.setCell (p := ⟨gl, b, none⟩) (fun _ => HLD.out gl rfl) _).drew
      have H5 := Aside0.mk (And.intro hS5 (And.intro hO5 (And.intro (show ∃ cs'', (wr.setCell ⟨gl, b, none⟩ (.slice yA yn yc)).drew.ownsRow 0 23 1 (.slice (some ⟨gl, 0, none⟩) N cl) N cs'' ∧ (∀ q ∈ cs'', q.oneCell' = true) from ⟨_, hL5, hc5⟩) hB5)))
      clear hL5 hm5 hS5 hO5 hc5 hB5 hk0 hk1 p0 p1 l0 l1
      generalize (wr.setCell ⟨gl, b, none⟩ (.slice yA yn yc)).drew = w5 at H5 ⊢
      go_wp2
      go_roundg g
      case measure => omega
      case rel => exact ⟨k + 1, by omega, by go_num, ⟨H5.out.1⟩, ⟨H5.out.2.1⟩, ⟨H5.out.2.2.1⟩, ⟨H5.out.2.2.2⟩⟩
set_option maxHeartbeats 40000000 in
set_option maxRecDepth 100000 in
theorem rnew6_calls {D : Nat → Prop} {p N m : Nat} (w : World) (h : RDk w D p N m) (h0 : 0 < N) (hN : N ≤ 100000) :
    Calls Tryz.prog 50 #[.pointer (some ⟨p, 0, none⟩), .int .i64 4, .int .i64 64] w fun e w' => ∃ q, e = .returned (.tuple #[.pointer (some ⟨q, 0, none⟩), .int .i64 0]) ∧ Below w.heap.size w w' := by
  obtain ⟨Lv, Pv, kk, cs, ps, hst, hbp, hL, hcs, hP, hps, hpb⟩ := h
  obtain ⟨LA, Lc, rfl, _, _⟩ := own_shape hL
  have hk0 := hst.cell 0 _ rfl
  have hNi : ¬ ((N : Int) = 0) := by omega
  have hNb : ((N : Int) == 0) = false := by rw [beq_eq_false_iff_ne]; omega
  clear hst hL hcs hP hps hpb
  go_enter Tryz.func50, Tryz.ntmps50
  go_upto_region 4 with fail
  have hmA := fun W : World => run_make_row' (P := Tryz.prog) 148 23 (.slice none 0 0) 24 Tryz.underlying148 infoBy rfl .i64 .i64 N (by omega) (by omega) W
  have hmB := fun W : World => run_make_row' (P := Tryz.prog) 149 4 (.bool false) 1 Tryz.underlying149 infoBo rfl .i64 .i64 N (by omega) (by omega) W
  have hmC : ∀ W : World, (Instr.makeSlice 154 (.int .i64 4) (.int .i64 4)).run Tryz.prog W = .ok (.slice (some ⟨W.heap.size, 0, none⟩) 4 4) (W.alloc (.cells (madeCells #[Value.slice none 0 0] 4) 105)) := fun W => run_make_row' (P := Tryz.prog) 154 105 (.slice none 0 0) 24 Tryz.underlying154 infoIy rfl .i64 .i64 4 (by omega) (by omega) W
  go_region
  all_goals (go_wp2; go_ret2; exact ⟨_, rfl, by repeat (first | exact Below.refl _ _ | apply Below.drew | apply below_alloc)⟩)
end Go.Proofs.YtkmhilhfmfmckaaGreatDoor.Hand
