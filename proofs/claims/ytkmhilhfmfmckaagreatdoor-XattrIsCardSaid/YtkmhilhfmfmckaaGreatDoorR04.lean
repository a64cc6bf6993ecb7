/- Own texts and printed words of the kit, put together and trimmed by a program of mine (merge.py). -/
import Derived.Test.YtkmhilhfmfmckaaGreatDoorR03
namespace Go.Proofs.YtkmhilhfmfmckaaGreatDoor.Hand
set_option linter.unusedSimpArgs false
set_option linter.unusedVariables false
open Go.Shelf Go.RowKit Go.Proofs.YtkmhilhfmfmckaaGreatDoorW.PrintWords Go.Proofs.YtkmhilhfmfmckaaGreatDoorW.PrintLast Go.Proofs.YtkmhilhfmfmckaaGreatDoorW.PrintMore
structure Geo where
 blocks : Int
 per : Int
 inodes : Int
 journal : Int
deriving DecidableEq
def Geo.v (g : Geo) : Value := .agg #[.int .i64 g.blocks, .int .i64 g.per, .int .i64 g.inodes, .int .i64 g.journal]
def Geo.ok (g : Geo) : Prop := (-9223372036854775808 ≤ g.blocks ∧ g.blocks < 9223372036854775808) ∧ (-9223372036854775808 ≤ g.per ∧ g.per < 9223372036854775808) ∧ (-9223372036854775808 ≤ g.inodes ∧ g.inodes < 9223372036854775808) ∧ (-9223372036854775808 ≤ g.journal ∧ g.journal < 9223372036854775808)
def inI (x lo hi : Int) : Bool := decide (lo ≤ x) && decide (x ≤ hi)
def geoA (g : Geo) : Bool := inI g.blocks 128 4096 && inI g.per 32 2016 && inI g.inodes 8 512 && (g.inodes % 2 == 0) && inI g.journal 96 512
def geoB (g : Geo) : Bool := decide ((g.blocks - 1) / g.per < 14) && decide (5 + g.journal + g.inodes / 2 ≤ min g.blocks g.per) && decide (3 + g.inodes / 2 ≤ (g.blocks - 1) % g.per + 1)
def geoI (g : Geo) : Int := if geoA g = true ∧ geoB g = true then 0 else 22
set_option maxHeartbeats 1000000 in
set_option maxRecDepth 100000 in
theorem ranged_calls (x lo hi : Int) (w : World) : Calls Tryz.prog 155 #[.int .i64 x, .int .i64 lo, .int .i64 hi] w fun e w' => e = .returned (.bool (inI x lo hi)) ∧ w = w' := by
 unfold inI
 by_cases h1 : lo ≤ x
 ·by_cases h2 : x ≤ hi
  ·have e : (decide (lo ≤ x) && decide (x ≤ hi)) = true := by simp [h1, h2]
   rw [e]
   clear e
   go_enter Tryz.func155, Tryz.ntmps155
   go_wp2
   go_ret
   exact ⟨rfl, rfl⟩
  ·have e : (decide (lo ≤ x) && decide (x ≤ hi)) = false := by simp [h1, h2]
   rw [e]
   clear e
   go_enter Tryz.func155, Tryz.ntmps155
   go_wp2
   go_ret
   exact ⟨rfl, rfl⟩
 ·have e : (decide (lo ≤ x) && decide (x ≤ hi)) = false := by simp [h1]
  rw [e]
  clear e
  go_enter Tryz.func155, Tryz.ntmps155
  go_wp2
  go_ret
  exact ⟨rfl, rfl⟩
theorem i64_and_one (n : Nat) (h : n < 9223372036854775808) : Go.bits .and .i64 (n : Int) 1 = ((n % 2 : Nat) : Int) := by
 show IntKind.i64.wrap ((BitVec.ofInt 64 (n : Int) &&& BitVec.ofInt 64 1).toNat : Int) = _
 have h1 : (BitVec.ofInt 64 (n : Int)) = BitVec.ofNat 64 n := by rw [BitVec.ofInt_natCast]
 have h2 : (BitVec.ofInt 64 1 : BitVec 64) = 1#64 := rfl
 rw [h1, h2, BitVec.toNat_and, BitVec.toNat_ofNat, show (1#64).toNat = 1 from rfl, Nat.and_one_is_mod]
 simp [IntKind.wrap, IntKind.bits, IntKind.signed]
 omega
theorem inI_iff {x lo hi : Int} : inI x lo hi = true ↔ lo ≤ x ∧ x ≤ hi := by unfold inI; simp
set_option maxHeartbeats 2000000 in
set_option maxRecDepth 100000 in
theorem geo_calls (g : Geo) (w : World) : Calls Tryz.prog 101 #[g.v] w fun e w' => e = .returned (.int .i64 (geoI g)) ∧ Below w.heap.size w w' := by
 obtain ⟨r, hr⟩ : ∃ r, geoI g = r := ⟨_, rfl⟩
 rw [hr]
 obtain ⟨B, P, I, J⟩ := g
 unfold Geo.v
 dsimp only
 have hA : geoA ⟨B, P, I, J⟩ = (inI B 128 4096 && inI P 32 2016 && inI I 8 512 && (I % 2 == 0) && inI J 96 512) := rfl
 have hbad : geoA ⟨B, P, I, J⟩ = false → r = 22 := fun h => by rw [← hr]; unfold geoI; rw [h]; simp
 by_cases h1 : inI B 128 4096 = true
 ·by_cases h2 : inI P 32 2016 = true
  ·by_cases h3 : inI I 8 512 = true
   ·obtain ⟨i, rfl⟩ : ∃ i : Nat, I = i := ⟨I.toNat, by have := inI_iff.1 h3; omega⟩
    have h3' := inI_iff.1 h3
    have hand := i64_and_one i (by omega)
    by_cases h4 : i % 2 = 0
    ·rw [h4] at hand
     by_cases h5 : inI J 96 512 = true
     ·have hA1 : geoA ⟨B, P, (i : Int), J⟩ = true := by rw [hA, h1, h2, h3, h5]; simp; omega
      have hgd : r = if geoB ⟨B, P, (i : Int), J⟩ = true then 0 else 22 := by rw [← hr]; unfold geoI; rw [hA1]; simp
      have h1' := inI_iff.1 h1
      have h2' := inI_iff.1 h2
      have h5' := inI_iff.1 h5
      unfold geoB at hgd
      dsimp only at hgd
      have hd0 : 0 ≤ (B - 1) / P := Int.ediv_nonneg (by omega) (by omega)
      have hd1 : (B - 1) / P ≤ B - 1 := Int.ediv_le_self _ (by omega)
      have hm0 : 0 ≤ (B - 1) % P := Int.emod_nonneg _ (by omega)
      have hm1 : (B - 1) % P < P := Int.emod_lt_of_pos _ (by omega)
      have ht1 : (B - 1).tdiv P = (B - 1) / P := Int.tdiv_eq_ediv_of_nonneg (by omega)
      have ht2 : (B - 1).tmod P = (B - 1) % P := Int.tmod_eq_emod_of_nonneg (by omega)
      obtain ⟨q, hq⟩ : ∃ q, (B - 1) / P = q := ⟨_, rfl⟩
      obtain ⟨m, hm⟩ : ∃ m, (B - 1) % P = m := ⟨_, rfl⟩
      rw [hq] at hd0 hd1 hgd ht1
      rw [hm] at hm0 hm1 hgd ht2
      have hP0 : ¬ P = 0 := by omega
      have hBP : ¬ (P = -1) := by omega
      have HGD := Aside0.mk hgd
      clear hA hbad hA1 hr hgd
      by_cases c1 : q < 14
      ·by_cases hbp : B ≤ P
       ·rw [Int.min_eq_left hbp] at HGD
        by_cases c2 : 5 + J + (i : Int) / 2 ≤ B
        ·by_cases c3 : 3 + (i : Int) / 2 ≤ m + 1
         ·have hr2 : r = 0 := by rw [HGD.out]; simp; omega
          subst hr2
          clear HGD
          go_enter Tryz.func101, Tryz.ntmps101
          go_wp2_with (go_at_call 155; refine (ranged_calls _ _ _ _).mono ?_; rintro e w' ⟨rfl, rfl⟩)
          go_ret
          exact ⟨rfl, below_alloc (Below.refl _ _) _⟩
         ·have hr2 : r = 22 := by rw [HGD.out]; simp; omega
          subst hr2
          clear HGD
          go_enter Tryz.func101, Tryz.ntmps101
          go_wp2_with (go_at_call 155; refine (ranged_calls _ _ _ _).mono ?_; rintro e w' ⟨rfl, rfl⟩)
          go_ret
          exact ⟨rfl, below_alloc (Below.refl _ _) _⟩
        ·have hr2 : r = 22 := by rw [HGD.out]; simp; omega
         subst hr2
         clear HGD
         go_enter Tryz.func101, Tryz.ntmps101
         go_wp2_with (go_at_call 155; refine (ranged_calls _ _ _ _).mono ?_; rintro e w' ⟨rfl, rfl⟩)
         go_ret
         exact ⟨rfl, below_alloc (Below.refl _ _) _⟩
       ·rw [Int.min_eq_right (by omega)] at HGD
        by_cases c2 : 5 + J + (i : Int) / 2 ≤ P
        ·by_cases c3 : 3 + (i : Int) / 2 ≤ m + 1
         ·have hr2 : r = 0 := by rw [HGD.out]; simp; omega
          subst hr2
          clear HGD
          go_enter Tryz.func101, Tryz.ntmps101
          go_wp2_with (go_at_call 155; refine (ranged_calls _ _ _ _).mono ?_; rintro e w' ⟨rfl, rfl⟩)
          go_ret
          exact ⟨rfl, below_alloc (Below.refl _ _) _⟩
         ·have hr2 : r = 22 := by rw [HGD.out]; simp; omega
          subst hr2
          clear HGD
          go_enter Tryz.func101, Tryz.ntmps101
          go_wp2_with (go_at_call 155; refine (ranged_calls _ _ _ _).mono ?_; rintro e w' ⟨rfl, rfl⟩)
          go_ret
          exact ⟨rfl, below_alloc (Below.refl _ _) _⟩
        ·have hr2 : r = 22 := by rw [HGD.out]; simp; omega
         subst hr2
         clear HGD
         go_enter Tryz.func101, Tryz.ntmps101
         go_wp2_with (go_at_call 155; refine (ranged_calls _ _ _ _).mono ?_; rintro e w' ⟨rfl, rfl⟩)
         go_ret
         exact ⟨rfl, below_alloc (Below.refl _ _) _⟩
      ·have hr2 : r = 22 := by rw [HGD.out]; simp; omega
       subst hr2
       clear HGD
       go_enter Tryz.func101, Tryz.ntmps101
       go_wp2_with (go_at_call 155; refine (ranged_calls _ _ _ _).mono ?_; rintro e w' ⟨rfl, rfl⟩)
       go_ret
       exact ⟨rfl, below_alloc (Below.refl _ _) _⟩
     ·have hr2 := hbad (by rw [hA, show inI J 96 512 = false by simpa using h5]; simp)
      subst hr2
      have h5' : inI J 96 512 = false := by simpa using h5
      clear hA hbad hr h5 h3'
      go_enter Tryz.func101, Tryz.ntmps101
      go_wp2_with (go_at_call 155; refine (ranged_calls _ _ _ _).mono ?_; rintro e w' ⟨rfl, rfl⟩)
      go_ret
      exact ⟨rfl, below_alloc (Below.refl _ _) _⟩
    ·rw [show i % 2 = 1 by omega] at hand
     have hr2 := hbad (by rw [hA]; have : ((i : Int) % 2 == 0) = false := by { rw [beq_eq_false_iff_ne]; omega }; rw [this]; simp)
     subst hr2
     clear hA hbad hr h4 h3'
     go_enter Tryz.func101, Tryz.ntmps101
     go_wp2_with (go_at_call 155; refine (ranged_calls _ _ _ _).mono ?_; rintro e w' ⟨rfl, rfl⟩)
     go_ret
     exact ⟨rfl, below_alloc (Below.refl _ _) _⟩
   ·have h3' : inI I 8 512 = false := by simpa using h3
    have hr2 := hbad (by rw [hA, h3']; simp)
    subst hr2
    clear hA hbad hr h3
    go_enter Tryz.func101, Tryz.ntmps101
    go_wp2_with (go_at_call 155; refine (ranged_calls _ _ _ _).mono ?_; rintro e w' ⟨rfl, rfl⟩)
    go_ret
    exact ⟨rfl, below_alloc (Below.refl _ _) _⟩
  ·have h2' : inI P 32 2016 = false := by simpa using h2
   have hr2 := hbad (by rw [hA, h2']; simp)
   subst hr2
   clear hA hbad hr h2
   go_enter Tryz.func101, Tryz.ntmps101
   go_wp2_with (go_at_call 155; refine (ranged_calls _ _ _ _).mono ?_; rintro e w' ⟨rfl, rfl⟩)
   go_ret
   exact ⟨rfl, below_alloc (Below.refl _ _) _⟩
 ·have h1' : inI B 128 4096 = false := by simpa using h1
  have hr2 := hbad (by rw [hA, h1']; simp)
  subst hr2
  clear hA hbad hr h1
  go_enter Tryz.func101, Tryz.ntmps101
  go_wp2_with (go_at_call 155; refine (ranged_calls _ _ _ _).mono ?_; rintro e w' ⟨rfl, rfl⟩)
  go_ret
  exact ⟨rfl, below_alloc (Below.refl _ _) _⟩
theorem geoI_zero {g : Geo} (h : geoI g = 0) : (128 ≤ g.blocks ∧ g.blocks ≤ 4096) ∧ (32 ≤ g.per ∧ g.per ≤ 2016) ∧ (8 ≤ g.inodes ∧ g.inodes ≤ 512) ∧ (96 ≤ g.journal ∧ g.journal ≤ 512) ∧ g.inodes % 2 = 0 ∧ (g.blocks - 1) / g.per < 14 ∧ 5 + g.journal + g.inodes / 2 ≤ min g.blocks g.per ∧ 3 + g.inodes / 2 ≤ (g.blocks - 1) % g.per + 1 := by
 unfold geoI at h
 split at h
 ·rename_i h2
  obtain ⟨hA, hB⟩ := h2
  unfold geoA at hA
  unfold geoB at hB
  simp only [Bool.and_eq_true, inI_iff, decide_eq_true_eq, beq_iff_eq] at hA hB
  obtain ⟨⟨⟨⟨a1, a2⟩, a3⟩, a4⟩, a5⟩ := hA
  obtain ⟨⟨b1, b2⟩, b3⟩ := hB
  exact ⟨a1, a2, a3, a5, a4, b1, b2, b3⟩
 ·cases h
theorem geoI_cases (g : Geo) : geoI g = 0 ∨ geoI g = 22 := by unfold geoI; split <;> simp
def groupsI (g : Geo) : Int := if geoI g = 0 then (g.blocks - 1) / g.per + 1 else 0
set_option maxHeartbeats 1000000 in
set_option maxRecDepth 100000 in
theorem groups_calls (g : Geo) (w : World) : Calls Tryz.prog 103 #[g.v] w fun e w' => e = .returned (.int .i64 (groupsI g)) ∧ Below w.heap.size w w' := by
 have hz := fun h => geoI_zero (g := g) h
 have hcs := geoI_cases g
 obtain ⟨r, hr⟩ : ∃ r, groupsI g = r := ⟨_, rfl⟩
 have h0 : geoI g = 0 → r = (g.blocks - 1) / g.per + 1 := fun h => by rw [← hr]; unfold groupsI; rw [if_pos h]
 have h22 : geoI g = 22 → r = 0 := fun h => by rw [← hr]; unfold groupsI; rw [if_neg (by rw [h]; decide)]
 rw [hr]
 have HC := Aside0.mk (fun (W : World) => geo_calls g W)
 obtain ⟨B, P, I, J⟩ := g
 unfold Geo.v at HC ⊢
 dsimp only at hz h0 HC ⊢
 rcases hcs with hc | hc
 ·have hr2 := h0 hc
  have hz2 := hz hc
  rw [hc] at HC
  have hd0 : 0 ≤ (B - 1) / P := Int.ediv_nonneg (by omega) (by omega)
  have hd1 : (B - 1) / P < 14 := hz2.2.2.2.2.2.1
  have ht1 : (B - 1).tdiv P = (B - 1) / P := Int.tdiv_eq_ediv_of_nonneg (by omega)
  obtain ⟨q, hq⟩ : ∃ q, (B - 1) / P = q := ⟨_, rfl⟩
  rw [hq] at hd0 hd1 hr2 ht1
  have hP0 : ¬ P = 0 := by omega
  have hPm : ¬ P = -1 := by omega
  have hB1 : 1 ≤ B ∧ B ≤ 4096 := by omega
  subst hr2
  clear hz hz2 h0 h22 hc hr
  go_enter Tryz.func103, Tryz.ntmps103
  have HB0 := Aside0.mk (fun o => below_alloc (Below.refl w.heap.size w) o)
  go_wp2_with fail
  refine (HC.out _).mono ?_
  rintro e w1 ⟨rfl, hb1⟩
  have HB1 := Aside0.mk (below_then (HB0.out _) (HB0.out _).size hb1)
  have m0 := pw_cell_below hb1 (cell_alloc w #[.int .i64 B, .int .i64 P, .int .i64 I, .int .i64 J] 80 0 _ rfl)
  have m1 := pw_cell_below hb1 (cell_alloc w #[.int .i64 B, .int .i64 P, .int .i64 I, .int .i64 J] 80 1 _ rfl)
  clear hb1
  dsimp only
  go_wp2
  go_ret
  exact ⟨rfl, HB1.out⟩
 ·have hr2 := h22 hc
  rw [hc] at HC
  subst hr2
  clear hz h0 h22 hc hr
  have HB0 := Aside0.mk (fun o => below_alloc (Below.refl w.heap.size w) o)
  go_enter Tryz.func103, Tryz.ntmps103
  go_wp2_with fail
  refine (HC.out _).mono ?_
  rintro e w1 ⟨rfl, hb1⟩
  have HB1 := Aside0.mk (below_then (HB0.out _) (HB0.out _).size hb1)
  clear hb1
  dsimp only
  go_wp2
  go_ret
  exact ⟨rfl, HB1.out⟩
def spanI (g : Geo) (i : Int) : Int × Int × Int := if i < 0 ∨ groupsI g ≤ i then (0, 0, 22) else (i * g.per, min (i * g.per + g.per) g.blocks, 0)
def placeI (g : Geo) (i : Int) : Int × Int × Int × Int × Int :=
 if (spanI g i).2.2 ≠ 0 then (0, 0, 0, 0, (spanI g i).2.2) else
 let at_ := if i = 0 then 2 + g.journal else (spanI g i).1
 (at_, at_ + 1, at_ + 2, at_ + 2 + g.inodes / 2, 0)
theorem groupsI_good {g : Geo} {i : Int} (h0 : 0 ≤ i) (h : i < groupsI g) : geoI g = 0 ∧ i ≤ 13 ∧ i * g.per ≤ g.blocks - 1 := by
 unfold groupsI at h
 split at h
 ·rename_i hz
  have hg := geoI_zero hz
  refine ⟨hz, by omega, ?_⟩
  have h1 : i ≤ (g.blocks - 1) / g.per := by omega
  have h2 := Int.mul_le_mul_of_nonneg_right h1 (show 0 ≤ g.per by omega)
  have h3 : (g.blocks - 1) / g.per * g.per ≤ g.blocks - 1 := Int.ediv_mul_le _ (by omega)
  omega
 ·omega
set_option maxHeartbeats 1000000 in
set_option maxRecDepth 100000 in
theorem span_calls (g : Geo) (i : Int) (w : World) : Calls Tryz.prog 67 #[g.v, .int .i64 i] w fun e w' => e = .returned (.tuple #[.int .i64 (spanI g i).1, .int .i64 (spanI g i).2.1, .int .i64 (spanI g i).2.2]) ∧ Below w.heap.size w w' := by
 have HG := Aside0.mk (fun (W : World) => groups_calls g W)
 have hgood := groupsI_good (g := g) (i := i)
 have hzero := geoI_zero (g := g)
 obtain ⟨r, hr⟩ : ∃ r, spanI g i = r := ⟨_, rfl⟩
 have hbad : (i < 0 ∨ groupsI g ≤ i) → r = (0, 0, 22) := fun h => by rw [← hr]; unfold spanI; rw [if_pos h]
 have hok : ¬ (i < 0 ∨ groupsI g ≤ i) → r = (i * g.per, min (i * g.per + g.per) g.blocks, 0) := fun h => by rw [← hr]; unfold spanI; rw [if_neg h]
 rw [hr]
 obtain ⟨q, hq⟩ : ∃ q, groupsI g = q := ⟨_, rfl⟩
 rw [hq] at HG hgood hbad hok
 obtain ⟨B, P, I, J⟩ := g
 unfold Geo.v at HG ⊢
 dsimp only at HG hgood hzero hok ⊢
 have HB0 := Aside0.mk (fun o => below_alloc (Below.refl w.heap.size w) o)
 by_cases h1 : i < 0
 ·obtain rfl := hbad (.inl h1)
  clear hbad hok hgood hzero hr hq
  go_enter Tryz.func67, Tryz.ntmps67
  go_wp2
  go_ret3
  exact ⟨rfl, HB0.out _⟩
 ·by_cases h2 : q ≤ i
  ·obtain rfl := hbad (.inr h2)
   clear hbad hok hgood hzero hr hq
   go_enter Tryz.func67, Tryz.ntmps67
   go_wp2_with fail
   refine (HG.out _).mono ?_
   rintro e w1 ⟨rfl, hb1⟩
   have HB1 := Aside0.mk (below_then (HB0.out _) (HB0.out _).size hb1)
   clear hb1
   dsimp only
   go_wp2
   go_ret3
   exact ⟨rfl, HB1.out⟩
  ·obtain ⟨hz, h13, hip⟩ := hgood (by omega) (by omega)
   have hzz := hzero hz
   have hrr := hok (by rintro (h | h); exact h1 h; exact h2 h)
   have hip0 : 0 ≤ i * P := Int.mul_nonneg (by omega) (by omega)
   obtain ⟨m, hm⟩ : ∃ m, i * P = m := ⟨_, rfl⟩
   rw [hm] at hip hip0 hrr
   have hP : 32 ≤ P ∧ P ≤ 2016 := hzz.2.1
   have hBB : 128 ≤ B ∧ B ≤ 4096 := hzz.1
   obtain ⟨mn, hmn⟩ : ∃ mn, min (m + P) B = mn := ⟨_, rfl⟩
   rw [hmn] at hrr
   subst hrr
   have hmin : ∀ W : World, (Builtin.min_ #[3, 3] 3 #[.int .i64 (m + P), .int .i64 B]).run Tryz.prog W = .ok (.int .i64 mn) W := fun W => by
    have e : mn = if B < m + P then B else m + P := by rw [← hmn]; split <;> omega
    rw [e]
    rfl
   have HMIN := Aside0.mk hmin
   have HMN := Aside0.mk hmn
   clear hbad hok hzero hr hq hz hzz hgood hmn hmin
   go_enter Tryz.func67, Tryz.ntmps67
   go_wp2_with fail
   refine (HG.out _).mono ?_
   rintro e w1 ⟨rfl, hb1⟩
   have HB1 := Aside0.mk (below_then (HB0.out _) (HB0.out _).size hb1)
   have m0 := pw_cell_below hb1 (cell_alloc w #[.int .i64 B, .int .i64 P, .int .i64 I, .int .i64 J] 80 0 _ rfl)
   have m1 := pw_cell_below hb1 (cell_alloc w #[.int .i64 B, .int .i64 P, .int .i64 I, .int .i64 J] 80 1 _ rfl)
   clear hb1
   dsimp only
   go_wp2
   have hmin := HMIN.out
   have hw : wrap64 (m + P) = m + P := by unfold wrap64; omega
   refine wp_region_in [0, 0, 0, 1, 0, 0, 1, 0, 0, 0, 0] [] (fun w' => w'.cell? ⟨w.heap.size, 0, none⟩ = some (.int .i64 B) ∧ w'.cell? ⟨w.heap.size, 1, none⟩ = some (.int .i64 P)) (by kernel_rfl) rfl (by kernel_rfl) (fun _ _ _ _ h => h) ⟨m0, m1⟩ ?_
   iterate 11 (first
    | (refine in_off0 (by rfl) ?_; simp only [Act.put, stA, stZ, stS, i64_w, i32_w])
    | (refine in_off1 (by rfl) ?_; simp only [Act.put, stA, stZ, stS, i64_w, i32_w])
    | (refine in_0 (v := ?_) (by rfl) rfl ?_ (a' := ?_) ?_ ?_; rotate_left; (intro w'; go_simp; with_reducible rfl); rotate_left; (simp only [Act.put, stA, stZ, stS, i64_w, i32_w]; rfl))
    | (refine in_1 (v := ?_) (by rfl) rfl ?_ (a' := ?_) ?_ ?_; rotate_left; (rintro w' hs; go_split_ands; go_simp; with_reducible rfl); rotate_left; (simp only [Act.put, stA, stZ, stS, i64_w, i32_w]; rfl)))
   refine in_nil ?_
   clear hmin hw
   go_wp2
   go_ret3
   exact ⟨rfl, HB1.out.drew⟩
theorem spanI_cases (g : Geo) (i : Int) : spanI g i = (0, 0, 22) ∨ (spanI g i = (i * g.per, min (i * g.per + g.per) g.blocks, 0) ∧ 0 ≤ i ∧ i < groupsI g) := by
 unfold spanI
 by_cases h : i < 0 ∨ groupsI g ≤ i
 ·rw [if_pos h]; exact .inl rfl
 ·rw [if_neg h]; exact .inr ⟨rfl, by omega, by omega⟩
set_option maxHeartbeats 1000000 in
set_option maxRecDepth 100000 in
theorem place_calls (g : Geo) (i : Int) (w : World) : Calls Tryz.prog 68 #[g.v, .int .i64 i] w fun e w' => e = .returned (.tuple #[.int .i64 (placeI g i).1, .int .i64 (placeI g i).2.1, .int .i64 (placeI g i).2.2.1, .int .i64 (placeI g i).2.2.2.1, .int .i64 (placeI g i).2.2.2.2]) ∧ Below w.heap.size w w' := by
 have HS := Aside0.mk (fun (W : World) => span_calls g i W)
 have hcs := spanI_cases g i
 have hgood := groupsI_good (g := g) (i := i)
 have hzero := geoI_zero (g := g)
 have hpd : placeI g i = if (spanI g i).2.2 ≠ 0 then (0, 0, 0, 0, (spanI g i).2.2) else ((if i = 0 then 2 + g.journal else (spanI g i).1), (if i = 0 then 2 + g.journal else (spanI g i).1) + 1, (if i = 0 then 2 + g.journal else (spanI g i).1) + 2, (if i = 0 then 2 + g.journal else (spanI g i).1) + 2 + g.inodes / 2, 0) := rfl
 obtain ⟨r, hr⟩ : ∃ r, placeI g i = r := ⟨_, rfl⟩
 rw [hr] at hpd ⊢
 have HB0 := Aside0.mk (fun o => below_alloc (Below.refl w.heap.size w) o)
 rcases hcs with hc | ⟨hc, hi0, hi1⟩
 ·rw [hc] at HS hpd
  simp only [ne_eq, show ¬ (22 : Int) = 0 by decide, not_false_eq_true, if_true] at hpd
  subst hpd
  obtain ⟨B, P, I, J⟩ := g
  unfold Geo.v at HS ⊢
  dsimp only at HS ⊢
  clear hgood hzero hc hr
  go_enter Tryz.func68, Tryz.ntmps68
  go_wp2_with fail
  refine (HS.out _).mono ?_
  rintro e w1 ⟨rfl, hb1⟩
  have HB1 := Aside0.mk (below_then (HB0.out _) (HB0.out _).size hb1)
  clear hb1
  dsimp only
  go_wp2
  refine bodyPost_ret (v := .tuple #[.int .i64 0, .int .i64 0, .int .i64 0, .int .i64 0, .int .i64 22]) ?_ rfl ⟨rfl, HB1.out⟩
  simp [results, Tryz.results68, go_sem]
 ·rw [hc] at HS hpd
  simp only [ne_eq, not_true_eq_false, if_false] at hpd
  obtain ⟨hz, h13, hip⟩ := hgood hi0 hi1
  have hzz := hzero hz
  obtain ⟨B, P, I, J⟩ := g
  unfold Geo.v at HS ⊢
  dsimp only at HS hpd hip hzz ⊢
  have hip0 : 0 ≤ i * P := Int.mul_nonneg (by omega) (by omega)
  obtain ⟨m, hm⟩ : ∃ m, i * P = m := ⟨_, rfl⟩
  rw [hm] at hip hip0 hpd HS
  generalize min (m + P) B = mn at HS
  have hI : 8 ≤ I ∧ I ≤ 512 := hzz.2.2.1
  have hJ : 96 ≤ J ∧ J ≤ 512 := hzz.2.2.2.1
  have hBB : 128 ≤ B ∧ B ≤ 4096 := hzz.1
  have hti : I.tdiv 2 = I / 2 := Int.tdiv_eq_ediv_of_nonneg (by omega)
  obtain ⟨t, ht⟩ : ∃ t, I / 2 = t := ⟨_, rfl⟩
  have ht0 : 0 ≤ t ∧ t ≤ 256 := by omega
  rw [ht] at hpd hti
  have HTI := Aside0.mk ht
  by_cases hi : i = 0
  ·subst hi
   simp only [if_true] at hpd
   subst hpd
   have HW := Aside0.mk (And.intro (show wrap64 (2 + J + 1) = 2 + J + 1 by unfold wrap64; omega) (And.intro (show wrap64 (2 + J + 2) = 2 + J + 2 by unfold wrap64; omega) (show wrap64 (2 + J + 2 + t) = 2 + J + 2 + t by unfold wrap64; omega)))
   have HWT := Aside0.mk (show wrap64 t = t by unfold wrap64; omega)
   clear hgood hzero hc hr hz hzz hm hip hip0 h13 hi0 hi1 ht
   go_enter Tryz.func68, Tryz.ntmps68
   go_wp2_with fail
   refine (HS.out _).mono ?_
   rintro e w1 ⟨rfl, hb1⟩
   have HB1 := Aside0.mk (below_then (HB0.out _) (HB0.out _).size hb1)
   have m2 := pw_cell_below hb1 (cell_alloc w #[.int .i64 B, .int .i64 P, .int .i64 I, .int .i64 J] 80 2 _ rfl)
   have m3 := pw_cell_below hb1 (cell_alloc w #[.int .i64 B, .int .i64 P, .int .i64 I, .int .i64 J] 80 3 _ rfl)
   clear hb1
   dsimp only
   go_wp2
   obtain ⟨hw1, hw2, hw3⟩ := HW.out
   have hw4 := HWT.out
   have hti2 := HTI.out
   refine wp_region_in [0, 0, 0, 0, 0, 0, 0, 0, 1, 0, 0, 0, 0, 0, 0, 0] [] (fun w' => w'.cell? ⟨w.heap.size, 2, none⟩ = some (.int .i64 I)) (by kernel_rfl) rfl (by kernel_rfl) (fun _ _ _ _ h => h) m2 ?_
   iterate 16 (first
    | (refine in_off0 (by rfl) ?_; simp only [Act.put, stA, stZ, stS, i64_w, i32_w])
    | (refine in_off1 (by rfl) ?_; simp only [Act.put, stA, stZ, stS, i64_w, i32_w])
    | (refine in_0 (v := ?_) (by rfl) rfl ?_ (a' := ?_) ?_ ?_; rotate_left; (intro w'; go_simp; with_reducible rfl); rotate_left; (simp only [Act.put, stA, stZ, stS, i64_w, i32_w]; rfl))
    | (refine in_1 (v := ?_) (by rfl) rfl ?_ (a' := ?_) ?_ ?_; rotate_left; (rintro w' hs; go_split_ands; go_simp; with_reducible rfl); rotate_left; (simp only [Act.put, stA, stZ, stS, i64_w, i32_w]; rfl)))
   refine in_nil ?_
   clear hw1 hw2 hw3 hw4 hti2
   go_wp2
   refine bodyPost_ret (v := .tuple #[.int .i64 (2 + J), .int .i64 (2 + J + 1), .int .i64 (2 + J + 2), .int .i64 (2 + J + 2 + t), .int .i64 0]) ?_ rfl ⟨rfl, HB1.out.drew⟩
   simp [results, Tryz.results68, go_sem]
  ·simp only [hi, if_false] at hpd
   subst hpd
   have HW := Aside0.mk (And.intro (show wrap64 (m + 1) = m + 1 by unfold wrap64; omega) (And.intro (show wrap64 (m + 2) = m + 2 by unfold wrap64; omega) (show wrap64 (m + 2 + t) = m + 2 + t by unfold wrap64; omega)))
   have HWT := Aside0.mk (show wrap64 t = t by unfold wrap64; omega)
   clear hgood hzero hc hr hz hzz hm hip hip0 h13 hi0 hi1 ht
   go_enter Tryz.func68, Tryz.ntmps68
   go_wp2_with fail
   refine (HS.out _).mono ?_
   rintro e w1 ⟨rfl, hb1⟩
   have HB1 := Aside0.mk (below_then (HB0.out _) (HB0.out _).size hb1)
   have m2 := pw_cell_below hb1 (cell_alloc w #[.int .i64 B, .int .i64 P, .int .i64 I, .int .i64 J] 80 2 _ rfl)
   clear hb1
   dsimp only
   go_wp2
   obtain ⟨hw1, hw2, hw3⟩ := HW.out
   have hw4 := HWT.out
   have hti2 := HTI.out
   refine wp_region_in [0, 0, 0, 0, 0, 0, 0, 0, 1, 0, 0, 0, 0, 0, 0, 0] [] (fun w' => w'.cell? ⟨w.heap.size, 2, none⟩ = some (.int .i64 I)) (by kernel_rfl) rfl (by kernel_rfl) (fun _ _ _ _ h => h) m2 ?_
   iterate 16 (first
    | (refine in_off0 (by rfl) ?_; simp only [Act.put, stA, stZ, stS, i64_w, i32_w])
    | (refine in_off1 (by rfl) ?_; simp only [Act.put, stA, stZ, stS, i64_w, i32_w])
    | (refine in_0 (v := ?_) (by rfl) rfl ?_ (a' := ?_) ?_ ?_; rotate_left; (intro w'; go_simp; with_reducible rfl); rotate_left; (simp only [Act.put, stA, stZ, stS, i64_w, i32_w]; rfl))
    | (refine in_1 (v := ?_) (by rfl) rfl ?_ (a' := ?_) ?_ ?_; rotate_left; (rintro w' hs; go_split_ands; go_simp; with_reducible rfl); rotate_left; (simp only [Act.put, stA, stZ, stS, i64_w, i32_w]; rfl)))
   refine in_nil ?_
   clear hw1 hw2 hw3 hw4 hti2
   go_wp2
   refine bodyPost_ret (v := .tuple #[.int .i64 m, .int .i64 (m + 1), .int .i64 (m + 2), .int .i64 (m + 2 + t), .int .i64 0]) ?_ rfl ⟨rfl, HB1.out.drew⟩
   simp [results, Tryz.results68, go_sem]
def dataI (g : Geo) : Nat → Int
 | 0 => 0
 | k + 1 => dataI g k + ((spanI g (k : Int)).2.1 - (placeI g (k : Int)).2.2.2.1)
def fixedI (g : Geo) : Int := if dataI g (groupsI g).toNat = 0 then 0 else g.blocks - dataI g (groupsI g).toNat
theorem groupsI_range (g : Geo) : 0 ≤ groupsI g ∧ groupsI g ≤ 14 := by
 unfold groupsI
 split
 ·rename_i h
  have := geoI_zero h
  have h0 : 0 ≤ (g.blocks - 1) / g.per := Int.ediv_nonneg (by omega) (by omega)
  omega
 ·omega
theorem span_place_range {g : Geo} {k : Nat} (h : (k : Int) < groupsI g) : (-10000 ≤ (spanI g (k : Int)).1 ∧ (spanI g (k : Int)).1 ≤ 10000) ∧ (-10000 ≤ (spanI g (k : Int)).2.1 ∧ (spanI g (k : Int)).2.1 ≤ 10000) ∧ (-10000 ≤ (placeI g (k : Int)).2.2.2.1 ∧ (placeI g (k : Int)).2.2.2.1 ≤ 10000) := by
 obtain ⟨hz, h13, hip⟩ := groupsI_good (g := g) (i := (k : Int)) (by omega) h
 have hzz := geoI_zero hz
 have hs : spanI g (k : Int) = ((k : Int) * g.per, min ((k : Int) * g.per + g.per) g.blocks, 0) := by
  rcases spanI_cases g (k : Int) with h' | ⟨h', _, _⟩
  ·unfold spanI at h'
   rw [if_neg (by rintro (h2 | h2) <;> omega)] at h'
   unfold spanI
   rw [if_neg (by rintro (h2 | h2) <;> omega)]
  ·exact h'
 have hp : (placeI g (k : Int)).2.2.2.1 = (if (k : Int) = 0 then 2 + g.journal else (spanI g (k : Int)).1) + 2 + g.inodes / 2 := by
  unfold placeI
  rw [if_neg (by rw [hs]; simp)]
 rw [hp, hs]
 have hm : 0 ≤ (k : Int) * g.per := Int.mul_nonneg (by omega) (by omega)
 generalize (k : Int) * g.per = m at hip hm
 dsimp only
 refine ⟨by omega, by omega, ?_⟩
 split <;> omega
theorem dataI_range {g : Geo} (k : Nat) (h : (k : Int) ≤ groupsI g) : -20000 * k ≤ dataI g k ∧ dataI g k ≤ 20000 * k := by
 induction k with
 | zero => simp [dataI]
 | succ k ih =>
  have h1 := ih (by omega)
  have h2 := span_place_range (g := g) (k := k) (by omega)
  unfold dataI
  omega
set_option maxHeartbeats 2000000 in
set_option maxRecDepth 100000 in
theorem fixed_calls (g : Geo) (w : World) : Calls Tryz.prog 159 #[g.v] w fun e w' => e = .returned (.int .i64 (fixedI g)) ∧ Below w.heap.size w w' := by
 have HG := Aside0.mk (fun (W : World) => groups_calls g W)
 have HS := Aside0.mk (fun (i : Int) (W : World) => span_calls g i W)
 have HP := Aside0.mk (fun (i : Int) (W : World) => place_calls g i W)
 have HRA := Aside0.mk (fun (k : Nat) (h : (k : Int) < groupsI g) => span_place_range h)
 have HDR := Aside0.mk (fun (k : Nat) (h : (k : Int) ≤ groupsI g) => dataI_range (g := g) k h)
 have hgr := groupsI_range g
 have hB : groupsI g ≠ 0 → 0 ≤ g.blocks ∧ g.blocks ≤ 4096 := fun h => by
  unfold groupsI at h
  split at h
  ·rename_i hz
   have := geoI_zero hz
   omega
  ·exact absurd rfl h
 obtain ⟨r, hr⟩ : ∃ r, fixedI g = r := ⟨_, rfl⟩
 obtain ⟨n, hn⟩ : ∃ n : Nat, groupsI g = n := ⟨(groupsI g).toNat, by omega⟩
 have hfx : r = if dataI g n = 0 then 0 else g.blocks - dataI g n := by rw [← hr]; unfold fixedI; rw [hn, Int.toNat_natCast]
 rw [hr]
 rw [hn] at HG HRA HDR hgr hB
 have HDS := Aside0.mk (fun k => show dataI g (k + 1) = dataI g k + ((spanI g (k : Int)).2.1 - (placeI g (k : Int)).2.2.2.1) from rfl)
 have HB0 := Aside0.mk (fun o => below_alloc (Below.refl w.heap.size w) o)
 obtain ⟨D, hD⟩ : ∃ D, dataI g = D := ⟨_, rfl⟩
 obtain ⟨S, hSd⟩ : ∃ S, spanI g = S := ⟨_, rfl⟩
 obtain ⟨L, hLd⟩ : ∃ L, placeI g = L := ⟨_, rfl⟩
 rw [hD] at hfx HDR HDS
 rw [hSd] at HS HRA HDS
 rw [hLd] at HP HRA HDS
 obtain ⟨B, P, I, J⟩ := g
 unfold Geo.v at HG HS HP ⊢
 dsimp only at HG HS HP hfx hB ⊢
 have HFX := Aside0.mk hfx
 have HBB := Aside0.mk hB
 have hD0 : D 0 = 0 := by rw [← hD]; rfl
 have HD0 := Aside0.mk hD0
 clear hfx hB hD hSd hLd hr hn hD0
 go_enter Tryz.func159, Tryz.ntmps159
 go_wp2_with fail
 refine (HG.out _).mono ?_
 rintro e w1 ⟨rfl, hb1⟩
 have HB1 := Aside0.mk (below_then (HB0.out _) (HB0.out _).size hb1)
 have HM := Aside0.mk (fun (j : Nat) (v : Value) (h : (#[.int .i64 B, .int .i64 P, .int .i64 I, .int .i64 J] : Array Value)[j]? = some v) => pw_cell_below hb1 (cell_alloc w #[.int .i64 B, .int .i64 P, .int .i64 I, .int .i64 J] 80 j v h))
 have hbs := HB1.out.size
 clear hb1
 dsimp only
 go_wp2
 have hgl : w.heap.size < w1.heap.size := World.block_lt_of_cell? w1 ⟨w.heap.size, 0, none⟩ (HM.out 0 _ rfl)
 go_loopg [3, 15] n (fun gg d i wr => ∃ k : Nat, k + gg = n ∧ d = .int .i64 (D k) ∧ i = .int .i64 k ∧ Aside0 (Below w1.heap.size w1 wr))
 case atStart => exact ⟨0, by omega, by rw [HD0.out], rfl, ⟨Below.refl _ _⟩⟩
 case round =>
  obtain ⟨k, hk, rfl, rfl, HBr⟩ := hrel
  have m0 := pw_cell_below HBr.out (HM.out 0 _ rfl)
  have m1 := pw_cell_below HBr.out (HM.out 1 _ rfl)
  have m2 := pw_cell_below HBr.out (HM.out 2 _ rfl)
  have m3 := pw_cell_below HBr.out (HM.out 3 _ rfl)
  have hdr := HDR.out k (by omega)
  cases gk with
  | zero =>
   obtain rfl : k = n := by omega
   obtain ⟨d, hd⟩ : ∃ d, D k = d := ⟨_, rfl⟩
   have hfx := HFX.out
   rw [hd] at hdr hfx ⊢
   by_cases hd0 : d = 0
   ·subst hd0
    rw [if_pos rfl] at hfx
    subst hfx
    clear hd
    go_wp2
    go_ret
    exact ⟨rfl, below_then HB1.out HB1.out.size HBr.out⟩
   ·rw [if_neg hd0] at hfx
    subst hfx
    have hkz : (k : Int) ≠ 0 := fun h => by
     have : k = 0 := by omega
     subst this
     rw [HD0.out] at hd
     exact hd0 hd.symm
    have hBr := HBB.out hkz
    have hdb : (d == 0) = false := by simpa using hd0
    clear hd hkz hd0
    go_wp2
    go_ret
    exact ⟨rfl, below_then HB1.out HB1.out.size HBr.out⟩
  | succ gg =>
   have hra := HRA.out k (by omega)
   have hds := HDS.out k
   obtain ⟨⟨s1, s2, s3⟩, hs⟩ : ∃ s, S (k : Int) = s := ⟨_, rfl⟩
   obtain ⟨⟨p1, p2, p3, p4, p5⟩, hp⟩ : ∃ p, L (k : Int) = p := ⟨_, rfl⟩
   have hsc := HS.out (k : Int)
   have hpc := HP.out (k : Int)
   rw [hs] at hsc hra hds
   rw [hp] at hpc hra hds
   dsimp only at hsc hpc hra hds
   obtain ⟨d, hd⟩ : ∃ d, D k = d := ⟨_, rfl⟩
   rw [hd] at hdr hds ⊢
   have HSC := Aside0.mk hsc
   have HPC := Aside0.mk hpc
   have HDS2 := Aside0.mk hds
   have i1 : (k : Int) < (n : Int) := by omega
   clear hsc hpc hds hs hp hd
   go_wp2_with fail
   refine (HSC.out _).mono ?_
   rintro e w2 ⟨rfl, hb2⟩
   have HB2 := Aside0.mk (below_then HBr.out HBr.out.size hb2)
   clear hb2 m0 m1 m2 m3
   have m0 := pw_cell_below HB2.out (HM.out 0 _ rfl)
   have m1 := pw_cell_below HB2.out (HM.out 1 _ rfl)
   have m2 := pw_cell_below HB2.out (HM.out 2 _ rfl)
   have m3 := pw_cell_below HB2.out (HM.out 3 _ rfl)
   dsimp only
   go_wp2_with fail
   refine (HPC.out _).mono ?_
   rintro e w3 ⟨rfl, hb3⟩
   have HB3 := Aside0.mk (below_then HB2.out HB2.out.size hb3)
   clear hb3 m0 m1 m2 m3
   dsimp only
   go_wp2
   go_roundg gg
   case measure => omega
   case rel => exact ⟨k + 1, by omega, by rw [HDS2.out], by go_num, HB3⟩
def sumI (l : List Int) : Int := l.foldl (· + ·) 0
theorem sumI_snoc (l : List Int) (k : Nat) (h : k < l.length) : sumI (l.take (k + 1)) = sumI (l.take k) + l.getD k 0 := by
 unfold sumI
 rw [List.take_succ_eq_append_getElem h, List.foldl_append]
 simp [List.getD_eq_getElem?_getD, h]
def widthsOk (l : List Int) : Prop := ∀ x ∈ l, 1 ≤ x ∧ x ≤ 8
instance (l : List Int) : Decidable (widthsOk l) := by unfold widthsOk; infer_instance
theorem widths_at {l : List Int} (h : widthsOk l) (k : Nat) (hk : k < l.length) : 1 ≤ l.getD k 0 ∧ l.getD k 0 ≤ 8 := by
 have : l.getD k 0 = l[k] := by simp [List.getD_eq_getElem?_getD, hk]
 rw [this]
 exact h _ (List.getElem_mem hk)
theorem sumI_range {l : List Int} (h : widthsOk l) (k : Nat) (hk : k ≤ l.length) : 0 ≤ sumI (l.take k) ∧ sumI (l.take k) ≤ 8 * k := by
 induction k with
 | zero => simp [sumI]
 | succ k ih =>
  have h1 := ih (by omega)
  have h2 := widths_at h k (by omega)
  rw [sumI_snoc l k (by omega)]
  omega
set_option maxHeartbeats 1000000 in
set_option maxRecDepth 100000 in
theorem whole_calls (A : Option Addr) (c : Nat) (l : List Int) (w : World) (hr : Kd.C (Kd.int .i64) w A l.length l) (hl : l.length ≤ 1000000) (hw : widthsOk l) :
  Calls Tryz.prog 192 #[.slice A l.length c] w fun e w' => e = .returned (.int .i64 (sumI l)) ∧ w = w' := by
 have HR := Aside0.mk hr
 have HW := Aside0.mk (fun k hk => widths_at hw k hk)
 have HS := Aside0.mk (fun k hk => sumI_range hw k hk)
 clear hr hw
 go_enter Tryz.func192, Tryz.ntmps192
 go_wp2
 go_loopg [3, 8] l.length (fun g x i wr => ∃ k : Nat, k + g = l.length ∧ x = .int .i64 (sumI (l.take k)) ∧ i = .int .i64 k ∧ w = wr)
 case atStart => exact ⟨0, by omega, rfl, rfl, rfl⟩
 case round =>
  obtain ⟨k, hk, rfl, rfl, rfl⟩ := hrel
  have hs := HS.out k (by omega)
  obtain ⟨y, hy⟩ : ∃ y, sumI (l.take k) = y := ⟨_, rfl⟩
  rw [hy] at hs ⊢
  have HY := Aside0.mk hy
  cases gk with
  | zero =>
   obtain rfl : k = l.length := by omega
   clear hy
   go_wp2
   go_ret
   exact ⟨by rw [← HY.out, List.take_length]; rfl, rfl⟩
  | succ g =>
   have hsn := sumI_snoc l k (by omega)
   rw [hy] at hsn
   have hx := HW.out k (by omega)
   obtain ⟨ad, rfl, hc⟩ := C_int_at HR.out k (by omega)
   generalize l.getD k 0 = x at hsn hx hc
   have HSN := Aside0.mk hsn
   have i1 : (k : Int) < (l.length : Int) := by omega
   clear hy hsn
   go_wp2
   go_roundg g
   case measure => omega
   case rel => exact ⟨k + 1, by omega, by rw [HSN.out], by go_num, rfl⟩
def superW : List Int := [4, 2, 4, 4, 4, 4, 4, 4, 4, 4, 1]
theorem superw_calls (w : World) : Calls Tryz.prog 160 #[] w fun e w' => ∃ g, e = .returned (.slice (some ⟨g, 0, none⟩) 11 11) ∧ w.heap.size ≤ g ∧ Row w' .i64 g 3 superW ∧ Below w.heap.size w w' := by
 go_enter Tryz.func160, Tryz.ntmps160
 go_wp2
 go_ret
 exact ⟨w.heap.size, rfl, Nat.le_refl _, row_last w .i64 3 superW, below_alloc (Below.refl _ _) _⟩
theorem infoU64 : (Tryz.prog.info? 163).map (fun i => (i.zero, i.size, i.bytes)) = some (some (.int .u64 0), 1, 8) := by kernel_rfl
theorem infoI64 : (Tryz.prog.info? 3).map (fun i => (i.zero, i.size, i.bytes)) = some (some (.int .i64 0), 1, 8) := by kernel_rfl
def wordsI (l : List Int) : List Int := l.map fun x => IntKind.u64.wrap x
theorem wordsI_snoc (l : List Int) (k : Nat) (h : k < l.length) : wordsI (l.take (k + 1)) = wordsI (l.take k) ++ [IntKind.u64.wrap (l.getD k 0)] := by
 unfold wordsI
 rw [List.take_succ_eq_append_getElem h, List.map_append]
 simp [List.getD_eq_getElem?_getD, h]
theorem wordsI_len (l : List Int) : (wordsI l).length = l.length := by simp [wordsI]
set_option maxHeartbeats 1000000 in
set_option maxRecDepth 100000 in
theorem numbers_calls (A : Option Addr) (c : Nat) (l : List Int) (w : World) (hr : Kd.C (Kd.int .i64) w A l.length l) (hl : l.length ≤ 1000000) :
  Calls Tryz.prog 156 #[.slice A l.length c] w fun e w' => ∃ v, e = .returned v ∧ Own w' w.heap.size 163 .u64 v (wordsI l) ∧ Below w.heap.size w w' := by
 have HR := Aside0.mk hr
 clear hr
 go_enter Tryz.func156, Tryz.ntmps156
 go_wp2
 go_loopg [3, 8] l.length (fun g v i wr => ∃ k : Nat, k + g = l.length ∧ i = .int .i64 k ∧ Aside0 (Own wr w.heap.size 163 .u64 v (wordsI (l.take k))) ∧ Aside0 (Below w.heap.size w wr))
 case atStart => exact ⟨0, by omega, rfl, ⟨own_of_nil _ _ _ _⟩, ⟨Below.refl _ _⟩⟩
 case round =>
  obtain ⟨k, hk, rfl, HO, HB⟩ := hrel
  cases gk with
  | zero =>
   obtain rfl : k = l.length := by omega
   have ho := HO.out
   rw [List.take_length] at ho
   have HO2 := Aside0.mk ho
   clear ho
   go_wp2
   go_ret
   exact ⟨_, rfl, HO2.out, HB.out⟩
  | succ g =>
   obtain ⟨ad, rfl, hc⟩ := C_int_at (Kd.C_below HR.out HB.out) k (by omega)
   have hsn := wordsI_snoc l k (by omega)
   generalize l.getD k 0 = x at hsn hc
   have HSN := Aside0.mk hsn
   have HLN := Aside0.mk (show (wordsI (l.take k)).length = k by rw [wordsI_len, List.length_take]; omega)
   have i1 : (k : Int) < (l.length : Int) := by omega
   have HOa := Aside0.mk (fun o => HO.out.below (below_alloc (Below.refl _ _) o))
   have HBa := Aside0.mk (fun o => below_alloc HB.out o)
   obtain ⟨e0, he, hz0, hz1, hz2⟩ := info_parts infoU64
   clear hsn
   go_wp2_with ((with_reducible refine gate_dst (N := 16) rfl ?_); refine wpList_append_own _ rfl (.tmp 12) (.tmp 15) 215 rfl w.heap.size 163 e0 (.int .u64 0) 1 8 Tryz.underlying215 he hz0 hz1 hz2 rfl (by decide) _ _ _ rfl (HOa.out _) ⟨wr.heap.size, 0, none⟩ 1 1 [.int .u64 (IntKind.u64.wrap x)] rfl ?c6 ?c1 ?c2 ?c3 ?c4 ?c5 ?_; (case c6 => rfl); (case c1 => (intro j u hj; rw [add_plain]; exact cell_alloc wr _ _ j u (by simpa using hj))); (case c2 => simp [Value.oneCell']); (case c3 => (rw [HLN.out]; simp only [maxLen]; omega)); (case c4 => (rw [HLN.out]; omega)); (case c5 => exact (HBa.out _).size); intro v1 w5 hown1 hgrow1 _; have HO5 := Aside0.mk (own_snoc (ys := [IntKind.u64.wrap x]) hown1 rfl rfl); have HB5 := Aside0.mk (pw_below_grown (HBa.out _) _ (HBa.out _).size hgrow1 (fun g hg => HO.out.base g hg)); clear hown1 hgrow1 hz0 hz1 hz2 he)
   go_roundg g
   case measure => omega
   case rel => exact ⟨k + 1, by omega, by go_num, ⟨by rw [HSN.out]; exact HO5.out⟩, HB5⟩
def groupW (n : Nat) : List Int := List.replicate (3 * n) 4
theorem groupW_succ (n : Nat) : groupW (n + 1) = groupW n ++ [4, 4, 4] := by
 unfold groupW
 rw [show [(4 : Int), 4, 4] = List.replicate 3 4 from rfl, List.replicate_append_replicate]
 rfl
set_option maxHeartbeats 1000000 in
set_option maxRecDepth 100000 in
theorem groupw_calls (n : Nat) (w : World) (hn : n ≤ 100000) :
  Calls Tryz.prog 158 #[.int .i64 n] w fun e w' => ∃ v, e = .returned v ∧ Own w' w.heap.size 3 .i64 v (groupW n) ∧ Below w.heap.size w w' := by
 go_enter Tryz.func158, Tryz.ntmps158
 go_wp2
 go_loopg [3, 5] n (fun g v i wr => ∃ k : Nat, k + g = n ∧ i = .int .i64 k ∧ Aside0 (Own wr w.heap.size 3 .i64 v (groupW k)) ∧ Aside0 (Below w.heap.size w wr))
 case atStart => exact ⟨0, by omega, rfl, ⟨own_of_nil _ _ _ _⟩, ⟨Below.refl _ _⟩⟩
 case round =>
  obtain ⟨k, hk, rfl, HO, HB⟩ := hrel
  cases gk with
  | zero =>
   obtain rfl : k = n := by omega
   go_wp2
   go_ret
   exact ⟨_, rfl, HO.out, HB.out⟩
  | succ g =>
   have HLN := Aside0.mk (show (groupW k).length = 3 * k by simp [groupW])
   have i1 : (k : Int) < (n : Int) := by omega
   have HOa := Aside0.mk (fun o => HO.out.below (below_alloc (Below.refl _ _) o))
   have HBa := Aside0.mk (fun o => below_alloc HB.out o)
   obtain ⟨e0, he, hz0, hz1, hz2⟩ := info_parts infoI64
   go_wp2_with ((with_reducible refine gate_dst (N := 9) rfl ?_); refine wpList_append_own _ rfl (.tmp 7) (.tmp 8) 105 rfl w.heap.size 3 e0 (.int .i64 0) 1 8 Tryz.underlying105 he hz0 hz1 hz2 rfl (by decide) _ _ _ rfl (HOa.out _) ⟨wr.heap.size, 0, none⟩ 3 3 [.int .i64 4, .int .i64 4, .int .i64 4] rfl ?c6 ?c1 ?c2 ?c3 ?c4 ?c5 ?_; (case c6 => rfl); (case c1 => (intro j u hj; rw [add_plain]; exact cell_alloc wr _ _ j u (by simpa using hj))); (case c2 => simp [Value.oneCell']); (case c3 => (rw [HLN.out]; simp only [maxLen]; omega)); (case c4 => (rw [HLN.out]; omega)); (case c5 => exact (HBa.out _).size); intro v1 w5 hown1 hgrow1 _; have HO5 := Aside0.mk (own_snoc (ys := [4, 4, 4]) hown1 rfl rfl); have HB5 := Aside0.mk (pw_below_grown (HBa.out _) _ (HBa.out _).size hgrow1 (fun g hg => HO.out.base g hg)); clear hown1 hgrow1 hz0 hz1 hz2 he)
   go_roundg g
   case measure => omega
   case rel => exact ⟨k + 1, by omega, by go_num, ⟨by rw [groupW_succ]; exact HO5.out⟩, HB5⟩
def packGo (xs ws : List Int) (z : List Int) : Nat → List Int
 | 0 => z
 | k + 1 => layL (packGo xs ws z k) (sumI (ws.take k)).toNat (xs.getD k 0) (ws.getD k 0).toNat
theorem packGo_length (xs ws z : List Int) (k : Nat) : (packGo xs ws z k).length = z.length := by
 induction k with
 | zero => rfl
 | succ k ih => unfold packGo; rw [layL_length, ih]
def packW (xs ws : List Int) (size : Nat) : List Int := packGo xs ws (List.replicate size 0) ws.length
def goesIn (xs ws : List Int) : Prop := ∀ k, k < ws.length → 0 ≤ xs.getD k 0 ∧ xs.getD k 0 < 256 ^ (ws.getD k 0).toNat
theorem sumI_all {l : List Int} (h : widthsOk l) (k : Nat) (hk : k < l.length) : sumI (l.take k) + l.getD k 0 ≤ sumI l := by
 have mono : ∀ j, j ≤ l.length → ∀ i, i ≤ j → sumI (l.take i) ≤ sumI (l.take j) := by
  intro j
  induction j with
  | zero => intro _ i hi; rw [show i = 0 by omega]; omega
  | succ j ih =>
   intro hj i hi
   by_cases e : i = j + 1
   ·rw [e]; omega
   ·have h1 := ih (by omega) i (by omega)
    rw [sumI_snoc l j (by omega)]
    have := widths_at h j (by omega)
    omega
 have h2 := mono l.length (Nat.le_refl _) (k + 1) (by omega)
 rw [List.take_length, sumI_snoc l k hk] at h2
 exact h2
theorem cell_set_same {w : World} {a : Addr} {u v : Value} (h : w.cell? a = some v) : (w.setCell a u).cell? a = some u := World.cell?_setCell_same' w a u (by rw [h]; rfl)
set_option maxHeartbeats 4000000 in
set_option maxRecDepth 100000 in
theorem pack1_fits (p0 p1 p2 p3 c d : Nat) (A B : Option Addr) (xs ws : List Int) (w : World) (h0 : w.cell? ⟨p0, 0, none⟩ = some (.slice A xs.length c)) (h1 : w.cell? ⟨p1, 0, none⟩ = some (.slice B ws.length d)) (h2 : w.cell? ⟨p2, 0, none⟩ = some (.int .i64 256)) (h3 : w.heap[p3]? = some (.cells #[.slice none 0 0] 23 (0, 0)))
  (hx : Kd.C (Kd.int .u64) w A xs.length xs) (hw : Kd.C (Kd.int .i64) w B ws.length ws) (hlen : xs.length = ws.length) (hl : ws.length ≤ 1000) (hok : widthsOk ws) (hs : sumI ws ≤ 256) (hgo : goesIn xs ws) :
  Calls Tryz.prog 191 #[.pointer (some ⟨p0, 0, none⟩), .pointer (some ⟨p1, 0, none⟩), .pointer (some ⟨p2, 0, none⟩), .pointer (some ⟨p3, 0, none⟩)] w fun e w' => e = .returned (.tuple #[]) ∧ (∃ g, w.heap.size ≤ g ∧ w'.cell? ⟨p3, 0, none⟩ = some (.slice (some ⟨g, 0, none⟩) 256 256) ∧ Row w' .u8 g 5 (packW xs ws 256)) ∧ Mod w w' (· = p3) := by
 have HX := Aside0.mk hx
 have HW := Aside0.mk hw
 have HWC := Aside0.mk (fun (W : World) (hW : W.heap = w.heap) (ho : W.os = w.os) (ht : W.tape = w.tape) (hp : W.output = w.output) => whole_calls B d ws W (hw.heap_eq hW ho ht hp) (by omega) hok)
 have HGO := Aside0.mk hgo
 have HOK := Aside0.mk hok
 have HS0 := Aside0.mk (fun k hk => sumI_range hok k hk)
 have HS1 := Aside0.mk (fun k hk => sumI_all hok k hk)
 obtain ⟨q, hq⟩ : ∃ q, sumI ws = q := ⟨_, rfl⟩
 rw [hq] at HWC hs
 have HQ := Aside0.mk hq
 rw [hlen] at h0
 have HLEN := Aside0.mk hlen
 have hmk : ∀ w : World, (Instr.makeSlice 23 (.int .i64 256) (.int .i64 256)).run Tryz.prog w = .ok (.slice (some ⟨w.heap.size, 0, none⟩) 256 256) (noughts w) := make256
 have HN := Aside0.mk (fun (W : World) => show Row (noughts W) .u8 W.heap.size 5 (List.replicate 256 0) from row_last _ _ _ _)
 have H3 := Aside0.mk h3
 clear hx hw hgo hok hq hlen h3
 go_enter Tryz.func191, Tryz.ntmps191
 go_wp2
 have hq256 : ¬ (256 : Int) < q := by omega
 refine wp_region_ord [0, 1, 2, 3, 4, 5, 6, 8, 7, 9, 10, 11, 12, 13, 14] [1, 0, 1, 0, 0, 0, 1, 1, 2, 0, 0, 0, 1, 0, 0] (fun w' => w'.cell? ⟨p0, 0, none⟩ = some (.slice A ws.length c) ∧ w'.cell? ⟨p1, 0, none⟩ = some (.slice B ws.length d) ∧ w'.cell? ⟨p2, 0, none⟩ = some (.int .i64 256)) (by kernel_rfl) rfl (by kernel_rfl) (fun _ _ _ _ h => h) ⟨h0, h1, h2⟩ ?_
 iterate 8 (first
  | (refine inQ_off0 (by rfl) (by rfl) ?_; simp only [Act.put, stA, stZ, stS, i64_w, i32_w])
  | (refine inQ_off1 (by rfl) (by rfl) ?_; simp only [Act.put, stA, stZ, stS, i64_w, i32_w])
  | (refine inQ_0 (v := ?_) (by rfl) (by rfl) rfl ?_ (a' := ?_) ?_ ?_; rotate_left; (intro w'; go_simp; with_reducible rfl); rotate_left; (simp only [Act.put, stA, stZ, stS, i64_w, i32_w]; rfl))
  | (refine inQ_1 (v := ?_) (by rfl) (by rfl) rfl ?_ (a' := ?_) ?_ ?_; rotate_left; (rintro w' hs; go_split_ands; go_simp; with_reducible rfl); rotate_left; (simp only [Act.put, stA, stZ, stS, i64_w, i32_w]; rfl)))
 refine inQ_2 (by rfl) (by rfl) (fun K hK => ?_)
 go_simp
 refine (HWC.out w.drew rfl rfl rfl rfl).mono ?_
 rintro e w3 ⟨rfl, rfl⟩
 dsimp only
 refine hK _ _ ⟨h0, h1, h2⟩ ?_
 clear hK K
 try simp only [Act.put, stA, stZ, stS, i64_w, i32_w]
 iterate 6 (first
  | (refine inQ_off0 (by rfl) (by rfl) ?_; simp only [Act.put, stA, stZ, stS, i64_w, i32_w])
  | (refine inQ_off1 (by rfl) (by rfl) ?_; simp only [Act.put, stA, stZ, stS, i64_w, i32_w])
  | (refine inQ_0 (v := ?_) (by rfl) (by rfl) rfl ?_ (a' := ?_) ?_ ?_; rotate_left; (intro w'; go_simp; with_reducible rfl); rotate_left; (simp only [Act.put, stA, stZ, stS, i64_w, i32_w]; rfl))
  | (refine inQ_1 (v := ?_) (by rfl) (by rfl) rfl ?_ (a' := ?_) ?_ ?_; rotate_left; (rintro w' hs; go_split_ands; go_simp; with_reducible rfl); rotate_left; (simp only [Act.put, stA, stZ, stS, i64_w, i32_w]; rfl)))
 refine inP_nil ?_
 have HB0 : Aside0 (Below w.heap.size w w.drew) := ⟨(Below.refl _ _).drew⟩
 have HX1 : Aside0 (Kd.C (Kd.int .u64) w.drew A xs.length xs) := ⟨Kd.C_below HX.out HB0.out⟩
 have k0 : w.drew.cell? ⟨p0, 0, none⟩ = some (.slice A ws.length c) := h0
 have k1 : w.drew.cell? ⟨p1, 0, none⟩ = some (.slice B ws.length d) := h1
 have k2 : w.drew.cell? ⟨p2, 0, none⟩ = some (.int .i64 256) := h2
 have HK0 := Aside0.mk h0
 have HK1 := Aside0.mk h1
 clear h0 h1 h2
 generalize w.drew = w1 at HB0 HX1 k0 k1 k2 ⊢
 have HB9 := Aside0.mk (show Below w1.heap.size w1 (noughts w1) from below_alloc (Below.refl _ _) _)
 have k1' := pw_cell_below HB9.out k1
 go_wp2
 have HN1 := Aside0.mk (HN.out w1)
 have HB1 := Aside0.mk (show Below w.heap.size w (noughts w1) from below_alloc HB0.out _)
 have hgs := HB0.out.size
 generalize w1.heap.size = g0 at hgs HN1 ⊢
 clear k0 k1 k2 k1' hmk HB9
 generalize noughts w1 = w2 at HN1 HB1 ⊢
 obtain ⟨z, hz⟩ : ∃ z, List.replicate 256 (0 : Int) = z := ⟨_, rfl⟩
 have hzl : z.length = 256 := by rw [← hz]; simp
 rw [hz] at HN1
 have HZ := Aside0.mk hz
 have HZL := Aside0.mk hzl
 clear hz hzl HN
 go_loopg [5, 29] ws.length (fun g a i wr => ∃ k : Nat, k + g = ws.length ∧ a = .int .i64 (sumI (ws.take k)) ∧ i = .int .i64 k ∧ Aside0 (Row wr .u8 g0 5 (packGo xs ws z k)) ∧ Aside0 (Below w.heap.size w wr))
 case atStart => exact ⟨0, by omega, rfl, rfl, HN1, HB1⟩
 case round =>
  obtain ⟨k, hk, rfl, rfl, HR, HBr⟩ := hrel
  have hs0 := HS0.out k (by omega)
  cases gk with
  | zero =>
   obtain rfl : k = ws.length := by omega
   have hp3 := HBr.out.block p3 (lt_of_obj H3.out)
   have hc3 : wr.cell? ⟨p3, 0, none⟩ = some (.slice none 0 0) := by
    rw [cell_of_row wr p3 0 _ _ _ (hp3.trans H3.out)]
    rfl
   have hz3 : wr.frozen? ⟨p3, 0, none⟩ = false := by simp [World.frozen?, hp3.trans H3.out]
   have hgp : g0 ≠ p3 := fun e => by have := lt_of_obj H3.out; omega
   have hset := cell_set_same (w := wr) (a := ⟨p3, 0, none⟩) (u := .slice (some ⟨g0, 0, none⟩) 256 256) hc3
   have HSET := Aside0.mk hset
   have HGP := Aside0.mk hgp
   clear hp3 hset hgp
   go_wp2
   go_end0
   refine ⟨rfl, ⟨g0, hgs, HSET.out, ?_⟩, (Mod.of_below HBr.out _).set_own 0 _⟩
   unfold packW
   rw [HZ.out]
   exact HR.out.mod ((Mod.refl wr (· = p3)).set_own 0 _) HGP.out
  | succ g =>
   have hkl : k < ws.length := by omega
   have hw8 := widths_at HOK.out k hkl
   have hs1 := HS1.out k hkl
   obtain ⟨hg0, hg1⟩ := HGO.out k hkl
   have hsn := sumI_snoc ws k hkl
   have hpk : packGo xs ws z (k + 1) = layL (packGo xs ws z k) (sumI (ws.take k)).toNat (xs.getD k 0) (ws.getD k 0).toNat := rfl
   have hplen := (packGo_length xs ws z k).trans HZL.out
   rw [HQ.out] at hs1
   obtain ⟨ax, rfl, hcx⟩ := C_int_at (Kd.C_below HX.out HBr.out) k (by rw [HLEN.out]; exact hkl)
   obtain ⟨aw, rfl, hcw⟩ := C_int_at (Kd.C_below HW.out HBr.out) k hkl
   have k0 := pw_cell_below HBr.out HK0.out
   obtain ⟨n, hn⟩ : ∃ n : Nat, ws.getD k 0 = n := ⟨(ws.getD k 0).toNat, by omega⟩
   obtain ⟨a, ha⟩ : ∃ a : Nat, sumI (ws.take k) = a := ⟨(sumI (ws.take k)).toNat, by omega⟩
   obtain ⟨x, hx⟩ : ∃ x, xs.getD k 0 = x := ⟨_, rfl⟩
   rw [hn] at hw8 hs1 hg1 hsn hcw hpk
   rw [ha] at hs1 hsn hpk ⊢
   rw [hx] at hg0 hg1 hcx hpk
   rw [Int.toNat_natCast] at hg1 hpk
   rw [Int.toNat_natCast] at hpk
   have hn8 : n ≤ 8 := by omega
   have hn1 : 1 ≤ n := by omega
   have han : a + n ≤ 256 := by omega
   have hx64 : x < 18446744073709551616 := Int.lt_of_lt_of_le hg1 (pow_le_u64 n hn8)
   have hfit : n = 8 ∨ (x / 2 ^ (8 * n) != 0) = false := by
    right
    have e : (2 : Int) ^ (8 * n) = 256 ^ n := by rw [Int.pow_mul]; rfl
    rw [e, Int.ediv_eq_zero_of_lt hg0 hg1]
    rfl
   have HLAY := Aside0.mk (fun (W : World) (hW : Row W .u8 g0 5 (packGo xs ws z k)) => lay_fits g0 a n (256 - a) x W _ hW hn8 (by rw [hplen]; exact han) hfit)
   rw [← hpk] at HLAY
   have HPK := Aside0.mk hpk
   have HSN := Aside0.mk hsn
   have hcut : ∀ W : World, (Instr.slice 23 (.slice (some ⟨g0, 0, none⟩) 256 256) (some (.int .i64 (a : Int))) (some (.int .i64 ((a : Int) + (n : Int)))) none).run Tryz.prog W = .ok (.slice (some ⟨g0, a, none⟩) n (256 - a)) W := by
    intro W
    obtain ⟨j0, hj, hj0, hj1, hj2⟩ := info_parts infoU8
    have := cut_mid (P := Tryz.prog) 23 5 .i64 .i64 (i := j0) rfl hj 1 hj1 (some ⟨g0, 0, none⟩) 256 256 (a : Int) ((a : Int) + (n : Int)) (by omega) (by omega) (by omega) (by omega) W
    have e0 : ((a : Nat) : Int).toNat = a := by omega
    have e1 : ((a : Int) + (n : Int)).toNat - a = n := by omega
    rw [e0, e1] at this
    rw [this, if_neg (by omega), Nat.mul_one, Option.map_some, add_plain]
   have i1 : (k : Int) < (ws.length : Int) := by omega
   have i3 : (k : Int) < (xs.length : Int) := by rw [HLEN.out]; omega
   have i4 : k < xs.length := by rw [HLEN.out]; omega
   have HWR := Aside0.mk (show wrap64 ((a : Int) + (n : Int)) = (a : Int) + (n : Int) by unfold wrap64; omega)
   have HLW := Aside0.mk (show (ws.length : Int) = (xs.length : Int) by rw [HLEN.out])
   clear hpk hsn hn ha hx hs1 hs0 hfit hg1
   go_wp2
   have hwr := HWR.out
   refine wp_region_in [0, 0, 0, 0, 0, 0, 1, 0, 0, 1, 3] [10] (fun w' => w'.cell? ⟨p0, 0, none⟩ = some (.slice (some ax) ws.length c) ∧ w'.cell? (ax.add k) = some (.int .u64 x)) (by kernel_rfl) rfl (by kernel_rfl) (fun _ _ _ _ h => h) ⟨k0, hcx⟩ ?_
   iterate 10 (first
    | (refine in_off0 (by rfl) ?_; simp only [Act.put, stA, stZ, stS, i64_w, i32_w])
    | (refine in_off1 (by rfl) ?_; simp only [Act.put, stA, stZ, stS, i64_w, i32_w])
    | (refine in_0 (v := ?_) (by rfl) rfl ?_ (a' := ?_) ?_ ?_; rotate_left; (intro w'; go_simp; with_reducible rfl); rotate_left; (simp only [Act.put, stA, stZ, stS, i64_w, i32_w]; rfl))
    | (refine in_1 (v := ?_) (by rfl) rfl ?_ (a' := ?_) ?_ ?_; rotate_left; (rintro w' hs; go_split_ands; go_simp; with_reducible rfl); rotate_left; (simp only [Act.put, stA, stZ, stS, i64_w, i32_w]; rfl)))
   refine in_3 (by rfl) (fun K hK => ?_)
   go_simp
   refine (HLAY.out wr.drew HR.out).mono ?_
   rintro e w5 ⟨rfl, hr5, hm5⟩
   dsimp only
   refine hK _ _ ?_
   have HR5 := Aside0.mk hr5
   have HB5 := Aside0.mk (below_mod HBr.out.drew hm5 hgs)
   clear hK K hwr hcut hr5 hm5 k0 hcx hcw
   try simp only [Act.put, stA, stZ, stS, i64_w, i32_w]
   refine out_nil ?_
   go_wp2
   go_roundg g
   case measure => omega
   case rel => exact ⟨k + 1, by omega, by rw [HSN.out], by go_num, HR5, HB5⟩
theorem enters_pack1 : ∀ (args : Array Value) (w : World), (callFunc 191 args).run Tryz.prog w = .ok (.enter 191 args) w := enters_of Tryz.func191 (by kernel_rfl) rfl
set_option maxHeartbeats 4000000 in
set_option maxRecDepth 100000 in
theorem wpack_calls (A B : Option Addr) (c d : Nat) (xs ws : List Int) (w : World) (hx : Kd.C (Kd.int .u64) w A xs.length xs) (hw : Kd.C (Kd.int .i64) w B ws.length ws) (hlen : xs.length = ws.length) (hl : ws.length ≤ 1000) (hok : widthsOk ws) (hs : sumI ws ≤ 256) (hgo : goesIn xs ws) :
  Calls Tryz.prog 182 #[.slice A xs.length c, .slice B ws.length d, .int .i64 256] w fun e w' => ∃ g, e = .returned (.tuple #[.slice (some ⟨g, 0, none⟩) 256 256, .int .i64 0]) ∧ w.heap.size ≤ g ∧ Row w' .u8 g 5 (packW xs ws 256) ∧ Below w.heap.size w w' := by
 have HP := Aside0.mk (fun (p0 p1 p2 p3 : Nat) (W : World) (hW : Below w.heap.size w W) (h0 : W.cell? ⟨p0, 0, none⟩ = some (.slice A xs.length c)) (h1 : W.cell? ⟨p1, 0, none⟩ = some (.slice B ws.length d)) (h2 : W.cell? ⟨p2, 0, none⟩ = some (.int .i64 256)) (h3 : W.heap[p3]? = some (.cells #[.slice none 0 0] 23 (0, 0))) => pack1_fits p0 p1 p2 p3 c d A B xs ws W h0 h1 h2 h3 (Kd.C_below hx hW) (Kd.C_below hw hW) hlen hl hok hs hgo)
 have hmf := mkfunc
 have hxl := (C_int_len hx).2
 have hwl := (C_int_len hw).2
 clear hx hw hlen hok hgo
 go_enter Tryz.func182, Tryz.ntmps182
 go_wp2_with fail
 refine (try_calls 191 _ _ (fun c' w1 => c' = 0 ∧ (∃ g, w.heap.size ≤ g ∧ w1.cell? ⟨w.heap.size + 1 + 1 + 1, 0, none⟩ = some (.slice (some ⟨g, 0, none⟩) 256 256) ∧ Row w1 .u8 g 5 (packW xs ws 256) ∧ g ≠ w.heap.size + 1 + 1 + 1 + 1) ∧ Below w.heap.size w w1 ∧ w.heap.size + 1 + 1 + 1 + 1 ≤ w1.heap.size) enters_pack1 ?_).mono ?_
 ·refine (HP.out w.heap.size (w.heap.size + 1) (w.heap.size + 1 + 1) (w.heap.size + 1 + 1 + 1) _ ?_ (by simp [go_sem]) (by simp [go_sem]) (by simp [go_sem]) ?_).mono ?_
  ·repeat (first | exact Below.refl _ _ | apply below_alloc)
  ·rw [alloc_old _ _ _ (by simp)]
   exact alloc_at _ _ _ (by simp)
  ·rintro e w1 ⟨rfl, ⟨g, hg, hc, hr⟩, hm⟩
   refine ⟨0, .inl ⟨rfl, rfl⟩, ⟨rfl, ⟨g, by simp at hg; omega, hc, hr, by simp at hg; omega⟩, ?_, ?_⟩, ?_⟩
   ·refine ((Mod.of_below ?_ (fun _ => False)).trans hm (fun i hi h => by omega)).to_below (fun _ _ h => h)
    repeat (first | exact Below.refl _ _ | apply below_alloc)
   ·have := hm.size
    simp at this
    omega
   ·exact hm.obj (alloc_last _ _) (by simp)
 ·rintro e w' ⟨cc, w1, rfl, ⟨rfl, ⟨g, hg, hc, hr, hne⟩, hb1, hsz⟩, hm2⟩
  dsimp only
  simp only [World.size_alloc] at hm2
  have hc2 := hm2.cell hc (by simp)
  have hr2 := hr.mod hm2 (by first | exact hne | omega)
  have hb2 : Below w.heap.size w w' := ((Mod.of_below hb1 (fun _ => False)).trans hm2 (fun i hi h => by omega)).to_below (fun _ _ h => h)
  have HR2 := Aside0.mk hr2
  have HB2 := Aside0.mk hb2
  clear hc hr hb1 hm2 hr2 hb2
  go_wp2
  go_ret2
  exact ⟨g, rfl, hg, HR2.out, HB2.out⟩
theorem packW_length (xs ws : List Int) (n : Nat) : (packW xs ws n).length = n := by unfold packW; rw [packGo_length]; simp
def blockI (xs ws : List Int) (s : Int) : List Int := sealL (packW xs ws 256) s
theorem blockI_length (xs ws : List Int) (s : Int) : (blockI xs ws s).length = 256 := by unfold blockI sealL; rw [layL_length, packW_length]
set_option maxHeartbeats 1000000 in
set_option maxRecDepth 100000 in
theorem lsealed_calls (A B : Option Addr) (c d : Nat) (xs ws : List Int) (s : Int) (w : World) (hx : Kd.C (Kd.int .u64) w A xs.length xs) (hw : Kd.C (Kd.int .i64) w B ws.length ws) (hlen : xs.length = ws.length) (hl : ws.length ≤ 1000) (hok : widthsOk ws) (hs : sumI ws ≤ 256) (hgo : goesIn xs ws) (hs0 : 0 ≤ s) (hs1 : s < 4294967296) :
  Calls Tryz.prog 157 #[.slice A xs.length c, .slice B ws.length d, .int .u32 s] w fun e w' => ∃ g, e = .returned (.slice (some ⟨g, 0, none⟩) 256 256) ∧ w.heap.size ≤ g ∧ Row w' .u8 g 5 (blockI xs ws s) ∧ Below w.heap.size w w' := by
 have HP := Aside0.mk (wpack_calls A B c d xs ws w hx hw hlen hl hok hs hgo)
 have hpl := packW_length xs ws 256
 have HPL := Aside0.mk hpl
 have hbi : blockI xs ws s = sealL (packW xs ws 256) s := rfl
 obtain ⟨q, hq⟩ : ∃ q, packW xs ws 256 = q := ⟨_, rfl⟩
 rw [hq] at HP HPL hbi
 have HBI := Aside0.mk hbi
 clear hx hw hlen hok hgo hpl hq hbi
 go_enter Tryz.func157, Tryz.ntmps157
 go_wp2_with fail
 refine HP.out.mono ?_
 rintro e w1 ⟨g, rfl, hg, hr, hb⟩
 have HSC := Aside0.mk (seal_calls g 252 256 s w1 q hr HPL.out (by omega) (by omega) hs0 hs1)
 have HB := Aside0.mk hb
 clear hr hb
 dsimp only
 go_wp2_with fail
 refine HSC.out.mono ?_
 rintro e w2 ⟨rfl, hr2, hm2⟩
 dsimp only
 have HR2 := Aside0.mk hr2
 have HB2 := Aside0.mk (below_mod HB.out hm2 hg)
 clear hr2 hm2
 go_wp2
 go_ret
 exact ⟨g, rfl, hg, by rw [HBI.out]; exact HR2.out, HB2.out⟩
end Go.Proofs.YtkmhilhfmfmckaaGreatDoor.Hand
namespace Go.Proofs.YtkmhilhfmfmckaaGreatDoor.Hand
set_option linter.unusedSimpArgs false
set_option linter.unusedVariables false
open Go.RowKit
theorem span_good {g : Geo} {k : Nat} (h : (k : Int) < groupsI g) : spanI g (k : Int) = ((k : Int) * g.per, min ((k : Int) * g.per + g.per) g.blocks, 0) := by
 unfold spanI
 rw [if_neg (by rintro (h2 | h2) <;> omega)]
theorem place_good {g : Geo} {k : Nat} (h : (k : Int) < groupsI g) : (placeI g (k : Int)).2.2.2.1 = (if (k : Int) = 0 then 2 + g.journal else (k : Int) * g.per) + 2 + g.inodes / 2 := by
 unfold placeI
 rw [if_neg (by rw [span_good h]; simp), span_good h]
theorem dataI_sum {g : Geo} (hz : geoI g = 0) (k : Nat) (h1 : 1 ≤ k) (hk : (k : Int) ≤ groupsI g) : dataI g k = min ((k : Int) * g.per) g.blocks - (2 + g.journal) - k * (2 + g.inodes / 2) := by
 have hzz := geoI_zero hz
 induction k with
 | zero => omega
 | succ k ih =>
  have hlt : (k : Int) < groupsI g := by omega
  have hg := (groupsI_good (g := g) (i := (k : Int)) (by omega) hlt).2.2
  unfold dataI
  rw [place_good hlt, span_good hlt]
  dsimp only
  have e1 : ((k + 1 : Nat) : Int) * g.per = (k : Int) * g.per + g.per := by rw [Int.natCast_add, Int.add_mul]; simp
  have e2 : ((k + 1 : Nat) : Int) * (2 + g.inodes / 2) = (k : Int) * (2 + g.inodes / 2) + (2 + g.inodes / 2) := by rw [Int.natCast_add, Int.add_mul]; simp
  rw [e1, e2]
  by_cases hk0 : k = 0
  ·subst hk0
   simp only [dataI]
   simp
   omega
  ·rw [ih (by omega) (by omega), if_neg (by omega)]
   generalize (k : Int) * g.per = m at hg ⊢
   generalize (k : Int) * (2 + g.inodes / 2) = t
   omega
theorem fixedI_sum {g : Geo} (hz : geoI g = 0) : fixedI g = 2 + g.journal + groupsI g * (2 + g.inodes / 2) ∧ 0 < g.blocks - fixedI g := by
 have hzz := geoI_zero hz
 obtain ⟨B, P, I, J⟩ := g
 dsimp only at hzz ⊢
 have hgr : groupsI ⟨B, P, I, J⟩ = (B - 1) / P + 1 := by unfold groupsI; rw [if_pos hz]
 have hd0 : 0 ≤ (B - 1) / P := Int.ediv_nonneg (by omega) (by omega)
 have hdm := Int.mul_ediv_add_emod (B - 1) P
 have hm1 : (B - 1) % P < P := Int.emod_lt_of_pos _ (by omega)
 obtain ⟨q, hq⟩ : ∃ q : Nat, (B - 1) / P = q := ⟨((B - 1) / P).toNat, by omega⟩
 have hsum := dataI_sum hz (q + 1) (by omega) (by rw [hgr, hq]; simp)
 dsimp only at hsum
 rw [hq] at hgr hdm hd0
 have hnP : ((q + 1 : Nat) : Int) * P = P * (q : Int) + P := by rw [Int.natCast_add, Int.add_mul, Int.mul_comm]; simp
 have hnT : ((q + 1 : Nat) : Int) * (2 + I / 2) = (q : Int) * (2 + I / 2) + (2 + I / 2) := by rw [Int.natCast_add, Int.add_mul]; simp
 rw [hnP, hnT, Int.min_eq_right (by omega)] at hsum
 have hge : (q : Int) * (5 + J + I / 2) ≤ (q : Int) * P := Int.mul_le_mul_of_nonneg_left (by omega) (by omega)
 have hex : (q : Int) * (5 + J + I / 2) = (q : Int) * (2 + I / 2) + (q : Int) * (3 + J) := by rw [← Int.mul_add]; congr 1; omega
 have hqJ : q = 0 ∨ (3 + J) ≤ (q : Int) * (3 + J) := by
  by_cases h : q = 0
  ·exact .inl h
  ·right
   have := Int.mul_le_mul_of_nonneg_right (show (1 : Int) ≤ (q : Int) by omega) (show 0 ≤ 3 + J by omega)
   omega
 have hcm : P * (q : Int) = (q : Int) * P := Int.mul_comm _ _
 have hpos : 0 < dataI ⟨B, P, I, J⟩ (q + 1) := by
  rw [hsum]
  rcases hqJ with h | h
  ·subst h
   simp at hdm hex hge ⊢
   omega
  ·omega
 have hfx : fixedI ⟨B, P, I, J⟩ = B - dataI ⟨B, P, I, J⟩ (q + 1) := by
  unfold fixedI
  rw [hgr, show ((q : Int) + 1).toNat = q + 1 by omega, if_neg (by omega)]
 rw [hfx, hgr, hsum]
 have e3 : ((q : Int) + 1) * (2 + I / 2) = (q : Int) * (2 + I / 2) + (2 + I / 2) := by rw [Int.add_mul]; simp
 rw [e3]
 rw [hsum] at hpos
 constructor <;> omega
end Go.Proofs.YtkmhilhfmfmckaaGreatDoor.Hand
