/- Own texts and printed words of the kit, put together and trimmed by a program of mine (merge.py). -/
import Derived.Test.YtkmhilhfmfmckaaGreatDoorR04
namespace Go.Proofs.YtkmhilhfmfmckaaGreatDoor.Hand
set_option linter.unusedSimpArgs false
set_option linter.unusedVariables false
open Go.Shelf Go.RowKit Go.Proofs.YtkmhilhfmfmckaaGreatDoorW.PrintWords Go.Proofs.YtkmhilhfmfmckaaGreatDoorW.PrintLast Go.Proofs.YtkmhilhfmfmckaaGreatDoorW.PrintMore
structure Sup where
 geo : Geo
 fb : Int
 fi : Int
 orp : Int
 mnt : Int
 clean : Bool
deriving DecidableEq
def Sup.cells (s : Sup) : List Value := [.int .i64 s.geo.blocks, .int .i64 s.geo.per, .int .i64 s.geo.inodes, .int .i64 s.geo.journal, .int .i64 s.fb, .int .i64 s.fi, .int .i64 s.orp, .int .i64 s.mnt, .bool s.clean]
def Sup.v (s : Sup) : Value := .agg #[.int .i64 s.geo.blocks, .int .i64 s.geo.per, .int .i64 s.geo.inodes, .int .i64 s.geo.journal, .int .i64 s.fb, .int .i64 s.fi, .int .i64 s.orp, .int .i64 s.mnt, .bool s.clean]
def Sup.nums (s : Sup) : List Int := [1213813321, 1, s.geo.blocks, s.geo.per, s.geo.inodes, s.geo.journal, s.fb, s.fi, s.orp, s.mnt, if s.clean then 1 else 0]
def supOk (s : Sup) : Bool := decide (groupsI s.geo * s.geo.inodes ≠ 0) && inI s.fb 0 (s.geo.blocks - fixedI s.geo) && inI s.fi 0 (groupsI s.geo * s.geo.inodes) && inI s.orp 0 (groupsI s.geo * s.geo.inodes) && inI s.mnt 0 2147483647
def psuperI (s : Sup) : List Int × Int := if supOk s = true then (blockI (wordsI s.nums) superW 0, 0) else ([], 22)
theorem bytesPost_good {r : List Int × Int} {w w' : World} {e : Ending} {l : List Int} {g n c : Nat} (hr : r = (l, 0)) (hl : l.length = n) (he : e = .returned (.tuple #[.slice (some ⟨g, 0, none⟩) n c, .int .i64 0])) (hg : w.heap.size ≤ g) (hc : n ≤ c) (hrow : Row w' .u8 g 5 l) (hb : Below w.heap.size w w') : BytesPost r w e w' := by
 subst hr
 subst hl
 exact ⟨_, he, hb, fun _ => ⟨g, c, rfl, hg, hc, hrow⟩, fun h => absurd rfl h⟩
theorem superW_ok : widthsOk superW := by decide
theorem superW_sum : sumI superW ≤ 256 := by decide
theorem sup_ranges {s : Sup} (h : supOk s = true) : geoI s.geo = 0 ∧ (0 ≤ s.fb ∧ s.fb < 1000000000) ∧ (0 ≤ s.fi ∧ s.fi < 1000000000) ∧ (0 ≤ s.orp ∧ s.orp < 1000000000) ∧ (0 ≤ s.mnt ∧ s.mnt < 2147483648) := by
 unfold supOk at h
 simp only [Bool.and_eq_true, decide_eq_true_eq, inI_iff] at h
 obtain ⟨⟨⟨⟨h0, h1⟩, h2⟩, h3⟩, h4⟩ := h
 have hz : geoI s.geo = 0 := by
  rcases geoI_cases s.geo with h | h
  ·exact h
  ·exact absurd (by unfold groupsI; rw [if_neg (by omega)]; simp) h0
 have hzz := geoI_zero hz
 have hgr := groupsI_range s.geo
 have hm : groupsI s.geo * s.geo.inodes ≤ 14 * 512 := Int.mul_le_mul hgr.2 hzz.2.2.1.2 (by omega) (by omega)
 have hf := fixedI_sum hz
 have hf2 : 0 ≤ groupsI s.geo * (2 + s.geo.inodes / 2) := Int.mul_nonneg hgr.1 (by omega)
 refine ⟨hz, ?_, ?_, ?_, ?_⟩ <;> omega
theorem word_id {x : Int} (h0 : 0 ≤ x) (h1 : x < 9223372036854775808) : IntKind.u64.wrap x = x := by
 simp only [IntKind.wrap, IntKind.bits, IntKind.signed]
 simp
 omega
theorem sup_goes {s : Sup} (h : supOk s = true) : goesIn (wordsI s.nums) superW := by
 obtain ⟨hz, h1, h2, h3, h4⟩ := sup_ranges h
 have hzz := geoI_zero hz
 intro k hk
 have hk : k < 11 := hk
 have e : ∀ x : Int, 0 ≤ x → x < 4294967296 → 0 ≤ IntKind.u64.wrap x ∧ IntKind.u64.wrap x < 4294967296 := fun x a b => by rw [word_id a (by omega)]; exact ⟨a, b⟩
 match k, hk with
 | 0, _ => exact e 1213813321 (by omega) (by omega)
 | 1, _ => exact (show 0 ≤ IntKind.u64.wrap 1 ∧ IntKind.u64.wrap 1 < 256 ^ 2 from by decide)
 | 2, _ => exact e _ (by omega) (by omega)
 | 3, _ => exact e _ (by omega) (by omega)
 | 4, _ => exact e _ (by omega) (by omega)
 | 5, _ => exact e _ (by omega) (by omega)
 | 6, _ => exact e _ (by omega) (by omega)
 | 7, _ => exact e _ (by omega) (by omega)
 | 8, _ => exact e _ (by omega) (by omega)
 | 9, _ => exact e _ (by omega) (by omega)
 | 10, _ =>
  show 0 ≤ IntKind.u64.wrap (if s.clean then 1 else 0) ∧ IntKind.u64.wrap (if s.clean then 1 else 0) < 256
  cases s.clean <;> decide
set_option maxHeartbeats 4000000 in
set_option maxRecDepth 100000 in
theorem psuper_calls (s : Sup) (w : World) : Calls Tryz.prog 108 #[s.v] w (BytesPost (psuperI s) w) := by
 have HG := Aside0.mk (fun (W : World) => groups_calls s.geo W)
 have HF := Aside0.mk (fun (W : World) => fixed_calls s.geo W)
 have hgo := fun h => sup_goes (s := s) h
 have hok : supOk s = (decide (groupsI s.geo * s.geo.inodes ≠ 0) && inI s.fb 0 (s.geo.blocks - fixedI s.geo) && inI s.fi 0 (groupsI s.geo * s.geo.inodes) && inI s.orp 0 (groupsI s.geo * s.geo.inodes) && inI s.mnt 0 2147483647) := rfl
 have hbad : supOk s = false → (psuperI s).2 = 22 := fun h => by unfold psuperI; rw [if_neg (by rw [h]; simp)]
 have hgood : supOk s = true → psuperI s = (blockI (wordsI s.nums) superW 0, 0) := fun h => by unfold psuperI; rw [if_pos h]
 have hw1 : ∀ a : Int, groupsI s.geo * s.geo.inodes = a → a ≠ 0 → wrap64 (groupsI s.geo * s.geo.inodes) = a ∧ wrap64 (s.geo.blocks - fixedI s.geo) = s.geo.blocks - fixedI s.geo := fun a ha hn => by
  have hz : geoI s.geo = 0 := by
   rcases geoI_cases s.geo with h | h
   ·exact h
   ·exact absurd (by rw [← ha]; unfold groupsI; rw [if_neg (by omega)]; simp) hn
  have hzz := geoI_zero hz
  have hgr := groupsI_range s.geo
  have hm : groupsI s.geo * s.geo.inodes ≤ 14 * 512 := Int.mul_le_mul hgr.2 hzz.2.2.1.2 (by omega) (by omega)
  have hm0 : 0 ≤ groupsI s.geo * s.geo.inodes := Int.mul_nonneg hgr.1 (by omega)
  have hf := fixedI_sum hz
  have hf2 : 0 ≤ groupsI s.geo * (2 + s.geo.inodes / 2) := Int.mul_nonneg hgr.1 (by omega)
  have hf3 : fixedI s.geo < s.geo.blocks := by omega
  have hf4 : 0 ≤ fixedI s.geo := by omega
  exact ⟨by unfold wrap64; omega, by unfold wrap64; omega⟩
 have hnum : s.nums = [1213813321, 1, s.geo.blocks, s.geo.per, s.geo.inodes, s.geo.journal, s.fb, s.fi, s.orp, s.mnt, if s.clean then 1 else 0] := rfl
 obtain ⟨r, hr⟩ : ∃ r, psuperI s = r := ⟨_, rfl⟩
 obtain ⟨ok, hokk⟩ : ∃ ok, supOk s = ok := ⟨_, rfl⟩
 obtain ⟨n, hn⟩ : ∃ n, groupsI s.geo = n := ⟨_, rfl⟩
 obtain ⟨f, hf⟩ : ∃ f, fixedI s.geo = f := ⟨_, rfl⟩
 obtain ⟨ns, hns⟩ : ∃ ns, s.nums = ns := ⟨_, rfl⟩
 rw [hr] at hbad hgood ⊢
 rw [hokk] at hbad hgood hok hgo
 rw [hn] at HG hok hw1
 rw [hf] at HF hok hw1
 rw [hns] at hnum hgo hgood
 obtain ⟨⟨B, P, I, J⟩, fb, fi, orp, mnt, clean⟩ := s
 unfold Sup.v
 unfold Geo.v at HG HF
 dsimp only at HG HF hok hw1 hnum ⊢
 obtain ⟨a, ha⟩ : ∃ a, n * I = a := ⟨_, rfl⟩
 have hw2 := hw1 a ha
 have HGO := Aside0.mk hgo
 have HNUM := Aside0.mk hnum
 have HGD := Aside0.mk hgood
 have HBD := Aside0.mk hbad
 rw [ha] at hok
 have HB0 := Aside0.mk (fun o1 o2 => below_alloc (below_alloc (Below.refl w.heap.size w) o1) o2)
 have haw : a = 0 → wrap64 (n * I) = 0 := fun h => by rw [ha, h]; unfold wrap64; omega
 clear hr hokk hn hf hns hnum hgo hgood hbad hw1
 by_cases ha0 : a = 0
 ·have HK := Aside0.mk (show ok = false by rw [hok, ha0]; simp)
  have HWA := Aside0.mk (haw ha0)
  clear hok hw2 haw ha
  subst ha0
  go_enter Tryz.func108, Tryz.ntmps108
  go_wp2
  have hS : ∀ w', Below (((w.alloc (.cells #[.int .i64 B, .int .i64 P, .int .i64 I, .int .i64 J, .int .i64 fb, .int .i64 fi, .int .i64 orp, .int .i64 mnt, .bool clean] 121)).alloc (.cells #[.int .i64 B, .int .i64 P, .int .i64 I, .int .i64 J] 80))).heap.size ((w.alloc (.cells #[.int .i64 B, .int .i64 P, .int .i64 I, .int .i64 J, .int .i64 fb, .int .i64 fi, .int .i64 orp, .int .i64 mnt, .bool clean] 121)).alloc (.cells #[.int .i64 B, .int .i64 P, .int .i64 I, .int .i64 J] 80)) w' → w'.cell? ⟨w.heap.size, 4, none⟩ = some (.int .i64 fb) ∧ w'.cell? ⟨w.heap.size, 5, none⟩ = some (.int .i64 fi) ∧ w'.cell? ⟨w.heap.size, 6, none⟩ = some (.int .i64 orp) ∧ w'.cell? ⟨w.heap.size, 7, none⟩ = some (.int .i64 mnt) ∧ w'.cell? ⟨w.heap.size, 8, none⟩ = some (.bool clean) ∧ w'.cell? ⟨w.heap.size + 1, 0, none⟩ = some (.int .i64 B) ∧ w'.cell? ⟨w.heap.size + 1, 1, none⟩ = some (.int .i64 P) ∧ w'.cell? ⟨w.heap.size + 1, 2, none⟩ = some (.int .i64 I) ∧ w'.cell? ⟨w.heap.size + 1, 3, none⟩ = some (.int .i64 J) := fun w' hb => by
   have ha1 := fun j v h => pw_cell_below hb (pw_cell_below (below_alloc (Below.refl _ _) _) (cell_alloc w #[.int .i64 B, .int .i64 P, .int .i64 I, .int .i64 J, .int .i64 fb, .int .i64 fi, .int .i64 orp, .int .i64 mnt, .bool clean] 121 j v h))
   have ha2 := fun j v h => pw_cell_below hb (cell_alloc (w.alloc (.cells #[.int .i64 B, .int .i64 P, .int .i64 I, .int .i64 J, .int .i64 fb, .int .i64 fi, .int .i64 orp, .int .i64 mnt, .bool clean] 121)) #[.int .i64 B, .int .i64 P, .int .i64 I, .int .i64 J] 80 j v h)
   rw [World.size_alloc] at ha2
   exact ⟨ha1 4 _ rfl, ha1 5 _ rfl, ha1 6 _ rfl, ha1 7 _ rfl, ha1 8 _ rfl, ha2 0 _ rfl, ha2 1 _ rfl, ha2 2 _ rfl, ha2 3 _ rfl⟩
  have HS := Aside0.mk hS
  have HBW := HB0.out (.cells #[.int .i64 B, .int .i64 P, .int .i64 I, .int .i64 J, .int .i64 fb, .int .i64 fi, .int .i64 orp, .int .i64 mnt, .bool clean] 121) (.cells #[.int .i64 B, .int .i64 P, .int .i64 I, .int .i64 J] 80)
  generalize (w.alloc (.cells #[.int .i64 B, .int .i64 P, .int .i64 I, .int .i64 J, .int .i64 fb, .int .i64 fi, .int .i64 orp, .int .i64 mnt, .bool clean] 121)).alloc (.cells #[.int .i64 B, .int .i64 P, .int .i64 I, .int .i64 J] 80) = W at HS HBW ⊢
  have HBW := Aside0.mk HBW
  clear hS
  refine wp_region_ord [0, 2, 3, 1, 4, 5] [1, 0, 1, 2, 0, 0] (fun w' => w'.cell? ⟨w.heap.size, 4, none⟩ = some (.int .i64 fb) ∧ w'.cell? ⟨w.heap.size, 5, none⟩ = some (.int .i64 fi) ∧ w'.cell? ⟨w.heap.size, 6, none⟩ = some (.int .i64 orp) ∧ w'.cell? ⟨w.heap.size, 7, none⟩ = some (.int .i64 mnt) ∧ w'.cell? ⟨w.heap.size, 8, none⟩ = some (.bool clean) ∧ w'.cell? ⟨w.heap.size + 1, 0, none⟩ = some (.int .i64 B) ∧ w'.cell? ⟨w.heap.size + 1, 1, none⟩ = some (.int .i64 P) ∧ w'.cell? ⟨w.heap.size + 1, 2, none⟩ = some (.int .i64 I) ∧ w'.cell? ⟨w.heap.size + 1, 3, none⟩ = some (.int .i64 J)) (by kernel_rfl) rfl (by kernel_rfl) (fun _ _ _ _ h => h) (HS.out _ (Below.refl _ _).drew) ?_
  iterate 3 (first
   | (refine inQ_off0 (by rfl) (by rfl) ?_; simp only [Act.put, stA, stZ, stS, i64_w, i32_w])
   | (refine inQ_off1 (by rfl) (by rfl) ?_; simp only [Act.put, stA, stZ, stS, i64_w, i32_w])
   | (refine inQ_0 (v := ?_) (by rfl) (by rfl) rfl ?_ (a' := ?_) ?_ ?_; rotate_left; (intro w'; go_simp; with_reducible rfl); rotate_left; (simp only [Act.put, stA, stZ, stS, i64_w, i32_w]; rfl))
   | (refine inQ_1 (v := ?_) (by rfl) (by rfl) rfl ?_ (a' := ?_) ?_ ?_; rotate_left; (rintro w' hs; go_split_ands; go_simp; with_reducible rfl); rotate_left; (simp only [Act.put, stA, stZ, stS, i64_w, i32_w]; rfl)))
  refine inP_2 (by rfl) (by rfl) (fun K hK => ?_)
  go_simp
  refine (HG.out _).mono ?_
  rintro e w1 ⟨rfl, hb1⟩
  dsimp only
  have HB1 := Aside0.mk (below_then (Below.refl W.heap.size W).drew (Nat.le_refl _) hb1)
  refine hK _ _ (HS.out _ HB1.out) ?_
  clear hK K hb1
  try simp only [Act.put, stA, stZ, stS, i64_w, i32_w]
  iterate 2 (first
   | (refine inQ_off0 (by rfl) (by rfl) ?_; simp only [Act.put, stA, stZ, stS, i64_w, i32_w])
   | (refine inQ_off1 (by rfl) (by rfl) ?_; simp only [Act.put, stA, stZ, stS, i64_w, i32_w])
   | (refine inQ_0 (v := ?_) (by rfl) (by rfl) rfl ?_ (a' := ?_) ?_ ?_; rotate_left; (intro w'; go_simp; with_reducible rfl); rotate_left; (simp only [Act.put, stA, stZ, stS, i64_w, i32_w]; rfl))
   | (refine inQ_1 (v := ?_) (by rfl) (by rfl) rfl ?_ (a' := ?_) ?_ ?_; rotate_left; (rintro w' hs; go_split_ands; go_simp; with_reducible rfl); rotate_left; (simp only [Act.put, stA, stZ, stS, i64_w, i32_w]; rfl)))
  refine inP_nil ?_
  rw [HWA.out]
  go_wp2
  refine wp_region_in [0, 0, 0, 0, 1, 0, 1, 1, 2, 0, 2, 0, 0, 0, 0, 1, 0, 2, 0, 0, 0, 0, 1, 0, 2, 0, 0, 0, 0, 1, 2, 0, 0] [] (fun w' => w'.cell? ⟨w.heap.size, 4, none⟩ = some (.int .i64 fb) ∧ w'.cell? ⟨w.heap.size, 5, none⟩ = some (.int .i64 fi) ∧ w'.cell? ⟨w.heap.size, 6, none⟩ = some (.int .i64 orp) ∧ w'.cell? ⟨w.heap.size, 7, none⟩ = some (.int .i64 mnt) ∧ w'.cell? ⟨w.heap.size, 8, none⟩ = some (.bool clean) ∧ w'.cell? ⟨w.heap.size + 1, 0, none⟩ = some (.int .i64 B) ∧ w'.cell? ⟨w.heap.size + 1, 1, none⟩ = some (.int .i64 P) ∧ w'.cell? ⟨w.heap.size + 1, 2, none⟩ = some (.int .i64 I) ∧ w'.cell? ⟨w.heap.size + 1, 3, none⟩ = some (.int .i64 J)) (by kernel_rfl) rfl (by kernel_rfl) (fun _ _ _ _ h => h) (HS.out _ HB1.out.drew) ?_
  iterate 33 (first
   | (refine in_off0 (by rfl) ?_; simp only [Act.put, stA, stZ, stS, i64_w, i32_w])
   | (refine in_off1 (by rfl) ?_; simp only [Act.put, stA, stZ, stS, i64_w, i32_w])
   | (refine in_off2 (HS.out _ HB1.out.drew) (by rfl) ?_; simp only [Act.put, stA, stZ, stS, i64_w, i32_w])
   | (refine in_0 (v := ?_) (by rfl) rfl ?_ (a' := ?_) ?_ ?_; rotate_left; (intro w'; go_simp; with_reducible rfl); rotate_left; (simp only [Act.put, stA, stZ, stS, i64_w, i32_w]; rfl))
   | (refine in_1 (v := ?_) (by rfl) rfl ?_ (a' := ?_) ?_ ?_; rotate_left; (rintro w' hs; go_split_ands; go_simp; with_reducible rfl); rotate_left; (simp only [Act.put, stA, stZ, stS, i64_w, i32_w]; rfl)))
  refine in_nil ?_
  go_wp2
  go_ret2
  exact bytesPost_bad (HBD.out HK.out) (by decide) rfl (below_then HBW.out HBW.out.size HB1.out.drew)
 ·obtain ⟨hwa, hwf⟩ := hw2 ha0
  have HWA := Aside0.mk hwa
  have HWF := Aside0.mk hwf
  have ha00 : (a == 0) = false := by rw [beq_eq_false_iff_ne]; exact ha0
  rw [show decide (a ≠ 0) = true by simp [ha0]] at hok
  clear hwa hwf hw2 haw ha ha0
  cases h0 : inI fb 0 (B - f)
  ·have HK := Aside0.mk (show ok = false by rw [hok, h0]; simp)
   clear hok
   go_enter Tryz.func108, Tryz.ntmps108
   go_wp2
   have hS : ∀ w', Below (((w.alloc (.cells #[.int .i64 B, .int .i64 P, .int .i64 I, .int .i64 J, .int .i64 fb, .int .i64 fi, .int .i64 orp, .int .i64 mnt, .bool clean] 121)).alloc (.cells #[.int .i64 B, .int .i64 P, .int .i64 I, .int .i64 J] 80))).heap.size ((w.alloc (.cells #[.int .i64 B, .int .i64 P, .int .i64 I, .int .i64 J, .int .i64 fb, .int .i64 fi, .int .i64 orp, .int .i64 mnt, .bool clean] 121)).alloc (.cells #[.int .i64 B, .int .i64 P, .int .i64 I, .int .i64 J] 80)) w' → w'.cell? ⟨w.heap.size, 4, none⟩ = some (.int .i64 fb) ∧ w'.cell? ⟨w.heap.size, 5, none⟩ = some (.int .i64 fi) ∧ w'.cell? ⟨w.heap.size, 6, none⟩ = some (.int .i64 orp) ∧ w'.cell? ⟨w.heap.size, 7, none⟩ = some (.int .i64 mnt) ∧ w'.cell? ⟨w.heap.size, 8, none⟩ = some (.bool clean) ∧ w'.cell? ⟨w.heap.size + 1, 0, none⟩ = some (.int .i64 B) ∧ w'.cell? ⟨w.heap.size + 1, 1, none⟩ = some (.int .i64 P) ∧ w'.cell? ⟨w.heap.size + 1, 2, none⟩ = some (.int .i64 I) ∧ w'.cell? ⟨w.heap.size + 1, 3, none⟩ = some (.int .i64 J) := fun w' hb => by
    have ha1 := fun j v h => pw_cell_below hb (pw_cell_below (below_alloc (Below.refl _ _) _) (cell_alloc w #[.int .i64 B, .int .i64 P, .int .i64 I, .int .i64 J, .int .i64 fb, .int .i64 fi, .int .i64 orp, .int .i64 mnt, .bool clean] 121 j v h))
    have ha2 := fun j v h => pw_cell_below hb (cell_alloc (w.alloc (.cells #[.int .i64 B, .int .i64 P, .int .i64 I, .int .i64 J, .int .i64 fb, .int .i64 fi, .int .i64 orp, .int .i64 mnt, .bool clean] 121)) #[.int .i64 B, .int .i64 P, .int .i64 I, .int .i64 J] 80 j v h)
    rw [World.size_alloc] at ha2
    exact ⟨ha1 4 _ rfl, ha1 5 _ rfl, ha1 6 _ rfl, ha1 7 _ rfl, ha1 8 _ rfl, ha2 0 _ rfl, ha2 1 _ rfl, ha2 2 _ rfl, ha2 3 _ rfl⟩
   have HS := Aside0.mk hS
   have HBW := HB0.out (.cells #[.int .i64 B, .int .i64 P, .int .i64 I, .int .i64 J, .int .i64 fb, .int .i64 fi, .int .i64 orp, .int .i64 mnt, .bool clean] 121) (.cells #[.int .i64 B, .int .i64 P, .int .i64 I, .int .i64 J] 80)
   generalize (w.alloc (.cells #[.int .i64 B, .int .i64 P, .int .i64 I, .int .i64 J, .int .i64 fb, .int .i64 fi, .int .i64 orp, .int .i64 mnt, .bool clean] 121)).alloc (.cells #[.int .i64 B, .int .i64 P, .int .i64 I, .int .i64 J] 80) = W at HS HBW ⊢
   have HBW := Aside0.mk HBW
   clear hS
   refine wp_region_ord [0, 2, 3, 1, 4, 5] [1, 0, 1, 2, 0, 0] (fun w' => w'.cell? ⟨w.heap.size, 4, none⟩ = some (.int .i64 fb) ∧ w'.cell? ⟨w.heap.size, 5, none⟩ = some (.int .i64 fi) ∧ w'.cell? ⟨w.heap.size, 6, none⟩ = some (.int .i64 orp) ∧ w'.cell? ⟨w.heap.size, 7, none⟩ = some (.int .i64 mnt) ∧ w'.cell? ⟨w.heap.size, 8, none⟩ = some (.bool clean) ∧ w'.cell? ⟨w.heap.size + 1, 0, none⟩ = some (.int .i64 B) ∧ w'.cell? ⟨w.heap.size + 1, 1, none⟩ = some (.int .i64 P) ∧ w'.cell? ⟨w.heap.size + 1, 2, none⟩ = some (.int .i64 I) ∧ w'.cell? ⟨w.heap.size + 1, 3, none⟩ = some (.int .i64 J)) (by kernel_rfl) rfl (by kernel_rfl) (fun _ _ _ _ h => h) (HS.out _ (Below.refl _ _).drew) ?_
   iterate 3 (first
    | (refine inQ_off0 (by rfl) (by rfl) ?_; simp only [Act.put, stA, stZ, stS, i64_w, i32_w])
    | (refine inQ_off1 (by rfl) (by rfl) ?_; simp only [Act.put, stA, stZ, stS, i64_w, i32_w])
    | (refine inQ_0 (v := ?_) (by rfl) (by rfl) rfl ?_ (a' := ?_) ?_ ?_; rotate_left; (intro w'; go_simp; with_reducible rfl); rotate_left; (simp only [Act.put, stA, stZ, stS, i64_w, i32_w]; rfl))
    | (refine inQ_1 (v := ?_) (by rfl) (by rfl) rfl ?_ (a' := ?_) ?_ ?_; rotate_left; (rintro w' hs; go_split_ands; go_simp; with_reducible rfl); rotate_left; (simp only [Act.put, stA, stZ, stS, i64_w, i32_w]; rfl)))
   refine inP_2 (by rfl) (by rfl) (fun K hK => ?_)
   go_simp
   refine (HG.out _).mono ?_
   rintro e w1 ⟨rfl, hb1⟩
   dsimp only
   have HB1 := Aside0.mk (below_then (Below.refl W.heap.size W).drew (Nat.le_refl _) hb1)
   refine hK _ _ (HS.out _ HB1.out) ?_
   clear hK K hb1
   try simp only [Act.put, stA, stZ, stS, i64_w, i32_w]
   iterate 2 (first
    | (refine inQ_off0 (by rfl) (by rfl) ?_; simp only [Act.put, stA, stZ, stS, i64_w, i32_w])
    | (refine inQ_off1 (by rfl) (by rfl) ?_; simp only [Act.put, stA, stZ, stS, i64_w, i32_w])
    | (refine inQ_0 (v := ?_) (by rfl) (by rfl) rfl ?_ (a' := ?_) ?_ ?_; rotate_left; (intro w'; go_simp; with_reducible rfl); rotate_left; (simp only [Act.put, stA, stZ, stS, i64_w, i32_w]; rfl))
    | (refine inQ_1 (v := ?_) (by rfl) (by rfl) rfl ?_ (a' := ?_) ?_ ?_; rotate_left; (rintro w' hs; go_split_ands; go_simp; with_reducible rfl); rotate_left; (simp only [Act.put, stA, stZ, stS, i64_w, i32_w]; rfl)))
   refine inP_nil ?_
   rw [HWA.out]
   go_wp2
   refine wp_region_in [0, 0, 0, 0, 1, 0, 1, 1, 2, 0, 2, 0, 0, 0, 0, 1, 0, 2, 0, 0, 0, 0, 1, 0, 2, 0, 0, 0, 0, 1, 2, 0, 0] [] (fun w' => w'.cell? ⟨w.heap.size, 4, none⟩ = some (.int .i64 fb) ∧ w'.cell? ⟨w.heap.size, 5, none⟩ = some (.int .i64 fi) ∧ w'.cell? ⟨w.heap.size, 6, none⟩ = some (.int .i64 orp) ∧ w'.cell? ⟨w.heap.size, 7, none⟩ = some (.int .i64 mnt) ∧ w'.cell? ⟨w.heap.size, 8, none⟩ = some (.bool clean) ∧ w'.cell? ⟨w.heap.size + 1, 0, none⟩ = some (.int .i64 B) ∧ w'.cell? ⟨w.heap.size + 1, 1, none⟩ = some (.int .i64 P) ∧ w'.cell? ⟨w.heap.size + 1, 2, none⟩ = some (.int .i64 I) ∧ w'.cell? ⟨w.heap.size + 1, 3, none⟩ = some (.int .i64 J)) (by kernel_rfl) rfl (by kernel_rfl) (fun _ _ _ _ h => h) (HS.out _ HB1.out.drew) ?_
   iterate 8 (first
    | (refine in_off0 (by rfl) ?_; simp only [Act.put, stA, stZ, stS, i64_w, i32_w])
    | (refine in_off1 (by rfl) ?_; simp only [Act.put, stA, stZ, stS, i64_w, i32_w])
    | (refine in_off2 (HS.out _ HB1.out.drew) (by rfl) ?_; simp only [Act.put, stA, stZ, stS, i64_w, i32_w])
    | (refine in_0 (v := ?_) (by rfl) rfl ?_ (a' := ?_) ?_ ?_; rotate_left; (intro w'; go_simp; with_reducible rfl); rotate_left; (simp only [Act.put, stA, stZ, stS, i64_w, i32_w]; rfl))
    | (refine in_1 (v := ?_) (by rfl) rfl ?_ (a' := ?_) ?_ ?_; rotate_left; (rintro w' hs; go_split_ands; go_simp; with_reducible rfl); rotate_left; (simp only [Act.put, stA, stZ, stS, i64_w, i32_w]; rfl)))
   refine in_2 (by rfl) (fun K hK => ?_)
   go_simp
   refine (HF.out _).mono ?_
   rintro e w2 ⟨rfl, hb2⟩
   dsimp only
   have HB2 := Aside0.mk (below_then HB1.out.drew HB1.out.drew.size hb2)
   refine hK _ _ (HS.out _ HB2.out) ?_
   clear hK K hb2
   try simp only [Act.put, stA, stZ, stS, i64_w, i32_w]
   iterate 1 (first
    | (refine in_off0 (by rfl) ?_; simp only [Act.put, stA, stZ, stS, i64_w, i32_w])
    | (refine in_off1 (by rfl) ?_; simp only [Act.put, stA, stZ, stS, i64_w, i32_w])
    | (refine in_0 (v := ?_) (by rfl) rfl ?_ (a' := ?_) ?_ ?_; rotate_left; (intro w'; go_simp; with_reducible rfl); rotate_left; (simp only [Act.put, stA, stZ, stS, i64_w, i32_w]; rfl))
    | (refine in_1 (v := ?_) (by rfl) rfl ?_ (a' := ?_) ?_ ?_; rotate_left; (rintro w' hs; go_split_ands; go_simp; with_reducible rfl); rotate_left; (simp only [Act.put, stA, stZ, stS, i64_w, i32_w]; rfl)))
   rw [HWF.out]
   have HS2 := HS.out _ HB2.out
   refine in_2 (by rfl) (fun K hK => ?_)
   go_simp
   refine (ranged_calls _ _ _ _).mono ?_
   rintro e _w ⟨rfl, rfl⟩
   dsimp only
   refine hK _ _ HS2 ?_
   clear hK K
   try simp only [Act.put, stA, stZ, stS, i64_w, i32_w]
   rw [h0]
   iterate 22 (first
    | (refine in_off0 (by rfl) ?_; simp only [Act.put, stA, stZ, stS, i64_w, i32_w])
    | (refine in_off1 (by rfl) ?_; simp only [Act.put, stA, stZ, stS, i64_w, i32_w])
    | (refine in_off2 HS2 (by rfl) ?_; simp only [Act.put, stA, stZ, stS, i64_w, i32_w])
    | (refine in_0 (v := ?_) (by rfl) rfl ?_ (a' := ?_) ?_ ?_; rotate_left; (intro w'; go_simp; with_reducible rfl); rotate_left; (simp only [Act.put, stA, stZ, stS, i64_w, i32_w]; rfl))
    | (refine in_1 (v := ?_) (by rfl) rfl ?_ (a' := ?_) ?_ ?_; rotate_left; (rintro w' hs; go_split_ands; go_simp; with_reducible rfl); rotate_left; (simp only [Act.put, stA, stZ, stS, i64_w, i32_w]; rfl)))
   refine in_nil ?_
   go_wp2
   go_ret2
   exact bytesPost_bad (HBD.out HK.out) (by decide) rfl (below_then HBW.out HBW.out.size HB2.out)
  ·have HT0 := Aside0.mk h0
   cases h1 : inI fi 0 a
   ·have HK := Aside0.mk (show ok = false by rw [hok, h0, h1]; simp)
    clear hok
    go_enter Tryz.func108, Tryz.ntmps108
    go_wp2
    have hS : ∀ w', Below (((w.alloc (.cells #[.int .i64 B, .int .i64 P, .int .i64 I, .int .i64 J, .int .i64 fb, .int .i64 fi, .int .i64 orp, .int .i64 mnt, .bool clean] 121)).alloc (.cells #[.int .i64 B, .int .i64 P, .int .i64 I, .int .i64 J] 80))).heap.size ((w.alloc (.cells #[.int .i64 B, .int .i64 P, .int .i64 I, .int .i64 J, .int .i64 fb, .int .i64 fi, .int .i64 orp, .int .i64 mnt, .bool clean] 121)).alloc (.cells #[.int .i64 B, .int .i64 P, .int .i64 I, .int .i64 J] 80)) w' → w'.cell? ⟨w.heap.size, 4, none⟩ = some (.int .i64 fb) ∧ w'.cell? ⟨w.heap.size, 5, none⟩ = some (.int .i64 fi) ∧ w'.cell? ⟨w.heap.size, 6, none⟩ = some (.int .i64 orp) ∧ w'.cell? ⟨w.heap.size, 7, none⟩ = some (.int .i64 mnt) ∧ w'.cell? ⟨w.heap.size, 8, none⟩ = some (.bool clean) ∧ w'.cell? ⟨w.heap.size + 1, 0, none⟩ = some (.int .i64 B) ∧ w'.cell? ⟨w.heap.size + 1, 1, none⟩ = some (.int .i64 P) ∧ w'.cell? ⟨w.heap.size + 1, 2, none⟩ = some (.int .i64 I) ∧ w'.cell? ⟨w.heap.size + 1, 3, none⟩ = some (.int .i64 J) := fun w' hb => by
     have ha1 := fun j v h => pw_cell_below hb (pw_cell_below (below_alloc (Below.refl _ _) _) (cell_alloc w #[.int .i64 B, .int .i64 P, .int .i64 I, .int .i64 J, .int .i64 fb, .int .i64 fi, .int .i64 orp, .int .i64 mnt, .bool clean] 121 j v h))
     have ha2 := fun j v h => pw_cell_below hb (cell_alloc (w.alloc (.cells #[.int .i64 B, .int .i64 P, .int .i64 I, .int .i64 J, .int .i64 fb, .int .i64 fi, .int .i64 orp, .int .i64 mnt, .bool clean] 121)) #[.int .i64 B, .int .i64 P, .int .i64 I, .int .i64 J] 80 j v h)
     rw [World.size_alloc] at ha2
     exact ⟨ha1 4 _ rfl, ha1 5 _ rfl, ha1 6 _ rfl, ha1 7 _ rfl, ha1 8 _ rfl, ha2 0 _ rfl, ha2 1 _ rfl, ha2 2 _ rfl, ha2 3 _ rfl⟩
    have HS := Aside0.mk hS
    have HBW := HB0.out (.cells #[.int .i64 B, .int .i64 P, .int .i64 I, .int .i64 J, .int .i64 fb, .int .i64 fi, .int .i64 orp, .int .i64 mnt, .bool clean] 121) (.cells #[.int .i64 B, .int .i64 P, .int .i64 I, .int .i64 J] 80)
    generalize (w.alloc (.cells #[.int .i64 B, .int .i64 P, .int .i64 I, .int .i64 J, .int .i64 fb, .int .i64 fi, .int .i64 orp, .int .i64 mnt, .bool clean] 121)).alloc (.cells #[.int .i64 B, .int .i64 P, .int .i64 I, .int .i64 J] 80) = W at HS HBW ⊢
    have HBW := Aside0.mk HBW
    clear hS
    refine wp_region_ord [0, 2, 3, 1, 4, 5] [1, 0, 1, 2, 0, 0] (fun w' => w'.cell? ⟨w.heap.size, 4, none⟩ = some (.int .i64 fb) ∧ w'.cell? ⟨w.heap.size, 5, none⟩ = some (.int .i64 fi) ∧ w'.cell? ⟨w.heap.size, 6, none⟩ = some (.int .i64 orp) ∧ w'.cell? ⟨w.heap.size, 7, none⟩ = some (.int .i64 mnt) ∧ w'.cell? ⟨w.heap.size, 8, none⟩ = some (.bool clean) ∧ w'.cell? ⟨w.heap.size + 1, 0, none⟩ = some (.int .i64 B) ∧ w'.cell? ⟨w.heap.size + 1, 1, none⟩ = some (.int .i64 P) ∧ w'.cell? ⟨w.heap.size + 1, 2, none⟩ = some (.int .i64 I) ∧ w'.cell? ⟨w.heap.size + 1, 3, none⟩ = some (.int .i64 J)) (by kernel_rfl) rfl (by kernel_rfl) (fun _ _ _ _ h => h) (HS.out _ (Below.refl _ _).drew) ?_
    iterate 3 (first
     | (refine inQ_off0 (by rfl) (by rfl) ?_; simp only [Act.put, stA, stZ, stS, i64_w, i32_w])
     | (refine inQ_off1 (by rfl) (by rfl) ?_; simp only [Act.put, stA, stZ, stS, i64_w, i32_w])
     | (refine inQ_0 (v := ?_) (by rfl) (by rfl) rfl ?_ (a' := ?_) ?_ ?_; rotate_left; (intro w'; go_simp; with_reducible rfl); rotate_left; (simp only [Act.put, stA, stZ, stS, i64_w, i32_w]; rfl))
     | (refine inQ_1 (v := ?_) (by rfl) (by rfl) rfl ?_ (a' := ?_) ?_ ?_; rotate_left; (rintro w' hs; go_split_ands; go_simp; with_reducible rfl); rotate_left; (simp only [Act.put, stA, stZ, stS, i64_w, i32_w]; rfl)))
    refine inP_2 (by rfl) (by rfl) (fun K hK => ?_)
    go_simp
    refine (HG.out _).mono ?_
    rintro e w1 ⟨rfl, hb1⟩
    dsimp only
    have HB1 := Aside0.mk (below_then (Below.refl W.heap.size W).drew (Nat.le_refl _) hb1)
    refine hK _ _ (HS.out _ HB1.out) ?_
    clear hK K hb1
    try simp only [Act.put, stA, stZ, stS, i64_w, i32_w]
    iterate 2 (first
     | (refine inQ_off0 (by rfl) (by rfl) ?_; simp only [Act.put, stA, stZ, stS, i64_w, i32_w])
     | (refine inQ_off1 (by rfl) (by rfl) ?_; simp only [Act.put, stA, stZ, stS, i64_w, i32_w])
     | (refine inQ_0 (v := ?_) (by rfl) (by rfl) rfl ?_ (a' := ?_) ?_ ?_; rotate_left; (intro w'; go_simp; with_reducible rfl); rotate_left; (simp only [Act.put, stA, stZ, stS, i64_w, i32_w]; rfl))
     | (refine inQ_1 (v := ?_) (by rfl) (by rfl) rfl ?_ (a' := ?_) ?_ ?_; rotate_left; (rintro w' hs; go_split_ands; go_simp; with_reducible rfl); rotate_left; (simp only [Act.put, stA, stZ, stS, i64_w, i32_w]; rfl)))
    refine inP_nil ?_
    rw [HWA.out]
    go_wp2
    refine wp_region_in [0, 0, 0, 0, 1, 0, 1, 1, 2, 0, 2, 0, 0, 0, 0, 1, 0, 2, 0, 0, 0, 0, 1, 0, 2, 0, 0, 0, 0, 1, 2, 0, 0] [] (fun w' => w'.cell? ⟨w.heap.size, 4, none⟩ = some (.int .i64 fb) ∧ w'.cell? ⟨w.heap.size, 5, none⟩ = some (.int .i64 fi) ∧ w'.cell? ⟨w.heap.size, 6, none⟩ = some (.int .i64 orp) ∧ w'.cell? ⟨w.heap.size, 7, none⟩ = some (.int .i64 mnt) ∧ w'.cell? ⟨w.heap.size, 8, none⟩ = some (.bool clean) ∧ w'.cell? ⟨w.heap.size + 1, 0, none⟩ = some (.int .i64 B) ∧ w'.cell? ⟨w.heap.size + 1, 1, none⟩ = some (.int .i64 P) ∧ w'.cell? ⟨w.heap.size + 1, 2, none⟩ = some (.int .i64 I) ∧ w'.cell? ⟨w.heap.size + 1, 3, none⟩ = some (.int .i64 J)) (by kernel_rfl) rfl (by kernel_rfl) (fun _ _ _ _ h => h) (HS.out _ HB1.out.drew) ?_
    iterate 8 (first
     | (refine in_off0 (by rfl) ?_; simp only [Act.put, stA, stZ, stS, i64_w, i32_w])
     | (refine in_off1 (by rfl) ?_; simp only [Act.put, stA, stZ, stS, i64_w, i32_w])
     | (refine in_off2 (HS.out _ HB1.out.drew) (by rfl) ?_; simp only [Act.put, stA, stZ, stS, i64_w, i32_w])
     | (refine in_0 (v := ?_) (by rfl) rfl ?_ (a' := ?_) ?_ ?_; rotate_left; (intro w'; go_simp; with_reducible rfl); rotate_left; (simp only [Act.put, stA, stZ, stS, i64_w, i32_w]; rfl))
     | (refine in_1 (v := ?_) (by rfl) rfl ?_ (a' := ?_) ?_ ?_; rotate_left; (rintro w' hs; go_split_ands; go_simp; with_reducible rfl); rotate_left; (simp only [Act.put, stA, stZ, stS, i64_w, i32_w]; rfl)))
    refine in_2 (by rfl) (fun K hK => ?_)
    go_simp
    refine (HF.out _).mono ?_
    rintro e w2 ⟨rfl, hb2⟩
    dsimp only
    have HB2 := Aside0.mk (below_then HB1.out.drew HB1.out.drew.size hb2)
    refine hK _ _ (HS.out _ HB2.out) ?_
    clear hK K hb2
    try simp only [Act.put, stA, stZ, stS, i64_w, i32_w]
    iterate 1 (first
     | (refine in_off0 (by rfl) ?_; simp only [Act.put, stA, stZ, stS, i64_w, i32_w])
     | (refine in_off1 (by rfl) ?_; simp only [Act.put, stA, stZ, stS, i64_w, i32_w])
     | (refine in_0 (v := ?_) (by rfl) rfl ?_ (a' := ?_) ?_ ?_; rotate_left; (intro w'; go_simp; with_reducible rfl); rotate_left; (simp only [Act.put, stA, stZ, stS, i64_w, i32_w]; rfl))
     | (refine in_1 (v := ?_) (by rfl) rfl ?_ (a' := ?_) ?_ ?_; rotate_left; (rintro w' hs; go_split_ands; go_simp; with_reducible rfl); rotate_left; (simp only [Act.put, stA, stZ, stS, i64_w, i32_w]; rfl)))
    rw [HWF.out]
    have HS2 := HS.out _ HB2.out
    refine in_2 (by rfl) (fun K hK => ?_)
    go_simp
    refine (ranged_calls _ _ _ _).mono ?_
    rintro e _w ⟨rfl, rfl⟩
    dsimp only
    refine hK _ _ HS2 ?_
    clear hK K
    try simp only [Act.put, stA, stZ, stS, i64_w, i32_w]
    rw [h0]
    iterate 6 (first
     | (refine in_off0 (by rfl) ?_; simp only [Act.put, stA, stZ, stS, i64_w, i32_w])
     | (refine in_off1 (by rfl) ?_; simp only [Act.put, stA, stZ, stS, i64_w, i32_w])
     | (refine in_off2 HS2 (by rfl) ?_; simp only [Act.put, stA, stZ, stS, i64_w, i32_w])
     | (refine in_0 (v := ?_) (by rfl) rfl ?_ (a' := ?_) ?_ ?_; rotate_left; (intro w'; go_simp; with_reducible rfl); rotate_left; (simp only [Act.put, stA, stZ, stS, i64_w, i32_w]; rfl))
     | (refine in_1 (v := ?_) (by rfl) rfl ?_ (a' := ?_) ?_ ?_; rotate_left; (rintro w' hs; go_split_ands; go_simp; with_reducible rfl); rotate_left; (simp only [Act.put, stA, stZ, stS, i64_w, i32_w]; rfl)))
    refine in_2 (by rfl) (fun K hK => ?_)
    go_simp
    refine (ranged_calls _ _ _ _).mono ?_
    rintro e _w ⟨rfl, rfl⟩
    dsimp only
    refine hK _ _ HS2 ?_
    clear hK K
    try simp only [Act.put, stA, stZ, stS, i64_w, i32_w]
    rw [h1]
    iterate 15 (first
     | (refine in_off0 (by rfl) ?_; simp only [Act.put, stA, stZ, stS, i64_w, i32_w])
     | (refine in_off1 (by rfl) ?_; simp only [Act.put, stA, stZ, stS, i64_w, i32_w])
     | (refine in_off2 HS2 (by rfl) ?_; simp only [Act.put, stA, stZ, stS, i64_w, i32_w])
     | (refine in_0 (v := ?_) (by rfl) rfl ?_ (a' := ?_) ?_ ?_; rotate_left; (intro w'; go_simp; with_reducible rfl); rotate_left; (simp only [Act.put, stA, stZ, stS, i64_w, i32_w]; rfl))
     | (refine in_1 (v := ?_) (by rfl) rfl ?_ (a' := ?_) ?_ ?_; rotate_left; (rintro w' hs; go_split_ands; go_simp; with_reducible rfl); rotate_left; (simp only [Act.put, stA, stZ, stS, i64_w, i32_w]; rfl)))
    refine in_nil ?_
    go_wp2
    go_ret2
    exact bytesPost_bad (HBD.out HK.out) (by decide) rfl (below_then HBW.out HBW.out.size HB2.out)
   ·have HT1 := Aside0.mk h1
    cases h2 : inI orp 0 a
    ·have HK := Aside0.mk (show ok = false by rw [hok, h0, h1, h2]; simp)
     clear hok
     go_enter Tryz.func108, Tryz.ntmps108
     go_wp2
     have hS : ∀ w', Below (((w.alloc (.cells #[.int .i64 B, .int .i64 P, .int .i64 I, .int .i64 J, .int .i64 fb, .int .i64 fi, .int .i64 orp, .int .i64 mnt, .bool clean] 121)).alloc (.cells #[.int .i64 B, .int .i64 P, .int .i64 I, .int .i64 J] 80))).heap.size ((w.alloc (.cells #[.int .i64 B, .int .i64 P, .int .i64 I, .int .i64 J, .int .i64 fb, .int .i64 fi, .int .i64 orp, .int .i64 mnt, .bool clean] 121)).alloc (.cells #[.int .i64 B, .int .i64 P, .int .i64 I, .int .i64 J] 80)) w' → w'.cell? ⟨w.heap.size, 4, none⟩ = some (.int .i64 fb) ∧ w'.cell? ⟨w.heap.size, 5, none⟩ = some (.int .i64 fi) ∧ w'.cell? ⟨w.heap.size, 6, none⟩ = some (.int .i64 orp) ∧ w'.cell? ⟨w.heap.size, 7, none⟩ = some (.int .i64 mnt) ∧ w'.cell? ⟨w.heap.size, 8, none⟩ = some (.bool clean) ∧ w'.cell? ⟨w.heap.size + 1, 0, none⟩ = some (.int .i64 B) ∧ w'.cell? ⟨w.heap.size + 1, 1, none⟩ = some (.int .i64 P) ∧ w'.cell? ⟨w.heap.size + 1, 2, none⟩ = some (.int .i64 I) ∧ w'.cell? ⟨w.heap.size + 1, 3, none⟩ = some (.int .i64 J) := fun w' hb => by
      have ha1 := fun j v h => pw_cell_below hb (pw_cell_below (below_alloc (Below.refl _ _) _) (cell_alloc w #[.int .i64 B, .int .i64 P, .int .i64 I, .int .i64 J, .int .i64 fb, .int .i64 fi, .int .i64 orp, .int .i64 mnt, .bool clean] 121 j v h))
      have ha2 := fun j v h => pw_cell_below hb (cell_alloc (w.alloc (.cells #[.int .i64 B, .int .i64 P, .int .i64 I, .int .i64 J, .int .i64 fb, .int .i64 fi, .int .i64 orp, .int .i64 mnt, .bool clean] 121)) #[.int .i64 B, .int .i64 P, .int .i64 I, .int .i64 J] 80 j v h)
      rw [World.size_alloc] at ha2
      exact ⟨ha1 4 _ rfl, ha1 5 _ rfl, ha1 6 _ rfl, ha1 7 _ rfl, ha1 8 _ rfl, ha2 0 _ rfl, ha2 1 _ rfl, ha2 2 _ rfl, ha2 3 _ rfl⟩
     have HS := Aside0.mk hS
     have HBW := HB0.out (.cells #[.int .i64 B, .int .i64 P, .int .i64 I, .int .i64 J, .int .i64 fb, .int .i64 fi, .int .i64 orp, .int .i64 mnt, .bool clean] 121) (.cells #[.int .i64 B, .int .i64 P, .int .i64 I, .int .i64 J] 80)
     generalize (w.alloc (.cells #[.int .i64 B, .int .i64 P, .int .i64 I, .int .i64 J, .int .i64 fb, .int .i64 fi, .int .i64 orp, .int .i64 mnt, .bool clean] 121)).alloc (.cells #[.int .i64 B, .int .i64 P, .int .i64 I, .int .i64 J] 80) = W at HS HBW ⊢
     have HBW := Aside0.mk HBW
     clear hS
     refine wp_region_ord [0, 2, 3, 1, 4, 5] [1, 0, 1, 2, 0, 0] (fun w' => w'.cell? ⟨w.heap.size, 4, none⟩ = some (.int .i64 fb) ∧ w'.cell? ⟨w.heap.size, 5, none⟩ = some (.int .i64 fi) ∧ w'.cell? ⟨w.heap.size, 6, none⟩ = some (.int .i64 orp) ∧ w'.cell? ⟨w.heap.size, 7, none⟩ = some (.int .i64 mnt) ∧ w'.cell? ⟨w.heap.size, 8, none⟩ = some (.bool clean) ∧ w'.cell? ⟨w.heap.size + 1, 0, none⟩ = some (.int .i64 B) ∧ w'.cell? ⟨w.heap.size + 1, 1, none⟩ = some (.int .i64 P) ∧ w'.cell? ⟨w.heap.size + 1, 2, none⟩ = some (.int .i64 I) ∧ w'.cell? ⟨w.heap.size + 1, 3, none⟩ = some (.int .i64 J)) (by kernel_rfl) rfl (by kernel_rfl) (fun _ _ _ _ h => h) (HS.out _ (Below.refl _ _).drew) ?_
     iterate 3 (first
      | (refine inQ_off0 (by rfl) (by rfl) ?_; simp only [Act.put, stA, stZ, stS, i64_w, i32_w])
      | (refine inQ_off1 (by rfl) (by rfl) ?_; simp only [Act.put, stA, stZ, stS, i64_w, i32_w])
      | (refine inQ_0 (v := ?_) (by rfl) (by rfl) rfl ?_ (a' := ?_) ?_ ?_; rotate_left; (intro w'; go_simp; with_reducible rfl); rotate_left; (simp only [Act.put, stA, stZ, stS, i64_w, i32_w]; rfl))
      | (refine inQ_1 (v := ?_) (by rfl) (by rfl) rfl ?_ (a' := ?_) ?_ ?_; rotate_left; (rintro w' hs; go_split_ands; go_simp; with_reducible rfl); rotate_left; (simp only [Act.put, stA, stZ, stS, i64_w, i32_w]; rfl)))
     refine inP_2 (by rfl) (by rfl) (fun K hK => ?_)
     go_simp
     refine (HG.out _).mono ?_
     rintro e w1 ⟨rfl, hb1⟩
     dsimp only
     have HB1 := Aside0.mk (below_then (Below.refl W.heap.size W).drew (Nat.le_refl _) hb1)
     refine hK _ _ (HS.out _ HB1.out) ?_
     clear hK K hb1
     try simp only [Act.put, stA, stZ, stS, i64_w, i32_w]
     iterate 2 (first
      | (refine inQ_off0 (by rfl) (by rfl) ?_; simp only [Act.put, stA, stZ, stS, i64_w, i32_w])
      | (refine inQ_off1 (by rfl) (by rfl) ?_; simp only [Act.put, stA, stZ, stS, i64_w, i32_w])
      | (refine inQ_0 (v := ?_) (by rfl) (by rfl) rfl ?_ (a' := ?_) ?_ ?_; rotate_left; (intro w'; go_simp; with_reducible rfl); rotate_left; (simp only [Act.put, stA, stZ, stS, i64_w, i32_w]; rfl))
      | (refine inQ_1 (v := ?_) (by rfl) (by rfl) rfl ?_ (a' := ?_) ?_ ?_; rotate_left; (rintro w' hs; go_split_ands; go_simp; with_reducible rfl); rotate_left; (simp only [Act.put, stA, stZ, stS, i64_w, i32_w]; rfl)))
     refine inP_nil ?_
     rw [HWA.out]
     go_wp2
     refine wp_region_in [0, 0, 0, 0, 1, 0, 1, 1, 2, 0, 2, 0, 0, 0, 0, 1, 0, 2, 0, 0, 0, 0, 1, 0, 2, 0, 0, 0, 0, 1, 2, 0, 0] [] (fun w' => w'.cell? ⟨w.heap.size, 4, none⟩ = some (.int .i64 fb) ∧ w'.cell? ⟨w.heap.size, 5, none⟩ = some (.int .i64 fi) ∧ w'.cell? ⟨w.heap.size, 6, none⟩ = some (.int .i64 orp) ∧ w'.cell? ⟨w.heap.size, 7, none⟩ = some (.int .i64 mnt) ∧ w'.cell? ⟨w.heap.size, 8, none⟩ = some (.bool clean) ∧ w'.cell? ⟨w.heap.size + 1, 0, none⟩ = some (.int .i64 B) ∧ w'.cell? ⟨w.heap.size + 1, 1, none⟩ = some (.int .i64 P) ∧ w'.cell? ⟨w.heap.size + 1, 2, none⟩ = some (.int .i64 I) ∧ w'.cell? ⟨w.heap.size + 1, 3, none⟩ = some (.int .i64 J)) (by kernel_rfl) rfl (by kernel_rfl) (fun _ _ _ _ h => h) (HS.out _ HB1.out.drew) ?_
     iterate 8 (first
      | (refine in_off0 (by rfl) ?_; simp only [Act.put, stA, stZ, stS, i64_w, i32_w])
      | (refine in_off1 (by rfl) ?_; simp only [Act.put, stA, stZ, stS, i64_w, i32_w])
      | (refine in_off2 (HS.out _ HB1.out.drew) (by rfl) ?_; simp only [Act.put, stA, stZ, stS, i64_w, i32_w])
      | (refine in_0 (v := ?_) (by rfl) rfl ?_ (a' := ?_) ?_ ?_; rotate_left; (intro w'; go_simp; with_reducible rfl); rotate_left; (simp only [Act.put, stA, stZ, stS, i64_w, i32_w]; rfl))
      | (refine in_1 (v := ?_) (by rfl) rfl ?_ (a' := ?_) ?_ ?_; rotate_left; (rintro w' hs; go_split_ands; go_simp; with_reducible rfl); rotate_left; (simp only [Act.put, stA, stZ, stS, i64_w, i32_w]; rfl)))
     refine in_2 (by rfl) (fun K hK => ?_)
     go_simp
     refine (HF.out _).mono ?_
     rintro e w2 ⟨rfl, hb2⟩
     dsimp only
     have HB2 := Aside0.mk (below_then HB1.out.drew HB1.out.drew.size hb2)
     refine hK _ _ (HS.out _ HB2.out) ?_
     clear hK K hb2
     try simp only [Act.put, stA, stZ, stS, i64_w, i32_w]
     iterate 1 (first
      | (refine in_off0 (by rfl) ?_; simp only [Act.put, stA, stZ, stS, i64_w, i32_w])
      | (refine in_off1 (by rfl) ?_; simp only [Act.put, stA, stZ, stS, i64_w, i32_w])
      | (refine in_0 (v := ?_) (by rfl) rfl ?_ (a' := ?_) ?_ ?_; rotate_left; (intro w'; go_simp; with_reducible rfl); rotate_left; (simp only [Act.put, stA, stZ, stS, i64_w, i32_w]; rfl))
      | (refine in_1 (v := ?_) (by rfl) rfl ?_ (a' := ?_) ?_ ?_; rotate_left; (rintro w' hs; go_split_ands; go_simp; with_reducible rfl); rotate_left; (simp only [Act.put, stA, stZ, stS, i64_w, i32_w]; rfl)))
     rw [HWF.out]
     have HS2 := HS.out _ HB2.out
     refine in_2 (by rfl) (fun K hK => ?_)
     go_simp
     refine (ranged_calls _ _ _ _).mono ?_
     rintro e _w ⟨rfl, rfl⟩
     dsimp only
     refine hK _ _ HS2 ?_
     clear hK K
     try simp only [Act.put, stA, stZ, stS, i64_w, i32_w]
     rw [h0]
     iterate 6 (first
      | (refine in_off0 (by rfl) ?_; simp only [Act.put, stA, stZ, stS, i64_w, i32_w])
      | (refine in_off1 (by rfl) ?_; simp only [Act.put, stA, stZ, stS, i64_w, i32_w])
      | (refine in_off2 HS2 (by rfl) ?_; simp only [Act.put, stA, stZ, stS, i64_w, i32_w])
      | (refine in_0 (v := ?_) (by rfl) rfl ?_ (a' := ?_) ?_ ?_; rotate_left; (intro w'; go_simp; with_reducible rfl); rotate_left; (simp only [Act.put, stA, stZ, stS, i64_w, i32_w]; rfl))
      | (refine in_1 (v := ?_) (by rfl) rfl ?_ (a' := ?_) ?_ ?_; rotate_left; (rintro w' hs; go_split_ands; go_simp; with_reducible rfl); rotate_left; (simp only [Act.put, stA, stZ, stS, i64_w, i32_w]; rfl)))
     refine in_2 (by rfl) (fun K hK => ?_)
     go_simp
     refine (ranged_calls _ _ _ _).mono ?_
     rintro e _w ⟨rfl, rfl⟩
     dsimp only
     refine hK _ _ HS2 ?_
     clear hK K
     try simp only [Act.put, stA, stZ, stS, i64_w, i32_w]
     rw [h1]
     iterate 6 (first
      | (refine in_off0 (by rfl) ?_; simp only [Act.put, stA, stZ, stS, i64_w, i32_w])
      | (refine in_off1 (by rfl) ?_; simp only [Act.put, stA, stZ, stS, i64_w, i32_w])
      | (refine in_off2 HS2 (by rfl) ?_; simp only [Act.put, stA, stZ, stS, i64_w, i32_w])
      | (refine in_0 (v := ?_) (by rfl) rfl ?_ (a' := ?_) ?_ ?_; rotate_left; (intro w'; go_simp; with_reducible rfl); rotate_left; (simp only [Act.put, stA, stZ, stS, i64_w, i32_w]; rfl))
      | (refine in_1 (v := ?_) (by rfl) rfl ?_ (a' := ?_) ?_ ?_; rotate_left; (rintro w' hs; go_split_ands; go_simp; with_reducible rfl); rotate_left; (simp only [Act.put, stA, stZ, stS, i64_w, i32_w]; rfl)))
     refine in_2 (by rfl) (fun K hK => ?_)
     go_simp
     refine (ranged_calls _ _ _ _).mono ?_
     rintro e _w ⟨rfl, rfl⟩
     dsimp only
     refine hK _ _ HS2 ?_
     clear hK K
     try simp only [Act.put, stA, stZ, stS, i64_w, i32_w]
     rw [h2]
     iterate 8 (first
      | (refine in_off0 (by rfl) ?_; simp only [Act.put, stA, stZ, stS, i64_w, i32_w])
      | (refine in_off1 (by rfl) ?_; simp only [Act.put, stA, stZ, stS, i64_w, i32_w])
      | (refine in_off2 HS2 (by rfl) ?_; simp only [Act.put, stA, stZ, stS, i64_w, i32_w])
      | (refine in_0 (v := ?_) (by rfl) rfl ?_ (a' := ?_) ?_ ?_; rotate_left; (intro w'; go_simp; with_reducible rfl); rotate_left; (simp only [Act.put, stA, stZ, stS, i64_w, i32_w]; rfl))
      | (refine in_1 (v := ?_) (by rfl) rfl ?_ (a' := ?_) ?_ ?_; rotate_left; (rintro w' hs; go_split_ands; go_simp; with_reducible rfl); rotate_left; (simp only [Act.put, stA, stZ, stS, i64_w, i32_w]; rfl)))
     refine in_nil ?_
     go_wp2
     go_ret2
     exact bytesPost_bad (HBD.out HK.out) (by decide) rfl (below_then HBW.out HBW.out.size HB2.out)
    ·have HT2 := Aside0.mk h2
     cases h3 : inI mnt 0 2147483647
     ·have HK := Aside0.mk (show ok = false by rw [hok, h0, h1, h2, h3]; simp)
      clear hok
      go_enter Tryz.func108, Tryz.ntmps108
      go_wp2
      have hS : ∀ w', Below (((w.alloc (.cells #[.int .i64 B, .int .i64 P, .int .i64 I, .int .i64 J, .int .i64 fb, .int .i64 fi, .int .i64 orp, .int .i64 mnt, .bool clean] 121)).alloc (.cells #[.int .i64 B, .int .i64 P, .int .i64 I, .int .i64 J] 80))).heap.size ((w.alloc (.cells #[.int .i64 B, .int .i64 P, .int .i64 I, .int .i64 J, .int .i64 fb, .int .i64 fi, .int .i64 orp, .int .i64 mnt, .bool clean] 121)).alloc (.cells #[.int .i64 B, .int .i64 P, .int .i64 I, .int .i64 J] 80)) w' → w'.cell? ⟨w.heap.size, 4, none⟩ = some (.int .i64 fb) ∧ w'.cell? ⟨w.heap.size, 5, none⟩ = some (.int .i64 fi) ∧ w'.cell? ⟨w.heap.size, 6, none⟩ = some (.int .i64 orp) ∧ w'.cell? ⟨w.heap.size, 7, none⟩ = some (.int .i64 mnt) ∧ w'.cell? ⟨w.heap.size, 8, none⟩ = some (.bool clean) ∧ w'.cell? ⟨w.heap.size + 1, 0, none⟩ = some (.int .i64 B) ∧ w'.cell? ⟨w.heap.size + 1, 1, none⟩ = some (.int .i64 P) ∧ w'.cell? ⟨w.heap.size + 1, 2, none⟩ = some (.int .i64 I) ∧ w'.cell? ⟨w.heap.size + 1, 3, none⟩ = some (.int .i64 J) := fun w' hb => by
       have ha1 := fun j v h => pw_cell_below hb (pw_cell_below (below_alloc (Below.refl _ _) _) (cell_alloc w #[.int .i64 B, .int .i64 P, .int .i64 I, .int .i64 J, .int .i64 fb, .int .i64 fi, .int .i64 orp, .int .i64 mnt, .bool clean] 121 j v h))
       have ha2 := fun j v h => pw_cell_below hb (cell_alloc (w.alloc (.cells #[.int .i64 B, .int .i64 P, .int .i64 I, .int .i64 J, .int .i64 fb, .int .i64 fi, .int .i64 orp, .int .i64 mnt, .bool clean] 121)) #[.int .i64 B, .int .i64 P, .int .i64 I, .int .i64 J] 80 j v h)
       rw [World.size_alloc] at ha2
       exact ⟨ha1 4 _ rfl, ha1 5 _ rfl, ha1 6 _ rfl, ha1 7 _ rfl, ha1 8 _ rfl, ha2 0 _ rfl, ha2 1 _ rfl, ha2 2 _ rfl, ha2 3 _ rfl⟩
      have HS := Aside0.mk hS
      have HBW := HB0.out (.cells #[.int .i64 B, .int .i64 P, .int .i64 I, .int .i64 J, .int .i64 fb, .int .i64 fi, .int .i64 orp, .int .i64 mnt, .bool clean] 121) (.cells #[.int .i64 B, .int .i64 P, .int .i64 I, .int .i64 J] 80)
      generalize (w.alloc (.cells #[.int .i64 B, .int .i64 P, .int .i64 I, .int .i64 J, .int .i64 fb, .int .i64 fi, .int .i64 orp, .int .i64 mnt, .bool clean] 121)).alloc (.cells #[.int .i64 B, .int .i64 P, .int .i64 I, .int .i64 J] 80) = W at HS HBW ⊢
      have HBW := Aside0.mk HBW
      clear hS
      refine wp_region_ord [0, 2, 3, 1, 4, 5] [1, 0, 1, 2, 0, 0] (fun w' => w'.cell? ⟨w.heap.size, 4, none⟩ = some (.int .i64 fb) ∧ w'.cell? ⟨w.heap.size, 5, none⟩ = some (.int .i64 fi) ∧ w'.cell? ⟨w.heap.size, 6, none⟩ = some (.int .i64 orp) ∧ w'.cell? ⟨w.heap.size, 7, none⟩ = some (.int .i64 mnt) ∧ w'.cell? ⟨w.heap.size, 8, none⟩ = some (.bool clean) ∧ w'.cell? ⟨w.heap.size + 1, 0, none⟩ = some (.int .i64 B) ∧ w'.cell? ⟨w.heap.size + 1, 1, none⟩ = some (.int .i64 P) ∧ w'.cell? ⟨w.heap.size + 1, 2, none⟩ = some (.int .i64 I) ∧ w'.cell? ⟨w.heap.size + 1, 3, none⟩ = some (.int .i64 J)) (by kernel_rfl) rfl (by kernel_rfl) (fun _ _ _ _ h => h) (HS.out _ (Below.refl _ _).drew) ?_
      iterate 3 (first
       | (refine inQ_off0 (by rfl) (by rfl) ?_; simp only [Act.put, stA, stZ, stS, i64_w, i32_w])
       | (refine inQ_off1 (by rfl) (by rfl) ?_; simp only [Act.put, stA, stZ, stS, i64_w, i32_w])
       | (refine inQ_0 (v := ?_) (by rfl) (by rfl) rfl ?_ (a' := ?_) ?_ ?_; rotate_left; (intro w'; go_simp; with_reducible rfl); rotate_left; (simp only [Act.put, stA, stZ, stS, i64_w, i32_w]; rfl))
       | (refine inQ_1 (v := ?_) (by rfl) (by rfl) rfl ?_ (a' := ?_) ?_ ?_; rotate_left; (rintro w' hs; go_split_ands; go_simp; with_reducible rfl); rotate_left; (simp only [Act.put, stA, stZ, stS, i64_w, i32_w]; rfl)))
      refine inP_2 (by rfl) (by rfl) (fun K hK => ?_)
      go_simp
      refine (HG.out _).mono ?_
      rintro e w1 ⟨rfl, hb1⟩
      dsimp only
      have HB1 := Aside0.mk (below_then (Below.refl W.heap.size W).drew (Nat.le_refl _) hb1)
      refine hK _ _ (HS.out _ HB1.out) ?_
      clear hK K hb1
      try simp only [Act.put, stA, stZ, stS, i64_w, i32_w]
      iterate 2 (first
       | (refine inQ_off0 (by rfl) (by rfl) ?_; simp only [Act.put, stA, stZ, stS, i64_w, i32_w])
       | (refine inQ_off1 (by rfl) (by rfl) ?_; simp only [Act.put, stA, stZ, stS, i64_w, i32_w])
       | (refine inQ_0 (v := ?_) (by rfl) (by rfl) rfl ?_ (a' := ?_) ?_ ?_; rotate_left; (intro w'; go_simp; with_reducible rfl); rotate_left; (simp only [Act.put, stA, stZ, stS, i64_w, i32_w]; rfl))
       | (refine inQ_1 (v := ?_) (by rfl) (by rfl) rfl ?_ (a' := ?_) ?_ ?_; rotate_left; (rintro w' hs; go_split_ands; go_simp; with_reducible rfl); rotate_left; (simp only [Act.put, stA, stZ, stS, i64_w, i32_w]; rfl)))
      refine inP_nil ?_
      rw [HWA.out]
      go_wp2
      refine wp_region_in [0, 0, 0, 0, 1, 0, 1, 1, 2, 0, 2, 0, 0, 0, 0, 1, 0, 2, 0, 0, 0, 0, 1, 0, 2, 0, 0, 0, 0, 1, 2, 0, 0] [] (fun w' => w'.cell? ⟨w.heap.size, 4, none⟩ = some (.int .i64 fb) ∧ w'.cell? ⟨w.heap.size, 5, none⟩ = some (.int .i64 fi) ∧ w'.cell? ⟨w.heap.size, 6, none⟩ = some (.int .i64 orp) ∧ w'.cell? ⟨w.heap.size, 7, none⟩ = some (.int .i64 mnt) ∧ w'.cell? ⟨w.heap.size, 8, none⟩ = some (.bool clean) ∧ w'.cell? ⟨w.heap.size + 1, 0, none⟩ = some (.int .i64 B) ∧ w'.cell? ⟨w.heap.size + 1, 1, none⟩ = some (.int .i64 P) ∧ w'.cell? ⟨w.heap.size + 1, 2, none⟩ = some (.int .i64 I) ∧ w'.cell? ⟨w.heap.size + 1, 3, none⟩ = some (.int .i64 J)) (by kernel_rfl) rfl (by kernel_rfl) (fun _ _ _ _ h => h) (HS.out _ HB1.out.drew) ?_
      iterate 8 (first
       | (refine in_off0 (by rfl) ?_; simp only [Act.put, stA, stZ, stS, i64_w, i32_w])
       | (refine in_off1 (by rfl) ?_; simp only [Act.put, stA, stZ, stS, i64_w, i32_w])
       | (refine in_off2 (HS.out _ HB1.out.drew) (by rfl) ?_; simp only [Act.put, stA, stZ, stS, i64_w, i32_w])
       | (refine in_0 (v := ?_) (by rfl) rfl ?_ (a' := ?_) ?_ ?_; rotate_left; (intro w'; go_simp; with_reducible rfl); rotate_left; (simp only [Act.put, stA, stZ, stS, i64_w, i32_w]; rfl))
       | (refine in_1 (v := ?_) (by rfl) rfl ?_ (a' := ?_) ?_ ?_; rotate_left; (rintro w' hs; go_split_ands; go_simp; with_reducible rfl); rotate_left; (simp only [Act.put, stA, stZ, stS, i64_w, i32_w]; rfl)))
      refine in_2 (by rfl) (fun K hK => ?_)
      go_simp
      refine (HF.out _).mono ?_
      rintro e w2 ⟨rfl, hb2⟩
      dsimp only
      have HB2 := Aside0.mk (below_then HB1.out.drew HB1.out.drew.size hb2)
      refine hK _ _ (HS.out _ HB2.out) ?_
      clear hK K hb2
      try simp only [Act.put, stA, stZ, stS, i64_w, i32_w]
      iterate 1 (first
       | (refine in_off0 (by rfl) ?_; simp only [Act.put, stA, stZ, stS, i64_w, i32_w])
       | (refine in_off1 (by rfl) ?_; simp only [Act.put, stA, stZ, stS, i64_w, i32_w])
       | (refine in_0 (v := ?_) (by rfl) rfl ?_ (a' := ?_) ?_ ?_; rotate_left; (intro w'; go_simp; with_reducible rfl); rotate_left; (simp only [Act.put, stA, stZ, stS, i64_w, i32_w]; rfl))
       | (refine in_1 (v := ?_) (by rfl) rfl ?_ (a' := ?_) ?_ ?_; rotate_left; (rintro w' hs; go_split_ands; go_simp; with_reducible rfl); rotate_left; (simp only [Act.put, stA, stZ, stS, i64_w, i32_w]; rfl)))
      rw [HWF.out]
      have HS2 := HS.out _ HB2.out
      refine in_2 (by rfl) (fun K hK => ?_)
      go_simp
      refine (ranged_calls _ _ _ _).mono ?_
      rintro e _w ⟨rfl, rfl⟩
      dsimp only
      refine hK _ _ HS2 ?_
      clear hK K
      try simp only [Act.put, stA, stZ, stS, i64_w, i32_w]
      rw [h0]
      iterate 6 (first
       | (refine in_off0 (by rfl) ?_; simp only [Act.put, stA, stZ, stS, i64_w, i32_w])
       | (refine in_off1 (by rfl) ?_; simp only [Act.put, stA, stZ, stS, i64_w, i32_w])
       | (refine in_off2 HS2 (by rfl) ?_; simp only [Act.put, stA, stZ, stS, i64_w, i32_w])
       | (refine in_0 (v := ?_) (by rfl) rfl ?_ (a' := ?_) ?_ ?_; rotate_left; (intro w'; go_simp; with_reducible rfl); rotate_left; (simp only [Act.put, stA, stZ, stS, i64_w, i32_w]; rfl))
       | (refine in_1 (v := ?_) (by rfl) rfl ?_ (a' := ?_) ?_ ?_; rotate_left; (rintro w' hs; go_split_ands; go_simp; with_reducible rfl); rotate_left; (simp only [Act.put, stA, stZ, stS, i64_w, i32_w]; rfl)))
      refine in_2 (by rfl) (fun K hK => ?_)
      go_simp
      refine (ranged_calls _ _ _ _).mono ?_
      rintro e _w ⟨rfl, rfl⟩
      dsimp only
      refine hK _ _ HS2 ?_
      clear hK K
      try simp only [Act.put, stA, stZ, stS, i64_w, i32_w]
      rw [h1]
      iterate 6 (first
       | (refine in_off0 (by rfl) ?_; simp only [Act.put, stA, stZ, stS, i64_w, i32_w])
       | (refine in_off1 (by rfl) ?_; simp only [Act.put, stA, stZ, stS, i64_w, i32_w])
       | (refine in_off2 HS2 (by rfl) ?_; simp only [Act.put, stA, stZ, stS, i64_w, i32_w])
       | (refine in_0 (v := ?_) (by rfl) rfl ?_ (a' := ?_) ?_ ?_; rotate_left; (intro w'; go_simp; with_reducible rfl); rotate_left; (simp only [Act.put, stA, stZ, stS, i64_w, i32_w]; rfl))
       | (refine in_1 (v := ?_) (by rfl) rfl ?_ (a' := ?_) ?_ ?_; rotate_left; (rintro w' hs; go_split_ands; go_simp; with_reducible rfl); rotate_left; (simp only [Act.put, stA, stZ, stS, i64_w, i32_w]; rfl)))
      refine in_2 (by rfl) (fun K hK => ?_)
      go_simp
      refine (ranged_calls _ _ _ _).mono ?_
      rintro e _w ⟨rfl, rfl⟩
      dsimp only
      refine hK _ _ HS2 ?_
      clear hK K
      try simp only [Act.put, stA, stZ, stS, i64_w, i32_w]
      rw [h2]
      iterate 5 (first
       | (refine in_off0 (by rfl) ?_; simp only [Act.put, stA, stZ, stS, i64_w, i32_w])
       | (refine in_off1 (by rfl) ?_; simp only [Act.put, stA, stZ, stS, i64_w, i32_w])
       | (refine in_off2 HS2 (by rfl) ?_; simp only [Act.put, stA, stZ, stS, i64_w, i32_w])
       | (refine in_0 (v := ?_) (by rfl) rfl ?_ (a' := ?_) ?_ ?_; rotate_left; (intro w'; go_simp; with_reducible rfl); rotate_left; (simp only [Act.put, stA, stZ, stS, i64_w, i32_w]; rfl))
       | (refine in_1 (v := ?_) (by rfl) rfl ?_ (a' := ?_) ?_ ?_; rotate_left; (rintro w' hs; go_split_ands; go_simp; with_reducible rfl); rotate_left; (simp only [Act.put, stA, stZ, stS, i64_w, i32_w]; rfl)))
      refine in_2 (by rfl) (fun K hK => ?_)
      go_simp
      refine (ranged_calls _ _ _ _).mono ?_
      rintro e _w ⟨rfl, rfl⟩
      dsimp only
      refine hK _ _ HS2 ?_
      clear hK K
      try simp only [Act.put, stA, stZ, stS, i64_w, i32_w]
      rw [h3]
      iterate 2 (first
       | (refine in_off0 (by rfl) ?_; simp only [Act.put, stA, stZ, stS, i64_w, i32_w])
       | (refine in_off1 (by rfl) ?_; simp only [Act.put, stA, stZ, stS, i64_w, i32_w])
       | (refine in_off2 HS2 (by rfl) ?_; simp only [Act.put, stA, stZ, stS, i64_w, i32_w])
       | (refine in_0 (v := ?_) (by rfl) rfl ?_ (a' := ?_) ?_ ?_; rotate_left; (intro w'; go_simp; with_reducible rfl); rotate_left; (simp only [Act.put, stA, stZ, stS, i64_w, i32_w]; rfl))
       | (refine in_1 (v := ?_) (by rfl) rfl ?_ (a' := ?_) ?_ ?_; rotate_left; (rintro w' hs; go_split_ands; go_simp; with_reducible rfl); rotate_left; (simp only [Act.put, stA, stZ, stS, i64_w, i32_w]; rfl)))
      refine in_nil ?_
      go_wp2
      go_ret2
      exact bytesPost_bad (HBD.out HK.out) (by decide) rfl (below_then HBW.out HBW.out.size HB2.out)
     ·have HT3 := Aside0.mk h3
      have HK := Aside0.mk (show ok = true by rw [hok, h0, h1, h2, h3]; rfl)
      clear hok
      go_enter Tryz.func108, Tryz.ntmps108
      go_wp2
      have hS : ∀ w', Below (((w.alloc (.cells #[.int .i64 B, .int .i64 P, .int .i64 I, .int .i64 J, .int .i64 fb, .int .i64 fi, .int .i64 orp, .int .i64 mnt, .bool clean] 121)).alloc (.cells #[.int .i64 B, .int .i64 P, .int .i64 I, .int .i64 J] 80))).heap.size ((w.alloc (.cells #[.int .i64 B, .int .i64 P, .int .i64 I, .int .i64 J, .int .i64 fb, .int .i64 fi, .int .i64 orp, .int .i64 mnt, .bool clean] 121)).alloc (.cells #[.int .i64 B, .int .i64 P, .int .i64 I, .int .i64 J] 80)) w' → w'.cell? ⟨w.heap.size, 4, none⟩ = some (.int .i64 fb) ∧ w'.cell? ⟨w.heap.size, 5, none⟩ = some (.int .i64 fi) ∧ w'.cell? ⟨w.heap.size, 6, none⟩ = some (.int .i64 orp) ∧ w'.cell? ⟨w.heap.size, 7, none⟩ = some (.int .i64 mnt) ∧ w'.cell? ⟨w.heap.size, 8, none⟩ = some (.bool clean) ∧ w'.cell? ⟨w.heap.size + 1, 0, none⟩ = some (.int .i64 B) ∧ w'.cell? ⟨w.heap.size + 1, 1, none⟩ = some (.int .i64 P) ∧ w'.cell? ⟨w.heap.size + 1, 2, none⟩ = some (.int .i64 I) ∧ w'.cell? ⟨w.heap.size + 1, 3, none⟩ = some (.int .i64 J) := fun w' hb => by
       have ha1 := fun j v h => pw_cell_below hb (pw_cell_below (below_alloc (Below.refl _ _) _) (cell_alloc w #[.int .i64 B, .int .i64 P, .int .i64 I, .int .i64 J, .int .i64 fb, .int .i64 fi, .int .i64 orp, .int .i64 mnt, .bool clean] 121 j v h))
       have ha2 := fun j v h => pw_cell_below hb (cell_alloc (w.alloc (.cells #[.int .i64 B, .int .i64 P, .int .i64 I, .int .i64 J, .int .i64 fb, .int .i64 fi, .int .i64 orp, .int .i64 mnt, .bool clean] 121)) #[.int .i64 B, .int .i64 P, .int .i64 I, .int .i64 J] 80 j v h)
       rw [World.size_alloc] at ha2
       exact ⟨ha1 4 _ rfl, ha1 5 _ rfl, ha1 6 _ rfl, ha1 7 _ rfl, ha1 8 _ rfl, ha2 0 _ rfl, ha2 1 _ rfl, ha2 2 _ rfl, ha2 3 _ rfl⟩
      have HS := Aside0.mk hS
      have HBW := HB0.out (.cells #[.int .i64 B, .int .i64 P, .int .i64 I, .int .i64 J, .int .i64 fb, .int .i64 fi, .int .i64 orp, .int .i64 mnt, .bool clean] 121) (.cells #[.int .i64 B, .int .i64 P, .int .i64 I, .int .i64 J] 80)
      generalize (w.alloc (.cells #[.int .i64 B, .int .i64 P, .int .i64 I, .int .i64 J, .int .i64 fb, .int .i64 fi, .int .i64 orp, .int .i64 mnt, .bool clean] 121)).alloc (.cells #[.int .i64 B, .int .i64 P, .int .i64 I, .int .i64 J] 80) = W at HS HBW ⊢
      have HBW := Aside0.mk HBW
      clear hS
      refine wp_region_ord [0, 2, 3, 1, 4, 5] [1, 0, 1, 2, 0, 0] (fun w' => w'.cell? ⟨w.heap.size, 4, none⟩ = some (.int .i64 fb) ∧ w'.cell? ⟨w.heap.size, 5, none⟩ = some (.int .i64 fi) ∧ w'.cell? ⟨w.heap.size, 6, none⟩ = some (.int .i64 orp) ∧ w'.cell? ⟨w.heap.size, 7, none⟩ = some (.int .i64 mnt) ∧ w'.cell? ⟨w.heap.size, 8, none⟩ = some (.bool clean) ∧ w'.cell? ⟨w.heap.size + 1, 0, none⟩ = some (.int .i64 B) ∧ w'.cell? ⟨w.heap.size + 1, 1, none⟩ = some (.int .i64 P) ∧ w'.cell? ⟨w.heap.size + 1, 2, none⟩ = some (.int .i64 I) ∧ w'.cell? ⟨w.heap.size + 1, 3, none⟩ = some (.int .i64 J)) (by kernel_rfl) rfl (by kernel_rfl) (fun _ _ _ _ h => h) (HS.out _ (Below.refl _ _).drew) ?_
      iterate 3 (first
       | (refine inQ_off0 (by rfl) (by rfl) ?_; simp only [Act.put, stA, stZ, stS, i64_w, i32_w])
       | (refine inQ_off1 (by rfl) (by rfl) ?_; simp only [Act.put, stA, stZ, stS, i64_w, i32_w])
       | (refine inQ_0 (v := ?_) (by rfl) (by rfl) rfl ?_ (a' := ?_) ?_ ?_; rotate_left; (intro w'; go_simp; with_reducible rfl); rotate_left; (simp only [Act.put, stA, stZ, stS, i64_w, i32_w]; rfl))
       | (refine inQ_1 (v := ?_) (by rfl) (by rfl) rfl ?_ (a' := ?_) ?_ ?_; rotate_left; (rintro w' hs; go_split_ands; go_simp; with_reducible rfl); rotate_left; (simp only [Act.put, stA, stZ, stS, i64_w, i32_w]; rfl)))
      refine inP_2 (by rfl) (by rfl) (fun K hK => ?_)
      go_simp
      refine (HG.out _).mono ?_
      rintro e w1 ⟨rfl, hb1⟩
      dsimp only
      have HB1 := Aside0.mk (below_then (Below.refl W.heap.size W).drew (Nat.le_refl _) hb1)
      refine hK _ _ (HS.out _ HB1.out) ?_
      clear hK K hb1
      try simp only [Act.put, stA, stZ, stS, i64_w, i32_w]
      iterate 2 (first
       | (refine inQ_off0 (by rfl) (by rfl) ?_; simp only [Act.put, stA, stZ, stS, i64_w, i32_w])
       | (refine inQ_off1 (by rfl) (by rfl) ?_; simp only [Act.put, stA, stZ, stS, i64_w, i32_w])
       | (refine inQ_0 (v := ?_) (by rfl) (by rfl) rfl ?_ (a' := ?_) ?_ ?_; rotate_left; (intro w'; go_simp; with_reducible rfl); rotate_left; (simp only [Act.put, stA, stZ, stS, i64_w, i32_w]; rfl))
       | (refine inQ_1 (v := ?_) (by rfl) (by rfl) rfl ?_ (a' := ?_) ?_ ?_; rotate_left; (rintro w' hs; go_split_ands; go_simp; with_reducible rfl); rotate_left; (simp only [Act.put, stA, stZ, stS, i64_w, i32_w]; rfl)))
      refine inP_nil ?_
      rw [HWA.out]
      go_wp2
      refine wp_region_in [0, 0, 0, 0, 1, 0, 1, 1, 2, 0, 2, 0, 0, 0, 0, 1, 0, 2, 0, 0, 0, 0, 1, 0, 2, 0, 0, 0, 0, 1, 2, 0, 0] [] (fun w' => w'.cell? ⟨w.heap.size, 4, none⟩ = some (.int .i64 fb) ∧ w'.cell? ⟨w.heap.size, 5, none⟩ = some (.int .i64 fi) ∧ w'.cell? ⟨w.heap.size, 6, none⟩ = some (.int .i64 orp) ∧ w'.cell? ⟨w.heap.size, 7, none⟩ = some (.int .i64 mnt) ∧ w'.cell? ⟨w.heap.size, 8, none⟩ = some (.bool clean) ∧ w'.cell? ⟨w.heap.size + 1, 0, none⟩ = some (.int .i64 B) ∧ w'.cell? ⟨w.heap.size + 1, 1, none⟩ = some (.int .i64 P) ∧ w'.cell? ⟨w.heap.size + 1, 2, none⟩ = some (.int .i64 I) ∧ w'.cell? ⟨w.heap.size + 1, 3, none⟩ = some (.int .i64 J)) (by kernel_rfl) rfl (by kernel_rfl) (fun _ _ _ _ h => h) (HS.out _ HB1.out.drew) ?_
      iterate 8 (first
       | (refine in_off0 (by rfl) ?_; simp only [Act.put, stA, stZ, stS, i64_w, i32_w])
       | (refine in_off1 (by rfl) ?_; simp only [Act.put, stA, stZ, stS, i64_w, i32_w])
       | (refine in_off2 (HS.out _ HB1.out.drew) (by rfl) ?_; simp only [Act.put, stA, stZ, stS, i64_w, i32_w])
       | (refine in_0 (v := ?_) (by rfl) rfl ?_ (a' := ?_) ?_ ?_; rotate_left; (intro w'; go_simp; with_reducible rfl); rotate_left; (simp only [Act.put, stA, stZ, stS, i64_w, i32_w]; rfl))
       | (refine in_1 (v := ?_) (by rfl) rfl ?_ (a' := ?_) ?_ ?_; rotate_left; (rintro w' hs; go_split_ands; go_simp; with_reducible rfl); rotate_left; (simp only [Act.put, stA, stZ, stS, i64_w, i32_w]; rfl)))
      refine in_2 (by rfl) (fun K hK => ?_)
      go_simp
      refine (HF.out _).mono ?_
      rintro e w2 ⟨rfl, hb2⟩
      dsimp only
      have HB2 := Aside0.mk (below_then HB1.out.drew HB1.out.drew.size hb2)
      refine hK _ _ (HS.out _ HB2.out) ?_
      clear hK K hb2
      try simp only [Act.put, stA, stZ, stS, i64_w, i32_w]
      iterate 1 (first
       | (refine in_off0 (by rfl) ?_; simp only [Act.put, stA, stZ, stS, i64_w, i32_w])
       | (refine in_off1 (by rfl) ?_; simp only [Act.put, stA, stZ, stS, i64_w, i32_w])
       | (refine in_0 (v := ?_) (by rfl) rfl ?_ (a' := ?_) ?_ ?_; rotate_left; (intro w'; go_simp; with_reducible rfl); rotate_left; (simp only [Act.put, stA, stZ, stS, i64_w, i32_w]; rfl))
       | (refine in_1 (v := ?_) (by rfl) rfl ?_ (a' := ?_) ?_ ?_; rotate_left; (rintro w' hs; go_split_ands; go_simp; with_reducible rfl); rotate_left; (simp only [Act.put, stA, stZ, stS, i64_w, i32_w]; rfl)))
      rw [HWF.out]
      have HS2 := HS.out _ HB2.out
      refine in_2 (by rfl) (fun K hK => ?_)
      go_simp
      refine (ranged_calls _ _ _ _).mono ?_
      rintro e _w ⟨rfl, rfl⟩
      dsimp only
      refine hK _ _ HS2 ?_
      clear hK K
      try simp only [Act.put, stA, stZ, stS, i64_w, i32_w]
      rw [h0]
      iterate 6 (first
       | (refine in_off0 (by rfl) ?_; simp only [Act.put, stA, stZ, stS, i64_w, i32_w])
       | (refine in_off1 (by rfl) ?_; simp only [Act.put, stA, stZ, stS, i64_w, i32_w])
       | (refine in_off2 HS2 (by rfl) ?_; simp only [Act.put, stA, stZ, stS, i64_w, i32_w])
       | (refine in_0 (v := ?_) (by rfl) rfl ?_ (a' := ?_) ?_ ?_; rotate_left; (intro w'; go_simp; with_reducible rfl); rotate_left; (simp only [Act.put, stA, stZ, stS, i64_w, i32_w]; rfl))
       | (refine in_1 (v := ?_) (by rfl) rfl ?_ (a' := ?_) ?_ ?_; rotate_left; (rintro w' hs; go_split_ands; go_simp; with_reducible rfl); rotate_left; (simp only [Act.put, stA, stZ, stS, i64_w, i32_w]; rfl)))
      refine in_2 (by rfl) (fun K hK => ?_)
      go_simp
      refine (ranged_calls _ _ _ _).mono ?_
      rintro e _w ⟨rfl, rfl⟩
      dsimp only
      refine hK _ _ HS2 ?_
      clear hK K
      try simp only [Act.put, stA, stZ, stS, i64_w, i32_w]
      rw [h1]
      iterate 6 (first
       | (refine in_off0 (by rfl) ?_; simp only [Act.put, stA, stZ, stS, i64_w, i32_w])
       | (refine in_off1 (by rfl) ?_; simp only [Act.put, stA, stZ, stS, i64_w, i32_w])
       | (refine in_off2 HS2 (by rfl) ?_; simp only [Act.put, stA, stZ, stS, i64_w, i32_w])
       | (refine in_0 (v := ?_) (by rfl) rfl ?_ (a' := ?_) ?_ ?_; rotate_left; (intro w'; go_simp; with_reducible rfl); rotate_left; (simp only [Act.put, stA, stZ, stS, i64_w, i32_w]; rfl))
       | (refine in_1 (v := ?_) (by rfl) rfl ?_ (a' := ?_) ?_ ?_; rotate_left; (rintro w' hs; go_split_ands; go_simp; with_reducible rfl); rotate_left; (simp only [Act.put, stA, stZ, stS, i64_w, i32_w]; rfl)))
      refine in_2 (by rfl) (fun K hK => ?_)
      go_simp
      refine (ranged_calls _ _ _ _).mono ?_
      rintro e _w ⟨rfl, rfl⟩
      dsimp only
      refine hK _ _ HS2 ?_
      clear hK K
      try simp only [Act.put, stA, stZ, stS, i64_w, i32_w]
      rw [h2]
      iterate 5 (first
       | (refine in_off0 (by rfl) ?_; simp only [Act.put, stA, stZ, stS, i64_w, i32_w])
       | (refine in_off1 (by rfl) ?_; simp only [Act.put, stA, stZ, stS, i64_w, i32_w])
       | (refine in_off2 HS2 (by rfl) ?_; simp only [Act.put, stA, stZ, stS, i64_w, i32_w])
       | (refine in_0 (v := ?_) (by rfl) rfl ?_ (a' := ?_) ?_ ?_; rotate_left; (intro w'; go_simp; with_reducible rfl); rotate_left; (simp only [Act.put, stA, stZ, stS, i64_w, i32_w]; rfl))
       | (refine in_1 (v := ?_) (by rfl) rfl ?_ (a' := ?_) ?_ ?_; rotate_left; (rintro w' hs; go_split_ands; go_simp; with_reducible rfl); rotate_left; (simp only [Act.put, stA, stZ, stS, i64_w, i32_w]; rfl)))
      refine in_2 (by rfl) (fun K hK => ?_)
      go_simp
      refine (ranged_calls _ _ _ _).mono ?_
      rintro e _w ⟨rfl, rfl⟩
      dsimp only
      refine hK _ _ HS2 ?_
      clear hK K
      try simp only [Act.put, stA, stZ, stS, i64_w, i32_w]
      rw [h3]
      iterate 2 (first
       | (refine in_off0 (by rfl) ?_; simp only [Act.put, stA, stZ, stS, i64_w, i32_w])
       | (refine in_off1 (by rfl) ?_; simp only [Act.put, stA, stZ, stS, i64_w, i32_w])
       | (refine in_off2 HS2 (by rfl) ?_; simp only [Act.put, stA, stZ, stS, i64_w, i32_w])
       | (refine in_0 (v := ?_) (by rfl) rfl ?_ (a' := ?_) ?_ ?_; rotate_left; (intro w'; go_simp; with_reducible rfl); rotate_left; (simp only [Act.put, stA, stZ, stS, i64_w, i32_w]; rfl))
       | (refine in_1 (v := ?_) (by rfl) rfl ?_ (a' := ?_) ?_ ?_; rotate_left; (rintro w' hs; go_split_ands; go_simp; with_reducible rfl); rotate_left; (simp only [Act.put, stA, stZ, stS, i64_w, i32_w]; rfl)))
      refine in_nil ?_
      clear HS2
      obtain ⟨c4, c5, c6, c7, c8, d0, d1, d2, d3⟩ := HS.out _ HB2.out
      cases clean
      ·have hN1 : ns = [1213813321, 1, B, P, I, J, fb, fi, orp, mnt, 0] := HNUM.out
       have hrow := row_last w2 .i64 3 [1213813321, 1, B, P, I, J, fb, fi, orp, mnt, 0]
       have HR := Aside0.mk (hrow.reads (by simp))
       have HBA := Aside0.mk (below_alloc HB2.out (.cells (nums .i64 [1213813321, 1, B, P, I, J, fb, fi, orp, mnt, 0]).toArray 3))
       clear hrow
       go_wp2_with fail
       refine (numbers_calls (some ⟨w2.heap.size, 0, none⟩) 11 [1213813321, 1, B, P, I, J, fb, fi, orp, mnt, 0] _ HR.out (by simp)).mono ?_
       rintro e w3 ⟨v3, rfl, ho3, hb3⟩
       rw [← hN1] at ho3
       obtain ⟨A3, c3, rfl, hc3, hk3⟩ := ho3.reads
       have HB3 := Aside0.mk (below_then HBA.out HBA.out.size hb3)
       have HK3 := Aside0.mk hk3
       have HGO1 := Aside0.mk (HGO.out HK.out)
       have HGD1 := Aside0.mk (HGD.out HK.out)
       have hln : (wordsI ns).length = 11 := by rw [wordsI_len, hN1]; rfl
       have HLN := Aside0.mk hln
       clear ho3 hb3 hk3 hN1 hln HR HBA c4 c5 c6 c7 c8 d0 d1 d2 d3
       dsimp only
       go_wp2_with fail
       refine (superw_calls _).mono ?_
       rintro e w4 ⟨g4, rfl, hg4, hr4, hb4⟩
       have HB4 := Aside0.mk (below_then HB3.out HB3.out.size hb4)
       have HSE := Aside0.mk (lsealed_calls A3 (some ⟨g4, 0, none⟩) c3 11 (wordsI ns) superW 0 w4 (Kd.C_below HK3.out hb4) (hr4.reads (by decide)) (by rw [HLN.out]; rfl) (by decide) superW_ok superW_sum HGO1.out (by omega) (by omega))
       clear hr4 hb4
       dsimp only
       go_wp2_with fail
       refine HSE.out.mono ?_
       rintro e w5 ⟨g5, rfl, hg5, hr5, hb5⟩
       have HR5 := Aside0.mk hr5
       have HB5 := Aside0.mk (below_then HB4.out HB4.out.size hb5)
       have hbw : w.heap.size ≤ g5 := Nat.le_trans (Nat.le_trans HBW.out.size HB4.out.size) hg5
       clear hr5 hb5
       dsimp only
       go_wp2
       go_ret2
       exact bytesPost_good HGD1.out (by rw [blockI_length]) rfl hbw (Nat.le_refl _) HR5.out (below_then HBW.out HBW.out.size HB5.out)
      ·have hN1 : ns = [1213813321, 1, B, P, I, J, fb, fi, orp, mnt, 1] := HNUM.out
       have hrow := row_last w2 .i64 3 [1213813321, 1, B, P, I, J, fb, fi, orp, mnt, 1]
       have HR := Aside0.mk (hrow.reads (by simp))
       have HBA := Aside0.mk (below_alloc HB2.out (.cells (nums .i64 [1213813321, 1, B, P, I, J, fb, fi, orp, mnt, 1]).toArray 3))
       clear hrow
       go_wp2_with fail
       refine (numbers_calls (some ⟨w2.heap.size, 0, none⟩) 11 [1213813321, 1, B, P, I, J, fb, fi, orp, mnt, 1] _ HR.out (by simp)).mono ?_
       rintro e w3 ⟨v3, rfl, ho3, hb3⟩
       rw [← hN1] at ho3
       obtain ⟨A3, c3, rfl, hc3, hk3⟩ := ho3.reads
       have HB3 := Aside0.mk (below_then HBA.out HBA.out.size hb3)
       have HK3 := Aside0.mk hk3
       have HGO1 := Aside0.mk (HGO.out HK.out)
       have HGD1 := Aside0.mk (HGD.out HK.out)
       have hln : (wordsI ns).length = 11 := by rw [wordsI_len, hN1]; rfl
       have HLN := Aside0.mk hln
       clear ho3 hb3 hk3 hN1 hln HR HBA c4 c5 c6 c7 c8 d0 d1 d2 d3
       dsimp only
       go_wp2_with fail
       refine (superw_calls _).mono ?_
       rintro e w4 ⟨g4, rfl, hg4, hr4, hb4⟩
       have HB4 := Aside0.mk (below_then HB3.out HB3.out.size hb4)
       have HSE := Aside0.mk (lsealed_calls A3 (some ⟨g4, 0, none⟩) c3 11 (wordsI ns) superW 0 w4 (Kd.C_below HK3.out hb4) (hr4.reads (by decide)) (by rw [HLN.out]; rfl) (by decide) superW_ok superW_sum HGO1.out (by omega) (by omega))
       clear hr4 hb4
       dsimp only
       go_wp2_with fail
       refine HSE.out.mono ?_
       rintro e w5 ⟨g5, rfl, hg5, hr5, hb5⟩
       have HR5 := Aside0.mk hr5
       have HB5 := Aside0.mk (below_then HB4.out HB4.out.size hb5)
       have hbw : w.heap.size ≤ g5 := Nat.le_trans (Nat.le_trans HBW.out.size HB4.out.size) hg5
       clear hr5 hb5
       dsimp only
       go_wp2
       go_ret2
       exact bytesPost_good HGD1.out (by rw [blockI_length]) rfl hbw (Nat.le_refl _) HR5.out (below_then HBW.out HBW.out.size HB5.out)
structure Grp where
 fb : Int
 fi : Int
 dirs : Int
deriving DecidableEq
def gcells (x : Grp) : List Value := [.int .i64 x.fb, .int .i64 x.fi, .int .i64 x.dirs]
def gnums (x : Grp) : List Int := [x.fb, x.fi, x.dirs]
def gOk (x : Grp) : Bool := inI x.fb 0 65535 && inI x.fi 0 65535 && inI x.dirs 0 65535
def grpAt (l : List Grp) (j : Nat) : Grp := l.getD j ⟨0, 0, 0⟩
theorem gcells_at (l : List Grp) (j : Nat) (hj : j < l.length) (i : Nat) (hi : i < 3) : (l.flatMap gcells)[j * 3 + i]? = (gcells (grpAt l j))[i]? := by
 induction l generalizing j with
 | nil => simp at hj
 | cons x l ih =>
  rw [List.flatMap_cons]
  cases j with
  | zero => rw [List.getElem?_append_left (by simp [gcells]; omega)]; simp [grpAt]
  | succ j =>
   rw [List.getElem?_append_right (by simp [gcells]; omega)]
   have : (j + 1) * 3 + i - (gcells x).length = j * 3 + i := by simp [gcells]; omega
   rw [this, ih j (by simpa using hj)]
   simp [grpAt]
def Grps (w : World) (A : Option Addr) (l : List Grp) : Prop := ∀ j, j < l.length → ∃ ad, A = some ad ∧ w.cell? (ad.add (j * 3)) = some (.int .i64 (grpAt l j).fb) ∧ w.cell? ⟨(ad.add (j * 3)).block, (ad.add (j * 3)).off + 1, none⟩ = some (.int .i64 (grpAt l j).fi) ∧ w.cell? ⟨(ad.add (j * 3)).block, (ad.add (j * 3)).off + 2, none⟩ = some (.int .i64 (grpAt l j).dirs)
theorem Grps.below {w w1 : World} {A : Option Addr} {l : List Grp} (h : Grps w A l) (hb : Below w.heap.size w w1) : Grps w1 A l := fun j hj => by
 obtain ⟨ad, e, h1, h2, h3⟩ := h j hj
 exact ⟨ad, e, pw_cell_below hb h1, pw_cell_below hb h2, pw_cell_below hb h3⟩
def OwnG (w : World) (base : Nat) (v : Value) (l : List Grp) : Prop := w.ownsRow base 144 3 v l.length (l.flatMap gcells)
theorem OwnG.reads {w : World} {base : Nat} {v : Value} {l : List Grp} (h : OwnG w base v l) : ∃ A c, v = .slice A l.length c ∧ l.length ≤ c ∧ Grps w A l := by
 obtain ⟨A, c, e, hc, _, h0, h1⟩ := own_shape h
 refine ⟨A, c, e, hc, fun j hj => ?_⟩
 obtain ⟨ad, rfl⟩ := h0 (by omega)
 have k0 := h1 ad rfl (j * 3 + 0) _ (by rw [gcells_at l j hj 0 (by omega)]; rfl)
 have k1 := h1 ad rfl (j * 3 + 1) _ (by rw [gcells_at l j hj 1 (by omega)]; rfl)
 have k2 := h1 ad rfl (j * 3 + 2) _ (by rw [gcells_at l j hj 2 (by omega)]; rfl)
 rw [add_next ad (j * 3) 1 (by omega)] at k1
 rw [add_next ad (j * 3) 2 (by omega)] at k2
 exact ⟨ad, rfl, k0, k1, k2⟩
theorem ownG_snoc {w : World} {base : Nat} {v : Value} {l : List Grp} {x : Grp} {news : List Value} (h : w.ownsRow base 144 3 v (l.length + 1) (l.flatMap gcells ++ news)) (hn : news = gcells x) : OwnG w base v (l ++ [x]) := by
 unfold OwnG
 rw [List.length_append, List.flatMap_append, show [x].length = 1 from rfl, show [x].flatMap gcells = gcells x by simp, ← hn]
 exact h
theorem OwnG.below {w w1 : World} {base : Nat} {v : Value} {l : List Grp} (h : OwnG w base v l) (hb : Below w.heap.size w w1) : OwnG w1 base v l := pw_own_below h hb
theorem infoGrp : (Tryz.prog.info? 144).map (fun i => (i.zero, i.size, i.bytes)) = some (some (.agg #[.int .i64 0, .int .i64 0, .int .i64 0]), 3, 24) := by kernel_rfl
def pgroupsI (l : List Grp) : List Int × Int := if 1 ≤ l.length ∧ l.length ≤ 14 ∧ l.all gOk = true then (blockI (wordsI (l.flatMap gnums)) (groupW l.length) 1, 0) else ([], 22)
theorem groupW_len (n : Nat) : (groupW n).length = 3 * n := by unfold groupW; simp
theorem groupW_ok (n : Nat) : widthsOk (groupW n) := fun x hx => by rw [List.eq_of_mem_replicate hx]; omega
theorem groupW_get (n k : Nat) (h : k < 3 * n) : (groupW n).getD k 0 = 4 := by unfold groupW; simp [List.getD_eq_getElem?_getD, h]
theorem groupW_sum (n : Nat) : sumI (groupW n) = 12 * n := by
 induction n with
 | zero => rfl
 | succ n ih => rw [groupW_succ]; unfold sumI at ih ⊢; rw [List.foldl_append, ih]; simp; omega
theorem gnums_length (l : List Grp) : (l.flatMap gnums).length = 3 * l.length := by
 induction l with
 | nil => rfl
 | cons x l ih => rw [List.flatMap_cons, List.length_append, ih]; simp [gnums]; omega
theorem groups_go {l : List Grp} (h : l.all gOk = true) : goesIn (wordsI (l.flatMap gnums)) (groupW l.length) := by
 intro k hk
 rw [groupW_len] at hk
 rw [groupW_get _ _ hk]
 have hkl : k < (l.flatMap gnums).length := by rw [gnums_length]; exact hk
 obtain ⟨y, hy⟩ : ∃ y, (l.flatMap gnums)[k]? = some y := ⟨_, List.getElem?_eq_getElem hkl⟩
 have hm := List.mem_of_getElem? hy
 obtain ⟨x, hx, hxy⟩ := List.mem_flatMap.1 hm
 have hok := List.all_eq_true.1 h x hx
 unfold gOk at hok
 simp only [Bool.and_eq_true, inI_iff] at hok
 have hr : 0 ≤ y ∧ y ≤ 65535 := by
  simp only [gnums, List.mem_cons, List.not_mem_nil, or_false] at hxy
  rcases hxy with rfl | rfl | rfl <;> omega
 have : (wordsI (l.flatMap gnums)).getD k 0 = y := by
  simp only [wordsI, List.getD_eq_getElem?_getD, List.getElem?_map, hy, Option.map_some, Option.getD_some]
  exact word_id hr.1 (by omega)
 rw [this]
 exact ⟨hr.1, by show y < 256 ^ 4; omega⟩
set_option maxHeartbeats 2000000 in
set_option maxRecDepth 100000 in
theorem pgroups_calls (A : Option Addr) (c : Nat) (l : List Grp) (w : World) (hl : Grps w A l) (hn : l.length ≤ 1000000) :
  Calls Tryz.prog 107 #[.slice A l.length c] w (BytesPost (pgroupsI l) w) := by
 have HL := Aside0.mk hl
 clear hl
 have hbad : ¬ (1 ≤ l.length ∧ l.length ≤ 14 ∧ l.all gOk = true) → (pgroupsI l).2 = 22 := fun h => by unfold pgroupsI; rw [if_neg h]
 have hgood : (1 ≤ l.length ∧ l.length ≤ 14 ∧ l.all gOk = true) → pgroupsI l = (blockI (wordsI (l.flatMap gnums)) (groupW l.length) 1, 0) := fun h => by unfold pgroupsI; rw [if_pos h]
 obtain ⟨r, hr⟩ : ∃ r, pgroupsI l = r := ⟨_, rfl⟩
 rw [hr] at hbad hgood ⊢
 have HGD := Aside0.mk hgood
 have HBD := Aside0.mk hbad
 clear hr hgood hbad
 by_cases hin : inI (l.length : Int) 1 14 = true
 ·have hrg := inI_iff.1 hin
  go_enter Tryz.func107, Tryz.ntmps107
  go_wp2_with (go_at_call 155; refine (ranged_calls _ _ _ _).mono ?_; rintro e w' ⟨rfl, rfl⟩; rw [hin])
  go_loopg [4, 13] l.length (fun g v i wr => ∃ k : Nat, k + g = l.length ∧ i = .int .i64 k ∧ Aside0 ((l.take k).all gOk = true) ∧ Aside0 (Own wr w.heap.size 163 .u64 v (wordsI ((l.take k).flatMap gnums))) ∧ Aside0 (Below w.heap.size w wr))
  case atStart => exact ⟨0, by omega, rfl, ⟨rfl⟩, ⟨own_of_nil _ _ _ _⟩, ⟨Below.refl _ _⟩⟩
  case round =>
   obtain ⟨k, hk, rfl, HA, HO, HB⟩ := hrel
   cases gk with
   | zero =>
    obtain rfl : k = l.length := by omega
    have ho := HO.out
    have ha := HA.out
    rw [List.take_length] at ho ha
    obtain ⟨A1, c1, rfl, hc1, hk1⟩ := ho.reads
    have HK1 := Aside0.mk hk1
    have HAL := Aside0.mk ha
    have hlen : (wordsI (l.flatMap gnums)).length = 3 * l.length := by rw [wordsI_len, gnums_length]
    have HLEN := Aside0.mk hlen
    obtain ⟨q, hq⟩ : ∃ q, wordsI (l.flatMap gnums) = q := ⟨_, rfl⟩
    rw [hq] at HK1 HLEN ⊢
    have HQ := Aside0.mk hq
    clear ho ha hk1 hlen hq hc1
    go_wp2_with fail
    refine (groupw_calls l.length wr (by omega)).mono ?_
    rintro e w2 ⟨v2, rfl, ho2, hb2⟩
    obtain ⟨A2, c2, rfl, hc2, hk2⟩ := ho2.reads
    have HSE := Aside0.mk (lsealed_calls A1 A2 c1 c2 q (groupW l.length) 1 w2 (Kd.C_below HK1.out hb2) hk2 (by rw [HLEN.out, groupW_len]) (by rw [groupW_len]; omega) (groupW_ok _) (by rw [groupW_sum]; omega) (by rw [← HQ.out]; exact groups_go HAL.out) (by omega) (by omega))
    have HB2 := Aside0.mk (below_then HB.out HB.out.size hb2)
    clear ho2 hb2 hk2 hc2
    dsimp only
    go_wp2_with fail
    refine HSE.out.mono ?_
    rintro e w3 ⟨g3, rfl, hg3, hr3, hb3⟩
    have HR3 := Aside0.mk hr3
    have HB3 := Aside0.mk (below_then HB2.out HB2.out.size hb3)
    have hbw : w.heap.size ≤ g3 := Nat.le_trans HB2.out.size hg3
    clear hr3 hb3
    dsimp only
    go_wp2
    go_ret2
    exact bytesPost_good (by rw [HGD.out ⟨by omega, by omega, HAL.out⟩, HQ.out]) (by rw [blockI_length]) rfl hbw (Nat.le_refl _) HR3.out HB3.out
   | succ g =>
    obtain ⟨ad, rfl, h1, h2, h3⟩ := (HL.out.below HB.out) k (by omega)
    have hkl : k < l.length := by omega
    have hsn : l.take (k + 1) = l.take k ++ [grpAt l k] := by
     unfold grpAt
     rw [List.take_succ_eq_append_getElem hkl]
     simp [List.getD_eq_getElem?_getD, hkl]
    have hxm : grpAt l k ∈ l := by
     unfold grpAt
     rw [List.getD_eq_getElem?_getD, List.getElem?_eq_getElem hkl]
     exact List.getElem_mem hkl
    obtain ⟨x, hx⟩ : ∃ x, grpAt l k = x := ⟨_, rfl⟩
    rw [hx] at h1 h2 h3 hsn hxm
    have hnall : gOk x = false → r.2 = 22 := fun h => HBD.out (fun h' => by
     have := List.all_eq_true.1 h'.2.2 x hxm
     rw [h] at this
     exact absurd this (by simp))
    have hgo : gOk x = (inI x.fb 0 65535 && inI x.fi 0 65535 && inI x.dirs 0 65535) := rfl
    have hgn : gnums x = [x.fb, x.fi, x.dirs] := rfl
    have HSN := Aside0.mk hsn
    have HGN := Aside0.mk hgn
    have HNA := Aside0.mk hnall
    have HOKX : gOk x = gOk x := rfl
    obtain ⟨ok, hok⟩ : ∃ ok, gOk x = ok := ⟨_, rfl⟩
    rw [hok] at HNA hgo
    have HOK := Aside0.mk hok
    obtain ⟨fb, fi, dirs⟩ := x
    dsimp only at h1 h2 h3 hgo HGN
    have i1 : (k : Int) < (l.length : Int) := by omega
    clear hsn hx hxm hnall hgn hok HOKX
    cases b1 : inI fb 0 65535
    ·rw [b1] at hgo
     have HR := Aside0.mk (HNA.out (by rw [hgo]; rfl))
     clear hgo
     go_wp2_with (go_at_call 155; refine (ranged_calls _ _ _ _).mono ?_; rintro e w' ⟨rfl, rfl⟩; try rw [b1])
     go_ret2
     exact bytesPost_bad HR.out (by decide) rfl (below_alloc HB.out _)
    ·cases b2 : inI fi 0 65535
     ·rw [b1, b2] at hgo
      have HR := Aside0.mk (HNA.out (by rw [hgo]; rfl))
      clear hgo
      go_wp2_with (go_at_call 155; refine (ranged_calls _ _ _ _).mono ?_; rintro e w' ⟨rfl, rfl⟩; first | rw [b1] | rw [b2])
      go_ret2
      exact bytesPost_bad HR.out (by decide) rfl (below_alloc HB.out _)
     ·cases b3 : inI dirs 0 65535
      ·rw [b1, b2, b3] at hgo
       have HR := Aside0.mk (HNA.out (by rw [hgo]; rfl))
       clear hgo
       go_wp2_with (go_at_call 155; refine (ranged_calls _ _ _ _).mono ?_; rintro e w' ⟨rfl, rfl⟩; first | rw [b1] | rw [b2] | rw [b3])
       go_ret2
       exact bytesPost_bad HR.out (by decide) rfl (below_alloc HB.out _)
      ·rw [b1, b2, b3] at hgo
       have HT := Aside0.mk hgo
       clear hgo
       have HBX := Aside0.mk (below_alloc HB.out (.cells #[.int .i64 fb, .int .i64 fi, .int .i64 dirs] 144))
       have hrow := row_last (wr.alloc (.cells #[.int .i64 fb, .int .i64 fi, .int .i64 dirs] 144)) .i64 3 [fb, fi, dirs]
       have HBY := Aside0.mk (below_alloc HBX.out (.cells (nums .i64 [fb, fi, dirs]).toArray 3))
       have HNC := Aside0.mk (numbers_calls (some ⟨wr.heap.size + 1, 0, none⟩) 3 [fb, fi, dirs] _ (by have := hrow.reads (by simp); rw [World.size_alloc] at this; exact this) (by simp))
       have HOY := Aside0.mk ((HO.out.below (below_alloc (Below.refl _ _) (.cells #[.int .i64 fb, .int .i64 fi, .int .i64 dirs] 144))).below (below_alloc (Below.refl _ _) (.cells (nums .i64 [fb, fi, dirs]).toArray 3)))
       have hlk : (wordsI ((l.take k).flatMap gnums)).length = 3 * k := by rw [wordsI_len, gnums_length, List.length_take]; omega
       have HLK := Aside0.mk hlk
       have HWX : wordsI ((l.take (k + 1)).flatMap gnums) = wordsI ((l.take k).flatMap gnums) ++ wordsI [fb, fi, dirs] := by
        rw [HSN.out, List.flatMap_append]
        unfold wordsI
        rw [List.map_append]
        simp [HGN.out]
       have HWX := Aside0.mk HWX
       obtain ⟨i0, hi, hz0, hz1, hz2⟩ := info_parts infoU64
       clear hrow hlk
       go_wp2_with (first
        | (go_at_call 155; refine (ranged_calls _ _ _ _).mono ?_; rintro e w' ⟨rfl, rfl⟩; first | rw [b1] | rw [b2] | rw [b3])
        | (go_at_call 156; (refine HNC.out.mono ?_; rintro e w4 ⟨v4, rfl, ho4, hb4⟩; obtain ⟨A4, c4, rfl, hc4, hk4⟩ := ho4.reads; have HK4 := Aside0.mk hk4; have HO4 := Aside0.mk (HOY.out.below hb4); have HB4 := Aside0.mk (below_then HBY.out HBY.out.size hb4); clear ho4 hb4 hk4))
        | ((with_reducible refine gate_dst (N := 42) rfl ?_); (obtain ⟨ad4, rfl, _⟩ := C_int_at HK4.out 0 (by simp [wordsI]); refine wpList_append_own _ rfl (.tmp 33) (.tmp 41) 215 rfl w.heap.size 163 i0 (.int .u64 0) 1 8 Tryz.underlying215 hi hz0 hz1 hz2 rfl (by decide) _ _ _ rfl HO4.out ad4 (wordsI [fb, fi, dirs]).length c4 (nums .u64 (wordsI [fb, fi, dirs])) ?c6 ?c7 ?c1 ?c2 ?c3 ?c4 ?c5 ?_; (case c6 => rfl); (case c7 => (rw [nums_length, Nat.mul_one])); (case c1 => (intro j u hj; obtain ⟨hjl, e⟩ := List.getElem?_eq_some_iff.1 hj; rw [nums_length] at hjl; obtain ⟨ad', e', hc'⟩ := C_int_at HK4.out j hjl; cases e'; rw [hc', ← e]; simp [nums, List.getD_eq_getElem?_getD, hjl])); (case c2 => (intro u hu; simp only [nums, List.mem_map] at hu; obtain ⟨x, _, rfl⟩ := hu; rfl)); (case c3 => (rw [HLK.out, wordsI_len]; simp [maxLen]; omega)); (case c4 => (rw [HLK.out, wordsI_len]; simp; omega)); (case c5 => exact HB4.out.size); intro v5 w5 hown1 hgrow1 _; have HO5 := Aside0.mk (own_snoc (ys := wordsI [fb, fi, dirs]) hown1 rfl rfl); have HB5 := Aside0.mk (pw_below_grown HB4.out _ HB4.out.size hgrow1 (fun g hg => HO4.out.base g hg)); clear hown1 hgrow1 hz0 hz1 hz2 hi)))
       go_roundg g
       case measure => omega
       case rel => exact ⟨k + 1, by omega, by go_num, ⟨by rw [HSN.out, List.all_append, HA.out]; simp [HOK.out, HT.out]⟩, ⟨by rw [HWX.out]; exact HO5.out⟩, HB5⟩
 ·have hin' : inI (l.length : Int) 1 14 = false := by simpa using hin
  have HR := Aside0.mk (HBD.out (fun h => hin (inI_iff.2 (by omega))))
  clear hin
  go_enter Tryz.func107, Tryz.ntmps107
  go_wp2_with (go_at_call 155; refine (ranged_calls _ _ _ _).mono ?_; rintro e w' ⟨rfl, rfl⟩; rw [hin'])
  go_ret2
  exact bytesPost_bad HR.out (by decide) rfl (Below.refl _ _)
end Go.Proofs.YtkmhilhfmfmckaaGreatDoor.Hand
