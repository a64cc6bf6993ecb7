/- The document's block of parts, walked: what it packs is what the program packs. -/
import Derived.Test.YtjggkaieagbjmaaRpack0
import Derived.Test.YtjggkaieagbjmaaIdx1
namespace Go.Proofs.Ytjggkaieagbjmaa.Hand
set_option linter.unusedVariables false
set_option linter.unusedSimpArgs false
open Go.Shelf Go.RowKit Go.Proofs.YtjggkaieagbjmaaW.PrintWords Go.Proofs.YtjggkaieagbjmaaW.PrintLast Go.Proofs.YtjggkaieagbjmaaW.PrintMore

theorem lay4_pad (q : List Int) (x : Int) (h : q.length + 3 < 256) : layL (pad q) q.length x 4 = pad (q ++ [x % 256, x / 256 % 256, x / 65536 % 256, x / 16777216 % 256]) := by
  have h2 := lay2_pad q x (by omega)
  have e2 : leB x 2 = x / 65536 % 256 := by unfold leB; rfl
  have e3 : leB x 3 = x / 16777216 % 256 := by unfold leB; rfl
  show ((layL (pad q) q.length x 2).set (q.length + 2) (leB x 2)).set (q.length + 3) (leB x 3) = _
  rw [h2, e2, e3, set_pad_at _ _ _ (by simp) (by simp; omega), set_pad_at _ _ _ (by simp) (by simp; omega)]
  simp
theorem allB_pidxB (l : List Prt) : allB (pidxB l) := by
  unfold pidxB
  refine allB_append (fun y hy => ?_) (fun y hy => ?_)
  · simp only [List.mem_cons, List.not_mem_nil, or_false] at hy
    rcases hy with rfl | rfl <;> omega
  · obtain ⟨x, _, hx⟩ := List.mem_flatMap.1 hy
    unfold prtB at hx
    simp only [List.mem_cons, List.not_mem_nil, or_false] at hx
    rcases hx with rfl | rfl | rfl | rfl | rfl | rfl <;> omega
theorem seenB_false {l : List Prt} {k b : Nat} (hk : k ≤ l.length) (h : ∀ j, j < k → (prtAt l j).block ≠ (b : Int)) : seenB l k b = false := by
  unfold seenB
  rw [List.any_eq_false]
  intro p hp
  obtain ⟨j, hj, e⟩ := List.getElem_of_mem hp
  rw [List.length_take] at hj
  have := h j (by omega)
  unfold prtAt at this
  rw [List.getElem_take] at e
  rw [List.getD_eq_getElem?_getD, List.getElem?_eq_getElem (by omega), Option.getD_some, e] at this
  simpa using this
theorem seenB_true {l : List Prt} {k b j : Nat} (hk : k ≤ l.length) (hj : j < k) (h : (prtAt l j).block = (b : Int)) : seenB l k b = true := by
  unfold seenB
  rw [List.any_eq_true]
  refine ⟨prtAt l j, ?_, by rw [h]; simp⟩
  unfold prtAt
  rw [List.getD_eq_getElem?_getD, List.getElem?_eq_getElem (by omega), Option.getD_some]
  rw [List.mem_iff_getElem]
  exact ⟨j, by rw [List.length_take]; omega, by rw [List.getElem_take]⟩

set_option maxHeartbeats 16000000 in
set_option maxRecDepth 100000 in
theorem rpidx_calls (A : Option Addr) (c : Nat) (s : Int) (l : List Prt) (w : World) (hl : Prts w A l) (hwf : ∀ j, j < l.length → 0 ≤ (prtAt l j).hash ∧ (prtAt l j).hash < 4294967296) (hs0 : 0 ≤ s) (hs1 : s < 4294967296) :
    Calls Try.prog 28 #[.slice A l.length c, .int .u32 s] w (PidxPost l s w) := by
  have hsz := hl.size
  have HWF := Aside0.mk hwf
  clear hwf
  by_cases h1 : l.length < 1
  · have hp : pidxI l s = ([], 22) := by unfold pidxI; rw [if_pos (.inl h1)]
    clear hl
    go_enter Try.func28, Try.ntmps28
    go_wp2
    go_ret2
    exact pidxPost_bad hp rfl (Below.refl _ _)
  · by_cases h40 : 40 < l.length
    · have hp : pidxI l s = ([], 22) := by unfold pidxI; rw [if_pos (.inr (.inl h40))]
      clear hl
      go_enter Try.func28, Try.ntmps28
      go_wp2
      go_ret2
      exact pidxPost_bad hp rfl (Below.refl _ _)
    · obtain ⟨ad, rfl, h0, _⟩ := hl.cells 0 (by omega)
      have h0' : w.cell? ad = some (.int .u32 (prtAt l 0).hash) := h0
      clear h0
      by_cases hz : (prtAt l 0).hash = 0
      · rw [hz] at h0'
        have HL := Aside0.mk hl
        have hpk : pidxI l s = if prtsOk l then (sealL (pad (pidxB l)) s, 0) else ([], 22) := by
          unfold pidxI
          rw [if_neg]
          rintro (h | h | h)
          · exact h1 h
          · exact h40 h
          · exact h hz
        have HP := Aside0.mk hpk
        have hmk : ∀ w : World, (Instr.makeSlice 30 (.int .i64 256) (.int .i64 256)).run Try.prog w = .ok (.slice (some ⟨w.heap.size, 0, none⟩) 256 256) (noughts w) := make256
        have HN := Aside0.mk (show Row (noughts w) .u8 w.heap.size 5 (pad []) from alloc_last _ _)
        have HB1 := Aside0.mk (show Below w.heap.size w (noughts w) from below_alloc (Below.refl _ _) _)
        have hn0 := HN.out.cell 0 (by rw [pad_length _ (by simp)]; omega)
        have hz0 := HN.out.free 0
        clear hl hpk hz
        go_enter Try.func28, Try.ntmps28
        go_upto_region 5 with fail
        have HN1 := Aside0.mk (row_pad HN.out 0 2 rfl (by simp))
        have HB2 := Aside0.mk (below_set_new HB1.out (Nat.le_refl _) 0 (.int .u8 2))
        have hgs : w.heap.size ≤ w.heap.size := Nat.le_refl _
        clear hn0 hz0 h0'
        generalize (noughts w).setCell ⟨w.heap.size, 0, none⟩ (.int .u8 2) = w2 at HN1 HB2 ⊢
        obtain ⟨g, hg⟩ : ∃ g, w.heap.size = g := ⟨_, rfl⟩
        rw [show (⟨w.heap.size, 0, none⟩ : Addr) = ⟨g, 0, none⟩ by rw [hg]]
        have hgs2 : w.heap.size ≤ g := by omega
        have HN1' : Aside0 (Row w2 .u8 g 5 (pad ([] ++ [2]))) := ⟨by rw [← hg]; exact HN1.out⟩
        clear HN1 hgs hmk hg
        have hn1 := HN1'.out.cell 1 (by rw [pad_length _ (by simp)]; omega)
        have hz1 := HN1'.out.free 1
        have hl256 : (l.length : Int) % 256 = l.length := by omega
        have HN2 := Aside0.mk (row_pad HN1'.out 1 (l.length : Int) rfl (by simp))
        clear hl256
        go_wp2
        have HB3 := Aside0.mk (below_set_new HB2.out hgs2 1 (.int .u8 (l.length : Int)))
        clear hn1 hz1
        generalize w2.setCell ⟨g, 1, none⟩ (.int .u8 (l.length : Int)) = w3 at HN2 HB3 ⊢
        obtain ⟨q0, hq0⟩ : ∃ q0, [2, (l.length : Int)] = q0 := ⟨_, rfl⟩
        have hq2 : q0.length = 2 := by rw [← hq0]; rfl
        have HQ2 := Aside0.mk hq2
        have HQ0 := Aside0.mk hq0
        have HN3 : Aside0 (Row w3 .u8 g 5 (pad q0)) := ⟨by rw [← hq0]; exact HN2.out⟩
        clear hq0 hq2 HN2
        go_loopg [7] l.length (fun gg i wr => ∃ k : Nat, k + gg = l.length ∧ i = .int .i64 k ∧ Aside0 (Row wr .u8 g 5 (pad (q0 ++ (l.take k).flatMap prtB))) ∧ Aside0 (Below w.heap.size w wr) ∧ Aside0 (LookedP l k))
        case atStart => exact ⟨0, by omega, rfl, ⟨by simpa using HN3.out⟩, HB3, ⟨fun j hj => absurd hj (by omega)⟩⟩
        case round =>
          obtain ⟨k, hk, rfl, HR, HB, HK⟩ := hrel
          cases gk with
          | zero =>
            obtain rfl : k = l.length := by omega
            have hall : prtsOk l := fun j hj => HK.out j hj
            have hbs := HR.out
            have hpb : q0 ++ l.flatMap prtB = pidxB l := by rw [← HQ0.out]; unfold pidxB; rw [show (l.length : Int) % 256 = l.length by omega]
            rw [List.take_length, hpb] at hbs
            have hlen : (pidxB l).length ≤ 256 := by
              rw [← hpb, List.length_append, prtsB_length, HQ2.out]; omega
            have hpk : pidxI l s = (sealL (pad (pidxB l)) s, 0) := by rw [HP.out, if_pos hall]
            have hsc := rseal_calls g 252 256 s wr (pad (pidxB l)) hbs (pad_length _ hlen) (by omega) (by omega) hs0 hs1 (allB_pad (allB_pidxB l))
            have HSC := Aside0.mk hsc
            have HPK := Aside0.mk hpk
            have hsl : (sealL (pad (pidxB l)) s).length = 256 := by unfold sealL; rw [layL_length]; exact pad_length _ hlen
            have HSL := Aside0.mk hsl
            clear hsc hbs hpb hpk hsl hlen hall
            go_wp2_with fail
            refine HSC.out.mono ?_
            rintro e w5 ⟨rfl, hr5, hm5⟩
            dsimp only
            go_wp2
            go_ret2
            refine ⟨.slice (some ⟨g, 0, none⟩) 256 256, by rw [HPK.out]; rfl, ?_, below_mod HB.out hm5 hgs2⟩
            rw [HPK.out]
            exact (own_of_row hr5 HSL.out hgs2 (by simp [maxLen])).to_R
          | succ gg =>
            obtain ⟨ad', e, n1, n2⟩ := (HL.out.below HB.out).cells k (by omega)
            cases e
            have hkl : k < l.length := by omega
            have hwfk := HWF.out k hkl
            have HNOT := Aside0.mk (fun h => prtOk_not hkl h s)
            have n4 : k ≠ 0 → wr.cell? (ad.add ((k - 1) * 2)) = some (.int .u32 (prtAt l (k - 1)).hash) := fun hk0 => by
              obtain ⟨ad', e, h, _⟩ := (HL.out.below HB.out).cells (k - 1) (by omega)
              cases e
              exact h
            have hok : prtOk l k ↔ ¬ (prtAt l k).block < 1 ∧ ¬ 255 < (prtAt l k).block ∧ seenB l k (prtAt l k).block.toNat = false ∧ (0 < k → (prtAt l (k - 1)).hash < (prtAt l k).hash) := Iff.rfl
            have hsn := prtB_snoc l k hkl
            obtain ⟨x, hx⟩ : ∃ x, prtAt l k = x := ⟨_, rfl⟩
            obtain ⟨z, hzz⟩ : ∃ z, (prtAt l (k - 1)).hash = z := ⟨_, rfl⟩
            have HLX := Aside0.mk (fun (W : World) (hW : Below w.heap.size w W) => by
              obtain ⟨ad', e, h1, h2⟩ := (HL.out.below hW).cells k (by omega)
              cases e
              rw [hx] at h1 h2
              exact And.intro h1 h2)
            rw [hx] at n1 n2 hok hsn hwfk
            rw [hzz] at hok n4
            have HOK := Aside0.mk hok
            have N4 := Aside0.mk n4
            have HSN := Aside0.mk hsn
            have HX := Aside0.mk hx
            have HBQ := Aside0.mk (below_drew HB.out)
            have HRQ := Aside0.mk (HR.out.below (below_drew (Below.refl wr.heap.size wr)))
            clear hx hzz hok n4 hsn
            obtain ⟨hw0, hw1⟩ := hwfk
            have hki : (k : Int) < (l.length : Int) := by omega
            go_wp2
            by_cases c1 : x.block < 1
            · refine wp_region_in [0, 0, 0, 0, 1, 0, 0, 0, 0, 0, 0, 1, 0, 0, 0, 0, 0, 0, 0, 0, 0, 0, 1, 0, 0, 0, 0, 0, 1, 0, 0, 0] [] (fun w' => w'.cell? (ad.add (k * 2)) = some (.int .u32 x.hash) ∧ w'.cell? ⟨(ad.add (k * 2)).block, (ad.add (k * 2)).off + 1, none⟩ = some (.int .i64 x.block)) (by kernel_rfl) rfl (by kernel_rfl) (fun _ _ _ _ h => h) ⟨n1, n2⟩ ?_
              iterate 32 (first
                | (refine in_off0 (by rfl) ?_; simp only [Act.put, List.setIfInBounds_toArray, List.set_cons_zero, List.set_cons_succ, i64_w, i32_w])
                | (refine in_off1 (by rfl) ?_; simp only [Act.put, List.setIfInBounds_toArray, List.set_cons_zero, List.set_cons_succ, i64_w, i32_w])
                | (refine in_0 (v := ?_) (by rfl) rfl ?_ (a' := ?_) ?_ ?_; rotate_left; (intro w'; go_simp; with_reducible rfl); rotate_left; (simp only [Act.put, List.setIfInBounds_toArray, List.set_cons_zero, List.set_cons_succ, i64_w, i32_w]; rfl))
                | (refine in_1 (v := ?_) (by rfl) rfl ?_ (a' := ?_) ?_ ?_; rotate_left; (rintro w' hs; go_split_ands; go_simp; with_reducible rfl); rotate_left; (simp only [Act.put, List.setIfInBounds_toArray, List.set_cons_zero, List.set_cons_succ, i64_w, i32_w]; rfl)))
              refine in_nil ?_
              go_wp2
              go_ret2
              exact pidxPost_bad (HNOT.out (fun h => by have := HOK.out.1 h; omega)) rfl HBQ.out
            · by_cases c2 : 255 < x.block
              · refine wp_region_in [0, 0, 0, 0, 1, 0, 0, 0, 0, 0, 0, 1, 0, 0, 0, 0, 0, 0, 0, 0, 0, 0, 1, 0, 0, 0, 0, 0, 1, 0, 0, 0] [] (fun w' => w'.cell? (ad.add (k * 2)) = some (.int .u32 x.hash) ∧ w'.cell? ⟨(ad.add (k * 2)).block, (ad.add (k * 2)).off + 1, none⟩ = some (.int .i64 x.block)) (by kernel_rfl) rfl (by kernel_rfl) (fun _ _ _ _ h => h) ⟨n1, n2⟩ ?_
                iterate 32 (first
                  | (refine in_off0 (by rfl) ?_; simp only [Act.put, List.setIfInBounds_toArray, List.set_cons_zero, List.set_cons_succ, i64_w, i32_w])
                  | (refine in_off1 (by rfl) ?_; simp only [Act.put, List.setIfInBounds_toArray, List.set_cons_zero, List.set_cons_succ, i64_w, i32_w])
                  | (refine in_0 (v := ?_) (by rfl) rfl ?_ (a' := ?_) ?_ ?_; rotate_left; (intro w'; go_simp; with_reducible rfl); rotate_left; (simp only [Act.put, List.setIfInBounds_toArray, List.set_cons_zero, List.set_cons_succ, i64_w, i32_w]; rfl))
                  | (refine in_1 (v := ?_) (by rfl) rfl ?_ (a' := ?_) ?_ ?_; rotate_left; (rintro w' hs; go_split_ands; go_simp; with_reducible rfl); rotate_left; (simp only [Act.put, List.setIfInBounds_toArray, List.set_cons_zero, List.set_cons_succ, i64_w, i32_w]; rfl)))
                refine in_nil ?_
                go_wp2
                go_ret2
                exact pidxPost_bad (HNOT.out (fun h => by have := HOK.out.1 h; omega)) rfl HBQ.out
              · by_cases c3 : 0 < k ∧ x.hash ≤ z
                · obtain ⟨c30, c31⟩ := c3
                  obtain ⟨k', rfl⟩ : ∃ k', k = k' + 1 := ⟨k - 1, by omega⟩
                  have n4 := N4.out (by omega)
                  simp only [Nat.add_sub_cancel] at n4
                  obtain ⟨n, hn⟩ : ∃ n, k' + 1 = n := ⟨_, rfl⟩
                  rw [hn] at n1 n2 hki hkl ⊢
                  have i5 : wrap64 ((n : Int) - 1) = k' := by unfold wrap64; omega
                  have i6 : k' < l.length := by omega
                  have i2 : (k' : Int) < (l.length : Int) := by omega
                  have i7 : (0 : Int) < (n : Int) := by omega
                  have i8 : 0 < n := by omega
                  have HNN := Aside0.mk hn
                  rw [hn] at c30
                  clear hn
                  refine wp_region_in [0, 0, 0, 0, 1, 0, 0, 0, 0, 0, 0, 1, 0, 0, 0, 0, 0, 0, 0, 0, 0, 0, 1, 0, 0, 0, 0, 0, 1, 0, 0, 0] [] (fun w' => w'.cell? (ad.add (n * 2)) = some (.int .u32 x.hash) ∧ w'.cell? ⟨(ad.add (n * 2)).block, (ad.add (n * 2)).off + 1, none⟩ = some (.int .i64 x.block) ∧ w'.cell? (ad.add (k' * 2)) = some (.int .u32 z)) (by kernel_rfl) rfl (by kernel_rfl) (fun _ _ _ _ h => h) ⟨n1, n2, n4⟩ ?_
                  iterate 32 (first
                    | (refine in_off0 (by rfl) ?_; simp only [Act.put, List.setIfInBounds_toArray, List.set_cons_zero, List.set_cons_succ, i64_w, i32_w])
                    | (refine in_off1 (by rfl) ?_; simp only [Act.put, List.setIfInBounds_toArray, List.set_cons_zero, List.set_cons_succ, i64_w, i32_w])
                    | (refine in_0 (v := ?_) (by rfl) rfl ?_ (a' := ?_) ?_ ?_; rotate_left; (intro w'; go_simp; with_reducible rfl); rotate_left; (simp only [Act.put, List.setIfInBounds_toArray, List.set_cons_zero, List.set_cons_succ, i64_w, i32_w]; rfl))
                    | (refine in_1 (v := ?_) (by rfl) rfl ?_ (a' := ?_) ?_ ?_; rotate_left; (rintro w' hs; go_split_ands; go_simp; with_reducible rfl); rotate_left; (simp only [Act.put, List.setIfInBounds_toArray, List.set_cons_zero, List.set_cons_succ, i64_w, i32_w]; rfl)))
                  refine in_nil ?_
                  go_wp2
                  go_ret2
                  exact pidxPost_bad (HNOT.out (fun h => by have := (HOK.out.1 h).2.2.2 (by omega); omega)) rfl HBQ.out
                · have HC3 := Aside0.mk c3
                  obtain ⟨b, hb⟩ : ∃ b : Nat, x.block = b := ⟨x.block.toNat, by omega⟩
                  have HBE := Aside0.mk hb
                  by_cases ck : k = 0
                  · have ck1 : ¬ (0 : Int) < (k : Int) := by omega
                    have ck2 : ¬ 0 < k := by omega
                    have hb255 : ¬ (255 : Int) < (b : Int) := by omega
                    have hb1 : ¬ (b : Int) < 1 := by omega
                    have HCK := Aside0.mk ck
                    clear c3 hb ck
                    refine wp_region_in [0, 0, 0, 0, 1, 0, 0, 0, 0, 0, 0, 1, 0, 0, 0, 0, 0, 0, 0, 0, 0, 0, 1, 0, 0, 0, 0, 0, 1, 0, 0, 0] [] (fun w' => w'.cell? (ad.add (k * 2)) = some (.int .u32 x.hash) ∧ w'.cell? ⟨(ad.add (k * 2)).block, (ad.add (k * 2)).off + 1, none⟩ = some (.int .i64 x.block)) (by kernel_rfl) rfl (by kernel_rfl) (fun _ _ _ _ h => h) ⟨n1, n2⟩ ?_
                    iterate 32 (first
                      | (refine in_off0 (by rfl) ?_; simp only [Act.put, List.setIfInBounds_toArray, List.set_cons_zero, List.set_cons_succ, i64_w, i32_w])
                      | (refine in_off1 (by rfl) ?_; simp only [Act.put, List.setIfInBounds_toArray, List.set_cons_zero, List.set_cons_succ, i64_w, i32_w])
                      | (refine in_0 (v := ?_) (by rfl) rfl ?_ (a' := ?_) ?_ ?_; rotate_left; (intro w'; go_simp; with_reducible rfl); rotate_left; (simp only [Act.put, List.setIfInBounds_toArray, List.set_cons_zero, List.set_cons_succ, i64_w, i32_w]; rfl))
                      | (refine in_1 (v := ?_) (by rfl) rfl ?_ (a' := ?_) ?_ ?_; rotate_left; (rintro w' hs; go_split_ands; go_simp; with_reducible rfl); rotate_left; (simp only [Act.put, List.setIfInBounds_toArray, List.set_cons_zero, List.set_cons_succ, i64_w, i32_w]; rfl)))
                    refine in_nil ?_
                    have HB2 := HBQ
                    have HR2 := HRQ
                    clear n1 n2
                    generalize wr.drew = w4 at HB2 HR2 ⊢
                    go_wp2
                    go_loopg [8] k (fun ge j wi => ∃ j' : Nat, j' + ge = k ∧ j = .int .i64 j' ∧ Aside0 (∀ i, i < j' → (prtAt l i).block ≠ (b : Int)) ∧ Aside0 (Below w.heap.size w wi) ∧ Aside0 (Row wi .u8 g 5 (pad (q0 ++ (l.take k).flatMap prtB))))
                    case atStart => exact ⟨0, by omega, rfl, ⟨fun i hi => absurd hi (by omega)⟩, HB2, HR2⟩
                    case round =>
                      obtain ⟨j', hj', rfl, HJ, HBi, HRi⟩ := hrel
                      obtain ⟨n1, n2⟩ := HLX.out _ HBi.out
                      rw [HBE.out] at n2
                      cases gk with
                      | zero =>
                        obtain rfl : j' = k := by omega
                        have hsf := seenB_false (l := l) (k := j') (b := b) (by omega) HJ.out
                        have hokk : prtOk l j' := HOK.out.2 ⟨c1, c2, by rw [HBE.out, Int.toNat_natCast]; exact hsf, fun h => Int.not_le.1 (fun h' => HC3.out ⟨h, h'⟩)⟩
                        have HOKK := Aside0.mk hokk
                        obtain ⟨q, hq⟩ : ∃ q, q0 ++ (l.take j').flatMap prtB = q := ⟨_, rfl⟩
                        have hrow := HRi.out
                        rw [hq] at hrow
                        have hm : q.length = 2 + 6 * j' := by rw [← hq, List.length_append, prtsB_length, HQ2.out, List.length_take]; omega
                        have hpl : (pad q).length = 256 := pad_length q (by omega)
                        have hput := rput_calls g q.length 4 256 x.hash _ (pad q) hrow (by rw [hpl]; omega) (by omega) (by omega) (by rw [hpl]; omega) hw0 (by omega)
                        rw [hpl, lay4_pad q x.hash (by omega), show ((q.length : Nat) : Int) = 2 + 6 * (j' : Int) by omega] at hput
                        have HPUT := Aside0.mk hput
                        have hl4 : (q ++ [x.hash % 256, x.hash / 256 % 256, x.hash / 65536 % 256, x.hash / 16777216 % 256]).length = q.length + 4 := by simp
                        have HPUT2 := Aside0.mk (fun (W : World) (hW : Row W .u8 g 5 (pad (q ++ [x.hash % 256, x.hash / 256 % 256, x.hash / 65536 % 256, x.hash / 16777216 % 256]))) => by
                          have hpl2 : (pad (q ++ [x.hash % 256, x.hash / 256 % 256, x.hash / 65536 % 256, x.hash / 16777216 % 256])).length = 256 := pad_length _ (by omega)
                          have hput := rput_calls g (q ++ [x.hash % 256, x.hash / 256 % 256, x.hash / 65536 % 256, x.hash / 16777216 % 256]).length 2 256 (b : Int) W _ hW (by rw [hpl2]; omega) (by omega) (by omega) (by rw [hpl2]; omega) (by omega) (by omega)
                          rw [hpl2, lay2_pad _ (b : Int) (by omega), hl4, show ((q.length + 4 : Nat) : Int) = 6 + 6 * (j' : Int) by omega] at hput
                          exact hput)
                        have hfin : q ++ [x.hash % 256, x.hash / 256 % 256, x.hash / 65536 % 256, x.hash / 16777216 % 256] ++ [(b : Int) % 256, (b : Int) / 256 % 256] = q0 ++ (l.take (j' + 1)).flatMap prtB := by
                          rw [HSN.out, ← List.append_assoc, hq]
                          unfold prtB
                          rw [HBE.out, List.append_assoc]
                          rfl
                        have HFIN := Aside0.mk hfin
                        clear hsf hokk hq hrow hm hpl hput hl4 hfin
                        go_wp2_with fail
                        refine HPUT.out.mono ?_
                        rintro e w5 ⟨rfl, hr5, hm5⟩
                        dsimp only
                        have HB5 := Aside0.mk (below_mod HBi.out hm5 hgs2)
                        obtain ⟨_, n2⟩ := HLX.out _ HB5.out
                        rw [HBE.out] at n2
                        clear n1
                        have HP5 := Aside0.mk (HPUT2.out w5 hr5)
                        clear hr5 hm5
                        go_wp2_with fail
                        refine HP5.out.mono ?_
                        rintro e w6 ⟨rfl, hr6, hm6⟩
                        rw [HFIN.out] at hr6
                        dsimp only
                        have HB6 := Aside0.mk (below_mod HB5.out hm6 hgs2)
                        have HR6 := Aside0.mk hr6
                        clear hr6 hm6 n2
                        go_wp2
                        go_roundg gg
                        case measure => omega
                        case rel => exact ⟨j' + 1, by omega, by go_num, HR6, HB6, ⟨fun i hi => by
                          by_cases e : i = j'
                          · subst e; exact HOKK.out
                          · exact HK.out i (by omega)⟩⟩
                      | succ ge => exact absurd HCK.out (by omega)
                  · have n4 := N4.out ck
                    obtain ⟨k', hk'⟩ : ∃ k', k = k' + 1 := ⟨k - 1, by omega⟩
                    have hbb : z < x.hash := Int.not_le.1 (fun h' => c3 ⟨by omega, h'⟩)
                    have hbb2 : ¬ x.hash ≤ z := by omega
                    have i5 : wrap64 ((k : Int) - 1) = k' := by unfold wrap64; omega
                    rw [show k - 1 = k' by omega] at n4
                    have i6 : k' < l.length := by omega
                    have i2 : (k' : Int) < (l.length : Int) := by omega
                    have i7 : (0 : Int) < (k : Int) := by omega
                    have i8 : 0 < k := by omega
                    have hb255 : ¬ (255 : Int) < (b : Int) := by omega
                    have hb1 : ¬ (b : Int) < 1 := by omega
                    clear c3 hb hk'
                    refine wp_region_in [0, 0, 0, 0, 1, 0, 0, 0, 0, 0, 0, 1, 0, 0, 0, 0, 0, 0, 0, 0, 0, 0, 1, 0, 0, 0, 0, 0, 1, 0, 0, 0] [] (fun w' => w'.cell? (ad.add (k * 2)) = some (.int .u32 x.hash) ∧ w'.cell? ⟨(ad.add (k * 2)).block, (ad.add (k * 2)).off + 1, none⟩ = some (.int .i64 x.block) ∧ w'.cell? (ad.add (k' * 2)) = some (.int .u32 z)) (by kernel_rfl) rfl (by kernel_rfl) (fun _ _ _ _ h => h) ⟨n1, n2, n4⟩ ?_
                    iterate 32 (first
                      | (refine in_off0 (by rfl) ?_; simp only [Act.put, List.setIfInBounds_toArray, List.set_cons_zero, List.set_cons_succ, i64_w, i32_w])
                      | (refine in_off1 (by rfl) ?_; simp only [Act.put, List.setIfInBounds_toArray, List.set_cons_zero, List.set_cons_succ, i64_w, i32_w])
                      | (refine in_0 (v := ?_) (by rfl) rfl ?_ (a' := ?_) ?_ ?_; rotate_left; (intro w'; go_simp; with_reducible rfl); rotate_left; (simp only [Act.put, List.setIfInBounds_toArray, List.set_cons_zero, List.set_cons_succ, i64_w, i32_w]; rfl))
                      | (refine in_1 (v := ?_) (by rfl) rfl ?_ (a' := ?_) ?_ ?_; rotate_left; (rintro w' hs; go_split_ands; go_simp; with_reducible rfl); rotate_left; (simp only [Act.put, List.setIfInBounds_toArray, List.set_cons_zero, List.set_cons_succ, i64_w, i32_w]; rfl)))
                    refine in_nil ?_
                    have HB2 := HBQ
                    have HR2 := HRQ
                    clear n1 n2
                    generalize wr.drew = w4 at HB2 HR2 ⊢
                    go_wp2
                    go_loopg [8] k (fun ge j wi => ∃ j' : Nat, j' + ge = k ∧ j = .int .i64 j' ∧ Aside0 (∀ i, i < j' → (prtAt l i).block ≠ (b : Int)) ∧ Aside0 (Below w.heap.size w wi) ∧ Aside0 (Row wi .u8 g 5 (pad (q0 ++ (l.take k).flatMap prtB))))
                    case atStart => exact ⟨0, by omega, rfl, ⟨fun i hi => absurd hi (by omega)⟩, HB2, HR2⟩
                    case round =>
                      obtain ⟨j', hj', rfl, HJ, HBi, HRi⟩ := hrel
                      obtain ⟨n1, n2⟩ := HLX.out _ HBi.out
                      rw [HBE.out] at n2
                      cases gk with
                      | zero =>
                        obtain rfl : j' = k := by omega
                        have hsf := seenB_false (l := l) (k := j') (b := b) (by omega) HJ.out
                        have hokk : prtOk l j' := HOK.out.2 ⟨c1, c2, by rw [HBE.out, Int.toNat_natCast]; exact hsf, fun h => Int.not_le.1 (fun h' => HC3.out ⟨h, h'⟩)⟩
                        have HOKK := Aside0.mk hokk
                        obtain ⟨q, hq⟩ : ∃ q, q0 ++ (l.take j').flatMap prtB = q := ⟨_, rfl⟩
                        have hrow := HRi.out
                        rw [hq] at hrow
                        have hm : q.length = 2 + 6 * j' := by rw [← hq, List.length_append, prtsB_length, HQ2.out, List.length_take]; omega
                        have hpl : (pad q).length = 256 := pad_length q (by omega)
                        have hput := rput_calls g q.length 4 256 x.hash _ (pad q) hrow (by rw [hpl]; omega) (by omega) (by omega) (by rw [hpl]; omega) hw0 (by omega)
                        rw [hpl, lay4_pad q x.hash (by omega), show ((q.length : Nat) : Int) = 2 + 6 * (j' : Int) by omega] at hput
                        have HPUT := Aside0.mk hput
                        have hl4 : (q ++ [x.hash % 256, x.hash / 256 % 256, x.hash / 65536 % 256, x.hash / 16777216 % 256]).length = q.length + 4 := by simp
                        have HPUT2 := Aside0.mk (fun (W : World) (hW : Row W .u8 g 5 (pad (q ++ [x.hash % 256, x.hash / 256 % 256, x.hash / 65536 % 256, x.hash / 16777216 % 256]))) => by
                          have hpl2 : (pad (q ++ [x.hash % 256, x.hash / 256 % 256, x.hash / 65536 % 256, x.hash / 16777216 % 256])).length = 256 := pad_length _ (by omega)
                          have hput := rput_calls g (q ++ [x.hash % 256, x.hash / 256 % 256, x.hash / 65536 % 256, x.hash / 16777216 % 256]).length 2 256 (b : Int) W _ hW (by rw [hpl2]; omega) (by omega) (by omega) (by rw [hpl2]; omega) (by omega) (by omega)
                          rw [hpl2, lay2_pad _ (b : Int) (by omega), hl4, show ((q.length + 4 : Nat) : Int) = 6 + 6 * (j' : Int) by omega] at hput
                          exact hput)
                        have hfin : q ++ [x.hash % 256, x.hash / 256 % 256, x.hash / 65536 % 256, x.hash / 16777216 % 256] ++ [(b : Int) % 256, (b : Int) / 256 % 256] = q0 ++ (l.take (j' + 1)).flatMap prtB := by
                          rw [HSN.out, ← List.append_assoc, hq]
                          unfold prtB
                          rw [HBE.out, List.append_assoc]
                          rfl
                        have HFIN := Aside0.mk hfin
                        clear hsf hokk hq hrow hm hpl hput hl4 hfin
                        go_wp2_with fail
                        refine HPUT.out.mono ?_
                        rintro e w5 ⟨rfl, hr5, hm5⟩
                        dsimp only
                        have HB5 := Aside0.mk (below_mod HBi.out hm5 hgs2)
                        obtain ⟨_, n2⟩ := HLX.out _ HB5.out
                        rw [HBE.out] at n2
                        clear n1
                        have HP5 := Aside0.mk (HPUT2.out w5 hr5)
                        clear hr5 hm5
                        go_wp2_with fail
                        refine HP5.out.mono ?_
                        rintro e w6 ⟨rfl, hr6, hm6⟩
                        rw [HFIN.out] at hr6
                        dsimp only
                        have HB6 := Aside0.mk (below_mod HB5.out hm6 hgs2)
                        have HR6 := Aside0.mk hr6
                        clear hr6 hm6 n2
                        go_wp2
                        go_roundg gg
                        case measure => omega
                        case rel => exact ⟨j' + 1, by omega, by go_num, HR6, HB6, ⟨fun i hi => by
                          by_cases e : i = j'
                          · subst e; exact HOKK.out
                          · exact HK.out i (by omega)⟩⟩
                      | succ ge =>
                        obtain ⟨ad', e, _, m2⟩ := (HL.out.below HBi.out).cells j' (by omega)
                        cases e
                        obtain ⟨y, hy⟩ : ∃ y, (prtAt l j').block = y := ⟨_, rfl⟩
                        rw [hy] at m2
                        have HY := Aside0.mk hy
                        clear hy n1
                        have j1 : (j' : Int) < (l.length : Int) := by omega
                        have j2 : j' < l.length := by omega
                        have j3 : (j' : Int) < (k : Int) := by omega
                        by_cases cy : y = (b : Int)
                        · subst cy
                          have hst : seenB l k b = true := seenB_true (by omega) (by omega : j' < k) HY.out
                          have HST := Aside0.mk hst
                          clear hst
                          go_wp2
                          go_quiet (fail)
                          go_wp2
                          go_ret2
                          exact pidxPost_bad (HNOT.out (fun h => by have := (HOK.out.1 h).2.2.1; rw [HBE.out, Int.toNat_natCast, HST.out] at this; cases this)) rfl (pw_below_drewN HBi.out _)
                        · go_wp2
                          go_quiet (fail)
                          have HB7 := Aside0.mk (pw_below_drewN HBi.out nq)
                          go_wp2
                          go_roundg ge
                          case measure => omega
                          case rel => exact ⟨j' + 1, by omega, by go_num, ⟨fun i hi => by
                            by_cases e : i = j'
                            · subst e; rw [HY.out]; exact cy
                            · exact HJ.out i (by omega)⟩, HB7, ⟨HRi.out.below (pw_below_drewN (Below.refl _ _) _)⟩⟩
      · have hp : pidxI l s = ([], 22) := by unfold pidxI; rw [if_pos (.inr (.inr hz))]
        have hz1 : ((prtAt l 0).hash != 0) = true := by simpa using hz
        clear hl hz
        go_enter Try.func28, Try.ntmps28
        go_wp2
        go_ret2
        exact pidxPost_bad hp rfl (Below.refl _ _)
end Go.Proofs.Ytjggkaieagbjmaa.Hand
