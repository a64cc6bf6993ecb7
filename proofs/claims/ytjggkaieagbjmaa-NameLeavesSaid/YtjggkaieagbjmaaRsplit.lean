/- The document's parting of entries, walked: it parts where the program parts. -/
import Derived.Test.YtjggkaieagbjmaaRpack1
namespace Go.Proofs.Ytjggkaieagbjmaa.Hand
set_option linter.unusedVariables false
set_option linter.unusedSimpArgs false
open Go.Shelf Go.RowKit Go.Proofs.YtjggkaieagbjmaaW.PrintWords Go.Proofs.YtjggkaieagbjmaaW.PrintLast Go.Proofs.YtjggkaieagbjmaaW.PrintMore

set_option maxHeartbeats 1000000 in
set_option maxRecDepth 100000 in
theorem rsplit_calls (A : Option Addr) (c : Nat) (l : List Ent) (w : World) (hl : Ents w A l) (hc : l.length ≤ c) (h47 : ∀ j, j < l.length → (entAt l j).name.size ≤ 1152921504606846976) :
    Calls Try.prog 24 #[.slice A l.length c] w fun e w' => e = .returned (.int .i64 (splitI l)) ∧ Below w.heap.size w w' := by
  have HL := Aside0.mk hl
  have H47 := Aside0.mk h47
  have hsz := hl.size
  have HPRE := Aside0.mk (fun (n : Nat) (hn : n ≤ l.length) (W : World) (hW : Below w.heap.size w W) => by
    have := rsize_calls A c (l.take n) W ((hl.below hW).take n) (fun j hj => by
      rw [List.length_take] at hj
      rw [entAt_take l n j (by omega)]
      exact h47 j (by omega))
    rw [List.length_take, Nat.min_eq_left hn] at this
    exact this)
  clear hl h47
  obtain ⟨r, hr⟩ : ∃ r, splitI l = r := ⟨_, rfl⟩
  obtain ⟨q, hq⟩ : ∃ q, sizeW l = q := ⟨_, rfl⟩
  rw [hr]
  have HR := Aside0.mk hr
  have HQ := Aside0.mk hq
  clear hr hq
  go_enter Try.func24, Try.ntmps24
  go_wp2_with fail
  refine (rsize_calls A c l w HL.out H47.out).mono ?_
  rintro e w0 ⟨rfl, rfl⟩
  rw [HQ.out]
  go_wp2
  go_loopg [4, 5] (l.length - 1) (fun g la i wr => ∃ (k : Nat) (last : Int), k + g = l.length - 1 + 1 ∧ 1 ≤ k ∧ i = .int .i64 k ∧ la = .int .i64 last ∧ Aside0 (r = splitGo l g k last) ∧ Aside0 (Below w.heap.size w wr))
  case atStart => exact ⟨1, 0, by omega, by omega, rfl, rfl, ⟨by rw [← HR.out]; rfl⟩, ⟨Below.refl _ _⟩⟩
  case round =>
    obtain ⟨k, last, hk, hk1, rfl, rfl, HG, HB⟩ := hrel
    cases gk with
    | zero =>
      have hkl : ¬ k < l.length := by omega
      go_wp2
      go_ret
      exact ⟨by rw [HG.out]; rfl, HB.out⟩
    | succ g =>
      have hkl : k < l.length := by omega
      obtain ⟨k, rfl⟩ : ∃ k', k = k' + 1 := ⟨k - 1, by omega⟩
      obtain ⟨ad, rfl, _, _, h3⟩ := (HL.out.below HB.out).cells (k + 1) (by omega)
      obtain ⟨ad', e, _, _, g3⟩ := (HL.out.below HB.out).cells k (by omega)
      cases e
      have hx := H47.out (k + 1) (by omega)
      have hz := H47.out k (by omega)
      have hgo : splitGo l (g + 1) (k + 1) last = if hashI (entAt l (k + 1)).name = hashI (entAt l k).name then splitGo l g (k + 1 + 1) last else if sizeW l ≤ wrap64 (2 * sizeW (l.take (k + 1))) then ((k + 1 : Nat) : Int) else splitGo l g (k + 1 + 1) ((k + 1 : Nat) : Int) := rfl
      obtain ⟨x, hxx⟩ : ∃ x, (entAt l (k + 1)).name = x := ⟨_, rfl⟩
      obtain ⟨z, hzz⟩ : ∃ z, (entAt l k).name = z := ⟨_, rfl⟩
      obtain ⟨y1, hy1⟩ : ∃ y, sizeW (l.take (k + 1)) = y := ⟨_, rfl⟩
      obtain ⟨p, hp⟩ : ∃ p, hashI x = p := ⟨_, rfl⟩
      obtain ⟨p', hp'⟩ : ∃ p, hashI z = p := ⟨_, rfl⟩
      rw [hxx] at h3 hx hgo
      rw [hzz] at g3 hz hgo
      rw [hy1, HQ.out, hp, hp'] at hgo
      rw [hgo] at HG
      have HP := Aside0.mk hp
      have HP' := Aside0.mk hp'
      have HY1 := Aside0.mk hy1
      have hS : ∀ w', Below wr.heap.size wr w' → (w'.cell? ⟨(ad.add ((k + 1) * 3)).block, (ad.add ((k + 1) * 3)).off + 2, none⟩ = some (.string x) ∧ w'.cell? ⟨(ad.add (k * 3)).block, (ad.add (k * 3)).off + 2, none⟩ = some (.string z) ∧ Below wr.heap.size wr w') := fun w' hb =>
        ⟨pw_cell_below hb h3, pw_cell_below hb g3, hb⟩
      have HS := Aside0.mk hS
      clear hp hp' hy1 hxx hzz hgo hS
      obtain ⟨n, hn⟩ : ∃ n, k + 1 = n := ⟨_, rfl⟩
      rw [hn] at HS HG HY1 hk hkl ⊢
      have i3 : (n : Int) < (l.length : Int) := by omega
      have i4 : n < l.length := by omega
      have i5 : wrap64 ((n : Int) - 1) = k := by unfold wrap64; omega
      have i6 : k < l.length := by omega
      have i2 : (k : Int) < (l.length : Int) := by omega
      have HN := Aside0.mk hn
      clear hn h3 g3
      go_wp2
      refine wp_region_ord [0, 1, 2, 3, 4, 6, 7, 8, 9, 10, 11, 5, 12, 13] [0, 0, 0, 0, 1, 0, 0, 0, 0, 0, 1, 2, 2, 0] (fun w' => w'.cell? ⟨(ad.add (n * 3)).block, (ad.add (n * 3)).off + 2, none⟩ = some (.string x) ∧ w'.cell? ⟨(ad.add (k * 3)).block, (ad.add (k * 3)).off + 2, none⟩ = some (.string z) ∧ Below wr.heap.size wr w') (by kernel_rfl) rfl (by kernel_rfl) (fun _ _ _ _ h => h) (HS.out _ (Below.refl _ _).drew) ?_
      iterate 11 (first
        | (refine inP_off0 (by rfl) (by rfl) ?_; simp only [Act.put, List.setIfInBounds_toArray, List.set_cons_zero, List.set_cons_succ, i64_w, i32_w])
        | (refine inP_off1 (by rfl) (by rfl) ?_; simp only [Act.put, List.setIfInBounds_toArray, List.set_cons_zero, List.set_cons_succ, i64_w, i32_w])
        | (refine inP_0 (v := ?_) (by rfl) (by rfl) rfl ?_ (a' := ?_) ?_ ?_; rotate_left; (intro w'; go_simp; with_reducible rfl); rotate_left; (simp only [Act.put, List.setIfInBounds_toArray, List.set_cons_zero, List.set_cons_succ, i64_w, i32_w]; rfl))
        | (refine inP_1 (v := ?_) (by rfl) (by rfl) rfl ?_ (a' := ?_) ?_ ?_; rotate_left; (rintro w' hs; go_split_ands; go_simp; with_reducible rfl); rotate_left; (simp only [Act.put, List.setIfInBounds_toArray, List.set_cons_zero, List.set_cons_succ, i64_w, i32_w]; rfl)))
      refine inP_2 (by rfl) (by rfl) (fun K hK => ?_)
      go_simp
      refine (rhash_calls x _ (by omega)).mono ?_
      rintro e w3 ⟨rfl, rfl⟩
      rw [HP.out]
      dsimp only
      have hb4 := (Below.refl wr.heap.size wr).drew
      refine hK _ _ (HS.out _ hb4) ?_
      have HB4 := Aside0.mk hb4
      clear hK K hb4
      try simp only [Act.put, List.setIfInBounds_toArray, List.set_cons_zero, List.set_cons_succ, i64_w, i32_w]
      refine inP_2 (by rfl) (by rfl) (fun K hK => ?_)
      go_simp
      refine (rhash_calls z _ (by omega)).mono ?_
      rintro e w5 ⟨rfl, rfl⟩
      rw [HP'.out]
      dsimp only
      refine hK _ _ (HS.out _ HB4.out) ?_
      have HB6 := Aside0.mk (below_then HB.out HB.out.size HB4.out)
      clear hK K
      try simp only [Act.put, List.setIfInBounds_toArray, List.set_cons_zero, List.set_cons_succ, i64_w, i32_w]
      have HS7 := Aside0.mk (HPRE.out n (by omega) wr.drew HB6.out)
      rw [HY1.out] at HS7
      by_cases hpp : p = p'
      · subst hpp
        have HG1 := Aside0.mk (HG.out.trans (if_pos rfl))
        iterate 1 (first
          | (refine inP_off0 (by rfl) (by rfl) ?_; simp only [Act.put, List.setIfInBounds_toArray, List.set_cons_zero, List.set_cons_succ, i64_w, i32_w])
          | (refine inP_off1 (by rfl) (by rfl) ?_; simp only [Act.put, List.setIfInBounds_toArray, List.set_cons_zero, List.set_cons_succ, i64_w, i32_w])
          | (refine inP_0 (v := ?_) (by rfl) (by rfl) rfl ?_ (a' := ?_) ?_ ?_; rotate_left; (intro w'; go_simp; with_reducible rfl); rotate_left; (simp only [Act.put, List.setIfInBounds_toArray, List.set_cons_zero, List.set_cons_succ, i64_w, i32_w]; rfl))
          | (refine inP_1 (v := ?_) (by rfl) (by rfl) rfl ?_ (a' := ?_) ?_ ?_; rotate_left; (rintro w' hs; go_split_ands; go_simp; with_reducible rfl); rotate_left; (simp only [Act.put, List.setIfInBounds_toArray, List.set_cons_zero, List.set_cons_succ, i64_w, i32_w]; rfl)))
        refine inP_nil ?_
        go_wp2
        go_roundg g
        case measure => omega
        case rel => exact ⟨n + 1, last, by omega, by omega, by go_num, rfl, HG1, HB6⟩
      · have hpb : (p == p') = false := by simpa using hpp
        have hg1 := HG.out.trans (if_neg hpp)
        clear hpp
        by_cases hq : q ≤ wrap64 (2 * y1)
        · rw [if_pos hq] at hg1
          have HG1 := Aside0.mk hg1
          clear hg1
          iterate 1 (first
            | (refine inP_off0 (by rfl) (by rfl) ?_; simp only [Act.put, List.setIfInBounds_toArray, List.set_cons_zero, List.set_cons_succ, i64_w, i32_w])
            | (refine inP_off1 (by rfl) (by rfl) ?_; simp only [Act.put, List.setIfInBounds_toArray, List.set_cons_zero, List.set_cons_succ, i64_w, i32_w])
            | (refine inP_0 (v := ?_) (by rfl) (by rfl) rfl ?_ (a' := ?_) ?_ ?_; rotate_left; (intro w'; go_simp; with_reducible rfl); rotate_left; (simp only [Act.put, List.setIfInBounds_toArray, List.set_cons_zero, List.set_cons_succ, i64_w, i32_w]; rfl))
            | (refine inP_1 (v := ?_) (by rfl) (by rfl) rfl ?_ (a' := ?_) ?_ ?_; rotate_left; (rintro w' hs; go_split_ands; go_simp; with_reducible rfl); rotate_left; (simp only [Act.put, List.setIfInBounds_toArray, List.set_cons_zero, List.set_cons_succ, i64_w, i32_w]; rfl)))
          refine inP_nil ?_
          go_wp2_with fail
          refine HS7.out.mono ?_
          rintro e w8 ⟨rfl, rfl⟩
          dsimp only
          go_wp2
          go_ret
          exact ⟨by rw [HG1.out]; rfl, HB6.out⟩
        · rw [if_neg hq] at hg1
          have HG1 := Aside0.mk hg1
          clear hg1
          iterate 1 (first
            | (refine inP_off0 (by rfl) (by rfl) ?_; simp only [Act.put, List.setIfInBounds_toArray, List.set_cons_zero, List.set_cons_succ, i64_w, i32_w])
            | (refine inP_off1 (by rfl) (by rfl) ?_; simp only [Act.put, List.setIfInBounds_toArray, List.set_cons_zero, List.set_cons_succ, i64_w, i32_w])
            | (refine inP_0 (v := ?_) (by rfl) (by rfl) rfl ?_ (a' := ?_) ?_ ?_; rotate_left; (intro w'; go_simp; with_reducible rfl); rotate_left; (simp only [Act.put, List.setIfInBounds_toArray, List.set_cons_zero, List.set_cons_succ, i64_w, i32_w]; rfl))
            | (refine inP_1 (v := ?_) (by rfl) (by rfl) rfl ?_ (a' := ?_) ?_ ?_; rotate_left; (rintro w' hs; go_split_ands; go_simp; with_reducible rfl); rotate_left; (simp only [Act.put, List.setIfInBounds_toArray, List.set_cons_zero, List.set_cons_succ, i64_w, i32_w]; rfl)))
          refine inP_nil ?_
          go_wp2_with fail
          refine HS7.out.mono ?_
          rintro e w8 ⟨rfl, rfl⟩
          dsimp only
          go_wp2
          go_roundg g
          case measure => omega
          case rel => exact ⟨n + 1, (n : Int), by omega, by omega, by go_num, rfl, HG1, HB6⟩
end Go.Proofs.Ytjggkaieagbjmaa.Hand
