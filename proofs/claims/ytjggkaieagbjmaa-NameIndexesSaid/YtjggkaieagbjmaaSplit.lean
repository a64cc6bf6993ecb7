/- Package name: where entries are parted, as the plain functions say (sums may wrap). -/
import Derived.Test.YtjggkaieagbjmaaMine
import Derived.Test.YtjggkaieagbjmaaRegionP
namespace Go.Proofs.Ytjggkaieagbjmaa.Hand
set_option linter.unusedVariables false
set_option linter.unusedSimpArgs false
open Go.Shelf Go.RowKit Go.Proofs.YtjggkaieagbjmaaW.PrintWords Go.Proofs.YtjggkaieagbjmaaW.PrintLast Go.Proofs.YtjggkaieagbjmaaW.PrintMore

/-- The bytes of entries, as the machine's number. -/
def sizeW (l : List Ent) : Int := l.foldl (fun n x => wrap64 (n + (4 + (x.name.size : Int)))) 0
theorem sizeW_snoc (l : List Ent) (k : Nat) (h : k < l.length) : sizeW (l.take (k + 1)) = wrap64 (sizeW (l.take k) + (4 + ((entAt l k).name.size : Int))) := by
  unfold sizeW entAt
  rw [List.take_succ_eq_append_getElem h, List.foldl_append]
  simp [List.getD_eq_getElem?_getD, h]
theorem sizeW_range (l : List Ent) : -9223372036854775808 ≤ sizeW l ∧ sizeW l < 9223372036854775808 := by
  rcases List.eq_nil_or_concat l with rfl | ⟨l', x, rfl⟩
  · exact ⟨by decide, by decide⟩
  · unfold sizeW
    rw [List.concat_eq_append, List.foldl_append]
    simp only [List.foldl_cons, List.foldl_nil]
    unfold wrap64
    omega
/-- Where entries are parted: from place k on, with g places left. -/
def splitGo (l : List Ent) : Nat → Nat → Int → Int
  | 0, _, last => last
  | g + 1, k, last => if hashI (entAt l k).name = hashI (entAt l (k - 1)).name then splitGo l g (k + 1) last else if sizeW l ≤ wrap64 (2 * sizeW (l.take k)) then k else splitGo l g (k + 1) k
def splitI (l : List Ent) : Int := splitGo l (l.length - 1) 1 0

set_option maxHeartbeats 1000000 in
set_option maxRecDepth 100000 in
theorem sizew_calls (A : Option Addr) (c : Nat) (l : List Ent) (w : World) (hl : Ents w A l) (h47 : ∀ j, j < l.length → (entAt l j).name.size ≤ 1152921504606846976) :
    Calls Try.prog 36 #[.slice A l.length c] w fun e w' => e = .returned (.int .i64 (sizeW l)) ∧ Below w.heap.size w w' := by
  have HL := Aside0.mk hl
  have H47 := Aside0.mk h47
  have hsz := hl.size
  clear hl h47
  go_enter Try.func36, Try.ntmps36
  go_wp2
  go_loopg [3, 8] l.length (fun g x i wr => ∃ k : Nat, k + g = l.length ∧ x = .int .i64 (sizeW (l.take k)) ∧ i = .int .i64 k ∧ Aside0 (Below w.heap.size w wr))
  case atStart => exact ⟨0, by omega, rfl, rfl, ⟨Below.refl _ _⟩⟩
  case round =>
    obtain ⟨k, hk, rfl, rfl, HB⟩ := hrel
    obtain ⟨y, hy⟩ : ∃ y, sizeW (l.take k) = y := ⟨_, rfl⟩
    rw [hy]
    have HY := Aside0.mk hy
    clear hy
    cases gk with
    | zero =>
      obtain rfl : k = l.length := by omega
      go_wp2
      go_ret
      exact ⟨by rw [← HY.out, List.take_length]; rfl, HB.out⟩
    | succ g =>
      obtain ⟨ad, rfl, h1, h2, h3⟩ := (HL.out.below HB.out).cells k (by omega)
      have hx := H47.out k (by omega)
      have hsn := sizeW_snoc l k (by omega)
      rw [HY.out] at hsn
      obtain ⟨x, hxx⟩ : ∃ x, entAt l k = x := ⟨_, rfl⟩
      rw [hxx] at h1 h2 h3 hx hsn
      have HS := Aside0.mk hsn
      clear hsn hxx
      have hB1 := fun o => below_alloc HB.out o
      have HB1 := Aside0.mk hB1
      clear hB1
      go_wp2
      go_roundg g
      case measure => omega
      case rel => exact ⟨k + 1, by omega, by rw [HS.out], by go_num, ⟨HB1.out _⟩⟩

set_option maxHeartbeats 1000000 in
set_option maxRecDepth 100000 in
theorem split_calls (A : Option Addr) (c : Nat) (l : List Ent) (w : World) (hl : Ents w A l) (h47 : ∀ j, j < l.length → (entAt l j).name.size ≤ 1152921504606846976) :
    Calls Try.prog 23 #[.slice A l.length c] w fun e w' => e = .returned (.int .i64 (splitI l)) ∧ Below w.heap.size w w' := by
  have HL := Aside0.mk hl
  have H47 := Aside0.mk h47
  have hsz := hl.size
  clear hl h47
  obtain ⟨r, hr⟩ : ∃ r, splitI l = r := ⟨_, rfl⟩
  obtain ⟨q, hq⟩ : ∃ q, sizeW l = q := ⟨_, rfl⟩
  rw [hr]
  have HR := Aside0.mk hr
  have HQ := Aside0.mk hq
  clear hr hq
  go_enter Try.func23, Try.ntmps23
  go_wp2_with fail
  refine (sizew_calls A c l w HL.out H47.out).mono ?_
  rintro e w0 ⟨rfl, hb0⟩
  rw [HQ.out]
  have HB0 := Aside0.mk hb0
  clear hb0
  dsimp only
  go_wp2
  go_loopg [4, 5, 6] (l.length - 1) (fun g a la i wr => ∃ (k : Nat) (last : Int), k + g = l.length - 1 + 1 ∧ 1 ≤ k ∧ i = .int .i64 k ∧ la = .int .i64 last ∧ a = .int .i64 (sizeW (l.take (k - 1))) ∧ Aside0 (r = splitGo l g k last) ∧ Aside0 (Below w.heap.size w wr))
  case atStart => exact ⟨1, 0, by omega, by omega, rfl, rfl, rfl, ⟨by rw [← HR.out]; rfl⟩, HB0⟩
  case round =>
    obtain ⟨k, last, hk, hk1, rfl, rfl, rfl, HG, HB⟩ := hrel
    cases gk with
    | zero =>
      have hkl : ¬ k < l.length := by omega
      go_wp2
      go_ret
      exact ⟨by rw [HG.out]; rfl, HB.out⟩
    | succ g =>
      have hkl : k < l.length := by omega
      obtain ⟨k, rfl⟩ : ∃ k', k = k' + 1 := ⟨k - 1, by omega⟩
      simp only [Nat.add_sub_cancel]
      obtain ⟨ad, rfl, _, _, h3⟩ := (HL.out.below HB.out).cells (k + 1) (by omega)
      obtain ⟨ad', e, _, _, g3⟩ := (HL.out.below HB.out).cells k (by omega)
      cases e
      have hx := H47.out (k + 1) (by omega)
      have hz := H47.out k (by omega)
      have hsn := sizeW_snoc l k (by omega)
      have hgo : splitGo l (g + 1) (k + 1) last = if hashI (entAt l (k + 1)).name = hashI (entAt l k).name then splitGo l g (k + 1 + 1) last else if sizeW l ≤ wrap64 (2 * sizeW (l.take (k + 1))) then ((k + 1 : Nat) : Int) else splitGo l g (k + 1 + 1) ((k + 1 : Nat) : Int) := rfl
      obtain ⟨x, hxx⟩ : ∃ x, (entAt l (k + 1)).name = x := ⟨_, rfl⟩
      obtain ⟨z, hzz⟩ : ∃ z, (entAt l k).name = z := ⟨_, rfl⟩
      obtain ⟨y, hy⟩ : ∃ y, sizeW (l.take k) = y := ⟨_, rfl⟩
      obtain ⟨y1, hy1⟩ : ∃ y, sizeW (l.take (k + 1)) = y := ⟨_, rfl⟩
      obtain ⟨p, hp⟩ : ∃ p, hashI x = p := ⟨_, rfl⟩
      obtain ⟨p', hp'⟩ : ∃ p, hashI z = p := ⟨_, rfl⟩
      rw [hxx] at h3 hx hgo
      rw [hzz] at g3 hz hsn hgo
      rw [hy, hy1] at hsn
      rw [hy1, HQ.out, hp, hp'] at hgo
      rw [hy]
      rw [hgo] at HG
      have HSN := Aside0.mk hsn
      have HP := Aside0.mk hp
      have HP' := Aside0.mk hp'
      have HY1 := Aside0.mk hy1
      have i1 : (k : Int) + 1 < (l.length : Int) := by omega
      have i2 : (k : Int) < (l.length : Int) := by omega
      have hS : ∀ w', Below wr.heap.size wr w' → (w'.cell? ⟨(ad.add ((k + 1) * 3)).block, (ad.add ((k + 1) * 3)).off + 2, none⟩ = some (.string x) ∧ w'.cell? ⟨(ad.add (k * 3)).block, (ad.add (k * 3)).off + 2, none⟩ = some (.string z) ∧ Below wr.heap.size wr w') := fun w' hb =>
        ⟨pw_cell_below hb h3, pw_cell_below hb g3, hb⟩
      have HS := Aside0.mk hS
      clear hsn hp hp' hy hy1 hxx hzz hgo hS
      go_wp2
      rw [← HSN.out]
      obtain ⟨n, hn⟩ : ∃ n, k + 1 = n := ⟨_, rfl⟩
      rw [hn] at HS HG hk ⊢
      have i3 : (n : Int) < (l.length : Int) := by omega
      have i4 : n < l.length := by omega
      have i5 : wrap64 ((n : Int) - 1) = k := by unfold wrap64; omega
      have i6 : k < l.length := by omega
      clear i1 hkl
      refine wp_region_ord [0, 1, 2, 3, 4, 6, 7, 8, 9, 10, 11, 5, 12, 13] [0, 0, 0, 0, 1, 0, 0, 0, 0, 0, 1, 2, 2, 0] (fun w' => w'.cell? ⟨(ad.add (n * 3)).block, (ad.add (n * 3)).off + 2, none⟩ = some (.string x) ∧ w'.cell? ⟨(ad.add (k * 3)).block, (ad.add (k * 3)).off + 2, none⟩ = some (.string z) ∧ Below wr.heap.size wr w') (by kernel_rfl) rfl (by kernel_rfl) (fun _ _ _ _ h => h) (HS.out _ (Below.refl _ _).drew) ?_
      iterate 11 (first
        | (refine inQ_off0 (by rfl) (by rfl) ?_; simp only [Act.put, List.setIfInBounds_toArray, List.set_cons_zero, List.set_cons_succ, i64_w, i32_w])
        | (refine inQ_off1 (by rfl) (by rfl) ?_; simp only [Act.put, List.setIfInBounds_toArray, List.set_cons_zero, List.set_cons_succ, i64_w, i32_w])
        | (refine inQ_0 (v := ?_) (by rfl) (by rfl) rfl ?_ (a' := ?_) ?_ ?_; rotate_left; (intro w'; go_simp; with_reducible rfl); rotate_left; (simp only [Act.put, List.setIfInBounds_toArray, List.set_cons_zero, List.set_cons_succ, i64_w, i32_w]; rfl))
        | (refine inQ_1 (v := ?_) (by rfl) (by rfl) rfl ?_ (a' := ?_) ?_ ?_; rotate_left; (rintro w' hs; go_split_ands; go_simp; with_reducible rfl); rotate_left; (simp only [Act.put, List.setIfInBounds_toArray, List.set_cons_zero, List.set_cons_succ, i64_w, i32_w]; rfl)))
      refine inP_2 (by rfl) (by rfl) (fun K hK => ?_)
      go_simp
      refine (hash_calls x _ (by omega)).mono ?_
      rintro e w3 ⟨rfl, hb3⟩
      rw [HP.out]
      dsimp only
      have hb4 := below_then (Below.refl wr.heap.size wr).drew (Nat.le_refl _) hb3
      refine hK _ _ (HS.out _ hb4) ?_
      have HB4 := Aside0.mk hb4
      clear hK K hb3 hb4
      try simp only [Act.put, List.setIfInBounds_toArray, List.set_cons_zero, List.set_cons_succ, i64_w, i32_w]
      refine inP_2 (by rfl) (by rfl) (fun K hK => ?_)
      go_simp
      refine (hash_calls z _ (by omega)).mono ?_
      rintro e w5 ⟨rfl, hb5⟩
      rw [HP'.out]
      dsimp only
      have hb6 := below_then HB4.out HB4.out.size hb5
      refine hK _ _ (HS.out _ hb6) ?_
      have HB6 := Aside0.mk (below_then HB.out HB.out.size hb6)
      clear hK K hb5 hb6
      try simp only [Act.put, List.setIfInBounds_toArray, List.set_cons_zero, List.set_cons_succ, i64_w, i32_w]
      by_cases hpp : p = p'
      · subst hpp
        have HG1 := Aside0.mk (HG.out.trans (if_pos rfl))
        iterate 1 (first
          | (refine inQ_off0 (by rfl) (by rfl) ?_; simp only [Act.put, List.setIfInBounds_toArray, List.set_cons_zero, List.set_cons_succ, i64_w, i32_w])
          | (refine inQ_off1 (by rfl) (by rfl) ?_; simp only [Act.put, List.setIfInBounds_toArray, List.set_cons_zero, List.set_cons_succ, i64_w, i32_w])
          | (refine inQ_0 (v := ?_) (by rfl) (by rfl) rfl ?_ (a' := ?_) ?_ ?_; rotate_left; (intro w'; go_simp; with_reducible rfl); rotate_left; (simp only [Act.put, List.setIfInBounds_toArray, List.set_cons_zero, List.set_cons_succ, i64_w, i32_w]; rfl))
          | (refine inQ_1 (v := ?_) (by rfl) (by rfl) rfl ?_ (a' := ?_) ?_ ?_; rotate_left; (rintro w' hs; go_split_ands; go_simp; with_reducible rfl); rotate_left; (simp only [Act.put, List.setIfInBounds_toArray, List.set_cons_zero, List.set_cons_succ, i64_w, i32_w]; rfl)))
        refine inP_nil ?_
        go_wp2
        go_roundg g
        case measure => omega
        case rel => exact ⟨n + 1, last, by omega, by omega, by go_num, rfl, by rw [Nat.add_sub_cancel, ← hn, HY1.out], HG1, HB6⟩
      · have hpb : (p == p') = false := by simpa using hpp
        have hg1 := HG.out.trans (if_neg hpp)
        clear hpp
        by_cases hq : q ≤ wrap64 (2 * y1)
        · rw [if_pos hq] at hg1
          have HG1 := Aside0.mk hg1
          clear hg1
          iterate 1 (first
            | (refine inQ_off0 (by rfl) (by rfl) ?_; simp only [Act.put, List.setIfInBounds_toArray, List.set_cons_zero, List.set_cons_succ, i64_w, i32_w])
            | (refine inQ_off1 (by rfl) (by rfl) ?_; simp only [Act.put, List.setIfInBounds_toArray, List.set_cons_zero, List.set_cons_succ, i64_w, i32_w])
            | (refine inQ_0 (v := ?_) (by rfl) (by rfl) rfl ?_ (a' := ?_) ?_ ?_; rotate_left; (intro w'; go_simp; with_reducible rfl); rotate_left; (simp only [Act.put, List.setIfInBounds_toArray, List.set_cons_zero, List.set_cons_succ, i64_w, i32_w]; rfl))
            | (refine inQ_1 (v := ?_) (by rfl) (by rfl) rfl ?_ (a' := ?_) ?_ ?_; rotate_left; (rintro w' hs; go_split_ands; go_simp; with_reducible rfl); rotate_left; (simp only [Act.put, List.setIfInBounds_toArray, List.set_cons_zero, List.set_cons_succ, i64_w, i32_w]; rfl)))
          refine inP_nil ?_
          go_wp2
          go_ret
          exact ⟨by rw [HG1.out]; rfl, HB6.out⟩
        · rw [if_neg hq] at hg1
          have HG1 := Aside0.mk hg1
          clear hg1
          iterate 1 (first
            | (refine inQ_off0 (by rfl) (by rfl) ?_; simp only [Act.put, List.setIfInBounds_toArray, List.set_cons_zero, List.set_cons_succ, i64_w, i32_w])
            | (refine inQ_off1 (by rfl) (by rfl) ?_; simp only [Act.put, List.setIfInBounds_toArray, List.set_cons_zero, List.set_cons_succ, i64_w, i32_w])
            | (refine inQ_0 (v := ?_) (by rfl) (by rfl) rfl ?_ (a' := ?_) ?_ ?_; rotate_left; (intro w'; go_simp; with_reducible rfl); rotate_left; (simp only [Act.put, List.setIfInBounds_toArray, List.set_cons_zero, List.set_cons_succ, i64_w, i32_w]; rfl))
            | (refine inQ_1 (v := ?_) (by rfl) (by rfl) rfl ?_ (a' := ?_) ?_ ?_; rotate_left; (rintro w' hs; go_split_ands; go_simp; with_reducible rfl); rotate_left; (simp only [Act.put, List.setIfInBounds_toArray, List.set_cons_zero, List.set_cons_succ, i64_w, i32_w]; rfl)))
          refine inP_nil ?_
          go_wp2
          go_roundg g
          case measure => omega
          case rel => exact ⟨n + 1, (n : Int), by omega, by omega, by go_num, rfl, by rw [Nat.add_sub_cancel, ← hn, HY1.out], HG1, HB6⟩
end Go.Proofs.Ytjggkaieagbjmaa.Hand
