/- The law NameHalves, walked: where entries are parted each part goes into a leaf. -/
import Derived.Test.YtjggkaieagbjmaaSplit
import Derived.Test.YtjggkaieagbjmaaAw1
namespace Go.Proofs.Ytjggkaieagbjmaa.Hand
set_option linter.unusedVariables false
set_option linter.unusedSimpArgs false
open Go.Shelf Go.RowKit Go.Proofs.YtjggkaieagbjmaaW.PrintWords Go.Proofs.YtjggkaieagbjmaaW.PrintLast Go.Proofs.YtjggkaieagbjmaaW.PrintMore

set_option maxHeartbeats 1000000 in
set_option maxRecDepth 100000 in
theorem rsize_calls (A : Option Addr) (c : Nat) (l : List Ent) (w : World) (hl : Ents w A l) (h47 : ∀ j, j < l.length → (entAt l j).name.size ≤ 1152921504606846976) :
    Calls Try.prog 25 #[.slice A l.length c] w fun e w' => e = .returned (.int .i64 (sizeW l)) ∧ w = w' := by
  have HL := Aside0.mk hl
  have H47 := Aside0.mk h47
  have hsz := hl.size
  clear hl h47
  go_enter Try.func25, Try.ntmps25
  go_wp2
  go_loopg [3, 4] l.length (fun g x i wr => ∃ k : Nat, k + g = l.length ∧ x = .int .i64 (sizeW (l.take k)) ∧ i = .int .i64 k ∧ w = wr)
  case atStart => exact ⟨0, by omega, rfl, rfl, rfl⟩
  case round =>
    obtain ⟨k, hk, rfl, rfl, rfl⟩ := hrel
    obtain ⟨y, hy⟩ : ∃ y, sizeW (l.take k) = y := ⟨_, rfl⟩
    rw [hy]
    have HY := Aside0.mk hy
    clear hy
    cases gk with
    | zero =>
      obtain rfl : k = l.length := by omega
      go_wp2
      go_ret
      exact ⟨by rw [← HY.out, List.take_length]; rfl, rfl⟩
    | succ g =>
      obtain ⟨ad, rfl, h1, h2, h3⟩ := HL.out.cells k (by omega)
      have hx := H47.out k (by omega)
      have hsn := sizeW_snoc l k (by omega)
      rw [HY.out] at hsn
      obtain ⟨x, hxx⟩ : ∃ x, entAt l k = x := ⟨_, rfl⟩
      rw [hxx] at h1 h2 h3 hx hsn
      have hsn2 : sizeW (l.take (k + 1)) = wrap64 (wrap64 (y + 4) + (x.name.size : Int)) := by rw [hsn]; unfold wrap64; omega
      have HS := Aside0.mk hsn2
      clear hsn hsn2 hxx
      go_wp2
      go_roundg g
      case measure => omega
      case rel => exact ⟨k + 1, by omega, by rw [HS.out], by go_num, rfl⟩

/-! plain -/
theorem foldW (l : List Ent) (s : Int) : l.foldl (fun n x => wrap64 (n + (4 + (x.name.size : Int)))) (wrap64 s) = wrap64 (s + sizeW l) := by
  unfold sizeW
  induction l generalizing s with
  | nil => unfold wrap64; simp
  | cons x l ih =>
    have e1 : wrap64 (wrap64 s + (4 + (x.name.size : Int))) = wrap64 (s + (4 + (x.name.size : Int))) := by unfold wrap64; omega
    simp only [List.foldl_cons]
    have e2 := ih (0 + (4 + (x.name.size : Int)))
    rw [e1, ih (s + (4 + (x.name.size : Int))), e2]
    unfold wrap64
    omega
theorem sizeW_append (a b : List Ent) : sizeW (a ++ b) = wrap64 (sizeW a + sizeW b) := by
  have h := foldW b (sizeW a)
  have hr := sizeW_range a
  have e : wrap64 (sizeW a) = sizeW a := by unfold wrap64; omega
  rw [e] at h
  rw [← h]
  unfold sizeW
  rw [List.foldl_append]
theorem splitGo_range (l : List Ent) (g k : Nat) (last : Int) (h0 : 0 ≤ last) (h1 : last < k) : 0 ≤ splitGo l g k last ∧ splitGo l g k last < k + g := by
  induction g generalizing k last with
  | zero => exact ⟨h0, by simpa [splitGo] using h1⟩
  | succ g ih =>
    unfold splitGo
    split
    · have := ih (k + 1) last h0 (by omega)
      omega
    · split
      · omega
      · have := ih (k + 1) k (by omega) (by omega)
        omega
theorem splitI_range (l : List Ent) : splitI l = 0 ∨ ∃ i : Nat, splitI l = i ∧ 0 < i ∧ i < l.length := by
  have h := splitGo_range l (l.length - 1) 1 0 (by omega) (by omega)
  have h2 : l.length = 0 → splitI l = 0 := fun h => by unfold splitI; rw [h]; rfl
  change 0 ≤ splitI l ∧ splitI l < _ at h
  by_cases hl : l.length = 0
  · exact .inl (h2 hl)
  · by_cases hz : splitI l = 0
    · exact .inl hz
    · exact .inr ⟨(splitI l).toNat, by omega, by omega, by omega⟩
theorem entAt_take (l : List Ent) (i j : Nat) (h : j < i) : entAt (l.take i) j = entAt l j := by
  unfold entAt
  simp [List.getD_eq_getElem?_getD, List.getElem?_take, h]
theorem entAt_drop (l : List Ent) (i j : Nat) : entAt (l.drop i) j = entAt l (i + j) := by
  unfold entAt
  simp [List.getD_eq_getElem?_getD, List.getElem?_drop]
theorem entsOk_take {l : List Ent} (h : entsOk l) (i : Nat) : entsOk (l.take i) := fun k hk => by
  rw [List.length_take] at hk
  have := h k (by omega)
  unfold entOk at this ⊢
  rw [entAt_take l i k (by omega), entAt_take l i (k - 1) (by omega)]
  exact this
theorem entsOk_drop {l : List Ent} (h : entsOk l) (i : Nat) : entsOk (l.drop i) := fun k hk => by
  rw [List.length_drop] at hk
  have := h (i + k) (by omega)
  unfold entOk at this ⊢
  rw [entAt_drop, entAt_drop]
  refine ⟨this.1, this.2.1, this.2.2.1, this.2.2.2.1, this.2.2.2.2.1, fun h0 => ?_⟩
  have e : i + (k - 1) = i + k - 1 := by omega
  rw [e]
  exact this.2.2.2.2.2 (by omega)
theorem sizeI_drop (l : List Ent) (i : Nat) : sizeI (l.take i) + sizeI (l.drop i) = sizeI l := by
  rw [sizeI_eq, sizeI_eq, sizeI_eq]
  have h3 : (l.flatMap entB) = (l.take i).flatMap entB ++ (l.drop i).flatMap entB := by rw [← List.flatMap_append, List.take_append_drop]
  rw [h3, List.length_append]
  omega
theorem len_size0 (l : List Ent) : 0 ≤ sizeI l := by rw [sizeI_eq]; omega
theorem packI_two (l : List Ent) (s : Int) (i : Nat) : ((packI l s).2 = 0 → (packI (l.take i) s).2 = 0 ∧ (packI (l.drop i) s).2 = 0) ∧ ((packI l s).2 = 28 → ((packI (l.take i) s).2 = 0 ∨ (packI (l.take i) s).2 = 28) ∧ ((packI (l.drop i) s).2 = 0 ∨ (packI (l.drop i) s).2 = 28)) := by
  have h1 := sizeI_drop l i
  have h2 := len_size0 (l.take i)
  have h3 := len_size0 (l.drop i)
  unfold packI
  by_cases h : entsOk l
  · rw [if_pos h, if_pos (entsOk_take h i), if_pos (entsOk_drop h i)]
    constructor
    · intro h0
      split at h0
      · cases h0
      · rw [if_neg (by omega), if_neg (by omega)]
        exact ⟨rfl, rfl⟩
    · intro _
      constructor
      · split
        · exact .inr rfl
        · exact .inl rfl
      · split
        · exact .inr rfl
        · exact .inl rfl
  · rw [if_neg h]
    exact ⟨fun h => (by cases h), fun h => (by cases h)⟩
theorem Ents.take {w : World} {A : Option Addr} {l : List Ent} (h : Ents w A l) (i : Nat) : Ents w A (l.take i) :=
  ⟨by have := h.size; rw [List.length_take]; omega, fun j hj => by
    rw [List.length_take] at hj
    obtain ⟨ad, e, h1, h2, h3⟩ := h.cells j (by omega)
    rw [entAt_take l i j (by omega)]
    exact ⟨ad, e, h1, h2, h3⟩⟩
theorem Ents.drop {w : World} {ad : Addr} {l : List Ent} (h : Ents w (some ad) l) (i : Nat) : Ents w (some (ad.add (i * 3))) (l.drop i) :=
  ⟨by have := h.size; rw [List.length_drop]; omega, fun j hj => by
    rw [List.length_drop] at hj
    obtain ⟨ad', e, h1, h2, h3⟩ := h.cells (i + j) (by omega)
    cases e
    have ea : (ad.add (i * 3)).add (j * 3) = ad.add ((i + j) * 3) := by rw [add_add]; congr 1; omega
    refine ⟨_, rfl, ?_, ?_, ?_⟩
    all_goals rw [ea, entAt_drop]
    · exact h1
    · exact h2
    · exact h3⟩
theorem infoREnt : (Try.prog.info? 59).map (fun i => (i.zero, i.size, i.bytes)) = some (some (.agg #[.int .i64 0, .int .i64 0, .string ⟨#[]⟩]), 3, 32) := by kernel_rfl
theorem packI_code (l : List Ent) (s : Int) : (packI l s).2 = 0 ∨ (packI l s).2 = 28 ∨ (packI l s).2 = 22 := by
  unfold packI
  split
  · split
    · exact .inr (.inl rfl)
    · exact .inl rfl
  · exact .inr (.inr rfl)

set_option maxHeartbeats 8000000 in
set_option maxRecDepth 100000 in
theorem halves_calls (A : Option Addr) (c : Nat) (l : List Ent) (w : World) (hl : Ents w A l) (hc : l.length ≤ c) (hn : l.length * 32 ≤ 140737488351232) (h47 : ∀ j, j < l.length → (entAt l j).name.size ≤ 1152921504606846976) :
    Calls Try.prog 5 #[.slice A l.length c] w fun e w' => e = .returned (.bool true) ∧ Below w.heap.size w w' := by
  have HM := Aside0.mk (fun (W : World) (hW : Below w.heap.size w W) => mine_calls A c l W (hl.below hW) hn)
  have H47 := Aside0.mk h47
  have HNL := Aside0.mk hn
  obtain ⟨n, hp⟩ : ∃ n, (packI l 0).2 = n := ⟨_, rfl⟩
  have hcode := packI_code l 0
  rw [hp] at hcode
  have HP := Aside0.mk hp
  rcases splitI_range l with hi | ⟨i, hi, hi0, hil⟩
  · have HI := Aside0.mk hi
    clear hl hn h47 hp hi hcode
    go_enter Try.func5, Try.ntmps5
    go_wp2_with fail
    refine (awake_calls w).mono ?_
    rintro e w1 ⟨rfl, hb1⟩
    have HB1 := Aside0.mk hb1
    clear hb1
    dsimp only
    go_wp2_with fail
    refine (HM.out w1 HB1.out).mono ?_
    rintro e w2 ⟨v2, rfl, ho2, hb2⟩
    have HB2 := Aside0.mk (below_then HB1.out HB1.out.size hb2)
    obtain ⟨A2, c2, rfl, hc2, hE2⟩ := ho2.reads (by have := HNL.out; omega)
    have HE2 := Aside0.mk hE2
    clear hb2 ho2 hE2
    dsimp only
    go_wp2_with fail
    refine (pack_calls A2 c2 0 l w2 HE2.out hc2 (by omega) (by omega)).mono ?_
    rintro e w3 ⟨v3, rfl, _, hb3⟩
    rw [HP.out]
    have HB3 := Aside0.mk (below_then HB2.out HB2.out.size hb3)
    clear hb3
    dsimp only
    go_wp2_with fail
    refine (HM.out w3 HB3.out).mono ?_
    rintro e w4 ⟨v4, rfl, ho4, hb4⟩
    have HB4 := Aside0.mk (below_then HB3.out HB3.out.size hb4)
    obtain ⟨A4, c4, rfl, hc4, hE4⟩ := ho4.reads (by have := HNL.out; omega)
    have HE4 := Aside0.mk hE4
    clear hb4 ho4 hE4
    dsimp only
    go_wp2_with fail
    refine (split_calls A4 c4 l w4 HE4.out H47.out).mono ?_
    rintro e w5 ⟨rfl, hb5⟩
    rw [HI.out]
    have HB5 := Aside0.mk (below_then HB4.out HB4.out.size hb5)
    clear hb5
    dsimp only
    go_wp2
    go_ret
    exact ⟨rfl, HB5.out⟩
  · have HI := Aside0.mk hi
    have htwo := packI_two l 0 i
    rw [hp] at htwo
    obtain ⟨ad, rfl, _⟩ := hl.cells 0 (by omega)
    obtain ⟨lt, hlt⟩ : ∃ x, l.take i = x := ⟨_, rfl⟩
    obtain ⟨ld, hld⟩ : ∃ x, l.drop i = x := ⟨_, rfl⟩
    have htl : lt.length = i := by rw [← hlt, List.length_take]; omega
    have hdl : ld.length = l.length - i := by rw [← hld, List.length_drop]
    have hEt : Ents w (some ad) lt := hlt ▸ hl.take i
    have hEd : Ents w (some (ad.add (i * 3))) ld := hld ▸ hl.drop i
    have h47t : ∀ j, j < lt.length → (entAt lt j).name.size ≤ 1152921504606846976 := fun j hj => by rw [← hlt, entAt_take l i j (by omega)]; exact h47 j (by omega)
    have h47d : ∀ j, j < ld.length → (entAt ld j).name.size ≤ 1152921504606846976 := fun j hj => by rw [← hld, entAt_drop]; exact h47 (i + j) (by omega)
    have hsum : wrap64 (sizeW lt + sizeW ld) = sizeW l := by rw [← hlt, ← hld, ← sizeW_append, List.take_append_drop]
    rw [hlt, hld] at htwo
    have HMT := Aside0.mk (fun (W : World) (hW : Below w.heap.size w W) => htl ▸ mine_calls (some ad) c lt W (hEt.below hW) (by omega))
    have HMD := Aside0.mk (fun (W : World) (hW : Below w.heap.size w W) => hdl ▸ mine_calls (some (ad.add (i * 3))) (c - i) ld W (hEd.below hW) (by omega))
    have HNT := Aside0.mk (show lt.length * 32 ≤ 140737488351232 by omega)
    have HND := Aside0.mk (show ld.length * 32 ≤ 140737488351232 by omega)
    obtain ⟨f, hf⟩ : ∃ n, (packI lt 0).2 = n := ⟨_, rfl⟩
    obtain ⟨g, hg⟩ : ∃ n, (packI ld 0).2 = n := ⟨_, rfl⟩
    rw [hf, hg] at htwo
    have HF := Aside0.mk hf
    have HG := Aside0.mk hg
    have HSUM := Aside0.mk hsum
    have HRT := Aside0.mk (fun (W : World) (hW : Below w.heap.size w W) => htl ▸ rsize_calls (some ad) c lt W (hEt.below hW) h47t)
    have HRD := Aside0.mk (fun (W : World) (hW : Below w.heap.size w W) => hdl ▸ rsize_calls (some (ad.add (i * 3))) (c - i) ld W (hEd.below hW) h47d)
    have HRL := Aside0.mk (fun (W : World) (hW : Below w.heap.size w W) => rsize_calls (some ad) c l W (hl.below hW) h47)
    have hinz : ((i : Int) == 0) = false := by rw [beq_eq_false_iff_ne]; omega
    obtain ⟨e0, he, hz0, hz1, hz2⟩ := info_parts infoREnt
    have hcut1 : ∀ W : World, (Instr.slice 29 (.slice (some ad) l.length c) none (some (.int .i64 (i : Int))) none).run Try.prog W = .ok (.slice (some ad) i c) W := by
      intro W
      have := cut_to (P := Try.prog) 29 59 .i64 (i := e0) rfl he (some ad) l.length c (i : Int) (by omega) (by omega) hc W
      simpa using this
    have hcut2 : ∀ W : World, (Instr.slice 29 (.slice (some ad) l.length c) (some (.int .i64 (i : Int))) none none).run Try.prog W = .ok (.slice (some (ad.add (i * 3))) (l.length - i) (c - i)) W := by
      intro W
      have := cut_from (P := Try.prog) 29 59 .i64 (i := e0) rfl he 3 hz1 (some ad) l.length c (i : Int) (by omega) (by omega) W
      rw [this, if_neg (by omega)]
      rfl
    clear hl hn h47 hp hi hlt hld htl hdl hEt hEd h47t h47d hsum hf hg he hz0 hz1 hz2
    rcases hcode with rfl | rfl | rfl
    · obtain ⟨rfl, rfl⟩ := htwo.1 rfl
      clear htwo
      go_enter Try.func5, Try.ntmps5
      go_wp2_with fail
      refine (awake_calls w).mono ?_
      rintro e w1 ⟨rfl, hb1⟩
      have HB1 := Aside0.mk hb1
      clear hb1
      dsimp only
      go_wp2_with fail
      refine (HM.out w1 HB1.out).mono ?_
      rintro e w2 ⟨v2, rfl, ho2, hb2⟩
      have HB2 := Aside0.mk (below_then HB1.out HB1.out.size hb2)
      obtain ⟨A2, c2, rfl, hc2, hE2⟩ := ho2.reads (by have := HNL.out; omega)
      have HE2 := Aside0.mk hE2
      clear hb2 ho2 hE2
      dsimp only
      go_wp2_with fail
      refine (pack_calls A2 c2 0 l w2 HE2.out hc2 (by omega) (by omega)).mono ?_
      rintro e w3 ⟨v3, rfl, _, hb3⟩
      rw [HP.out]
      have HB3 := Aside0.mk (below_then HB2.out HB2.out.size hb3)
      clear hb3
      dsimp only
      go_wp2_with fail
      refine (HM.out w3 HB3.out).mono ?_
      rintro e w4 ⟨v4, rfl, ho4, hb4⟩
      have HB4 := Aside0.mk (below_then HB3.out HB3.out.size hb4)
      obtain ⟨A4, c4, rfl, hc4, hE4⟩ := ho4.reads (by have := HNL.out; omega)
      have HE4 := Aside0.mk hE4
      clear hb4 ho4 hE4
      dsimp only
      go_wp2_with fail
      refine (split_calls A4 c4 l w4 HE4.out H47.out).mono ?_
      rintro e w5 ⟨rfl, hb5⟩
      rw [HI.out]
      have HB5 := Aside0.mk (below_then HB4.out HB4.out.size hb5)
      clear hb5
      dsimp only
      go_wp2_with fail
      refine (HMT.out w5 HB5.out).mono ?_
      rintro e w6 ⟨v6, rfl, ho6, hb6⟩
      have HB6 := Aside0.mk (below_then HB5.out HB5.out.size hb6)
      obtain ⟨A6, c6, rfl, hc6, hE6⟩ := ho6.reads (by have := HNT.out; omega)
      have HE6 := Aside0.mk hE6
      clear hb6 ho6 hE6
      dsimp only
      go_wp2_with fail
      refine (pack_calls A6 c6 0 lt w6 HE6.out hc6 (by omega) (by omega)).mono ?_
      rintro e w7 ⟨v7, rfl, _, hb7⟩
      rw [HF.out]
      have HB7 := Aside0.mk (below_then HB6.out HB6.out.size hb7)
      clear hb7
      dsimp only
      go_wp2_with fail
      refine (HMD.out w7 HB7.out).mono ?_
      rintro e w8 ⟨v8, rfl, ho8, hb8⟩
      have HB8 := Aside0.mk (below_then HB7.out HB7.out.size hb8)
      obtain ⟨A8, c8, rfl, hc8, hE8⟩ := ho8.reads (by have := HND.out; omega)
      have HE8 := Aside0.mk hE8
      clear hb8 ho8 hE8
      dsimp only
      go_wp2_with fail
      refine (pack_calls A8 c8 0 ld w8 HE8.out hc8 (by omega) (by omega)).mono ?_
      rintro e w9 ⟨v9, rfl, _, hb9⟩
      rw [HG.out]
      have HB9 := Aside0.mk (below_then HB8.out HB8.out.size hb9)
      clear hb9
      dsimp only
      go_wp2
      go_ret
      exact ⟨rfl, HB9.out⟩
    · obtain ⟨hff, hgg⟩ := htwo.2 rfl
      clear htwo
      rcases hff with rfl | rfl
      · rcases hgg with rfl | rfl
        · skip
          go_enter Try.func5, Try.ntmps5
          go_wp2_with fail
          refine (awake_calls w).mono ?_
          rintro e w1 ⟨rfl, hb1⟩
          have HB1 := Aside0.mk hb1
          clear hb1
          dsimp only
          go_wp2_with fail
          refine (HM.out w1 HB1.out).mono ?_
          rintro e w2 ⟨v2, rfl, ho2, hb2⟩
          have HB2 := Aside0.mk (below_then HB1.out HB1.out.size hb2)
          obtain ⟨A2, c2, rfl, hc2, hE2⟩ := ho2.reads (by have := HNL.out; omega)
          have HE2 := Aside0.mk hE2
          clear hb2 ho2 hE2
          dsimp only
          go_wp2_with fail
          refine (pack_calls A2 c2 0 l w2 HE2.out hc2 (by omega) (by omega)).mono ?_
          rintro e w3 ⟨v3, rfl, _, hb3⟩
          rw [HP.out]
          have HB3 := Aside0.mk (below_then HB2.out HB2.out.size hb3)
          clear hb3
          dsimp only
          go_wp2_with fail
          refine (HM.out w3 HB3.out).mono ?_
          rintro e w4 ⟨v4, rfl, ho4, hb4⟩
          have HB4 := Aside0.mk (below_then HB3.out HB3.out.size hb4)
          obtain ⟨A4, c4, rfl, hc4, hE4⟩ := ho4.reads (by have := HNL.out; omega)
          have HE4 := Aside0.mk hE4
          clear hb4 ho4 hE4
          dsimp only
          go_wp2_with fail
          refine (split_calls A4 c4 l w4 HE4.out H47.out).mono ?_
          rintro e w5 ⟨rfl, hb5⟩
          rw [HI.out]
          have HB5 := Aside0.mk (below_then HB4.out HB4.out.size hb5)
          clear hb5
          dsimp only
          go_wp2_with fail
          refine (HMT.out w5 HB5.out).mono ?_
          rintro e w6 ⟨v6, rfl, ho6, hb6⟩
          have HB6 := Aside0.mk (below_then HB5.out HB5.out.size hb6)
          obtain ⟨A6, c6, rfl, hc6, hE6⟩ := ho6.reads (by have := HNT.out; omega)
          have HE6 := Aside0.mk hE6
          clear hb6 ho6 hE6
          dsimp only
          go_wp2_with fail
          refine (pack_calls A6 c6 0 lt w6 HE6.out hc6 (by omega) (by omega)).mono ?_
          rintro e w7 ⟨v7, rfl, _, hb7⟩
          rw [HF.out]
          have HB7 := Aside0.mk (below_then HB6.out HB6.out.size hb7)
          clear hb7
          dsimp only
          go_wp2_with fail
          refine (HMD.out w7 HB7.out).mono ?_
          rintro e w8 ⟨v8, rfl, ho8, hb8⟩
          have HB8 := Aside0.mk (below_then HB7.out HB7.out.size hb8)
          obtain ⟨A8, c8, rfl, hc8, hE8⟩ := ho8.reads (by have := HND.out; omega)
          have HE8 := Aside0.mk hE8
          clear hb8 ho8 hE8
          dsimp only
          go_wp2_with fail
          refine (pack_calls A8 c8 0 ld w8 HE8.out hc8 (by omega) (by omega)).mono ?_
          rintro e w9 ⟨v9, rfl, _, hb9⟩
          rw [HG.out]
          have HB9 := Aside0.mk (below_then HB8.out HB8.out.size hb9)
          clear hb9
          dsimp only
          go_wp2
          have HQT := Aside0.mk (fun n => Calls.quiet_of_same ((HRT.out (w9.drewN n) (pw_below_drewN HB9.out n)).mono fun e w' h => ⟨h.1, h.2.symm⟩))
          have HQD := Aside0.mk (fun n => Calls.quiet_of_same ((HRD.out (w9.drewN n) (pw_below_drewN HB9.out n)).mono fun e w' h => ⟨h.1, h.2.symm⟩))
          have HQL := Aside0.mk (fun n => Calls.quiet_of_same ((HRL.out (w9.drewN n) (pw_below_drewN HB9.out n)).mono fun e w' h => ⟨h.1, h.2.symm⟩))
          go_quiet (first
            | (go_at_call 25; with_reducible exact HQT.out _)
            | (go_at_call 25; with_reducible exact HQD.out _)
            | (go_at_call 25; with_reducible exact HQL.out _))
          rw [show (wrap64 (sizeW lt + sizeW ld) == sizeW l) = true by rw [HSUM.out]; simp]
          go_wp2
          go_ret
          exact ⟨rfl, pw_below_drewN HB9.out _⟩
        · skip
          go_enter Try.func5, Try.ntmps5
          go_wp2_with fail
          refine (awake_calls w).mono ?_
          rintro e w1 ⟨rfl, hb1⟩
          have HB1 := Aside0.mk hb1
          clear hb1
          dsimp only
          go_wp2_with fail
          refine (HM.out w1 HB1.out).mono ?_
          rintro e w2 ⟨v2, rfl, ho2, hb2⟩
          have HB2 := Aside0.mk (below_then HB1.out HB1.out.size hb2)
          obtain ⟨A2, c2, rfl, hc2, hE2⟩ := ho2.reads (by have := HNL.out; omega)
          have HE2 := Aside0.mk hE2
          clear hb2 ho2 hE2
          dsimp only
          go_wp2_with fail
          refine (pack_calls A2 c2 0 l w2 HE2.out hc2 (by omega) (by omega)).mono ?_
          rintro e w3 ⟨v3, rfl, _, hb3⟩
          rw [HP.out]
          have HB3 := Aside0.mk (below_then HB2.out HB2.out.size hb3)
          clear hb3
          dsimp only
          go_wp2_with fail
          refine (HM.out w3 HB3.out).mono ?_
          rintro e w4 ⟨v4, rfl, ho4, hb4⟩
          have HB4 := Aside0.mk (below_then HB3.out HB3.out.size hb4)
          obtain ⟨A4, c4, rfl, hc4, hE4⟩ := ho4.reads (by have := HNL.out; omega)
          have HE4 := Aside0.mk hE4
          clear hb4 ho4 hE4
          dsimp only
          go_wp2_with fail
          refine (split_calls A4 c4 l w4 HE4.out H47.out).mono ?_
          rintro e w5 ⟨rfl, hb5⟩
          rw [HI.out]
          have HB5 := Aside0.mk (below_then HB4.out HB4.out.size hb5)
          clear hb5
          dsimp only
          go_wp2_with fail
          refine (HMT.out w5 HB5.out).mono ?_
          rintro e w6 ⟨v6, rfl, ho6, hb6⟩
          have HB6 := Aside0.mk (below_then HB5.out HB5.out.size hb6)
          obtain ⟨A6, c6, rfl, hc6, hE6⟩ := ho6.reads (by have := HNT.out; omega)
          have HE6 := Aside0.mk hE6
          clear hb6 ho6 hE6
          dsimp only
          go_wp2_with fail
          refine (pack_calls A6 c6 0 lt w6 HE6.out hc6 (by omega) (by omega)).mono ?_
          rintro e w7 ⟨v7, rfl, _, hb7⟩
          rw [HF.out]
          have HB7 := Aside0.mk (below_then HB6.out HB6.out.size hb7)
          clear hb7
          dsimp only
          go_wp2_with fail
          refine (HMD.out w7 HB7.out).mono ?_
          rintro e w8 ⟨v8, rfl, ho8, hb8⟩
          have HB8 := Aside0.mk (below_then HB7.out HB7.out.size hb8)
          obtain ⟨A8, c8, rfl, hc8, hE8⟩ := ho8.reads (by have := HND.out; omega)
          have HE8 := Aside0.mk hE8
          clear hb8 ho8 hE8
          dsimp only
          go_wp2_with fail
          refine (pack_calls A8 c8 0 ld w8 HE8.out hc8 (by omega) (by omega)).mono ?_
          rintro e w9 ⟨v9, rfl, _, hb9⟩
          rw [HG.out]
          have HB9 := Aside0.mk (below_then HB8.out HB8.out.size hb9)
          clear hb9
          dsimp only
          go_wp2
          have HQT := Aside0.mk (fun n => Calls.quiet_of_same ((HRT.out (w9.drewN n) (pw_below_drewN HB9.out n)).mono fun e w' h => ⟨h.1, h.2.symm⟩))
          have HQD := Aside0.mk (fun n => Calls.quiet_of_same ((HRD.out (w9.drewN n) (pw_below_drewN HB9.out n)).mono fun e w' h => ⟨h.1, h.2.symm⟩))
          have HQL := Aside0.mk (fun n => Calls.quiet_of_same ((HRL.out (w9.drewN n) (pw_below_drewN HB9.out n)).mono fun e w' h => ⟨h.1, h.2.symm⟩))
          go_quiet (first
            | (go_at_call 25; with_reducible exact HQT.out _)
            | (go_at_call 25; with_reducible exact HQD.out _)
            | (go_at_call 25; with_reducible exact HQL.out _))
          rw [show (wrap64 (sizeW lt + sizeW ld) == sizeW l) = true by rw [HSUM.out]; simp]
          go_wp2
          go_ret
          exact ⟨rfl, pw_below_drewN HB9.out _⟩
      · rcases hgg with rfl | rfl
        · skip
          go_enter Try.func5, Try.ntmps5
          go_wp2_with fail
          refine (awake_calls w).mono ?_
          rintro e w1 ⟨rfl, hb1⟩
          have HB1 := Aside0.mk hb1
          clear hb1
          dsimp only
          go_wp2_with fail
          refine (HM.out w1 HB1.out).mono ?_
          rintro e w2 ⟨v2, rfl, ho2, hb2⟩
          have HB2 := Aside0.mk (below_then HB1.out HB1.out.size hb2)
          obtain ⟨A2, c2, rfl, hc2, hE2⟩ := ho2.reads (by have := HNL.out; omega)
          have HE2 := Aside0.mk hE2
          clear hb2 ho2 hE2
          dsimp only
          go_wp2_with fail
          refine (pack_calls A2 c2 0 l w2 HE2.out hc2 (by omega) (by omega)).mono ?_
          rintro e w3 ⟨v3, rfl, _, hb3⟩
          rw [HP.out]
          have HB3 := Aside0.mk (below_then HB2.out HB2.out.size hb3)
          clear hb3
          dsimp only
          go_wp2_with fail
          refine (HM.out w3 HB3.out).mono ?_
          rintro e w4 ⟨v4, rfl, ho4, hb4⟩
          have HB4 := Aside0.mk (below_then HB3.out HB3.out.size hb4)
          obtain ⟨A4, c4, rfl, hc4, hE4⟩ := ho4.reads (by have := HNL.out; omega)
          have HE4 := Aside0.mk hE4
          clear hb4 ho4 hE4
          dsimp only
          go_wp2_with fail
          refine (split_calls A4 c4 l w4 HE4.out H47.out).mono ?_
          rintro e w5 ⟨rfl, hb5⟩
          rw [HI.out]
          have HB5 := Aside0.mk (below_then HB4.out HB4.out.size hb5)
          clear hb5
          dsimp only
          go_wp2_with fail
          refine (HMT.out w5 HB5.out).mono ?_
          rintro e w6 ⟨v6, rfl, ho6, hb6⟩
          have HB6 := Aside0.mk (below_then HB5.out HB5.out.size hb6)
          obtain ⟨A6, c6, rfl, hc6, hE6⟩ := ho6.reads (by have := HNT.out; omega)
          have HE6 := Aside0.mk hE6
          clear hb6 ho6 hE6
          dsimp only
          go_wp2_with fail
          refine (pack_calls A6 c6 0 lt w6 HE6.out hc6 (by omega) (by omega)).mono ?_
          rintro e w7 ⟨v7, rfl, _, hb7⟩
          rw [HF.out]
          have HB7 := Aside0.mk (below_then HB6.out HB6.out.size hb7)
          clear hb7
          dsimp only
          go_wp2_with fail
          refine (HMD.out w7 HB7.out).mono ?_
          rintro e w8 ⟨v8, rfl, ho8, hb8⟩
          have HB8 := Aside0.mk (below_then HB7.out HB7.out.size hb8)
          obtain ⟨A8, c8, rfl, hc8, hE8⟩ := ho8.reads (by have := HND.out; omega)
          have HE8 := Aside0.mk hE8
          clear hb8 ho8 hE8
          dsimp only
          go_wp2_with fail
          refine (pack_calls A8 c8 0 ld w8 HE8.out hc8 (by omega) (by omega)).mono ?_
          rintro e w9 ⟨v9, rfl, _, hb9⟩
          rw [HG.out]
          have HB9 := Aside0.mk (below_then HB8.out HB8.out.size hb9)
          clear hb9
          dsimp only
          go_wp2
          have HQT := Aside0.mk (fun n => Calls.quiet_of_same ((HRT.out (w9.drewN n) (pw_below_drewN HB9.out n)).mono fun e w' h => ⟨h.1, h.2.symm⟩))
          have HQD := Aside0.mk (fun n => Calls.quiet_of_same ((HRD.out (w9.drewN n) (pw_below_drewN HB9.out n)).mono fun e w' h => ⟨h.1, h.2.symm⟩))
          have HQL := Aside0.mk (fun n => Calls.quiet_of_same ((HRL.out (w9.drewN n) (pw_below_drewN HB9.out n)).mono fun e w' h => ⟨h.1, h.2.symm⟩))
          go_quiet (first
            | (go_at_call 25; with_reducible exact HQT.out _)
            | (go_at_call 25; with_reducible exact HQD.out _)
            | (go_at_call 25; with_reducible exact HQL.out _))
          rw [show (wrap64 (sizeW lt + sizeW ld) == sizeW l) = true by rw [HSUM.out]; simp]
          go_wp2
          go_ret
          exact ⟨rfl, pw_below_drewN HB9.out _⟩
        · skip
          go_enter Try.func5, Try.ntmps5
          go_wp2_with fail
          refine (awake_calls w).mono ?_
          rintro e w1 ⟨rfl, hb1⟩
          have HB1 := Aside0.mk hb1
          clear hb1
          dsimp only
          go_wp2_with fail
          refine (HM.out w1 HB1.out).mono ?_
          rintro e w2 ⟨v2, rfl, ho2, hb2⟩
          have HB2 := Aside0.mk (below_then HB1.out HB1.out.size hb2)
          obtain ⟨A2, c2, rfl, hc2, hE2⟩ := ho2.reads (by have := HNL.out; omega)
          have HE2 := Aside0.mk hE2
          clear hb2 ho2 hE2
          dsimp only
          go_wp2_with fail
          refine (pack_calls A2 c2 0 l w2 HE2.out hc2 (by omega) (by omega)).mono ?_
          rintro e w3 ⟨v3, rfl, _, hb3⟩
          rw [HP.out]
          have HB3 := Aside0.mk (below_then HB2.out HB2.out.size hb3)
          clear hb3
          dsimp only
          go_wp2_with fail
          refine (HM.out w3 HB3.out).mono ?_
          rintro e w4 ⟨v4, rfl, ho4, hb4⟩
          have HB4 := Aside0.mk (below_then HB3.out HB3.out.size hb4)
          obtain ⟨A4, c4, rfl, hc4, hE4⟩ := ho4.reads (by have := HNL.out; omega)
          have HE4 := Aside0.mk hE4
          clear hb4 ho4 hE4
          dsimp only
          go_wp2_with fail
          refine (split_calls A4 c4 l w4 HE4.out H47.out).mono ?_
          rintro e w5 ⟨rfl, hb5⟩
          rw [HI.out]
          have HB5 := Aside0.mk (below_then HB4.out HB4.out.size hb5)
          clear hb5
          dsimp only
          go_wp2_with fail
          refine (HMT.out w5 HB5.out).mono ?_
          rintro e w6 ⟨v6, rfl, ho6, hb6⟩
          have HB6 := Aside0.mk (below_then HB5.out HB5.out.size hb6)
          obtain ⟨A6, c6, rfl, hc6, hE6⟩ := ho6.reads (by have := HNT.out; omega)
          have HE6 := Aside0.mk hE6
          clear hb6 ho6 hE6
          dsimp only
          go_wp2_with fail
          refine (pack_calls A6 c6 0 lt w6 HE6.out hc6 (by omega) (by omega)).mono ?_
          rintro e w7 ⟨v7, rfl, _, hb7⟩
          rw [HF.out]
          have HB7 := Aside0.mk (below_then HB6.out HB6.out.size hb7)
          clear hb7
          dsimp only
          go_wp2_with fail
          refine (HMD.out w7 HB7.out).mono ?_
          rintro e w8 ⟨v8, rfl, ho8, hb8⟩
          have HB8 := Aside0.mk (below_then HB7.out HB7.out.size hb8)
          obtain ⟨A8, c8, rfl, hc8, hE8⟩ := ho8.reads (by have := HND.out; omega)
          have HE8 := Aside0.mk hE8
          clear hb8 ho8 hE8
          dsimp only
          go_wp2_with fail
          refine (pack_calls A8 c8 0 ld w8 HE8.out hc8 (by omega) (by omega)).mono ?_
          rintro e w9 ⟨v9, rfl, _, hb9⟩
          rw [HG.out]
          have HB9 := Aside0.mk (below_then HB8.out HB8.out.size hb9)
          clear hb9
          dsimp only
          go_wp2
          have HQT := Aside0.mk (fun n => Calls.quiet_of_same ((HRT.out (w9.drewN n) (pw_below_drewN HB9.out n)).mono fun e w' h => ⟨h.1, h.2.symm⟩))
          have HQD := Aside0.mk (fun n => Calls.quiet_of_same ((HRD.out (w9.drewN n) (pw_below_drewN HB9.out n)).mono fun e w' h => ⟨h.1, h.2.symm⟩))
          have HQL := Aside0.mk (fun n => Calls.quiet_of_same ((HRL.out (w9.drewN n) (pw_below_drewN HB9.out n)).mono fun e w' h => ⟨h.1, h.2.symm⟩))
          go_quiet (first
            | (go_at_call 25; with_reducible exact HQT.out _)
            | (go_at_call 25; with_reducible exact HQD.out _)
            | (go_at_call 25; with_reducible exact HQL.out _))
          rw [show (wrap64 (sizeW lt + sizeW ld) == sizeW l) = true by rw [HSUM.out]; simp]
          go_wp2
          go_ret
          exact ⟨rfl, pw_below_drewN HB9.out _⟩
    · clear htwo
      go_enter Try.func5, Try.ntmps5
      go_wp2_with fail
      refine (awake_calls w).mono ?_
      rintro e w1 ⟨rfl, hb1⟩
      have HB1 := Aside0.mk hb1
      clear hb1
      dsimp only
      go_wp2_with fail
      refine (HM.out w1 HB1.out).mono ?_
      rintro e w2 ⟨v2, rfl, ho2, hb2⟩
      have HB2 := Aside0.mk (below_then HB1.out HB1.out.size hb2)
      obtain ⟨A2, c2, rfl, hc2, hE2⟩ := ho2.reads (by have := HNL.out; omega)
      have HE2 := Aside0.mk hE2
      clear hb2 ho2 hE2
      dsimp only
      go_wp2_with fail
      refine (pack_calls A2 c2 0 l w2 HE2.out hc2 (by omega) (by omega)).mono ?_
      rintro e w3 ⟨v3, rfl, _, hb3⟩
      rw [HP.out]
      have HB3 := Aside0.mk (below_then HB2.out HB2.out.size hb3)
      clear hb3
      dsimp only
      go_wp2_with fail
      refine (HM.out w3 HB3.out).mono ?_
      rintro e w4 ⟨v4, rfl, ho4, hb4⟩
      have HB4 := Aside0.mk (below_then HB3.out HB3.out.size hb4)
      obtain ⟨A4, c4, rfl, hc4, hE4⟩ := ho4.reads (by have := HNL.out; omega)
      have HE4 := Aside0.mk hE4
      clear hb4 ho4 hE4
      dsimp only
      go_wp2_with fail
      refine (split_calls A4 c4 l w4 HE4.out H47.out).mono ?_
      rintro e w5 ⟨rfl, hb5⟩
      rw [HI.out]
      have HB5 := Aside0.mk (below_then HB4.out HB4.out.size hb5)
      clear hb5
      dsimp only
      go_wp2
      go_ret
      exact ⟨rfl, HB5.out⟩
end Go.Proofs.Ytjggkaieagbjmaa.Hand
