/- The law NameBack, walked: there and back; a leaf is no index; one hash stays together. -/
import Derived.Test.YtjggkaieagbjmaaBack0
import Derived.Deep.DeepCutAuto
import Derived.Test.YtjggkaieagbjmaaSplit
import Derived.Test.YtjggkaieagbjmaaSameE
import Derived.Test.YtjggkaieagbjmaaSameP
import Derived.Test.YtjggkaieagbjmaaParts
import Derived.Test.YtjggkaieagbjmaaMine
import Derived.Test.YtjggkaieagbjmaaAw1
namespace Go.Proofs.Ytjggkaieagbjmaa.Hand
set_option linter.unusedVariables false
set_option linter.unusedSimpArgs false
open Go.Shelf Go.RowKit Go.Proofs.YtjggkaieagbjmaaW.PrintWords Go.Proofs.YtjggkaieagbjmaaW.PrintLast Go.Proofs.YtjggkaieagbjmaaW.PrintMore

theorem back_other {l : List Ent} {s t : Int} (h : (packI l s).2 = 0) (hs : 0 ≤ s ∧ s < 4294967296) (ht : 0 ≤ t ∧ t < 4294967296) : (((unpackI (packI l s).1 t).2 == 0) != (s == t)) = false := by
  by_cases e : s = t
  · subst e
    rw [back_leaf h]
    simp
  · rw [other_leaf h hs ht e]
    have : (s == t) = false := by simpa using e
    rw [this]
    rfl
theorem unpack_short {l : List Ent} {s t : Int} : (unpackI (packI l s).1 t).1.length ≤ 62 := by
  rcases unpackI_cases (packI l s).1 t with ⟨out, h, _, h2⟩ | h
  · rw [h]; exact h2
  · rw [h]; simp

set_option maxHeartbeats 8000000 in
set_option maxRecDepth 100000 in
theorem back_calls (A0 : Option Addr) (c0 : Nat) (l : List Ent) (A1 : Option Addr) (c1 : Nat) (k : List Prt) (s t : Int) (w : World) (hl : Ents w A0 l) (hc : l.length ≤ c0) (hn : l.length * 32 ≤ 140737488351232) (h47 : ∀ j, j < l.length → (entAt l j).name.size ≤ 1152921504606846976)
    (hk : Prts w A1 k) (hck : k.length ≤ c1) (hnk : k.length * 16 ≤ 140737488351232) (hwf : ∀ j, j < k.length → 0 ≤ (prtAt k j).hash ∧ (prtAt k j).hash < 4294967296) (hs : 0 ≤ s ∧ s < 4294967296) (ht : 0 ≤ t ∧ t < 4294967296) :
    Calls Try.prog 8 #[.slice A0 l.length c0, .slice A1 k.length c1, .int .u32 s, .int .u32 t] w fun e w' => e = .returned (.bool true) ∧ Below w.heap.size w w' := by
  have HMI := Aside0.mk (fun (W : World) (hW : Below w.heap.size w W) => mine_calls A0 c0 l W (hl.below hW) hn)
  have HMK := Aside0.mk (fun (W : World) (hW : Below w.heap.size w W) => parts_calls A1 c1 k W (hk.below hW) hnk)
  have HLS := Aside0.mk (fun (W : World) (hW : Below w.heap.size w W) => hl.below hW)
  have HKS := Aside0.mk (fun (W : World) (hW : Below w.heap.size w W) => hk.below hW)
  have H47 := Aside0.mk h47
  have hll := hl.size
  have hkk := hk.size
  have HSP := Aside0.mk (fun (A' : Option Addr) (c' : Nat) (W : World) (hW : Ents W A' l) => split_calls A' c' l W hW h47)
  have HPK := Aside0.mk (fun (A' : Option Addr) (c' : Nat) (W : World) (hW : Ents W A' l) (hc' : l.length ≤ c') => pack_calls A' c' s l W hW hc' hs.1 hs.2)
  have HPI := Aside0.mk (fun (A' : Option Addr) (c' : Nat) (W : World) (hW : Prts W A' k) (hc' : k.length ≤ c') => pidx_calls A' c' s k W hW hc' hs.1 hs.2)
  have HP0 := Aside0.mk (fun (h : (packI l s).2 = 0) => And.intro (back_leaf h) (leaf_no_index h))
  have HPO := Aside0.mk (fun (h : (packI l s).2 = 0) => back_other h hs ht)
  have HPL := Aside0.mk (unpack_short (l := l) (s := s) (t := t))
  have HQ0 := Aside0.mk (fun (h : (pidxI k s).2 = 0) => And.intro (back_index hwf h) (index_no_leaf h))
  have HQ1 := Aside0.mk (fun (h : ¬ (pidxI k s).2 = 0) => show (pidxI k s).1 = [] from (pidxI_cases k s).elim (fun h' => absurd h'.1 h) (fun h' => h'.2))
  have HULP := Aside0.mk (fun (u : Int) (hu : 0 ≤ u ∧ u < 4294967296) (A' : Option Addr) (c' : Nat) (W : World) (hW : Kd.C (Kd.int .u8) W A' (packI l s).1.length (packI l s).1) (hc' : (packI l s).1.length ≤ c') => unpack_calls A' c' u (packI l s).1 W hW hc' hu.1 hu.2 (allB_pack l s))
  have HUIP := Aside0.mk (fun (A' : Option Addr) (c' : Nat) (W : World) (hW : Kd.C (Kd.int .u8) W A' (packI l s).1.length (packI l s).1) (hc' : (packI l s).1.length ≤ c') => unpidx_calls A' c' s (packI l s).1 W hW hc' hs.1 hs.2 (allB_pack l s))
  have HULQ := Aside0.mk (fun (A' : Option Addr) (c' : Nat) (W : World) (hW : Kd.C (Kd.int .u8) W A' (pidxI k s).1.length (pidxI k s).1) (hc' : (pidxI k s).1.length ≤ c') => unpidx_calls A' c' s (pidxI k s).1 W hW hc' hs.1 hs.2 (allB_pidx k s))
  have HUNQ := Aside0.mk (fun (A' : Option Addr) (c' : Nat) (W : World) (hW : Kd.C (Kd.int .u8) W A' (pidxI k s).1.length (pidxI k s).1) (hc' : (pidxI k s).1.length ≤ c') => unpack_calls A' c' s (pidxI k s).1 W hW hc' hs.1 hs.2 (allB_pidx k s))
  have HSI := Aside0.mk (splitI_hash l)
  have HST := Aside0.mk (And.intro hs ht)
  unfold PackPost at HPK
  unfold PidxPost at HPI
  unfold UnpPost at HULP HUNQ
  unfold UidxPost at HUIP HULQ
  obtain ⟨⟨p1, p2⟩, hp⟩ : ∃ p, packI l s = p := ⟨_, rfl⟩
  obtain ⟨⟨q1, q2⟩, hq⟩ : ∃ q, pidxI k s = q := ⟨_, rfl⟩
  obtain ⟨i, hi⟩ : ∃ i, splitI l = i := ⟨_, rfl⟩
  rw [hp] at HPK HP0 HPO HPL HULP HUIP
  rw [hq] at HPI HQ0 HQ1 HULQ HUNQ
  rw [hi] at HSP HSI
  dsimp only at HPK HP0 HPO HPL HULP HUIP HPI HQ0 HQ1 HULQ HUNQ
  have hs1 := hs.1
  have hs2 := hs.2
  clear hl hk hp hq hi h47 hwf hs ht
  go_enter Try.func8, Try.ntmps8
  go_wp2_with fail
  refine (awake_calls w).mono ?_
  rintro e w1 ⟨rfl, hb1⟩
  have HB := Aside0.mk hb1
  clear hb1
  dsimp only
  go_wp2_with fail
  refine (HMI.out w1 HB.out).mono ?_
  rintro e w2 ⟨v2, rfl, ho2, hb2⟩
  have HB2 := Aside0.mk (below_then HB.out HB.out.size hb2)
  obtain ⟨A2, c2, rfl, hc2, hE2⟩ := OwnE.reads ho2 hll
  have HE2 := Aside0.mk hE2
  clear hb2 ho2 hE2
  dsimp only
  go_wp2_with fail
  refine (HPK.out A2 c2 w2 HE2.out hc2).mono ?_
  rintro e w3 ⟨v3, rfl, hr3, hb3⟩
  obtain ⟨A3, c3, rfl, hc3, hC3⟩ := (Own.of_R hr3).reads
  have HC3 := Aside0.mk hC3
  have HB3 := Aside0.mk (below_then HB2.out HB2.out.size hb3)
  clear hb3 hr3 hC3
  dsimp only
  go_upto_if 33 with fail
  go_cut [] (fun wx => Aside0 (Below w.heap.size w wx))
  case first =>
    by_cases hp0 : p2 = 0
    · subst hp0
      obtain ⟨hbk, hnl⟩ := HP0.out rfl
      have hpo := HPO.out rfl
      have hul := HULP.out s HST.out.1 A3 c3 w3 HC3.out hc3
      have hut := HULP.out t HST.out.2
      have hui := HUIP.out
      rw [hbk] at hul
      rw [hnl] at hui
      obtain ⟨⟨u1, u2⟩, hu⟩ : ∃ u, unpackI p1 t = u := ⟨_, rfl⟩
      have hpl := HPL.out
      rw [hu] at hut hpo hpl
      dsimp only at hul hut hui hpo hpl
      have HULX := Aside0.mk hul
      have HUTX := Aside0.mk hut
      have HUIX := Aside0.mk hui
      have HPOX := Aside0.mk hpo
      clear hbk hnl hul hut hui hpo hu
      go_wp2_with fail
      refine HULX.out.mono ?_
      rintro e w4 ⟨v4, rfl, ho4, hb4⟩
      have HB4 := Aside0.mk (below_then HB3.out HB3.out.size hb4)
      have HC34 := Aside0.mk (Kd.C_below HC3.out hb4)
      obtain ⟨A4, c4, rfl, hc4, hE4⟩ := OwnE.reads ho4 hll
      have HE4 := Aside0.mk hE4
      clear hb4 ho4 hE4
      dsimp only
      go_wp2_with fail
      refine (HUIX.out A3 c3 w4 HC34.out hc3).mono ?_
      rintro e w5 ⟨v5, rfl, ho5, hb5⟩
      have HB5 := Aside0.mk (below_then HB4.out HB4.out.size hb5)
      have HC35 := Aside0.mk (Kd.C_below HC34.out hb5)
      have HE45 := Aside0.mk (HE4.out.below hb5)
      obtain ⟨A5, c5, rfl, hc5, hE5⟩ := OwnP.reads ho5 (by simp)
      clear hb5 ho5 hE5
      dsimp only
      go_wp2_with fail
      refine (HUTX.out A3 c3 w5 HC35.out hc3).mono ?_
      rintro e w6 ⟨v6, rfl, ho6, hb6⟩
      have HB6 := Aside0.mk (below_then HB5.out HB5.out.size hb6)
      have HE46 := Aside0.mk (HE45.out.below hb6)
      obtain ⟨A6, c6, rfl, hc6, hE6⟩ := OwnE.reads ho6 (by first | omega | (dsimp only; omega))
      clear hb6 ho6 hE6 hpl
      dsimp only
      go_upto_region 7 with fail
      go_cut [71] (fun v wx => v = .bool false ∧ Aside0 (Below w.heap.size w wx))
      case first =>
        by_cases hst : s = t
        · subst hst
          have hu2 : u2 = 0 := by
            have := HPOX.out
            simpa using this
          subst hu2
          go_wp2_with fail
          refine (same_ents_calls A4 A0 c4 c0 l w6 HE46.out (HLS.out w6 HB6.out)).mono ?_
          rintro e w7 ⟨rfl, hb7⟩
          have HB7 := Aside0.mk (below_then HB6.out HB6.out.size hb7)
          clear hb7
          dsimp only
          go_wp2
          go_meet
          case rel => exact ⟨rfl, HB7⟩
        · have hu2 : (u2 == 0) = false := by
            have := HPOX.out
            have h2 : (s == t) = false := by simpa using hst
            rw [h2] at this
            simpa using this
          have h2 : (s == t) = false := by simpa using hst
          clear hst
          go_wp2_with fail
          refine (same_ents_calls A4 A0 c4 c0 l w6 HE46.out (HLS.out w6 HB6.out)).mono ?_
          rintro e w7 ⟨rfl, hb7⟩
          have HB7 := Aside0.mk (below_then HB6.out HB6.out.size hb7)
          clear hb7
          dsimp only
          go_wp2
          go_meet
          case rel => exact ⟨rfl, HB7⟩
      case rest =>
        obtain ⟨rfl, HB7⟩ := hcut
        go_wp2_with fail
        refine (HMI.out wc HB7.out).mono ?_
        rintro e w8 ⟨v8, rfl, ho8, hb8⟩
        have HB8 := Aside0.mk (below_then HB7.out HB7.out.size hb8)
        obtain ⟨A8, c8, rfl, hc8, hE8⟩ := OwnE.reads ho8 hll
        have HE8 := Aside0.mk hE8
        clear hb8 ho8 hE8
        dsimp only
        go_wp2_with fail
        refine (HSP.out A8 c8 w8 HE8.out).mono ?_
        rintro e w9 ⟨rfl, hb9⟩
        have HB9 := Aside0.mk (below_then HB8.out HB8.out.size hb9)
        clear hb9
        dsimp only
        have hmx : ∀ W : World, (Builtin.max_ #[3, 3] 3 #[.int .i64 1, .int .i64 (l.length : Int)]).run Try.prog W = .ok (.int .i64 (if (1 : Int) < (l.length : Int) then (l.length : Int) else 1)) W := fun W => rfl
        obtain ⟨mx, hmxe⟩ : ∃ mx, (if (1 : Int) < (l.length : Int) then (l.length : Int) else 1) = mx := ⟨_, rfl⟩
        rw [hmxe] at hmx
        have hm1 : 1 ≤ mx := by rw [← hmxe]; split <;> omega
        have hml : (l.length : Int) ≤ mx := by rw [← hmxe]; split <;> omega
        have HMX := Aside0.mk hmxe
        clear hmxe
        rcases HSI.out with hi0 | ⟨n, hin, hn0, hnl, hne⟩
        · subst hi0
          go_wp2
          have d1 : ¬ mx ≤ 0 := by omega
          refine wp_region_in [0, 0, 0, 0, 0, 0, 0, 0, 0, 0, 0, 0, 0, 0, 0, 0, 0, 1, 0, 0, 0, 0, 0, 0, 1, 0, 0, 0, 0] [] (fun w' => True) (by kernel_rfl) rfl (by kernel_rfl) (fun _ _ _ _ h => h) trivial ?_
          iterate 29 (first
            | (refine in_off0 (by rfl) ?_; simp only [Act.put, List.setIfInBounds_toArray, List.set_cons_zero, List.set_cons_succ, i64_w, i32_w])
            | (refine in_off1 (by rfl) ?_; simp only [Act.put, List.setIfInBounds_toArray, List.set_cons_zero, List.set_cons_succ, i64_w, i32_w])
            | (refine in_0 (v := ?_) (by rfl) rfl ?_ (a' := ?_) ?_ ?_; rotate_left; (intro w'; go_simp; with_reducible rfl); rotate_left; (simp only [Act.put, List.setIfInBounds_toArray, List.set_cons_zero, List.set_cons_succ, i64_w, i32_w]; rfl))
            | (refine in_1 (v := ?_) (by rfl) rfl ?_ (a' := ?_) ?_ ?_; rotate_left; (rintro w' hs; go_split_ands; go_simp; with_reducible rfl); rotate_left; (simp only [Act.put, List.setIfInBounds_toArray, List.set_cons_zero, List.set_cons_succ, i64_w, i32_w]; rfl)))
          refine in_nil ?_
          go_wp2
          go_meet
          case rel => exact ⟨HB9.out.drew⟩
        · subst hin
          obtain ⟨ad, e0, _, _, h3⟩ := (HLS.out w9 HB9.out).cells n hnl
          obtain ⟨ad', e1, _, _, g3⟩ := (HLS.out w9 HB9.out).cells (n - 1) (by omega)
          have e2 : ad' = ad := by
            rw [e0] at e1
            exact (Option.some.inj e1).symm
          subst e2
          obtain ⟨n', hn'⟩ : ∃ n', n - 1 = n' := ⟨_, rfl⟩
          have hx := H47.out n hnl
          have hz := H47.out (n - 1) (by omega)
          rw [hn'] at g3 hz hne
          obtain ⟨x, hxx⟩ : ∃ x, (entAt l n).name = x := ⟨_, rfl⟩
          obtain ⟨z, hzz⟩ : ∃ z, (entAt l n').name = z := ⟨_, rfl⟩
          rw [hxx] at h3 hx hne
          rw [hzz] at g3 hz hne
          obtain ⟨p, hpx⟩ : ∃ p, hashI x = p := ⟨_, rfl⟩
          obtain ⟨p', hpz⟩ : ∃ p, hashI z = p := ⟨_, rfl⟩
          rw [hpx, hpz] at hne
          have HPX := Aside0.mk hpx
          have HPZ := Aside0.mk hpz
          have HA0 := Aside0.mk e0
          have hS : ∀ w', Below w9.heap.size w9 w' → (w'.cell? ⟨(ad'.add (n * 3)).block, (ad'.add (n * 3)).off + 2, none⟩ = some (.string x) ∧ w'.cell? ⟨(ad'.add (n' * 3)).block, (ad'.add (n' * 3)).off + 2, none⟩ = some (.string z) ∧ Below w9.heap.size w9 w') := fun w' hb =>
            ⟨pw_cell_below hb h3, pw_cell_below hb g3, hb⟩
          have HS := Aside0.mk hS
          have i3 : (n : Int) < (l.length : Int) := by omega
          have i5 : wrap64 ((n : Int) - 1) = n' := by unfold wrap64; omega
          have i6 : n' < l.length := by omega
          have i2 : (n' : Int) < (l.length : Int) := by omega
          have hpb : (p == p') = false := by simpa using hne
          have HN' := Aside0.mk hn'
          clear hS hxx hzz hpx hpz hne e1 h3 g3 hn'
          subst e0
          have i4 : 0 < n := hn0
          have HMN := Aside0.mk (show ¬ mx ≤ (n : Int) by omega)
          have HN0 := Aside0.mk (show ¬ (n : Int) < 0 by omega)
          go_wp2
          have d2 : ¬ mx ≤ (n : Int) := by have := HMN.out; omega
          have d3 : ¬ (n : Int) < 0 := by omega
          have i7 : (0 : Int) < (n : Int) := by omega
          refine wp_region_ord [0, 1, 2, 3, 4, 5, 6, 7, 8, 9, 10, 11, 12, 13, 14, 15, 16, 17, 19, 20, 21, 22, 23, 24, 18, 25, 26, 27, 28] [0, 0, 0, 0, 0, 0, 0, 0, 0, 0, 0, 0, 0, 0, 0, 0, 0, 1, 0, 0, 0, 0, 0, 1, 2, 2, 0, 0, 0] (fun w' => w'.cell? ⟨(ad'.add (n * 3)).block, (ad'.add (n * 3)).off + 2, none⟩ = some (.string x) ∧ w'.cell? ⟨(ad'.add (n' * 3)).block, (ad'.add (n' * 3)).off + 2, none⟩ = some (.string z) ∧ Below w9.heap.size w9 w') (by kernel_rfl) rfl (by kernel_rfl) (fun _ _ _ _ h => h) (HS.out _ (Below.refl _ _).drew) ?_
          iterate 24 (first
            | (refine inQ_off0 (by rfl) (by rfl) ?_; simp only [Act.put, List.setIfInBounds_toArray, List.set_cons_zero, List.set_cons_succ, i64_w, i32_w])
            | (refine inQ_off1 (by rfl) (by rfl) ?_; simp only [Act.put, List.setIfInBounds_toArray, List.set_cons_zero, List.set_cons_succ, i64_w, i32_w])
            | (refine inQ_0 (v := ?_) (by rfl) (by rfl) rfl ?_ (a' := ?_) ?_ ?_; rotate_left; (intro w'; go_simp; with_reducible rfl); rotate_left; (simp only [Act.put, List.setIfInBounds_toArray, List.set_cons_zero, List.set_cons_succ, i64_w, i32_w]; rfl))
            | (refine inQ_1 (v := ?_) (by rfl) (by rfl) rfl ?_ (a' := ?_) ?_ ?_; rotate_left; (rintro w' hs; go_split_ands; go_simp; with_reducible rfl); rotate_left; (simp only [Act.put, List.setIfInBounds_toArray, List.set_cons_zero, List.set_cons_succ, i64_w, i32_w]; rfl)))
          refine inQ_2 (by rfl) (by rfl) (fun K hK => ?_)
          go_simp
          refine (hash_calls x _ (by omega)).mono ?_
          rintro e w3x ⟨rfl, hb3⟩
          rw [HPX.out]
          dsimp only
          have hb4 := below_then (Below.refl w9.heap.size w9).drew (Nat.le_refl _) hb3
          refine hK _ _ (HS.out _ hb4) ?_
          have HB4x := Aside0.mk hb4
          clear hK K hb3 hb4
          try simp only [Act.put, List.setIfInBounds_toArray, List.set_cons_zero, List.set_cons_succ, i64_w, i32_w]
          refine inQ_2 (by rfl) (by rfl) (fun K hK => ?_)
          go_simp
          refine (hash_calls z _ (by omega)).mono ?_
          rintro e w5x ⟨rfl, hb5⟩
          rw [HPZ.out]
          dsimp only
          have hb6 := below_then HB4x.out HB4x.out.size hb5
          refine hK _ _ (HS.out _ hb6) ?_
          have HB6x := Aside0.mk (below_then HB9.out HB9.out.size hb6)
          clear hK K hb5 hb6
          try simp only [Act.put, List.setIfInBounds_toArray, List.set_cons_zero, List.set_cons_succ, i64_w, i32_w]
          iterate 3 (first
            | (refine inQ_off0 (by rfl) (by rfl) ?_; simp only [Act.put, List.setIfInBounds_toArray, List.set_cons_zero, List.set_cons_succ, i64_w, i32_w])
            | (refine inQ_off1 (by rfl) (by rfl) ?_; simp only [Act.put, List.setIfInBounds_toArray, List.set_cons_zero, List.set_cons_succ, i64_w, i32_w])
            | (refine inQ_0 (v := ?_) (by rfl) (by rfl) rfl ?_ (a' := ?_) ?_ ?_; rotate_left; (intro w'; go_simp; with_reducible rfl); rotate_left; (simp only [Act.put, List.setIfInBounds_toArray, List.set_cons_zero, List.set_cons_succ, i64_w, i32_w]; rfl))
            | (refine inQ_1 (v := ?_) (by rfl) (by rfl) rfl ?_ (a' := ?_) ?_ ?_; rotate_left; (rintro w' hs; go_split_ands; go_simp; with_reducible rfl); rotate_left; (simp only [Act.put, List.setIfInBounds_toArray, List.set_cons_zero, List.set_cons_succ, i64_w, i32_w]; rfl)))
          refine inP_nil ?_
          go_wp2
          go_meet
          case rel => exact HB6x
    · have hpb : (p2 == 0) = false := by simpa using hp0
      clear hp0
      go_wp2
      go_meet
      case rel => exact HB3
  case rest =>
    have HBX := hcut
    go_wp2_with fail
    refine (HMK.out _ HBX.out).mono ?_
    rintro e x2 ⟨v2, rfl, ho2, hb2⟩
    have HY2 := Aside0.mk (below_then HBX.out HBX.out.size hb2)
    obtain ⟨B2, d2, rfl, hd2, hE2⟩ := OwnP.reads ho2 hkk
    have HF2 := Aside0.mk hE2
    clear hb2 ho2 hE2
    dsimp only
    go_wp2_with fail
    refine (HPI.out B2 d2 x2 HF2.out hd2).mono ?_
    rintro e x3 ⟨v3, rfl, hr3, hb3⟩
    obtain ⟨B3, d3, rfl, hd3, hC3⟩ := (Own.of_R hr3).reads
    have HD3 := Aside0.mk hC3
    have HY3 := Aside0.mk (below_then HY2.out HY2.out.size hb3)
    clear hb3 hr3 hC3
    dsimp only
    by_cases hq0 : q2 = 0
    · subst hq0
      obtain ⟨hbk, hnl⟩ := HQ0.out rfl
      have hul := HULQ.out B3 d3 x3 HD3.out hd3
      rw [hbk] at hul
      have hun := HUNQ.out
      rw [hnl] at hun
      have HULX := Aside0.mk hul
      have HUNX := Aside0.mk hun
      clear hbk hnl hul hun
      go_wp2_with fail
      refine HULX.out.mono ?_
      rintro e x4 ⟨v4, rfl, ho4, hb4⟩
      have HY4 := Aside0.mk (below_then HY3.out HY3.out.size hb4)
      have HD34 := Aside0.mk (Kd.C_below HD3.out hb4)
      obtain ⟨B4, d4, rfl, hd4, hE4⟩ := OwnP.reads ho4 hkk
      have HF4 := Aside0.mk hE4
      clear hb4 ho4 hE4
      dsimp only
      go_wp2_with fail
      refine (HUNX.out B3 d3 x4 HD34.out hd3).mono ?_
      rintro e x5 ⟨v5, rfl, ho5, hb5⟩
      have HY5 := Aside0.mk (below_then HY4.out HY4.out.size hb5)
      have HF45 := Aside0.mk (HF4.out.below hb5)
      obtain ⟨B5, d5, rfl, hd5, hE5⟩ := OwnE.reads ho5 (by simp)
      clear hb5 ho5 hE5
      dsimp only
      go_wp2_with fail
      refine (same_prts_calls B4 A1 d4 c1 k x5 HF45.out (HKS.out x5 HY5.out)).mono ?_
      rintro e x6 ⟨rfl, hb6⟩
      have HY6 := Aside0.mk (below_then HY5.out HY5.out.size hb6)
      clear hb6
      dsimp only
      go_wp2
      go_ret
      exact ⟨rfl, HY6.out⟩
    · have hqe := HQ1.out hq0
      subst hqe
      have hqb : (q2 != 0) = true := by simpa using hq0
      clear hq0
      go_wp2
      go_ret
      exact ⟨rfl, HY3.out⟩
end Go.Proofs.Ytjggkaieagbjmaa.Hand
