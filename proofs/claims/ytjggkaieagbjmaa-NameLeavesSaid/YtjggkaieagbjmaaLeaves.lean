/- The law NameLeaves, walked: blocks of entries are packed, unpacked and parted as the document says. -/
import Derived.Test.YtjggkaieagbjmaaRunp1
import Derived.Test.YtjggkaieagbjmaaRsplit
import Derived.Test.YtjggkaieagbjmaaSameE
import Derived.Test.YtjggkaieagbjmaaMine
import Derived.Test.YtjggkaieagbjmaaAw1
namespace Go.Proofs.Ytjggkaieagbjmaa.Hand
set_option linter.unusedVariables false
set_option linter.unusedSimpArgs false
open Go.Shelf Go.RowKit Go.Proofs.YtjggkaieagbjmaaW.PrintWords Go.Proofs.YtjggkaieagbjmaaW.PrintLast Go.Proofs.YtjggkaieagbjmaaW.PrintMore

theorem unpackI_len (l : List Int) (s : Int) : (unpackI l s).1.length ≤ 255 ∨ ¬ allB l := by
  by_cases hb : allB l
  · left
    unfold unpackI
    split
    · simp
    · split
      · simp
      · rename_i out h
        have hg : ∀ (g : Nat) (r : List Int) (o : List Ent) (out : List Ent), readI g r o = some out → out.length = o.length + g := by
          intro g
          induction g with
          | zero => intro r o out h; simp only [readI, Option.some.injEq] at h; rw [h]; rfl
          | succ g ih =>
            intro r o out h
            rw [readI] at h
            split at h
            · cases h
            · have := ih _ _ _ h
              rw [this, List.length_append]
              simp only [List.length_cons, List.length_nil]
              omega
        have h1 := hg _ _ _ _ h
        have h2 := allB_get hb 1
        split
        · simp only [List.length_nil, Nat.zero_add] at h1
          show out.length ≤ 255
          omega
        · simp
  · exact .inr hb

set_option maxHeartbeats 1000000 in
set_option maxRecDepth 100000 in
theorem leaves_calls (A : Option Addr) (c : Nat) (l : List Ent) (B : Option Addr) (cb : Nat) (bs : List Int) (s : Int) (w : World) (hl : Ents w A l) (hc : l.length ≤ c) (hn : l.length * 32 ≤ 140737488351232) (h47 : ∀ j, j < l.length → (entAt l j).name.size ≤ 1152921504606846976)
    (hb : Kd.C (Kd.int .u8) w B bs.length bs) (hcb : bs.length ≤ cb) (hab : allB bs) (hs0 : 0 ≤ s) (hs1 : s < 4294967296) :
    Calls Try.prog 4 #[.slice A l.length c, .slice B bs.length cb, .int .u32 s] w fun e w' => e = .returned (.bool true) ∧ Below w.heap.size w w' := by
  have HMI := Aside0.mk (fun (W : World) (hW : Below w.heap.size w W) => mine_calls A c l W (hl.below hW) hn)
  have HRP := Aside0.mk (fun (W : World) (hW : Below w.heap.size w W) => rpack_calls A c s l W (hl.below hW) hs0 hs1)
  have HUN := Aside0.mk (fun (W : World) (hW : Below w.heap.size w W) => unpack_calls B cb s bs W (Kd.C_below hb hW) hcb hs0 hs1 hab)
  have HRU := Aside0.mk (fun (W : World) (hW : Below w.heap.size w W) => runpack_calls B cb s bs W (Kd.C_below hb hW) hcb hs0 hs1 hab)
  have HRS := Aside0.mk (fun (W : World) (hW : Below w.heap.size w W) => rsplit_calls A c l W (hl.below hW) hc h47)
  have HPK := Aside0.mk (fun (A' : Option Addr) (c' : Nat) (W : World) (hW : Ents W A' l) (hc' : l.length ≤ c') => pack_calls A' c' s l W hW hc' hs0 hs1)
  have HSP := Aside0.mk (fun (A' : Option Addr) (c' : Nat) (W : World) (hW : Ents W A' l) => split_calls A' c' l W hW h47)
  unfold PackPost at HRP HPK
  unfold UnpPost at HUN
  unfold RunpPost at HRU
  have hul := (unpackI_len bs s).resolve_right (fun h => h hab)
  obtain ⟨⟨p1, p2⟩, hp⟩ : ∃ p, packI l s = p := ⟨_, rfl⟩
  obtain ⟨⟨u1, u2⟩, hu⟩ : ∃ u, unpackI bs s = u := ⟨_, rfl⟩
  obtain ⟨q, hq⟩ : ∃ q, splitI l = q := ⟨_, rfl⟩
  rw [hp] at HRP HPK
  rw [hu] at HUN HRU hul
  rw [hq] at HRS HSP
  dsimp only at HRP HPK HUN HRU hul
  have hll := hl.size
  have hbl := (C_int_len hb).2
  clear hl hb hp hu hq hab h47
  go_enter Try.func4, Try.ntmps4
  go_wp2_with fail
  refine (awake_calls w).mono ?_
  rintro e w1 ⟨rfl, hb1⟩
  have HB := Aside0.mk hb1
  clear hb1
  dsimp only
  go_wp2_with fail
  refine (HMI.out w1 HB.out).mono ?_
  rintro e w2 ⟨v2, rfl, ho2, hb2⟩
  have HB2 := Aside0.mk (below_then HB.out HB.out.size hb2)
  obtain ⟨A2, c2, rfl, hc2, hE2⟩ := OwnE.reads ho2 hll
  have HE2 := Aside0.mk hE2
  clear hb2 ho2 hE2
  dsimp only
  go_wp2_with fail
  refine (HPK.out A2 c2 w2 HE2.out hc2).mono ?_
  rintro e w3 ⟨v3, rfl, hr3, hb3⟩
  obtain ⟨A3, c3, rfl, hc3, hC3⟩ := (Own.of_R hr3).reads
  have HC3 := Aside0.mk hC3
  have HB3 := Aside0.mk (below_then HB2.out HB2.out.size hb3)
  clear hb3 hr3 hC3
  dsimp only
  go_wp2_with fail
  refine (HRP.out w3 HB3.out).mono ?_
  rintro e w4 ⟨v4, rfl, hr4, hb4⟩
  obtain ⟨A4, c4, rfl, hc4, hC4⟩ := (Own.of_R hr4).reads
  have HC4 := Aside0.mk hC4
  have HB4 := Aside0.mk (below_then HB3.out HB3.out.size hb4)
  have HC34 := Aside0.mk (Kd.C_below HC3.out hb4)
  clear hb4 hr4 hC4
  dsimp only
  go_wp2_with fail
  refine (HUN.out w4 HB4.out).mono ?_
  rintro e w5 ⟨v5, rfl, ho5, hb5⟩
  have HB5 := Aside0.mk (below_then HB4.out HB4.out.size hb5)
  have HC35 := Aside0.mk (Kd.C_below HC34.out hb5)
  have HC45 := Aside0.mk (Kd.C_below HC4.out hb5)
  obtain ⟨A5, c5, rfl, hc5, hE5⟩ := OwnE.reads ho5 (by omega)
  have HE5 := Aside0.mk hE5
  clear hb5 ho5 hE5
  dsimp only
  go_wp2_with fail
  refine (HRU.out w5 HB5.out).mono ?_
  rintro e w6 ⟨v6, rfl, ho6, hb6⟩
  have HB6 := Aside0.mk (below_then HB5.out HB5.out.size hb6)
  have HC36 := Aside0.mk (Kd.C_below HC35.out hb6)
  have HC46 := Aside0.mk (Kd.C_below HC45.out hb6)
  have HE56 := Aside0.mk (HE5.out.below hb6)
  obtain ⟨A6, c6, rfl, hc6, hE6⟩ := OwnR.reads ho6 (by omega)
  have HE6 := Aside0.mk hE6
  clear hb6 ho6 hE6
  dsimp only
  go_wp2_with fail
  refine (same_calls A3 A4 c3 c4 p1 p1 w6 HC36.out HC46.out).mono ?_
  rintro e w7 ⟨rfl, hb7⟩
  have HB7 := Aside0.mk (below_then HB6.out HB6.out.size hb7)
  have HE57 := Aside0.mk (HE56.out.below hb7)
  have HE67 := Aside0.mk (HE6.out.below hb7)
  rw [show (p1 == p1) = true by simp]
  clear hb7
  dsimp only
  go_wp2_with fail
  refine (same_ents_calls A5 A6 c5 c6 u1 w7 HE57.out HE67.out).mono ?_
  rintro e w8 ⟨rfl, hb8⟩
  have HB8 := Aside0.mk (below_then HB7.out HB7.out.size hb8)
  clear hb8
  dsimp only
  go_wp2_with fail
  refine (HMI.out w8 HB8.out).mono ?_
  rintro e w9 ⟨v9, rfl, ho9, hb9⟩
  have HB9 := Aside0.mk (below_then HB8.out HB8.out.size hb9)
  obtain ⟨A9, c9, rfl, hc9, hE9⟩ := OwnE.reads ho9 hll
  have HE9 := Aside0.mk hE9
  clear hb9 ho9 hE9
  dsimp only
  go_wp2_with fail
  refine (HSP.out A9 c9 w9 HE9.out).mono ?_
  rintro e w10 ⟨rfl, hb10⟩
  have HB10 := Aside0.mk (below_then HB9.out HB9.out.size hb10)
  clear hb10
  dsimp only
  go_wp2_with fail
  refine (HRS.out w10 HB10.out).mono ?_
  rintro e w11 ⟨rfl, hb11⟩
  have HB11 := Aside0.mk (below_then HB10.out HB10.out.size hb11)
  clear hb11
  dsimp only
  go_wp2
  go_ret
  exact ⟨rfl, HB11.out⟩
end Go.Proofs.Ytjggkaieagbjmaa.Hand
