/- The law NameIndexes, walked: blocks of parts are packed and unpacked as the document says. -/
import Derived.Test.YtjggkaieagbjmaaRuidx
import Derived.Test.YtjggkaieagbjmaaSameP
import Derived.Test.YtjggkaieagbjmaaParts
import Derived.Test.YtjggkaieagbjmaaAw1
import Derived.Test.YtjggkaieagbjmaaOpenP
namespace Go.Proofs.Ytjggkaieagbjmaa.Hand
set_option linter.unusedVariables false
set_option linter.unusedSimpArgs false
open Go.Shelf Go.RowKit Go.Proofs.YtjggkaieagbjmaaW.PrintWords Go.Proofs.YtjggkaieagbjmaaW.PrintLast Go.Proofs.YtjggkaieagbjmaaW.PrintMore

theorem unpidxI_len (l : List Int) (s : Int) : (unpidxI l s).1.length ≤ 40 := by
  rcases unpidxI_cases l s with ⟨out, h, _, h2⟩ | h
  · rw [h]; exact h2
  · rw [h]; simp

set_option maxHeartbeats 1000000 in
set_option maxRecDepth 100000 in
theorem indexes_calls (A : Option Addr) (c : Nat) (l : List Prt) (B : Option Addr) (cb : Nat) (bs : List Int) (s : Int) (w : World) (hl : Prts w A l) (hc : l.length ≤ c) (hn : l.length * 16 ≤ 140737488351232) (hwf : ∀ j, j < l.length → 0 ≤ (prtAt l j).hash ∧ (prtAt l j).hash < 4294967296)
    (hb : Kd.C (Kd.int .u8) w B bs.length bs) (hcb : bs.length ≤ cb) (hab : allB bs) (hs0 : 0 ≤ s) (hs1 : s < 4294967296) :
    Calls Try.prog 6 #[.slice A l.length c, .slice B bs.length cb, .int .u32 s] w fun e w' => e = .returned (.bool true) ∧ Below w.heap.size w w' := by
  have HMI := Aside0.mk (fun (W : World) (hW : Below w.heap.size w W) => parts_calls A c l W (hl.below hW) hn)
  have HRP := Aside0.mk (fun (W : World) (hW : Below w.heap.size w W) => rpidx_calls A c s l W (hl.below hW) hwf hs0 hs1)
  have HUN := Aside0.mk (fun (W : World) (hW : Below w.heap.size w W) => unpidx_calls B cb s bs W (Kd.C_below hb hW) hcb hs0 hs1 hab)
  have HRU := Aside0.mk (fun (W : World) (hW : Below w.heap.size w W) => runpidx_calls B cb s bs W (Kd.C_below hb hW) hcb hs0 hs1 hab)
  have HPK := Aside0.mk (fun (A' : Option Addr) (c' : Nat) (W : World) (hW : Prts W A' l) (hc' : l.length ≤ c') => pidx_calls A' c' s l W hW hc' hs0 hs1)
  unfold PidxPost at HRP HPK
  unfold UidxPost at HUN
  unfold RuidxPost at HRU
  have hul := unpidxI_len bs s
  obtain ⟨⟨p1, p2⟩, hp⟩ : ∃ p, pidxI l s = p := ⟨_, rfl⟩
  obtain ⟨⟨u1, u2⟩, hu⟩ : ∃ u, unpidxI bs s = u := ⟨_, rfl⟩
  rw [hp] at HRP HPK
  rw [hu] at HUN HRU hul
  dsimp only at HRP HPK HUN HRU hul
  have hll := hl.size
  have hbl := (C_int_len hb).2
  clear hl hb hp hu hab hwf
  go_enter Try.func6, Try.ntmps6
  go_wp2_with fail
  refine (awake_calls w).mono ?_
  rintro e w1 ⟨rfl, hb1⟩
  have HB := Aside0.mk hb1
  clear hb1
  dsimp only
  go_wp2_with fail
  refine (HMI.out w1 HB.out).mono ?_
  rintro e w2 ⟨v2, rfl, ho2, hb2⟩
  have HB2 := Aside0.mk (below_then HB.out HB.out.size hb2)
  obtain ⟨A2, c2, rfl, hc2, hE2⟩ := OwnP.reads ho2 hll
  have HE2 := Aside0.mk hE2
  clear hb2 ho2 hE2
  dsimp only
  go_wp2_with fail
  refine (HPK.out A2 c2 w2 HE2.out hc2).mono ?_
  rintro e w3 ⟨v3, rfl, hr3, hb3⟩
  obtain ⟨A3, c3, rfl, hc3, hC3⟩ := (Own.of_R hr3).reads
  have HC3 := Aside0.mk hC3
  have HB3 := Aside0.mk (below_then HB2.out HB2.out.size hb3)
  clear hb3 hr3 hC3
  dsimp only
  go_wp2_with fail
  refine (HRP.out w3 HB3.out).mono ?_
  rintro e w4 ⟨v4, rfl, hr4, hb4⟩
  obtain ⟨A4, c4, rfl, hc4, hC4⟩ := (Own.of_R hr4).reads
  have HC4 := Aside0.mk hC4
  have HB4 := Aside0.mk (below_then HB3.out HB3.out.size hb4)
  have HC34 := Aside0.mk (Kd.C_below HC3.out hb4)
  clear hb4 hr4 hC4
  dsimp only
  go_wp2_with fail
  refine (HUN.out w4 HB4.out).mono ?_
  rintro e w5 ⟨v5, rfl, ho5, hb5⟩
  have HB5 := Aside0.mk (below_then HB4.out HB4.out.size hb5)
  have HC35 := Aside0.mk (Kd.C_below HC34.out hb5)
  have HC45 := Aside0.mk (Kd.C_below HC4.out hb5)
  obtain ⟨A5, c5, rfl, hc5, hE5⟩ := OwnP.reads ho5 (by omega)
  have HE5 := Aside0.mk hE5
  clear hb5 ho5 hE5
  dsimp only
  go_wp2_with fail
  refine (HRU.out w5 HB5.out).mono ?_
  rintro e w6 ⟨v6, rfl, ho6, hb6⟩
  have HB6 := Aside0.mk (below_then HB5.out HB5.out.size hb6)
  have HC36 := Aside0.mk (Kd.C_below HC35.out hb6)
  have HC46 := Aside0.mk (Kd.C_below HC45.out hb6)
  have HE56 := Aside0.mk (HE5.out.below hb6)
  obtain ⟨A6, c6, rfl, hc6, hE6⟩ := OwnQ.reads ho6 (by omega)
  have HE6 := Aside0.mk hE6
  clear hb6 ho6 hE6
  dsimp only
  go_wp2_with fail
  refine (same_calls A3 A4 c3 c4 p1 p1 w6 HC36.out HC46.out).mono ?_
  rintro e w7 ⟨rfl, hb7⟩
  have HB7 := Aside0.mk (below_then HB6.out HB6.out.size hb7)
  have HE57 := Aside0.mk (HE56.out.below hb7)
  have HE67 := Aside0.mk (HE6.out.below hb7)
  rw [show (p1 == p1) = true by simp]
  clear hb7
  dsimp only
  go_wp2_with fail
  refine (same_prts_calls A5 A6 c5 c6 u1 w7 HE57.out HE67.out).mono ?_
  rintro e w8 ⟨rfl, hb8⟩
  have HB8 := Aside0.mk (below_then HB7.out HB7.out.size hb8)
  clear hb8
  dsimp only
  go_wp2
  go_ret
  exact ⟨rfl, HB8.out⟩
theorem indexes_walk (a0 : Option Addr) (c0 : Nat) (l0 : List Prt) (a1 : Option Addr) (len1 cap1 : Nat) (z1 : List Int) (a2 : Int) (w : World) (he : Prts w a0 l0) (hc : l0.length ≤ c0) (hn : l0.length * 16 ≤ 140737488351232) (hwf : ∀ j, j < l0.length → 0 ≤ (prtAt l0 j).hash ∧ (prtAt l0 j).hash < 4294967296)
    (w1 : (a1 = none ∧ len1 = 0 ∧ cap1 = 0 ∧ z1 = []) ∨ ∃ x, a1 = some x ∧ len1 ≤ cap1 ∧ cap1 ≤ maxLen ∧ z1.length = cap1 ∧ (∀ i, i < z1.length → w.cell? (x.add i) = some (.int .u8 (z1.getD i 0))) ∧ ∀ n ∈ z1, (Lit.int .u8 n).wf = true)
    (w2 : (Lit.int .u32 a2).wf = true) :
    Calls Try.prog 6 #[.slice a0 l0.length c0, .slice a1 len1 cap1, .int .u32 a2] w fun e w' => e = .returned (.bool true) ∧ Below w.heap.size w w' := by
  obtain ⟨l, rfl, hr, hm, hw, hcb⟩ := ReadsInt.ofRowC w1
  exact indexes_calls a0 c0 l0 a1 cap1 l a2 w he hc hn hwf (Kd.C_of_reads (d := (0 : Int)) (h1 := fun _ => rfl) hr) hcb (allB_wf hw) (wf_u32 w2).1 (wf_u32 w2).2
end Go.Proofs.Ytjggkaieagbjmaa.Hand
