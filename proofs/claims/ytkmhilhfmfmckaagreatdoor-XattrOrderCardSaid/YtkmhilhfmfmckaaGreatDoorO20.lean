/- Own texts and printed words of the kit, put together and trimmed by a program of mine (merge.py). -/
import Derived.Test.YtkmhilhfmfmckaaGreatDoorO19
import Derived.Test.YtkmhilhfmfmckaaGreatDoorRows
import Derived.WalkKit
import Derived.ProofKit
import Derived.OpenShut
import Derived.ShutString
import Derived.ChangeOld
import Derived.ChangeArms
import Derived.Lib.LaidTab
import Derived.LaidMore
import Derived.LaidHandle
import Derived.MakeChecks
import Derived.Stop.LaidErr
namespace Go.Proofs.YtkmhilhfmfmckaaGreatDoor.Hand
set_option linter.unusedSimpArgs false
set_option linter.unusedVariables false
open Go.Shelf Go.RowKit Go.Proofs.YtkmhilhfmfmckaaGreatDoorW.PrintWords Go.Proofs.YtkmhilhfmfmckaaGreatDoorW.PrintLast Go.Proofs.YtkmhilhfmfmckaaGreatDoorW.PrintMore
set_option maxHeartbeats 8000000 in
set_option maxRecDepth 100000 in
theorem ord_ne (whata howa goala : Int) (nma : ByteArray) (Aa : Option Addr) (ca : Nat) (la : List Int) (whatb howb goalb : Int) (nmb : ByteArray) (Ab : Option Addr) (cb : Nat) (lb : List Int) (w : World) (hT : Tab w)
    (hva : Kd.C (Kd.int .u8) w Aa la.length la) (hna : Aa = none → ca = 0) (hda : ∀ ad, Aa = some ad → ad.block < w.heap.size) (hba : allB la)
    (hvb : Kd.C (Kd.int .u8) w Ab lb.length lb) (hnb : Ab = none → cb = 0) (hdb : ∀ ad, Ab = some ad → ad.block < w.heap.size) (hbb : allB lb) (hne : nma ≠ nmb) {s1 s2 t1 t2 : St} {r1 r3 : Ino} {c1 c2 : Int} (x1 : xsetR exS exR 48 nma la 0 0 = (s1, r1, c1))
    (hc : (c1 = 34 ∨ c1 = 22) ∨ (c1 = 0 ∧ r1 = exRx ∧ xsetR s1 exRx 48 nmb lb 0 0 = (s2, exRx, c2) ∧ xsetR exS exR 48 nmb lb 0 0 = (t1, r3, c2) ∧ s1.hist.length ≤ 1000 ∧ t1.hist.length ≤ 1000 ∧
      ((c2 = 34 ∨ c2 = 22) ∨ (c2 = 0 ∧ r3 = exRx ∧ xsetR t1 exRx 48 nma la 0 0 = (t2, exRx, 0) ∧ 108 < s2.now.length ∧ 108 < t2.now.length ∧ t2.now.getD 108 [] = s2.now.getD 108 [])))) :
    Calls Tryz.prog 5 #[.agg #[.int .i64 whata, .string nma, .slice Aa la.length ca, .int .i64 howa, .int .i64 goala], .agg #[.int .i64 whatb, .string nmb, .slice Ab lb.length cb, .int .i64 howb, .int .i64 goalb]] w fun e w' => e = .returned (.bool true) ∧ Below w.heap.size w w' := by
  have h2w : 2 < w.heap.size := World.block_lt_of_cell? w _ (hT 0 (by omega))
  have HT := Aside0.mk (And.intro hT h2w)
  have HVA := Aside0.mk (And.intro hva (And.intro hna (And.intro hda hba)))
  have HVB := Aside0.mk (And.intro hvb (And.intro hnb (And.intro hdb hbb)))
  clear hT hva hna hda hba hvb hnb hdb hbb h2w
  have HX := Aside0.mk x1
  have HC := Aside0.mk hc
  clear x1 hc
  have hq : (nma.toList == nmb.toList) = false := names_ne hne
  clear hne
  go_enter Tryz.func5, Tryz.ntmps5
  go_wp2_with fail
  have hb0 := below_alloc (below_alloc (Below.refl w.heap.size w) (.cells #[.int .i64 whata, .string nma, .slice Aa la.length ca, .int .i64 howa, .int .i64 goala] 41)) (.cells #[.int .i64 whatb, .string nmb, .slice Ab lb.length cb, .int .i64 howb, .int .i64 goalb] 41)
  have hp0 : Strc (w.alloc (.cells #[.int .i64 whata, .string nma, .slice Aa la.length ca, .int .i64 howa, .int .i64 goala] 41)) w.heap.size 41 [.int .i64 whata, .string nma, .slice Aa la.length ca, .int .i64 howa, .int .i64 goala] := alloc_last w _
  have hq0 : Strc ((w.alloc (.cells #[.int .i64 whata, .string nma, .slice Aa la.length ca, .int .i64 howa, .int .i64 goala] 41)).alloc (.cells #[.int .i64 whatb, .string nmb, .slice Ab lb.length cb, .int .i64 howb, .int .i64 goalb] 41)) (w.heap.size + 1) 41 [.int .i64 whatb, .string nmb, .slice Ab lb.length cb, .int .i64 howb, .int .i64 goalb] := second_box w _ _ _
  replace hp0 := hp0.below (below_alloc (Below.refl _ _) (.cells #[.int .i64 whatb, .string nmb, .slice Ab lb.length cb, .int .i64 howb, .int .i64 goalb] 41))
  generalize (w.alloc (.cells #[.int .i64 whata, .string nma, .slice Aa la.length ca, .int .i64 howa, .int .i64 goala] 41)).alloc (.cells #[.int .i64 whatb, .string nmb, .slice Ab lb.length cb, .int .i64 howb, .int .i64 goalb] 41) = w0 at hb0 hp0 hq0 ⊢
  obtain ⟨oca, hoca⟩ : ∃ l : List Value, [.int .i64 whata, .string nma, .slice Aa la.length ca, .int .i64 howa, .int .i64 goala] = l := ⟨_, rfl⟩
  obtain ⟨ocb, hocb⟩ : ∃ l : List Value, [.int .i64 whatb, .string nmb, .slice Ab lb.length cb, .int .i64 howb, .int .i64 goalb] = l := ⟨_, rfl⟩
  rw [hoca] at hp0
  rw [hocb] at hq0
  obtain ⟨pb, hpb⟩ : ∃ q, w.heap.size + 1 = q := ⟨_, rfl⟩
  rw [hpb] at hq0 ⊢
  obtain ⟨pa, hpa⟩ : ∃ q, w.heap.size = q := ⟨_, rfl⟩
  rw [hpa] at hp0 ⊢
  have HO := Aside0.mk (And.intro hoca (And.intro hocb (And.intro hpa hpb)))
  have HP0 := Aside0.mk (And.intro hp0 hq0)
  have HB0 := Aside0.mk hb0
  clear hb0 hp0 hq0 hoca hocb hpa hpb
  refine (awake_calls w0 (HT.out.1.below HB0.out)).mono ?_
  rintro e w1 ⟨rfl, hb1⟩
  have HB1 := Aside0.mk (below_then HB0.out HB0.out.size hb1)
  have HP1 := Aside0.mk (And.intro (HP0.out.1.below hb1) (HP0.out.2.below hb1))
  clear hb1 HP0
  dsimp only
  have n1 := HP1.out.1.cell 1 (.string nma) (by rw [← HO.out.1]; rfl)
  have n2 := HP1.out.2.cell 1 (.string nmb) (by rw [← HO.out.2.1]; rfl)
  go_wp2_with fail
  with_reducible refine (both_calls w1).mono ?_
  rintro e w2 ⟨s0, qs, D, rfl, hst, hD, hb⟩
  have HBA := Aside0.mk (And.intro hst (And.intro hD hb))
  have HPL := Aside0.mk (And.intro HP1.out.1.lt HP1.out.2.lt)
  have HP2 := Aside0.mk (And.intro (HP1.out.1.below hb) (HP1.out.2.below hb))
  clear hst hD hb HP1 n1 n2 hq
  dsimp only
  go_wp2_with fail
  with_reducible refine (both_calls w2).mono ?_
  rintro e w3 ⟨t0, qt, E, rfl, hst, hE, hb⟩
  have HA3 := Aside0.mk (show AwJ w s0 exS t0 exS [(pb, 41, ocb), (pa, 41, oca)] w3 from ⟨D, E, HBA.out.1.below hb, hst, fun k hk => Nat.le_trans HB1.out.size (HBA.out.2.1 k hk), fun k hk => Nat.le_trans HB1.out.size (Nat.le_trans HBA.out.2.2.size (hE k hk)), fun k hd he => (by have := HBA.out.1.sub k hd; have := hE k he; omega), below_then (below_then HB1.out HB1.out.size HBA.out.2.2) (Nat.le_trans HB1.out.size HBA.out.2.2.size) hb, fun p hp => (by
    have h12 := HBA.out.2.2.size
    have hl1 := HPL.out.1
    have hl2 := HPL.out.2
    rcases List.mem_cons.1 hp with rfl | hp
    · exact ⟨HP2.out.2.below hb, fun hd => (by have := HBA.out.2.1 _ hd; dsimp only at this; omega), fun hd => (by have := hE _ hd; dsimp only at this; omega)⟩
    · obtain rfl := List.mem_singleton.1 hp
      exact ⟨HP2.out.1.below hb, fun hd => (by have := HBA.out.2.1 _ hd; dsimp only at this; omega), fun hd => (by have := hE _ hd; dsimp only at this; omega)⟩)⟩)
  clear hst hE hb HBA HP2
  dsimp only
  go_upto_region 6 with fail
  have HD14 := Aside0.mk (HA3.out.below ((Below.refl _ _).drew))
  refine wp_region_plan (.op 0 0 (.op 2 0 (.op 3 1 (.op 4 0 (.op 5 1 (.fork 1 10 (.fork 6 10 (.op 7 0 (.op 8 0 (.op 9 0 (.op 10 2 (.op 11 2 (.op 12 0 .stop)))))) (.op 6 2 (.op 7 0 (.op 8 0 (.op 9 0 (.op 11 2 (.op 12 0 .stop))))))) (.op 1 2 (.op 6 2 (.op 7 0 (.op 8 0 (.op 9 0 (.op 11 2 (.op 12 0 .stop))))))))))))) (fun W => W.cell? ⟨pa, 1, none⟩ = some (.string nma) ∧ W.cell? ⟨pa, 2, none⟩ = some (.slice Aa la.length ca)) (by kernel_rfl) (by kernel_rfl) (fun _ _ _ _ h => h) ⟨(HD14.out.get (p := (pa, 41, oca)) (by simp)).cell 1 (.string nma) (by rw [← HO.out.1]; rfl), (HD14.out.get (p := (pa, 41, oca)) (by simp)).cell 2 (.slice Aa la.length ca) (by rw [← HO.out.1]; rfl)⟩ ?_
  generalize w3.drew = wd at HD14 ⊢
  iterate 5 (first
    | (refine inT_off0 (by rfl) (by rfl) ?_; simp only [Act.put, stA, stZ, stS, i64_w, i32_w])
    | (refine inT_off1 (by rfl) (by rfl) ?_; simp only [Act.put, stA, stZ, stS, i64_w, i32_w])
    | (refine inT_0 (v := ?_) (by rfl) (by rfl) rfl ?_ (a' := ?_) ?_ ?_; rotate_left; (intro w'; go_simp; with_reducible rfl); rotate_left; (simp only [Act.put, stA, stZ, stS, i64_w, i32_w]; rfl))
    | (refine inT_1 (v := ?_) (by rfl) (by rfl) rfl ?_ (a' := ?_) ?_ ?_; rotate_left; (rintro w' hs; go_split_ands; go_simp; with_reducible rfl); rotate_left; (simp only [Act.put, stA, stZ, stS, i64_w, i32_w]; rfl)))
  refine wpT_join (p := .op 12 0 .stop) (fun g cs q W => resC r1 (.slice (some ⟨g, 0, none⟩) 48 48) c1 = cs ∧ AwJ w s0 s1 t0 exS ((q, 47, cs) :: [(pb, 41, ocb), (pa, 41, oca)]) W) ?joinA ?joinP ?joinT
  case joinP =>
    intro tail
    refine inT_fork (by rfl) (by rfl) (by rfl) (by rfl) (fun K hK => ?_) (fun K hK => ?_)
    · go_simp
      with_reducible refine (fresh_calls _).mono ?_
      rintro e w20 ⟨g2, rfl, hb2⟩
      have HA20 := Aside0.mk (HD14.out.below hb2)
      clear hb2
      dsimp only
      refine hK _ _ ⟨(HA20.out.get (p := (pa, 41, oca)) (by simp)).cell 1 (.string nma) (by rw [← HO.out.1]; rfl), (HA20.out.get (p := (pa, 41, oca)) (by simp)).cell 2 (.slice Aa la.length ca) (by rw [← HO.out.1]; rfl)⟩ ?_
      clear hK K
      try simp only [Act.put, stA, stZ, stS, i64_w, i32_w]
      refine inT_fork (by rfl) (by rfl) (by rfl) (by rfl) (fun K hK => ?_) (fun K hK => ?_)
      · have hs := HA20.out.setA (r := exR) (some ⟨g2, 0, none⟩) 48 48 nma Aa ca la 0 0 HX.out HT.out.1 HT.out.2 HVA.out.1 HVA.out.2.1 HVA.out.2.2.1 HVA.out.2.2.2 (by show 0 ≤ 900000; omega) (by decide) (by decide)
        obtain ⟨cs3, hcs3⟩ : ∃ cs, resC r1 (.slice (some ⟨g2, 0, none⟩) 48 48) c1 = cs := ⟨_, rfl⟩
        have Hcs3 := Aside0.mk (And.intro hcs3 (by rw [← hcs3]; exact resC_ok r1 _ _ _ _ : cs3.length = 15 ∧ cs3.toArray.all (·.oneCell') = true))
        rw [hcs3, show exR.cells (.slice (some ⟨g2, 0, none⟩) 48 48) = frC g2 from rfl] at hs
        clear hcs3
        have HS := Aside0.mk hs
        clear hs
        go_simp
        with_reducible refine HS.out.mono ?_
        rintro e w21 ⟨rfl, hax⟩
        have HA21 := Aside0.mk hax
        clear hax HS
        dsimp only
        refine hK _ _ ⟨(HA21.out.get (p := (pa, 41, oca)) (by simp)).cell 1 (.string nma) (by rw [← HO.out.1]; rfl), (HA21.out.get (p := (pa, 41, oca)) (by simp)).cell 2 (.slice Aa la.length ca) (by rw [← HO.out.1]; rfl)⟩ ?_
        clear hK K
        try simp only [Act.put, stA, stZ, stS, i64_w, i32_w]
        iterate 3 (first
          | (refine inT_off0 (by rfl) (by rfl) ?_; simp only [Act.put, stA, stZ, stS, i64_w, i32_w])
          | (refine inT_off1 (by rfl) (by rfl) ?_; simp only [Act.put, stA, stZ, stS, i64_w, i32_w])
          | (refine inT_0 (v := ?_) (by rfl) (by rfl) rfl ?_ (a' := ?_) ?_ ?_; rotate_left; (intro w'; go_simp; with_reducible rfl); rotate_left; (simp only [Act.put, stA, stZ, stS, i64_w, i32_w]; rfl))
          | (refine inT_1 (v := ?_) (by rfl) (by rfl) rfl ?_ (a' := ?_) ?_ ?_; rotate_left; (rintro w' hs; go_split_ands; go_simp; with_reducible rfl); rotate_left; (simp only [Act.put, stA, stZ, stS, i64_w, i32_w]; rfl)))
        refine inT_2 (by rfl) (by rfl) (fun K hK => ?_)
        unfold Oper.wp execOp
        go_simp
        change K _ (w21.alloc (.cells inoZ.toArray 47))
        have hax := HA21.out.push 47 inoZ
        have hlx := HA21.out.lts
        refine hK _ _ ⟨(hax.get (p := (pa, 41, oca)) (by simp)).cell 1 (.string nma) (by rw [← HO.out.1]; rfl), (hax.get (p := (pa, 41, oca)) (by simp)).cell 2 (.slice Aa la.length ca) (by rw [← HO.out.1]; rfl)⟩ ?_
        clear hK K
        generalize w21.alloc (.cells inoZ.toArray 47) = w22 at hax ⊢
        obtain ⟨qw, hqw⟩ : ∃ q, w21.heap.size = q := ⟨_, rfl⟩
        rw [hqw] at hax hlx ⊢
        have HA22 := Aside0.mk hax
        have HLW := Aside0.mk (And.intro hlx (show w.heap.size ≤ qw from hqw ▸ HA21.out.ge))
        clear hax hlx hqw
        try simp only [Act.put, stA, stZ, stS, i64_w, i32_w]
        refine inT_2 (by rfl) (by rfl) (fun K hK => ?_)
        refine wp_store_row 47 _ _ rfl qw cs3.toArray rfl rfl 47 _ (HA22.out.get (p := (qw, 47, inoZ)) (by simp)) (infIno (Hcs3.out.2.1)) (by first | rfl | (rw [List.size_toArray, List.size_toArray, Hcs3.out.2.1]; rfl)) Hcs3.out.2.2 ?_
        have hax := HA22.out.put cs3 HLW.out.2 (fun p hp => Nat.ne_of_lt (HLW.out.1 p hp))
        refine hK _ _ ⟨(hax.get (p := (pa, 41, oca)) (by simp)).cell 1 (.string nma) (by rw [← HO.out.1]; rfl), (hax.get (p := (pa, 41, oca)) (by simp)).cell 2 (.slice Aa la.length ca) (by rw [← HO.out.1]; rfl)⟩ ?_
        clear hK K
        try simp only [Act.put, stA, stZ, stS, i64_w, i32_w]
        exact tail g2 cs3 qw _ ⟨Hcs3.out.1, hax⟩
      · unfold Oper.wp execOp
        go_simp
        change K _ (w20.alloc (.cells inoZ.toArray 47))
        have hax := HA20.out.push 47 inoZ
        have hlx := HA20.out.lts
        refine hK _ _ ⟨(hax.get (p := (pa, 41, oca)) (by simp)).cell 1 (.string nma) (by rw [← HO.out.1]; rfl), (hax.get (p := (pa, 41, oca)) (by simp)).cell 2 (.slice Aa la.length ca) (by rw [← HO.out.1]; rfl)⟩ ?_
        clear hK K
        generalize w20.alloc (.cells inoZ.toArray 47) = w21 at hax ⊢
        obtain ⟨qw, hqw⟩ : ∃ q, w20.heap.size = q := ⟨_, rfl⟩
        rw [hqw] at hax hlx ⊢
        have HA21 := Aside0.mk hax
        have HLW := Aside0.mk (And.intro hlx (show w.heap.size ≤ qw from hqw ▸ HA20.out.ge))
        clear hax hlx hqw
        try simp only [Act.put, stA, stZ, stS, i64_w, i32_w]
        refine inT_2 (by rfl) (by rfl) (fun K hK => ?_)
        have hs := HA21.out.setA (r := exR) (some ⟨g2, 0, none⟩) 48 48 nma Aa ca la 0 0 HX.out HT.out.1 HT.out.2 HVA.out.1 HVA.out.2.1 HVA.out.2.2.1 HVA.out.2.2.2 (by show 0 ≤ 900000; omega) (by decide) (by decide)
        obtain ⟨cs3, hcs3⟩ : ∃ cs, resC r1 (.slice (some ⟨g2, 0, none⟩) 48 48) c1 = cs := ⟨_, rfl⟩
        have Hcs3 := Aside0.mk (And.intro hcs3 (by rw [← hcs3]; exact resC_ok r1 _ _ _ _ : cs3.length = 15 ∧ cs3.toArray.all (·.oneCell') = true))
        rw [hcs3, show exR.cells (.slice (some ⟨g2, 0, none⟩) 48 48) = frC g2 from rfl] at hs
        clear hcs3
        have HS := Aside0.mk hs
        clear hs
        go_simp
        with_reducible refine HS.out.mono ?_
        rintro e w22 ⟨rfl, hax⟩
        have HA22 := Aside0.mk hax
        clear hax HS
        dsimp only
        refine hK _ _ ⟨(HA22.out.get (p := (pa, 41, oca)) (by simp)).cell 1 (.string nma) (by rw [← HO.out.1]; rfl), (HA22.out.get (p := (pa, 41, oca)) (by simp)).cell 2 (.slice Aa la.length ca) (by rw [← HO.out.1]; rfl)⟩ ?_
        clear hK K
        try simp only [Act.put, stA, stZ, stS, i64_w, i32_w]
        iterate 3 (first
          | (refine inT_off0 (by rfl) (by rfl) ?_; simp only [Act.put, stA, stZ, stS, i64_w, i32_w])
          | (refine inT_off1 (by rfl) (by rfl) ?_; simp only [Act.put, stA, stZ, stS, i64_w, i32_w])
          | (refine inT_0 (v := ?_) (by rfl) (by rfl) rfl ?_ (a' := ?_) ?_ ?_; rotate_left; (intro w'; go_simp; with_reducible rfl); rotate_left; (simp only [Act.put, stA, stZ, stS, i64_w, i32_w]; rfl))
          | (refine inT_1 (v := ?_) (by rfl) (by rfl) rfl ?_ (a' := ?_) ?_ ?_; rotate_left; (rintro w' hs; go_split_ands; go_simp; with_reducible rfl); rotate_left; (simp only [Act.put, stA, stZ, stS, i64_w, i32_w]; rfl)))
        refine inT_2 (by rfl) (by rfl) (fun K hK => ?_)
        refine wp_store_row 47 _ _ rfl qw cs3.toArray rfl rfl 47 _ (HA22.out.get (p := (qw, 47, inoZ)) (by simp)) (infIno (Hcs3.out.2.1)) (by first | rfl | (rw [List.size_toArray, List.size_toArray, Hcs3.out.2.1]; rfl)) Hcs3.out.2.2 ?_
        have hax := HA22.out.put cs3 HLW.out.2 (fun p hp => Nat.ne_of_lt (HLW.out.1 p hp))
        refine hK _ _ ⟨(hax.get (p := (pa, 41, oca)) (by simp)).cell 1 (.string nma) (by rw [← HO.out.1]; rfl), (hax.get (p := (pa, 41, oca)) (by simp)).cell 2 (.slice Aa la.length ca) (by rw [← HO.out.1]; rfl)⟩ ?_
        clear hK K
        try simp only [Act.put, stA, stZ, stS, i64_w, i32_w]
        exact tail g2 cs3 qw _ ⟨Hcs3.out.1, hax⟩
    · unfold Oper.wp execOp
      go_simp
      change K _ (wd.alloc (.cells inoZ.toArray 47))
      have hax := HD14.out.push 47 inoZ
      have hlx := HD14.out.lts
      refine hK _ _ ⟨(hax.get (p := (pa, 41, oca)) (by simp)).cell 1 (.string nma) (by rw [← HO.out.1]; rfl), (hax.get (p := (pa, 41, oca)) (by simp)).cell 2 (.slice Aa la.length ca) (by rw [← HO.out.1]; rfl)⟩ ?_
      clear hK K
      generalize wd.alloc (.cells inoZ.toArray 47) = w20 at hax ⊢
      obtain ⟨qw, hqw⟩ : ∃ q, wd.heap.size = q := ⟨_, rfl⟩
      rw [hqw] at hax hlx ⊢
      have HA20 := Aside0.mk hax
      have HLW := Aside0.mk (And.intro hlx (show w.heap.size ≤ qw from hqw ▸ HD14.out.ge))
      clear hax hlx hqw
      try simp only [Act.put, stA, stZ, stS, i64_w, i32_w]
      refine inT_2 (by rfl) (by rfl) (fun K hK => ?_)
      go_simp
      with_reducible refine (fresh_calls _).mono ?_
      rintro e w21 ⟨g2, rfl, hb2⟩
      have HA21 := Aside0.mk (HA20.out.below hb2)
      clear hb2
      dsimp only
      refine hK _ _ ⟨(HA21.out.get (p := (pa, 41, oca)) (by simp)).cell 1 (.string nma) (by rw [← HO.out.1]; rfl), (HA21.out.get (p := (pa, 41, oca)) (by simp)).cell 2 (.slice Aa la.length ca) (by rw [← HO.out.1]; rfl)⟩ ?_
      clear hK K
      try simp only [Act.put, stA, stZ, stS, i64_w, i32_w]
      refine inT_2 (by rfl) (by rfl) (fun K hK => ?_)
      have hs := HA21.out.setA (r := exR) (some ⟨g2, 0, none⟩) 48 48 nma Aa ca la 0 0 HX.out HT.out.1 HT.out.2 HVA.out.1 HVA.out.2.1 HVA.out.2.2.1 HVA.out.2.2.2 (by show 0 ≤ 900000; omega) (by decide) (by decide)
      obtain ⟨cs3, hcs3⟩ : ∃ cs, resC r1 (.slice (some ⟨g2, 0, none⟩) 48 48) c1 = cs := ⟨_, rfl⟩
      have Hcs3 := Aside0.mk (And.intro hcs3 (by rw [← hcs3]; exact resC_ok r1 _ _ _ _ : cs3.length = 15 ∧ cs3.toArray.all (·.oneCell') = true))
      rw [hcs3, show exR.cells (.slice (some ⟨g2, 0, none⟩) 48 48) = frC g2 from rfl] at hs
      clear hcs3
      have HS := Aside0.mk hs
      clear hs
      go_simp
      with_reducible refine HS.out.mono ?_
      rintro e w22 ⟨rfl, hax⟩
      have HA22 := Aside0.mk hax
      clear hax HS
      dsimp only
      refine hK _ _ ⟨(HA22.out.get (p := (pa, 41, oca)) (by simp)).cell 1 (.string nma) (by rw [← HO.out.1]; rfl), (HA22.out.get (p := (pa, 41, oca)) (by simp)).cell 2 (.slice Aa la.length ca) (by rw [← HO.out.1]; rfl)⟩ ?_
      clear hK K
      try simp only [Act.put, stA, stZ, stS, i64_w, i32_w]
      iterate 3 (first
        | (refine inT_off0 (by rfl) (by rfl) ?_; simp only [Act.put, stA, stZ, stS, i64_w, i32_w])
        | (refine inT_off1 (by rfl) (by rfl) ?_; simp only [Act.put, stA, stZ, stS, i64_w, i32_w])
        | (refine inT_0 (v := ?_) (by rfl) (by rfl) rfl ?_ (a' := ?_) ?_ ?_; rotate_left; (intro w'; go_simp; with_reducible rfl); rotate_left; (simp only [Act.put, stA, stZ, stS, i64_w, i32_w]; rfl))
        | (refine inT_1 (v := ?_) (by rfl) (by rfl) rfl ?_ (a' := ?_) ?_ ?_; rotate_left; (rintro w' hs; go_split_ands; go_simp; with_reducible rfl); rotate_left; (simp only [Act.put, stA, stZ, stS, i64_w, i32_w]; rfl)))
      refine inT_2 (by rfl) (by rfl) (fun K hK => ?_)
      refine wp_store_row 47 _ _ rfl qw cs3.toArray rfl rfl 47 _ (HA22.out.get (p := (qw, 47, inoZ)) (by simp)) (infIno (Hcs3.out.2.1)) (by first | rfl | (rw [List.size_toArray, List.size_toArray, Hcs3.out.2.1]; rfl)) Hcs3.out.2.2 ?_
      have hax := HA22.out.put cs3 HLW.out.2 (fun p hp => Nat.ne_of_lt (HLW.out.1 p hp))
      refine hK _ _ ⟨(hax.get (p := (pa, 41, oca)) (by simp)).cell 1 (.string nma) (by rw [← HO.out.1]; rfl), (hax.get (p := (pa, 41, oca)) (by simp)).cell 2 (.slice Aa la.length ca) (by rw [← HO.out.1]; rfl)⟩ ?_
      clear hK K
      try simp only [Act.put, stA, stZ, stS, i64_w, i32_w]
      exact tail g2 cs3 qw _ ⟨Hcs3.out.1, hax⟩
  case joinT =>
  rintro g2 cs3 qw w22 ⟨hcs3, hax⟩
  have Hcs3 := Aside0.mk (And.intro hcs3 (by rw [← hcs3]; exact resC_ok r1 _ _ _ _ : cs3.length = 15 ∧ cs3.toArray.all (·.oneCell') = true))
  have HA22 := Aside0.mk hax
  clear hax hcs3 HD14
  iterate 1 (first
    | (refine inT_off0 (by rfl) (by rfl) ?_; simp only [Act.put, stA, stZ, stS, i64_w, i32_w])
    | (refine inT_off1 (by rfl) (by rfl) ?_; simp only [Act.put, stA, stZ, stS, i64_w, i32_w])
    | (refine inT_0 (v := ?_) (by rfl) (by rfl) rfl ?_ (a' := ?_) ?_ ?_; rotate_left; (intro w'; go_simp; with_reducible rfl); rotate_left; (simp only [Act.put, stA, stZ, stS, i64_w, i32_w]; rfl))
    | (refine inT_1 (v := ?_) (by rfl) (by rfl) rfl ?_ (a' := ?_) ?_ ?_; rotate_left; (rintro w' hs; go_split_ands; go_simp; with_reducible rfl); rotate_left; (simp only [Act.put, stA, stZ, stS, i64_w, i32_w]; rfl)))
  refine inT_stop ?_
  have hc := HC.out
  clear HC
  rcases hc with hc | ⟨rfl, rfl, x2, x3, h1, h2, hc⟩
  · have hz : resC r1 (.slice (some ⟨g2, 0, none⟩) 48 48) c1 = inoZ := by
      unfold resC
      rw [if_neg (by rcases hc with rfl | rfl <;> decide)]
    have f0 := (HA22.out.get (p := (qw, 47, cs3)) (by simp)).cell 0 (.int .i64 0) (by rw [← Hcs3.out.1, hz]; rfl)
    have HB := Aside0.mk HA22.out.all
    clear hz
    rcases hc with rfl | rfl
    all_goals
      go_wp2
      go_ret
      exact ⟨rfl, HB.out⟩
  have HY := Aside0.mk (And.intro x2 x3)
  have HH := Aside0.mk (And.intro h1 h2)
  have HC := Aside0.mk hc
  clear x2 x3 h1 h2 hc
  obtain ⟨csx, hcsx⟩ : ∃ cs, resC exRx (.slice (some ⟨g2, 0, none⟩) 48 48) c2 = cs := ⟨_, rfl⟩
  have Hcsx := Aside0.mk (And.intro hcsx (by rw [← hcsx]; exact resC_ok exRx _ _ _ _ : csx.length = 15 ∧ csx.toArray.all (·.oneCell') = true))
  clear hcsx
  go_upto_region 9 with fail
  refine wp_region_lit ?_
  refine wpList_plain rfl fun K hK => ?_
  unfold Oper.wp execOp
  go_simp
  refine hK _ _ ?_
  clear hK K
  refine wpList_load_row rfl 47 _ rfl qw rfl 47 cs3.toArray (0, 0) _ (HA22.out.get (p := (qw, 47, cs3)) (by simp)) Tryz.underlying47 rfl (infIno (Hcs3.out.2.1)) ?_
  have f1 := (HA22.out.get (p := (pb, 41, ocb)) (by simp)).cell 1 (.string nmb) (by rw [← HO.out.2.1]; rfl)
  have f2 := (HA22.out.get (p := (pb, 41, ocb)) (by simp)).cell 2 (.slice Ab lb.length cb) (by rw [← HO.out.2.1]; rfl)
  refine wpList_plain rfl fun K hK => ?_
  unfold Oper.wp execOp
  go_simp
  refine hK _ _ ?_
  clear hK K
  refine wpList_plain rfl fun K hK => ?_
  unfold Oper.wp execOp
  go_simp
  refine hK _ _ ?_
  clear hK K
  refine wpList_plain rfl fun K hK => ?_
  unfold Oper.wp execOp
  go_simp
  refine hK _ _ ?_
  clear hK K
  refine wpList_plain rfl fun K hK => ?_
  unfold Oper.wp execOp
  go_simp
  refine hK _ _ ?_
  clear hK K
  clear f1 f2
  have hs : Calls Tryz.prog 18 #[.pointer (some ⟨s0, 0, none⟩), .agg cs3.toArray, .string nmb, .slice Ab lb.length cb, .int .i64 0, .int .i64 0] w22 (AwJPost w s0 s2 t0 exS [(qw, 47, cs3), (pb, 41, ocb), (pa, 41, oca)] csx c2) := by
    have := HA22.out.setA (r := exRx) (some ⟨g2, 0, none⟩) 48 48 nmb Ab cb lb 0 0 HY.out.1 HT.out.1 HT.out.2 HVB.out.1 HVB.out.2.1 HVB.out.2.2.1 HVB.out.2.2.2 (by have := HH.out.1; omega) (by decide) (by decide)
    rw [Hcsx.out.1, show exRx.cells (.slice (some ⟨g2, 0, none⟩) 48 48) = cs3 from Hcs3.out.1] at this
    exact this
  have HS := Aside0.mk hs
  clear hs
  refine wpList_plain rfl fun K hK => ?_
  unfold Oper.wp execOp
  go_simp
  with_reducible refine HS.out.mono ?_
  rintro e w23 ⟨rfl, hax⟩
  have HA23 := Aside0.mk hax
  clear hax HS
  dsimp only
  refine hK _ _ ?_
  clear hK K
  refine wpList_plain rfl fun K hK => ?_
  unfold Oper.wp execOp
  go_simp
  refine hK _ _ ?_
  clear hK K
  refine wpList_plain rfl fun K hK => ?_
  unfold Oper.wp execOp
  go_simp
  refine hK _ _ ?_
  clear hK K
  refine wpList_plain rfl fun K hK => ?_
  unfold Oper.wp execOp
  go_simp
  refine hK _ _ ?_
  clear hK K
  refine wpList_plain rfl fun K hK => ?_
  unfold Oper.wp execOp
  go_simp
  refine hK _ _ ?_
  clear hK K
  change wpList _ _ _ _ _ (w23.alloc (.cells inoZ.toArray 47))
  have hsx : Strc (w23.alloc (.cells inoZ.toArray 47)) w23.heap.size 47 inoZ := alloc_last w23 _
  have hax := HA23.out.made 47 inoZ csx
  refine wpList_store_row rfl 47 _ _ rfl w23.heap.size csx.toArray rfl rfl 47 _ hsx (infIno (Hcsx.out.2.1)) (by first | rfl | (rw [List.size_toArray, List.size_toArray, Hcsx.out.2.1]; rfl)) Hcsx.out.2.2 ?_
  generalize World.setRow (w23.alloc (.cells inoZ.toArray 47)) w23.heap.size csx.toArray = w24 at hax ⊢
  obtain ⟨qx, hqx⟩ : ∃ q, w23.heap.size = q := ⟨_, rfl⟩
  rw [hqx] at hax ⊢
  have HA24 := Aside0.mk hax
  clear hax hsx hqx
  refine wpList_plain rfl fun K hK => ?_
  unfold Oper.wp execOp
  go_simp
  refine hK _ _ ?_
  clear hK K
  have HAS := Aside0.mk (HA24.out.sub (bx' := [(qx, 47, csx), (pb, 41, ocb), (pa, 41, oca)]) (fun p hp => (by simp at hp ⊢; rcases hp with h | h | h <;> simp [h]))).swap
  go_upto_region 10 with fail
  have HD44 := Aside0.mk (HAS.out.below ((Below.refl _ _).drew))
  refine wp_region_plan (.op 0 0 (.op 2 0 (.op 3 1 (.op 4 0 (.op 5 1 (.fork 1 10 (.fork 6 10 (.op 7 0 (.op 8 0 (.op 9 0 (.op 10 2 (.op 11 2 (.op 12 0 .stop)))))) (.op 6 2 (.op 7 0 (.op 8 0 (.op 9 0 (.op 11 2 (.op 12 0 .stop))))))) (.op 1 2 (.op 6 2 (.op 7 0 (.op 8 0 (.op 9 0 (.op 11 2 (.op 12 0 .stop))))))))))))) (fun W => W.cell? ⟨pb, 1, none⟩ = some (.string nmb) ∧ W.cell? ⟨pb, 2, none⟩ = some (.slice Ab lb.length cb)) (by kernel_rfl) (by kernel_rfl) (fun _ _ _ _ h => h) ⟨(HD44.out.get (p := (pb, 41, ocb)) (by simp)).cell 1 (.string nmb) (by rw [← HO.out.2.1]; rfl), (HD44.out.get (p := (pb, 41, ocb)) (by simp)).cell 2 (.slice Ab lb.length cb) (by rw [← HO.out.2.1]; rfl)⟩ ?_
  generalize w24.drew = we at HD44 ⊢
  iterate 5 (first
    | (refine inT_off0 (by rfl) (by rfl) ?_; simp only [Act.put, stA, stZ, stS, i64_w, i32_w])
    | (refine inT_off1 (by rfl) (by rfl) ?_; simp only [Act.put, stA, stZ, stS, i64_w, i32_w])
    | (refine inT_0 (v := ?_) (by rfl) (by rfl) rfl ?_ (a' := ?_) ?_ ?_; rotate_left; (intro w'; go_simp; with_reducible rfl); rotate_left; (simp only [Act.put, stA, stZ, stS, i64_w, i32_w]; rfl))
    | (refine inT_1 (v := ?_) (by rfl) (by rfl) rfl ?_ (a' := ?_) ?_ ?_; rotate_left; (rintro w' hs; go_split_ands; go_simp; with_reducible rfl); rotate_left; (simp only [Act.put, stA, stZ, stS, i64_w, i32_w]; rfl)))
  refine wpT_join (p := .op 12 0 .stop) (fun g cs q W => resC r3 (.slice (some ⟨g, 0, none⟩) 48 48) c2 = cs ∧ AwJ w t0 t1 s0 s2 ((q, 47, cs) :: [(qx, 47, csx), (pb, 41, ocb), (pa, 41, oca)]) W) ?joinB ?joinQ ?joinU
  case joinQ =>
    intro tail
    refine inT_fork (by rfl) (by rfl) (by rfl) (by rfl) (fun K hK => ?_) (fun K hK => ?_)
    · go_simp
      with_reducible refine (fresh_calls _).mono ?_
      rintro e w40 ⟨g4, rfl, hb2⟩
      have HA40 := Aside0.mk (HD44.out.below hb2)
      clear hb2
      dsimp only
      refine hK _ _ ⟨(HA40.out.get (p := (pb, 41, ocb)) (by simp)).cell 1 (.string nmb) (by rw [← HO.out.2.1]; rfl), (HA40.out.get (p := (pb, 41, ocb)) (by simp)).cell 2 (.slice Ab lb.length cb) (by rw [← HO.out.2.1]; rfl)⟩ ?_
      clear hK K
      try simp only [Act.put, stA, stZ, stS, i64_w, i32_w]
      refine inT_fork (by rfl) (by rfl) (by rfl) (by rfl) (fun K hK => ?_) (fun K hK => ?_)
      · have hs := HA40.out.setA (r := exR) (some ⟨g4, 0, none⟩) 48 48 nmb Ab cb lb 0 0 HY.out.2 HT.out.1 HT.out.2 HVB.out.1 HVB.out.2.1 HVB.out.2.2.1 HVB.out.2.2.2 (by show 0 ≤ 900000; omega) (by decide) (by decide)
        obtain ⟨cs5, hcs5⟩ : ∃ cs, resC r3 (.slice (some ⟨g4, 0, none⟩) 48 48) c2 = cs := ⟨_, rfl⟩
        have Hcs5 := Aside0.mk (And.intro hcs5 (by rw [← hcs5]; exact resC_ok r3 _ _ _ _ : cs5.length = 15 ∧ cs5.toArray.all (·.oneCell') = true))
        rw [hcs5, show exR.cells (.slice (some ⟨g4, 0, none⟩) 48 48) = frC g4 from rfl] at hs
        clear hcs5
        have HS := Aside0.mk hs
        clear hs
        go_simp
        with_reducible refine HS.out.mono ?_
        rintro e w41 ⟨rfl, hax⟩
        have HA41 := Aside0.mk hax
        clear hax HS
        dsimp only
        refine hK _ _ ⟨(HA41.out.get (p := (pb, 41, ocb)) (by simp)).cell 1 (.string nmb) (by rw [← HO.out.2.1]; rfl), (HA41.out.get (p := (pb, 41, ocb)) (by simp)).cell 2 (.slice Ab lb.length cb) (by rw [← HO.out.2.1]; rfl)⟩ ?_
        clear hK K
        try simp only [Act.put, stA, stZ, stS, i64_w, i32_w]
        iterate 3 (first
          | (refine inT_off0 (by rfl) (by rfl) ?_; simp only [Act.put, stA, stZ, stS, i64_w, i32_w])
          | (refine inT_off1 (by rfl) (by rfl) ?_; simp only [Act.put, stA, stZ, stS, i64_w, i32_w])
          | (refine inT_0 (v := ?_) (by rfl) (by rfl) rfl ?_ (a' := ?_) ?_ ?_; rotate_left; (intro w'; go_simp; with_reducible rfl); rotate_left; (simp only [Act.put, stA, stZ, stS, i64_w, i32_w]; rfl))
          | (refine inT_1 (v := ?_) (by rfl) (by rfl) rfl ?_ (a' := ?_) ?_ ?_; rotate_left; (rintro w' hs; go_split_ands; go_simp; with_reducible rfl); rotate_left; (simp only [Act.put, stA, stZ, stS, i64_w, i32_w]; rfl)))
        refine inT_2 (by rfl) (by rfl) (fun K hK => ?_)
        unfold Oper.wp execOp
        go_simp
        change K _ (w41.alloc (.cells inoZ.toArray 47))
        have hax := HA41.out.push 47 inoZ
        have hlx := HA41.out.lts
        refine hK _ _ ⟨(hax.get (p := (pb, 41, ocb)) (by simp)).cell 1 (.string nmb) (by rw [← HO.out.2.1]; rfl), (hax.get (p := (pb, 41, ocb)) (by simp)).cell 2 (.slice Ab lb.length cb) (by rw [← HO.out.2.1]; rfl)⟩ ?_
        clear hK K
        generalize w41.alloc (.cells inoZ.toArray 47) = w42 at hax ⊢
        obtain ⟨qy, hqy⟩ : ∃ q, w41.heap.size = q := ⟨_, rfl⟩
        rw [hqy] at hax hlx ⊢
        have HA42 := Aside0.mk hax
        have HLV := Aside0.mk (And.intro hlx (show w.heap.size ≤ qy from hqy ▸ HA41.out.ge))
        clear hax hlx hqy
        try simp only [Act.put, stA, stZ, stS, i64_w, i32_w]
        refine inT_2 (by rfl) (by rfl) (fun K hK => ?_)
        refine wp_store_row 47 _ _ rfl qy cs5.toArray rfl rfl 47 _ (HA42.out.get (p := (qy, 47, inoZ)) (by simp)) (infIno (Hcs5.out.2.1)) (by first | rfl | (rw [List.size_toArray, List.size_toArray, Hcs5.out.2.1]; rfl)) Hcs5.out.2.2 ?_
        have hax := HA42.out.put cs5 HLV.out.2 (fun p hp => Nat.ne_of_lt (HLV.out.1 p hp))
        refine hK _ _ ⟨(hax.get (p := (pb, 41, ocb)) (by simp)).cell 1 (.string nmb) (by rw [← HO.out.2.1]; rfl), (hax.get (p := (pb, 41, ocb)) (by simp)).cell 2 (.slice Ab lb.length cb) (by rw [← HO.out.2.1]; rfl)⟩ ?_
        clear hK K
        try simp only [Act.put, stA, stZ, stS, i64_w, i32_w]
        exact tail g4 cs5 qy _ ⟨Hcs5.out.1, hax⟩
      · unfold Oper.wp execOp
        go_simp
        change K _ (w40.alloc (.cells inoZ.toArray 47))
        have hax := HA40.out.push 47 inoZ
        have hlx := HA40.out.lts
        refine hK _ _ ⟨(hax.get (p := (pb, 41, ocb)) (by simp)).cell 1 (.string nmb) (by rw [← HO.out.2.1]; rfl), (hax.get (p := (pb, 41, ocb)) (by simp)).cell 2 (.slice Ab lb.length cb) (by rw [← HO.out.2.1]; rfl)⟩ ?_
        clear hK K
        generalize w40.alloc (.cells inoZ.toArray 47) = w41 at hax ⊢
        obtain ⟨qy, hqy⟩ : ∃ q, w40.heap.size = q := ⟨_, rfl⟩
        rw [hqy] at hax hlx ⊢
        have HA41 := Aside0.mk hax
        have HLV := Aside0.mk (And.intro hlx (show w.heap.size ≤ qy from hqy ▸ HA40.out.ge))
        clear hax hlx hqy
        try simp only [Act.put, stA, stZ, stS, i64_w, i32_w]
        refine inT_2 (by rfl) (by rfl) (fun K hK => ?_)
        have hs := HA41.out.setA (r := exR) (some ⟨g4, 0, none⟩) 48 48 nmb Ab cb lb 0 0 HY.out.2 HT.out.1 HT.out.2 HVB.out.1 HVB.out.2.1 HVB.out.2.2.1 HVB.out.2.2.2 (by show 0 ≤ 900000; omega) (by decide) (by decide)
        obtain ⟨cs5, hcs5⟩ : ∃ cs, resC r3 (.slice (some ⟨g4, 0, none⟩) 48 48) c2 = cs := ⟨_, rfl⟩
        have Hcs5 := Aside0.mk (And.intro hcs5 (by rw [← hcs5]; exact resC_ok r3 _ _ _ _ : cs5.length = 15 ∧ cs5.toArray.all (·.oneCell') = true))
        rw [hcs5, show exR.cells (.slice (some ⟨g4, 0, none⟩) 48 48) = frC g4 from rfl] at hs
        clear hcs5
        have HS := Aside0.mk hs
        clear hs
        go_simp
        with_reducible refine HS.out.mono ?_
        rintro e w42 ⟨rfl, hax⟩
        have HA42 := Aside0.mk hax
        clear hax HS
        dsimp only
        refine hK _ _ ⟨(HA42.out.get (p := (pb, 41, ocb)) (by simp)).cell 1 (.string nmb) (by rw [← HO.out.2.1]; rfl), (HA42.out.get (p := (pb, 41, ocb)) (by simp)).cell 2 (.slice Ab lb.length cb) (by rw [← HO.out.2.1]; rfl)⟩ ?_
        clear hK K
        try simp only [Act.put, stA, stZ, stS, i64_w, i32_w]
        iterate 3 (first
          | (refine inT_off0 (by rfl) (by rfl) ?_; simp only [Act.put, stA, stZ, stS, i64_w, i32_w])
          | (refine inT_off1 (by rfl) (by rfl) ?_; simp only [Act.put, stA, stZ, stS, i64_w, i32_w])
          | (refine inT_0 (v := ?_) (by rfl) (by rfl) rfl ?_ (a' := ?_) ?_ ?_; rotate_left; (intro w'; go_simp; with_reducible rfl); rotate_left; (simp only [Act.put, stA, stZ, stS, i64_w, i32_w]; rfl))
          | (refine inT_1 (v := ?_) (by rfl) (by rfl) rfl ?_ (a' := ?_) ?_ ?_; rotate_left; (rintro w' hs; go_split_ands; go_simp; with_reducible rfl); rotate_left; (simp only [Act.put, stA, stZ, stS, i64_w, i32_w]; rfl)))
        refine inT_2 (by rfl) (by rfl) (fun K hK => ?_)
        refine wp_store_row 47 _ _ rfl qy cs5.toArray rfl rfl 47 _ (HA42.out.get (p := (qy, 47, inoZ)) (by simp)) (infIno (Hcs5.out.2.1)) (by first | rfl | (rw [List.size_toArray, List.size_toArray, Hcs5.out.2.1]; rfl)) Hcs5.out.2.2 ?_
        have hax := HA42.out.put cs5 HLV.out.2 (fun p hp => Nat.ne_of_lt (HLV.out.1 p hp))
        refine hK _ _ ⟨(hax.get (p := (pb, 41, ocb)) (by simp)).cell 1 (.string nmb) (by rw [← HO.out.2.1]; rfl), (hax.get (p := (pb, 41, ocb)) (by simp)).cell 2 (.slice Ab lb.length cb) (by rw [← HO.out.2.1]; rfl)⟩ ?_
        clear hK K
        try simp only [Act.put, stA, stZ, stS, i64_w, i32_w]
        exact tail g4 cs5 qy _ ⟨Hcs5.out.1, hax⟩
    · unfold Oper.wp execOp
      go_simp
      change K _ (we.alloc (.cells inoZ.toArray 47))
      have hax := HD44.out.push 47 inoZ
      have hlx := HD44.out.lts
      refine hK _ _ ⟨(hax.get (p := (pb, 41, ocb)) (by simp)).cell 1 (.string nmb) (by rw [← HO.out.2.1]; rfl), (hax.get (p := (pb, 41, ocb)) (by simp)).cell 2 (.slice Ab lb.length cb) (by rw [← HO.out.2.1]; rfl)⟩ ?_
      clear hK K
      generalize we.alloc (.cells inoZ.toArray 47) = w40 at hax ⊢
      obtain ⟨qy, hqy⟩ : ∃ q, we.heap.size = q := ⟨_, rfl⟩
      rw [hqy] at hax hlx ⊢
      have HA40 := Aside0.mk hax
      have HLV := Aside0.mk (And.intro hlx (show w.heap.size ≤ qy from hqy ▸ HD44.out.ge))
      clear hax hlx hqy
      try simp only [Act.put, stA, stZ, stS, i64_w, i32_w]
      refine inT_2 (by rfl) (by rfl) (fun K hK => ?_)
      go_simp
      with_reducible refine (fresh_calls _).mono ?_
      rintro e w41 ⟨g4, rfl, hb2⟩
      have HA41 := Aside0.mk (HA40.out.below hb2)
      clear hb2
      dsimp only
      refine hK _ _ ⟨(HA41.out.get (p := (pb, 41, ocb)) (by simp)).cell 1 (.string nmb) (by rw [← HO.out.2.1]; rfl), (HA41.out.get (p := (pb, 41, ocb)) (by simp)).cell 2 (.slice Ab lb.length cb) (by rw [← HO.out.2.1]; rfl)⟩ ?_
      clear hK K
      try simp only [Act.put, stA, stZ, stS, i64_w, i32_w]
      refine inT_2 (by rfl) (by rfl) (fun K hK => ?_)
      have hs := HA41.out.setA (r := exR) (some ⟨g4, 0, none⟩) 48 48 nmb Ab cb lb 0 0 HY.out.2 HT.out.1 HT.out.2 HVB.out.1 HVB.out.2.1 HVB.out.2.2.1 HVB.out.2.2.2 (by show 0 ≤ 900000; omega) (by decide) (by decide)
      obtain ⟨cs5, hcs5⟩ : ∃ cs, resC r3 (.slice (some ⟨g4, 0, none⟩) 48 48) c2 = cs := ⟨_, rfl⟩
      have Hcs5 := Aside0.mk (And.intro hcs5 (by rw [← hcs5]; exact resC_ok r3 _ _ _ _ : cs5.length = 15 ∧ cs5.toArray.all (·.oneCell') = true))
      rw [hcs5, show exR.cells (.slice (some ⟨g4, 0, none⟩) 48 48) = frC g4 from rfl] at hs
      clear hcs5
      have HS := Aside0.mk hs
      clear hs
      go_simp
      with_reducible refine HS.out.mono ?_
      rintro e w42 ⟨rfl, hax⟩
      have HA42 := Aside0.mk hax
      clear hax HS
      dsimp only
      refine hK _ _ ⟨(HA42.out.get (p := (pb, 41, ocb)) (by simp)).cell 1 (.string nmb) (by rw [← HO.out.2.1]; rfl), (HA42.out.get (p := (pb, 41, ocb)) (by simp)).cell 2 (.slice Ab lb.length cb) (by rw [← HO.out.2.1]; rfl)⟩ ?_
      clear hK K
      try simp only [Act.put, stA, stZ, stS, i64_w, i32_w]
      iterate 3 (first
        | (refine inT_off0 (by rfl) (by rfl) ?_; simp only [Act.put, stA, stZ, stS, i64_w, i32_w])
        | (refine inT_off1 (by rfl) (by rfl) ?_; simp only [Act.put, stA, stZ, stS, i64_w, i32_w])
        | (refine inT_0 (v := ?_) (by rfl) (by rfl) rfl ?_ (a' := ?_) ?_ ?_; rotate_left; (intro w'; go_simp; with_reducible rfl); rotate_left; (simp only [Act.put, stA, stZ, stS, i64_w, i32_w]; rfl))
        | (refine inT_1 (v := ?_) (by rfl) (by rfl) rfl ?_ (a' := ?_) ?_ ?_; rotate_left; (rintro w' hs; go_split_ands; go_simp; with_reducible rfl); rotate_left; (simp only [Act.put, stA, stZ, stS, i64_w, i32_w]; rfl)))
      refine inT_2 (by rfl) (by rfl) (fun K hK => ?_)
      refine wp_store_row 47 _ _ rfl qy cs5.toArray rfl rfl 47 _ (HA42.out.get (p := (qy, 47, inoZ)) (by simp)) (infIno (Hcs5.out.2.1)) (by first | rfl | (rw [List.size_toArray, List.size_toArray, Hcs5.out.2.1]; rfl)) Hcs5.out.2.2 ?_
      have hax := HA42.out.put cs5 HLV.out.2 (fun p hp => Nat.ne_of_lt (HLV.out.1 p hp))
      refine hK _ _ ⟨(hax.get (p := (pb, 41, ocb)) (by simp)).cell 1 (.string nmb) (by rw [← HO.out.2.1]; rfl), (hax.get (p := (pb, 41, ocb)) (by simp)).cell 2 (.slice Ab lb.length cb) (by rw [← HO.out.2.1]; rfl)⟩ ?_
      clear hK K
      try simp only [Act.put, stA, stZ, stS, i64_w, i32_w]
      exact tail g4 cs5 qy _ ⟨Hcs5.out.1, hax⟩
  case joinU =>
  rintro g4 cs5 qy w42 ⟨hcs5, hax⟩
  have Hcs5 := Aside0.mk (And.intro hcs5 (by rw [← hcs5]; exact resC_ok r3 _ _ _ _ : cs5.length = 15 ∧ cs5.toArray.all (·.oneCell') = true))
  have HA42 := Aside0.mk hax
  clear hax hcs5 HD44
  iterate 1 (first
    | (refine inT_off0 (by rfl) (by rfl) ?_; simp only [Act.put, stA, stZ, stS, i64_w, i32_w])
    | (refine inT_off1 (by rfl) (by rfl) ?_; simp only [Act.put, stA, stZ, stS, i64_w, i32_w])
    | (refine inT_0 (v := ?_) (by rfl) (by rfl) rfl ?_ (a' := ?_) ?_ ?_; rotate_left; (intro w'; go_simp; with_reducible rfl); rotate_left; (simp only [Act.put, stA, stZ, stS, i64_w, i32_w]; rfl))
    | (refine inT_1 (v := ?_) (by rfl) (by rfl) rfl ?_ (a' := ?_) ?_ ?_; rotate_left; (rintro w' hs; go_split_ands; go_simp; with_reducible rfl); rotate_left; (simp only [Act.put, stA, stZ, stS, i64_w, i32_w]; rfl)))
  refine inT_stop ?_
  have hc := HC.out
  clear HC
  rcases hc with hc | ⟨rfl, rfl, x4, n1, n2, hb⟩
  · have HB := Aside0.mk HA42.out.all
    rcases hc with rfl | rfl
    all_goals
      go_wp2
      go_ret
      exact ⟨rfl, HB.out⟩
  have HX4 := Aside0.mk x4
  have HNB := Aside0.mk (And.intro (And.intro n1 n2) hb)
  clear x4 n1 n2 hb
  obtain ⟨csz, hcsz⟩ : ∃ cs, resC exRx (.slice (some ⟨g4, 0, none⟩) 48 48) 0 = cs := ⟨_, rfl⟩
  have Hcsz := Aside0.mk (And.intro hcsz (by rw [← hcsz]; exact resC_ok exRx _ _ _ _ : csz.length = 15 ∧ csz.toArray.all (·.oneCell') = true))
  clear hcsz
  go_upto_region 13 with fail
  refine wp_region_lit ?_
  refine wpList_plain rfl fun K hK => ?_
  unfold Oper.wp execOp
  go_simp
  refine hK _ _ ?_
  clear hK K
  refine wpList_load_row rfl 47 _ rfl qy rfl 47 cs5.toArray (0, 0) _ (HA42.out.get (p := (qy, 47, cs5)) (by simp)) Tryz.underlying47 rfl (infIno (Hcs5.out.2.1)) ?_
  have f1 := (HA42.out.get (p := (pa, 41, oca)) (by simp)).cell 1 (.string nma) (by rw [← HO.out.1]; rfl)
  have f2 := (HA42.out.get (p := (pa, 41, oca)) (by simp)).cell 2 (.slice Aa la.length ca) (by rw [← HO.out.1]; rfl)
  refine wpList_plain rfl fun K hK => ?_
  unfold Oper.wp execOp
  go_simp
  refine hK _ _ ?_
  clear hK K
  refine wpList_plain rfl fun K hK => ?_
  unfold Oper.wp execOp
  go_simp
  refine hK _ _ ?_
  clear hK K
  refine wpList_plain rfl fun K hK => ?_
  unfold Oper.wp execOp
  go_simp
  refine hK _ _ ?_
  clear hK K
  refine wpList_plain rfl fun K hK => ?_
  unfold Oper.wp execOp
  go_simp
  refine hK _ _ ?_
  clear hK K
  clear f1 f2
  have hs : Calls Tryz.prog 18 #[.pointer (some ⟨t0, 0, none⟩), .agg cs5.toArray, .string nma, .slice Aa la.length ca, .int .i64 0, .int .i64 0] w42 (AwJPost w t0 t2 s0 s2 [(qy, 47, cs5), (qx, 47, csx), (pb, 41, ocb), (pa, 41, oca)] csz 0) := by
    have := HA42.out.setA (r := exRx) (some ⟨g4, 0, none⟩) 48 48 nma Aa ca la 0 0 HX4.out HT.out.1 HT.out.2 HVA.out.1 HVA.out.2.1 HVA.out.2.2.1 HVA.out.2.2.2 (by have := HH.out.2; omega) (by decide) (by decide)
    rw [Hcsz.out.1, show exRx.cells (.slice (some ⟨g4, 0, none⟩) 48 48) = cs5 from Hcs5.out.1] at this
    exact this
  have HS := Aside0.mk hs
  clear hs
  refine wpList_plain rfl fun K hK => ?_
  unfold Oper.wp execOp
  go_simp
  with_reducible refine HS.out.mono ?_
  rintro e w43 ⟨rfl, hax⟩
  have HA43 := Aside0.mk hax
  clear hax HS
  dsimp only
  refine hK _ _ ?_
  clear hK K
  refine wpList_plain rfl fun K hK => ?_
  unfold Oper.wp execOp
  go_simp
  refine hK _ _ ?_
  clear hK K
  refine wpList_plain rfl fun K hK => ?_
  unfold Oper.wp execOp
  go_simp
  refine hK _ _ ?_
  clear hK K
  refine wpList_plain rfl fun K hK => ?_
  unfold Oper.wp execOp
  go_simp
  refine hK _ _ ?_
  clear hK K
  refine wpList_plain rfl fun K hK => ?_
  unfold Oper.wp execOp
  go_simp
  refine hK _ _ ?_
  clear hK K
  change wpList _ _ _ _ _ (w43.alloc (.cells inoZ.toArray 47))
  have hsx : Strc (w43.alloc (.cells inoZ.toArray 47)) w43.heap.size 47 inoZ := alloc_last w43 _
  have hax := HA43.out.made 47 inoZ csz
  refine wpList_store_row rfl 47 _ _ rfl w43.heap.size csz.toArray rfl rfl 47 _ hsx (infIno (Hcsz.out.2.1)) (by first | rfl | (rw [List.size_toArray, List.size_toArray, Hcsz.out.2.1]; rfl)) Hcsz.out.2.2 ?_
  generalize World.setRow (w43.alloc (.cells inoZ.toArray 47)) w43.heap.size csz.toArray = w44 at hax ⊢
  obtain ⟨qz, hqz⟩ : ∃ q, w43.heap.size = q := ⟨_, rfl⟩
  rw [hqz] at hax ⊢
  have HA44 := Aside0.mk hax
  clear hax hsx hqz
  refine wpList_plain rfl fun K hK => ?_
  unfold Oper.wp execOp
  go_simp
  refine hK _ _ ?_
  clear hK K
  have HA44' := Aside0.mk (HA44.out.sub (bx' := [(qz, 47, csz), (qx, 47, csx)]) (fun p hp => (by simp at hp ⊢; rcases hp with h | h <;> simp [h]))).swap
  clear HA44
  have fx := (HA44'.out.get (p := (qx, 47, csx)) (by simp)).cell 12 (.int .i64 108) (by rw [← Hcsx.out.1]; rfl)
  have hr : Calls Tryz.prog 20 #[.pointer (some ⟨s0, 0, none⟩), .int .i64 108] w44 (AwJRead w s0 s2 t0 t2 [(qz, 47, csz), (qx, 47, csx)] (s2.now.getD 108 [])) := HA44'.out.read 108 HNB.out.1.1
  have HR := Aside0.mk hr
  clear hr
  go_wp2_with fail
  with_reducible refine HR.out.mono ?_
  rintro e w45 ⟨gk, ck, rk, rfl, hck, hlk, hax⟩
  have HA45 := Aside0.mk hax.swap
  have HLK := Aside0.mk hlk
  clear hax hck hlk HR fx
  dsimp only
  have fz := (HA45.out.get (p := (qz, 47, csz)) (by simp)).cell 12 (.int .i64 108) (by rw [← Hcsz.out.1]; rfl)
  have hr : Calls Tryz.prog 20 #[.pointer (some ⟨t0, 0, none⟩), .int .i64 108] w45 (AwJRead w t0 t2 s0 s2 ((gk, 5, nums .u8 (s2.now.getD 108 []) ++ rk) :: [(qz, 47, csz), (qx, 47, csx)]) (s2.now.getD 108 [])) := HNB.out.2 ▸ HA45.out.read 108 HNB.out.1.2
  have HR := Aside0.mk hr
  clear hr
  go_wp2_with fail
  with_reducible refine HR.out.mono ?_
  rintro e w46 ⟨gl, cl, rl, rfl, hcl, hll, hax⟩
  have HA46 := Aside0.mk hax
  clear hax hcl hll HR fz
  dsimp only
  have fx := (HA46.out.get (p := (qx, 47, csx)) (by simp)).cell 12 (.int .i64 108) (by rw [← Hcsx.out.1]; rfl)
  have fz := (HA46.out.get (p := (qz, 47, csz)) (by simp)).cell 12 (.int .i64 108) (by rw [← Hcsz.out.1]; rfl)
  have k1 := HA46.out.get (p := (gk, 5, nums .u8 (s2.now.getD 108 []) ++ rk)) (by simp)
  have k2 := HA46.out.get (p := (gl, 5, nums .u8 (s2.now.getD 108 []) ++ rl)) (by simp)
  have hs := same_calls (some ⟨gk, 0, none⟩) (some ⟨gl, 0, none⟩) ck cl (s2.now.getD 108 []) (s2.now.getD 108 []) w46 (Row.reads ⟨rk, k1⟩ (by rw [HLK.out]; decide)) (Row.reads ⟨rl, k2⟩ (by rw [HLK.out]; decide))
  rw [HLK.out, beq_self_eq_true] at hs
  have HS := Aside0.mk hs
  have HB := Aside0.mk HA46.out.all
  clear hs k1 k2
  go_wp2_with fail
  with_reducible refine HS.out.mono ?_
  rintro e w47 ⟨rfl, hb5⟩
  have HB5 := Aside0.mk (below_then HB.out HB.out.size hb5)
  clear hb5
  dsimp only
  go_wp2
  go_ret
  exact ⟨rfl, HB5.out⟩
theorem refused_of (nm : ByteArray) (val : List Int) : (refused nm val = 34 ∨ refused nm val = 22) ∨ setOk nm val := by
  unfold refused setOk
  by_cases h1 : 64 < val.length
  · rw [if_pos h1]; exact .inl (.inl rfl)
  · rw [if_neg h1]
    by_cases h2 : namedB nm = false
    · rw [if_pos h2]; exact .inl (.inr rfl)
    · exact .inr ⟨by simpa using h2, h1⟩
theorem code_ne {c : Int} (h : c = 34 ∨ c = 22) : c ≠ 0 := by rcases h with rfl | rfl <;> decide
theorem exHist0 : exS.hist.length = 0 := rfl
theorem order_calls (whata howa goala : Int) (nma : ByteArray) (Aa : Option Addr) (ca : Nat) (la : List Int) (whatb howb goalb : Int) (nmb : ByteArray) (Ab : Option Addr) (cb : Nat) (lb : List Int) (w : World) (hT : Tab w)
    (hva : Kd.C (Kd.int .u8) w Aa la.length la) (hna : Aa = none → ca = 0) (hda : ∀ ad, Aa = some ad → ad.block < w.heap.size) (hba : allB la)
    (hvb : Kd.C (Kd.int .u8) w Ab lb.length lb) (hnb : Ab = none → cb = 0) (hdb : ∀ ad, Ab = some ad → ad.block < w.heap.size) (hbb : allB lb) :
    Calls Tryz.prog 5 #[.agg #[.int .i64 whata, .string nma, .slice Aa la.length ca, .int .i64 howa, .int .i64 goala], .agg #[.int .i64 whatb, .string nmb, .slice Ab lb.length cb, .int .i64 howb, .int .i64 goalb]] w fun e w' => e = .returned (.bool true) ∧ Below w.heap.size w w' := by
  by_cases hne : nma = nmb
  · exact ord_eq whata howa goala nma Aa ca la whatb howb goalb nmb Ab cb lb w hT hva hna hda hba hvb hnb hdb hbb hne
  · rcases refused_of nma la with h | h
    · exact ord_ne whata howa goala nma Aa ca la whatb howb goalb nmb Ab cb lb w hT hva hna hda hba hvb hnb hdb hbb hne (s2 := exS) (t1 := exS) (t2 := exS) (r3 := exR) (c2 := 0) (setNo exList0 (code_ne h)) (.inl h)
    · obtain ⟨s1, h1, hx, hb, hl⟩ := setFirst exSt0 h (.inl rfl)
      have hh : s1.hist.length ≤ 1000 := by rw [hl, exHist0]; omega
      rcases refused_of nmb lb with h2 | h2
      · exact ord_ne whata howa goala nma Aa ca la whatb howb goalb nmb Ab cb lb w hT hva hna hda hba hvb hnb hdb hbb hne (t2 := exS) h1 (.inr ⟨rfl, rfl, setNo (exList hb (pack_one h) (by simp)) (code_ne h2), setNo exList0 (code_ne h2), hh, (by rw [exHist0]; omega), .inl h2⟩)
      · obtain ⟨t1, k1, kx, kb, kl⟩ := setFirst exSt0 h2 (.inl rfl)
        have kh : t1.hist.length ≤ 1000 := by rw [kl, exHist0]; omega
        have e2 := setSecond (x := ⟨nma, la⟩) h hb h2 hne
        have e4 := setSecond (x := ⟨nmb, lb⟩) h2 kb h (fun e => hne e.symm)
        have n1 : 108 < s1.now.length := by rw [hx.len]; omega
        have n2 : 108 < t1.now.length := by rw [kx.len]; omega
        refine ord_ne whata howa goala nma Aa ca la whatb howb goalb nmb Ab cb lb w hT hva hna hda hba hvb hnb hdb hbb hne h1 (.inr ⟨rfl, rfl, e2, k1, hh, kh, .inr ⟨rfl, rfl, e4, ?_, ?_, ?_⟩⟩)
        · show 108 < (s1.now.set 108 _).length
          rw [List.length_set]; exact n1
        · show 108 < (t1.now.set 108 _).length
          rw [List.length_set]; exact n2
        · show (t1.now.set 108 _).getD 108 [] = (s1.now.set 108 _).getD 108 []
          rw [getD_same n2, getD_same n1, twoL_comm ⟨nma, la⟩ ⟨nmb, lb⟩ hne]
end Go.Proofs.YtkmhilhfmfmckaaGreatDoor.Hand
namespace Go.Proofs.YtkmhilhfmfmckaaGreatDoor.Hand
set_option linter.unusedSimpArgs false
set_option linter.unusedVariables false
set_option maxRecDepth 10000
open Go Go.RowKit Go.ChangeShapes Go.WideShapes Go.ChangeAt Go.Proofs.YtkmhilhfmfmckaaGreatDoorW.PrintWords Go.Proofs.YtkmhilhfmfmckaaGreatDoorW.PrintLast Go.Proofs.YtkmhilhfmfmckaaGreatDoorW.PrintMore
theorem tyOp : Tryz.prog.cellTypes Tryz.prog.depth 41 = some [3, 9, 23, 3, 3] := by kernel_rfl
theorem sizeOp : Tryz.prog.cellsOf 41 = 5 := by kernel_rfl
theorem cellsSl : Tryz.prog.cellsOf 23 = 1 := by kernel_rfl
theorem cell_int {P : Program} {t : TypeId} {W : World} {r : Reach} {base : Nat} {v : Value} (ht : P.underlying t = some (.int .i64)) (h : Cell.okWide P W r base t v) : ∃ n, v = .int .i64 n := by
  simp only [Cell.okWide, ht] at h
  cases v <;> simp_all [Cell.ok]
theorem cell_str {P : Program} {t : TypeId} {W : World} {r : Reach} {base : Nat} {v : Value} (ht : P.underlying t = some .string) (h : Cell.okWide P W r base t v) : ∃ s, v = .string s := by
  simp only [Cell.okWide, ht] at h
  cases v <;> simp_all [Cell.ok]
theorem cell_sl {P : Program} {t e : TypeId} {W : World} {r : Reach} {base : Nat} {v : Value} (ht : P.underlying t = some (.slice e)) (h : Cell.okWide P W r base t v) : v = .slice none 0 0 ∨ ∃ a n c, v = .slice (some a) n c ∧ a.block < W.heap.size := by
  simp only [Cell.okWide, ht, Cell.ok] at h
  cases v with
  | slice a n c =>
    cases a with
    | none =>
      cases n with
      | zero => cases c with
        | zero => exact .inl rfl
        | succ c => exact h.elim
      | succ n => exact h.elim
    | some a =>
      obtain ⟨_, _, h2⟩ := h
      obtain ⟨_, _, row, cells, h3, _⟩ := h2
      refine .inr ⟨a, n, c, rfl, ?_⟩
      unfold World.shape? at h3
      cases hh : W.heap[a.block]? with
      | none => rw [hh] at h3; cases h3
      | some o => exact (Array.getElem?_eq_some_iff.1 hh).1
  | _ => exact h.elim
theorem okWide_struct {P : Program} {t : TypeId} {fs : Array Field} {W : World} {r : Reach} {base : Nat} {v : Value} (ht : P.underlying t = some (.struct fs)) (h : Value.okWide P W r base t v) : ∃ cs, v = .agg cs ∧ cs.size = P.cellsOf t ∧ Row.okWide P W r base t cs := by
  simp only [Value.okWide, ht] at h
  exact h
theorem open_op {H : Type} {enc : TypeId × Value → H} {W : World} {base : Nat} {v : Value} {d : DataW H} {p : List MemPlace} (hv : Value.okWide Tryz.prog W .any base 41 v) (h : DataW.Trod enc Tryz.prog W 0 (fun _ => true) true 41 v d p) :
    ∃ (what how goal : Int) (nm : ByteArray) (Av : Option Addr) (cv : Nat) (val : List Int), v = .agg #[.int .i64 what, .string nm, .slice Av val.length cv, .int .i64 how, .int .i64 goal] ∧ Kd.C (Kd.int .u8) W Av val.length val ∧ (Av = none → cv = 0) ∧ (∀ ad, Av = some ad → ad.block < W.heap.size) ∧ allB val := by
  obtain ⟨cs, rfl, hsz, ts, hts, _, hc⟩ := okWide_struct Tryz.underlying41 hv
  obtain rfl := Option.some.inj (tyOp.symm.trans hts)
  replace hsz := hsz.trans sizeOp
  obtain ⟨l⟩ := cs
  match l, hsz with
  | [c0, c1, c2, c3, c4], _ =>
    have key : ∀ (i : Nat) (u : TypeId) (x : Value), [3, 9, 23, 3, 3][i % 5]? = some u → [c0, c1, c2, c3, c4][i]? = some x → Cell.okWide Tryz.prog W .any base u x := fun i u x hu hx => by
      obtain ⟨u', hu', hok⟩ := hc i x (by simpa using hx)
      have : u = u' := Option.some.inj (hu.symm.trans hu')
      exact this ▸ hok
    obtain ⟨what, rfl⟩ := cell_int Tryz.underlying3 (key 0 _ _ rfl rfl)
    obtain ⟨nm, rfl⟩ := cell_str Tryz.underlying9 (key 1 _ _ rfl rfl)
    obtain ⟨how, rfl⟩ := cell_int Tryz.underlying3 (key 3 _ _ rfl rfl)
    obtain ⟨goal, rfl⟩ := cell_int Tryz.underlying3 (key 4 _ _ rfl rfl)
    have hsl := cell_sl Tryz.underlying23 (key 2 _ _ rfl rfl)
    obtain ⟨fuel, hf⟩ := h
    obtain ⟨xs, n, _, _, _, _, hfl⟩ := DataW.trod_struct Tryz.underlying41 hf
    have h2 : DataW.trod enc Tryz.prog W 0 (fun _ => true) true n 23 (([.int .i64 what, .string nm, c2, .int .i64 how, .int .i64 goal] : List Value).drop 2 |>.take (Tryz.prog.cellsOf 23)) = xs[2]? := hfl 2 _ rfl
    rw [cellsSl] at h2
    replace h2 : DataW.trod enc Tryz.prog W 0 (fun _ => true) true n 23 [c2] = xs[2]? := h2
    have hrow : (∃ y, xs[2]? = some y) := by
      have : xs.length = 5 := by assumption
      exact ⟨_, List.getElem?_eq_getElem (by omega)⟩
    obtain ⟨y, hy⟩ := hrow
    rw [hy] at h2
    rcases open_ints Tryz.underlying23 Tryz.underlying5 (by kernel_rfl) h2 with ⟨hcs, _⟩ | ⟨x, l, c, zs, hcs, _, hl, hm, hz, _, hcell, hwz⟩
    · obtain rfl := List.cons.inj hcs |>.1
      exact ⟨what, how, goal, nm, none, 0, [], rfl, C_int_nil _ _ _, fun _ => rfl, (fun ad e => nomatch e), (fun x hx => nomatch hx)⟩
    · obtain rfl := List.cons.inj hcs |>.1
      obtain ⟨l', hl', hr, hm', hw, hc'⟩ := ReadsInt.ofRowC (w := W) (k := .u8) (.inr ⟨x, rfl, hl, hm, by simpa using hz, hcell, hwz⟩)
      subst hl'
      refine ⟨what, how, goal, nm, some x, c, l', rfl, Kd.C_of_reads (d := (0 : Int)) (h1 := fun _ => rfl) hr, (fun e => nomatch e), ?_, fun z hz => ?_⟩
      · intro ad e
        cases e
        rcases hsl with h0 | ⟨a, _, _, h0, h1⟩
        · cases h0
        · cases h0; exact h1
      · have := hw z hz
        simp [Lit.wf, IntKind.min, IntKind.max, IntKind.bits, IntKind.signed] at this
        omega
end Go.Proofs.YtkmhilhfmfmckaaGreatDoor.Hand
namespace Go.Proofs.YtkmhilhfmfmckaaGreatDoor.Hand
set_option maxRecDepth 100000
open Go Go.RowKit
def laidL : List (String × DataW Unit) := [("math/bits.deBruijn32tab", Rows.laid_math_bits_deBruijn32tab), ("math/bits.deBruijn64tab", Rows.laid_math_bits_deBruijn64tab)]
theorem g64 : Tryz.prog.globalNamed "math/bits.deBruijn64tab" = some 2 := by kernel_rfl
theorem t64 : (Tryz.prog.globals[2]?).map (·.type) = some 236 := by kernel_rfl
theorem e64 : ∃ e, Tryz.prog.underlying 236 = some (.array 64 e) ∧ Tryz.prog.underlying e = some (.int .u8) ∧ Tryz.prog.cellsOf e = 1 := ⟨5, by kernel_rfl, by kernel_rfl, by kernel_rfl⟩
theorem tab_data {H : Type} : (Rows.laid_math_bits_deBruijn64tab : DataW H) = Go.Lib.tabData .u8 (List.map (fun (n : Nat) => (n : Int)) Go.Lib.deBruijn64tab) := rfl
theorem tab_of_laid {W : World} (h : laidMetH Tryz.prog laidL W) : Tab W := by
  rw [MakeChecks.laidMetH_plain _ _ _ (by kernel_rfl)] at h
  have h2 := laidMet.tail (show laidMet Tryz.prog (("math/bits.deBruijn32tab", Rows.laid_math_bits_deBruijn32tab) :: [("math/bits.deBruijn64tab", Rows.laid_math_bits_deBruijn64tab)]) W from h)
  rw [tab_data] at h2
  obtain ⟨e, he, he1, he2⟩ := e64
  have ht := Go.Lib.tabIs_of_head g64 t64 he he1 he2 (by kernel_rfl) h2
  intro i hi
  have := ht.cell g64 i (by simpa [Go.Lib.deBruijn64tab] using hi)
  rw [this]
  congr 1
  simp only [List.getD_eq_getElem?_getD, List.getElem?_map]
  cases Go.Lib.deBruijn64tab[i]? <;> rfl
theorem door_met (os : Os) (args : Array Value) : laidMetH Tryz.prog laidL ((World.doorLaid Tryz.prog 19 os).forCall (fun _ _ => 0) ⟨#[], args, []⟩).memory :=
  laidMetH_of_parts3 (fuel := 8) (laidMet_of_run' 65 (by kernel_rfl) (by kernel_rfl)) (by kernel_rfl) (by kernel_rfl)
end Go.Proofs.YtkmhilhfmfmckaaGreatDoor.Hand
