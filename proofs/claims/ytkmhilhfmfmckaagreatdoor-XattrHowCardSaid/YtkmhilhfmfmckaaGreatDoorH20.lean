/- Own texts and printed words of the kit, put together and trimmed by a program of mine (merge.py). -/
import Derived.Test.YtkmhilhfmfmckaaGreatDoorH19
import Derived.Test.YtkmhilhfmfmckaaGreatDoorRows
import Derived.WalkKit
import Derived.ProofKit
import Derived.OpenShut
import Derived.ShutString
import Derived.ChangeOld
import Derived.ChangeArms
import Derived.Lib.LaidTab
import Derived.LaidMore
import Derived.LaidHandle
import Derived.MakeChecks
import Derived.Stop.LaidErr
namespace Go.Proofs.YtkmhilhfmfmckaaGreatDoor.Hand
set_option linter.unusedSimpArgs false
set_option linter.unusedVariables false
open Go.Shelf Go.RowKit Go.Proofs.YtkmhilhfmfmckaaGreatDoorW.PrintWords Go.Proofs.YtkmhilhfmfmckaaGreatDoorW.PrintLast Go.Proofs.YtkmhilhfmfmckaaGreatDoorW.PrintMore
set_option maxHeartbeats 8000000 in
set_option maxRecDepth 100000 in
theorem how_none (what how goal : Int) (nm : ByteArray) (Av : Option Addr) (cv : Nat) (val : List Int) (w : World) (hT : Tab w) (hv : Kd.C (Kd.int .u8) w Av val.length val) (hvn : Av = none → cv = 0) (hvD : ∀ ad, Av = some ad → ad.block < w.heap.size) (hvb : allB val) {s1 : St} {r1 : Ino} {c0 c1 c2 : Int} (x0 : True) (x1 : xsetR exS exR 48 nm val 1 0 = (s1, r1, c1)) (x2 : xsetR s1 exR 48 nm val 2 0 = (s1, exR, c2)) (hh : s1.hist.length ≤ 1000) (hc0 : True) (hcc : (c1 = 0 ∧ c2 = 61) ∨ (c1 = 34 ∧ c2 = 34) ∨ (c1 = 22 ∧ c2 = 22)) :
    Calls Tryz.prog 6 #[.agg #[.int .i64 what, .string nm, .slice Av val.length cv, .int .i64 how, .int .i64 goal], .bool false] w fun e w' => e = .returned (.bool true) ∧ Below w.heap.size w w' := by
  have h2w : 2 < w.heap.size := World.block_lt_of_cell? w _ (hT 0 (by omega))
  have HT := Aside0.mk (And.intro hT h2w)
  have HV := Aside0.mk (And.intro hv (And.intro hvn (And.intro hvD hvb)))
  clear hT hv hvn hvD hvb h2w
  have HX := Aside0.mk (And.intro x0 (And.intro x1 x2))
  clear x0 x1 x2
  go_enter Tryz.func6, Tryz.ntmps6
  go_wp2_with fail
  have hb0 := below_alloc (Below.refl w.heap.size w) (.cells #[.int .i64 what, .string nm, .slice Av val.length cv, .int .i64 how, .int .i64 goal] 41)
  have hp0 : Strc (w.alloc (.cells #[.int .i64 what, .string nm, .slice Av val.length cv, .int .i64 how, .int .i64 goal] 41)) w.heap.size 41 [.int .i64 what, .string nm, .slice Av val.length cv, .int .i64 how, .int .i64 goal] := alloc_last w _
  generalize w.alloc (.cells #[.int .i64 what, .string nm, .slice Av val.length cv, .int .i64 how, .int .i64 goal] 41) = w0 at hb0 hp0 ⊢
  obtain ⟨ocs, hocs⟩ : ∃ l : List Value, [.int .i64 what, .string nm, .slice Av val.length cv, .int .i64 how, .int .i64 goal] = l := ⟨_, rfl⟩
  rw [hocs] at hp0
  obtain ⟨pb, hpb⟩ : ∃ q, w.heap.size = q := ⟨_, rfl⟩
  rw [hpb] at hp0 ⊢
  have HO := Aside0.mk (And.intro hocs hpb)
  have HP0 := Aside0.mk hp0
  have HB0 := Aside0.mk hb0
  clear hb0 hp0 hocs hpb
  refine (awake_calls w0 (HT.out.1.below HB0.out)).mono ?_
  rintro e w1 ⟨rfl, hb1⟩
  have HB1 := Aside0.mk (below_then HB0.out HB0.out.size hb1)
  have HP1 := Aside0.mk (HP0.out.below hb1)
  clear hb1 HP0
  dsimp only
  go_wp2_with fail
  with_reducible refine (both_calls w1).mono ?_
  rintro e w2 ⟨s0, q, D, rfl, hst, hD, hb⟩
  have HA2 := Aside0.mk (show AwI w s0 exS [(pb, 41, ocs)] w2 from ⟨D, hst, fun k hk => Nat.le_trans HB1.out.size (hD k hk), below_then HB1.out HB1.out.size hb, fun p hp => by
    obtain rfl := List.mem_singleton.1 hp
    exact ⟨HP1.out.below hb, fun hd => by have := hD _ hd; have := HP1.out.lt; omega⟩⟩)
  clear hst hD hb HP1
  dsimp only
  go_upto_region 3 with fail
  refine wp_region_lit ?_
  refine wpList_plain rfl fun K hK => ?_
  unfold Oper.wp execOp
  go_simp
  with_reducible refine (fresh_calls w2).mono ?_
  rintro e w3 ⟨g1, rfl, hb2⟩
  have HA3 := Aside0.mk (HA2.out.below hb2)
  clear hb2
  dsimp only
  refine hK _ _ ?_
  clear hK K
  obtain ⟨cs0, hcs0⟩ : ∃ cs, frC g1 = cs := ⟨_, rfl⟩
  have Hcs0 := Aside0.mk (And.intro hcs0 (by rw [← hcs0]; exact ⟨rfl, by have := Ino_one exR (some ⟨g1, 0, none⟩) 48 48; simpa [frC] using this⟩ : cs0.length = 15 ∧ cs0.toArray.all (·.oneCell') = true))
  rw [hcs0]
  clear hcs0
  refine wpList_plain rfl fun K hK => ?_
  unfold Oper.wp execOp
  go_simp
  refine hK _ _ ?_
  clear hK K
  change wpList _ _ _ _ _ (w3.alloc (.cells inoZ.toArray 47))
  have hsx : Strc (w3.alloc (.cells inoZ.toArray 47)) w3.heap.size 47 inoZ := alloc_last w3 _
  have hax := HA3.out.made 47 inoZ cs0
  have hlx := HA3.out.lt (p := (pb, 41, ocs)) (by simp)
  refine wpList_store_row rfl 47 _ _ rfl w3.heap.size cs0.toArray rfl rfl 47 _ hsx (infIno (Hcs0.out.2.1)) (by first | rfl | (rw [List.size_toArray, List.size_toArray, Hcs0.out.2.1]; rfl)) Hcs0.out.2.2 ?_
  generalize World.setRow (w3.alloc (.cells inoZ.toArray 47)) w3.heap.size cs0.toArray = w4 at hax ⊢
  obtain ⟨qr, hqr⟩ : ∃ q, w3.heap.size = q := ⟨_, rfl⟩
  rw [hqr] at hax hlx ⊢
  have HA4 := Aside0.mk hax
  have HLqr := Aside0.mk hlx
  clear hax hsx hlx hqr
  obtain ⟨cs2, hcs2⟩ : ∃ cs, resC r1 (.slice (some ⟨g1, 0, none⟩) 48 48) c1 = cs := ⟨_, rfl⟩
  have Hcs2 := Aside0.mk (And.intro hcs2 (by rw [← hcs2]; exact resC_ok r1 _ _ _ _ : cs2.length = 15 ∧ cs2.toArray.all (·.oneCell') = true))
  clear hcs2
  go_upto_region 10 with fail
  refine wp_region_lit ?_
  refine wpList_plain rfl fun K hK => ?_
  unfold Oper.wp execOp
  go_simp
  refine hK _ _ ?_
  clear hK K
  refine wpList_load_row rfl 47 _ rfl qr rfl 47 cs0.toArray (0, 0) _ (HA4.out.get (p := (qr, 47, cs0)) (by simp)) Tryz.underlying47 rfl (infIno (Hcs0.out.2.1)) ?_
  have f1 := (HA4.out.get (p := (pb, 41, ocs)) (by simp)).cell 1 (.string nm) (by rw [← HO.out.1]; rfl)
  have f2 := (HA4.out.get (p := (pb, 41, ocs)) (by simp)).cell 2 (.slice Av val.length cv) (by rw [← HO.out.1]; rfl)
  refine wpList_plain rfl fun K hK => ?_
  unfold Oper.wp execOp
  go_simp
  refine hK _ _ ?_
  clear hK K
  refine wpList_plain rfl fun K hK => ?_
  unfold Oper.wp execOp
  go_simp
  refine hK _ _ ?_
  clear hK K
  refine wpList_plain rfl fun K hK => ?_
  unfold Oper.wp execOp
  go_simp
  refine hK _ _ ?_
  clear hK K
  refine wpList_plain rfl fun K hK => ?_
  unfold Oper.wp execOp
  go_simp
  refine hK _ _ ?_
  clear hK K
  clear f1 f2
  have hs : Calls Tryz.prog 18 #[.pointer (some ⟨s0, 0, none⟩), .agg cs0.toArray, .string nm, .slice Av val.length cv, .int .i64 1, .int .i64 0] w4 (AwPost w s0 s1 [(qr, 47, cs0), (pb, 41, ocs)] cs2 c1) := by
    have := HA4.out.setA (r := exR) (some ⟨g1, 0, none⟩) 48 48 nm Av cv val 1 0 HX.out.2.1 HT.out.1 HT.out.2 HV.out.1 HV.out.2.1 HV.out.2.2.1 HV.out.2.2.2 (by show 0 ≤ 900000; omega) (by decide) (by decide)
    rw [Hcs2.out.1, show exR.cells (.slice (some ⟨g1, 0, none⟩) 48 48) = cs0 from Hcs0.out.1] at this
    exact this
  have HS := Aside0.mk hs
  clear hs
  refine wpList_plain rfl fun K hK => ?_
  unfold Oper.wp execOp
  go_simp
  with_reducible refine HS.out.mono ?_
  rintro e w8 ⟨rfl, hax⟩
  have HA8 := Aside0.mk hax
  clear hax HS
  dsimp only
  refine hK _ _ ?_
  clear hK K
  refine wpList_plain rfl fun K hK => ?_
  unfold Oper.wp execOp
  go_simp
  refine hK _ _ ?_
  clear hK K
  refine wpList_plain rfl fun K hK => ?_
  unfold Oper.wp execOp
  go_simp
  refine hK _ _ ?_
  clear hK K
  refine wpList_plain rfl fun K hK => ?_
  unfold Oper.wp execOp
  go_simp
  refine hK _ _ ?_
  clear hK K
  refine wpList_plain rfl fun K hK => ?_
  unfold Oper.wp execOp
  go_simp
  refine hK _ _ ?_
  clear hK K
  change wpList _ _ _ _ _ (w8.alloc (.cells inoZ.toArray 47))
  have hsx : Strc (w8.alloc (.cells inoZ.toArray 47)) w8.heap.size 47 inoZ := alloc_last w8 _
  have hax := HA8.out.made 47 inoZ cs2
  have hlx := HA8.out.lt (p := (pb, 41, ocs)) (by simp)
  refine wpList_store_row rfl 47 _ _ rfl w8.heap.size cs2.toArray rfl rfl 47 _ hsx (infIno (Hcs2.out.2.1)) (by first | rfl | (rw [List.size_toArray, List.size_toArray, Hcs2.out.2.1]; rfl)) Hcs2.out.2.2 ?_
  generalize World.setRow (w8.alloc (.cells inoZ.toArray 47)) w8.heap.size cs2.toArray = w9 at hax ⊢
  obtain ⟨qy, hqy⟩ : ∃ q, w8.heap.size = q := ⟨_, rfl⟩
  rw [hqy] at hax hlx ⊢
  have HA9 := Aside0.mk hax
  have HLqy := Aside0.mk hlx
  clear hax hsx hlx hqy
  refine wpList_plain rfl fun K hK => ?_
  unfold Oper.wp execOp
  go_simp
  refine hK _ _ ?_
  clear hK K
  go_upto_region 14 with fail
  have HD14 := Aside0.mk (HA9.out.below ((Below.refl _ _).drew))
  refine wp_region_plan (.op 0 0 (.op 2 0 (.op 3 1 (.op 4 0 (.op 5 1 (.fork 1 10 (.fork 6 10 (.op 7 0 (.op 8 0 (.op 9 0 (.op 10 2 (.op 11 2 (.op 12 0 .stop)))))) (.op 6 2 (.op 7 0 (.op 8 0 (.op 9 0 (.op 11 2 (.op 12 0 .stop))))))) (.op 1 2 (.op 6 2 (.op 7 0 (.op 8 0 (.op 9 0 (.op 11 2 (.op 12 0 .stop))))))))))))) (fun W => W.cell? ⟨pb, 1, none⟩ = some (.string nm) ∧ W.cell? ⟨pb, 2, none⟩ = some (.slice Av val.length cv)) (by kernel_rfl) (by kernel_rfl) (fun _ _ _ _ h => h) ⟨(HD14.out.get (p := (pb, 41, ocs)) (by simp)).cell 1 (.string nm) (by rw [← HO.out.1]; rfl), (HD14.out.get (p := (pb, 41, ocs)) (by simp)).cell 2 (.slice Av val.length cv) (by rw [← HO.out.1]; rfl)⟩ ?_
  generalize w9.drew = wd at HD14 ⊢
  iterate 5 (first
    | (refine inT_off0 (by rfl) (by rfl) ?_; simp only [Act.put, stA, stZ, stS, i64_w, i32_w])
    | (refine inT_off1 (by rfl) (by rfl) ?_; simp only [Act.put, stA, stZ, stS, i64_w, i32_w])
    | (refine inT_0 (v := ?_) (by rfl) (by rfl) rfl ?_ (a' := ?_) ?_ ?_; rotate_left; (intro w'; go_simp; with_reducible rfl); rotate_left; (simp only [Act.put, stA, stZ, stS, i64_w, i32_w]; rfl))
    | (refine inT_1 (v := ?_) (by rfl) (by rfl) rfl ?_ (a' := ?_) ?_ ?_; rotate_left; (rintro w' hs; go_split_ands; go_simp; with_reducible rfl); rotate_left; (simp only [Act.put, stA, stZ, stS, i64_w, i32_w]; rfl)))
  refine wpT_join (p := .op 12 0 .stop) (fun g cs q W => resC exR (.slice (some ⟨g, 0, none⟩) 48 48) c2 = cs ∧ AwI w s0 s1 ((q, 47, cs) :: [(qy, 47, cs2), (qr, 47, cs0), (pb, 41, ocs)]) W) ?joinA ?joinP ?joinT
  case joinP =>
    intro tail
    refine inT_fork (by rfl) (by rfl) (by rfl) (by rfl) (fun K hK => ?_) (fun K hK => ?_)
    · go_simp
      with_reducible refine (fresh_calls _).mono ?_
      rintro e w20 ⟨g2, rfl, hb2⟩
      have HA20 := Aside0.mk (HD14.out.below hb2)
      clear hb2
      dsimp only
      refine hK _ _ ⟨(HA20.out.get (p := (pb, 41, ocs)) (by simp)).cell 1 (.string nm) (by rw [← HO.out.1]; rfl), (HA20.out.get (p := (pb, 41, ocs)) (by simp)).cell 2 (.slice Av val.length cv) (by rw [← HO.out.1]; rfl)⟩ ?_
      clear hK K
      try simp only [Act.put, stA, stZ, stS, i64_w, i32_w]
      refine inT_fork (by rfl) (by rfl) (by rfl) (by rfl) (fun K hK => ?_) (fun K hK => ?_)
      · have hs := HA20.out.setA (r := exR) (some ⟨g2, 0, none⟩) 48 48 nm Av cv val 2 0 HX.out.2.2 HT.out.1 HT.out.2 HV.out.1 HV.out.2.1 HV.out.2.2.1 HV.out.2.2.2 (by omega) (by decide) (by decide)
        obtain ⟨cs3, hcs3⟩ : ∃ cs, resC exR (.slice (some ⟨g2, 0, none⟩) 48 48) c2 = cs := ⟨_, rfl⟩
        have Hcs3 := Aside0.mk (And.intro hcs3 (by rw [← hcs3]; exact resC_ok exR _ _ _ _ : cs3.length = 15 ∧ cs3.toArray.all (·.oneCell') = true))
        rw [hcs3, show exR.cells (.slice (some ⟨g2, 0, none⟩) 48 48) = frC g2 from rfl] at hs
        clear hcs3
        have HS := Aside0.mk hs
        clear hs
        go_simp
        with_reducible refine HS.out.mono ?_
        rintro e w21 ⟨rfl, hax⟩
        have HA21 := Aside0.mk hax
        clear hax HS
        dsimp only
        refine hK _ _ ⟨(HA21.out.get (p := (pb, 41, ocs)) (by simp)).cell 1 (.string nm) (by rw [← HO.out.1]; rfl), (HA21.out.get (p := (pb, 41, ocs)) (by simp)).cell 2 (.slice Av val.length cv) (by rw [← HO.out.1]; rfl)⟩ ?_
        clear hK K
        try simp only [Act.put, stA, stZ, stS, i64_w, i32_w]
        iterate 3 (first
          | (refine inT_off0 (by rfl) (by rfl) ?_; simp only [Act.put, stA, stZ, stS, i64_w, i32_w])
          | (refine inT_off1 (by rfl) (by rfl) ?_; simp only [Act.put, stA, stZ, stS, i64_w, i32_w])
          | (refine inT_0 (v := ?_) (by rfl) (by rfl) rfl ?_ (a' := ?_) ?_ ?_; rotate_left; (intro w'; go_simp; with_reducible rfl); rotate_left; (simp only [Act.put, stA, stZ, stS, i64_w, i32_w]; rfl))
          | (refine inT_1 (v := ?_) (by rfl) (by rfl) rfl ?_ (a' := ?_) ?_ ?_; rotate_left; (rintro w' hs; go_split_ands; go_simp; with_reducible rfl); rotate_left; (simp only [Act.put, stA, stZ, stS, i64_w, i32_w]; rfl)))
        refine inT_2 (by rfl) (by rfl) (fun K hK => ?_)
        unfold Oper.wp execOp
        go_simp
        change K _ (w21.alloc (.cells inoZ.toArray 47))
        have hax := HA21.out.push 47 inoZ
        have hlx := HA21.out.lts
        refine hK _ _ ⟨(hax.get (p := (pb, 41, ocs)) (by simp)).cell 1 (.string nm) (by rw [← HO.out.1]; rfl), (hax.get (p := (pb, 41, ocs)) (by simp)).cell 2 (.slice Av val.length cv) (by rw [← HO.out.1]; rfl)⟩ ?_
        clear hK K
        generalize w21.alloc (.cells inoZ.toArray 47) = w22 at hax ⊢
        obtain ⟨qw, hqw⟩ : ∃ q, w21.heap.size = q := ⟨_, rfl⟩
        rw [hqw] at hax hlx ⊢
        have HA22 := Aside0.mk hax
        have HLW := Aside0.mk (And.intro hlx (show w.heap.size ≤ qw from hqw ▸ HA21.out.ge))
        clear hax hlx hqw
        try simp only [Act.put, stA, stZ, stS, i64_w, i32_w]
        refine inT_2 (by rfl) (by rfl) (fun K hK => ?_)
        refine wp_store_row 47 _ _ rfl qw cs3.toArray rfl rfl 47 _ (HA22.out.get (p := (qw, 47, inoZ)) (by simp)) (infIno (Hcs3.out.2.1)) (by first | rfl | (rw [List.size_toArray, List.size_toArray, Hcs3.out.2.1]; rfl)) Hcs3.out.2.2 ?_
        have hax := HA22.out.put cs3 HLW.out.2 (fun p hp => Nat.ne_of_lt (HLW.out.1 p hp))
        refine hK _ _ ⟨(hax.get (p := (pb, 41, ocs)) (by simp)).cell 1 (.string nm) (by rw [← HO.out.1]; rfl), (hax.get (p := (pb, 41, ocs)) (by simp)).cell 2 (.slice Av val.length cv) (by rw [← HO.out.1]; rfl)⟩ ?_
        clear hK K
        try simp only [Act.put, stA, stZ, stS, i64_w, i32_w]
        exact tail g2 cs3 qw _ ⟨Hcs3.out.1, hax⟩
      · unfold Oper.wp execOp
        go_simp
        change K _ (w20.alloc (.cells inoZ.toArray 47))
        have hax := HA20.out.push 47 inoZ
        have hlx := HA20.out.lts
        refine hK _ _ ⟨(hax.get (p := (pb, 41, ocs)) (by simp)).cell 1 (.string nm) (by rw [← HO.out.1]; rfl), (hax.get (p := (pb, 41, ocs)) (by simp)).cell 2 (.slice Av val.length cv) (by rw [← HO.out.1]; rfl)⟩ ?_
        clear hK K
        generalize w20.alloc (.cells inoZ.toArray 47) = w21 at hax ⊢
        obtain ⟨qw, hqw⟩ : ∃ q, w20.heap.size = q := ⟨_, rfl⟩
        rw [hqw] at hax hlx ⊢
        have HA21 := Aside0.mk hax
        have HLW := Aside0.mk (And.intro hlx (show w.heap.size ≤ qw from hqw ▸ HA20.out.ge))
        clear hax hlx hqw
        try simp only [Act.put, stA, stZ, stS, i64_w, i32_w]
        refine inT_2 (by rfl) (by rfl) (fun K hK => ?_)
        have hs := HA21.out.setA (r := exR) (some ⟨g2, 0, none⟩) 48 48 nm Av cv val 2 0 HX.out.2.2 HT.out.1 HT.out.2 HV.out.1 HV.out.2.1 HV.out.2.2.1 HV.out.2.2.2 (by omega) (by decide) (by decide)
        obtain ⟨cs3, hcs3⟩ : ∃ cs, resC exR (.slice (some ⟨g2, 0, none⟩) 48 48) c2 = cs := ⟨_, rfl⟩
        have Hcs3 := Aside0.mk (And.intro hcs3 (by rw [← hcs3]; exact resC_ok exR _ _ _ _ : cs3.length = 15 ∧ cs3.toArray.all (·.oneCell') = true))
        rw [hcs3, show exR.cells (.slice (some ⟨g2, 0, none⟩) 48 48) = frC g2 from rfl] at hs
        clear hcs3
        have HS := Aside0.mk hs
        clear hs
        go_simp
        with_reducible refine HS.out.mono ?_
        rintro e w22 ⟨rfl, hax⟩
        have HA22 := Aside0.mk hax
        clear hax HS
        dsimp only
        refine hK _ _ ⟨(HA22.out.get (p := (pb, 41, ocs)) (by simp)).cell 1 (.string nm) (by rw [← HO.out.1]; rfl), (HA22.out.get (p := (pb, 41, ocs)) (by simp)).cell 2 (.slice Av val.length cv) (by rw [← HO.out.1]; rfl)⟩ ?_
        clear hK K
        try simp only [Act.put, stA, stZ, stS, i64_w, i32_w]
        iterate 3 (first
          | (refine inT_off0 (by rfl) (by rfl) ?_; simp only [Act.put, stA, stZ, stS, i64_w, i32_w])
          | (refine inT_off1 (by rfl) (by rfl) ?_; simp only [Act.put, stA, stZ, stS, i64_w, i32_w])
          | (refine inT_0 (v := ?_) (by rfl) (by rfl) rfl ?_ (a' := ?_) ?_ ?_; rotate_left; (intro w'; go_simp; with_reducible rfl); rotate_left; (simp only [Act.put, stA, stZ, stS, i64_w, i32_w]; rfl))
          | (refine inT_1 (v := ?_) (by rfl) (by rfl) rfl ?_ (a' := ?_) ?_ ?_; rotate_left; (rintro w' hs; go_split_ands; go_simp; with_reducible rfl); rotate_left; (simp only [Act.put, stA, stZ, stS, i64_w, i32_w]; rfl)))
        refine inT_2 (by rfl) (by rfl) (fun K hK => ?_)
        refine wp_store_row 47 _ _ rfl qw cs3.toArray rfl rfl 47 _ (HA22.out.get (p := (qw, 47, inoZ)) (by simp)) (infIno (Hcs3.out.2.1)) (by first | rfl | (rw [List.size_toArray, List.size_toArray, Hcs3.out.2.1]; rfl)) Hcs3.out.2.2 ?_
        have hax := HA22.out.put cs3 HLW.out.2 (fun p hp => Nat.ne_of_lt (HLW.out.1 p hp))
        refine hK _ _ ⟨(hax.get (p := (pb, 41, ocs)) (by simp)).cell 1 (.string nm) (by rw [← HO.out.1]; rfl), (hax.get (p := (pb, 41, ocs)) (by simp)).cell 2 (.slice Av val.length cv) (by rw [← HO.out.1]; rfl)⟩ ?_
        clear hK K
        try simp only [Act.put, stA, stZ, stS, i64_w, i32_w]
        exact tail g2 cs3 qw _ ⟨Hcs3.out.1, hax⟩
    · unfold Oper.wp execOp
      go_simp
      change K _ (wd.alloc (.cells inoZ.toArray 47))
      have hax := HD14.out.push 47 inoZ
      have hlx := HD14.out.lts
      refine hK _ _ ⟨(hax.get (p := (pb, 41, ocs)) (by simp)).cell 1 (.string nm) (by rw [← HO.out.1]; rfl), (hax.get (p := (pb, 41, ocs)) (by simp)).cell 2 (.slice Av val.length cv) (by rw [← HO.out.1]; rfl)⟩ ?_
      clear hK K
      generalize wd.alloc (.cells inoZ.toArray 47) = w20 at hax ⊢
      obtain ⟨qw, hqw⟩ : ∃ q, wd.heap.size = q := ⟨_, rfl⟩
      rw [hqw] at hax hlx ⊢
      have HA20 := Aside0.mk hax
      have HLW := Aside0.mk (And.intro hlx (show w.heap.size ≤ qw from hqw ▸ HD14.out.ge))
      clear hax hlx hqw
      try simp only [Act.put, stA, stZ, stS, i64_w, i32_w]
      refine inT_2 (by rfl) (by rfl) (fun K hK => ?_)
      go_simp
      with_reducible refine (fresh_calls _).mono ?_
      rintro e w21 ⟨g2, rfl, hb2⟩
      have HA21 := Aside0.mk (HA20.out.below hb2)
      clear hb2
      dsimp only
      refine hK _ _ ⟨(HA21.out.get (p := (pb, 41, ocs)) (by simp)).cell 1 (.string nm) (by rw [← HO.out.1]; rfl), (HA21.out.get (p := (pb, 41, ocs)) (by simp)).cell 2 (.slice Av val.length cv) (by rw [← HO.out.1]; rfl)⟩ ?_
      clear hK K
      try simp only [Act.put, stA, stZ, stS, i64_w, i32_w]
      refine inT_2 (by rfl) (by rfl) (fun K hK => ?_)
      have hs := HA21.out.setA (r := exR) (some ⟨g2, 0, none⟩) 48 48 nm Av cv val 2 0 HX.out.2.2 HT.out.1 HT.out.2 HV.out.1 HV.out.2.1 HV.out.2.2.1 HV.out.2.2.2 (by omega) (by decide) (by decide)
      obtain ⟨cs3, hcs3⟩ : ∃ cs, resC exR (.slice (some ⟨g2, 0, none⟩) 48 48) c2 = cs := ⟨_, rfl⟩
      have Hcs3 := Aside0.mk (And.intro hcs3 (by rw [← hcs3]; exact resC_ok exR _ _ _ _ : cs3.length = 15 ∧ cs3.toArray.all (·.oneCell') = true))
      rw [hcs3, show exR.cells (.slice (some ⟨g2, 0, none⟩) 48 48) = frC g2 from rfl] at hs
      clear hcs3
      have HS := Aside0.mk hs
      clear hs
      go_simp
      with_reducible refine HS.out.mono ?_
      rintro e w22 ⟨rfl, hax⟩
      have HA22 := Aside0.mk hax
      clear hax HS
      dsimp only
      refine hK _ _ ⟨(HA22.out.get (p := (pb, 41, ocs)) (by simp)).cell 1 (.string nm) (by rw [← HO.out.1]; rfl), (HA22.out.get (p := (pb, 41, ocs)) (by simp)).cell 2 (.slice Av val.length cv) (by rw [← HO.out.1]; rfl)⟩ ?_
      clear hK K
      try simp only [Act.put, stA, stZ, stS, i64_w, i32_w]
      iterate 3 (first
        | (refine inT_off0 (by rfl) (by rfl) ?_; simp only [Act.put, stA, stZ, stS, i64_w, i32_w])
        | (refine inT_off1 (by rfl) (by rfl) ?_; simp only [Act.put, stA, stZ, stS, i64_w, i32_w])
        | (refine inT_0 (v := ?_) (by rfl) (by rfl) rfl ?_ (a' := ?_) ?_ ?_; rotate_left; (intro w'; go_simp; with_reducible rfl); rotate_left; (simp only [Act.put, stA, stZ, stS, i64_w, i32_w]; rfl))
        | (refine inT_1 (v := ?_) (by rfl) (by rfl) rfl ?_ (a' := ?_) ?_ ?_; rotate_left; (rintro w' hs; go_split_ands; go_simp; with_reducible rfl); rotate_left; (simp only [Act.put, stA, stZ, stS, i64_w, i32_w]; rfl)))
      refine inT_2 (by rfl) (by rfl) (fun K hK => ?_)
      refine wp_store_row 47 _ _ rfl qw cs3.toArray rfl rfl 47 _ (HA22.out.get (p := (qw, 47, inoZ)) (by simp)) (infIno (Hcs3.out.2.1)) (by first | rfl | (rw [List.size_toArray, List.size_toArray, Hcs3.out.2.1]; rfl)) Hcs3.out.2.2 ?_
      have hax := HA22.out.put cs3 HLW.out.2 (fun p hp => Nat.ne_of_lt (HLW.out.1 p hp))
      refine hK _ _ ⟨(hax.get (p := (pb, 41, ocs)) (by simp)).cell 1 (.string nm) (by rw [← HO.out.1]; rfl), (hax.get (p := (pb, 41, ocs)) (by simp)).cell 2 (.slice Av val.length cv) (by rw [← HO.out.1]; rfl)⟩ ?_
      clear hK K
      try simp only [Act.put, stA, stZ, stS, i64_w, i32_w]
      exact tail g2 cs3 qw _ ⟨Hcs3.out.1, hax⟩
  case joinT =>
  rintro g2 cs3 qw w22 ⟨hcs3, hax⟩
  have Hcs3 := Aside0.mk (And.intro hcs3 (by rw [← hcs3]; exact resC_ok exR _ _ _ _ : cs3.length = 15 ∧ cs3.toArray.all (·.oneCell') = true))
  have HA22 := Aside0.mk hax
  clear hax hcs3 HD14
  iterate 1 (first
    | (refine inT_off0 (by rfl) (by rfl) ?_; simp only [Act.put, stA, stZ, stS, i64_w, i32_w])
    | (refine inT_off1 (by rfl) (by rfl) ?_; simp only [Act.put, stA, stZ, stS, i64_w, i32_w])
    | (refine inT_0 (v := ?_) (by rfl) (by rfl) rfl ?_ (a' := ?_) ?_ ?_; rotate_left; (intro w'; go_simp; with_reducible rfl); rotate_left; (simp only [Act.put, stA, stZ, stS, i64_w, i32_w]; rfl))
    | (refine inT_1 (v := ?_) (by rfl) (by rfl) rfl ?_ (a' := ?_) ?_ ?_; rotate_left; (rintro w' hs; go_split_ands; go_simp; with_reducible rfl); rotate_left; (simp only [Act.put, stA, stZ, stS, i64_w, i32_w]; rfl)))
  refine inT_stop ?_
  have HB := Aside0.mk (HA22.out.elim fun D h => h.2.2.1)
  rcases hcc with ⟨rfl, rfl⟩ | ⟨rfl, rfl⟩ | ⟨rfl, rfl⟩
  all_goals
    go_wp2
    go_ret
    exact ⟨rfl, HB.out⟩
set_option maxHeartbeats 8000000 in
set_option maxRecDepth 100000 in
theorem how_first (what how goal : Int) (nm : ByteArray) (Av : Option Addr) (cv : Nat) (val : List Int) (w : World) (hT : Tab w) (hv : Kd.C (Kd.int .u8) w Av val.length val) (hvn : Av = none → cv = 0) (hvD : ∀ ad, Av = some ad → ad.block < w.heap.size) (hvb : allB val) {s1 : St} {r1 : Ino} {c0 c1 c2 : Int} (x0 : xsetR exS exR 48 nm [] 0 0 = (exS, exR, c0)) (x1 : xsetR exS exR 48 nm val 1 0 = (s1, r1, c1)) (x2 : xsetR s1 exR 48 nm val 2 0 = (s1, exR, c2)) (hh : s1.hist.length ≤ 1000) (hc0 : c0 = 22) (hcc : (c1 = 0 ∧ c2 = 61) ∨ (c1 = 34 ∧ c2 = 34) ∨ (c1 = 22 ∧ c2 = 22)) :
    Calls Tryz.prog 6 #[.agg #[.int .i64 what, .string nm, .slice Av val.length cv, .int .i64 how, .int .i64 goal], .bool true] w fun e w' => e = .returned (.bool true) ∧ Below w.heap.size w w' := by
  have h2w : 2 < w.heap.size := World.block_lt_of_cell? w _ (hT 0 (by omega))
  have HT := Aside0.mk (And.intro hT h2w)
  have HV := Aside0.mk (And.intro hv (And.intro hvn (And.intro hvD hvb)))
  clear hT hv hvn hvD hvb h2w
  have HX := Aside0.mk (And.intro x0 (And.intro x1 x2))
  clear x0 x1 x2
  go_enter Tryz.func6, Tryz.ntmps6
  go_wp2_with fail
  have hb0 := below_alloc (Below.refl w.heap.size w) (.cells #[.int .i64 what, .string nm, .slice Av val.length cv, .int .i64 how, .int .i64 goal] 41)
  have hp0 : Strc (w.alloc (.cells #[.int .i64 what, .string nm, .slice Av val.length cv, .int .i64 how, .int .i64 goal] 41)) w.heap.size 41 [.int .i64 what, .string nm, .slice Av val.length cv, .int .i64 how, .int .i64 goal] := alloc_last w _
  generalize w.alloc (.cells #[.int .i64 what, .string nm, .slice Av val.length cv, .int .i64 how, .int .i64 goal] 41) = w0 at hb0 hp0 ⊢
  obtain ⟨ocs, hocs⟩ : ∃ l : List Value, [.int .i64 what, .string nm, .slice Av val.length cv, .int .i64 how, .int .i64 goal] = l := ⟨_, rfl⟩
  rw [hocs] at hp0
  obtain ⟨pb, hpb⟩ : ∃ q, w.heap.size = q := ⟨_, rfl⟩
  rw [hpb] at hp0 ⊢
  have HO := Aside0.mk (And.intro hocs hpb)
  have HP0 := Aside0.mk hp0
  have HB0 := Aside0.mk hb0
  clear hb0 hp0 hocs hpb
  refine (awake_calls w0 (HT.out.1.below HB0.out)).mono ?_
  rintro e w1 ⟨rfl, hb1⟩
  have HB1 := Aside0.mk (below_then HB0.out HB0.out.size hb1)
  have HP1 := Aside0.mk (HP0.out.below hb1)
  clear hb1 HP0
  dsimp only
  go_wp2_with fail
  with_reducible refine (both_calls w1).mono ?_
  rintro e w2 ⟨s0, q, D, rfl, hst, hD, hb⟩
  have HA2 := Aside0.mk (show AwI w s0 exS [(pb, 41, ocs)] w2 from ⟨D, hst, fun k hk => Nat.le_trans HB1.out.size (hD k hk), below_then HB1.out HB1.out.size hb, fun p hp => by
    obtain rfl := List.mem_singleton.1 hp
    exact ⟨HP1.out.below hb, fun hd => by have := hD _ hd; have := HP1.out.lt; omega⟩⟩)
  clear hst hD hb HP1
  dsimp only
  go_upto_region 3 with fail
  refine wp_region_lit ?_
  refine wpList_plain rfl fun K hK => ?_
  unfold Oper.wp execOp
  go_simp
  with_reducible refine (fresh_calls w2).mono ?_
  rintro e w3 ⟨g1, rfl, hb2⟩
  have HA3 := Aside0.mk (HA2.out.below hb2)
  clear hb2
  dsimp only
  refine hK _ _ ?_
  clear hK K
  obtain ⟨cs0, hcs0⟩ : ∃ cs, frC g1 = cs := ⟨_, rfl⟩
  have Hcs0 := Aside0.mk (And.intro hcs0 (by rw [← hcs0]; exact ⟨rfl, by have := Ino_one exR (some ⟨g1, 0, none⟩) 48 48; simpa [frC] using this⟩ : cs0.length = 15 ∧ cs0.toArray.all (·.oneCell') = true))
  rw [hcs0]
  clear hcs0
  refine wpList_plain rfl fun K hK => ?_
  unfold Oper.wp execOp
  go_simp
  refine hK _ _ ?_
  clear hK K
  change wpList _ _ _ _ _ (w3.alloc (.cells inoZ.toArray 47))
  have hsx : Strc (w3.alloc (.cells inoZ.toArray 47)) w3.heap.size 47 inoZ := alloc_last w3 _
  have hax := HA3.out.made 47 inoZ cs0
  have hlx := HA3.out.lt (p := (pb, 41, ocs)) (by simp)
  refine wpList_store_row rfl 47 _ _ rfl w3.heap.size cs0.toArray rfl rfl 47 _ hsx (infIno (Hcs0.out.2.1)) (by first | rfl | (rw [List.size_toArray, List.size_toArray, Hcs0.out.2.1]; rfl)) Hcs0.out.2.2 ?_
  generalize World.setRow (w3.alloc (.cells inoZ.toArray 47)) w3.heap.size cs0.toArray = w4 at hax ⊢
  obtain ⟨qr, hqr⟩ : ∃ q, w3.heap.size = q := ⟨_, rfl⟩
  rw [hqr] at hax hlx ⊢
  have HA4 := Aside0.mk hax
  have HLqr := Aside0.mk hlx
  clear hax hsx hlx hqr
  subst hc0
  obtain ⟨cs1, hcs1⟩ : ∃ cs, resC exR (.slice (some ⟨g1, 0, none⟩) 48 48) 22 = cs := ⟨_, rfl⟩
  have Hcs1 := Aside0.mk (And.intro hcs1 (by rw [← hcs1]; exact resC_ok exR _ _ _ _ : cs1.length = 15 ∧ cs1.toArray.all (·.oneCell') = true))
  clear hcs1
  go_upto_region 6 with fail
  refine wp_region_lit ?_
  refine wpList_plain rfl fun K hK => ?_
  unfold Oper.wp execOp
  go_simp
  refine hK _ _ ?_
  clear hK K
  refine wpList_load_row rfl 47 _ rfl qr rfl 47 cs0.toArray (0, 0) _ (HA4.out.get (p := (qr, 47, cs0)) (by simp)) Tryz.underlying47 rfl (infIno (Hcs0.out.2.1)) ?_
  have f1 := (HA4.out.get (p := (pb, 41, ocs)) (by simp)).cell 1 (.string nm) (by rw [← HO.out.1]; rfl)
  have f2 := (HA4.out.get (p := (pb, 41, ocs)) (by simp)).cell 2 (.slice Av val.length cv) (by rw [← HO.out.1]; rfl)
  refine wpList_plain rfl fun K hK => ?_
  unfold Oper.wp execOp
  go_simp
  refine hK _ _ ?_
  clear hK K
  refine wpList_plain rfl fun K hK => ?_
  unfold Oper.wp execOp
  go_simp
  refine hK _ _ ?_
  clear hK K
  clear f1 f2
  have hs : Calls Tryz.prog 18 #[.pointer (some ⟨s0, 0, none⟩), .agg cs0.toArray, .string nm, .slice none 0 0, .int .i64 0, .int .i64 0] w4 (AwPost w s0 exS [(qr, 47, cs0), (pb, 41, ocs)] cs1 22) := by
    have := HA4.out.set (r := exR) (some ⟨g1, 0, none⟩) 48 48 nm none 0 [] 0 0 HX.out.1 HT.out.1 HT.out.2 (.inl ⟨rfl, rfl, rfl⟩) (fun x hx => nomatch hx) (by decide) (by show 0 ≤ 900000; omega) (by decide) (by decide)
    rw [Hcs1.out.1, show exR.cells (.slice (some ⟨g1, 0, none⟩) 48 48) = cs0 from Hcs0.out.1] at this
    exact this
  have HS := Aside0.mk hs
  clear hs
  refine wpList_plain rfl fun K hK => ?_
  unfold Oper.wp execOp
  go_simp
  with_reducible refine HS.out.mono ?_
  rintro e w5 ⟨rfl, hax⟩
  have HA5 := Aside0.mk hax
  clear hax HS
  dsimp only
  refine hK _ _ ?_
  clear hK K
  refine wpList_plain rfl fun K hK => ?_
  unfold Oper.wp execOp
  go_simp
  refine hK _ _ ?_
  clear hK K
  refine wpList_plain rfl fun K hK => ?_
  unfold Oper.wp execOp
  go_simp
  refine hK _ _ ?_
  clear hK K
  refine wpList_plain rfl fun K hK => ?_
  unfold Oper.wp execOp
  go_simp
  refine hK _ _ ?_
  clear hK K
  refine wpList_plain rfl fun K hK => ?_
  unfold Oper.wp execOp
  go_simp
  refine hK _ _ ?_
  clear hK K
  change wpList _ _ _ _ _ (w5.alloc (.cells inoZ.toArray 47))
  have hsx : Strc (w5.alloc (.cells inoZ.toArray 47)) w5.heap.size 47 inoZ := alloc_last w5 _
  have hax := HA5.out.made 47 inoZ cs1
  have hlx := HA5.out.lt (p := (pb, 41, ocs)) (by simp)
  refine wpList_store_row rfl 47 _ _ rfl w5.heap.size cs1.toArray rfl rfl 47 _ hsx (infIno (Hcs1.out.2.1)) (by first | rfl | (rw [List.size_toArray, List.size_toArray, Hcs1.out.2.1]; rfl)) Hcs1.out.2.2 ?_
  generalize World.setRow (w5.alloc (.cells inoZ.toArray 47)) w5.heap.size cs1.toArray = w6 at hax ⊢
  obtain ⟨qx, hqx⟩ : ∃ q, w5.heap.size = q := ⟨_, rfl⟩
  rw [hqx] at hax hlx ⊢
  have HA6 := Aside0.mk hax
  have HLqx := Aside0.mk hlx
  clear hax hsx hlx hqx
  refine wpList_plain rfl fun K hK => ?_
  unfold Oper.wp execOp
  go_simp
  refine hK _ _ ?_
  clear hK K
  have HA6 := Aside0.mk (HA6.out.sub (bx' := [(qr, 47, cs0), (pb, 41, ocs)]) (fun p hp => List.mem_cons_of_mem _ hp))
  obtain ⟨cs2, hcs2⟩ : ∃ cs, resC r1 (.slice (some ⟨g1, 0, none⟩) 48 48) c1 = cs := ⟨_, rfl⟩
  have Hcs2 := Aside0.mk (And.intro hcs2 (by rw [← hcs2]; exact resC_ok r1 _ _ _ _ : cs2.length = 15 ∧ cs2.toArray.all (·.oneCell') = true))
  clear hcs2
  go_upto_region 10 with fail
  refine wp_region_lit ?_
  refine wpList_plain rfl fun K hK => ?_
  unfold Oper.wp execOp
  go_simp
  refine hK _ _ ?_
  clear hK K
  refine wpList_load_row rfl 47 _ rfl qr rfl 47 cs0.toArray (0, 0) _ (HA6.out.get (p := (qr, 47, cs0)) (by simp)) Tryz.underlying47 rfl (infIno (Hcs0.out.2.1)) ?_
  have f1 := (HA6.out.get (p := (pb, 41, ocs)) (by simp)).cell 1 (.string nm) (by rw [← HO.out.1]; rfl)
  have f2 := (HA6.out.get (p := (pb, 41, ocs)) (by simp)).cell 2 (.slice Av val.length cv) (by rw [← HO.out.1]; rfl)
  refine wpList_plain rfl fun K hK => ?_
  unfold Oper.wp execOp
  go_simp
  refine hK _ _ ?_
  clear hK K
  refine wpList_plain rfl fun K hK => ?_
  unfold Oper.wp execOp
  go_simp
  refine hK _ _ ?_
  clear hK K
  refine wpList_plain rfl fun K hK => ?_
  unfold Oper.wp execOp
  go_simp
  refine hK _ _ ?_
  clear hK K
  refine wpList_plain rfl fun K hK => ?_
  unfold Oper.wp execOp
  go_simp
  refine hK _ _ ?_
  clear hK K
  clear f1 f2
  have hs : Calls Tryz.prog 18 #[.pointer (some ⟨s0, 0, none⟩), .agg cs0.toArray, .string nm, .slice Av val.length cv, .int .i64 1, .int .i64 0] w6 (AwPost w s0 s1 [(qr, 47, cs0), (pb, 41, ocs)] cs2 c1) := by
    have := HA6.out.setA (r := exR) (some ⟨g1, 0, none⟩) 48 48 nm Av cv val 1 0 HX.out.2.1 HT.out.1 HT.out.2 HV.out.1 HV.out.2.1 HV.out.2.2.1 HV.out.2.2.2 (by show 0 ≤ 900000; omega) (by decide) (by decide)
    rw [Hcs2.out.1, show exR.cells (.slice (some ⟨g1, 0, none⟩) 48 48) = cs0 from Hcs0.out.1] at this
    exact this
  have HS := Aside0.mk hs
  clear hs
  refine wpList_plain rfl fun K hK => ?_
  unfold Oper.wp execOp
  go_simp
  with_reducible refine HS.out.mono ?_
  rintro e w8 ⟨rfl, hax⟩
  have HA8 := Aside0.mk hax
  clear hax HS
  dsimp only
  refine hK _ _ ?_
  clear hK K
  refine wpList_plain rfl fun K hK => ?_
  unfold Oper.wp execOp
  go_simp
  refine hK _ _ ?_
  clear hK K
  refine wpList_plain rfl fun K hK => ?_
  unfold Oper.wp execOp
  go_simp
  refine hK _ _ ?_
  clear hK K
  refine wpList_plain rfl fun K hK => ?_
  unfold Oper.wp execOp
  go_simp
  refine hK _ _ ?_
  clear hK K
  refine wpList_plain rfl fun K hK => ?_
  unfold Oper.wp execOp
  go_simp
  refine hK _ _ ?_
  clear hK K
  change wpList _ _ _ _ _ (w8.alloc (.cells inoZ.toArray 47))
  have hsx : Strc (w8.alloc (.cells inoZ.toArray 47)) w8.heap.size 47 inoZ := alloc_last w8 _
  have hax := HA8.out.made 47 inoZ cs2
  have hlx := HA8.out.lt (p := (pb, 41, ocs)) (by simp)
  refine wpList_store_row rfl 47 _ _ rfl w8.heap.size cs2.toArray rfl rfl 47 _ hsx (infIno (Hcs2.out.2.1)) (by first | rfl | (rw [List.size_toArray, List.size_toArray, Hcs2.out.2.1]; rfl)) Hcs2.out.2.2 ?_
  generalize World.setRow (w8.alloc (.cells inoZ.toArray 47)) w8.heap.size cs2.toArray = w9 at hax ⊢
  obtain ⟨qy, hqy⟩ : ∃ q, w8.heap.size = q := ⟨_, rfl⟩
  rw [hqy] at hax hlx ⊢
  have HA9 := Aside0.mk hax
  have HLqy := Aside0.mk hlx
  clear hax hsx hlx hqy
  refine wpList_plain rfl fun K hK => ?_
  unfold Oper.wp execOp
  go_simp
  refine hK _ _ ?_
  clear hK K
  go_upto_region 14 with fail
  have HD14 := Aside0.mk (HA9.out.below ((Below.refl _ _).drew))
  refine wp_region_plan (.op 0 0 (.op 2 0 (.op 3 1 (.op 4 0 (.op 5 1 (.fork 1 10 (.fork 6 10 (.op 7 0 (.op 8 0 (.op 9 0 (.op 10 2 (.op 11 2 (.op 12 0 .stop)))))) (.op 6 2 (.op 7 0 (.op 8 0 (.op 9 0 (.op 11 2 (.op 12 0 .stop))))))) (.op 1 2 (.op 6 2 (.op 7 0 (.op 8 0 (.op 9 0 (.op 11 2 (.op 12 0 .stop))))))))))))) (fun W => W.cell? ⟨pb, 1, none⟩ = some (.string nm) ∧ W.cell? ⟨pb, 2, none⟩ = some (.slice Av val.length cv)) (by kernel_rfl) (by kernel_rfl) (fun _ _ _ _ h => h) ⟨(HD14.out.get (p := (pb, 41, ocs)) (by simp)).cell 1 (.string nm) (by rw [← HO.out.1]; rfl), (HD14.out.get (p := (pb, 41, ocs)) (by simp)).cell 2 (.slice Av val.length cv) (by rw [← HO.out.1]; rfl)⟩ ?_
  generalize w9.drew = wd at HD14 ⊢
  iterate 5 (first
    | (refine inT_off0 (by rfl) (by rfl) ?_; simp only [Act.put, stA, stZ, stS, i64_w, i32_w])
    | (refine inT_off1 (by rfl) (by rfl) ?_; simp only [Act.put, stA, stZ, stS, i64_w, i32_w])
    | (refine inT_0 (v := ?_) (by rfl) (by rfl) rfl ?_ (a' := ?_) ?_ ?_; rotate_left; (intro w'; go_simp; with_reducible rfl); rotate_left; (simp only [Act.put, stA, stZ, stS, i64_w, i32_w]; rfl))
    | (refine inT_1 (v := ?_) (by rfl) (by rfl) rfl ?_ (a' := ?_) ?_ ?_; rotate_left; (rintro w' hs; go_split_ands; go_simp; with_reducible rfl); rotate_left; (simp only [Act.put, stA, stZ, stS, i64_w, i32_w]; rfl)))
  refine wpT_join (p := .op 12 0 .stop) (fun g cs q W => resC exR (.slice (some ⟨g, 0, none⟩) 48 48) c2 = cs ∧ AwI w s0 s1 ((q, 47, cs) :: [(qy, 47, cs2), (qr, 47, cs0), (pb, 41, ocs)]) W) ?joinA ?joinP ?joinT
  case joinP =>
    intro tail
    refine inT_fork (by rfl) (by rfl) (by rfl) (by rfl) (fun K hK => ?_) (fun K hK => ?_)
    · go_simp
      with_reducible refine (fresh_calls _).mono ?_
      rintro e w20 ⟨g2, rfl, hb2⟩
      have HA20 := Aside0.mk (HD14.out.below hb2)
      clear hb2
      dsimp only
      refine hK _ _ ⟨(HA20.out.get (p := (pb, 41, ocs)) (by simp)).cell 1 (.string nm) (by rw [← HO.out.1]; rfl), (HA20.out.get (p := (pb, 41, ocs)) (by simp)).cell 2 (.slice Av val.length cv) (by rw [← HO.out.1]; rfl)⟩ ?_
      clear hK K
      try simp only [Act.put, stA, stZ, stS, i64_w, i32_w]
      refine inT_fork (by rfl) (by rfl) (by rfl) (by rfl) (fun K hK => ?_) (fun K hK => ?_)
      · have hs := HA20.out.setA (r := exR) (some ⟨g2, 0, none⟩) 48 48 nm Av cv val 2 0 HX.out.2.2 HT.out.1 HT.out.2 HV.out.1 HV.out.2.1 HV.out.2.2.1 HV.out.2.2.2 (by omega) (by decide) (by decide)
        obtain ⟨cs3, hcs3⟩ : ∃ cs, resC exR (.slice (some ⟨g2, 0, none⟩) 48 48) c2 = cs := ⟨_, rfl⟩
        have Hcs3 := Aside0.mk (And.intro hcs3 (by rw [← hcs3]; exact resC_ok exR _ _ _ _ : cs3.length = 15 ∧ cs3.toArray.all (·.oneCell') = true))
        rw [hcs3, show exR.cells (.slice (some ⟨g2, 0, none⟩) 48 48) = frC g2 from rfl] at hs
        clear hcs3
        have HS := Aside0.mk hs
        clear hs
        go_simp
        with_reducible refine HS.out.mono ?_
        rintro e w21 ⟨rfl, hax⟩
        have HA21 := Aside0.mk hax
        clear hax HS
        dsimp only
        refine hK _ _ ⟨(HA21.out.get (p := (pb, 41, ocs)) (by simp)).cell 1 (.string nm) (by rw [← HO.out.1]; rfl), (HA21.out.get (p := (pb, 41, ocs)) (by simp)).cell 2 (.slice Av val.length cv) (by rw [← HO.out.1]; rfl)⟩ ?_
        clear hK K
        try simp only [Act.put, stA, stZ, stS, i64_w, i32_w]
        iterate 3 (first
          | (refine inT_off0 (by rfl) (by rfl) ?_; simp only [Act.put, stA, stZ, stS, i64_w, i32_w])
          | (refine inT_off1 (by rfl) (by rfl) ?_; simp only [Act.put, stA, stZ, stS, i64_w, i32_w])
          | (refine inT_0 (v := ?_) (by rfl) (by rfl) rfl ?_ (a' := ?_) ?_ ?_; rotate_left; (intro w'; go_simp; with_reducible rfl); rotate_left; (simp only [Act.put, stA, stZ, stS, i64_w, i32_w]; rfl))
          | (refine inT_1 (v := ?_) (by rfl) (by rfl) rfl ?_ (a' := ?_) ?_ ?_; rotate_left; (rintro w' hs; go_split_ands; go_simp; with_reducible rfl); rotate_left; (simp only [Act.put, stA, stZ, stS, i64_w, i32_w]; rfl)))
        refine inT_2 (by rfl) (by rfl) (fun K hK => ?_)
        unfold Oper.wp execOp
        go_simp
        change K _ (w21.alloc (.cells inoZ.toArray 47))
        have hax := HA21.out.push 47 inoZ
        have hlx := HA21.out.lts
        refine hK _ _ ⟨(hax.get (p := (pb, 41, ocs)) (by simp)).cell 1 (.string nm) (by rw [← HO.out.1]; rfl), (hax.get (p := (pb, 41, ocs)) (by simp)).cell 2 (.slice Av val.length cv) (by rw [← HO.out.1]; rfl)⟩ ?_
        clear hK K
        generalize w21.alloc (.cells inoZ.toArray 47) = w22 at hax ⊢
        obtain ⟨qw, hqw⟩ : ∃ q, w21.heap.size = q := ⟨_, rfl⟩
        rw [hqw] at hax hlx ⊢
        have HA22 := Aside0.mk hax
        have HLW := Aside0.mk (And.intro hlx (show w.heap.size ≤ qw from hqw ▸ HA21.out.ge))
        clear hax hlx hqw
        try simp only [Act.put, stA, stZ, stS, i64_w, i32_w]
        refine inT_2 (by rfl) (by rfl) (fun K hK => ?_)
        refine wp_store_row 47 _ _ rfl qw cs3.toArray rfl rfl 47 _ (HA22.out.get (p := (qw, 47, inoZ)) (by simp)) (infIno (Hcs3.out.2.1)) (by first | rfl | (rw [List.size_toArray, List.size_toArray, Hcs3.out.2.1]; rfl)) Hcs3.out.2.2 ?_
        have hax := HA22.out.put cs3 HLW.out.2 (fun p hp => Nat.ne_of_lt (HLW.out.1 p hp))
        refine hK _ _ ⟨(hax.get (p := (pb, 41, ocs)) (by simp)).cell 1 (.string nm) (by rw [← HO.out.1]; rfl), (hax.get (p := (pb, 41, ocs)) (by simp)).cell 2 (.slice Av val.length cv) (by rw [← HO.out.1]; rfl)⟩ ?_
        clear hK K
        try simp only [Act.put, stA, stZ, stS, i64_w, i32_w]
        exact tail g2 cs3 qw _ ⟨Hcs3.out.1, hax⟩
      · unfold Oper.wp execOp
        go_simp
        change K _ (w20.alloc (.cells inoZ.toArray 47))
        have hax := HA20.out.push 47 inoZ
        have hlx := HA20.out.lts
        refine hK _ _ ⟨(hax.get (p := (pb, 41, ocs)) (by simp)).cell 1 (.string nm) (by rw [← HO.out.1]; rfl), (hax.get (p := (pb, 41, ocs)) (by simp)).cell 2 (.slice Av val.length cv) (by rw [← HO.out.1]; rfl)⟩ ?_
        clear hK K
        generalize w20.alloc (.cells inoZ.toArray 47) = w21 at hax ⊢
        obtain ⟨qw, hqw⟩ : ∃ q, w20.heap.size = q := ⟨_, rfl⟩
        rw [hqw] at hax hlx ⊢
        have HA21 := Aside0.mk hax
        have HLW := Aside0.mk (And.intro hlx (show w.heap.size ≤ qw from hqw ▸ HA20.out.ge))
        clear hax hlx hqw
        try simp only [Act.put, stA, stZ, stS, i64_w, i32_w]
        refine inT_2 (by rfl) (by rfl) (fun K hK => ?_)
        have hs := HA21.out.setA (r := exR) (some ⟨g2, 0, none⟩) 48 48 nm Av cv val 2 0 HX.out.2.2 HT.out.1 HT.out.2 HV.out.1 HV.out.2.1 HV.out.2.2.1 HV.out.2.2.2 (by omega) (by decide) (by decide)
        obtain ⟨cs3, hcs3⟩ : ∃ cs, resC exR (.slice (some ⟨g2, 0, none⟩) 48 48) c2 = cs := ⟨_, rfl⟩
        have Hcs3 := Aside0.mk (And.intro hcs3 (by rw [← hcs3]; exact resC_ok exR _ _ _ _ : cs3.length = 15 ∧ cs3.toArray.all (·.oneCell') = true))
        rw [hcs3, show exR.cells (.slice (some ⟨g2, 0, none⟩) 48 48) = frC g2 from rfl] at hs
        clear hcs3
        have HS := Aside0.mk hs
        clear hs
        go_simp
        with_reducible refine HS.out.mono ?_
        rintro e w22 ⟨rfl, hax⟩
        have HA22 := Aside0.mk hax
        clear hax HS
        dsimp only
        refine hK _ _ ⟨(HA22.out.get (p := (pb, 41, ocs)) (by simp)).cell 1 (.string nm) (by rw [← HO.out.1]; rfl), (HA22.out.get (p := (pb, 41, ocs)) (by simp)).cell 2 (.slice Av val.length cv) (by rw [← HO.out.1]; rfl)⟩ ?_
        clear hK K
        try simp only [Act.put, stA, stZ, stS, i64_w, i32_w]
        iterate 3 (first
          | (refine inT_off0 (by rfl) (by rfl) ?_; simp only [Act.put, stA, stZ, stS, i64_w, i32_w])
          | (refine inT_off1 (by rfl) (by rfl) ?_; simp only [Act.put, stA, stZ, stS, i64_w, i32_w])
          | (refine inT_0 (v := ?_) (by rfl) (by rfl) rfl ?_ (a' := ?_) ?_ ?_; rotate_left; (intro w'; go_simp; with_reducible rfl); rotate_left; (simp only [Act.put, stA, stZ, stS, i64_w, i32_w]; rfl))
          | (refine inT_1 (v := ?_) (by rfl) (by rfl) rfl ?_ (a' := ?_) ?_ ?_; rotate_left; (rintro w' hs; go_split_ands; go_simp; with_reducible rfl); rotate_left; (simp only [Act.put, stA, stZ, stS, i64_w, i32_w]; rfl)))
        refine inT_2 (by rfl) (by rfl) (fun K hK => ?_)
        refine wp_store_row 47 _ _ rfl qw cs3.toArray rfl rfl 47 _ (HA22.out.get (p := (qw, 47, inoZ)) (by simp)) (infIno (Hcs3.out.2.1)) (by first | rfl | (rw [List.size_toArray, List.size_toArray, Hcs3.out.2.1]; rfl)) Hcs3.out.2.2 ?_
        have hax := HA22.out.put cs3 HLW.out.2 (fun p hp => Nat.ne_of_lt (HLW.out.1 p hp))
        refine hK _ _ ⟨(hax.get (p := (pb, 41, ocs)) (by simp)).cell 1 (.string nm) (by rw [← HO.out.1]; rfl), (hax.get (p := (pb, 41, ocs)) (by simp)).cell 2 (.slice Av val.length cv) (by rw [← HO.out.1]; rfl)⟩ ?_
        clear hK K
        try simp only [Act.put, stA, stZ, stS, i64_w, i32_w]
        exact tail g2 cs3 qw _ ⟨Hcs3.out.1, hax⟩
    · unfold Oper.wp execOp
      go_simp
      change K _ (wd.alloc (.cells inoZ.toArray 47))
      have hax := HD14.out.push 47 inoZ
      have hlx := HD14.out.lts
      refine hK _ _ ⟨(hax.get (p := (pb, 41, ocs)) (by simp)).cell 1 (.string nm) (by rw [← HO.out.1]; rfl), (hax.get (p := (pb, 41, ocs)) (by simp)).cell 2 (.slice Av val.length cv) (by rw [← HO.out.1]; rfl)⟩ ?_
      clear hK K
      generalize wd.alloc (.cells inoZ.toArray 47) = w20 at hax ⊢
      obtain ⟨qw, hqw⟩ : ∃ q, wd.heap.size = q := ⟨_, rfl⟩
      rw [hqw] at hax hlx ⊢
      have HA20 := Aside0.mk hax
      have HLW := Aside0.mk (And.intro hlx (show w.heap.size ≤ qw from hqw ▸ HD14.out.ge))
      clear hax hlx hqw
      try simp only [Act.put, stA, stZ, stS, i64_w, i32_w]
      refine inT_2 (by rfl) (by rfl) (fun K hK => ?_)
      go_simp
      with_reducible refine (fresh_calls _).mono ?_
      rintro e w21 ⟨g2, rfl, hb2⟩
      have HA21 := Aside0.mk (HA20.out.below hb2)
      clear hb2
      dsimp only
      refine hK _ _ ⟨(HA21.out.get (p := (pb, 41, ocs)) (by simp)).cell 1 (.string nm) (by rw [← HO.out.1]; rfl), (HA21.out.get (p := (pb, 41, ocs)) (by simp)).cell 2 (.slice Av val.length cv) (by rw [← HO.out.1]; rfl)⟩ ?_
      clear hK K
      try simp only [Act.put, stA, stZ, stS, i64_w, i32_w]
      refine inT_2 (by rfl) (by rfl) (fun K hK => ?_)
      have hs := HA21.out.setA (r := exR) (some ⟨g2, 0, none⟩) 48 48 nm Av cv val 2 0 HX.out.2.2 HT.out.1 HT.out.2 HV.out.1 HV.out.2.1 HV.out.2.2.1 HV.out.2.2.2 (by omega) (by decide) (by decide)
      obtain ⟨cs3, hcs3⟩ : ∃ cs, resC exR (.slice (some ⟨g2, 0, none⟩) 48 48) c2 = cs := ⟨_, rfl⟩
      have Hcs3 := Aside0.mk (And.intro hcs3 (by rw [← hcs3]; exact resC_ok exR _ _ _ _ : cs3.length = 15 ∧ cs3.toArray.all (·.oneCell') = true))
      rw [hcs3, show exR.cells (.slice (some ⟨g2, 0, none⟩) 48 48) = frC g2 from rfl] at hs
      clear hcs3
      have HS := Aside0.mk hs
      clear hs
      go_simp
      with_reducible refine HS.out.mono ?_
      rintro e w22 ⟨rfl, hax⟩
      have HA22 := Aside0.mk hax
      clear hax HS
      dsimp only
      refine hK _ _ ⟨(HA22.out.get (p := (pb, 41, ocs)) (by simp)).cell 1 (.string nm) (by rw [← HO.out.1]; rfl), (HA22.out.get (p := (pb, 41, ocs)) (by simp)).cell 2 (.slice Av val.length cv) (by rw [← HO.out.1]; rfl)⟩ ?_
      clear hK K
      try simp only [Act.put, stA, stZ, stS, i64_w, i32_w]
      iterate 3 (first
        | (refine inT_off0 (by rfl) (by rfl) ?_; simp only [Act.put, stA, stZ, stS, i64_w, i32_w])
        | (refine inT_off1 (by rfl) (by rfl) ?_; simp only [Act.put, stA, stZ, stS, i64_w, i32_w])
        | (refine inT_0 (v := ?_) (by rfl) (by rfl) rfl ?_ (a' := ?_) ?_ ?_; rotate_left; (intro w'; go_simp; with_reducible rfl); rotate_left; (simp only [Act.put, stA, stZ, stS, i64_w, i32_w]; rfl))
        | (refine inT_1 (v := ?_) (by rfl) (by rfl) rfl ?_ (a' := ?_) ?_ ?_; rotate_left; (rintro w' hs; go_split_ands; go_simp; with_reducible rfl); rotate_left; (simp only [Act.put, stA, stZ, stS, i64_w, i32_w]; rfl)))
      refine inT_2 (by rfl) (by rfl) (fun K hK => ?_)
      refine wp_store_row 47 _ _ rfl qw cs3.toArray rfl rfl 47 _ (HA22.out.get (p := (qw, 47, inoZ)) (by simp)) (infIno (Hcs3.out.2.1)) (by first | rfl | (rw [List.size_toArray, List.size_toArray, Hcs3.out.2.1]; rfl)) Hcs3.out.2.2 ?_
      have hax := HA22.out.put cs3 HLW.out.2 (fun p hp => Nat.ne_of_lt (HLW.out.1 p hp))
      refine hK _ _ ⟨(hax.get (p := (pb, 41, ocs)) (by simp)).cell 1 (.string nm) (by rw [← HO.out.1]; rfl), (hax.get (p := (pb, 41, ocs)) (by simp)).cell 2 (.slice Av val.length cv) (by rw [← HO.out.1]; rfl)⟩ ?_
      clear hK K
      try simp only [Act.put, stA, stZ, stS, i64_w, i32_w]
      exact tail g2 cs3 qw _ ⟨Hcs3.out.1, hax⟩
  case joinT =>
  rintro g2 cs3 qw w22 ⟨hcs3, hax⟩
  have Hcs3 := Aside0.mk (And.intro hcs3 (by rw [← hcs3]; exact resC_ok exR _ _ _ _ : cs3.length = 15 ∧ cs3.toArray.all (·.oneCell') = true))
  have HA22 := Aside0.mk hax
  clear hax hcs3 HD14
  iterate 1 (first
    | (refine inT_off0 (by rfl) (by rfl) ?_; simp only [Act.put, stA, stZ, stS, i64_w, i32_w])
    | (refine inT_off1 (by rfl) (by rfl) ?_; simp only [Act.put, stA, stZ, stS, i64_w, i32_w])
    | (refine inT_0 (v := ?_) (by rfl) (by rfl) rfl ?_ (a' := ?_) ?_ ?_; rotate_left; (intro w'; go_simp; with_reducible rfl); rotate_left; (simp only [Act.put, stA, stZ, stS, i64_w, i32_w]; rfl))
    | (refine inT_1 (v := ?_) (by rfl) (by rfl) rfl ?_ (a' := ?_) ?_ ?_; rotate_left; (rintro w' hs; go_split_ands; go_simp; with_reducible rfl); rotate_left; (simp only [Act.put, stA, stZ, stS, i64_w, i32_w]; rfl)))
  refine inT_stop ?_
  have HB := Aside0.mk (HA22.out.elim fun D h => h.2.2.1)
  rcases hcc with ⟨rfl, rfl⟩ | ⟨rfl, rfl⟩ | ⟨rfl, rfl⟩
  all_goals
    go_wp2
    go_ret
    exact ⟨rfl, HB.out⟩
theorem refused_is (nm : ByteArray) (val : List Int) : refused nm val = 34 ∨ refused nm val = 22 ∨ setOk nm val := by
  unfold refused setOk
  by_cases h1 : 64 < val.length
  · rw [if_pos h1]; exact .inl rfl
  · rw [if_neg h1]
    by_cases h2 : namedB nm = false
    · rw [if_pos h2]; exact .inr (.inl rfl)
    · exact .inr (.inr ⟨by simpa using h2, h1⟩)
theorem exHist : exS.hist.length = 0 := rfl
theorem how_calls (what how goal : Int) (nm : ByteArray) (Av : Option Addr) (cv : Nat) (val : List Int) (first : Bool) (w : World) (hT : Tab w) (hv : Kd.C (Kd.int .u8) w Av val.length val) (hvn : Av = none → cv = 0) (hvD : ∀ ad, Av = some ad → ad.block < w.heap.size) (hvb : allB val) :
    Calls Tryz.prog 6 #[.agg #[.int .i64 what, .string nm, .slice Av val.length cv, .int .i64 how, .int .i64 goal], .bool first] w fun e w' => e = .returned (.bool true) ∧ Below w.heap.size w w' := by
  cases first with
  | false =>
    rcases refused_is nm val with h | h | h
    · have h0 : refused nm val ≠ 0 := by rw [h]; decide
      exact how_none what how goal nm Av cv val w hT hv hvn hvD hvb (c0 := 0) trivial (setNo exList0 h0) (setNo exList0 h0) (by rw [exHist]; omega) trivial (by rw [h]; exact .inr (.inl ⟨rfl, rfl⟩))
    · have h0 : refused nm val ≠ 0 := by rw [h]; decide
      exact how_none what how goal nm Av cv val w hT hv hvn hvD hvb (c0 := 0) trivial (setNo exList0 h0) (setNo exList0 h0) (by rw [exHist]; omega) trivial (by rw [h]; exact .inr (.inr ⟨rfl, rfl⟩))
    · obtain ⟨t, ht, _, _, hl⟩ := setFirst exSt0 h (.inr rfl)
      exact how_none what how goal nm Av cv val w hT hv hvn hvD hvb (c0 := 0) trivial ht (setNone h) (by rw [hl, exHist]; omega) trivial (.inl ⟨rfl, rfl⟩)
  | true =>
    rcases refused_is nm [] with h | h | h
    · exfalso
      unfold refused at h
      rw [if_neg (by simp)] at h
      split at h <;> cases h
    · have h0 : refused nm [] ≠ 0 := by rw [h]; decide
      have hn : namedB nm = false := by
        unfold refused at h
        rw [if_neg (by simp)] at h
        split at h
        · assumption
        · cases h
      have h1 : refused nm val = 34 ∨ refused nm val = 22 := by
        rcases refused_is nm val with h1 | h1 | h1
        · exact .inl h1
        · exact .inr h1
        · have := h1.1; rw [hn] at this; cases this
      have h2 : refused nm val ≠ 0 := by rcases h1 with h1 | h1 <;> rw [h1] <;> decide
      exact how_first what how goal nm Av cv val w hT hv hvn hvD hvb (setNo exList0 h0) (setNo exList0 h2) (setNo exList0 h2) (by rw [exHist]; omega) h (h1.elim (fun h1 => (by rw [h1]; exact .inr (.inl ⟨rfl, rfl⟩))) (fun h1 => (by rw [h1]; exact .inr (.inr ⟨rfl, rfl⟩))))
    · obtain ⟨t, ht, hx, hb, hl⟩ := setFirst exSt0 h (.inl rfl)
      have hh : t.hist.length ≤ 1000 := by rw [hl, exHist]; omega
      by_cases hlen : 64 < val.length
      · have hr : refused nm val = 34 := by unfold refused; rw [if_pos hlen]
        have h2 : refused nm val ≠ 0 := by rw [hr]; decide
        have hl2 := exList (s := t) hb (pack_one h) (by simp)
        exact how_had what how goal nm Av cv val w hT hv hvn hvD hvb ht (setNo hl2 h2) (setNo hl2 h2) hh (by rw [hr]; exact .inr ⟨rfl, rfl⟩)
      · have ho : setOk nm val := ⟨h.1, hlen⟩
        exact how_had what how goal nm Av cv val w hT hv hvn hvD hvb ht (setThere h hb ho) (setAgain h hb ho) hh (.inl ⟨rfl, rfl⟩)
end Go.Proofs.YtkmhilhfmfmckaaGreatDoor.Hand
namespace Go.Proofs.YtkmhilhfmfmckaaGreatDoor.Hand
set_option linter.unusedSimpArgs false
set_option linter.unusedVariables false
set_option maxRecDepth 10000
open Go Go.RowKit Go.ChangeShapes Go.WideShapes Go.ChangeAt Go.Proofs.YtkmhilhfmfmckaaGreatDoorW.PrintWords Go.Proofs.YtkmhilhfmfmckaaGreatDoorW.PrintLast Go.Proofs.YtkmhilhfmfmckaaGreatDoorW.PrintMore
theorem tyOp : Tryz.prog.cellTypes Tryz.prog.depth 41 = some [3, 9, 23, 3, 3] := by kernel_rfl
theorem sizeOp : Tryz.prog.cellsOf 41 = 5 := by kernel_rfl
theorem cellsSl : Tryz.prog.cellsOf 23 = 1 := by kernel_rfl
theorem cell_int {P : Program} {t : TypeId} {W : World} {r : Reach} {base : Nat} {v : Value} (ht : P.underlying t = some (.int .i64)) (h : Cell.okWide P W r base t v) : ∃ n, v = .int .i64 n := by
  simp only [Cell.okWide, ht] at h
  cases v <;> simp_all [Cell.ok]
theorem cell_str {P : Program} {t : TypeId} {W : World} {r : Reach} {base : Nat} {v : Value} (ht : P.underlying t = some .string) (h : Cell.okWide P W r base t v) : ∃ s, v = .string s := by
  simp only [Cell.okWide, ht] at h
  cases v <;> simp_all [Cell.ok]
theorem cell_sl {P : Program} {t e : TypeId} {W : World} {r : Reach} {base : Nat} {v : Value} (ht : P.underlying t = some (.slice e)) (h : Cell.okWide P W r base t v) : v = .slice none 0 0 ∨ ∃ a n c, v = .slice (some a) n c ∧ a.block < W.heap.size := by
  simp only [Cell.okWide, ht, Cell.ok] at h
  cases v with
  | slice a n c =>
    cases a with
    | none =>
      cases n with
      | zero => cases c with
        | zero => exact .inl rfl
        | succ c => exact h.elim
      | succ n => exact h.elim
    | some a =>
      obtain ⟨_, _, h2⟩ := h
      obtain ⟨_, _, row, cells, h3, _⟩ := h2
      refine .inr ⟨a, n, c, rfl, ?_⟩
      unfold World.shape? at h3
      cases hh : W.heap[a.block]? with
      | none => rw [hh] at h3; cases h3
      | some o => exact (Array.getElem?_eq_some_iff.1 hh).1
  | _ => exact h.elim
theorem okWide_struct {P : Program} {t : TypeId} {fs : Array Field} {W : World} {r : Reach} {base : Nat} {v : Value} (ht : P.underlying t = some (.struct fs)) (h : Value.okWide P W r base t v) : ∃ cs, v = .agg cs ∧ cs.size = P.cellsOf t ∧ Row.okWide P W r base t cs := by
  simp only [Value.okWide, ht] at h
  exact h
theorem open_op {H : Type} {enc : TypeId × Value → H} {W : World} {base : Nat} {v : Value} {d : DataW H} {p : List MemPlace} (hv : Value.okWide Tryz.prog W .any base 41 v) (h : DataW.Trod enc Tryz.prog W 0 (fun _ => true) true 41 v d p) :
    ∃ (what how goal : Int) (nm : ByteArray) (Av : Option Addr) (cv : Nat) (val : List Int), v = .agg #[.int .i64 what, .string nm, .slice Av val.length cv, .int .i64 how, .int .i64 goal] ∧ Kd.C (Kd.int .u8) W Av val.length val ∧ (Av = none → cv = 0) ∧ (∀ ad, Av = some ad → ad.block < W.heap.size) ∧ allB val := by
  obtain ⟨cs, rfl, hsz, ts, hts, _, hc⟩ := okWide_struct Tryz.underlying41 hv
  obtain rfl := Option.some.inj (tyOp.symm.trans hts)
  replace hsz := hsz.trans sizeOp
  obtain ⟨l⟩ := cs
  match l, hsz with
  | [c0, c1, c2, c3, c4], _ =>
    have key : ∀ (i : Nat) (u : TypeId) (x : Value), [3, 9, 23, 3, 3][i % 5]? = some u → [c0, c1, c2, c3, c4][i]? = some x → Cell.okWide Tryz.prog W .any base u x := fun i u x hu hx => by
      obtain ⟨u', hu', hok⟩ := hc i x (by simpa using hx)
      have : u = u' := Option.some.inj (hu.symm.trans hu')
      exact this ▸ hok
    obtain ⟨what, rfl⟩ := cell_int Tryz.underlying3 (key 0 _ _ rfl rfl)
    obtain ⟨nm, rfl⟩ := cell_str Tryz.underlying9 (key 1 _ _ rfl rfl)
    obtain ⟨how, rfl⟩ := cell_int Tryz.underlying3 (key 3 _ _ rfl rfl)
    obtain ⟨goal, rfl⟩ := cell_int Tryz.underlying3 (key 4 _ _ rfl rfl)
    have hsl := cell_sl Tryz.underlying23 (key 2 _ _ rfl rfl)
    obtain ⟨fuel, hf⟩ := h
    obtain ⟨xs, n, _, _, _, _, hfl⟩ := DataW.trod_struct Tryz.underlying41 hf
    have h2 : DataW.trod enc Tryz.prog W 0 (fun _ => true) true n 23 (([.int .i64 what, .string nm, c2, .int .i64 how, .int .i64 goal] : List Value).drop 2 |>.take (Tryz.prog.cellsOf 23)) = xs[2]? := hfl 2 _ rfl
    rw [cellsSl] at h2
    replace h2 : DataW.trod enc Tryz.prog W 0 (fun _ => true) true n 23 [c2] = xs[2]? := h2
    have hrow : (∃ y, xs[2]? = some y) := by
      have : xs.length = 5 := by assumption
      exact ⟨_, List.getElem?_eq_getElem (by omega)⟩
    obtain ⟨y, hy⟩ := hrow
    rw [hy] at h2
    rcases open_ints Tryz.underlying23 Tryz.underlying5 (by kernel_rfl) h2 with ⟨hcs, _⟩ | ⟨x, l, c, zs, hcs, _, hl, hm, hz, _, hcell, hwz⟩
    · obtain rfl := List.cons.inj hcs |>.1
      exact ⟨what, how, goal, nm, none, 0, [], rfl, C_int_nil _ _ _, fun _ => rfl, (fun ad e => nomatch e), (fun x hx => nomatch hx)⟩
    · obtain rfl := List.cons.inj hcs |>.1
      obtain ⟨l', hl', hr, hm', hw, hc'⟩ := ReadsInt.ofRowC (w := W) (k := .u8) (.inr ⟨x, rfl, hl, hm, by simpa using hz, hcell, hwz⟩)
      subst hl'
      refine ⟨what, how, goal, nm, some x, c, l', rfl, Kd.C_of_reads (d := (0 : Int)) (h1 := fun _ => rfl) hr, (fun e => nomatch e), ?_, fun z hz => ?_⟩
      · intro ad e
        cases e
        rcases hsl with h0 | ⟨a, _, _, h0, h1⟩
        · cases h0
        · cases h0; exact h1
      · have := hw z hz
        simp [Lit.wf, IntKind.min, IntKind.max, IntKind.bits, IntKind.signed] at this
        omega
end Go.Proofs.YtkmhilhfmfmckaaGreatDoor.Hand
namespace Go.Proofs.YtkmhilhfmfmckaaGreatDoor.Hand
set_option maxRecDepth 100000
open Go Go.RowKit
def laidL : List (String × DataW Unit) := [("math/bits.deBruijn32tab", Rows.laid_math_bits_deBruijn32tab), ("math/bits.deBruijn64tab", Rows.laid_math_bits_deBruijn64tab)]
theorem g64 : Tryz.prog.globalNamed "math/bits.deBruijn64tab" = some 2 := by kernel_rfl
theorem t64 : (Tryz.prog.globals[2]?).map (·.type) = some 236 := by kernel_rfl
theorem e64 : ∃ e, Tryz.prog.underlying 236 = some (.array 64 e) ∧ Tryz.prog.underlying e = some (.int .u8) ∧ Tryz.prog.cellsOf e = 1 := ⟨5, by kernel_rfl, by kernel_rfl, by kernel_rfl⟩
theorem tab_data {H : Type} : (Rows.laid_math_bits_deBruijn64tab : DataW H) = Go.Lib.tabData .u8 (List.map (fun (n : Nat) => (n : Int)) Go.Lib.deBruijn64tab) := rfl
theorem tab_of_laid {W : World} (h : laidMetH Tryz.prog laidL W) : Tab W := by
  rw [MakeChecks.laidMetH_plain _ _ _ (by kernel_rfl)] at h
  have h2 := laidMet.tail (show laidMet Tryz.prog (("math/bits.deBruijn32tab", Rows.laid_math_bits_deBruijn32tab) :: [("math/bits.deBruijn64tab", Rows.laid_math_bits_deBruijn64tab)]) W from h)
  rw [tab_data] at h2
  obtain ⟨e, he, he1, he2⟩ := e64
  have ht := Go.Lib.tabIs_of_head g64 t64 he he1 he2 (by kernel_rfl) h2
  intro i hi
  have := ht.cell g64 i (by simpa [Go.Lib.deBruijn64tab] using hi)
  rw [this]
  congr 1
  simp only [List.getD_eq_getElem?_getD, List.getElem?_map]
  cases Go.Lib.deBruijn64tab[i]? <;> rfl
theorem door_met (os : Os) (args : Array Value) : laidMetH Tryz.prog laidL ((World.doorLaid Tryz.prog 19 os).forCall (fun _ _ => 0) ⟨#[], args, []⟩).memory :=
  laidMetH_of_parts3 (fuel := 8) (laidMet_of_run' 65 (by kernel_rfl) (by kernel_rfl)) (by kernel_rfl) (by kernel_rfl)
end Go.Proofs.YtkmhilhfmfmckaaGreatDoor.Hand
