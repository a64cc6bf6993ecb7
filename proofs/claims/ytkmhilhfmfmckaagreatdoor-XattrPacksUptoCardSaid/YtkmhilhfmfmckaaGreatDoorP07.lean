/- Own texts and printed words of the kit, put together and trimmed by a program of mine (merge.py). -/
import Derived.Test.YtkmhilhfmfmckaaGreatDoorP06
import Derived.Lib.ConvBytes
import Derived.Lib.SliceRun
namespace Go.Proofs.YtkmhilhfmfmckaaGreatDoor.Hand
set_option linter.unusedSimpArgs false
set_option linter.unusedVariables false
open Go.Shelf Go.RowKit Go.Proofs.YtkmhilhfmfmckaaGreatDoorW.PrintWords Go.Proofs.YtkmhilhfmfmckaaGreatDoorW.PrintLast Go.Proofs.YtkmhilhfmfmckaaGreatDoorW.PrintMore
theorem conv_bytes (w : World) (s : ByteArray) (hm : s.size ≤ 1000000000) : ∃ c w1, (convert 9 23 (.string s)).run Tryz.prog w = .ok (.slice (some ⟨w.heap.size, 0, none⟩) (bytesOf s).length c) w1 ∧ Below w.heap.size w w1 ∧ Kd.C (Kd.int .u8) w1 (some ⟨w.heap.size, 0, none⟩) (bytesOf s).length (bytesOf s) := by
  have hl : (bytesOf s).length = s.size := bytesOf_length s
  refine ⟨grownCap w s.size 0 5, Lib.bytesWorld w 5 s, ?_, ⟨?_, ?_, ?_, ?_, fun k hk => Lib.bytesWorld_at_old w 5 s k hk⟩, ?_⟩
  · rw [hl]
    exact Lib.run_convert_string_bytes w 9 23 5 s (u := .string) (by kernel_rfl) (by kernel_rfl) (by kernel_rfl)
  · simp [Lib.bytesWorld, World.freeze, World.alloc, World.drew, -World.alloc_eq, -World.drew_eq]
  · simp [Lib.bytesWorld, World.freeze, World.alloc, World.drew, -World.alloc_eq, -World.drew_eq]
  · simp [Lib.bytesWorld, World.freeze, World.alloc, World.drew, -World.alloc_eq, -World.drew_eq]
  · rw [Lib.bytesWorld_size]; omega
  · refine C_int_mk (by omega) (fun j hj => ?_)
    have h := Lib.bytesWorld_cell w 5 s j (by omega)
    rw [add_plain]
    rw [h]
    congr 2
    unfold Go.Proofs.YtkmhilhfmfmckaaGreatDoorW.PrintWords.bytesOf
    simp [List.getD_eq_getElem?_getD, show j < s.size by omega]
theorem allB_atts (l : List Att) (h : ∀ j, j < l.length → allB (attAt l j).val) : allB (attsB l) := by
  unfold attsB
  refine allB_append (fun y hy => ?_) (fun y hy => ?_)
  · simp only [List.mem_cons, List.not_mem_nil, or_false] at hy
    rcases hy with rfl | rfl <;> omega
  · obtain ⟨x, hx, hy⟩ := List.mem_flatMap.1 hy
    obtain ⟨j, hj, rfl⟩ := List.getElem_of_mem hx
    refine allB_attB ?_ y hy
    have := h j hj
    simpa [attAt, List.getD_eq_getElem?_getD, hj] using this
set_option maxHeartbeats 16000000 in
set_option maxRecDepth 100000 in
theorem rxpack_calls (A : Option Addr) (c : Nat) (s : Int) (l : List Att) (w : World) (hl : Atts w A l) (hc : l.length ≤ c) (hn : l.length ≤ 2000000) (hs0 : 0 ≤ s) (hs1 : s < 4294967296) (hab : ∀ j, j < l.length → allB (attAt l j).val) :
    Calls Tryz.prog 12 #[.slice A l.length c, .int .u32 s] w (BytesPost (xpackI l s) w) := by
  have HL := Aside0.mk hl
  have HQB := Aside0.mk (allB_atts l hab)
  clear hl hab
  obtain ⟨n, hnn⟩ : ∃ n, l.length = n := ⟨_, rfl⟩
  have HN := Aside0.mk hnn
  rw [hnn] at hn hc
  obtain ⟨r, hr⟩ : ∃ r, xpackI l s = r := ⟨_, rfl⟩
  have hbad : ∀ k, k < n → ¬ attOk l k → r = ([], 22) := fun k hk h => by rw [← hr]; exact attOk_not (by rw [hnn]; exact hk) h s
  have hgood : (∀ j, j < n → attOk l j) → r = if 250 < attN l then ([], 28) else (sealL (pad (attsB l)) s, 0) := fun h => by
    have hall : attsOk l := fun j hj => h j (by rw [← hnn]; exact hj)
    rw [← hr]
    unfold xpackI
    rw [if_pos hall]
  have HBAD := Aside0.mk hbad
  have HGOOD := Aside0.mk hgood
  have HBN := Aside0.mk (show attsB l = [3, (n : Int) % 256] ++ l.flatMap attB by unfold attsB; rw [hnn])
  rw [hr, hnn]
  have HB0 := Aside0.mk (Below.refl w.heap.size w)
  clear hr hbad hgood hnn
  go_enter Tryz.func12, Tryz.ntmps12
  go_wp2
  go_loopg [6] n (fun g v6 wr => ∃ k : Nat, k + g = n ∧ v6 = .int .i64 k ∧ Aside0 (Below w.heap.size w wr) ∧ Aside0 (∀ j, j < k → attOk l j))
  case atStart => exact ⟨0, by omega, rfl, HB0, ⟨fun j hj => by omega⟩⟩
  case round =>
    obtain ⟨k, hk, rfl, HB, HK⟩ := hrel
    cases gk with
    | zero =>
      have hkn : k = n := by omega
      subst hkn
      have hgd := HGOOD.out HK.out
      have hsz := rsize_calls A c l wr (HL.out.below HB.out) (by rw [HN.out]; exact hc) (by rw [HN.out]; exact hn) (fun j hj => HK.out j (by rw [← HN.out]; exact hj))
      rw [HN.out] at hsz
      obtain ⟨y, hy⟩ : ∃ y, attN l = y := ⟨_, rfl⟩
      rw [hy] at hgd hsz
      have HSZ := Aside0.mk hsz
      have HGD := Aside0.mk hgd
      have HY := Aside0.mk hy
      clear hgd hsz hy
      by_cases h250 : 250 < y
      · have h250i : (250 : Int) < (y : Int) := by omega
        have hr := HGD.out
        rw [if_pos h250] at hr
        have HR := Aside0.mk hr
        clear hr
        go_wp2_with fail
        refine HSZ.out.mono ?_
        rintro e w1 ⟨rfl, hb1⟩
        have HB1 := Aside0.mk (below_then HB.out HB.out.size hb1)
        clear hb1
        dsimp only
        go_wp2
        go_ret2
        exact bytesPost_bad (by rw [HR.out]) (by decide) rfl HB1.out
      · have h250i : ¬ (250 : Int) < (y : Int) := by omega
        have hr := HGD.out
        rw [if_neg h250] at hr
        have HR := Aside0.mk hr
        clear hr
        go_wp2_with fail
        refine HSZ.out.mono ?_
        rintro e w1 ⟨rfl, hb1⟩
        have HB1 := Aside0.mk (below_then HB.out HB.out.size hb1)
        clear hb1
        dsimp only
        go_upto_region 9 with fail
        have hr1 : RowX (w1.alloc (.cells #[.int .u8 3, .int .u8 ((k : Int) % 256)] 5)) .u8 w1.heap.size 5 [3, (k : Int) % 256] := alloc_last _ _
        have ho1 := own_of_row (n := 2) (base := w1.heap.size) hr1 rfl (Nat.le_refl _) (by simp [maxLen])
        have HO1 := Aside0.mk ho1
        have HB2 := Aside0.mk (below_alloc HB1.out (.cells #[.int .u8 3, .int .u8 ((k : Int) % 256)] 5))
        clear hr1 ho1
        generalize w1.alloc (.cells #[.int .u8 3, .int .u8 ((k : Int) % 256)] 5) = w2 at HO1 HB2 ⊢
        obtain ⟨g1, hg1⟩ : ∃ q, w1.heap.size = q := ⟨_, rfl⟩
        rw [hg1] at HO1 ⊢
        have HG1 := Aside0.mk (show w.heap.size ≤ g1 from hg1 ▸ HB1.out.size)
        have HG2 := Aside0.mk (show g1 ≤ w2.heap.size from Nat.le_of_lt (own_lt HO1.out g1 rfl))
        clear hg1
        go_wp2
        go_loopg [7, 8] k (fun gg v7 v8 wr => ∃ j : Nat, j + gg = k ∧ v8 = .int .i64 j ∧ Aside0 (Own wr g1 5 .u8 v7 ([3, (k : Int) % 256] ++ (l.take j).flatMap attB)) ∧ Aside0 (Below w.heap.size w wr) ∧ Aside0 (g1 ≤ wr.heap.size))
        case atStart => exact ⟨0, by omega, rfl, ⟨by simpa using HO1.out⟩, HB2, HG2⟩
        case round =>
          obtain ⟨j, hj, rfl, HO, HBr, HGr⟩ := hrel
          cases gk with
          | zero =>
            have hjk : j = k := by omega
            subst hjk
            obtain ⟨wz, rfl⟩ : ∃ wz, wz = wr := ⟨_, rfl⟩
            have htk : l.take j = l := by rw [← HN.out, List.take_length]
            rw [htk] at HO
            have hr := HGD.out
            rw [if_neg h250] at hr
            have hlen : ([3, (j : Int) % 256] ++ l.flatMap attB).length = 2 + y := by
              have h2 := HY.out
              unfold attN at h2
              simp only [List.length_append, List.length_cons, List.length_nil, h2]
            have hqb := HQB.out
            rw [HBN.out] at hqb hr
            obtain ⟨q, hq⟩ : ∃ q, [3, (j : Int) % 256] ++ l.flatMap attB = q := ⟨_, rfl⟩
            rw [hq] at HO hlen hqb hr
            have HR := Aside0.mk hr
            have HQB2 := Aside0.mk hqb
            obtain ⟨A', c', rfl, hcc, hCC⟩ := HO.out.reads
            have HCC := Aside0.mk hCC
            have hq256 : q.length ≤ 252 := by omega
            obtain ⟨ql, hql⟩ : ∃ ql, q.length = ql := ⟨_, rfl⟩
            rw [hql] at hcc hq256 ⊢
            have HQL := Aside0.mk hql
            have hmk : ∀ w : World, (Instr.makeSlice 23 (.int .i64 256) (.int .i64 256)).run Tryz.prog w = .ok (.slice (some ⟨w.heap.size, 0, none⟩) 256 256) (noughts w) := make256
            have HNN := Aside0.mk (show Row (noughts wz) .u8 wz.heap.size 5 (pad (q.take 0)) from row_last _ _ _ _)
            have HBB := Aside0.mk (show Below wz.heap.size wz (noughts wz) from below_alloc (Below.refl _ _) _)
            obtain ⟨g2, hg2⟩ : ∃ g2, wz.heap.size = g2 := ⟨_, rfl⟩
            have HG2' := Aside0.mk hg2
            rw [hg2] at HNN
            have hgw : w.heap.size ≤ g2 := by rw [← hg2]; exact HBr.out.size
            have hpl : ∀ j, (pad (q.take j)).length = 256 := fun j => pad_length _ (by rw [List.length_take]; omega)
            have HPL := Aside0.mk hpl
            clear hr hq hqb htk hCC hlen hpl hql hg2
            go_wp2
            rw [HG2'.out]
            go_loopg [10] ql (fun gg v10 wr => ∃ i : Nat, i + gg = ql ∧ v10 = .int .i64 i ∧ Aside0 (Row wr .u8 g2 5 (pad (q.take i))) ∧ Aside0 (Below wz.heap.size wz wr))
            case atStart => exact ⟨0, by omega, rfl, HNN, HBB⟩
            case round =>
              obtain ⟨i, hi, rfl, HRi, HBi⟩ := hrel
              cases gk with
              | zero =>
                obtain rfl : i = ql := by omega
                have htq : q.take i = q := List.take_of_length_le (Nat.le_of_eq HQL.out)
                rw [htq] at HRi
                have hp := HPL.out i
                rw [htq] at hp
                have hsc := rseal_calls g2 252 256 s wr (pad q) HRi.out hp (by omega) (by omega) hs0 hs1 (allB_pad HQB2.out)
                have HSC := Aside0.mk hsc
                have HSL := Aside0.mk (show (sealL (pad q) s).length = 256 by unfold sealL; rw [layL_length]; exact hp)
                clear hsc hp htq
                go_wp2_with fail
                refine HSC.out.mono ?_
                rintro e w6 ⟨rfl, hr6, hm6⟩
                have HR6 := Aside0.mk hr6
                have HB6 := Aside0.mk (below_mod (below_then HBr.out HBr.out.size HBi.out) hm6 hgw)
                clear hr6 hm6
                dsimp only
                go_wp2
                go_ret2
                rw [HR.out]
                exact ⟨_, rfl, HB6.out, fun _ => ⟨g2, 256, by rw [HSL.out]; rfl, hgw, by rw [HSL.out]; omega, HR6.out⟩, fun h => absurd rfl h⟩
              | succ gg =>
                have hiq : i < ql := by omega
                obtain ⟨ad2, e2, hci⟩ := C_int_at (Kd.C_below HCC.out HBi.out) i (by rw [HQL.out]; exact hiq)
                subst e2
                have hli : (q.take i).length = i := by rw [List.length_take, HQL.out]; omega
                have hgi := HRi.out.cell i (by rw [HPL.out]; omega)
                have hzi := HRi.out.free i
                have hri := row_pad HRi.out i (q.getD i 0) hli.symm (by omega)
                have hsn : q.take i ++ [q.getD i 0] = q.take (i + 1) := by
                  rw [List.take_succ_eq_append_getElem (by rw [HQL.out]; exact hiq)]
                  simp [List.getD_eq_getElem?_getD, show i < q.length by rw [HQL.out]; exact hiq]
                rw [hsn] at hri
                obtain ⟨xb, hxb⟩ : ∃ xb, q.getD i 0 = xb := ⟨_, rfl⟩
                rw [hxb] at hri hci
                have HRI := Aside0.mk hri
                have HBI := Aside0.mk (below_set_new (g := g2) HBi.out (Nat.le_of_eq HG2'.out) i (.int .u8 xb))
                have i1 : (i : Int) < (ql : Int) := by omega
                clear hri hsn hli hxb
                go_wp2
                go_roundg gg
                case measure => omega
                case rel => exact ⟨i + 1, by omega, by go_num, HRI, HBI⟩
          | succ gg =>
            have hjk : j < k := by omega
            obtain ⟨ad, Av, cv, rfl, h1, h2, h3, h4, h5⟩ := HL.out.cells j (by rw [HN.out]; exact hjk)
            replace h1 := pw_cell_below HBr.out h1
            replace h2 := pw_cell_below HBr.out h2
            have i1 : (j : Int) < (k : Int) := by omega
            have hbd : Below wr.heap.size wr wr.drew := (Below.refl _ _).drew
            obtain ⟨x, hx⟩ : ∃ x, attAt l j = x := ⟨_, rfl⟩
            rw [hx] at h1 h2 h3 h4
            obtain ⟨nm, vl⟩ := x
            dsimp only at h1 h2 h3 h4
            obtain ⟨m, hm⟩ : ∃ m, vl.length = m := ⟨_, rfl⟩
            rw [hm] at h2
            go_upto_region 12 with fail
            refine wp_region_in [0, 0, 0, 0, 0, 1, 0, 0, 0, 0, 0, 0, 1, 0, 0, 2, 3, 0] [16] (fun w' => w'.cell? (ad.add (j * 2)) = some (.string nm) ∧ w'.cell? ⟨(ad.add (j * 2)).block, (ad.add (j * 2)).off + 1, none⟩ = some (.slice Av m cv)) (by kernel_rfl) rfl (by kernel_rfl) (fun _ _ _ _ h => h) ⟨pw_cell_below hbd h1, pw_cell_below hbd h2⟩ ?_
            iterate 15 (first
              | (refine in_off0 (by rfl) ?_; simp only [Act.put, stA, stZ, stS, i64_w, i32_w])
              | (refine in_off1 (by rfl) ?_; simp only [Act.put, stA, stZ, stS, i64_w, i32_w])
              | (refine in_0 (v := ?_) (by rfl) rfl ?_ (a' := ?_) ?_ ?_; rotate_left; (intro w'; go_simp; with_reducible rfl); rotate_left; (simp only [Act.put, stA, stZ, stS, i64_w, i32_w]; rfl))
              | (refine in_1 (v := ?_) (by rfl) rfl ?_ (a' := ?_) ?_ ?_; rotate_left; (rintro w' hs; go_split_ands; go_simp; with_reducible rfl); rotate_left; (simp only [Act.put, stA, stZ, stS, i64_w, i32_w]; rfl)))
            refine in_2 (by rfl) (fun K hK => ?_)
            go_simp
            have hb10 : Below wr.heap.size wr (wr.alloc (.cells #[.int .u8 (IntKind.u8.wrap (nm.size : Int)), .int .u8 (IntKind.u8.wrap (m : Int))] 5)).drew := (below_alloc (Below.refl _ _) _).drew
            have hn1 := cell_alloc wr #[.int .u8 (IntKind.u8.wrap (nm.size : Int)), .int .u8 (IntKind.u8.wrap (m : Int))] 5
            refine hK _ _ ⟨pw_cell_below hb10 h1, pw_cell_below hb10 h2⟩ ?_
            clear hK K
            try simp only [Act.put, stA, stZ, stS, i64_w, i32_w]
            refine in_3 (by rfl) (fun K hK => ?_)
            obtain ⟨i0, hi, hz0, hz1, hz2⟩ := info_parts infoU8
            obtain ⟨xs, hxs⟩ : ∃ xs, [3, (k : Int) % 256] ++ (l.take j).flatMap attB = xs := ⟨_, rfl⟩
            rw [hxs] at HO
            have hxl : xs.length ≤ 1000 := by
              have h98 := attN_part l j
              rw [HY.out] at h98
              unfold attN at h98
              rw [← hxs, List.length_append]
              simp only [List.length_cons, List.length_nil]
              omega
            have hown := HO.out.below hb10
            have hbw := below_then HBr.out HBr.out.size hb10
            have hg10 : g1 ≤ (wr.alloc (.cells #[.int .u8 (IntKind.u8.wrap (nm.size : Int)), .int .u8 (IntKind.u8.wrap (m : Int))] 5)).drew.heap.size := Nat.le_trans HGr.out hb10.size
            refine wp_append_own _ (.tmp 64) (.tmp 79) 23 rfl g1 5 i0 (.int .u8 0) 1 1 Tryz.underlying23 hi hz0 hz1 hz2 rfl (by decide) u7 xs.length (nums .u8 xs) rfl hown ⟨wr.heap.size, 0, none⟩ 2 2 [.int .u8 (IntKind.u8.wrap (nm.size : Int)), .int .u8 (IntKind.u8.wrap (m : Int))] rfl rfl ?c1 ?c2 (by simp only [maxLen]; omega) (by omega) hg10 ?_
            case c1 =>
              intro i u hi
              rw [add_plain]
              exact pw_cell_below ((Below.refl _ _).drew) (hn1 i u (by simpa using hi))
            case c2 => simp [Value.oneCell']
            intro v' w' q2 q3 _
            have HO12 := Aside0.mk (show Own w' g1 5 .u8 v' (xs ++ [IntKind.u8.wrap (nm.size : Int), IntKind.u8.wrap (m : Int)]) from own_snoc q2 rfl rfl)
            have HB12 := Aside0.mk (pw_below_grown hbw _ hbw.size q3 (fun g' hg' => Nat.le_trans HG1.out (own_base hown g' hg')))
            have HG12 := Aside0.mk (show g1 ≤ w'.heap.size from Nat.le_trans hg10 q3.size)
            refine hK _ _ ?_
            clear hK K q2 q3 hown hbw hb10 hn1 hg10
            try simp only [Act.put, stA, stZ, stS, i64_w, i32_w]
            refine out_0 (v := ?_) (by rfl) rfl ?_ (a' := ?_) ?_ ?_
            rotate_left
            · intro w'
              go_simp
              with_reducible rfl
            rotate_left
            · simp only [Act.put, stA, stZ, stS, i64_w, i32_w]
              rfl
            refine out_nil ?_
            have hok := HK.out j hjk
            have hnz := named_size hok.1
            have hvz := hok.2.1
            rw [hx] at hnz hvz
            dsimp only at hnz hvz
            have HNZ := Aside0.mk (show nm.size ≤ 32 ∧ m ≤ 64 by omega)
            obtain ⟨ad', Av', cv', e', n1, n2, n3, n4, n5⟩ := (HL.out.below HB12.out).cells j (by rw [HN.out]; exact hjk)
            cases e'
            rw [hx] at n1 n2 n3 n4
            dsimp only at n1 n2 n3 n4
            obtain ⟨c13, w13, hcv, hb13, hc13⟩ := conv_bytes w' nm (by have := HNZ.out; omega)
            have HC13 := Aside0.mk hc13
            have HB13 := Aside0.mk (below_then HB12.out HB12.out.size hb13)
            have HO13 := Aside0.mk (HO12.out.below hb13)
            have HX := Aside0.mk (And.intro hx hm)
            have HXS := Aside0.mk hxs
            have HG13 := Aside0.mk (show g1 ≤ w13.heap.size from Nat.le_trans HG12.out hb13.size)
            obtain ⟨lx, hlx⟩ : ∃ lx, (bytesOf nm).length = lx := ⟨_, rfl⟩
            have HLX := Aside0.mk hlx
            rw [hlx] at hcv
            clear h1 h2 h3 h4 h5 n2 n3 n4 n5 hok hnz hvz hc13 hb13 hx hm hxs hlx
            go_upto_region 13 with fail
            refine wp_region_lit ?_
            refine wpList_plain rfl fun K hK => ?_
            unfold Oper.wp execOp
            go_simp
            refine hK _ _ ?_
            clear hK K
            refine wpList_plain rfl fun K hK => ?_
            unfold Oper.wp execOp
            go_simp
            refine hK _ _ ?_
            clear hK K
            refine wpList_plain rfl fun K hK => ?_
            unfold Oper.wp execOp
            go_simp
            refine hK _ _ ?_
            clear hK K
            refine wpList_plain rfl fun K hK => ?_
            unfold Oper.wp execOp
            go_simp
            refine hK _ _ ?_
            clear hK K
            refine wpList_plain rfl fun K hK => ?_
            unfold Oper.wp execOp
            go_simp
            refine hK _ _ ?_
            clear hK K
            refine wpList_plain rfl fun K hK => ?_
            unfold Oper.wp execOp
            go_simp
            refine hK _ _ ?_
            clear hK K
            refine wpList_plain rfl fun K hK => ?_
            unfold Oper.wp execOp
            go_simp
            refine hK _ _ ?_
            clear hK K
            refine wpList_plain rfl fun K hK => ?_
            refine wp_append_read (w0 := w13) (.tmp 81) (.tmp 87) 23 5 rfl g1 Tryz.underlying23 infoU8 _ _ (bytesOf nm) rfl HO13.out (Below.refl _ _) HG13.out _ c13 (by rw [HLX.out]; rfl) HC13.out (fun e => nomatch e) ?cl ?_
            case cl =>
              have h7 := HNZ.out
              have h8 := HXS.out
              rw [List.length_append, bytesOf_length]
              simp only [List.length_cons, List.length_nil]
              omega
            intro v14 w14 ho14 hb14 hg14
            refine hK _ _ ?_
            have HO14 := Aside0.mk ho14
            have HB14 := Aside0.mk (HB13.out.trans (hb14.mono HG1.out))
            have HG14 := Aside0.mk (Nat.le_trans HG13.out hb14.size)
            clear hK K ho14 hb14 hg14 hcv n1
            obtain ⟨ad', Av', cv', e', n1, n2, n3, n4, n5⟩ := (HL.out.below HB14.out).cells j (by rw [HN.out]; exact hjk)
            cases e'
            rw [HX.out.1] at n1 n2 n3 n4
            dsimp only at n1 n2 n3 n4
            have hm2 := HX.out.2
            rw [hm2] at n2 n3 n4
            have HV14 := Aside0.mk (And.intro n4 n5)
            clear n1 n3 n4 n5 hm2
            go_upto_region 14 with fail
            refine wp_region_lit ?_
            refine wpList_plain rfl fun K hK => ?_
            unfold Oper.wp execOp
            go_simp
            refine hK _ _ ?_
            clear hK K
            refine wpList_plain rfl fun K hK => ?_
            unfold Oper.wp execOp
            go_simp
            refine hK _ _ ?_
            clear hK K
            refine wpList_plain rfl fun K hK => ?_
            unfold Oper.wp execOp
            go_simp
            refine hK _ _ ?_
            clear hK K
            refine wpList_plain rfl fun K hK => ?_
            unfold Oper.wp execOp
            go_simp
            refine hK _ _ ?_
            clear hK K
            refine wpList_plain rfl fun K hK => ?_
            unfold Oper.wp execOp
            go_simp
            refine hK _ _ ?_
            clear hK K
            refine wpList_plain rfl fun K hK => ?_
            unfold Oper.wp execOp
            go_simp
            refine hK _ _ ?_
            clear hK K
            refine wpList_plain rfl fun K hK => ?_
            refine wp_append_read (w0 := w14) (.tmp 89) (.tmp 94) 23 5 rfl g1 Tryz.underlying23 infoU8 _ _ vl rfl HO14.out (Below.refl _ _) HG14.out Av' cv' (by rw [HX.out.2]; rfl) (by rw [HX.out.2]; exact HV14.out.1) HV14.out.2 ?cl ?_
            case cl =>
              have h7 := HNZ.out
              have h6 := HX.out.2
              rw [List.length_append, List.length_append, bytesOf_length]
              simp only [List.length_cons, List.length_nil]
              omega
            intro v15 w15 ho15 hb15 hg15
            refine hK _ _ ?_
            have HO15 := Aside0.mk ho15
            have HB15 := Aside0.mk (HB14.out.trans (hb15.mono HG1.out))
            have HG15 := Aside0.mk (Nat.le_trans HG14.out hb15.size)
            clear hK K ho15 hb15 hg15 n2
            go_wp2
            go_roundg gg
            case measure => omega
            case rel =>
              refine ⟨j + 1, by omega, by go_num, ⟨?_⟩, HB15, HG15⟩
              have e : [3, (k : Int) % 256] ++ (l.take (j + 1)).flatMap attB = xs ++ [IntKind.u8.wrap (nm.size : Int), IntKind.u8.wrap (m : Int)] ++ bytesOf nm ++ vl := by
                have hsn := attB_snoc l j (by rw [HN.out]; exact hjk)
                rw [hsn, HX.out.1, ← List.append_assoc, HXS.out]
                have e1 : IntKind.u8.wrap (nm.size : Int) = (nm.size : Int) % 256 := by simp [IntKind.wrap, IntKind.signed, IntKind.bits]
                have e2 : IntKind.u8.wrap (m : Int) = ((vl.length : Nat) : Int) % 256 := by rw [HX.out.2]; simp [IntKind.wrap, IntKind.signed, IntKind.bits]
                simp [attB, e1, e2]
              rw [e]
              exact HO15.out
    | succ g =>
      have hkn : k < n := by omega
      obtain ⟨ad, Av, cv, rfl, h1, h2, h3, h4, h5⟩ := HL.out.cells k (by rw [HN.out]; exact hkn)
      replace h1 := pw_cell_below HB.out h1
      replace h2 := pw_cell_below HB.out h2
      have hok : attOk l k ↔ namedB (attAt l k).name = true ∧ ¬ 64 < (attAt l k).val.length ∧ (0 < k → leS (attAt l k).name (attAt l (k - 1)).name = false) := Iff.rfl
      have hnot := HBAD.out k hkn
      have hp3 : k ≠ 0 → wr.cell? (ad.add ((k - 1) * 2)) = some (.string (attAt l (k - 1)).name) := fun hk0 => by
        obtain ⟨ad', _, _, e, h, _⟩ := (HL.out.below HB.out).cells (k - 1) (by rw [HN.out]; omega)
        cases e
        exact h
      obtain ⟨x, hx⟩ : ∃ x, attAt l k = x := ⟨_, rfl⟩
      obtain ⟨z, hz⟩ : ∃ z, (attAt l (k - 1)).name = z := ⟨_, rfl⟩
      rw [hx] at h1 h2 hok
      rw [hz] at hok hp3
      obtain ⟨nm, vl⟩ := x
      dsimp only at h1 h2 hok
      have HOK := Aside0.mk (And.intro hok hnot)
      have HP3 := Aside0.mk hp3
      have i1 : (k : Int) < (n : Int) := by omega
      obtain ⟨m, hm⟩ : ∃ m, vl.length = m := ⟨_, rfl⟩
      have HVL := Aside0.mk hm
      rw [hm] at h2
      have hS := And.intro h1 h2
      have HNM := Aside0.mk (fun W : World => rnamed_calls nm W)
      obtain ⟨tb, htb⟩ : ∃ tb, namedB nm = tb := ⟨_, rfl⟩
      rw [htb] at HNM
      have HTB := Aside0.mk htb
      have HBD := Aside0.mk HB.out.drew
      clear hok hnot h3 h4 h5 hp3 hx hz hm htb
      go_upto_region 4 with fail
      cases tb with
      | false =>
        refine wp_region_in [0, 0, 0, 0, 1, 2, 0, 0, 0, 0, 0, 0, 1, 0, 0, 0, 0, 0, 0, 0, 0, 0, 0, 0, 1, 0, 0, 0, 0, 0, 1, 0, 0, 0] [] (fun w' => w'.cell? (ad.add (k * 2)) = some (.string nm) ∧ w'.cell? ⟨(ad.add (k * 2)).block, (ad.add (k * 2)).off + 1, none⟩ = some (.slice Av m cv)) (by kernel_rfl) rfl (by kernel_rfl) (fun _ _ _ _ h => h) hS ?_
        iterate 5 (first
          | (refine in_off0 (by rfl) ?_; simp only [Act.put, stA, stZ, stS, i64_w, i32_w])
          | (refine in_off1 (by rfl) ?_; simp only [Act.put, stA, stZ, stS, i64_w, i32_w])
          | (refine in_0 (v := ?_) (by rfl) rfl ?_ (a' := ?_) ?_ ?_; rotate_left; (intro w'; go_simp; with_reducible rfl); rotate_left; (simp only [Act.put, stA, stZ, stS, i64_w, i32_w]; rfl))
          | (refine in_1 (v := ?_) (by rfl) rfl ?_ (a' := ?_) ?_ ?_; rotate_left; (rintro w' hs; go_split_ands; go_simp; with_reducible rfl); rotate_left; (simp only [Act.put, stA, stZ, stS, i64_w, i32_w]; rfl)))
        refine in_2 (by rfl) (fun K hK => ?_)
        go_simp
        refine (HNM.out _).mono ?_
        rintro e _w ⟨rfl, rfl⟩
        dsimp only
        refine hK _ _ hS ?_
        clear hK K
        try simp only [Act.put, stA, stZ, stS, i64_w, i32_w]
        iterate 28 (first
          | (refine in_off0 (by rfl) ?_; simp only [Act.put, stA, stZ, stS, i64_w, i32_w])
          | (refine in_off1 (by rfl) ?_; simp only [Act.put, stA, stZ, stS, i64_w, i32_w])
          | (refine in_0 (v := ?_) (by rfl) rfl ?_ (a' := ?_) ?_ ?_; rotate_left; (intro w'; go_simp; with_reducible rfl); rotate_left; (simp only [Act.put, stA, stZ, stS, i64_w, i32_w]; rfl))
          | (refine in_1 (v := ?_) (by rfl) rfl ?_ (a' := ?_) ?_ ?_; rotate_left; (rintro w' hs; go_split_ands; go_simp; with_reducible rfl); rotate_left; (simp only [Act.put, stA, stZ, stS, i64_w, i32_w]; rfl)))
        refine in_nil ?_
        have hr := HOK.out.2 (fun h => by have := (HOK.out.1.1 h).1; rw [HTB.out] at this; cases this)
        have HR := Aside0.mk hr
        clear hr
        go_wp2
        go_ret2
        exact bytesPost_bad (by rw [HR.out]) (by decide) rfl HBD.out
      | true =>
        by_cases c2 : 64 < m
        · have c2i : (64 : Int) < (m : Int) := by omega
          refine wp_region_in [0, 0, 0, 0, 1, 2, 0, 0, 0, 0, 0, 0, 1, 0, 0, 0, 0, 0, 0, 0, 0, 0, 0, 0, 1, 0, 0, 0, 0, 0, 1, 0, 0, 0] [] (fun w' => w'.cell? (ad.add (k * 2)) = some (.string nm) ∧ w'.cell? ⟨(ad.add (k * 2)).block, (ad.add (k * 2)).off + 1, none⟩ = some (.slice Av m cv)) (by kernel_rfl) rfl (by kernel_rfl) (fun _ _ _ _ h => h) hS ?_
          iterate 5 (first
            | (refine in_off0 (by rfl) ?_; simp only [Act.put, stA, stZ, stS, i64_w, i32_w])
            | (refine in_off1 (by rfl) ?_; simp only [Act.put, stA, stZ, stS, i64_w, i32_w])
            | (refine in_0 (v := ?_) (by rfl) rfl ?_ (a' := ?_) ?_ ?_; rotate_left; (intro w'; go_simp; with_reducible rfl); rotate_left; (simp only [Act.put, stA, stZ, stS, i64_w, i32_w]; rfl))
            | (refine in_1 (v := ?_) (by rfl) rfl ?_ (a' := ?_) ?_ ?_; rotate_left; (rintro w' hs; go_split_ands; go_simp; with_reducible rfl); rotate_left; (simp only [Act.put, stA, stZ, stS, i64_w, i32_w]; rfl)))
          refine in_2 (by rfl) (fun K hK => ?_)
          go_simp
          refine (HNM.out _).mono ?_
          rintro e _w ⟨rfl, rfl⟩
          dsimp only
          refine hK _ _ hS ?_
          clear hK K
          try simp only [Act.put, stA, stZ, stS, i64_w, i32_w]
          iterate 28 (first
            | (refine in_off0 (by rfl) ?_; simp only [Act.put, stA, stZ, stS, i64_w, i32_w])
            | (refine in_off1 (by rfl) ?_; simp only [Act.put, stA, stZ, stS, i64_w, i32_w])
            | (refine in_0 (v := ?_) (by rfl) rfl ?_ (a' := ?_) ?_ ?_; rotate_left; (intro w'; go_simp; with_reducible rfl); rotate_left; (simp only [Act.put, stA, stZ, stS, i64_w, i32_w]; rfl))
            | (refine in_1 (v := ?_) (by rfl) rfl ?_ (a' := ?_) ?_ ?_; rotate_left; (rintro w' hs; go_split_ands; go_simp; with_reducible rfl); rotate_left; (simp only [Act.put, stA, stZ, stS, i64_w, i32_w]; rfl)))
          refine in_nil ?_
          have hr := HOK.out.2 (fun h => (HOK.out.1.1 h).2.1 (by rw [HVL.out]; exact c2))
          have HR := Aside0.mk hr
          clear hr
          go_wp2
          go_ret2
          exact bytesPost_bad (by rw [HR.out]) (by decide) rfl HBD.out
        · have c2i : ¬ (64 : Int) < (m : Int) := by omega
          have HM64 := Aside0.mk c2
          obtain ⟨lb, hlb⟩ : ∃ lb, leS nm z = lb := ⟨_, rfl⟩
          have HLB := Aside0.mk hlb
          clear hlb
          by_cases c3 : k = 0
          · have c3n : ¬ 0 < k := by omega
            have c3i : ¬ (0 : Int) < (k : Int) := by omega
            have HK0 := Aside0.mk c3
            clear c3
            refine wp_region_in [0, 0, 0, 0, 1, 2, 0, 0, 0, 0, 0, 0, 1, 0, 0, 0, 0, 0, 0, 0, 0, 0, 0, 0, 1, 0, 0, 0, 0, 0, 1, 0, 0, 0] [] (fun w' => w'.cell? (ad.add (k * 2)) = some (.string nm) ∧ w'.cell? ⟨(ad.add (k * 2)).block, (ad.add (k * 2)).off + 1, none⟩ = some (.slice Av m cv)) (by kernel_rfl) rfl (by kernel_rfl) (fun _ _ _ _ h => h) hS ?_
            iterate 5 (first
              | (refine in_off0 (by rfl) ?_; simp only [Act.put, stA, stZ, stS, i64_w, i32_w])
              | (refine in_off1 (by rfl) ?_; simp only [Act.put, stA, stZ, stS, i64_w, i32_w])
              | (refine in_0 (v := ?_) (by rfl) rfl ?_ (a' := ?_) ?_ ?_; rotate_left; (intro w'; go_simp; with_reducible rfl); rotate_left; (simp only [Act.put, stA, stZ, stS, i64_w, i32_w]; rfl))
              | (refine in_1 (v := ?_) (by rfl) rfl ?_ (a' := ?_) ?_ ?_; rotate_left; (rintro w' hs; go_split_ands; go_simp; with_reducible rfl); rotate_left; (simp only [Act.put, stA, stZ, stS, i64_w, i32_w]; rfl)))
            refine in_2 (by rfl) (fun K hK => ?_)
            go_simp
            refine (HNM.out _).mono ?_
            rintro e _w ⟨rfl, rfl⟩
            dsimp only
            refine hK _ _ hS ?_
            clear hK K
            try simp only [Act.put, stA, stZ, stS, i64_w, i32_w]
            iterate 28 (first
              | (refine in_off0 (by rfl) ?_; simp only [Act.put, stA, stZ, stS, i64_w, i32_w])
              | (refine in_off1 (by rfl) ?_; simp only [Act.put, stA, stZ, stS, i64_w, i32_w])
              | (refine in_0 (v := ?_) (by rfl) rfl ?_ (a' := ?_) ?_ ?_; rotate_left; (intro w'; go_simp; with_reducible rfl); rotate_left; (simp only [Act.put, stA, stZ, stS, i64_w, i32_w]; rfl))
              | (refine in_1 (v := ?_) (by rfl) rfl ?_ (a' := ?_) ?_ ?_; rotate_left; (rintro w' hs; go_split_ands; go_simp; with_reducible rfl); rotate_left; (simp only [Act.put, stA, stZ, stS, i64_w, i32_w]; rfl)))
            refine in_nil ?_
            go_wp2
            go_roundg g
            case measure => omega
            case rel => exact ⟨k + 1, by omega, by go_num, HBD, ⟨fun j hj => by
              obtain rfl : j = k := by omega
              exact HOK.out.1.2 ⟨HTB.out, by rw [HVL.out]; exact HM64.out, fun h => absurd h (by omega)⟩⟩⟩
          · obtain ⟨k', hk'⟩ : ∃ k', k = k' + 1 := ⟨k - 1, by omega⟩
            have n4 := HP3.out (by omega)
            have n4' : wr.cell? (ad.add (k' * 2)) = some (.string z) := by
              have e : k - 1 = k' := by omega
              rw [e] at n4
              exact n4
            have hS3 := And.intro h1 (And.intro h2 n4')
            have i1' : (k' : Int) < (n : Int) := by omega
            have i2' : k' < n := by omega
            have hw1 : wrap64 ((k : Int) - 1) = (k' : Int) := by unfold wrap64; omega
            have HW1 := Aside0.mk hw1
            have i0 : (0 : Int) < (k : Int) := by omega
            have i0n : 0 < k := by omega
            have hle := fun W : World => leq_str nm z W
            rw [HLB.out] at hle
            have HKK := Aside0.mk hk'
            clear hw1 hk' n4 c3
            refine wp_region_in [0, 0, 0, 0, 1, 2, 0, 0, 0, 0, 0, 0, 1, 0, 0, 0, 0, 0, 0, 0, 0, 0, 0, 0, 1, 0, 0, 0, 0, 0, 1, 0, 0, 0] [] (fun w' => w'.cell? (ad.add (k * 2)) = some (.string nm) ∧ w'.cell? ⟨(ad.add (k * 2)).block, (ad.add (k * 2)).off + 1, none⟩ = some (.slice Av m cv) ∧ w'.cell? (ad.add (k' * 2)) = some (.string z)) (by kernel_rfl) rfl (by kernel_rfl) (fun _ _ _ _ h => h) hS3 ?_
            iterate 5 (first
              | (refine in_off0 (by rfl) ?_; simp only [Act.put, stA, stZ, stS, i64_w, i32_w])
              | (refine in_off1 (by rfl) ?_; simp only [Act.put, stA, stZ, stS, i64_w, i32_w])
              | (refine in_0 (v := ?_) (by rfl) rfl ?_ (a' := ?_) ?_ ?_; rotate_left; (intro w'; go_simp; with_reducible rfl); rotate_left; (simp only [Act.put, stA, stZ, stS, i64_w, i32_w]; rfl))
              | (refine in_1 (v := ?_) (by rfl) rfl ?_ (a' := ?_) ?_ ?_; rotate_left; (rintro w' hs; go_split_ands; go_simp; with_reducible rfl); rotate_left; (simp only [Act.put, stA, stZ, stS, i64_w, i32_w]; rfl)))
            refine in_2 (by rfl) (fun K hK => ?_)
            go_simp
            refine (HNM.out _).mono ?_
            rintro e _w ⟨rfl, rfl⟩
            dsimp only
            refine hK _ _ hS3 ?_
            clear hK K
            try simp only [Act.put, stA, stZ, stS, i64_w, i32_w]
            iterate 22 (first
              | (refine in_off0 (by rfl) ?_; simp only [Act.put, stA, stZ, stS, i64_w, i32_w])
              | (refine in_off1 (by rfl) ?_; simp only [Act.put, stA, stZ, stS, i64_w, i32_w])
              | (refine in_0 (v := ?_) (by rfl) rfl ?_ (a' := ?_) ?_ ?_; rotate_left; (intro w'; go_simp; with_reducible rfl); rotate_left; (simp only [Act.put, stA, stZ, stS, i64_w, i32_w]; rfl))
              | (refine in_1 (v := ?_) (by rfl) rfl ?_ (a' := ?_) ?_ ?_; rotate_left; (rintro w' hs; go_split_ands; go_simp; with_reducible rfl); rotate_left; (simp only [Act.put, stA, stZ, stS, i64_w, i32_w]; rfl)))
            rw [HW1.out]
            iterate 6 (first
              | (refine in_off0 (by rfl) ?_; simp only [Act.put, stA, stZ, stS, i64_w, i32_w])
              | (refine in_off1 (by rfl) ?_; simp only [Act.put, stA, stZ, stS, i64_w, i32_w])
              | (refine in_0 (v := ?_) (by rfl) rfl ?_ (a' := ?_) ?_ ?_; rotate_left; (intro w'; go_simp; with_reducible rfl); rotate_left; (simp only [Act.put, stA, stZ, stS, i64_w, i32_w]; rfl))
              | (refine in_1 (v := ?_) (by rfl) rfl ?_ (a' := ?_) ?_ ?_; rotate_left; (rintro w' hs; go_split_ands; go_simp; with_reducible rfl); rotate_left; (simp only [Act.put, stA, stZ, stS, i64_w, i32_w]; rfl)))
            refine in_nil ?_
            cases lb with
            | true =>
              have hr := HOK.out.2 (fun h => by have := (HOK.out.1.1 h).2.2 (by omega); rw [HLB.out] at this; cases this)
              have HR := Aside0.mk hr
              clear hr
              go_wp2
              go_ret2
              exact bytesPost_bad (by rw [HR.out]) (by decide) rfl HBD.out
            | false =>
              go_wp2
              go_roundg g
              case measure => omega
              case rel => exact ⟨k + 1, by omega, by go_num, HBD, ⟨fun j hj => by
                by_cases hj2 : j < k
                · exact HK.out j hj2
                · obtain rfl : j = k := by omega
                  exact HOK.out.1.2 ⟨HTB.out, by rw [HVL.out]; exact HM64.out, fun _ => HLB.out⟩⟩⟩
theorem zero_bytes (w : World) : (zeroValue 23).run Tryz.prog w = .ok (.slice none 0 0) w := by kernel_rfl
def DReadPost (L : List (List Int)) (n : Nat) (w : World) (e : Ending) (w' : World) : Prop :=
  ∃ g c, e = .returned (.tuple #[.slice (some ⟨g, 0, none⟩) 256 c, .int .i64 0]) ∧ w.heap.size ≤ g ∧ 256 ≤ c ∧ Row w' .u8 g 5 (L.getD n []) ∧ Below w.heap.size w w'
set_option maxHeartbeats 1000000 in
set_option maxRecDepth 100000 in
theorem dread_calls {D : Nat → Prop} {p : Nat} {L : List (List Int)} {m : Nat} (n : Nat) (w : World) (h : DiskIs w D p L m) (hn : n < L.length) :
    Calls Tryz.prog 56 #[.pointer (some ⟨p, 0, none⟩), .int .i64 n] w (DReadPost L n w) := by
  obtain ⟨bd, bn, pv, ops, fd, fn, pend, h⟩ := h
  have hlo := h.lo
  have hhi := h.hi
  have hc0 := h.st.cell 0 _ rfl
  have hc1 := h.st.cell 1 _ rfl
  have hc3 := h.st.cell 3 _ rfl
  have hdec : decide (0 ≤ (n : Int) ∧ (n : Int) < (L.length : Int)) = true := by simp; omega
  have hhas := dhas_calls (x := (n : Int)) hc0
  rw [hdec] at hhas
  have HHAS := Aside0.mk hhas
  have HMD := Aside0.mk h.md
  have HMN := Aside0.mk h.mn
  have hcont := h.cont n hn
  have i1 : n < 9223372036854775808 := by omega
  clear hhas hdec
  cases hfn : fn n with
  | some v =>
    rw [hfn] at hcont
    obtain ⟨g0, c0, rfl, hd0, hcc0, hr0, hl0, hb0⟩ := hcont
    have HR0 := Aside0.mk hr0
    have HFN := Aside0.mk (show (fn n).getD (.slice none 0 0) = .slice (some ⟨g0, 0, none⟩) 256 c0 by rw [hfn]; rfl)
    have hnil := nonnil_eql ⟨g0, 0, none⟩ 256 c0
    obtain ⟨b, hb⟩ : ∃ b, L.getD n [] = b := ⟨_, rfl⟩
    have HBB := Aside0.mk hb
    rw [hb] at HR0 hl0
    have hcl := clone_calls ⟨g0, 0, none⟩ c0 b w (HR0.out.reads (by omega)) (by omega)
    rw [hl0] at hcl
    have HCL := Aside0.mk hcl
    have HL0 := Aside0.mk hl0
    clear hfn h hr0 hb0 hcl hb hl0
    go_enter Tryz.func56, Tryz.ntmps56
    go_wp2_with (first
      | (go_at_call 124; refine HHAS.out.mono ?_; rintro e w' ⟨rfl, rfl⟩)
      | (go_at_call 42; refine HCL.out.mono ?_; rintro e w1 ⟨v1, rfl, hO, hB⟩; have HO := Aside0.mk hO; have HB := Aside0.mk hB; clear hO hB)
      | (at_lookup; refine im_look _ rfl _ _ rfl Tryz.underlying3 Tryz.underlying98 (zero_bytes _) rfl HMN.out n i1 rfl _ HFN.out ?_))
    go_ret2
    obtain ⟨g1, c1, rfl, hg1, hc1', hr1⟩ := HO.out.row (by rw [HL0.out]; omega)
    rw [HL0.out] at hc1'
    exact ⟨g1, c1, by rw [HL0.out]; rfl, hg1, hc1', by rw [HBB.out]; exact hr1, HB.out⟩
  | none =>
    rw [hfn] at hcont
    have HFN := Aside0.mk (show (fn n).getD (.slice none 0 0) = .slice none 0 0 by rw [hfn]; rfl)
    have hnil0 := nil_eql
    cases hfd : fd n with
    | some v =>
      rw [hfd] at hcont
      obtain ⟨g0, c0, rfl, hd0, hcc0, hr0, hl0, hb0⟩ := hcont
      have HR0 := Aside0.mk hr0
      have HFD := Aside0.mk (show (fd n).getD (.slice none 0 0) = .slice (some ⟨g0, 0, none⟩) 256 c0 by rw [hfd]; rfl)
      have hnil := nonnil_eql ⟨g0, 0, none⟩ 256 c0
      obtain ⟨b, hb⟩ : ∃ b, L.getD n [] = b := ⟨_, rfl⟩
      have HBB := Aside0.mk hb
      rw [hb] at HR0 hl0
      have hcl := clone_calls ⟨g0, 0, none⟩ c0 b w (HR0.out.reads (by omega)) (by omega)
      rw [hl0] at hcl
      have HCL := Aside0.mk hcl
      have HL0 := Aside0.mk hl0
      clear hfn hfd h hr0 hb0 hcl hb hl0
      go_enter Tryz.func56, Tryz.ntmps56
      go_wp2_with (first
        | (go_at_call 124; refine HHAS.out.mono ?_; rintro e w' ⟨rfl, rfl⟩)
        | (go_at_call 42; refine HCL.out.mono ?_; rintro e w1 ⟨v1, rfl, hO, hB⟩; have HO := Aside0.mk hO; have HB := Aside0.mk hB; clear hO hB)
        | ((with_reducible refine gate_dst (N := 16) rfl ?_); refine im_look _ rfl _ _ rfl Tryz.underlying3 Tryz.underlying98 (zero_bytes _) rfl HMN.out n i1 rfl _ HFN.out ?_)
        | ((with_reducible refine gate_dst (N := 24) rfl ?_); refine im_look _ rfl _ _ rfl Tryz.underlying3 Tryz.underlying98 (zero_bytes _) rfl HMD.out n i1 rfl _ HFD.out ?_))
      go_ret2
      obtain ⟨g1, c1, rfl, hg1, hc1', hr1⟩ := HO.out.row (by rw [HL0.out]; omega)
      rw [HL0.out] at hc1'
      exact ⟨g1, c1, by rw [HL0.out]; rfl, hg1, hc1', by rw [HBB.out]; exact hr1, HB.out⟩
    | none =>
      rw [hfd] at hcont
      have hz : L.getD n [] = zeros := hcont
      have HZ := Aside0.mk hz
      have HFD := Aside0.mk (show (fd n).getD (.slice none 0 0) = .slice none 0 0 by rw [hfd]; rfl)
      have hmk : ∀ w : World, (Instr.makeSlice 23 (.int .i64 256) (.int .i64 256)).run Tryz.prog w = .ok (.slice (some ⟨w.heap.size, 0, none⟩) 256 256) (noughts w) := make256
      clear hfn hfd h hz hcont
      go_enter Tryz.func56, Tryz.ntmps56
      go_wp2_with (first
        | (go_at_call 124; refine HHAS.out.mono ?_; rintro e w' ⟨rfl, rfl⟩)
        | ((with_reducible refine gate_dst (N := 16) rfl ?_); refine im_look _ rfl _ _ rfl Tryz.underlying3 Tryz.underlying98 (zero_bytes _) rfl HMN.out n i1 rfl _ HFN.out ?_)
        | ((with_reducible refine gate_dst (N := 24) rfl ?_); refine im_look _ rfl _ _ rfl Tryz.underlying3 Tryz.underlying98 (zero_bytes _) rfl HMD.out n i1 rfl _ HFD.out ?_))
      go_ret2
      refine ⟨w.heap.size, 256, rfl, Nat.le_refl _, Nat.le_refl _, ?_, below_alloc (Below.refl _ _) _⟩
      rw [HZ.out]
      exact row_last _ _ _ _
theorem infoWr : (Tryz.prog.info? 207).map (fun i => (i.zero, i.size, i.bytes)) = some (some (.agg #[.int .i64 0, .slice none 0 0]), 2, 32) := by kernel_rfl
def orNew (w w' : World) (D : Nat → Prop) : Nat → Prop := fun k => D k ∨ (w.heap.size ≤ k ∧ k < w'.heap.size)
set_option maxHeartbeats 2000000 in
set_option maxRecDepth 100000 in
theorem dwrite_calls {D : Nat → Prop} {p : Nat} {L : List (List Int)} {m : Nat} (n : Nat) (ad : Addr) (c : Nat) (b : List Int) (w : World) (h : DiskIs w D p L m) (hn : n < L.length) (hm : m < 1000000)
    (hb : Kd.C (Kd.int .u8) w (some ad) b.length b) (hbl : b.length = 256) (hba : allB b) :
    Calls Tryz.prog 106 #[.pointer (some ⟨p, 0, none⟩), .int .i64 n, .slice (some ad) 256 c] w fun e w' => e = .returned (.int .i64 0) ∧ DiskIs w' (orNew w w' D) p (L.set n b) (m + 1) ∧ Mod w w' D := by
  obtain ⟨bd, bn, pv, ops, fd, fn, pend, h⟩ := h
  have hlo := h.lo
  have hhi := h.hi
  have hdec : decide (0 ≤ (n : Int) ∧ (n : Int) < (L.length : Int)) = true := by simp; omega
  have hhas := dhas_calls (x := (n : Int)) (h.st.cell 0 _ rfl)
  rw [hdec] at hhas
  have HHAS := Aside0.mk hhas
  have hcl := clone_calls ad c b w hb (by omega)
  rw [hbl] at hcl
  have HCL := Aside0.mk hcl
  have HBL := Aside0.mk hbl
  have HBA := Aside0.mk hba
  have HH := Aside0.mk h
  have hps := h.short
  clear hhas hdec hcl hb hbl hba h
  have hne1 : (168 : TypeId) ≠ 207 := by decide
  obtain ⟨q0, hq, hz0, hz1, hz2⟩ := info_parts infoWr
  go_enter Tryz.func106, Tryz.ntmps106
  go_wp2_with fail
  refine HHAS.out.mono ?_
  rintro e w' ⟨rfl, rfl⟩
  dsimp only
  go_wp2_with fail
  refine HCL.out.mono ?_
  rintro e w1 ⟨v1, rfl, hO, hB⟩
  obtain ⟨g1, c1, rfl, hg1, hc1, hr1⟩ := hO.row (by rw [HBL.out]; omega)
  have HST1 := Aside0.mk (HH.out.st.below hB)
  have HP1 := Aside0.mk (own_mod HH.out.row (Mod.of_below hB (fun _ => False)) (fun _ _ => id))
  have hk0 := HST1.out.cell 0 _ rfl
  have hk2 := HST1.out.cell 2 _ rfl
  have hk3 := HST1.out.cell 3 _ rfl
  have hk4 := HST1.out.cell 4 _ rfl
  have hpl := HST1.out.lt
  have HR1 := Aside0.mk hr1
  have HB1 := Aside0.mk hB
  have HPa := Aside0.mk (fun o => own_mod HP1.out (Mod.of_below (below_alloc (Below.refl _ _) o) (fun _ => False)) (fun _ _ => id))
  have hne2 : (5 : TypeId) ≠ 207 := by decide
  have HF := Aside0.mk (show ∀ (o : Obj) (w2 : World) (v2 : Value), (w1.alloc o).grownBy w2 pv.ownBlock → (v2.ownBlock = pv.ownBlock ∨ v2.ownBlock = some (w1.alloc o).heap.size) → Strc w2 p 168 [.int .i64 L.length, .map (some bd), pv, .map (some bn), .int .i64 ops] ∧ IM Tryz.prog 3 w2 bn 4096 fn ∧ IM Tryz.prog 3 w2 bd 4096 fd ∧ Mod w w2 D ∧
      (∀ g l, Row w1 .u8 g 5 l → Row w2 .u8 g 5 l) ∧ (∀ g, v2.ownBlock = some g → D g ∨ w.heap.size ≤ g) from fun o w2 v2 hg hl => by
    have hb1a : Below w1.heap.size w1 (w1.alloc o) := below_alloc (Below.refl _ _) _
    have hsta := HST1.out.below hb1a
    have hpva := HPa.out o
    have hmg := mod_grown hg
    have hmna := (HH.out.mn.below HB1.out).below hb1a
    have hmda := (HH.out.md.below HB1.out).below hb1a
    refine ⟨hsta.mod hmg (own_not_strc hpva hsta hne1), hmna.mod hmg (own_not_map hpva hmna), hmda.mod hmg (own_not_map hpva hmda), ((Mod.of_below HB1.out D).alloc o).trans hmg (fun i _ e => HH.out.drow i e), fun g l hr => ?_, fun g e => ?_⟩
    · exact (hr.below hb1a).mod hmg (own_not_row hpva (hr.below hb1a) hne2)
    · rcases hl with h | h
      · exact .inl (HH.out.drow g (h.symm.trans e))
      · have h1 := HB1.out.size
        have h2 : g = (w1.alloc o).heap.size := by rw [e] at h; exact Option.some.inj h
        rw [World.size_alloc] at h2
        exact .inr (by omega))
  clear HST1
  rw [HBL.out] at hc1 ⊢
  clear hO hr1 hB
  dsimp only
  go_wp2_with (first
    | ((with_reducible refine gate_dst (N := 26) rfl ?_); (refine wpList_append_own_at _ rfl (.tmp 21) (.tmp 25) 166 rfl 0 207 q0 (.agg #[.int .i64 0, .slice none 0 0]) 2 32 Tryz.underlying166 hq hz0 hz1 hz2 rfl (by decide) _ _ _ rfl (HPa.out _) ⟨w1.heap.size, 0, none⟩ 1 1 [.int .i64 n, .slice (some ⟨g1, 0, none⟩) 256 c1] rfl ?c6 ?c1 ?c2 ?c3 ?c4 ?c5 ?_; (case c6 => rfl); (case c1 => (intro j u hj; rw [add_plain]; exact cell_alloc w1 _ _ j u (by simpa using hj))); (case c2 => simp [Value.oneCell']); (case c3 => (simp only [maxLen]; omega)); (case c4 => omega); (case c5 => exact Nat.zero_le _); intro v2 w2 hown2 hgrow2 _ hloc; clear hz0 hz1 hz2 hq; obtain ⟨g2, cap2, rfl⟩ := own_succ hown2; obtain ⟨hst2, hmn2, hmd2, hmod2, hrow2, hloc2⟩ := HF.out _ _ _ hgrow2 hloc; have HO2 := Aside0.mk hown2; have HST2 := Aside0.mk hst2; have HMN2 := Aside0.mk (fun u => hmn2.mod ((Mod.refl w2 (· = p)).set_own 2 u) (hst2.not_map hmn2)); have HMN0 := Aside0.mk hmn2; have HLOC := Aside0.mk hloc2; have HMD2 := Aside0.mk hmd2; have HMOD2 := Aside0.mk hmod2; have HROW2 := Aside0.mk hrow2; have hk23 := hst2.cell 3 _ rfl; have hk22 := hst2.cell 2 _ rfl; have hf22 := hst2.free 2; have hpl2 := hst2.lt; clear hloc hloc2 hown2 hgrow2 hst2 hmn2 hmd2 hmod2 hrow2))
    | (at_mapUpdate; (refine im_store _ rfl _ _ _ rfl Tryz.underlying3 Tryz.underlying98 (by decide) rfl (HMN2.out _) n (by omega) rfl _ rfl ?_; intro w4 hmn4 hmod4 hsz4; have HST4 := Aside0.mk ((HST2.out.set 2 (.slice (some ⟨g2, 0, none⟩) (pend.length + 1) cap2)).mod hmod4 (fun e => (HST2.out.set 2 (.slice (some ⟨g2, 0, none⟩) (pend.length + 1) cap2)).not_map (HMN2.out _) e.symm)); have hk44 := HST4.out.cell 4 _ rfl; have hf44 := HST4.out.free 4; have hpl4 := HST4.out.lt; have HMN4 := Aside0.mk hmn4; have HMOD4 := Aside0.mk hmod4; clear hmn4 hmod4)))
  go_ret
  obtain ⟨x, hx⟩ : ∃ x, wrap64 (ops + 1) = x := ⟨_, rfl⟩
  rw [hx]
  have hf := HST4.out.set 4 (.int .i64 x)
  have hms : Mod w4 (w4.setCell ⟨p, 4, none⟩ (.int .i64 x)) (· = p) := (Mod.refl _ _).set_own 4 _
  have hm24 : Mod w2 w4 (fun k => k = p ∨ k = bn) := (((Mod.refl w2 (fun k => k = p ∨ k = bn)).setCell (p := ⟨p, 2, none⟩) (fun _ => .inl rfl) _).trans HMOD4.out (fun _ _ e => .inr e))
  have hm25 := hm24.trans hms (fun _ _ e => .inl e)
  have hnp : bn ≠ p := HST4.out.not_map HMN4.out
  have hdp : bd ≠ p := HST2.out.not_map HMD2.out
  have hne3 : (5 : TypeId) ≠ 168 := by decide
  have hr25 : ∀ g l, Row w1 .u8 g 5 l → Row (w4.setCell ⟨p, 4, none⟩ (.int .i64 x)) .u8 g 5 l := fun g l hr => (HROW2.out g l hr).mod hm25 (by
    have h2 := HROW2.out g l hr
    rintro (rfl | rfl)
    · exact HST2.out.not_row h2 hne3.symm rfl
    · exact h2.not_map HMN0.out rfl)
  refine ⟨rfl, ⟨bd, bn, .slice (some ⟨g2, 0, none⟩) (pend.length + 1) cap2, x, fd, fun i => if i = (n : Int) then some (.slice (some ⟨g1, 0, none⟩) 256 c1) else fn i, pend ++ [(n, .slice (some ⟨g1, 0, none⟩) 256 c1)], ?_⟩, ?_⟩
  · refine ⟨?_, .inl HH.out.dp, .inl HH.out.dd, .inl HH.out.dn, HH.out.ne, HMD2.out.mod hm25 (by rintro (e | e); exact hdp e; exact HH.out.ne e), HMN4.out.mod hms hnp, ?_, ?_, by simpa using hlo, by simpa using hhi, ?_, ?_, ?_, by omega, ?_⟩
    · rw [List.length_set]; exact hf
    · rw [List.length_append, List.flatMap_append]
      have ho := own_mod HO2.out hm25 (fun g hg => by
        rintro (rfl | rfl)
        · exact own_not_strc HO2.out HST2.out hne1 hg
        · exact own_not_map HO2.out HMN0.out hg)
      simpa [wcells] using ho
    · intro g hg
      have hlt := own_lt HO2.out g hg
      exact (HLOC.out g hg).imp id (fun h => ⟨h, Nat.lt_of_lt_of_le hlt hm25.size⟩)
    · intro y
      rw [putAll_snoc]
      dsimp only
      split
      · rfl
      · exact HH.out.new y
    · intro k hk
      rw [List.length_set] at hk
      by_cases e : k = n
      · subst e
        simp only [if_true, Option.some_or]
        rw [show (L.set k b).getD k [] = b by simp [List.getD_eq_getElem?_getD, hk]]
        exact ⟨g1, c1, rfl, .inr ⟨hg1, (hr25 _ _ HR1.out).lt⟩, hc1, hr25 _ _ HR1.out, HBL.out, HBA.out⟩
      · rw [if_neg (by omega), show (L.set n b).getD k [] = L.getD k [] by simp [List.getD_eq_getElem?_getD, List.getElem?_set, Ne.symm e]]
        refine Blk.mono ?_ (D := D) (fun _ => .inl)
        have h0 := HH.out.cont k hk
        generalize (fn ↑k).or (fd ↑k) = ov at h0
        cases ov with
        | none => exact h0
        | some v =>
          obtain ⟨g, c', rfl, hd, hc', hr, hrest⟩ := h0
          exact ⟨g, c', rfl, hd, hc', hr25 _ _ (hr.below HB1.out), hrest⟩
    · rw [List.length_append]
      have := HH.out.short
      simpa using this
    · intro q hq
      rw [List.length_set]
      rcases List.mem_append.1 hq with h | h
      · exact HH.out.pok q h
      · simp at h
        subst h
        exact ⟨hn, _, _, _, rfl⟩
  · exact HMOD2.out.trans hm25 (fun i _ e => by
      rcases e with rfl | rfl
      · exact HH.out.dp
      · exact HH.out.dn)
theorem flush1_calls (i : Int) (w : World) : Calls Tryz.prog 162 #[.int .i64 i] w fun e w' => e = .returned (.bool true) ∧ w = w' := by
  go_enter Tryz.func162, Tryz.ntmps162
  go_wp2
  go_ret
  exact ⟨rfl, rfl⟩
set_option maxHeartbeats 2000000 in
set_option maxRecDepth 100000 in
theorem settle_calls {D : Nat → Prop} {p : Nat} {L : List (List Int)} {m : Nat} (w : World) (h : DiskIs w D p L m) :
    Calls Tryz.prog 161 #[.pointer (some ⟨p, 0, none⟩), .func (.func 162) #[] #[]] w fun e w' => e = .returned (.tuple #[]) ∧ DiskIs w' D p L 0 ∧ Mod w w' D := by
  obtain ⟨bd, bn, pv, ops, fd, fn, pend, h⟩ := h
  have hlo := h.lo
  have hhi := h.hi
  obtain ⟨A, c, rfl, hc, _, hA0, hA⟩ := own_shape h.row
  have hk1 := h.st.cell 1 _ rfl
  have hk2 := h.st.cell 2 _ rfl
  have HH := Aside0.mk h
  have HA := Aside0.mk hA
  have HA0 := Aside0.mk hA0
  have hps := h.short
  have hpm := h.most
  have hnp : bd ≠ p := h.st.not_map h.md
  have hnb := h.ne
  have HKEEP := Aside0.mk (show ∀ w', Mod w w' (· = bd) → Strc w' p 168 [.int .i64 L.length, .map (some bd), .slice A pend.length c, .map (some bn), .int .i64 ops] from fun w' hm => h.st.mod hm (Ne.symm hnp))
  have HKC := Aside0.mk (show ∀ w' ad i u, Mod w w' (· = bd) → A = some ad → (pend.flatMap wcells)[i]? = some u → w'.cell? (ad.add i) = some u from fun w' ad i u hm e hi => by
    have h1 := hA ad e i u hi
    refine hm.cell h1 ?_
    rintro e2
    have h2 : (Value.slice A pend.length c).ownBlock = some bd := by
      subst e
      have h3 : (ad.add i).block = ad.block := by unfold Addr.add; split <;> rfl
      rw [h3] at e2
      rw [← e2]
      rfl
    exact own_not_map h.row h.md h2)
  clear h hA hA0
  go_enter Tryz.func161, Tryz.ntmps161
  go_wp2
  go_loopg [11] pend.length (fun g i wr => ∃ k : Nat, k + g = pend.length ∧ i = .int .i64 k ∧ Aside0 (Mod w wr (· = bd)) ∧ Aside0 (IM Tryz.prog 3 wr bd 4096 (putAll fd (pend.take k))))
  case atStart => exact ⟨0, by omega, rfl, ⟨Mod.refl _ _⟩, ⟨HH.out.md⟩⟩
  case round =>
    obtain ⟨k, hk, rfl, HM, HD⟩ := hrel
    cases gk with
    | zero =>
      obtain rfl : k = pend.length := by omega
      have hst := HKEEP.out _ HM.out
      have hr3 := hst.cell 3 _ rfl
      have hr2 := hst.cell 2 _ rfl
      have hf2 := hst.free 2
      have hl2 := hst.lt
      have HST := Aside0.mk hst
      have HMN := Aside0.mk (fun u => (HH.out.mn.mod HM.out (Ne.symm hnb)).mod ((Mod.refl wr (· = p)).set_own 2 u) (HH.out.st.not_map HH.out.mn))
      clear hst
      go_wp2_with (first
        | ((with_reducible refine gate_builtin rfl ?_); fail)
        | ((refine im_clear _ rfl _ rfl Tryz.underlying98 rfl (HMN.out _) ?_; intro w4 hmn4 hmod4 hsz4; have HMN4 := Aside0.mk hmn4; have HMOD4 := Aside0.mk hmod4; clear hmn4 hmod4)))
      go_end0
      have hm12 : Mod wr w4 (fun k => k = p ∨ k = bn) := (((Mod.refl wr (fun k => k = p ∨ k = bn)).setCell (p := ⟨p, 2, none⟩) (fun _ => .inl rfl) _).trans HMOD4.out (fun _ _ e => .inr e))
      have hm04 : Mod w w4 (fun k => k = bd ∨ k = p ∨ k = bn) := (HM.out.mono (fun _ _ e => .inl e)).trans hm12 (fun _ _ e => .inr e)
      have hnn : bn ≠ p := HH.out.st.not_map HH.out.mn
      have hne3 : (5 : TypeId) ≠ 168 := by decide
      refine ⟨rfl, ⟨bd, bn, .slice none 0 0, ops, putAll fd pend, fun _ => none, [], ?_⟩, hm04.mono (fun k _ e => by rcases e with rfl | rfl | rfl; exact HH.out.dd; exact HH.out.dp; exact HH.out.dn)⟩
      refine ⟨(HST.out.set 2 (.slice none 0 0)).mod HMOD4.out (Ne.symm hnn), HH.out.dp, HH.out.dd, HH.out.dn, HH.out.ne, ?_, HMN4.out, own_nil _ _ _ _, by simp [Value.ownBlock], HH.out.lo, HH.out.hi, fun y => rfl, fun n hn => ?_, Nat.le_refl _, Nat.zero_le _, by simp⟩
      · have h1 := HD.out
        rw [List.take_length] at h1
        exact h1.mod hm12 (by rintro (e | e); exact hnp e; exact hnb e)
      · rw [Option.none_or, putAll_or, ← HH.out.new]
        exact (HH.out.cont n hn).kept (fun g hd hr => hm04.block g hr.lt (by
          rintro (rfl | rfl | rfl)
          · exact hr.not_map HH.out.md rfl
          · exact HH.out.st.not_row hr hne3.symm rfl
          · exact hr.not_map HH.out.mn rfl))
    | succ g =>
      have hkl : k < pend.length := by omega
      obtain ⟨q, hq⟩ : ∃ q, pend[k]? = some q := ⟨_, List.getElem?_eq_getElem hkl⟩
      have hqm : q ∈ pend := List.mem_of_getElem? hq
      obtain ⟨hql, qA, qn, qc, hqs⟩ := HH.out.pok q hqm
      have hsn : putAll fd (pend.take (k + 1)) = fun y => if y = (q.1 : Int) then some q.2 else putAll fd (pend.take k) y := by
        rw [List.take_add_one, hq]
        exact putAll_snoc _ _ _
      obtain ⟨q1, q2⟩ := q
      dsimp only at hql hsn hqs
      subst hqs
      obtain ⟨ad, rfl⟩ := HA0.out (by omega)
      obtain ⟨hc1, hc2⟩ := wcells_at pend k _ hq
      have hr1 := HKC.out wr ad _ _ HM.out rfl hc1
      have hr2 := HKC.out wr ad _ _ HM.out rfl hc2
      have HSN := Aside0.mk hsn
      have hst := HKEEP.out _ HM.out
      have hr1a : wr.cell? ⟨p, 1, none⟩ = some (.map (some bd)) := hst.cell 1 _ rfl
      have hl1 := hst.lt
      have HST := Aside0.mk hst
      rw [add_next ad (k * 2) 1 (by omega)] at hr2
      clear hsn hst hqm hq hc1 hc2
      have i1 : (k : Int) < (pend.length : Int) := by omega
      go_wp2_with (go_at_call 162; refine (flush1_calls _ _).mono ?_; rintro e w' ⟨rfl, rfl⟩)
      have ha1 : (wr.alloc (.cells #[.int .i64 q1, .slice qA qn qc] 207)).cell? ⟨p, 1, none⟩ = some (.map (some bd)) := (HST.out.below (below_alloc (Below.refl _ _) _)).cell 1 _ rfl
      have ha2 := cell_alloc wr #[.int .i64 q1, .slice qA qn qc] 207 0 _ rfl
      have ha3 := cell_alloc wr #[.int .i64 q1, .slice qA qn qc] 207 1 _ rfl
      have HDA := Aside0.mk (HD.out.below (below_alloc (Below.refl _ _) (.cells #[.int .i64 q1, .slice qA qn qc] 207)))
      have HMA := Aside0.mk (HM.out.alloc (.cells #[.int .i64 q1, .slice qA qn qc] 207))
      obtain ⟨W, hW⟩ : ∃ W, wr.alloc (.cells #[.int .i64 q1, .slice qA qn qc] 207) = W := ⟨_, rfl⟩
      rw [hW] at ha1 ha2 ha3 HDA HMA ⊢
      clear hW
      refine wp_region_in [0, 0, 0, 1, 0, 1, 0, 1, 3] [8] (fun w' => w'.cell? ⟨p, 1, none⟩ = some (.map (some bd)) ∧ w'.cell? ⟨wr.heap.size, 0, none⟩ = some (.int .i64 q1) ∧ w'.cell? ⟨wr.heap.size, 1, none⟩ = some (.slice qA qn qc)) (by kernel_rfl) rfl (by kernel_rfl) (fun _ _ _ _ h => h) ⟨ha1, ha2, ha3⟩ ?_
      iterate 8 (first
        | (refine in_off0 (by rfl) ?_; simp only [Act.put, stA, stZ, stS, i64_w, i32_w])
        | (refine in_off1 (by rfl) ?_; simp only [Act.put, stA, stZ, stS, i64_w, i32_w])
        | (refine in_0 (v := ?_) (by rfl) rfl ?_ (a' := ?_) ?_ ?_; rotate_left; (intro w'; go_simp; with_reducible rfl); rotate_left; (simp only [Act.put, stA, stZ, stS, i64_w, i32_w]; rfl))
        | (refine in_1 (v := ?_) (by rfl) rfl ?_ (a' := ?_) ?_ ?_; rotate_left; (rintro w' hs; go_split_ands; go_simp; with_reducible rfl); rotate_left; (simp only [Act.put, stA, stZ, stS, i64_w, i32_w]; rfl)))
      refine in_3 (by rfl) (fun K hK => ?_)
      refine wp_im_store _ _ _ _ rfl Tryz.underlying3 Tryz.underlying98 (by decide) rfl (HDA.out.kept (w1 := W.drew) rfl) q1 (by omega) rfl _ rfl ?_
      intro w4 hmd4 hmod4 hsz4
      refine hK _ _ ?_
      clear hK K
      try simp only [Act.put, stA, stZ, stS, i64_w, i32_w]
      refine out_nil ?_
      have HMD4 := Aside0.mk hmd4
      have HM4 := Aside0.mk (HMA.out.drew.trans hmod4 (fun _ _ e => e))
      clear hmd4 hmod4 ha1 ha2 ha3
      go_wp2
      go_roundg g
      case measure => omega
      case rel => exact ⟨k + 1, by omega, by go_num, HM4, ⟨by rw [HSN.out]; exact HMD4.out⟩⟩
theorem DiskIs.ops {w : World} {D : Nat → Prop} {p : Nat} {L : List (List Int)} {m : Nat} (h : DiskIs w D p L m) : ∃ x : Int, w.cell? ⟨p, 4, none⟩ = some (.int .i64 x) ∧ w.frozen? ⟨p, 4, none⟩ = false ∧ p < w.heap.size ∧ ∀ y : Int, DiskIs (w.setCell ⟨p, 4, none⟩ (.int .i64 y)) D p L m ∧ D p := by
  obtain ⟨bd, bn, pv, ops, fd, fn, pend, h⟩ := h
  refine ⟨ops, h.st.cell 4 _ rfl, h.st.free 4, h.st.lt, fun y => ⟨⟨bd, bn, pv, y, fd, fn, pend, ?_⟩, h.dp⟩⟩
  have hm : Mod w (w.setCell ⟨p, 4, none⟩ (.int .i64 y)) (· = p) := (Mod.refl _ _).set_own 4 _
  have hne1 : (168 : TypeId) ≠ 207 := by decide
  have hne3 : (5 : TypeId) ≠ 168 := by decide
  exact ⟨h.st.set 4 _, h.dp, h.dd, h.dn, h.ne, h.md.mod hm (h.st.not_map h.md), h.mn.mod hm (h.st.not_map h.mn), own_mod h.row hm (by rintro g hg rfl; exact own_not_strc h.row h.st hne1 hg), h.drow, h.lo, h.hi, h.new,
    fun n hn => (h.cont n hn).kept (fun g hd hr => hm.block g hr.lt (h.st.not_row hr hne3.symm)), h.short, h.most, h.pok⟩
theorem DiskIs.n {w : World} {D : Nat → Prop} {p : Nat} {L : List (List Int)} {m : Nat} (h : DiskIs w D p L m) : w.cell? ⟨p, 0, none⟩ = some (.int .i64 L.length) ∧ 128 ≤ L.length ∧ L.length ≤ 4096 ∧ D p ∧ p < w.heap.size := by
  obtain ⟨bd, bn, pv, ops, fd, fn, pend, h⟩ := h
  exact ⟨h.st.cell 0 _ rfl, h.lo, h.hi, h.dp, h.st.lt⟩
set_option maxHeartbeats 1000000 in
theorem flush_calls {D : Nat → Prop} {p : Nat} {L : List (List Int)} {m : Nat} (w : World) (h : DiskIs w D p L m) :
    Calls Tryz.prog 109 #[.pointer (some ⟨p, 0, none⟩)] w fun e w' => e = .returned (.tuple #[]) ∧ DiskIs w' D p L 0 ∧ Mod w w' D := by
  obtain ⟨h0, hlo, hhi, _, _⟩ := h.n
  have H := Aside0.mk h
  clear h
  go_enter Tryz.func109, Tryz.ntmps109
  have hne : ((L.length : Int) == 0) = false := by rw [beq_eq_false_iff_ne]; omega
  go_wp2_with (first
    | (go_at_call 102; refine (dblocks_calls h0).mono ?_; rintro e w' ⟨rfl, rfl⟩)
    | (go_at_call 161; refine (settle_calls _ H.out).mono ?_; rintro e w1 ⟨rfl, hd1, hm1⟩; obtain ⟨x, hx1, hx2, hx3, hx4⟩ := hd1.ops; have HX := Aside0.mk hx4; have HM1 := Aside0.mk hm1; clear hd1 hx4 hm1))
  go_end0
  refine ⟨rfl, (HX.out _).1, HM1.out.setCell (fun _ => (HX.out 0).2) _⟩
set_option maxHeartbeats 1000000 in
theorem dnew_calls (n : Nat) (w : World) (h0 : 128 ≤ n) (h1 : n ≤ 4096) :
    Calls Tryz.prog 45 #[.int .i64 n] w fun e w' => ∃ p, e = .returned (.tuple #[.pointer (some ⟨p, 0, none⟩), .int .i64 0]) ∧ DiskIs w' (fun k => w.heap.size ≤ k ∧ k < w'.heap.size) p (List.replicate n zeros) 0 ∧ Below w.heap.size w w' := by
  have hmm := @run_makeMap Tryz.prog
  go_enter Tryz.func45, Tryz.ntmps45
  have i1 : ¬ (n : Int) < 128 := by omega
  have i2 : ¬ (n : Int) > 4096 := by omega
  go_wp2
  go_ret2
  have b1 : Below w.heap.size w (w.alloc (.map #[] 0)) := below_alloc (Below.refl _ _) _
  have b2 := below_alloc b1 (.map #[] 0)
  have m1 : IM Tryz.prog 3 (w.alloc (.map #[] 0)) w.heap.size 4096 (fun _ => none) := IM.made w
  have m2 : IM Tryz.prog 3 ((w.alloc (.map #[] 0)).alloc (.map #[] 0)) (w.heap.size + 1) 4096 (fun _ => none) := by
    have := IM.made (P := Tryz.prog) (kt := 3) (N := 4096) (w.alloc (.map #[] 0))
    rwa [World.size_alloc] at this
  have m1' := m1.below (below_alloc (Below.refl _ _) (.map #[] 0))
  refine ⟨w.heap.size + 1 + 1, rfl, ⟨w.heap.size, w.heap.size + 1, .slice none 0 0, 0, fun _ => none, fun _ => none, [], ?_⟩, below_alloc b2 _⟩
  have hz : ∀ k, k < n → (List.replicate n zeros).getD k [] = zeros := fun k hk => by simp [List.getD_eq_getElem?_getD, hk]
  refine ⟨?_, ⟨by omega, by simp⟩, ⟨Nat.le_refl _, by simp; omega⟩, ⟨by omega, by simp⟩, by omega, m1'.below (below_alloc (Below.refl _ _) _), m2.below (below_alloc (Below.refl _ _) _), own_nil _ _ _ _, by simp [Value.ownBlock], by simpa using h0, by simpa using h1, fun _ => rfl, fun k hk => ?_, Nat.le_refl _, by omega, by simp⟩
  · rw [List.length_replicate]
    exact alloc_at _ _ _ (by simp)
  · rw [List.length_replicate] at hk
    exact hz k hk
theorem forget1_calls (k x : Int) (p : Addr) (w : World) (hp : w.cell? p = some (.int .i64 x)) : Calls Tryz.prog 149 #[.int .i64 k, .pointer (some p)] w fun e w' => e = .returned (.bool (k == x)) ∧ w = w' := by
  go_enter Tryz.func149, Tryz.ntmps149
  go_wp2
  go_ret
  exact ⟨rfl, rfl⟩
set_option maxHeartbeats 1000000 in
set_option maxRecDepth 100000 in
theorem indexf_calls (A : Option Addr) (c : Nat) (l : List Int) (x : Int) (p : Addr) (w : World) (hl : Kd.C (Kd.int .i64) w A l.length l) (hn : l.length ≤ 1000) (hp : w.cell? p = some (.int .i64 x)) :
    Calls Tryz.prog 180 #[.slice A l.length c, .func (.func 149) #[] #[.pointer (some p)]] w fun e w' => ∃ r : Int, e = .returned (.int .i64 r) ∧ w = w' ∧ ((r = -1 ∧ ∀ j, j < l.length → l.getD j 0 ≠ x) ∨ ∃ i : Nat, r = i ∧ i < l.length) := by
  have HL := Aside0.mk hl
  clear hl
  go_enter Tryz.func180, Tryz.ntmps180
  go_wp2
  go_loopg [5, 8] l.length (fun g u i wr => ∃ k : Nat, k + g = l.length ∧ i = .int .i64 k ∧ Aside0 (∀ j, j < k → l.getD j 0 ≠ x) ∧ w = wr)
  case atStart => exact ⟨0, by omega, rfl, ⟨fun j hj => absurd hj (by omega)⟩, rfl⟩
  case round =>
    obtain ⟨k, hk, rfl, HN, rfl⟩ := hrel
    cases gk with
    | zero =>
      obtain rfl : k = l.length := by omega
      go_wp2
      go_ret
      exact ⟨-1, rfl, rfl, .inl ⟨rfl, HN.out⟩⟩
    | succ g =>
      obtain ⟨ad, rfl, hc⟩ := C_int_at HL.out k (by omega)
      obtain ⟨y, hy⟩ : ∃ y, l.getD k 0 = y := ⟨_, rfl⟩
      rw [hy] at hc
      have HY := Aside0.mk hy
      have i1 : (k : Int) < (l.length : Int) := by omega
      have i2 : k < l.length := by omega
      clear hy
      by_cases hyx : y = x
      · subst hyx
        have hb : (y == y) = true := by simp
        go_wp2_with (go_at_call 149; refine (forget1_calls _ _ _ _ hp).mono ?_; rintro e w' ⟨rfl, rfl⟩)
        go_ret
        exact ⟨k, rfl, rfl, .inr ⟨k, rfl, i2⟩⟩
      · have hb : (y == x) = false := by simpa using hyx
        go_wp2_with (go_at_call 149; refine (forget1_calls _ _ _ _ hp).mono ?_; rintro e w' ⟨rfl, rfl⟩)
        go_roundg g
        case measure => omega
        case rel => exact ⟨k + 1, by omega, by go_num, ⟨fun j hj => by
          by_cases e : j = k
          · subst e
            rw [HY.out]
            exact hyx
          · exact HN.out j (by omega)⟩, rfl⟩
theorem own_set {w : World} {base e g n c : Nat} {k : IntKind} {l : List Int} (h : w.ownsRow base e 1 (.slice (some ⟨g, 0, none⟩) n c) n (nums k l)) (j : Nat) (x : Int) (hj : j < n) : (w.setCell ⟨g, j, none⟩ (.int k x)).ownsRow base e 1 (.slice (some ⟨g, 0, none⟩) n c) n (nums k (l.set j x)) := by
  have hl : (nums k l).length = n * 1 := h.1
  refine ⟨by rw [nums_length, List.length_set]; rw [nums_length] at hl; exact hl, ?_⟩
  rcases h.2 with ⟨h0, _⟩ | ⟨g', cap, cur, hv, hb, hh, h1, h2, h3, h4⟩
  · cases h0
  · cases hv
    refine .inr ⟨g, c, cur.setIfInBounds j (.int k x), rfl, hb, ?_, h1, h2, by simpa using h3, ?_⟩
    · unfold World.setCell
      simp only [Array.getElem?_modify, if_true, hh, Option.map_some]
      simp
    · rw [Array.toList_setIfInBounds, List.take_set, h4]
      simp [nums, List.map_set]
theorem own_take {w : World} {base e g n c : Nat} {k : IntKind} {l : List Int} (h : w.ownsRow base e 1 (.slice (some ⟨g, 0, none⟩) n c) n (nums k l)) (i : Nat) (hi : i ≤ n) : w.ownsRow base e 1 (.slice (some ⟨g, 0, none⟩) i c) i (nums k (l.take i)) := by
  have hl : (nums k l).length = n * 1 := h.1
  refine ⟨by rw [nums_length, List.length_take]; rw [nums_length] at hl; omega, ?_⟩
  rcases h.2 with ⟨h0, _⟩ | ⟨g', cap, cur, hv, hb, hh, h1, h2, h3, h4⟩
  · cases h0
  · cases hv
    refine .inr ⟨g, c, cur, rfl, hb, hh, by omega, h2, h3, ?_⟩
    have : cur.toList.take (i * 1) = (cur.toList.take (n * 1)).take (i * 1) := by rw [List.take_take, Nat.min_eq_left (by omega)]
    rw [this, h4, Nat.mul_one]
    simp [nums, List.map_take]
theorem own_sets {base e g n c : Nat} {k : IntKind} (x : Int) (m : Nat) : ∀ (o : Nat) (w : World) (l : List Int), w.ownsRow base e 1 (.slice (some ⟨g, 0, none⟩) n c) n (nums k l) → o + m ≤ n →
    (∃ l', (w.setCells g o (List.replicate m (.int k x))).ownsRow base e 1 (.slice (some ⟨g, 0, none⟩) n c) n (nums k l') ∧ l'.length = l.length ∧ l'.take o = l.take o) ∧ Mod w (w.setCells g o (List.replicate m (.int k x))) (· = g) := by
  induction m with
  | zero => intro o w l h _; exact ⟨⟨l, h, rfl, rfl⟩, Mod.refl _ _⟩
  | succ m ih =>
    intro o w l h ho
    have h1 := own_set h o x (by omega)
    obtain ⟨⟨l', h2, h3, h4⟩, hm⟩ := ih (o + 1) _ _ h1 (by omega)
    refine ⟨⟨l', h2, by rw [h3, List.length_set], ?_⟩, ((Mod.refl w (· = g)).set_own o _).trans hm (fun _ _ e => e)⟩
    have h5 : (l'.take (o + 1)).take o = ((l.set o x).take (o + 1)).take o := by rw [h4]
    rw [List.take_take, List.take_take, Nat.min_eq_left (by omega)] at h5
    rw [h5, List.take_set_of_le (by omega)]
theorem infoIntS : (Tryz.prog.info? 3).map (fun i => (i.zero, i.size, i.bytes)) = some (some (.int .i64 0), 1, 8) := by kernel_rfl
theorem zero_int (w : World) : (zeroValue 3).run Tryz.prog w = .ok (.int .i64 0) w := by kernel_rfl
set_option maxHeartbeats 2000000 in
set_option maxRecDepth 100000 in
theorem deletef_calls (base : Nat) (v : Value) (l : List Int) (x : Int) (p : Addr) (w : World) (h : w.ownsRow base 3 1 v l.length (nums .i64 l)) (hn : l.length ≤ 1000) (hp : w.cell? p = some (.int .i64 x)) (hpb : v.ownBlock ≠ some p.block) :
    Calls Tryz.prog 148 #[v, .func (.func 149) #[] #[.pointer (some p)]] w fun e w' => ∃ v' l', e = .returned v' ∧ w'.ownsRow base 3 1 v' l'.length (nums .i64 l') ∧ l'.length ≤ l.length ∧ (0 < l.length → l.getD 0 0 = x → l'.length < l.length) ∧ (∀ x ∈ l', x ∈ l) ∧ (∀ g, v'.ownBlock = some g → v.ownBlock = some g) ∧ Mod w w' (fun k => v.ownBlock = some k) := by
  obtain ⟨A, c, rfl, hc, hA, _, _⟩ := own_shape h
  have hrd : Kd.C (Kd.int .i64) w A l.length l := by
    obtain ⟨A', c', e, _, hk⟩ := Own.reads (k := .i64) (show Own w base 3 .i64 (.slice A l.length c) l from h)
    cases e
    exact hk
  have HIX := Aside0.mk (indexf_calls A c l x p w hrd hn hp)
  have H := Aside0.mk h
  clear hrd h
  go_enter Tryz.func148, Tryz.ntmps148
  go_wp2_with fail
  refine HIX.out.mono ?_
  rintro e w' ⟨r, rfl, rfl, hr⟩
  dsimp only
  rcases hr with ⟨rfl, hno⟩ | ⟨i0, rfl, hi0⟩
  · go_wp2
    go_ret
    exact ⟨_, l, rfl, H.out, Nat.le_refl _, fun h0 h1 => absurd h1 (hno 0 h0), fun _ => id, fun _ => id, Mod.refl _ _⟩
  · have hneg : ((i0 : Int) == -1) = false := by rw [beq_eq_false_iff_ne]; omega
    obtain ⟨gb, rfl⟩ : ∃ gb, A = some ⟨gb, 0, none⟩ := by
      rcases H.out.2 with ⟨h0, h1⟩ | ⟨gb, cap, cur, h0, _⟩
      · omega
      · cases h0; exact ⟨gb, rfl⟩
    have hpg : ¬ p.block = gb := fun e => hpb (by rw [e]; rfl)
    go_wp2
    go_loopg [5, 6, 7] (l.length - i0 - 1) (fun g i j v wr => ∃ (ii jj : Nat) (lr : List Int), i = .int .i64 ii ∧ j = .int .i64 jj ∧ ii < jj ∧ jj + g = l.length ∧ Aside0 (∀ x ∈ lr, x ∈ l) ∧ Aside0 (wr.ownsRow base 3 1 (.slice (some ⟨gb, 0, none⟩) l.length c) l.length (nums .i64 lr)) ∧ Aside0 (Mod w wr (· = gb)))
    case atStart => exact ⟨i0, i0 + 1, l, rfl, by go_num, by omega, by omega, ⟨fun _ => id⟩, H, ⟨Mod.refl _ _⟩⟩
    case round =>
      obtain ⟨ii, jj, lr, rfl, rfl, hij, hjg, HIN, HO, HM⟩ := hrel
      have hlr : lr.length = l.length := by have := HO.out.1; rw [nums_length, Nat.mul_one] at this; exact this
      have HLR := Aside0.mk hlr
      clear hlr
      cases gk with
      | zero =>
        obtain rfl : jj = l.length := by omega
        have hrow := HO.out
        have hcl : ∀ ty, (Builtin.clear_ #[105] ty #[.slice (some ⟨gb, ii, none⟩) (l.length - ii) (c - ii)]).run Tryz.prog wr = .ok (.tuple #[]) (wr.setCells gb ii (List.replicate (l.length - ii) (.int .i64 0))) := fun ty => by
          obtain ⟨_, h2⟩ := hrow
          rcases h2 with ⟨h0, _⟩ | ⟨g', cap, cur, hv, hb, hh, h1, h2, h3, h4⟩
          · cases h0
          · cases hv
            refine Lib.run_clear_slice wr 105 3 ty (.int .i64 0) Tryz.underlying105 zero_int rfl rfl gb ii _ _ (by omega) (fun j hj => ?_) (fun j hj => ?_)
            · rw [cell_of_row wr gb _ cur _ _ hh]
              simp
              omega
            · simp [World.frozen?, hh]
        obtain ⟨⟨l', ho', hl', htk⟩, hm'⟩ := own_sets (x := 0) (l.length - ii) ii wr lr hrow (by omega)
        have HO2 := Aside0.mk (own_take ho' ii (by omega))
        have HM2 := Aside0.mk (HM.out.trans hm' (fun _ _ e => e))
        have hln : (l'.take ii).length = ii := by rw [List.length_take, hl', HLR.out]; omega
        have HLN := Aside0.mk hln
        have HSUB := Aside0.mk (show ∀ x ∈ l'.take ii, x ∈ l from fun x hx => HIN.out x (by rw [htk] at hx; exact List.mem_of_mem_take hx))
        clear ho' hm' hrow hl' hln htk
        go_wp2
        go_ret
        exact ⟨_, l'.take ii, rfl, by rw [HLN.out]; exact HO2.out, by rw [HLN.out]; omega, fun _ _ => by rw [HLN.out]; omega, HSUB.out, fun g hg => hg, HM2.out.mono (fun k _ e => by rw [e]; rfl)⟩
      | succ g =>
        have hy0 : wr.cell? ⟨gb, jj, none⟩ = some (.int .i64 (lr.getD jj 0)) := by
          have := HO.out.cells (g := gb) rfl jj (.int .i64 (lr.getD jj 0)) (by simp [nums, List.getD_eq_getElem?_getD, HLR.out, show jj < l.length by omega])
          rwa [add_plain] at this
        have hy1 : (wr.cell? ⟨gb, ii, none⟩).isSome = true := by
          have := HO.out.cells (g := gb) rfl ii (.int .i64 (lr.getD ii 0)) (by simp [nums, List.getD_eq_getElem?_getD, HLR.out, show ii < l.length by omega])
          rw [add_plain] at this
          rw [this]
          rfl
        have hy2 : wr.cell? ⟨gb, ii, none⟩ = some (.int .i64 (lr.getD ii 0)) := by
          have := HO.out.cells (g := gb) rfl ii (.int .i64 (lr.getD ii 0)) (by simp [nums, List.getD_eq_getElem?_getD, HLR.out, show ii < l.length by omega])
          rwa [add_plain] at this
        have hfz : wr.frozen? ⟨gb, ii, none⟩ = false := by
          rcases HO.out.2 with ⟨h0, _⟩ | ⟨g', cap, cur, hv, hb, hh, h1, h2, h3, h4⟩
          · cases h0
          · cases hv; simp [World.frozen?, hh]
        have hpp := HM.out.cell hp hpg
        obtain ⟨y, hy⟩ : ∃ y, lr.getD jj 0 = y := ⟨_, rfl⟩
        obtain ⟨z, hz⟩ : ∃ z, lr.getD ii 0 = z := ⟨_, rfl⟩
        rw [hy] at hy0
        rw [hz] at hy2
        have HSET := Aside0.mk (own_set HO.out ii y (by omega))
        have HYM := Aside0.mk (show y ∈ l from HIN.out y (by rw [← hy, List.getD_eq_getElem?_getD, List.getElem?_eq_getElem (by rw [HLR.out]; omega)]; exact List.getElem_mem _))
        have i1 : (jj : Int) < (l.length : Int) := by omega
        have i2 : jj < l.length := by omega
        have i3 : (ii : Int) < (l.length : Int) := by omega
        have i4 : ii < l.length := by omega
        clear hy hz
        cases hyx : (y == x)
        · go_wp2_with (go_at_call 149; (refine (forget1_calls _ _ _ _ hpp).mono ?_; rintro e w' ⟨rfl, rfl⟩; rw [hyx]))
          go_roundg g
          case measure => omega
          case rel => exact ⟨ii + 1, jj + 1, lr.set ii y, by go_num, by go_num, by omega, by omega, ⟨fun x hx => (List.mem_or_eq_of_mem_set hx).elim (HIN.out x) (fun e => e ▸ HYM.out)⟩, HSET, ⟨HM.out.set_own _ _⟩⟩
        · go_wp2_with (go_at_call 149; (refine (forget1_calls _ _ _ _ hpp).mono ?_; rintro e w' ⟨rfl, rfl⟩; rw [hyx]))
          go_roundg g
          case measure => omega
          case rel => exact ⟨ii, jj + 1, lr, rfl, by go_num, by omega, by omega, HIN, HO, HM⟩
set_option maxHeartbeats 2000000 in
set_option maxRecDepth 100000 in
theorem forget_calls (gs o mb N : Nat) (cs : List Value) (ov : Value) (ol : List Int) (n : Nat) (f : Int → Option Value) (w : World) (hst : Strc w gs 107 cs) (h0 : cs[o]? = some ov) (h1 : cs[o + 1]? = some (.map (some mb)))
    (hov : w.ownsRow 0 3 1 ov ol.length (nums .i64 ol)) (hl : ol.length ≤ 1000) (hm : IM Tryz.prog 3 w mb N f) (hn : n < 9223372036854775808) :
    Calls Tryz.prog 86 #[.pointer (some ⟨gs, o, none⟩), .int .i64 n] w fun e w' => ∃ ov' ol', e = .returned (.tuple #[]) ∧ Strc w' gs 107 (cs.set o ov') ∧ w'.ownsRow 0 3 1 ov' ol'.length (nums .i64 ol') ∧ ol'.length ≤ ol.length ∧ (0 < ol.length → ol.getD 0 0 = n → ol'.length < ol.length) ∧ (∀ x ∈ ol', x ∈ ol) ∧ (∀ g, ov'.ownBlock = some g → ov.ownBlock = some g) ∧
      IM Tryz.prog 3 w' mb N (fun y => if y = (n : Int) then none else f y) ∧ Mod w w' (fun k => k = gs ∨ k = mb ∨ ov.ownBlock = some k) := by
  obtain ⟨A, c, rfl, hc, hA, _, _⟩ := own_shape hov
  have hne1 : (107 : TypeId) ≠ 3 := by decide
  have hng : mb ≠ gs := hst.not_map hm
  have hnm : (Value.slice A ol.length c).ownBlock ≠ some mb := own_not_map hov hm
  have hns : (Value.slice A ol.length c).ownBlock ≠ some gs := own_not_strc hov hst hne1
  have hbox := cell_alloc w #[.int .i64 n] 3 0 _ rfl
  have hb1 : Below w.heap.size w (w.alloc (.cells #[.int .i64 n] 3)) := below_alloc (Below.refl _ _) _
  have hst1 := hst.below hb1
  have hov1 := own_mod hov (Mod.of_below hb1 (fun _ => False)) (fun _ _ => id)
  have hm1 := hm.below hb1
  have hgl := hst.lt
  have hml := hm.lt
  have hol := own_lt hov
  have k0 := hst1.cell o _ h0
  have k1 := hst1.cell (o + 1) _ h1
  have HB1 := Aside0.mk hb1
  have HST1 := Aside0.mk hst1
  have HOV1 := Aside0.mk hov1
  have HM1 := Aside0.mk hm1
  have HC := Aside0.mk (And.intro h0 h1)
  clear hst h0 h1 hov hm hst1 hov1 hm1 hb1
  go_enter Tryz.func86, Tryz.ntmps86
  go_wp2
  generalize hW : w.alloc (.cells #[.int .i64 n] 3) = W at hbox k0 k1 HB1 HST1 HOV1 HM1 ⊢
  have hbl : w.heap.size < W.heap.size := by rw [← hW, World.size_alloc]; omega
  clear hW
  refine wp_region_in [0, 0, 0, 1, 1, 3] [5] (fun w' => w'.cell? ⟨gs, o + 1, none⟩ = some (.map (some mb)) ∧ w'.cell? ⟨w.heap.size, 0, none⟩ = some (.int .i64 n)) (by kernel_rfl) rfl (by kernel_rfl) (fun _ _ _ _ h => h) ⟨k1, hbox⟩ ?_
  iterate 5 (first
    | (refine in_off0 (by rfl) ?_; simp only [Act.put, stA, stZ, stS, i64_w, i32_w])
    | (refine in_off1 (by rfl) ?_; simp only [Act.put, stA, stZ, stS, i64_w, i32_w])
    | (refine in_0 (v := ?_) (by rfl) rfl ?_ (a' := ?_) ?_ ?_; rotate_left; (intro w'; go_simp; with_reducible rfl); rotate_left; (simp only [Act.put, stA, stZ, stS, i64_w, i32_w]; rfl))
    | (refine in_1 (v := ?_) (by rfl) rfl ?_ (a' := ?_) ?_ ?_; rotate_left; (rintro w' hs; go_split_ands; go_simp; with_reducible rfl); rotate_left; (simp only [Act.put, stA, stZ, stS, i64_w, i32_w]; rfl)))
  refine in_3 (by rfl) (fun K hK => ?_)
  refine wp_im_drop _ _ _ rfl Tryz.underlying3 Tryz.underlying98 rfl (HM1.out.kept (w1 := W.drew) rfl) n hn rfl ?_
  intro w2 hm2 hmod2 hsz2
  refine hK _ _ ?_
  clear hK K
  try simp only [Act.put, stA, stZ, stS, i64_w, i32_w]
  refine out_nil ?_
  have hmod2' : Mod W w2 (· = mb) := (Mod.refl W (· = mb)).drew.trans hmod2 (fun _ _ e => e)
  have hst2 := HST1.out.mod hmod2' (fun e => hng e.symm)
  have hov2 := own_mod HOV1.out hmod2' (fun g hg e => hnm (e ▸ hg))
  have hbx2 := hmod2'.cell hbox (show ¬ w.heap.size = mb by omega)
  have HM2 := Aside0.mk hm2
  have HST2 := Aside0.mk hst2
  have HMOD2 := Aside0.mk hmod2'
  have k20 := hst2.cell o _ HC.out.1
  have HDF := Aside0.mk (deletef_calls 0 (.slice A ol.length c) ol n ⟨w.heap.size, 0, none⟩ w2 hov2 hl hbx2 (fun e => by have := hol _ e; simp at this))
  clear hm2 hmod2 hmod2' hst2 hov2 hbx2 k0 k1 hbox
  go_wp2_with fail
  refine HDF.out.mono ?_
  rintro e w3 ⟨v3, l3, rfl, ho3, hle3, hlt3, hsb3, hob3, hm3⟩
  obtain ⟨A3, c3, rfl, _, _, _, _⟩ := own_shape ho3
  have hst3 := HST2.out.mod hm3 hns
  have hz3 := hst3.free o
  have hk3 := hst3.cell o _ HC.out.1
  have hl3 := hst3.lt
  have HST3 := Aside0.mk hst3
  have HO3 := Aside0.mk ho3
  have HM3 := Aside0.mk hm3
  have HP := Aside0.mk (And.intro hle3 (And.intro hlt3 (And.intro hsb3 hob3)))
  clear hst3 ho3 hm3 hle3 hlt3 hsb3 hob3 k20
  dsimp only
  go_wp2
  go_end0
  have hfm : Mod w3 (w3.setCell ⟨gs, o, none⟩ (.slice A3 l3.length c3)) (· = gs) := (Mod.refl _ _).set_own o _
  refine ⟨_, l3, rfl, HST3.out.set o _, own_mod HO3.out hfm (fun g hg e => by subst e; exact hns (HP.out.2.2.2 g hg)), HP.out.1, HP.out.2.1, HP.out.2.2.1, HP.out.2.2.2, (HM2.out.mod HM3.out (fun e => hnm e)).mod hfm hng, ?_⟩
  exact (((Mod.of_below HB1.out _).trans HMOD2.out (fun i _ e => .inr (.inl e))).trans HM3.out (fun i _ e => .inr (.inr e))).trans hfm (fun i _ e => .inl e)
structure ShardAt (w : World) (M R : Nat → Prop) (L : List (List Int)) (room : Nat) (X : Nat → Prop) (cs : List Value) (i : Nat) (ov : Value) (ol : List Int) (mb : Nat) (f : Int → Option Value) : Prop where
  h0 : cs[2 * i]? = some ov
  h1 : cs[2 * i + 1]? = some (.map (some mb))
  own : w.ownsRow 0 3 1 ov ol.length (nums .i64 ol)
  len : ol.length ≤ room
  rng : ∀ x ∈ ol, 0 ≤ x ∧ x < 4096
  mo : ∀ g, ov.ownBlock = some g → M g
  mm : M mb
  nx : ¬ X mb
  map : IM Tryz.prog 3 w mb 4096 f
  good : ∀ x v, f x = some v → HB w R v (L.getD x.toNat [])
def Apart (ns : Nat) (cs : List Value) : Prop := ∀ i j, i < ns → j < ns → i ≠ j → ∀ g oi oj, cs[2 * i]? = some oi → cs[2 * j]? = some oj → oi.ownBlock = some g → oj.ownBlock ≠ some g
def Cache (w : World) (M R : Nat → Prop) (L : List (List Int)) (room ns gs : Nat) (X : Nat → Prop) : Prop :=
  ∃ cs, Strc w gs 107 cs ∧ 2 * ns ≤ cs.length ∧ (∀ i, i < ns → ∃ ov ol mb f, ShardAt w M R L room X cs i ov ol mb f) ∧ Apart ns cs
theorem HB.mod {w w1 : World} {R S : Nat → Prop} {v : Value} {l : List Int} (h : HB w R v l) (hm : Mod w w1 S) (hn : ∀ k, R k → ¬ S k) : HB w1 R v l :=
  h.kept (fun g hd hr => hm.block g hr.lt (hn g hd))
theorem Cache.mod {w w1 : World} {M R S : Nat → Prop} {L : List (List Int)} {room ns gs : Nat} {X : Nat → Prop} (h : Cache w M R L room ns gs X) (hm : Mod w w1 S) (hn : ∀ k, M k → ¬ S k) (hr : ∀ k, R k → ¬ S k) (hg : ¬ S gs) : Cache w1 M R L room ns gs X := by
  obtain ⟨cs, h1, h2, h3, h4⟩ := h
  refine ⟨cs, h1.mod hm hg, h2, fun i hi => ?_, h4⟩
  obtain ⟨ov, ol, mb, f, h⟩ := h3 i hi
  exact ⟨ov, ol, mb, f, ⟨h.h0, h.h1, own_mod h.own hm (fun g hg => hn g (h.mo g hg)), h.len, h.rng, h.mo, h.mm, h.nx, h.map.mod hm (hn _ h.mm), fun x v hx => (h.good x v hx).mod hm hr⟩⟩
set_option maxHeartbeats 1000000 in
set_option maxRecDepth 100000 in
theorem of_calls (s0 gs ns cap n : Nat) (w : World) (h6 : w.cell? ⟨s0, 6, none⟩ = some (.slice (some ⟨gs, 0, none⟩) ns cap)) (h0 : 0 < ns) (h16 : ns ≤ 16) (hn : n < 9223372036854775808) :
    Calls Tryz.prog 55 #[.pointer (some ⟨s0, 0, none⟩), .int .i64 n] w fun e w' => e = .returned (.pointer (some ⟨gs, 2 * (n % ns), none⟩)) ∧ w.drew = w' := by
  obtain ⟨i, hi⟩ : ∃ i, n % ns = i := ⟨_, rfl⟩
  have hil : i < ns := by rw [← hi]; exact Nat.mod_lt _ h0
  have ht : (n : Int).tmod (ns : Int) = (i : Int) := by rw [Int.tmod_eq_emod_of_nonneg (by omega), ← hi]; omega
  have HT := Aside0.mk ht
  rw [hi]
  have i0 : ¬ (ns : Int) = 0 := by omega
  have i1 : (i : Int) < (ns : Int) := by omega
  have i2 : ((ns : Int) == 0) = false := by rw [beq_eq_false_iff_ne]; omega
  have i3 : ¬ ns = 0 := by omega
  clear hi ht
  go_enter Tryz.func55, Tryz.ntmps55
  go_wp2
  have ht := HT.out
  refine wp_region_in [0, 0, 0, 1, 0, 0, 0, 0, 1, 0, 0, 0, 0] [] (fun w' => w'.cell? ⟨s0, 6, none⟩ = some (.slice (some ⟨gs, 0, none⟩) ns cap)) (by kernel_rfl) rfl (by kernel_rfl) (fun _ _ _ _ h => h) h6 ?_
  iterate 13 (first
    | (refine in_off0 (by rfl) ?_; simp only [Act.put, stA, stZ, stS, i64_w, i32_w])
    | (refine in_off1 (by rfl) ?_; simp only [Act.put, stA, stZ, stS, i64_w, i32_w])
    | (refine in_0 (v := ?_) (by rfl) rfl ?_ (a' := ?_) ?_ ?_; rotate_left; (intro w'; go_simp; with_reducible rfl); rotate_left; (simp only [Act.put, stA, stZ, stS, i64_w, i32_w]; rfl))
    | (refine in_1 (v := ?_) (by rfl) rfl ?_ (a' := ?_) ?_ ?_; rotate_left; (rintro w' hs; go_split_ands; go_simp; with_reducible rfl); rotate_left; (simp only [Act.put, stA, stZ, stS, i64_w, i32_w]; rfl)))
  refine in_nil ?_
  go_wp2
  go_ret
  refine ⟨?_, rfl⟩
  have : (⟨gs, 0, none⟩ : Addr).add (i * 2) = ⟨gs, 2 * i, none⟩ := by rw [add_plain, Nat.mul_comm]
  first
    | rfl
    | (rw [this])
    | simp [this]
theorem own_row_at {w : World} {base e n : Nat} {v : Value} {k : IntKind} {l : List Int} (h : w.ownsRow base e 1 v n (nums k l)) {g : Nat} (hg : v.ownBlock = some g) : Row w k g e l := by
  rcases h.2 with ⟨rfl, _⟩ | ⟨g', cap, cur, rfl, hb, hh, h1, h2, h3, h4⟩
  · simp [Value.ownBlock] at hg
  · obtain rfl : g' = g := by simpa [Value.ownBlock] using hg
    exact ⟨cur.toList.drop (n * 1), by rw [hh, ← h4, List.take_append_drop]⟩
theorem nums_at (k : IntKind) (l : List Int) (j : Nat) (h : j < l.length) : (nums k l)[j]? = some (.int k (l.getD j 0)) := by
  simp [nums, List.getD_eq_getElem?_getD, h]
theorem cache_turn {w w' : World} {M R : Nat → Prop} {L : List (List Int)} {room ns gs : Nat} {X : Nat → Prop} {cs : List Value} {i : Nat} {ov : Value} {ol : List Int} {mb : Nat} {f : Int → Option Value} {ov' : Value} {ol' : List Int} {f' : Int → Option Value}
    (hst : Strc w gs 107 cs) (hlen : 2 * ns ≤ cs.length) (hall : ∀ i, i < ns → ∃ ov ol mb f, ShardAt w M R L room X cs i ov ol mb f) (hap : Apart ns cs) (hi : i < ns) (hsh : ShardAt w M R L room X cs i ov ol mb f)
    (hMR : ∀ k, M k → ¬ R k) (hMl : ∀ k, M k → k < w.heap.size) (hgR : ¬ R gs)
    (hst' : Strc w' gs 107 (cs.set (2 * i) ov')) (hown : w'.ownsRow 0 3 1 ov' ol'.length (nums .i64 ol')) (hl : ol'.length ≤ room) (hrng : ∀ x ∈ ol', 0 ≤ x ∧ x < 4096) (hblk : ∀ g, ov'.ownBlock = some g → ov.ownBlock = some g ∨ w.heap.size ≤ g)
    (hm : IM Tryz.prog 3 w' mb 4096 f') (hgood : ∀ x v, f' x = some v → HB w' R v (L.getD x.toNat [])) (hmod : Mod w w' (fun k => k = gs ∨ k = mb ∨ ov.ownBlock = some k)) :
    Cache w' (fun k => M k ∨ ov'.ownBlock = some k) R L room ns gs X := by
  have hne1 : (107 : TypeId) ≠ 3 := by decide
  refine ⟨cs.set (2 * i) ov', hst', by rw [List.length_set]; exact hlen, fun j hj => ?_, fun a b ha hb hab g oa ob hoa hob hga => ?_⟩
  · by_cases e : j = i
    · subst e
      refine ⟨ov', ol', mb, f', ⟨?_, ?_, hown, hl, hrng, fun g hg => .inr hg, .inl hsh.mm, hsh.nx, hm, hgood⟩⟩
      · rw [List.getElem?_set_self (by omega)]
      · rw [List.getElem?_set_ne (by omega)]; exact hsh.h1
    · obtain ⟨oj, lj, mj, fj, h⟩ := hall j hj
      have hjo : w'.ownsRow 0 3 1 oj lj.length (nums .i64 lj) := own_mod h.own hmod (fun g hg => by
        rintro (e1 | e1 | e1)
        · subst e1; exact own_not_strc h.own hst hne1 hg
        · subst e1; exact own_not_map h.own hsh.map hg
        · exact hap i j hi hj (fun e2 => e e2.symm) g ov oj hsh.h0 h.h0 e1 hg)
      by_cases em : mj = mb
      · subst em
        exact ⟨oj, lj, mj, f', ⟨by rw [List.getElem?_set_ne (by omega)]; exact h.h0, by rw [List.getElem?_set_ne (by omega)]; exact h.h1, hjo, h.len, h.rng, fun g hg => .inl (h.mo g hg), .inl h.mm, h.nx, hm, hgood⟩⟩
      · refine ⟨oj, lj, mj, fj, ⟨by rw [List.getElem?_set_ne (by omega)]; exact h.h0, by rw [List.getElem?_set_ne (by omega)]; exact h.h1, hjo, h.len, h.rng, fun g hg => .inl (h.mo g hg), .inl h.mm, h.nx, h.map.mod hmod ?_, fun x v hx => (h.good x v hx).mod hmod ?_⟩⟩
        · rintro (e1 | e1 | e1)
          · exact hst.not_map h.map e1
          · exact em e1
          · exact own_not_map hsh.own h.map e1
        · rintro k hk (e1 | e1 | e1)
          · exact hgR (e1 ▸ hk)
          · exact hMR k (e1 ▸ hsh.mm) hk
          · exact hMR k (hsh.mo k e1) hk
  · by_cases ea : a = i
    · subst ea
      rw [List.getElem?_set_self (by omega)] at hoa
      cases hoa
      rw [List.getElem?_set_ne (by omega)] at hob
      obtain ⟨oj, lj, mj, fj, h⟩ := hall b hb
      rw [h.h0] at hob
      cases hob
      rcases hblk g hga with h1 | h1
      · exact hap a b ha hb hab g ov _ hsh.h0 h.h0 h1
      · intro h2
        have := own_lt h.own g h2
        omega
    · rw [List.getElem?_set_ne (by omega)] at hoa
      by_cases eb : b = i
      · subst eb
        rw [List.getElem?_set_self (by omega)] at hob
        cases hob
        obtain ⟨oj, lj, mj, fj, h⟩ := hall a ha
        rw [h.h0] at hoa
        cases hoa
        intro h2
        rcases hblk g h2 with h1 | h1
        · exact hap a b ha hb hab g _ ov h.h0 hsh.h0 hga h1
        · have := own_lt h.own g hga
          omega
      · rw [List.getElem?_set_ne (by omega)] at hob
        exact hap a b ha hb hab g oa ob hoa hob hga
end Go.Proofs.YtkmhilhfmfmckaaGreatDoor.Hand
