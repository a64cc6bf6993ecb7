/- The document's block of entries, walked: what it packs is what the program packs. -/
import Derived.Test.YtjggkaieagbjmaaRpack0
import Derived.Test.YtjggkaieagbjmaaOrd0
namespace Go.Proofs.Ytjggkaieagbjmaa.Hand
set_option linter.unusedVariables false
set_option linter.unusedSimpArgs false
open Go.Shelf Go.RowKit Go.Proofs.YtjggkaieagbjmaaW.PrintWords Go.Proofs.YtjggkaieagbjmaaW.PrintLast Go.Proofs.YtjggkaieagbjmaaW.PrintMore

theorem rcheck_calls' (s : ByteArray) (w : World) :
    Calls Try.prog 12 #[.string s] w fun e w' => e = .returned (.int .i64 (chkI s)) ∧ Below w.heap.size w w' :=
  (rcheck_calls s w).mono fun e w' h => ⟨h.1, h.2 ▸ Below.refl _ _⟩

set_option maxHeartbeats 16000000 in
set_option maxRecDepth 100000 in
theorem rpack_calls (A : Option Addr) (c : Nat) (s : Int) (l : List Ent) (w : World) (hl : Ents w A l) (hs0 : 0 ≤ s) (hs1 : s < 4294967296) :
    Calls Try.prog 18 #[.slice A l.length c, .int .u32 s] w (PackPost l s w) := by
  have HL := Aside0.mk hl
  have hsz := hl.size
  clear hl
  have hmk : ∀ w : World, (Instr.makeSlice 30 (.int .i64 256) (.int .i64 256)).run Try.prog w = .ok (.slice (some ⟨w.heap.size, 0, none⟩) 256 256) (noughts w) := make256
  go_enter Try.func18, Try.ntmps18
  go_wp2
  go_loopg [6] l.length (fun g i wr => ∃ k : Nat, k + g = l.length ∧ i = .int .i64 k ∧ Aside0 (Below w.heap.size w wr) ∧ Aside0 (Looked l k))
  case atStart => exact ⟨0, by omega, rfl, ⟨Below.refl _ _⟩, ⟨fun j hj => absurd hj (by omega)⟩⟩
  case round =>
    obtain ⟨k, hk, rfl, HB, HK⟩ := hrel
    cases gk with
    | zero =>
      obtain rfl : k = l.length := by omega
      have HE := Aside0.mk (HL.out.below HB.out)
      have H60 := Aside0.mk (fun (j : Nat) (hj : j < l.length) => chk_size (HK.out j hj).2.2.2.2.1)
      have hall : entsOk l := fun j hj => HK.out j hj
      obtain ⟨y, hy⟩ : ∃ y, sizeI l = y := ⟨_, rfl⟩
      have hpk : packI l s = if 250 < y then ([], 28) else (sealL (pad (packB l)) s, 0) := by unfold packI; rw [if_pos hall, hy]
      have hsw := sizeW_I H60.out hsz
      rw [hy] at hsw
      have HP := Aside0.mk hpk
      have HY := Aside0.mk hy
      have HSW := Aside0.mk hsw
      have HSZ := Aside0.mk (rsize_calls A c l wr HE.out (fun j hj => Nat.le_trans (H60.out j hj) (by omega)))
      rw [hsw] at HSZ
      have HALL := Aside0.mk hall
      clear hpk hall hy hsw
      by_cases h250 : 250 < y
      · go_wp2_with fail
        refine HSZ.out.mono ?_
        rintro e w1 ⟨rfl, rfl⟩
        go_wp2
        go_ret2
        exact ⟨.slice none 0 0, by rw [HP.out, if_pos h250]; rfl, by rw [HP.out, if_pos h250]; exact Kd.R_nil _ _ _ _ _, HB.out⟩
      · have HN := Aside0.mk (show Row (noughts wr) .u8 wr.heap.size 5 (pad []) from alloc_last _ _)
        have HB1 := Aside0.mk (show Below w.heap.size w (noughts wr) from below_alloc HB.out _)
        have hgs := HB.out.size
        have hn0 := HN.out.cell 0 (by rw [pad_length _ (by simp)]; omega)
        have hz0 := HN.out.free 0
        go_wp2_with fail
        refine HSZ.out.mono ?_
        rintro e w1 ⟨rfl, rfl⟩
        go_upto_region 11 with fail
        have HN1 := Aside0.mk (row_pad HN.out 0 1 rfl (by simp))
        have HB2 := Aside0.mk (below_set_new HB1.out hgs 0 (.int .u8 1))
        clear hn0 hz0
        generalize (noughts wr).setCell ⟨wr.heap.size, 0, none⟩ (.int .u8 1) = w2 at HN1 HB2 ⊢
        generalize wr.heap.size = g at hgs HN1 ⊢
        have hn1 := HN1.out.cell 1 (by rw [pad_length _ (by simp)]; omega)
        have hz1 := HN1.out.free 1
        go_wp2
        have HN2 := Aside0.mk (row_pad HN1.out 1 ((l.length : Int) % 256) rfl (by simp))
        have HB3 := Aside0.mk (below_set_new HB2.out hgs 1 (.int .u8 ((l.length : Int) % 256)))
        clear hn1 hz1
        generalize w2.setCell ⟨g, 1, none⟩ (.int .u8 ((l.length : Int) % 256)) = w3 at HN2 HB3 ⊢
        obtain ⟨q0, hq0⟩ : ∃ q0, [1, (l.length : Int) % 256] = q0 := ⟨_, rfl⟩
        have hq2 : q0.length = 2 := by rw [← hq0]; rfl
        have HQ2 := Aside0.mk hq2
        have HQ0 := Aside0.mk hq0
        have HN3 : Aside0 (Row w3 .u8 g 5 (pad q0)) := ⟨by rw [← hq0]; exact HN2.out⟩
        have HLEN := Aside0.mk (fun k (hk : k ≤ l.length) => pack_len l k hk (by rw [HY.out]; omega))
        rw [hq0] at HLEN
        clear hq0 hq2 HN2
        go_loopg [9, 10] l.length (fun gg a i wr => ∃ k : Nat, k + gg = l.length ∧ a = .int .i64 ((q0 ++ (l.take k).flatMap entB).length : Nat) ∧ i = .int .i64 k ∧ Aside0 (Row wr .u8 g 5 (pad (q0 ++ (l.take k).flatMap entB))) ∧ Aside0 (Below w.heap.size w wr))
        case atStart => exact ⟨0, by omega, by simp [HQ2.out], rfl, ⟨by simpa using HN3.out⟩, HB3⟩
        case round =>
          obtain ⟨k, hk, rfl, rfl, HR, HBr⟩ := hrel
          cases gk with
          | zero =>
            obtain rfl : k = l.length := by omega
            have hle := HLEN.out l.length (Nat.le_refl _)
            have hrr := HR.out
            have hpb : q0 ++ l.flatMap entB = packB l := by rw [← HQ0.out]; rfl
            rw [List.take_length, hpb] at hrr
            rw [List.take_length, hpb] at hle
            have hsc := rseal_calls g 252 256 s wr (pad (packB l)) hrr (pad_length _ (by omega)) (by omega) (by omega) hs0 hs1 (allB_pad (allB_packB l))
            have HSC := Aside0.mk hsc
            have hsl : (sealL (pad (packB l)) s).length = 256 := by unfold sealL; rw [layL_length]; exact pad_length _ (by omega)
            have HSL := Aside0.mk hsl
            clear hsc hrr hle hpb hsl
            go_wp2_with fail
            refine HSC.out.mono ?_
            rintro e w5 ⟨rfl, hr5, hm5⟩
            dsimp only
            go_wp2
            go_ret2
            refine ⟨.slice (some ⟨g, 0, none⟩) 256 256, ?_, ?_, below_mod HBr.out hm5 hgs⟩
            · rw [HP.out, if_neg (Int.not_lt.2 h250)]; rfl
            · rw [HP.out, if_neg (Int.not_lt.2 h250)]
              exact (own_of_row hr5 HSL.out hgs (by simp [maxLen])).to_R
          | succ gg =>
            obtain ⟨ad, rfl, h1, h2, h3⟩ := (HL.out.below HBr.out).cells k (by omega)
            have h60 := H60.out k (by omega)
            have hok := HALL.out k (by omega)
            obtain ⟨hi1, hi2, hk1, hk2, _, _⟩ := hok
            have hlen := HLEN.out (k + 1) (by omega)
            have hsn := packB_snoc l k (by omega)
            obtain ⟨x, hx⟩ : ∃ x, entAt l k = x := ⟨_, rfl⟩
            rw [hx] at h1 h2 h3 h60 hsn hi1 hi2 hk1 hk2
            have HLX := Aside0.mk (fun (W : World) (hW : Below w.heap.size w W) => by
              obtain ⟨ad', e, _, h2, h3⟩ := (HL.out.below hW).cells k (by omega)
              cases e
              rw [hx] at h2 h3
              exact And.intro h2 h3)
            rw [hsn, ← List.append_assoc, List.length_append, entB_length] at hlen
            have HSN := Aside0.mk hsn
            obtain ⟨q, hq⟩ : ∃ q, q0 ++ (l.take k).flatMap entB = q := ⟨_, rfl⟩
            rw [hq] at HR hlen ⊢
            have hsn2 : q0 ++ (l.take (k + 1)).flatMap entB = q ++ entB x := by rw [HSN.out, ← List.append_assoc, hq]
            have HSN2 := Aside0.mk hsn2
            obtain ⟨m, hm⟩ : ∃ m, q.length = m := ⟨_, rfl⟩
            rw [hm] at hlen ⊢
            have hpl : (pad q).length = 256 := pad_length q (by omega)
            have hput := rput_calls g m 2 256 x.ino wr (pad q) HR.out (by rw [hpl]; omega) (by omega) (by omega) (by rw [hpl]; omega) (by omega) (by omega)
            rw [hpl, ← hm, lay2_pad q x.ino (by omega), hm] at hput
            have HPUT := Aside0.mk hput
            have HM := Aside0.mk hm
            have hino : x.ino % 18446744073709551616 = x.ino := by omega
            have HX := Aside0.mk hx
            clear hput hsn hsn2 hx hq hm hpl h2 h3
            go_wp2_with fail
            first | refine HPUT.out.mono ?_ | (rw [hino]; refine HPUT.out.mono ?_)
            rintro e w4 ⟨rfl, hr4, hm4⟩
            dsimp only
            have HB4 := Aside0.mk (below_mod HBr.out hm4 hgs)
            have hlen4 : (q ++ [x.ino % 256, x.ino / 256 % 256]).length = m + 2 := by simp [HM.out]
            have hc4 := hr4.cell (m + 2) (by rw [pad_length _ (by omega)]; omega)
            have hz4 := hr4.free (m + 2)
            have hr5 := row_pad hr4 (m + 2) (x.kind % 256) hlen4.symm (by omega)
            have hk256 : x.kind % 256 = x.kind := by omega
            rw [hk256] at hr5
            have HR5 := Aside0.mk hr5
            have HK6 := Aside0.mk hk256
            clear hr5 hk256
            obtain ⟨h2, h3⟩ := HLX.out w4 HB4.out
            have HR4 := Aside0.mk hr4
            have HL4 := Aside0.mk hlen4
            clear hr4 hm4 hlen4 h3
            go_upto_region 18 with fail
            have HB5 := Aside0.mk (below_set_new HB4.out hgs (m + 2) (.int .u8 x.kind))
            clear hc4 hz4 h2
            generalize w4.setCell ⟨g, m + 2, none⟩ (.int .u8 x.kind) = w5 at HR5 HB5 ⊢
            have hlen5 : (q ++ [x.ino % 256, x.ino / 256 % 256] ++ [x.kind]).length = m + 3 := by simp [HM.out]
            have hc5 := HR5.out.cell (m + 3) (by rw [pad_length _ (by omega)]; omega)
            have hz5 := HR5.out.free (m + 3)
            have HR6 := Aside0.mk (row_pad HR5.out (m + 3) ((x.name.size : Int) % 256) hlen5.symm (by omega))
            obtain ⟨_, h3⟩ := HLX.out w5 HB5.out
            have hn256 : (x.name.size : Int) % 256 = x.name.size := by omega
            rw [hn256] at HR6
            have HN6 := Aside0.mk hn256
            clear hlen5 hn256
            go_wp2
            have HB6 := Aside0.mk (below_set_new HB5.out hgs (m + 3) (.int .u8 (x.name.size : Int)))
            clear hc5 hz5 h3
            generalize w5.setCell ⟨g, m + 3, none⟩ (.int .u8 (x.name.size : Int)) = w6 at HR6 HB6 ⊢
            obtain ⟨q4, hq4⟩ : ∃ q4, q ++ [x.ino % 256, x.ino / 256 % 256] ++ [x.kind] ++ [(x.name.size : Int)] = q4 := ⟨_, rfl⟩
            rw [hq4] at HR6
            have hl4 : q4.length = m + 4 := by rw [← hq4]; simp [HM.out]
            have hfin : q4 ++ bytesOf x.name = q ++ entB x := by rw [← hq4]; unfold entB; rw [HN6.out, HK6.out]; simp
            have HFIN := Aside0.mk hfin
            have HL4' := Aside0.mk hl4
            have HBL := Aside0.mk (bytesOf_length x.name)
            clear hq4 hfin hl4
            go_loopg [11] x.name.size (fun ge i wr => ∃ j : Nat, j + ge = x.name.size ∧ i = .int .i64 j ∧ Aside0 (Row wr .u8 g 5 (pad (q4 ++ (bytesOf x.name).take j))) ∧ Aside0 (Below w.heap.size w wr))
            case atStart => exact ⟨0, by omega, rfl, ⟨by simpa using HR6.out⟩, HB6⟩
            case round =>
              obtain ⟨j, hj, rfl, HRj, HBj⟩ := hrel
              obtain ⟨_, h3⟩ := HLX.out _ HBj.out
              cases gk with
              | zero =>
                obtain rfl : j = x.name.size := by omega
                have hrj := HRj.out
                rw [List.take_of_length_le (by rw [HBL.out]; exact Nat.le_refl _), HFIN.out, ← HSN2.out] at hrj
                have hln : (q0 ++ (l.take (k + 1)).flatMap entB).length = m + 4 + x.name.size := by rw [HSN2.out, List.length_append, HM.out, entB_length]; omega
                have HLN := Aside0.mk hln
                have HRJ := Aside0.mk hrj
                clear hrj hln
                go_wp2
                go_roundg gg
                case measure => omega
                case rel => exact ⟨k + 1, by omega, by rw [HLN.out]; go_num, by go_num, HRJ, HBj⟩
              | succ ge =>
                have hjl : j < x.name.size := by omega
                have hlj : (q4 ++ (bytesOf x.name).take j).length = m + 4 + j := by rw [List.length_append, HL4'.out, List.length_take, HBL.out]; omega
                have hcj := HRj.out.cell (m + 4 + j) (by rw [pad_length _ (by omega)]; omega)
                have hzj := HRj.out.free (m + 4 + j)
                have hrj := row_pad HRj.out (m + 4 + j) ((x.name[j]'hjl).toNat : Int) hlj.symm (by omega)
                rw [List.append_assoc, ← bytesOf_snoc x.name j hjl] at hrj
                have HRJ := Aside0.mk hrj
                obtain ⟨ch, hch⟩ : ∃ ch, x.name[j]'hjl = ch := ⟨_, rfl⟩
                rw [hch] at HRJ
                have HBJ := Aside0.mk (below_set_new HBj.out hgs (m + 4 + j) (.int .u8 (ch.toNat : Int)))
                clear hrj hlj
                go_wp2
                go_roundg ge
                case measure => omega
                case rel => exact ⟨j + 1, by omega, by go_num, HRJ, HBJ⟩
    | succ g =>
      obtain ⟨ad, rfl, h1, h2, h3⟩ := (HL.out.below HB.out).cells k (by omega)
      have hkl : k < l.length := by omega
      have HNOT := Aside0.mk (fun h => entOk_not hkl h s)
      have hp3 : k ≠ 0 → wr.cell? ⟨(ad.add ((k - 1) * 3)).block, (ad.add ((k - 1) * 3)).off + 2, none⟩ = some (.string (entAt l (k - 1)).name) := fun hk0 => by
        obtain ⟨ad', e, _, _, h⟩ := (HL.out.below HB.out).cells (k - 1) (by omega)
        cases e
        exact h
      have hok : entOk l k ↔ ¬ (entAt l k).ino < 1 ∧ ¬ 65535 < (entAt l k).ino ∧ ¬ (entAt l k).kind < 1 ∧ ¬ 3 < (entAt l k).kind ∧ chkI (entAt l k).name = 0 ∧ (0 < k → lessB (entAt l (k - 1)).name (entAt l k).name = true) := Iff.rfl
      obtain ⟨x, hx⟩ : ∃ x, entAt l k = x := ⟨_, rfl⟩
      obtain ⟨z, hz⟩ : ∃ z, (entAt l (k - 1)).name = z := ⟨_, rfl⟩
      rw [hx] at h1 h2 h3 hok
      have HZ := Aside0.mk (fun (h0 : 0 < k) => chk_size (HK.out (k - 1) (by omega)).2.2.2.2.1)
      rw [hz] at hok hp3 HZ
      have HOK := Aside0.mk hok
      have HP3 := Aside0.mk hp3
      have hbl := fun o => below_alloc HB.out o
      clear hx hz hok hp3
      go_wp2
      have n1 := cell_alloc wr #[.int .i64 x.ino, .int .i64 x.kind, .string x.name] 59 0 _ rfl
      have n2 := cell_alloc wr #[.int .i64 x.ino, .int .i64 x.kind, .string x.name] 59 1 _ rfl
      have n3 := cell_alloc wr #[.int .i64 x.ino, .int .i64 x.kind, .string x.name] 59 2 _ rfl
      have n4 : k ≠ 0 → (wr.alloc (.cells #[.int .i64 x.ino, .int .i64 x.kind, .string x.name] 59)).cell? ⟨(ad.add ((k - 1) * 3)).block, (ad.add ((k - 1) * 3)).off + 2, none⟩ = some (.string z) := fun h => pw_cell_below (below_alloc (Below.refl _ _) _) (HP3.out h)
      have hb0 := hbl (.cells #[.int .i64 x.ino, .int .i64 x.kind, .string x.name] 59)
      generalize wr.alloc (.cells #[.int .i64 x.ino, .int .i64 x.kind, .string x.name] 59) = w2 at n1 n2 n3 n4 hb0 ⊢
      generalize wr.heap.size = b2 at n1 n2 n3 ⊢
      have N4 := Aside0.mk n4
      have HB2 := Aside0.mk hb0
      have hbq := fun n => pw_below_drewN hb0 n
      have HBQ := Aside0.mk hbq
      clear hb0 hbl h1 h2 h3 n4 hbq
      by_cases c1 : x.ino < 1
      · go_quiet (fail)
        go_wp2
        go_ret2
        exact packPost_bad (HNOT.out (fun h => by have := HOK.out.1 h; omega)) rfl (HBQ.out _)
      · by_cases c2 : 65535 < x.ino
        · go_quiet (fail)
          go_wp2
          go_ret2
          exact packPost_bad (HNOT.out (fun h => by have := HOK.out.1 h; omega)) rfl (HBQ.out _)
        · by_cases c3 : x.kind < 1
          · go_quiet (fail)
            go_wp2
            go_ret2
            exact packPost_bad (HNOT.out (fun h => by have := HOK.out.1 h; omega)) rfl (HBQ.out _)
          · by_cases c4 : 3 < x.kind
            · go_quiet (fail)
              go_wp2
              go_ret2
              exact packPost_bad (HNOT.out (fun h => by have := HOK.out.1 h; omega)) rfl (HBQ.out _)
            · by_cases c5 : chkI x.name = 0
              · have c5b : (chkI x.name != 0) = false := by simpa using c5
                have HC5 := Aside0.mk c5
                clear c5
                by_cases c6 : k = 0
                · subst c6
                  refine wp_region_in [0, 1, 0, 0, 0, 1, 0, 0, 0, 0, 1, 0, 0, 0, 0, 1, 0, 0, 0, 0, 1, 2, 0, 0, 0, 0, 0, 0, 0, 0, 0, 0, 0, 1, 0, 1, 2, 0, 0, 0] [] (fun w' => w'.cell? ⟨b2, 0, none⟩ = some (.int .i64 x.ino) ∧ w'.cell? ⟨b2, 1, none⟩ = some (.int .i64 x.kind) ∧ w'.cell? ⟨b2, 2, none⟩ = some (.string x.name)) (by kernel_rfl) rfl (by kernel_rfl) (fun _ _ _ _ h => h) ⟨n1, n2, n3⟩ ?_
                  iterate 21 (first
                    | (refine in_off0 (by rfl) ?_; simp only [Act.put, List.setIfInBounds_toArray, List.set_cons_zero, List.set_cons_succ, i64_w, i32_w])
                    | (refine in_off1 (by rfl) ?_; simp only [Act.put, List.setIfInBounds_toArray, List.set_cons_zero, List.set_cons_succ, i64_w, i32_w])
                    | (refine in_0 (v := ?_) (by rfl) rfl ?_ (a' := ?_) ?_ ?_; rotate_left; (intro w'; go_simp; with_reducible rfl); rotate_left; (simp only [Act.put, List.setIfInBounds_toArray, List.set_cons_zero, List.set_cons_succ, i64_w, i32_w]; rfl))
                    | (refine in_1 (v := ?_) (by rfl) rfl ?_ (a' := ?_) ?_ ?_; rotate_left; (rintro w' hs; go_split_ands; go_simp; with_reducible rfl); rotate_left; (simp only [Act.put, List.setIfInBounds_toArray, List.set_cons_zero, List.set_cons_succ, i64_w, i32_w]; rfl)))
                  refine in_2 (by rfl) (fun K hK => ?_)
                  go_simp
                  refine (rcheck_calls' x.name _).mono ?_
                  rintro e w3 ⟨rfl, hb3⟩
                  dsimp only
                  have m1 : w3.cell? _ = _ := pw_cell_below hb3 n1
                  have m2 : w3.cell? _ = _ := pw_cell_below hb3 n2
                  have m3 : w3.cell? _ = _ := pw_cell_below hb3 n3
                  refine hK _ _ ⟨m1, m2, m3⟩ ?_
                  have HB3 := Aside0.mk (below_then (below_drew HB2.out) HB2.out.size hb3)
                  clear hK K hb3
                  try simp only [Act.put, List.setIfInBounds_toArray, List.set_cons_zero, List.set_cons_succ, i64_w, i32_w]
                  iterate 18 (first
                    | (refine in_off0 (by rfl) ?_; simp only [Act.put, List.setIfInBounds_toArray, List.set_cons_zero, List.set_cons_succ, i64_w, i32_w])
                    | (refine in_off1 (by rfl) ?_; simp only [Act.put, List.setIfInBounds_toArray, List.set_cons_zero, List.set_cons_succ, i64_w, i32_w])
                    | (refine in_off2 ⟨m1, m2, m3⟩ (by rfl) ?_; simp only [Act.put, List.setIfInBounds_toArray, List.set_cons_zero, List.set_cons_succ, i64_w, i32_w])
                    | (refine in_0 (v := ?_) (by rfl) rfl ?_ (a' := ?_) ?_ ?_; rotate_left; (intro w'; go_simp; with_reducible rfl); rotate_left; (simp only [Act.put, List.setIfInBounds_toArray, List.set_cons_zero, List.set_cons_succ, i64_w, i32_w]; rfl))
                    | (refine in_1 (v := ?_) (by rfl) rfl ?_ (a' := ?_) ?_ ?_; rotate_left; (rintro w' hs; go_split_ands; go_simp; with_reducible rfl); rotate_left; (simp only [Act.put, List.setIfInBounds_toArray, List.set_cons_zero, List.set_cons_succ, i64_w, i32_w]; rfl)))
                  refine in_nil ?_
                  go_wp2
                  go_roundg g
                  case measure => omega
                  case rel => exact ⟨0 + 1, by omega, by go_num, HB3, ⟨fun j hj => by
                    obtain rfl : j = 0 := by omega
                    exact HOK.out.2 ⟨by omega, by omega, by omega, by omega, HC5.out, fun h => absurd h (by omega)⟩⟩⟩
                · obtain ⟨k', rfl⟩ : ∃ k', k = k' + 1 := ⟨k - 1, by omega⟩
                  have n4 := N4.out (by omega)
                  simp only [Nat.add_sub_cancel] at n4
                  have hz60 : z.size ≤ 60 := HZ.out (by omega)
                  have hx60 : x.name.size ≤ 60 := chk_size HC5.out
                  have i1 : (k' : Int) < (l.length : Int) := by omega
                  have i2 : k' < l.length := by omega
                  have i3 : wrap64 (k' : Int) = (k' : Int) := by unfold wrap64; omega
                  obtain ⟨b, hb⟩ : ∃ b, lessB z x.name = b := ⟨_, rfl⟩
                  have HLB := Aside0.mk hb
                  clear hb c6
                  refine wp_region_in [0, 1, 0, 0, 0, 1, 0, 0, 0, 0, 1, 0, 0, 0, 0, 1, 0, 0, 0, 0, 1, 2, 0, 0, 0, 0, 0, 0, 0, 0, 0, 0, 0, 1, 0, 1, 2, 0, 0, 0] [] (fun w' => w'.cell? ⟨b2, 0, none⟩ = some (.int .i64 x.ino) ∧ w'.cell? ⟨b2, 1, none⟩ = some (.int .i64 x.kind) ∧ w'.cell? ⟨b2, 2, none⟩ = some (.string x.name) ∧ w'.cell? ⟨(ad.add (k' * 3)).block, (ad.add (k' * 3)).off + 2, none⟩ = some (.string z)) (by kernel_rfl) rfl (by kernel_rfl) (fun _ _ _ _ h => h) ⟨n1, n2, n3, n4⟩ ?_
                  iterate 21 (first
                    | (refine in_off0 (by rfl) ?_; simp only [Act.put, List.setIfInBounds_toArray, List.set_cons_zero, List.set_cons_succ, i64_w, i32_w])
                    | (refine in_off1 (by rfl) ?_; simp only [Act.put, List.setIfInBounds_toArray, List.set_cons_zero, List.set_cons_succ, i64_w, i32_w])
                    | (refine in_0 (v := ?_) (by rfl) rfl ?_ (a' := ?_) ?_ ?_; rotate_left; (intro w'; go_simp; with_reducible rfl); rotate_left; (simp only [Act.put, List.setIfInBounds_toArray, List.set_cons_zero, List.set_cons_succ, i64_w, i32_w]; rfl))
                    | (refine in_1 (v := ?_) (by rfl) rfl ?_ (a' := ?_) ?_ ?_; rotate_left; (rintro w' hs; go_split_ands; go_simp; with_reducible rfl); rotate_left; (simp only [Act.put, List.setIfInBounds_toArray, List.set_cons_zero, List.set_cons_succ, i64_w, i32_w]; rfl)))
                  refine in_2 (by rfl) (fun K hK => ?_)
                  go_simp
                  refine (rcheck_calls' x.name _).mono ?_
                  rintro e w3 ⟨rfl, hb3⟩
                  dsimp only
                  have m1 : w3.cell? _ = _ := pw_cell_below hb3 n1
                  have m2 : w3.cell? _ = _ := pw_cell_below hb3 n2
                  have m3 : w3.cell? _ = _ := pw_cell_below hb3 n3
                  have m4 : w3.cell? _ = _ := pw_cell_below hb3 n4
                  refine hK _ _ ⟨m1, m2, m3, m4⟩ ?_
                  have HB3 := Aside0.mk (below_then (below_drew HB2.out) HB2.out.size hb3)
                  clear hK K hb3
                  try simp only [Act.put, List.setIfInBounds_toArray, List.set_cons_zero, List.set_cons_succ, i64_w, i32_w]
                  iterate 14 (first
                    | (refine in_off0 (by rfl) ?_; simp only [Act.put, List.setIfInBounds_toArray, List.set_cons_zero, List.set_cons_succ, i64_w, i32_w])
                    | (refine in_off1 (by rfl) ?_; simp only [Act.put, List.setIfInBounds_toArray, List.set_cons_zero, List.set_cons_succ, i64_w, i32_w])
                    | (refine in_0 (v := ?_) (by rfl) rfl ?_ (a' := ?_) ?_ ?_; rotate_left; (intro w'; go_simp; with_reducible rfl); rotate_left; (simp only [Act.put, List.setIfInBounds_toArray, List.set_cons_zero, List.set_cons_succ, i64_w, i32_w]; rfl))
                    | (refine in_1 (v := ?_) (by rfl) rfl ?_ (a' := ?_) ?_ ?_; rotate_left; (rintro w' hs; go_split_ands; go_simp; with_reducible rfl); rotate_left; (simp only [Act.put, List.setIfInBounds_toArray, List.set_cons_zero, List.set_cons_succ, i64_w, i32_w]; rfl)))
                  refine in_2 (by rfl) (fun K hK => ?_)
                  go_simp
                  refine (rless_calls z x.name _ (by omega) (by omega)).mono ?_
                  rintro e w4 ⟨rfl, hb4⟩
                  rw [HLB.out]
                  dsimp only
                  refine hK _ _ ⟨pw_cell_below hb4 m1, pw_cell_below hb4 m2, pw_cell_below hb4 m3, pw_cell_below hb4 m4⟩ ?_
                  have HB4 := Aside0.mk (below_then HB3.out HB3.out.size hb4)
                  clear hK K hb4
                  try simp only [Act.put, List.setIfInBounds_toArray, List.set_cons_zero, List.set_cons_succ, i64_w, i32_w]
                  cases b
                  · iterate 3 (first
                      | (refine in_off0 (by rfl) ?_; simp only [Act.put, List.setIfInBounds_toArray, List.set_cons_zero, List.set_cons_succ, i64_w, i32_w])
                      | (refine in_off1 (by rfl) ?_; simp only [Act.put, List.setIfInBounds_toArray, List.set_cons_zero, List.set_cons_succ, i64_w, i32_w])
                      | (refine in_0 (v := ?_) (by rfl) rfl ?_ (a' := ?_) ?_ ?_; rotate_left; (intro w'; go_simp; with_reducible rfl); rotate_left; (simp only [Act.put, List.setIfInBounds_toArray, List.set_cons_zero, List.set_cons_succ, i64_w, i32_w]; rfl))
                      | (refine in_1 (v := ?_) (by rfl) rfl ?_ (a' := ?_) ?_ ?_; rotate_left; (rintro w' hs; go_split_ands; go_simp; with_reducible rfl); rotate_left; (simp only [Act.put, List.setIfInBounds_toArray, List.set_cons_zero, List.set_cons_succ, i64_w, i32_w]; rfl)))
                    refine in_nil ?_
                    go_wp2
                    go_ret2
                    exact packPost_bad (HNOT.out (fun h => by have := (HOK.out.1 h).2.2.2.2.2 (by omega); rw [HLB.out] at this; cases this)) rfl HB4.out
                  · iterate 3 (first
                      | (refine in_off0 (by rfl) ?_; simp only [Act.put, List.setIfInBounds_toArray, List.set_cons_zero, List.set_cons_succ, i64_w, i32_w])
                      | (refine in_off1 (by rfl) ?_; simp only [Act.put, List.setIfInBounds_toArray, List.set_cons_zero, List.set_cons_succ, i64_w, i32_w])
                      | (refine in_0 (v := ?_) (by rfl) rfl ?_ (a' := ?_) ?_ ?_; rotate_left; (intro w'; go_simp; with_reducible rfl); rotate_left; (simp only [Act.put, List.setIfInBounds_toArray, List.set_cons_zero, List.set_cons_succ, i64_w, i32_w]; rfl))
                      | (refine in_1 (v := ?_) (by rfl) rfl ?_ (a' := ?_) ?_ ?_; rotate_left; (rintro w' hs; go_split_ands; go_simp; with_reducible rfl); rotate_left; (simp only [Act.put, List.setIfInBounds_toArray, List.set_cons_zero, List.set_cons_succ, i64_w, i32_w]; rfl)))
                    refine in_nil ?_
                    go_wp2
                    go_roundg g
                    case measure => omega
                    case rel => exact ⟨k' + 1 + 1, by omega, by go_num, HB4, ⟨fun j hj => by
                      by_cases e : j = k' + 1
                      · subst e
                        exact HOK.out.2 ⟨by omega, by omega, by omega, by omega, HC5.out, fun _ => HLB.out⟩
                      · exact HK.out j (by omega)⟩⟩
              · have c5b : (chkI x.name != 0) = true := by simpa using c5
                have HC5 := Aside0.mk c5
                clear c5
                refine wp_region_in [0, 1, 0, 0, 0, 1, 0, 0, 0, 0, 1, 0, 0, 0, 0, 1, 0, 0, 0, 0, 1, 2, 0, 0, 0, 0, 0, 0, 0, 0, 0, 0, 0, 1, 0, 1, 2, 0, 0, 0] [] (fun w' => w'.cell? ⟨b2, 0, none⟩ = some (.int .i64 x.ino) ∧ w'.cell? ⟨b2, 1, none⟩ = some (.int .i64 x.kind) ∧ w'.cell? ⟨b2, 2, none⟩ = some (.string x.name)) (by kernel_rfl) rfl (by kernel_rfl) (fun _ _ _ _ h => h) ⟨n1, n2, n3⟩ ?_
                iterate 21 (first
                  | (refine in_off0 (by rfl) ?_; simp only [Act.put, List.setIfInBounds_toArray, List.set_cons_zero, List.set_cons_succ, i64_w, i32_w])
                  | (refine in_off1 (by rfl) ?_; simp only [Act.put, List.setIfInBounds_toArray, List.set_cons_zero, List.set_cons_succ, i64_w, i32_w])
                  | (refine in_0 (v := ?_) (by rfl) rfl ?_ (a' := ?_) ?_ ?_; rotate_left; (intro w'; go_simp; with_reducible rfl); rotate_left; (simp only [Act.put, List.setIfInBounds_toArray, List.set_cons_zero, List.set_cons_succ, i64_w, i32_w]; rfl))
                  | (refine in_1 (v := ?_) (by rfl) rfl ?_ (a' := ?_) ?_ ?_; rotate_left; (rintro w' hs; go_split_ands; go_simp; with_reducible rfl); rotate_left; (simp only [Act.put, List.setIfInBounds_toArray, List.set_cons_zero, List.set_cons_succ, i64_w, i32_w]; rfl)))
                refine in_2 (by rfl) (fun K hK => ?_)
                go_simp
                refine (rcheck_calls' x.name _).mono ?_
                rintro e w3 ⟨rfl, hb3⟩
                dsimp only
                have m1 : w3.cell? _ = _ := pw_cell_below hb3 n1
                have m2 : w3.cell? _ = _ := pw_cell_below hb3 n2
                have m3 : w3.cell? _ = _ := pw_cell_below hb3 n3
                refine hK _ _ ⟨m1, m2, m3⟩ ?_
                have HB3 := Aside0.mk (below_then (below_drew HB2.out) HB2.out.size hb3)
                clear hK K hb3
                try simp only [Act.put, List.setIfInBounds_toArray, List.set_cons_zero, List.set_cons_succ, i64_w, i32_w]
                iterate 18 (first
                  | (refine in_off0 (by rfl) ?_; simp only [Act.put, List.setIfInBounds_toArray, List.set_cons_zero, List.set_cons_succ, i64_w, i32_w])
                  | (refine in_off1 (by rfl) ?_; simp only [Act.put, List.setIfInBounds_toArray, List.set_cons_zero, List.set_cons_succ, i64_w, i32_w])
                  | (refine in_off2 ⟨m1, m2, m3⟩ (by rfl) ?_; simp only [Act.put, List.setIfInBounds_toArray, List.set_cons_zero, List.set_cons_succ, i64_w, i32_w])
                  | (refine in_0 (v := ?_) (by rfl) rfl ?_ (a' := ?_) ?_ ?_; rotate_left; (intro w'; go_simp; with_reducible rfl); rotate_left; (simp only [Act.put, List.setIfInBounds_toArray, List.set_cons_zero, List.set_cons_succ, i64_w, i32_w]; rfl))
                  | (refine in_1 (v := ?_) (by rfl) rfl ?_ (a' := ?_) ?_ ?_; rotate_left; (rintro w' hs; go_split_ands; go_simp; with_reducible rfl); rotate_left; (simp only [Act.put, List.setIfInBounds_toArray, List.set_cons_zero, List.set_cons_succ, i64_w, i32_w]; rfl)))
                refine in_nil ?_
                go_wp2
                go_ret2
                exact packPost_bad (HNOT.out (fun h => HC5.out (HOK.out.1 h).2.2.2.2.1)) rfl HB3.out
end Go.Proofs.Ytjggkaieagbjmaa.Hand
