/- Own texts and printed words of the kit, put together and trimmed by a program of mine (merge.py). -/
import Derived.Test.YtkmhilhfmfmckaaGreatDoorR05
namespace Go.Proofs.YtkmhilhfmfmckaaGreatDoor.Hand
set_option linter.unusedSimpArgs false
set_option linter.unusedVariables false
open Go.Shelf Go.RowKit Go.Proofs.YtkmhilhfmfmckaaGreatDoorW.PrintWords Go.Proofs.YtkmhilhfmfmckaaGreatDoorW.PrintLast Go.Proofs.YtkmhilhfmfmckaaGreatDoorW.PrintMore
def recI (b ws : List Int) : Nat → List Int
 | 0 => []
 | k + 1 => recI b ws k ++ [wrap64 (getI b (sumI (ws.take k)) (ws.getD k 0)).1]
theorem recI_len (b ws : List Int) (k : Nat) : (recI b ws k).length = k := by
 induction k with
 | zero => rfl
 | succ k ih => simp [recI, ih]
theorem recI_get (b ws : List Int) (n k : Nat) (h : k < n) : (recI b ws n).getD k 0 = wrap64 (getI b (sumI (ws.take k)) (ws.getD k 0)).1 := by
 induction n with
 | zero => omega
 | succ n ih =>
  rw [recI, List.getD_eq_getElem?_getD]
  by_cases e : k = n
  ·subst e
   rw [List.getElem?_append_right (by rw [recI_len]; omega), recI_len]
   simp
  ·rw [List.getElem?_append_left (by rw [recI_len]; omega), ← List.getD_eq_getElem?_getD]
   exact ih (by omega)
theorem infoInt : (Tryz.prog.info? 3).map (fun i => (i.zero, i.size, i.bytes)) = some (some (.int .i64 0), 1, 8) := by kernel_rfl
set_option maxHeartbeats 2000000 in
set_option maxRecDepth 100000 in
theorem record_calls (A B : Option Addr) (c d : Nat) (b ws : List Int) (w : World) (hb : Kd.C (Kd.int .u8) w A b.length b) (hbc : b.length ≤ c) (hw : Kd.C (Kd.int .i64) w B ws.length ws) (hl : ws.length ≤ 1000) (hok : widthsOk ws) :
  Calls Tryz.prog 171 #[.slice A b.length c, .slice B ws.length d] w fun e w' => ∃ v, e = .returned v ∧ Own w' w.heap.size 3 .i64 v (recI b ws ws.length) ∧ Below w.heap.size w w' := by
 have HB := Aside0.mk hb
 have HW := Aside0.mk hw
 have HSR := Aside0.mk (fun k hk => sumI_range hok k hk)
 have HWA := Aside0.mk (fun k hk => widths_at hok k hk)
 have HSN := Aside0.mk (fun k hk => sumI_snoc ws k hk)
 have HGET := Aside0.mk (fun (a k : Int) (W : World) (hW : Below w.heap.size w W) => get_calls A c a k W b (Kd.C_below hb hW) hbc)
 clear hb hw hok
 go_enter Tryz.func171, Tryz.ntmps171
 go_wp2
 go_loopg [5, 6, 13] ws.length (fun g v at_ i wr => ∃ k : Nat, k + g = ws.length ∧ at_ = .int .i64 (sumI (ws.take k)) ∧ i = .int .i64 k ∧ Aside0 (Own wr w.heap.size 3 .i64 v (recI b ws k)) ∧ Aside0 (Below w.heap.size w wr))
 case atStart => exact ⟨0, by omega, rfl, rfl, ⟨own_of_nil _ _ _ _⟩, ⟨Below.refl _ _⟩⟩
 case round =>
  obtain ⟨k, hk, rfl, rfl, HO, HBw⟩ := hrel
  cases gk with
  | zero =>
   obtain rfl : k = ws.length := by omega
   go_wp2
   go_ret
   exact ⟨_, rfl, HO.out, HBw.out⟩
  | succ g =>
   have hkl : k < ws.length := by omega
   have hsr := HSR.out k (by omega)
   have hsr2 := HSR.out (k + 1) (by omega)
   obtain ⟨ad, rfl, hcw⟩ := C_int_at (Kd.C_below HW.out HBw.out) k hkl
   have hwa := HWA.out k hkl
   have hsn := HSN.out k hkl
   have hrec : recI b ws (k + 1) = recI b ws k ++ [wrap64 (getI b (sumI (ws.take k)) (ws.getD k 0)).1] := rfl
   obtain ⟨x, hx⟩ : ∃ x, ws.getD k 0 = x := ⟨_, rfl⟩
   obtain ⟨a, ha⟩ : ∃ a, sumI (ws.take k) = a := ⟨_, rfl⟩
   obtain ⟨y, hy⟩ : ∃ y, (getI b a x).1 = y := ⟨_, rfl⟩
   rw [hx] at hcw hwa hsn hrec
   rw [ha] at hsr hsn hrec ⊢
   rw [hy] at hrec
   rw [hsn] at hsr2
   have HREC := Aside0.mk hrec
   have HSNN := Aside0.mk hsn
   have HLN := Aside0.mk (recI_len b ws k)
   have HY := Aside0.mk hy
   have i1 : (k : Int) < (ws.length : Int) := by omega
   clear hx ha hy hrec hsn
   go_wp2_with fail
   refine (HGET.out a x wr HBw.out).mono ?_
   rintro e w1 ⟨rfl, hb1⟩
   rw [HY.out]
   have HB1 := Aside0.mk (below_then HBw.out HBw.out.size hb1)
   have HO1 := Aside0.mk (HO.out.below hb1)
   have HOa := Aside0.mk (fun o => HO1.out.below (below_alloc (Below.refl _ _) o))
   have HBa := Aside0.mk (fun o => below_alloc HB1.out o)
   obtain ⟨e0, he, hz0, hz1, hz2⟩ := info_parts infoInt
   clear hb1
   dsimp only
   go_wp2_with ((with_reducible refine gate_dst (N := 28) rfl ?_); (refine wpList_append_own _ rfl (.tmp 24) (.tmp 27) 105 rfl w.heap.size 3 e0 (.int .i64 0) 1 8 Tryz.underlying105 he hz0 hz1 hz2 rfl (by decide) _ _ _ rfl (HOa.out _) ⟨w1.heap.size, 0, none⟩ 1 1 [.int .i64 (wrap64 y)] rfl ?c6 ?c1 ?c2 ?c3 ?c4 ?c5 ?_; (case c6 => rfl); (case c1 => (intro j u hj; rw [add_plain]; exact cell_alloc w1 _ _ j u (by simpa using hj))); (case c2 => simp [Value.oneCell']); (case c3 => (rw [HLN.out]; simp only [maxLen]; omega)); (case c4 => (rw [HLN.out]; omega)); (case c5 => exact (HBa.out _).size); intro v1 w5 hown1 hgrow1 _; have HO5 := Aside0.mk (own_snoc (ys := [wrap64 y]) hown1 rfl rfl); have HB5 := Aside0.mk (pw_below_grown (HBa.out _) _ (HBa.out _).size hgrow1 (fun g hg => HO1.out.base g hg)); clear hown1 hgrow1 hz0 hz1 hz2 he))
   go_roundg g
   case measure => omega
   case rel => exact ⟨k + 1, by omega, by rw [HSNN.out], by go_num, ⟨by rw [HREC.out]; exact HO5.out⟩, HB5⟩
def numAt (b : List Int) (a k : Int) : Int := wrap64 (getI b a k).1
def supB (b : List Int) : Sup := ⟨⟨numAt b 6 4, numAt b 10 4, numAt b 14 4, numAt b 18 4⟩, numAt b 22 4, numAt b 26 4, numAt b 30 4, numAt b 34 4, numAt b 38 1 == 1⟩
def sup0 : Sup := ⟨⟨0, 0, 0, 0⟩, 0, 0, 0, 0, false⟩
def unsuperI (b : List Int) : Sup × Int := if (psuperI (supB b)).2 = 0 ∧ (psuperI (supB b)).1 = b then (supB b, 0) else (sup0, 117)
theorem allB_seal {l : List Int} (h : allB l) (s : Int) : allB (sealL l s) := allB_lay h _ _ _
theorem packGo_allB {z : List Int} (h : allB z) (xs ws : List Int) (k : Nat) : allB (packGo xs ws z k) := by
 induction k with
 | zero => exact h
 | succ k ih => exact allB_lay ih _ _ _
theorem blockI_allB (xs ws : List Int) (s : Int) : allB (blockI xs ws s) := allB_seal (packGo_allB (fun x hx => by rw [List.eq_of_mem_replicate hx]; omega) _ _ _) _
theorem fst_allB {l : List Int} {p : List Int × Int} {c : Int} (h : p = (l, c)) (hl : allB l) : allB p.1 := by subst h; exact hl
theorem nil_allB : allB [] := fun x hx => by simp at hx
theorem psuper_good {s : Sup} (h : supOk s = true) : psuperI s = (blockI (wordsI s.nums) superW 0, 0) := by unfold psuperI; rw [if_pos h]
theorem psuper_bad {s : Sup} (h : ¬ supOk s = true) : psuperI s = ([], 22) := by unfold psuperI; rw [if_neg h]
theorem psuper_allB (s : Sup) : allB (psuperI s).1 := by
 by_cases h : supOk s = true
 ·exact fst_allB (psuper_good h) (blockI_allB _ _ _)
 ·exact fst_allB (psuper_bad h) nil_allB
theorem pgroups_good {l : List Grp} (h : 1 ≤ l.length ∧ l.length ≤ 14 ∧ l.all gOk = true) : pgroupsI l = (blockI (wordsI (l.flatMap gnums)) (groupW l.length) 1, 0) := by unfold pgroupsI; rw [if_pos h]
theorem pgroups_bad {l : List Grp} (h : ¬ (1 ≤ l.length ∧ l.length ≤ 14 ∧ l.all gOk = true)) : pgroupsI l = ([], 22) := by unfold pgroupsI; rw [if_neg h]
theorem fst_len {l : List Int} {p : List Int × Int} {c : Int} (h : p = (l, c)) (hl : l.length ≤ 256) : p.1.length ≤ 256 := by subst h; exact hl
theorem psuper_len (s : Sup) : (psuperI s).1.length ≤ 256 := by
 by_cases h : supOk s = true
 ·exact fst_len (psuper_good h) (by rw [blockI_length]; omega)
 ·exact fst_len (psuper_bad h) (by simp)
theorem pgroups_len (l : List Grp) : (pgroupsI l).1.length ≤ 256 := by
 by_cases h : 1 ≤ l.length ∧ l.length ≤ 14 ∧ l.all gOk = true
 ·exact fst_len (pgroups_good h) (by rw [blockI_length]; omega)
 ·exact fst_len (pgroups_bad h) (by simp)
theorem pgroups_allB (l : List Grp) : allB (pgroupsI l).1 := by
 by_cases h : 1 ≤ l.length ∧ l.length ≤ 14 ∧ l.all gOk = true
 ·exact fst_allB (pgroups_good h) (blockI_allB _ _ _)
 ·exact fst_allB (pgroups_bad h) nil_allB
set_option maxHeartbeats 4000000 in
set_option maxRecDepth 100000 in
theorem unsuper_calls (A : Option Addr) (c : Nat) (b : List Int) (w : World) (hb : Kd.C (Kd.int .u8) w A b.length b) (hbc : b.length ≤ c) (hba : allB b) :
  Calls Tryz.prog 130 #[.slice A b.length c] w fun e w' => e = .returned (.tuple #[(unsuperI b).1.v, .int .i64 (unsuperI b).2]) ∧ Below w.heap.size w w' := by
 have HB := Aside0.mk hb
 have HBA := Aside0.mk hba
 have hs : supB b = ⟨⟨(recI b superW 11).getD 2 0, (recI b superW 11).getD 3 0, (recI b superW 11).getD 4 0, (recI b superW 11).getD 5 0⟩, (recI b superW 11).getD 6 0, (recI b superW 11).getD 7 0, (recI b superW 11).getD 8 0, (recI b superW 11).getD 9 0, (recI b superW 11).getD 10 0 == 1⟩ := by
  rw [recI_get _ _ _ _ (by omega), recI_get _ _ _ _ (by omega), recI_get _ _ _ _ (by omega), recI_get _ _ _ _ (by omega), recI_get _ _ _ _ (by omega), recI_get _ _ _ _ (by omega), recI_get _ _ _ _ (by omega), recI_get _ _ _ _ (by omega), recI_get _ _ _ _ (by omega)]
  rfl
 obtain ⟨q, hq⟩ : ∃ q, recI b superW 11 = q := ⟨_, rfl⟩
 have hql : q.length = 11 := by rw [← hq, recI_len]
 rw [hq] at hs
 obtain ⟨s, hss⟩ : ∃ s, supB b = s := ⟨_, rfl⟩
 have hbad : ¬ ((psuperI s).2 = 0 ∧ (psuperI s).1 = b) → unsuperI b = (sup0, 117) := fun h => by unfold unsuperI; rw [hss, if_neg h]
 have hgood : ((psuperI s).2 = 0 ∧ (psuperI s).1 = b) → unsuperI b = (s, 0) := fun h => by unfold unsuperI; rw [hss, if_pos h]
 have HPS := Aside0.mk (fun W => psuper_calls s W)
 have hpa := psuper_allB s
 have hpl := psuper_len s
 rw [hss] at hs
 obtain ⟨p, hp⟩ : ∃ p, psuperI s = p := ⟨_, rfl⟩
 obtain ⟨r, hr⟩ : ∃ r, unsuperI b = r := ⟨_, rfl⟩
 rw [hr] at hbad hgood ⊢
 rw [hp] at hbad hgood HPS hpa hpl
 have HBD := Aside0.mk hbad
 have HGD := Aside0.mk hgood
 have HQ := Aside0.mk hq
 have HQL := Aside0.mk hql
 have HPA := Aside0.mk hpa
 have HPL := Aside0.mk hpl
 obtain ⟨x2, e2⟩ : ∃ x, q.getD 2 0 = x := ⟨_, rfl⟩
 obtain ⟨x3, e3⟩ : ∃ x, q.getD 3 0 = x := ⟨_, rfl⟩
 obtain ⟨x4, e4⟩ : ∃ x, q.getD 4 0 = x := ⟨_, rfl⟩
 obtain ⟨x5, e5⟩ : ∃ x, q.getD 5 0 = x := ⟨_, rfl⟩
 obtain ⟨x6, e6⟩ : ∃ x, q.getD 6 0 = x := ⟨_, rfl⟩
 obtain ⟨x7, e7⟩ : ∃ x, q.getD 7 0 = x := ⟨_, rfl⟩
 obtain ⟨x8, e8⟩ : ∃ x, q.getD 8 0 = x := ⟨_, rfl⟩
 obtain ⟨x9, e9⟩ : ∃ x, q.getD 9 0 = x := ⟨_, rfl⟩
 obtain ⟨x10, e10⟩ : ∃ x, q.getD 10 0 = x := ⟨_, rfl⟩
 have hcell : ∀ (w' : World) (ad : Addr), Kd.C (Kd.int .i64) w' (some ad) q.length q → w'.cell? ⟨ad.block, ad.off + 2, none⟩ = some (.int .i64 x2) ∧ w'.cell? ⟨ad.block, ad.off + 3, none⟩ = some (.int .i64 x3) ∧ w'.cell? ⟨ad.block, ad.off + 4, none⟩ = some (.int .i64 x4) ∧ w'.cell? ⟨ad.block, ad.off + 5, none⟩ = some (.int .i64 x5) ∧ w'.cell? ⟨ad.block, ad.off + 6, none⟩ = some (.int .i64 x6) ∧ w'.cell? ⟨ad.block, ad.off + 7, none⟩ = some (.int .i64 x7) ∧ w'.cell? ⟨ad.block, ad.off + 8, none⟩ = some (.int .i64 x8) ∧ w'.cell? ⟨ad.block, ad.off + 9, none⟩ = some (.int .i64 x9) ∧ w'.cell? ⟨ad.block, ad.off + 10, none⟩ = some (.int .i64 x10) := fun w' ad h => by
  have hx : ∀ j, j < q.length → w'.cell? (ad.add j) = some (.int .i64 (q.getD j 0)) := fun j hj => by
   obtain ⟨ad', e, hc⟩ := C_int_at h j hj
   cases e
   exact hc
  refine ⟨?_, ?_, ?_, ?_, ?_, ?_, ?_, ?_, ?_⟩
  ·rw [← e2]; exact hx 2 (by omega)
  ·rw [← e3]; exact hx 3 (by omega)
  ·rw [← e4]; exact hx 4 (by omega)
  ·rw [← e5]; exact hx 5 (by omega)
  ·rw [← e6]; exact hx 6 (by omega)
  ·rw [← e7]; exact hx 7 (by omega)
  ·rw [← e8]; exact hx 8 (by omega)
  ·rw [← e9]; exact hx 9 (by omega)
  ·rw [← e10]; exact hx 10 (by omega)
 rw [e2, e3, e4, e5, e6, e7, e8, e9, e10] at hs
 have HCELL := Aside0.mk hcell
 have HV : Sup.v s = .agg #[.int .i64 x2, .int .i64 x3, .int .i64 x4, .int .i64 x5, .int .i64 x6, .int .i64 x7, .int .i64 x8, .int .i64 x9, .bool (x10 == 1)] := by rw [hs]; rfl
 have HV := Aside0.mk HV
 have HB0 := Aside0.mk (fun o => below_alloc (Below.refl w.heap.size w) o)
 clear hb hba hs hq hql hss hbad hgood hpa hpl hp hr hcell e2 e3 e4 e5 e6 e7 e8 e9 e10
 go_enter Tryz.func130, Tryz.ntmps130
 go_wp2_with fail
 refine (superw_calls _).mono ?_
 rintro e w1 ⟨g1, rfl, hg1, hr1, hb1⟩
 have HC0 := Aside0.mk ((show Strc (w.alloc (.cells #[.int .i64 0, .int .i64 0, .int .i64 0, .int .i64 0, .int .i64 0, .int .i64 0, .int .i64 0, .int .i64 0, .bool false] 121)) w.heap.size 121 [.int .i64 0, .int .i64 0, .int .i64 0, .int .i64 0, .int .i64 0, .int .i64 0, .int .i64 0, .int .i64 0, .bool false] from alloc_last _ _).below hb1)
 have hzz := HC0.out.cell 0 _ rfl
 have HB1 := Aside0.mk (below_then (HB0.out _) (HB0.out _).size hb1)
 have HREC := Aside0.mk (record_calls A (some ⟨g1, 0, none⟩) c 11 b superW w1 (Kd.C_below HB.out HB1.out) hbc (hr1.reads (by decide)) (by decide) superW_ok)
 clear hr1 hb1
 dsimp only
 go_wp2_with fail
 refine HREC.out.mono ?_
 rintro e w2 ⟨v2, rfl, ho2, hb2⟩
 rw [show superW.length = 11 from rfl, HQ.out] at ho2
 obtain ⟨A2, c2, rfl, hc2, hk2⟩ := ho2.reads
 obtain ⟨ad, rfl, _⟩ := C_int_at hk2 0 (by rw [HQL.out]; omega)
 have HB2 := Aside0.mk (below_then HB1.out HB1.out.size hb2)
 have HZ := Aside0.mk (fun w' (hb : Below w2.heap.size w2 w') => (HC0.out.below hb2).below hb)
 have HS := Aside0.mk (fun w' (hb : Below w2.heap.size w2 w') => HCELL.out w' ad (Kd.C_below hk2 hb))
 rw [HQL.out]
 clear ho2 hb2 hk2 hc2 hzz
 dsimp only
 go_wp2
 refine wp_region_in [0, 0, 1, 0, 0, 1, 0, 0, 1, 0, 0, 1, 0, 0, 0, 1, 0, 0, 1, 0, 0, 1, 0, 0, 1, 0, 0, 1, 0, 0, 2, 3] [31] (fun w' => w'.cell? ⟨ad.block, ad.off + 2, none⟩ = some (.int .i64 x2) ∧ w'.cell? ⟨ad.block, ad.off + 3, none⟩ = some (.int .i64 x3) ∧ w'.cell? ⟨ad.block, ad.off + 4, none⟩ = some (.int .i64 x4) ∧ w'.cell? ⟨ad.block, ad.off + 5, none⟩ = some (.int .i64 x5) ∧ w'.cell? ⟨ad.block, ad.off + 6, none⟩ = some (.int .i64 x6) ∧ w'.cell? ⟨ad.block, ad.off + 7, none⟩ = some (.int .i64 x7) ∧ w'.cell? ⟨ad.block, ad.off + 8, none⟩ = some (.int .i64 x8) ∧ w'.cell? ⟨ad.block, ad.off + 9, none⟩ = some (.int .i64 x9) ∧ w'.cell? ⟨ad.block, ad.off + 10, none⟩ = some (.int .i64 x10)) (by kernel_rfl) rfl (by kernel_rfl) (fun _ _ _ _ h => h) (HS.out _ (Below.refl _ _).drew) ?_
 iterate 30 (first
  | (refine in_off0 (by rfl) ?_; simp only [Act.put, stA, stZ, stS, i64_w, i32_w])
  | (refine in_off1 (by rfl) ?_; simp only [Act.put, stA, stZ, stS, i64_w, i32_w])
  | (refine in_0 (v := ?_) (by rfl) rfl ?_ (a' := ?_) ?_ ?_; rotate_left; (intro w'; go_simp; with_reducible rfl); rotate_left; (simp only [Act.put, stA, stZ, stS, i64_w, i32_w]; rfl))
  | (refine in_1 (v := ?_) (by rfl) rfl ?_ (a' := ?_) ?_ ?_; rotate_left; (rintro w' hs; go_split_ands; go_simp; with_reducible rfl); rotate_left; (simp only [Act.put, stA, stZ, stS, i64_w, i32_w]; rfl)))
 refine in_2 (by rfl) (fun K hK => ?_)
 go_simp
 refine hK _ _ (HS.out _ (below_alloc (Below.refl _ _) (.cells #[.int .i64 0, .int .i64 0, .int .i64 0, .int .i64 0, .int .i64 0, .int .i64 0, .int .i64 0, .int .i64 0, .bool false] 121)).drew) ?_
 clear hK K
 try simp only [Act.put, stA, stZ, stS, i64_w, i32_w]
 refine in_3 (by rfl) (fun K hK => ?_)
 go_simp
 refine hK _ _ ?_
 clear hK K
 try simp only [Act.put, stA, stZ, stS, i64_w, i32_w]
 refine out_nil ?_
 have hb3 : Below w2.heap.size w2 (w2.alloc (.cells #[.int .i64 x2, .int .i64 x3, .int .i64 x4, .int .i64 x5, .int .i64 x6, .int .i64 x7, .int .i64 x8, .int .i64 x9, .bool (x10 == 1)] 121)).drew := (below_alloc (Below.refl _ _) _).drew
 have hc3 := fun j v h => pw_cell_below (Below.refl (w2.alloc (.cells #[.int .i64 x2, .int .i64 x3, .int .i64 x4, .int .i64 x5, .int .i64 x6, .int .i64 x7, .int .i64 x8, .int .i64 x9, .bool (x10 == 1)] 121)).heap.size (w2.alloc (.cells #[.int .i64 x2, .int .i64 x3, .int .i64 x4, .int .i64 x5, .int .i64 x6, .int .i64 x7, .int .i64 x8, .int .i64 x9, .bool (x10 == 1)] 121))).drew (cell_alloc w2 #[.int .i64 x2, .int .i64 x3, .int .i64 x4, .int .i64 x5, .int .i64 x6, .int .i64 x7, .int .i64 x8, .int .i64 x9, .bool (x10 == 1)] 121 j v h)
 generalize (w2.alloc (.cells #[.int .i64 x2, .int .i64 x3, .int .i64 x4, .int .i64 x5, .int .i64 x6, .int .i64 x7, .int .i64 x8, .int .i64 x9, .bool (x10 == 1)] 121)).drew = w3 at hb3 hc3 ⊢
 have HC3 := Aside0.mk hc3
 have HB3 := Aside0.mk (below_then HB2.out HB2.out.size hb3)
 have HZ3 := Aside0.mk (HZ.out _ hb3)
 have j0 := hc3 0 _ rfl
 have j1 := hc3 1 _ rfl
 have j2 := hc3 2 _ rfl
 have j3 := hc3 3 _ rfl
 have j4 := hc3 4 _ rfl
 have j5 := hc3 5 _ rfl
 have j6 := hc3 6 _ rfl
 have j7 := hc3 7 _ rfl
 have j8 := hc3 8 _ rfl
 clear hb3 hc3
 go_wp2_with fail
 have hps := HPS.out w3
 rw [HV.out] at hps
 refine hps.mono ?_
 clear hps
 rintro e w4 ⟨v4, rfl, hb4, hv4, hv4'⟩
 have HB4 := Aside0.mk (below_then HB3.out HB3.out.size hb4)
 have m0 := pw_cell_below hb4 (HC3.out 0 _ rfl)
 have m1 := pw_cell_below hb4 (HC3.out 1 _ rfl)
 have m2 := pw_cell_below hb4 (HC3.out 2 _ rfl)
 have m3 := pw_cell_below hb4 (HC3.out 3 _ rfl)
 have m4 := pw_cell_below hb4 (HC3.out 4 _ rfl)
 have m5 := pw_cell_below hb4 (HC3.out 5 _ rfl)
 have m6 := pw_cell_below hb4 (HC3.out 6 _ rfl)
 have m7 := pw_cell_below hb4 (HC3.out 7 _ rfl)
 have m8 := pw_cell_below hb4 (HC3.out 8 _ rfl)
 have z0 := (HZ3.out.below hb4).cell 0 _ rfl
 have zf0 := (HZ3.out.below hb4).free 0
 have z1 := (HZ3.out.below hb4).cell 1 _ rfl
 have zf1 := (HZ3.out.below hb4).free 1
 have z2 := (HZ3.out.below hb4).cell 2 _ rfl
 have zf2 := (HZ3.out.below hb4).free 2
 have z3 := (HZ3.out.below hb4).cell 3 _ rfl
 have zf3 := (HZ3.out.below hb4).free 3
 have z4 := (HZ3.out.below hb4).cell 4 _ rfl
 have zf4 := (HZ3.out.below hb4).free 4
 have z5 := (HZ3.out.below hb4).cell 5 _ rfl
 have zf5 := (HZ3.out.below hb4).free 5
 have z6 := (HZ3.out.below hb4).cell 6 _ rfl
 have zf6 := (HZ3.out.below hb4).free 6
 have z7 := (HZ3.out.below hb4).cell 7 _ rfl
 have zf7 := (HZ3.out.below hb4).free 7
 have z8 := (HZ3.out.below hb4).cell 8 _ rfl
 have zf8 := (HZ3.out.below hb4).free 8
 have hzl := (HZ3.out.below hb4).lt
 have HZ4 := Aside0.mk (HZ3.out.below hb4)
 clear j0 j1 j2 j3 j4 j5 j6 j7 j8
 obtain ⟨p1, p2⟩ := p
 dsimp only at hv4 hv4' HBD HGD HPA HPL ⊢
 by_cases hp0 : p2 = 0
 ·subst hp0
  obtain ⟨g4, c4, rfl, hg4, hc4, hr4⟩ := hv4 rfl
  have heq := equal_calls A (some ⟨g4, 0, none⟩) c c4 b p1 w4 (Kd.C_below HB.out HB4.out) (hr4.reads (Nat.le_trans HPL.out (by omega)))
  rw [strOf_eq HBA.out HPA.out] at heq
  have HEQ := Aside0.mk heq
  clear hv4 hv4' heq hb4 hr4
  obtain ⟨t, ht⟩ : ∃ t, (b == p1) = t := ⟨_, rfl⟩
  rw [ht] at HEQ
  cases t
  ·have hne : p1 ≠ b := by rintro rfl; simp at ht
   have HR := Aside0.mk (HBD.out (fun h => hne h.2))
   clear ht hne
   go_wp2_with (go_at_call 43; refine HEQ.out.mono ?_; rintro e w2 ⟨rfl, rfl⟩)
   have hfs : Strc (((((((((w4.setCell ⟨w.heap.size, 0, none⟩ (.int .i64 0)).setCell ⟨w.heap.size, 1, none⟩ (.int .i64 0)).setCell ⟨w.heap.size, 2, none⟩ (.int .i64 0)).setCell ⟨w.heap.size, 3, none⟩ (.int .i64 0)).setCell ⟨w.heap.size, 4, none⟩ (.int .i64 0)).setCell ⟨w.heap.size, 5, none⟩ (.int .i64 0)).setCell ⟨w.heap.size, 6, none⟩ (.int .i64 0)).setCell ⟨w.heap.size, 7, none⟩ (.int .i64 0)).setCell ⟨w.heap.size, 8, none⟩ (.bool false)) w.heap.size 121 [.int .i64 0, .int .i64 0, .int .i64 0, .int .i64 0, .int .i64 0, .int .i64 0, .int .i64 0, .int .i64 0, .bool false] := ((((((((HZ4.out.set 0 (.int .i64 0)).set 1 (.int .i64 0)).set 2 (.int .i64 0)).set 3 (.int .i64 0)).set 4 (.int .i64 0)).set 5 (.int .i64 0)).set 6 (.int .i64 0)).set 7 (.int .i64 0)).set 8 (.bool false)
   have hfb : Below w.heap.size w (((((((((w4.setCell ⟨w.heap.size, 0, none⟩ (.int .i64 0)).setCell ⟨w.heap.size, 1, none⟩ (.int .i64 0)).setCell ⟨w.heap.size, 2, none⟩ (.int .i64 0)).setCell ⟨w.heap.size, 3, none⟩ (.int .i64 0)).setCell ⟨w.heap.size, 4, none⟩ (.int .i64 0)).setCell ⟨w.heap.size, 5, none⟩ (.int .i64 0)).setCell ⟨w.heap.size, 6, none⟩ (.int .i64 0)).setCell ⟨w.heap.size, 7, none⟩ (.int .i64 0)).setCell ⟨w.heap.size, 8, none⟩ (.bool false)) := ((((((((((Mod.of_below HB4.out (fun _ => False)).setCell (p := ⟨w.heap.size, 0, none⟩) (fun h => absurd h (Nat.lt_irrefl _)) (.int .i64 0)).setCell (p := ⟨w.heap.size, 1, none⟩) (fun h => absurd h (Nat.lt_irrefl _)) (.int .i64 0)).setCell (p := ⟨w.heap.size, 2, none⟩) (fun h => absurd h (Nat.lt_irrefl _)) (.int .i64 0)).setCell (p := ⟨w.heap.size, 3, none⟩) (fun h => absurd h (Nat.lt_irrefl _)) (.int .i64 0)).setCell (p := ⟨w.heap.size, 4, none⟩) (fun h => absurd h (Nat.lt_irrefl _)) (.int .i64 0)).setCell (p := ⟨w.heap.size, 5, none⟩) (fun h => absurd h (Nat.lt_irrefl _)) (.int .i64 0)).setCell (p := ⟨w.heap.size, 6, none⟩) (fun h => absurd h (Nat.lt_irrefl _)) (.int .i64 0)).setCell (p := ⟨w.heap.size, 7, none⟩) (fun h => absurd h (Nat.lt_irrefl _)) (.int .i64 0)).setCell (p := ⟨w.heap.size, 8, none⟩) (fun h => absurd h (Nat.lt_irrefl _)) (.bool false)).to_below (fun _ _ h => h)
   generalize (((((((((w4.setCell ⟨w.heap.size, 0, none⟩ (.int .i64 0)).setCell ⟨w.heap.size, 1, none⟩ (.int .i64 0)).setCell ⟨w.heap.size, 2, none⟩ (.int .i64 0)).setCell ⟨w.heap.size, 3, none⟩ (.int .i64 0)).setCell ⟨w.heap.size, 4, none⟩ (.int .i64 0)).setCell ⟨w.heap.size, 5, none⟩ (.int .i64 0)).setCell ⟨w.heap.size, 6, none⟩ (.int .i64 0)).setCell ⟨w.heap.size, 7, none⟩ (.int .i64 0)).setCell ⟨w.heap.size, 8, none⟩ (.bool false)) = W5 at hfs hfb ⊢
   have f0 := hfs.cell 0 _ rfl
   have f1 := hfs.cell 1 _ rfl
   have f2 := hfs.cell 2 _ rfl
   have f3 := hfs.cell 3 _ rfl
   have f4 := hfs.cell 4 _ rfl
   have f5 := hfs.cell 5 _ rfl
   have f6 := hfs.cell 6 _ rfl
   have f7 := hfs.cell 7 _ rfl
   have f8 := hfs.cell 8 _ rfl
   refine bodyPost_ret (v := .tuple #[.agg #[.int .i64 0, .int .i64 0, .int .i64 0, .int .i64 0, .int .i64 0, .int .i64 0, .int .i64 0, .int .i64 0, .bool false], .int .i64 117]) ?_ rfl ⟨?_, hfb⟩
   ·simp [results, Tryz.results130, go_sem, f0, f1, f2, f3, f4, f5, f6, f7, f8]
   ·rw [HR.out]
    rfl
  ·have he : p1 = b := by simp at ht; exact ht.symm
   have HR := Aside0.mk (HGD.out ⟨rfl, he⟩)
   clear ht he
   go_wp2_with (go_at_call 43; refine HEQ.out.mono ?_; rintro e w2 ⟨rfl, rfl⟩)
   have hfs : Strc (((((((((w4.setCell ⟨w.heap.size, 0, none⟩ (.int .i64 x2)).setCell ⟨w.heap.size, 1, none⟩ (.int .i64 x3)).setCell ⟨w.heap.size, 2, none⟩ (.int .i64 x4)).setCell ⟨w.heap.size, 3, none⟩ (.int .i64 x5)).setCell ⟨w.heap.size, 4, none⟩ (.int .i64 x6)).setCell ⟨w.heap.size, 5, none⟩ (.int .i64 x7)).setCell ⟨w.heap.size, 6, none⟩ (.int .i64 x8)).setCell ⟨w.heap.size, 7, none⟩ (.int .i64 x9)).setCell ⟨w.heap.size, 8, none⟩ (.bool (x10 == 1))) w.heap.size 121 [.int .i64 x2, .int .i64 x3, .int .i64 x4, .int .i64 x5, .int .i64 x6, .int .i64 x7, .int .i64 x8, .int .i64 x9, .bool (x10 == 1)] := ((((((((HZ4.out.set 0 (.int .i64 x2)).set 1 (.int .i64 x3)).set 2 (.int .i64 x4)).set 3 (.int .i64 x5)).set 4 (.int .i64 x6)).set 5 (.int .i64 x7)).set 6 (.int .i64 x8)).set 7 (.int .i64 x9)).set 8 (.bool (x10 == 1))
   have hfb : Below w.heap.size w (((((((((w4.setCell ⟨w.heap.size, 0, none⟩ (.int .i64 x2)).setCell ⟨w.heap.size, 1, none⟩ (.int .i64 x3)).setCell ⟨w.heap.size, 2, none⟩ (.int .i64 x4)).setCell ⟨w.heap.size, 3, none⟩ (.int .i64 x5)).setCell ⟨w.heap.size, 4, none⟩ (.int .i64 x6)).setCell ⟨w.heap.size, 5, none⟩ (.int .i64 x7)).setCell ⟨w.heap.size, 6, none⟩ (.int .i64 x8)).setCell ⟨w.heap.size, 7, none⟩ (.int .i64 x9)).setCell ⟨w.heap.size, 8, none⟩ (.bool (x10 == 1))) := ((((((((((Mod.of_below HB4.out (fun _ => False)).setCell (p := ⟨w.heap.size, 0, none⟩) (fun h => absurd h (Nat.lt_irrefl _)) (.int .i64 x2)).setCell (p := ⟨w.heap.size, 1, none⟩) (fun h => absurd h (Nat.lt_irrefl _)) (.int .i64 x3)).setCell (p := ⟨w.heap.size, 2, none⟩) (fun h => absurd h (Nat.lt_irrefl _)) (.int .i64 x4)).setCell (p := ⟨w.heap.size, 3, none⟩) (fun h => absurd h (Nat.lt_irrefl _)) (.int .i64 x5)).setCell (p := ⟨w.heap.size, 4, none⟩) (fun h => absurd h (Nat.lt_irrefl _)) (.int .i64 x6)).setCell (p := ⟨w.heap.size, 5, none⟩) (fun h => absurd h (Nat.lt_irrefl _)) (.int .i64 x7)).setCell (p := ⟨w.heap.size, 6, none⟩) (fun h => absurd h (Nat.lt_irrefl _)) (.int .i64 x8)).setCell (p := ⟨w.heap.size, 7, none⟩) (fun h => absurd h (Nat.lt_irrefl _)) (.int .i64 x9)).setCell (p := ⟨w.heap.size, 8, none⟩) (fun h => absurd h (Nat.lt_irrefl _)) (.bool (x10 == 1))).to_below (fun _ _ h => h)
   generalize (((((((((w4.setCell ⟨w.heap.size, 0, none⟩ (.int .i64 x2)).setCell ⟨w.heap.size, 1, none⟩ (.int .i64 x3)).setCell ⟨w.heap.size, 2, none⟩ (.int .i64 x4)).setCell ⟨w.heap.size, 3, none⟩ (.int .i64 x5)).setCell ⟨w.heap.size, 4, none⟩ (.int .i64 x6)).setCell ⟨w.heap.size, 5, none⟩ (.int .i64 x7)).setCell ⟨w.heap.size, 6, none⟩ (.int .i64 x8)).setCell ⟨w.heap.size, 7, none⟩ (.int .i64 x9)).setCell ⟨w.heap.size, 8, none⟩ (.bool (x10 == 1))) = W5 at hfs hfb ⊢
   have f0 := hfs.cell 0 _ rfl
   have f1 := hfs.cell 1 _ rfl
   have f2 := hfs.cell 2 _ rfl
   have f3 := hfs.cell 3 _ rfl
   have f4 := hfs.cell 4 _ rfl
   have f5 := hfs.cell 5 _ rfl
   have f6 := hfs.cell 6 _ rfl
   have f7 := hfs.cell 7 _ rfl
   have f8 := hfs.cell 8 _ rfl
   refine bodyPost_ret (v := .tuple #[.agg #[.int .i64 x2, .int .i64 x3, .int .i64 x4, .int .i64 x5, .int .i64 x6, .int .i64 x7, .int .i64 x8, .int .i64 x9, .bool (x10 == 1)], .int .i64 0]) ?_ rfl ⟨?_, hfb⟩
   ·simp [results, Tryz.results130, go_sem, f0, f1, f2, f3, f4, f5, f6, f7, f8]
   ·rw [HR.out]
    show Ending.returned _ = .returned (.tuple #[s.v, _])
    rw [HV.out]
 ·have HR := Aside0.mk (HBD.out (fun h => hp0 h.1))
  obtain rfl := hv4' hp0
  clear hv4 hv4'
  go_wp2
  have hfs : Strc (((((((((w4.setCell ⟨w.heap.size, 0, none⟩ (.int .i64 0)).setCell ⟨w.heap.size, 1, none⟩ (.int .i64 0)).setCell ⟨w.heap.size, 2, none⟩ (.int .i64 0)).setCell ⟨w.heap.size, 3, none⟩ (.int .i64 0)).setCell ⟨w.heap.size, 4, none⟩ (.int .i64 0)).setCell ⟨w.heap.size, 5, none⟩ (.int .i64 0)).setCell ⟨w.heap.size, 6, none⟩ (.int .i64 0)).setCell ⟨w.heap.size, 7, none⟩ (.int .i64 0)).setCell ⟨w.heap.size, 8, none⟩ (.bool false)) w.heap.size 121 [.int .i64 0, .int .i64 0, .int .i64 0, .int .i64 0, .int .i64 0, .int .i64 0, .int .i64 0, .int .i64 0, .bool false] := ((((((((HZ4.out.set 0 (.int .i64 0)).set 1 (.int .i64 0)).set 2 (.int .i64 0)).set 3 (.int .i64 0)).set 4 (.int .i64 0)).set 5 (.int .i64 0)).set 6 (.int .i64 0)).set 7 (.int .i64 0)).set 8 (.bool false)
  have hfb : Below w.heap.size w (((((((((w4.setCell ⟨w.heap.size, 0, none⟩ (.int .i64 0)).setCell ⟨w.heap.size, 1, none⟩ (.int .i64 0)).setCell ⟨w.heap.size, 2, none⟩ (.int .i64 0)).setCell ⟨w.heap.size, 3, none⟩ (.int .i64 0)).setCell ⟨w.heap.size, 4, none⟩ (.int .i64 0)).setCell ⟨w.heap.size, 5, none⟩ (.int .i64 0)).setCell ⟨w.heap.size, 6, none⟩ (.int .i64 0)).setCell ⟨w.heap.size, 7, none⟩ (.int .i64 0)).setCell ⟨w.heap.size, 8, none⟩ (.bool false)) := ((((((((((Mod.of_below HB4.out (fun _ => False)).setCell (p := ⟨w.heap.size, 0, none⟩) (fun h => absurd h (Nat.lt_irrefl _)) (.int .i64 0)).setCell (p := ⟨w.heap.size, 1, none⟩) (fun h => absurd h (Nat.lt_irrefl _)) (.int .i64 0)).setCell (p := ⟨w.heap.size, 2, none⟩) (fun h => absurd h (Nat.lt_irrefl _)) (.int .i64 0)).setCell (p := ⟨w.heap.size, 3, none⟩) (fun h => absurd h (Nat.lt_irrefl _)) (.int .i64 0)).setCell (p := ⟨w.heap.size, 4, none⟩) (fun h => absurd h (Nat.lt_irrefl _)) (.int .i64 0)).setCell (p := ⟨w.heap.size, 5, none⟩) (fun h => absurd h (Nat.lt_irrefl _)) (.int .i64 0)).setCell (p := ⟨w.heap.size, 6, none⟩) (fun h => absurd h (Nat.lt_irrefl _)) (.int .i64 0)).setCell (p := ⟨w.heap.size, 7, none⟩) (fun h => absurd h (Nat.lt_irrefl _)) (.int .i64 0)).setCell (p := ⟨w.heap.size, 8, none⟩) (fun h => absurd h (Nat.lt_irrefl _)) (.bool false)).to_below (fun _ _ h => h)
  generalize (((((((((w4.setCell ⟨w.heap.size, 0, none⟩ (.int .i64 0)).setCell ⟨w.heap.size, 1, none⟩ (.int .i64 0)).setCell ⟨w.heap.size, 2, none⟩ (.int .i64 0)).setCell ⟨w.heap.size, 3, none⟩ (.int .i64 0)).setCell ⟨w.heap.size, 4, none⟩ (.int .i64 0)).setCell ⟨w.heap.size, 5, none⟩ (.int .i64 0)).setCell ⟨w.heap.size, 6, none⟩ (.int .i64 0)).setCell ⟨w.heap.size, 7, none⟩ (.int .i64 0)).setCell ⟨w.heap.size, 8, none⟩ (.bool false)) = W5 at hfs hfb ⊢
  have f0 := hfs.cell 0 _ rfl
  have f1 := hfs.cell 1 _ rfl
  have f2 := hfs.cell 2 _ rfl
  have f3 := hfs.cell 3 _ rfl
  have f4 := hfs.cell 4 _ rfl
  have f5 := hfs.cell 5 _ rfl
  have f6 := hfs.cell 6 _ rfl
  have f7 := hfs.cell 7 _ rfl
  have f8 := hfs.cell 8 _ rfl
  refine bodyPost_ret (v := .tuple #[.agg #[.int .i64 0, .int .i64 0, .int .i64 0, .int .i64 0, .int .i64 0, .int .i64 0, .int .i64 0, .int .i64 0, .bool false], .int .i64 117]) ?_ rfl ⟨?_, hfb⟩
  ·simp [results, Tryz.results130, go_sem, f0, f1, f2, f3, f4, f5, f6, f7, f8]
  ·rw [HR.out]
   rfl
theorem allB_attB {x : Att} (h : allB x.val) : allB (attB x) := by
 unfold attB
 refine allB_append (allB_append (fun y hy => ?_) (allB_bytes _)) h
 simp only [List.mem_cons, List.not_mem_nil, or_false] at hy
 rcases hy with rfl | rfl <;> omega
theorem allB_xpack {l : List Att} (h : ∀ x ∈ l, allB x.val) (s : Int) : allB (xpackI l s).1 := by
 unfold xpackI
 split
 ·split
  ·intro y hy; cases hy
  ·refine allB_seal (allB_pad ?_) s
   unfold attsB
   refine allB_append (fun y hy => ?_) (fun y hy => ?_)
   ·simp only [List.mem_cons, List.not_mem_nil, or_false] at hy
    rcases hy with rfl | rfl <;> omega
   ·obtain ⟨x, hx, hy⟩ := List.mem_flatMap.1 hy
    exact allB_attB (h x hx) y hy
 ·intro y hy; cases hy
theorem xpackI_len {l : List Att} {s : Int} (h : (xpackI l s).2 = 0) : (xpackI l s).1.length = 256 := by
 unfold xpackI at h ⊢
 by_cases h1 : attsOk l
 ·rw [if_pos h1] at h ⊢
  by_cases h2 : 250 < attN l
  ·rw [if_pos h2] at h; cases h
  ·rw [if_neg h2]
   show (sealL (pad (attsB l)) s).length = 256
   unfold sealL
   rw [layL_length]
   refine pad_length _ ?_
   unfold attsB
   unfold attN at h2
   simp only [List.length_append, List.length_cons, List.length_nil]
   omega
 ·rw [if_neg h1] at h; cases h
def xattI (r : List Int) : Att := ⟨strOfNums ((r.drop 2).take (r.getD 0 0).toNat), (r.drop (2 + (r.getD 0 0).toNat)).take (r.getD 1 0).toNat⟩
def xreadI : Nat → List Int → List Att → Option (List Att)
 | 0, _, out => some out
 | g + 1, r, out => if (r.length : Int) < 2 ∨ (r.length : Int) < 2 + r.getD 0 0 + r.getD 1 0 then none else xreadI g (r.drop (2 + (r.getD 0 0).toNat + (r.getD 1 0).toNat)) (out ++ [xattI r])
def xunpI (l : List Int) (s : Int) : List Att × Int :=
 if l.length ≠ 256 then ([], 117) else
 match xreadI (l.getD 1 0).toNat ((l.drop 2).take 250) [] with
 | none => ([], 117)
 | some out => if (xpackI out s).2 = 0 ∧ (xpackI out s).1 = l then (out, 0) else ([], 117)
def acells (l : List Att) (vs : List Value) : List Value := (l.zip vs).flatMap fun q => [.string q.1.name, q.2]
theorem acells_at : ∀ (l : List Att) (vs : List Value) (j : Nat), j < l.length → vs.length = l.length → (acells l vs)[j * 2]? = some (.string (attAt l j).name) ∧ (acells l vs)[j * 2 + 1]? = some (vs.getD j undef)
 | [], _, j, h, _ => by simp at h
 | x :: l, [], j, _, h => by simp at h
 | x :: l, v :: vs, 0, _, _ => by simp [acells, attAt]
 | x :: l, v :: vs, j + 1, h, hv => by
  have ih := acells_at l vs j (by simpa using h) (by simpa using hv)
  have e : acells (x :: l) (v :: vs) = [.string x.name, v] ++ acells l vs := by simp [acells]
  have e1 : (j + 1) * 2 = 2 + j * 2 := by omega
  rw [e, e1, show 2 + j * 2 + 1 = 2 + (j * 2 + 1) by omega]
  rw [List.getElem?_append_right (by simp), List.getElem?_append_right (by simp)]
  simpa [attAt] using ih
theorem acells_snoc (l : List Att) (vs : List Value) (x : Att) (v : Value) (h : vs.length = l.length) : acells (l ++ [x]) (vs ++ [v]) = acells l vs ++ [.string x.name, v] := by
 unfold acells
 rw [List.zip_append h.symm, List.flatMap_append]
 simp
theorem acells_length (l : List Att) (vs : List Value) (h : vs.length = l.length) : (acells l vs).length = l.length * 2 := by
 unfold acells
 have : ∀ q : List (Att × Value), (q.flatMap fun q => [Value.string q.1.name, q.2]).length = q.length * 2 := by
  intro q
  induction q with
  | nil => rfl
  | cons a q ih => rw [List.flatMap_cons, List.length_append, ih]; simp; omega
 rw [this, List.length_zip, h, Nat.min_self]
def OwnA (w : World) (base : Nat) (v : Value) (l : List Att) : Prop :=
 ∃ vs : List Value, vs.length = l.length ∧ w.ownsRow base 72 2 v l.length (acells l vs) ∧ ∀ j, j < l.length → Own w base 5 .u8 (vs.getD j undef) (attAt l j).val ∧ allB (attAt l j).val
theorem OwnA.below {w w1 : World} {base : Nat} {v : Value} {l : List Att} (h : OwnA w base v l) (hb : Below w.heap.size w w1) : OwnA w1 base v l := by
 obtain ⟨vs, h1, h2, h3⟩ := h
 exact ⟨vs, h1, pw_own_below h2 hb, fun j hj => ⟨(h3 j hj).1.below hb, (h3 j hj).2⟩⟩
theorem own_nocap {w : World} {base e : Nat} {k : IntKind} {A : Option Addr} {n c : Nat} {l : List Int} (h : Own w base e k (.slice A n c) l) : A = none → c = 0 := by
 rintro rfl
 rcases h.2 with ⟨h0, _⟩ | ⟨g, cap, cur, h0, _⟩
 ·cases h0; rfl
 ·cases h0
theorem OwnA.reads {w : World} {base : Nat} {v : Value} {l : List Att} (h : OwnA w base v l) (hs : l.length ≤ 1125899906842624) : ∃ A c, v = .slice A l.length c ∧ l.length ≤ c ∧ Atts w A l := by
 obtain ⟨vs, h1, h2, h3⟩ := h
 obtain ⟨A, c, rfl, hc, _, hA, hcell⟩ := own_shape h2
 refine ⟨A, c, rfl, hc, hs, fun j hj => ?_⟩
 obtain ⟨ad, rfl⟩ := hA (by omega)
 obtain ⟨q1, q2⟩ := acells_at l vs j hj h1
 obtain ⟨hown, _⟩ := h3 j hj
 obtain ⟨Av, cv, ev, hcv, hC⟩ := hown.reads
 rw [ev] at hown
 refine ⟨ad, Av, cv, rfl, hcell ad rfl _ _ q1, ?_, hcv, hC, own_nocap hown⟩
 have := hcell ad rfl _ _ q2
 rw [add_next ad (j * 2) 1 (by omega), ev] at this
 exact this
theorem own_ne {w : World} {b1 b2 e1 e2 s1 s2 n1 n2 : Nat} {v1 v2 : Value} {c1 c2 : List Value} (h1 : w.ownsRow b1 e1 s1 v1 n1 c1) (h2 : w.ownsRow b2 e2 s2 v2 n2 c2) (he : e1 ≠ e2) (g : Nat) (h : v1.ownBlock = some g) : v2.ownBlock ≠ some g := by
 rcases h1.2 with ⟨rfl, _⟩ | ⟨g1, cap1, cur1, rfl, _, hb1, _⟩
 ·simp [Value.ownBlock] at h
 ·rcases h2.2 with ⟨rfl, _⟩ | ⟨g2, cap2, cur2, rfl, _, hb2, _⟩
  ·simp [Value.ownBlock]
  ·intro h'
   obtain rfl : g1 = g := by simpa [Value.ownBlock] using h
   obtain rfl : g2 = g1 := by simpa [Value.ownBlock] using h'
   have := hb1.symm.trans hb2
   simp at this
   exact he this.2
theorem ownA_snoc {w1 w2 : World} {base : Nat} {v v2 vx : Value} {l : List Att} {x : Att} {vs : List Value} (hvl : vs.length = l.length) (hrow : w1.ownsRow base 72 2 v l.length (acells l vs)) (hvals : ∀ j, j < l.length → Own w1 base 5 .u8 (vs.getD j undef) (attAt l j).val ∧ allB (attAt l j).val)
  (hx : Own w1 base 5 .u8 vx x.val) (hxb : allB x.val) (hg : w1.grownBy w2 v.ownBlock) (h2 : w2.ownsRow base 72 2 v2 (l.length + 1) (acells l vs ++ [.string x.name, vx])) : OwnA w2 base v2 (l ++ [x]) := by
 have hne : (72 : TypeId) ≠ 5 := by decide
 refine ⟨vs ++ [vx], by simp [hvl], by rw [acells_snoc l vs x vx hvl, List.length_append]; exact h2, fun j hj => ?_⟩
 have hk : ∀ {u : Value} {z : List Int}, Own w1 base 5 .u8 u z → Own w2 base 5 .u8 u z := fun hu => own_mod hu (mod_grown hg) (fun g hg' e => own_ne hrow hu hne g e hg')
 by_cases h : j < l.length
 ·obtain ⟨p1, p2⟩ := hvals j h
  have e1 : (vs ++ [vx]).getD j undef = vs.getD j undef := by simp [List.getD_eq_getElem?_getD, List.getElem?_append_left (show j < vs.length by omega)]
  have e2 : attAt (l ++ [x]) j = attAt l j := by simp [attAt, List.getD_eq_getElem?_getD, List.getElem?_append_left h]
  rw [e1, e2]
  exact ⟨hk p1, p2⟩
 ·have hj' : j = l.length := by simp at hj; omega
  subst hj'
  have e1 : (vs ++ [vx]).getD l.length undef = vx := by rw [← hvl]; simp [List.getD_eq_getElem?_getD]
  have e2 : attAt (l ++ [x]) l.length = x := by simp [attAt, List.getD_eq_getElem?_getD]
  rw [e1, e2]
  exact ⟨hk hx, hxb⟩
theorem OwnA.nil (w : World) (base : Nat) : OwnA w base (.slice none 0 0) [] := ⟨[], rfl, own_nil _ _ _ _, fun j hj => by simp at hj⟩
theorem infoAtt : (Tryz.prog.info? 72).map (fun i => (i.zero, i.size, i.bytes)) = some (some (.agg #[.string ⟨#[]⟩, .slice none 0 0]), 2, 40) := by kernel_rfl
def XUnpPost (r : List Att × Int) (w : World) (e : Ending) (w' : World) : Prop :=
 ∃ v, e = .returned (.tuple #[v, .int .i64 r.2]) ∧ OwnA w' w.heap.size v r.1 ∧ Below w.heap.size w w'
theorem xunpPost_bad {r : List Att × Int} {w w' : World} {e : Ending} {c : Int} (hp : r = ([], c)) (he : e = .returned (.tuple #[.slice none 0 0, .int .i64 c])) (hb : Below w.heap.size w w') : XUnpPost r w e w' :=
 ⟨.slice none 0 0, by rw [hp]; exact he, by rw [hp]; exact OwnA.nil _ _, hb⟩
structure XUnp (w wr : World) (m k g : Nat) (full r : List Int) (v vr : Value) (out : List Att) (cc : Nat) : Prop where
 own : OwnA wr w.heap.size v out
 cnt : out.length = k
 below : Below w.heap.size w wr
 rest : ∃ ad, vr = .slice (some ad) r.length cc ∧ r.length < cc ∧ r.length ≤ 250 ∧ Kd.C (Kd.int .u8) w (some ad) r.length r
 bytes : allB r
 eq : xreadI m full [] = xreadI g r out
set_option maxHeartbeats 16000000 in
set_option maxRecDepth 100000 in
theorem xunpack_calls (A : Option Addr) (c : Nat) (s : Int) (l : List Int) (w : World) (hl : Kd.C (Kd.int .u8) w A l.length l) (hc : l.length ≤ c) (hs0 : 0 ≤ s) (hs1 : s < 4294967296) (hb : allB l) :
  Calls Tryz.prog 13 #[.slice A l.length c, .int .u32 s] w (XUnpPost (xunpI l s) w) := by
 by_cases h256 : l.length = 256
 ·have HL := Aside0.mk hl
  have hub : xunpI l s = match xreadI (l.getD 1 0).toNat ((l.drop 2).take 250) [] with | none => ([], 117) | some out => if (xpackI out s).2 = 0 ∧ (xpackI out s).1 = l then (out, 0) else ([], 117) := by unfold xunpI; exact if_neg (fun h => h h256)
  obtain ⟨ad, rfl, hx1⟩ := C_int_at hl 1 (by omega)
  obtain ⟨hm0, hm1⟩ := allB_get hb 1
  have HB := Aside0.mk hb
  obtain ⟨m, hm⟩ : ∃ m : Nat, l.getD 1 0 = m := ⟨(l.getD 1 0).toNat, by omega⟩
  have hp2 : Kd.C (Kd.int .u8) w (some ⟨ad.block, ad.off + 2, none⟩) 250 ((l.drop 2).take 250) := C_int_part hl 2 250 (by omega)
  have hfb : allB ((l.drop 2).take 250) := allB_take (allB_drop hb 2) 250
  have hfl : ((l.drop 2).take 250).length = 250 := by simp; omega
  generalize (l.drop 2).take 250 = full at hp2 hfb hfl hub
  have HFB := Aside0.mk hfb
  rw [hm] at hx1 hm1
  replace hx1 : w.cell? ⟨ad.block, ad.off + 1, none⟩ = some (.int .u8 m) := hx1
  have hmm : (l.getD 1 0).toNat = m := by rw [hm]; exact Int.toNat_natCast m
  rw [hmm] at hub
  obtain ⟨rr, hrr⟩ : ∃ rr, xunpI l s = rr := ⟨_, rfl⟩
  rw [hrr] at hub ⊢
  have HBAD := Aside0.mk (fun (h : xreadI m full [] = none) => show rr = ([], 117) by rw [hub, h])
  have HGOOD := Aside0.mk (fun out (h : xreadI m full [] = some out) => show rr = if (xpackI out s).2 = 0 ∧ (xpackI out s).1 = l then (out, 0) else ([], 117) by rw [hub, h])
  have HFL := Aside0.mk hfl
  have HP2 := Aside0.mk hp2
  have HL2 := Aside0.mk h256
  rw [h256] at hc ⊢
  clear hl hub hb hm hm0 hp2 h256 hfb hfl hmm hrr
  have hc2 : c ≠ 2 := by omega
  go_enter Tryz.func13, Tryz.ntmps13
  go_wp2
  go_loopg [6, 7, 20] m (fun g v vr i wr => ∃ (k : Nat) (r : List Int) (out : List Att) (cc : Nat), k + g = m ∧ i = .int .u8 k ∧ Aside0 (XUnp w wr m k g full r v vr out cc))
  case atStart => exact ⟨0, full, [], c - 2, by omega, rfl, ⟨⟨OwnA.nil _ _, rfl, Below.refl _ _, ⟨⟨ad.block, ad.off + 2, none⟩, by rw [HFL.out], by rw [HFL.out]; omega, by rw [HFL.out]; omega, by rw [HFL.out]; exact HP2.out⟩, HFB.out, rfl⟩⟩⟩
  case round =>
   obtain ⟨k, r, out, cc, hk, rfl, HU⟩ := hrel
   obtain ⟨ad2, rfl, hcc, h250, hr⟩ := HU.out.rest
   have HR := Aside0.mk hr
   have HB1 := fun j => allB_get HU.out.bytes j
   clear hr
   cases gk with
   | zero =>
    obtain rfl : k = m := by omega
    have hg := HGOOD.out out HU.out.eq
    obtain ⟨A', c', rfl, hc', hE⟩ := HU.out.own.reads (by rw [HU.out.cnt]; omega)
    have HG := Aside0.mk hg
    have hC := HU.out.cnt
    have hlen := HL2.out
    have hall : ∀ x ∈ out, allB x.val := fun x hx => by
     obtain ⟨vs, _, _, h3⟩ := HU.out.own
     obtain ⟨j, hj, rfl⟩ := List.getElem_of_mem hx
     have := (h3 j hj).2
     simpa [attAt, List.getD_eq_getElem?_getD, hj] using this
    obtain ⟨p, hp⟩ : ∃ p, xpackI out s = p := ⟨_, rfl⟩
    have hpk := xpack_calls A' c' s out _ hE hc' (by omega) hs0 hs1
    have hap := allB_xpack hall s
    have hpl := xpackI_len (l := out) (s := s)
    rw [hp] at hpk hap HG hpl
    obtain ⟨p1, p2⟩ := p
    dsimp only at HG hap hpl
    have HAP := Aside0.mk hap
    have HPK := Aside0.mk hpk
    clear hpk hap hp hC hlen HB1 hall hE hg
    by_cases hp0 : p2 = 0
    ·subst hp0
     have HPLN := Aside0.mk (hpl rfl)
     clear hpl
     go_wp2_with fail
     refine HPK.out.mono ?_
     rintro e w1 ⟨v1, rfl, hb1, hv1, _⟩
     obtain ⟨g1, c1, rfl, hg1, hc1, hr1⟩ := hv1 rfl
     have HB1 := Aside0.mk (below_then HU.out.below HU.out.below.size hb1)
     have HO1 := Aside0.mk (HU.out.own.below hb1)
     have hR1 : Kd.C (Kd.int .u8) w1 (some ⟨g1, 0, none⟩) p1.length p1 := hr1.reads (by rw [HPLN.out]; omega)
     have heq := equal_calls (some ad) (some ⟨g1, 0, none⟩) c c1 l p1 w1 (Kd.C_below HL.out HB1.out) hR1
     rw [HL2.out, strOf_eq HB.out HAP.out] at heq
     obtain ⟨b, hb⟩ : ∃ b, (l == p1) = b := ⟨_, rfl⟩
     rw [hb] at heq
     have HBB := Aside0.mk hb
     have HEQ := Aside0.mk heq
     clear heq hR1 hr1 hb1 hv1 hb
     dsimp only
     go_wp2_with fail
     refine HEQ.out.mono ?_
     rintro e w2 ⟨rfl, rfl⟩
     dsimp only
     cases b
     ·go_wp2
      go_ret2
      have hne : ¬ (p1 = l) := by rintro rfl; have := HBB.out; simp at this
      exact xunpPost_bad (by rw [HG.out]; exact if_neg (fun h => hne h.2)) rfl HB1.out
     ·go_wp2
      go_ret2
      have he : p1 = l := by have := HBB.out; simp at this; exact this.symm
      have hg : rr = (out, 0) := by rw [HG.out]; exact if_pos ⟨trivial, he⟩
      exact ⟨.slice A' out.length c', by rw [hg]; rfl, by rw [hg]; exact HO1.out, HB1.out⟩
    ·clear hpl
     have hpb : (p2 != 0) = true := by simpa using hp0
     go_wp2_with fail
     refine HPK.out.mono ?_
     rintro e w1 ⟨v1, rfl, hb1, _, hv1⟩
     obtain rfl := hv1 hp0
     have HB1 := Aside0.mk (below_then HU.out.below HU.out.below.size hb1)
     clear hv1 hb1
     dsimp only
     go_wp2
     go_ret2
     exact xunpPost_bad (by rw [HG.out]; exact if_neg (fun h => hp0 h.1)) rfl HB1.out
   | succ g =>
    have i0k : (k : Int) < (m : Int) := by omega
    have i0kn : k < m := by omega
    by_cases h4 : r.length < 2
    ·have h4i : (r.length : Int) < 2 := by omega
     go_upto_region 7 with fail
     refine wp_region_in [0, 0, 0, 0, 0, 0, 0, 0, 1, 0, 0, 0, 0, 1, 0, 0, 0, 0] [] (fun _ => True) (by kernel_rfl) rfl (by kernel_rfl) (fun _ _ _ _ h => h) trivial ?_
     iterate 18 (first
      | (refine in_off0 (by rfl) ?_; simp only [Act.put, stA, stZ, stS, i64_w, i32_w])
      | (refine in_off1 (by rfl) ?_; simp only [Act.put, stA, stZ, stS, i64_w, i32_w])
      | (refine in_0 (v := ?_) (by rfl) rfl ?_ (a' := ?_) ?_ ?_; rotate_left; (intro w'; go_simp; with_reducible rfl); rotate_left; (simp only [Act.put, stA, stZ, stS, i64_w, i32_w]; rfl))
      | (refine in_1 (v := ?_) (by rfl) rfl ?_ (a' := ?_) ?_ ?_; rotate_left; (rintro w' hs; go_split_ands; go_simp; with_reducible rfl); rotate_left; (simp only [Act.put, stA, stZ, stS, i64_w, i32_w]; rfl)))
     refine in_nil ?_
     go_wp2
     go_ret2
     exact xunpPost_bad (HBAD.out (HU.out.eq.trans (by rw [xreadI, if_pos (by omega)]))) rfl HU.out.below.drew
    ·obtain ⟨ad', e, hy0⟩ := C_int_at HR.out 0 (by omega)
     cases e
     obtain ⟨ad', e, hy1⟩ := C_int_at HR.out 1 (by omega)
     cases e
     replace hy0 := pw_cell_below HU.out.below hy0
     replace hy1 : wr.cell? ⟨ad2.block, ad2.off + 1, none⟩ = _ := pw_cell_below HU.out.below hy1
     rw [show ad2.add 0 = ad2 from rfl] at hy0
     obtain ⟨a, ha⟩ : ∃ a : Nat, r.getD 0 0 = a := ⟨(r.getD 0 0).toNat, by have := HB1 0; omega⟩
     obtain ⟨bq, hbq⟩ : ∃ bq : Nat, r.getD 1 0 = bq := ⟨(r.getD 1 0).toNat, by have := HB1 1; omega⟩
     have ha1 : a < 256 := by have := HB1 0; omega
     have hb1 : bq < 256 := by have := HB1 1; omega
     rw [ha] at hy0
     rw [hbq] at hy1
     have HAB := Aside0.mk (And.intro ha hbq)
     have h4i : ¬ (r.length : Int) < 2 := by omega
     have i0 : (0 : Int) < (r.length : Int) := by omega
     have i0n : 0 < r.length := by omega
     have i1 : (1 : Int) < (r.length : Int) := by omega
     have i1n : 1 < r.length := by omega
     obtain ⟨na, hna⟩ : ∃ na, 2 + a = na := ⟨_, rfl⟩
     obtain ⟨nb, hnb⟩ : ∃ nb, na + bq = nb := ⟨_, rfl⟩
     have e1 : 2 + (a : Int) = (na : Int) := by omega
     have e2 : (na : Int) + (bq : Int) = (nb : Int) := by omega
     have HNA := Aside0.mk (And.intro hna hnb)
     have hnb1 : nb < 1000 := by omega
     have HW := Aside0.mk (And.intro (show wrap64 (a : Int) = (a : Int) by unfold wrap64; omega) (And.intro (show wrap64 (bq : Int) = (bq : Int) by unfold wrap64; omega) (And.intro (show wrap64 (na : Int) = (na : Int) by unfold wrap64; omega) (show wrap64 (nb : Int) = (nb : Int) by unfold wrap64; omega))))
     clear hna hnb
     clear HB1 ha hbq
     by_cases h4q : r.length < nb
     ·have h4qi : (r.length : Int) < (nb : Int) := by omega
      go_upto_region 7 with fail
      obtain ⟨hw0, hw1, hw2, hw3⟩ := HW.out
      refine wp_region_in [0, 0, 0, 0, 0, 0, 0, 0, 1, 0, 0, 0, 0, 1, 0, 0, 0, 0] [] (fun w' => w'.cell? ad2 = some (.int .u8 (a : Nat)) ∧ w'.cell? ⟨ad2.block, ad2.off + 1, none⟩ = some (.int .u8 (bq : Nat))) (by kernel_rfl) rfl (by kernel_rfl) (fun _ _ _ _ h => h) ⟨hy0, hy1⟩ ?_
      iterate 18 (first
       | (refine in_off0 (by rfl) ?_; simp only [Act.put, stA, stZ, stS, i64_w, i32_w])
       | (refine in_off1 (by rfl) ?_; simp only [Act.put, stA, stZ, stS, i64_w, i32_w])
       | (refine in_0 (v := ?_) (by rfl) rfl ?_ (a' := ?_) ?_ ?_; rotate_left; (intro w'; go_simp; with_reducible rfl); rotate_left; (simp only [Act.put, stA, stZ, stS, i64_w, i32_w]; rfl))
       | (refine in_1 (v := ?_) (by rfl) rfl ?_ (a' := ?_) ?_ ?_; rotate_left; (rintro w' hs; go_split_ands; go_simp; with_reducible rfl); rotate_left; (simp only [Act.put, stA, stZ, stS, i64_w, i32_w]; rfl)))
      refine in_nil ?_
      clear hw0 hw1 hw2 hw3
      go_wp2
      go_ret2
      exact xunpPost_bad (HBAD.out (HU.out.eq.trans (by rw [xreadI, if_pos (by rw [HAB.out.1, HAB.out.2]; have := HNA.out; omega)]))) rfl HU.out.below.drew
     ·have h4qi : ¬ (r.length : Int) < (nb : Int) := by omega
      go_upto_region 7 with fail
      obtain ⟨hw0, hw1, hw2, hw3⟩ := HW.out
      refine wp_region_in [0, 0, 0, 0, 0, 0, 0, 0, 1, 0, 0, 0, 0, 1, 0, 0, 0, 0] [] (fun w' => w'.cell? ad2 = some (.int .u8 (a : Nat)) ∧ w'.cell? ⟨ad2.block, ad2.off + 1, none⟩ = some (.int .u8 (bq : Nat))) (by kernel_rfl) rfl (by kernel_rfl) (fun _ _ _ _ h => h) ⟨hy0, hy1⟩ ?_
      iterate 18 (first
       | (refine in_off0 (by rfl) ?_; simp only [Act.put, stA, stZ, stS, i64_w, i32_w])
       | (refine in_off1 (by rfl) ?_; simp only [Act.put, stA, stZ, stS, i64_w, i32_w])
       | (refine in_0 (v := ?_) (by rfl) rfl ?_ (a' := ?_) ?_ ?_; rotate_left; (intro w'; go_simp; with_reducible rfl); rotate_left; (simp only [Act.put, stA, stZ, stS, i64_w, i32_w]; rfl))
       | (refine in_1 (v := ?_) (by rfl) rfl ?_ (a' := ?_) ?_ ?_; rotate_left; (rintro w' hs; go_split_ands; go_simp; with_reducible rfl); rotate_left; (simp only [Act.put, stA, stZ, stS, i64_w, i32_w]; rfl)))
      refine in_nil ?_
      clear hw0 hw1 hw2 hw3
      go_upto_region 9 with fail
      obtain ⟨hw0, hw1, hw2, hw3⟩ := HW.out
      refine wp_region_in [0, 0, 1, 0, 0, 0, 0, 1, 0, 0, 0, 0, 1, 0, 0, 0, 0] [] (fun w' => w'.cell? ad2 = some (.int .u8 (a : Nat)) ∧ w'.cell? ⟨ad2.block, ad2.off + 1, none⟩ = some (.int .u8 (bq : Nat))) (by kernel_rfl) rfl (by kernel_rfl) (fun _ _ _ _ h => h) ⟨hy0, hy1⟩ ?_
      iterate 17 (first
       | (refine in_off0 (by rfl) ?_; simp only [Act.put, stA, stZ, stS, i64_w, i32_w])
       | (refine in_off1 (by rfl) ?_; simp only [Act.put, stA, stZ, stS, i64_w, i32_w])
       | (refine in_0 (v := ?_) (by rfl) rfl ?_ (a' := ?_) ?_ ?_; rotate_left; (intro w'; go_simp; with_reducible rfl); rotate_left; (simp only [Act.put, stA, stZ, stS, i64_w, i32_w]; rfl))
       | (refine in_1 (v := ?_) (by rfl) rfl ?_ (a' := ?_) ?_ ?_; rotate_left; (rintro w' hs; go_split_ands; go_simp; with_reducible rfl); rotate_left; (simp only [Act.put, stA, stZ, stS, i64_w, i32_w]; rfl)))
      refine in_nil ?_
      clear hw0 hw1 hw2 hw3
      go_upto_region 10 with fail
      have hna := HNA.out.1
      have hnb := HNA.out.2
      obtain ⟨vl, hvl⟩ : ∃ vl, (r.drop na).take bq = vl := ⟨_, rfl⟩
      have hvll : vl.length = bq := by rw [← hvl]; simp; omega
      have hvlb : allB vl := by rw [← hvl]; exact allB_take (allB_drop HU.out.bytes _) _
      have hpart := C_int_part HR.out 2 a (by omega)
      have hpart2 := C_int_part HR.out na bq (by omega)
      rw [hvl] at hpart2
      have HS := Aside0.mk (show ∀ w' : World, Below wr.heap.size wr w' → ((convert 23 9 (.slice (some ⟨ad2.block, ad2.off + 2, none⟩) a (cc - 2))).run Tryz.prog w' = .ok (.string (strOfNums ((r.drop 2).take a))) w' ∧ Below wr.heap.size wr w') from fun w' hb =>
       ⟨Kd.C_string rfl rfl rfl (Kd.C_below (Kd.C_below hpart HU.out.below) hb), hb⟩)
      have HCL := Aside0.mk (show ∀ W : World, Below wr.heap.size wr W → Calls Tryz.prog 42 #[.slice (some (ad2.add na)) bq (cc - na)] W fun e w' => ∃ v, e = .returned v ∧ Own w' W.heap.size 5 .u8 v vl ∧ Below W.heap.size W w' from fun W hb => by
       have := clone_calls (ad2.add na) (cc - na) vl W (by rw [hvll]; exact Kd.C_below (Kd.C_below hpart2 HU.out.below) hb) (by omega)
       rw [hvll] at this
       exact this)
      have hcc2 : cc ≠ 2 := by omega
      have hcut1 : ∀ W : World, (Instr.slice 23 (.slice (some ad2) r.length cc) (some (.int .i64 2)) (some (.int .i64 (na : Int))) none).run Tryz.prog W = .ok (.slice (some ⟨ad2.block, ad2.off + 2, none⟩) a (cc - 2)) W := by
       intro W
       obtain ⟨j0, hj, hj0, hj1, hj2⟩ := info_parts infoU8
       have := cut_mid (P := Tryz.prog) 23 5 .i64 .i64 (i := j0) rfl hj 1 hj1 (some ad2) r.length cc 2 (na : Int) (by omega) (by omega) (by omega) (by omega) W
       rw [this, if_neg (show ¬ cc = (2 : Int).toNat from hcc2)]
       have e : ((na : Nat) : Int).toNat - (2 : Int).toNat = a := by omega
       rw [e]
       rfl
      have hcut2 : ∀ W : World, (Instr.slice 23 (.slice (some ad2) r.length cc) (some (.int .i64 (na : Int))) (some (.int .i64 (nb : Int))) none).run Tryz.prog W = .ok (.slice (some (ad2.add na)) bq (cc - na)) W := by
       intro W
       obtain ⟨j0, hj, hj0, hj1, hj2⟩ := info_parts infoU8
       have := cut_mid (P := Tryz.prog) 23 5 .i64 .i64 (i := j0) rfl hj 1 hj1 (some ad2) r.length cc (na : Int) (nb : Int) (by omega) (by omega) (by omega) (by omega) W
       have e0 : ((na : Nat) : Int).toNat = na := by omega
       have e : ((nb : Nat) : Int).toNat - na = bq := by omega
       rw [e0] at this
       rw [this, if_neg (show ¬ cc = na by omega), e, Nat.mul_one]
       rfl
      have HVL := Aside0.mk (And.intro hvl (And.intro hvll hvlb))
      clear hvl hvll hvlb hpart hpart2 hna hnb
      refine wp_region_in [0, 0, 0, 0, 1, 0, 0, 0, 0, 2, 0, 2, 3, 0] [12] (fun w' => (convert 23 9 (.slice (some ⟨ad2.block, ad2.off + 2, none⟩) a (cc - 2))).run Tryz.prog w' = .ok (.string (strOfNums ((r.drop 2).take a))) w' ∧ Below wr.heap.size wr w') (by kernel_rfl) rfl (by kernel_rfl) (fun _ _ _ _ h => h) (HS.out _ (Below.refl _ _).drew.drew.drew) ?_
      iterate 9 (first
       | (refine in_off0 (by rfl) ?_; simp only [Act.put, stA, stZ, stS, i64_w, i32_w])
       | (refine in_off1 (by rfl) ?_; simp only [Act.put, stA, stZ, stS, i64_w, i32_w])
       | (refine in_0 (v := ?_) (by rfl) rfl ?_ (a' := ?_) ?_ ?_; rotate_left; (intro w'; go_simp; with_reducible rfl); rotate_left; (simp only [Act.put, stA, stZ, stS, i64_w, i32_w]; rfl))
       | (refine in_1 (v := ?_) (by rfl) rfl ?_ (a' := ?_) ?_ ?_; rotate_left; (rintro w' hs; go_split_ands; go_simp; with_reducible rfl); rotate_left; (simp only [Act.put, stA, stZ, stS, i64_w, i32_w]; rfl)))
      refine in_2 (by rfl) (fun K hK => ?_)
      go_simp
      have hbd : Below wr.heap.size wr wr.drew.drew.drew := (Below.refl _ _).drew.drew.drew
      refine (HCL.out _ hbd).mono ?_
      rintro e w9 ⟨v9, rfl, ho9, hb9⟩
      obtain ⟨A9, c9, rfl, hc9, _⟩ := ho9.reads
      have hb9' : Below wr.heap.size wr w9 := below_then hbd (Nat.le_refl _) hb9
      dsimp only
      refine hK _ _ (HS.out _ hb9') ?_
      clear hK K
      try simp only [Act.put, stA, stZ, stS, i64_w, i32_w]
      iterate 1 (first
       | (refine in_off0 (by rfl) ?_; simp only [Act.put, stA, stZ, stS, i64_w, i32_w])
       | (refine in_off1 (by rfl) ?_; simp only [Act.put, stA, stZ, stS, i64_w, i32_w])
       | (refine in_0 (v := ?_) (by rfl) rfl ?_ (a' := ?_) ?_ ?_; rotate_left; (intro w'; go_simp; with_reducible rfl); rotate_left; (simp only [Act.put, stA, stZ, stS, i64_w, i32_w]; rfl))
       | (refine in_1 (v := ?_) (by rfl) rfl ?_ (a' := ?_) ?_ ?_; rotate_left; (rintro w' hs; go_split_ands; go_simp; with_reducible rfl); rotate_left; (simp only [Act.put, stA, stZ, stS, i64_w, i32_w]; rfl)))
      refine in_2 (by rfl) (fun K hK => ?_)
      go_simp
      have hb10 : Below wr.heap.size wr (w9.alloc (.cells #[.string (strOfNums ((r.drop 2).take a)), .slice A9 vl.length c9] 72)) := below_alloc hb9' _
      refine hK _ _ (HS.out _ hb10) ?_
      clear hK K
      try simp only [Act.put, stA, stZ, stS, i64_w, i32_w]
      refine in_3 (by rfl) (fun K hK => ?_)
      obtain ⟨e0, he, hz0, hz1, hz2⟩ := info_parts infoAtt
      obtain ⟨vs, hvs1, hvs2, hvs3⟩ := HU.out.own
      have hba := below_alloc (Below.refl w9.heap.size w9) (.cells #[.string (strOfNums ((r.drop 2).take a)), .slice A9 vl.length c9] 72)
      have hown := pw_own_below hvs2 hb10
      have hbw := below_then HU.out.below HU.out.below.size hb10
      have hcnt := HU.out.cnt
      refine wp_append_own _ (.tmp 55) (.tmp 66) 29 rfl w.heap.size 72 e0 (.agg #[.string ⟨#[]⟩, .slice none 0 0]) 2 40 Tryz.underlying29 he hz0 hz1 hz2 rfl (by decide) u6 out.length (acells out vs) rfl hown ⟨w9.heap.size, 0, none⟩ 1 1 [.string (strOfNums ((r.drop 2).take a)), .slice A9 vl.length c9] rfl rfl ?c1 ?c2 (by simp only [maxLen]; omega) (by omega) hbw.size ?_
      case c1 =>
       intro j u hj
       rw [add_plain]
       exact cell_alloc w9 _ _ j u (by simpa using hj)
      case c2 => simp [Value.oneCell']
      intro v' w' h2 h3 _
      have hown2 : OwnA w' w.heap.size v' (out ++ [xattI r]) := ownA_snoc (x := xattI r) hvs1 hown (fun j hj => ⟨(hvs3 j hj).1.below hb10, (hvs3 j hj).2⟩)
       (by
        have e : (xattI r).val = vl := by
         unfold xattI
         dsimp only
         rw [HAB.out.1, HAB.out.2, Int.toNat_natCast, Int.toNat_natCast, HNA.out.1, HVL.out.1]
        rw [e]
        exact own_any (ho9.below hba) (fun g' hg' => Nat.le_trans HU.out.below.size (own_base ho9 g' hg')))
       (by
        have e : (xattI r).val = vl := by
         unfold xattI
         dsimp only
         rw [HAB.out.1, HAB.out.2, Int.toNat_natCast, Int.toNat_natCast, HNA.out.1, HVL.out.1]
        rw [e]
        exact HVL.out.2.2) h3 (by
        have e : (xattI r).name = strOfNums ((r.drop 2).take a) := by
         unfold xattI
         dsimp only
         rw [HAB.out.1, Int.toNat_natCast]
        rw [e]
        exact h2)
      have hbl2 := pw_below_grown hbw _ hbw.size h3 (own_base hown)
      have HO2 := Aside0.mk hown2
      have HB2 := Aside0.mk hbl2
      refine hK _ _ ?_
      clear hK K h2 h3 hown2 hbl2 hown hbw hb10 hb9 hb9' hbd hba ho9 hvs1 hvs2 hvs3 hc9
      try simp only [Act.put, stA, stZ, stS, i64_w, i32_w]
      refine out_0 (v := ?_) (by rfl) rfl ?_ (a' := ?_) ?_ ?_
      rotate_left
      ·intro w'
       go_simp
       with_reducible rfl
      rotate_left
      ·simp only [Act.put, stA, stZ, stS, i64_w, i32_w]
       rfl
      refine out_nil ?_
      have hcut3 : ∀ W : World, (Instr.slice 23 (.slice (some ad2) r.length cc) (some (.int .i64 (nb : Int))) none none).run Tryz.prog W = .ok (.slice (some (ad2.add nb)) (r.drop nb).length (cc - nb)) W := by
       intro W
       obtain ⟨j0, hj, hj0, hj1, hj2⟩ := info_parts infoU8
       have := cut_from (P := Tryz.prog) 23 5 .i64 (i := j0) rfl hj 1 hj1 (some ad2) r.length cc (nb : Int) (by omega) (by omega) W
       have e : ((nb : Nat) : Int).toNat = nb := by omega
       rw [e] at this
       rw [this, if_neg (by omega), Nat.mul_one, List.length_drop]
       rfl
      clear hcut1 hcut2 hcnt
      go_wp2
      go_roundg g
      case measure => omega
      case rel =>
       have hp := C_int_part HR.out nb (r.drop nb).length (by rw [List.length_drop]; omega)
       rw [List.take_of_length_le (Nat.le_refl _)] at hp
       have hq4 : ¬ ((r.length : Int) < 2 ∨ (r.length : Int) < 2 + r.getD 0 0 + r.getD 1 0) := by rw [HAB.out.1, HAB.out.2]; have := HNA.out; omega
       have hnb' : 2 + a + bq = nb := by have := HNA.out; omega
       exact ⟨k + 1, r.drop nb, out ++ [xattI r], cc - nb, by omega, by go_num, ⟨⟨HO2.out, by rw [List.length_append, HU.out.cnt]; rfl, HB2.out, ⟨ad2.add nb, by rw [List.length_drop], by rw [List.length_drop]; omega, by rw [List.length_drop]; omega, hp⟩, allB_drop HU.out.bytes _, HU.out.eq.trans (by
        show xreadI (g + 1) r out = _
        rw [xreadI, if_neg hq4, HAB.out.1, HAB.out.2, Int.toNat_natCast, Int.toNat_natCast, hnb'])⟩⟩⟩
 ·go_enter Tryz.func13, Tryz.ntmps13
  have hub : xunpI l s = ([], 117) := by unfold xunpI; rw [if_pos h256]
  go_wp2
  go_ret2
  exact xunpPost_bad hub rfl (Below.refl _ _)
theorem zero_bytes (w : World) : (zeroValue 23).run Tryz.prog w = .ok (.slice none 0 0) w := by kernel_rfl
def DReadPost (L : List (List Int)) (n : Nat) (w : World) (e : Ending) (w' : World) : Prop :=
 ∃ g c, e = .returned (.tuple #[.slice (some ⟨g, 0, none⟩) 256 c, .int .i64 0]) ∧ w.heap.size ≤ g ∧ 256 ≤ c ∧ Row w' .u8 g 5 (L.getD n []) ∧ Below w.heap.size w w'
set_option maxHeartbeats 1000000 in
set_option maxRecDepth 100000 in
theorem dread_calls {D : Nat → Prop} {p : Nat} {L : List (List Int)} {m : Nat} (n : Nat) (w : World) (h : DiskIs w D p L m) (hn : n < L.length) :
  Calls Tryz.prog 56 #[.pointer (some ⟨p, 0, none⟩), .int .i64 n] w (DReadPost L n w) := by
 obtain ⟨bd, bn, pv, ops, fd, fn, pend, h⟩ := h
 have hlo := h.lo
 have hhi := h.hi
 have hc0 := h.st.cell 0 _ rfl
 have hc1 := h.st.cell 1 _ rfl
 have hc3 := h.st.cell 3 _ rfl
 have hdec : decide (0 ≤ (n : Int) ∧ (n : Int) < (L.length : Int)) = true := by simp; omega
 have hhas := dhas_calls (x := (n : Int)) hc0
 rw [hdec] at hhas
 have HHAS := Aside0.mk hhas
 have HMD := Aside0.mk h.md
 have HMN := Aside0.mk h.mn
 have hcont := h.cont n hn
 have i1 : n < 9223372036854775808 := by omega
 clear hhas hdec
 cases hfn : fn n with
 | some v =>
  rw [hfn] at hcont
  obtain ⟨g0, c0, rfl, hd0, hcc0, hr0, hl0, hb0⟩ := hcont
  have HR0 := Aside0.mk hr0
  have HFN := Aside0.mk (show (fn n).getD (.slice none 0 0) = .slice (some ⟨g0, 0, none⟩) 256 c0 by rw [hfn]; rfl)
  have hnil := nonnil_eql ⟨g0, 0, none⟩ 256 c0
  obtain ⟨b, hb⟩ : ∃ b, L.getD n [] = b := ⟨_, rfl⟩
  have HBB := Aside0.mk hb
  rw [hb] at HR0 hl0
  have hcl := clone_calls ⟨g0, 0, none⟩ c0 b w (HR0.out.reads (by omega)) (by omega)
  rw [hl0] at hcl
  have HCL := Aside0.mk hcl
  have HL0 := Aside0.mk hl0
  clear hfn h hr0 hb0 hcl hb hl0
  go_enter Tryz.func56, Tryz.ntmps56
  go_wp2_with (first
   | (go_at_call 124; refine HHAS.out.mono ?_; rintro e w' ⟨rfl, rfl⟩)
   | (go_at_call 42; refine HCL.out.mono ?_; rintro e w1 ⟨v1, rfl, hO, hB⟩; have HO := Aside0.mk hO; have HB := Aside0.mk hB; clear hO hB)
   | (at_lookup; refine im_look _ rfl _ _ rfl Tryz.underlying3 Tryz.underlying98 (zero_bytes _) rfl HMN.out n i1 rfl _ HFN.out ?_))
  go_ret2
  obtain ⟨g1, c1, rfl, hg1, hc1', hr1⟩ := HO.out.row (by rw [HL0.out]; omega)
  rw [HL0.out] at hc1'
  exact ⟨g1, c1, by rw [HL0.out]; rfl, hg1, hc1', by rw [HBB.out]; exact hr1, HB.out⟩
 | none =>
  rw [hfn] at hcont
  have HFN := Aside0.mk (show (fn n).getD (.slice none 0 0) = .slice none 0 0 by rw [hfn]; rfl)
  have hnil0 := nil_eql
  cases hfd : fd n with
  | some v =>
   rw [hfd] at hcont
   obtain ⟨g0, c0, rfl, hd0, hcc0, hr0, hl0, hb0⟩ := hcont
   have HR0 := Aside0.mk hr0
   have HFD := Aside0.mk (show (fd n).getD (.slice none 0 0) = .slice (some ⟨g0, 0, none⟩) 256 c0 by rw [hfd]; rfl)
   have hnil := nonnil_eql ⟨g0, 0, none⟩ 256 c0
   obtain ⟨b, hb⟩ : ∃ b, L.getD n [] = b := ⟨_, rfl⟩
   have HBB := Aside0.mk hb
   rw [hb] at HR0 hl0
   have hcl := clone_calls ⟨g0, 0, none⟩ c0 b w (HR0.out.reads (by omega)) (by omega)
   rw [hl0] at hcl
   have HCL := Aside0.mk hcl
   have HL0 := Aside0.mk hl0
   clear hfn hfd h hr0 hb0 hcl hb hl0
   go_enter Tryz.func56, Tryz.ntmps56
   go_wp2_with (first
    | (go_at_call 124; refine HHAS.out.mono ?_; rintro e w' ⟨rfl, rfl⟩)
    | (go_at_call 42; refine HCL.out.mono ?_; rintro e w1 ⟨v1, rfl, hO, hB⟩; have HO := Aside0.mk hO; have HB := Aside0.mk hB; clear hO hB)
    | ((with_reducible refine gate_dst (N := 16) rfl ?_); refine im_look _ rfl _ _ rfl Tryz.underlying3 Tryz.underlying98 (zero_bytes _) rfl HMN.out n i1 rfl _ HFN.out ?_)
    | ((with_reducible refine gate_dst (N := 24) rfl ?_); refine im_look _ rfl _ _ rfl Tryz.underlying3 Tryz.underlying98 (zero_bytes _) rfl HMD.out n i1 rfl _ HFD.out ?_))
   go_ret2
   obtain ⟨g1, c1, rfl, hg1, hc1', hr1⟩ := HO.out.row (by rw [HL0.out]; omega)
   rw [HL0.out] at hc1'
   exact ⟨g1, c1, by rw [HL0.out]; rfl, hg1, hc1', by rw [HBB.out]; exact hr1, HB.out⟩
  | none =>
   rw [hfd] at hcont
   have hz : L.getD n [] = zeros := hcont
   have HZ := Aside0.mk hz
   have HFD := Aside0.mk (show (fd n).getD (.slice none 0 0) = .slice none 0 0 by rw [hfd]; rfl)
   have hmk : ∀ w : World, (Instr.makeSlice 23 (.int .i64 256) (.int .i64 256)).run Tryz.prog w = .ok (.slice (some ⟨w.heap.size, 0, none⟩) 256 256) (noughts w) := make256
   clear hfn hfd h hz hcont
   go_enter Tryz.func56, Tryz.ntmps56
   go_wp2_with (first
    | (go_at_call 124; refine HHAS.out.mono ?_; rintro e w' ⟨rfl, rfl⟩)
    | ((with_reducible refine gate_dst (N := 16) rfl ?_); refine im_look _ rfl _ _ rfl Tryz.underlying3 Tryz.underlying98 (zero_bytes _) rfl HMN.out n i1 rfl _ HFN.out ?_)
    | ((with_reducible refine gate_dst (N := 24) rfl ?_); refine im_look _ rfl _ _ rfl Tryz.underlying3 Tryz.underlying98 (zero_bytes _) rfl HMD.out n i1 rfl _ HFD.out ?_))
   go_ret2
   refine ⟨w.heap.size, 256, rfl, Nat.le_refl _, Nat.le_refl _, ?_, below_alloc (Below.refl _ _) _⟩
   rw [HZ.out]
   exact row_last _ _ _ _
theorem infoWr : (Tryz.prog.info? 207).map (fun i => (i.zero, i.size, i.bytes)) = some (some (.agg #[.int .i64 0, .slice none 0 0]), 2, 32) := by kernel_rfl
def orNew (w w' : World) (D : Nat → Prop) : Nat → Prop := fun k => D k ∨ (w.heap.size ≤ k ∧ k < w'.heap.size)
set_option maxHeartbeats 2000000 in
set_option maxRecDepth 100000 in
theorem dwrite_calls {D : Nat → Prop} {p : Nat} {L : List (List Int)} {m : Nat} (n : Nat) (ad : Addr) (c : Nat) (b : List Int) (w : World) (h : DiskIs w D p L m) (hn : n < L.length) (hm : m < 1000000)
  (hb : Kd.C (Kd.int .u8) w (some ad) b.length b) (hbl : b.length = 256) (hba : allB b) :
  Calls Tryz.prog 106 #[.pointer (some ⟨p, 0, none⟩), .int .i64 n, .slice (some ad) 256 c] w fun e w' => e = .returned (.int .i64 0) ∧ DiskIs w' (orNew w w' D) p (L.set n b) (m + 1) ∧ Mod w w' D := by
 obtain ⟨bd, bn, pv, ops, fd, fn, pend, h⟩ := h
 have hlo := h.lo
 have hhi := h.hi
 have hdec : decide (0 ≤ (n : Int) ∧ (n : Int) < (L.length : Int)) = true := by simp; omega
 have hhas := dhas_calls (x := (n : Int)) (h.st.cell 0 _ rfl)
 rw [hdec] at hhas
 have HHAS := Aside0.mk hhas
 have hcl := clone_calls ad c b w hb (by omega)
 rw [hbl] at hcl
 have HCL := Aside0.mk hcl
 have HBL := Aside0.mk hbl
 have HBA := Aside0.mk hba
 have HH := Aside0.mk h
 have hps := h.short
 clear hhas hdec hcl hb hbl hba h
 have hne1 : (168 : TypeId) ≠ 207 := by decide
 obtain ⟨q0, hq, hz0, hz1, hz2⟩ := info_parts infoWr
 go_enter Tryz.func106, Tryz.ntmps106
 go_wp2_with fail
 refine HHAS.out.mono ?_
 rintro e w' ⟨rfl, rfl⟩
 dsimp only
 go_wp2_with fail
 refine HCL.out.mono ?_
 rintro e w1 ⟨v1, rfl, hO, hB⟩
 obtain ⟨g1, c1, rfl, hg1, hc1, hr1⟩ := hO.row (by rw [HBL.out]; omega)
 have HST1 := Aside0.mk (HH.out.st.below hB)
 have HP1 := Aside0.mk (own_mod HH.out.row (Mod.of_below hB (fun _ => False)) (fun _ _ => id))
 have hk0 := HST1.out.cell 0 _ rfl
 have hk2 := HST1.out.cell 2 _ rfl
 have hk3 := HST1.out.cell 3 _ rfl
 have hk4 := HST1.out.cell 4 _ rfl
 have hpl := HST1.out.lt
 have HR1 := Aside0.mk hr1
 have HB1 := Aside0.mk hB
 have HPa := Aside0.mk (fun o => own_mod HP1.out (Mod.of_below (below_alloc (Below.refl _ _) o) (fun _ => False)) (fun _ _ => id))
 have hne2 : (5 : TypeId) ≠ 207 := by decide
 have HF := Aside0.mk (show ∀ (o : Obj) (w2 : World) (v2 : Value), (w1.alloc o).grownBy w2 pv.ownBlock → (v2.ownBlock = pv.ownBlock ∨ v2.ownBlock = some (w1.alloc o).heap.size) → Strc w2 p 168 [.int .i64 L.length, .map (some bd), pv, .map (some bn), .int .i64 ops] ∧ IM Tryz.prog 3 w2 bn 4096 fn ∧ IM Tryz.prog 3 w2 bd 4096 fd ∧ Mod w w2 D ∧
   (∀ g l, Row w1 .u8 g 5 l → Row w2 .u8 g 5 l) ∧ (∀ g, v2.ownBlock = some g → D g ∨ w.heap.size ≤ g) from fun o w2 v2 hg hl => by
  have hb1a : Below w1.heap.size w1 (w1.alloc o) := below_alloc (Below.refl _ _) _
  have hsta := HST1.out.below hb1a
  have hpva := HPa.out o
  have hmg := mod_grown hg
  have hmna := (HH.out.mn.below HB1.out).below hb1a
  have hmda := (HH.out.md.below HB1.out).below hb1a
  refine ⟨hsta.mod hmg (own_not_strc hpva hsta hne1), hmna.mod hmg (own_not_map hpva hmna), hmda.mod hmg (own_not_map hpva hmda), ((Mod.of_below HB1.out D).alloc o).trans hmg (fun i _ e => HH.out.drow i e), fun g l hr => ?_, fun g e => ?_⟩
  ·exact (hr.below hb1a).mod hmg (own_not_row hpva (hr.below hb1a) hne2)
  ·rcases hl with h | h
   ·exact .inl (HH.out.drow g (h.symm.trans e))
   ·have h1 := HB1.out.size
    have h2 : g = (w1.alloc o).heap.size := by rw [e] at h; exact Option.some.inj h
    rw [World.size_alloc] at h2
    exact .inr (by omega))
 clear HST1
 rw [HBL.out] at hc1 ⊢
 clear hO hr1 hB
 dsimp only
 go_wp2_with (first
  | ((with_reducible refine gate_dst (N := 26) rfl ?_); (refine wpList_append_own_at _ rfl (.tmp 21) (.tmp 25) 166 rfl 0 207 q0 (.agg #[.int .i64 0, .slice none 0 0]) 2 32 Tryz.underlying166 hq hz0 hz1 hz2 rfl (by decide) _ _ _ rfl (HPa.out _) ⟨w1.heap.size, 0, none⟩ 1 1 [.int .i64 n, .slice (some ⟨g1, 0, none⟩) 256 c1] rfl ?c6 ?c1 ?c2 ?c3 ?c4 ?c5 ?_; (case c6 => rfl); (case c1 => (intro j u hj; rw [add_plain]; exact cell_alloc w1 _ _ j u (by simpa using hj))); (case c2 => simp [Value.oneCell']); (case c3 => (simp only [maxLen]; omega)); (case c4 => omega); (case c5 => exact Nat.zero_le _); intro v2 w2 hown2 hgrow2 _ hloc; clear hz0 hz1 hz2 hq; obtain ⟨g2, cap2, rfl⟩ := own_succ hown2; obtain ⟨hst2, hmn2, hmd2, hmod2, hrow2, hloc2⟩ := HF.out _ _ _ hgrow2 hloc; have HO2 := Aside0.mk hown2; have HST2 := Aside0.mk hst2; have HMN2 := Aside0.mk (fun u => hmn2.mod ((Mod.refl w2 (· = p)).set_own 2 u) (hst2.not_map hmn2)); have HMN0 := Aside0.mk hmn2; have HLOC := Aside0.mk hloc2; have HMD2 := Aside0.mk hmd2; have HMOD2 := Aside0.mk hmod2; have HROW2 := Aside0.mk hrow2; have hk23 := hst2.cell 3 _ rfl; have hk22 := hst2.cell 2 _ rfl; have hf22 := hst2.free 2; have hpl2 := hst2.lt; clear hloc hloc2 hown2 hgrow2 hst2 hmn2 hmd2 hmod2 hrow2))
  | (at_mapUpdate; (refine im_store _ rfl _ _ _ rfl Tryz.underlying3 Tryz.underlying98 (by decide) rfl (HMN2.out _) n (by omega) rfl _ rfl ?_; intro w4 hmn4 hmod4 hsz4; have HST4 := Aside0.mk ((HST2.out.set 2 (.slice (some ⟨g2, 0, none⟩) (pend.length + 1) cap2)).mod hmod4 (fun e => (HST2.out.set 2 (.slice (some ⟨g2, 0, none⟩) (pend.length + 1) cap2)).not_map (HMN2.out _) e.symm)); have hk44 := HST4.out.cell 4 _ rfl; have hf44 := HST4.out.free 4; have hpl4 := HST4.out.lt; have HMN4 := Aside0.mk hmn4; have HMOD4 := Aside0.mk hmod4; clear hmn4 hmod4)))
 go_ret
 obtain ⟨x, hx⟩ : ∃ x, wrap64 (ops + 1) = x := ⟨_, rfl⟩
 rw [hx]
 have hf := HST4.out.set 4 (.int .i64 x)
 have hms : Mod w4 (w4.setCell ⟨p, 4, none⟩ (.int .i64 x)) (· = p) := (Mod.refl _ _).set_own 4 _
 have hm24 : Mod w2 w4 (fun k => k = p ∨ k = bn) := (((Mod.refl w2 (fun k => k = p ∨ k = bn)).setCell (p := ⟨p, 2, none⟩) (fun _ => .inl rfl) _).trans HMOD4.out (fun _ _ e => .inr e))
 have hm25 := hm24.trans hms (fun _ _ e => .inl e)
 have hnp : bn ≠ p := HST4.out.not_map HMN4.out
 have hdp : bd ≠ p := HST2.out.not_map HMD2.out
 have hne3 : (5 : TypeId) ≠ 168 := by decide
 have hr25 : ∀ g l, Row w1 .u8 g 5 l → Row (w4.setCell ⟨p, 4, none⟩ (.int .i64 x)) .u8 g 5 l := fun g l hr => (HROW2.out g l hr).mod hm25 (by
  have h2 := HROW2.out g l hr
  rintro (rfl | rfl)
  ·exact HST2.out.not_row h2 hne3.symm rfl
  ·exact h2.not_map HMN0.out rfl)
 refine ⟨rfl, ⟨bd, bn, .slice (some ⟨g2, 0, none⟩) (pend.length + 1) cap2, x, fd, fun i => if i = (n : Int) then some (.slice (some ⟨g1, 0, none⟩) 256 c1) else fn i, pend ++ [(n, .slice (some ⟨g1, 0, none⟩) 256 c1)], ?_⟩, ?_⟩
 ·refine ⟨?_, .inl HH.out.dp, .inl HH.out.dd, .inl HH.out.dn, HH.out.ne, HMD2.out.mod hm25 (by rintro (e | e); exact hdp e; exact HH.out.ne e), HMN4.out.mod hms hnp, ?_, ?_, by simpa using hlo, by simpa using hhi, ?_, ?_, ?_, by omega, ?_⟩
  ·rw [List.length_set]; exact hf
  ·rw [List.length_append, List.flatMap_append]
   have ho := own_mod HO2.out hm25 (fun g hg => by
    rintro (rfl | rfl)
    ·exact own_not_strc HO2.out HST2.out hne1 hg
    ·exact own_not_map HO2.out HMN0.out hg)
   simpa [wcells] using ho
  ·intro g hg
   have hlt := own_lt HO2.out g hg
   exact (HLOC.out g hg).imp id (fun h => ⟨h, Nat.lt_of_lt_of_le hlt hm25.size⟩)
  ·intro y
   rw [putAll_snoc]
   dsimp only
   split
   ·rfl
   ·exact HH.out.new y
  ·intro k hk
   rw [List.length_set] at hk
   by_cases e : k = n
   ·subst e
    simp only [if_true, Option.some_or]
    rw [show (L.set k b).getD k [] = b by simp [List.getD_eq_getElem?_getD, hk]]
    exact ⟨g1, c1, rfl, .inr ⟨hg1, (hr25 _ _ HR1.out).lt⟩, hc1, hr25 _ _ HR1.out, HBL.out, HBA.out⟩
   ·rw [if_neg (by omega), show (L.set n b).getD k [] = L.getD k [] by simp [List.getD_eq_getElem?_getD, List.getElem?_set, Ne.symm e]]
    refine Blk.mono ?_ (D := D) (fun _ => .inl)
    have h0 := HH.out.cont k hk
    generalize (fn ↑k).or (fd ↑k) = ov at h0
    cases ov with
    | none => exact h0
    | some v =>
     obtain ⟨g, c', rfl, hd, hc', hr, hrest⟩ := h0
     exact ⟨g, c', rfl, hd, hc', hr25 _ _ (hr.below HB1.out), hrest⟩
  ·rw [List.length_append]
   have := HH.out.short
   simpa using this
  ·intro q hq
   rw [List.length_set]
   rcases List.mem_append.1 hq with h | h
   ·exact HH.out.pok q h
   ·simp at h
    subst h
    exact ⟨hn, _, _, _, rfl⟩
 ·exact HMOD2.out.trans hm25 (fun i _ e => by
   rcases e with rfl | rfl
   ·exact HH.out.dp
   ·exact HH.out.dn)
theorem flush1_calls (i : Int) (w : World) : Calls Tryz.prog 162 #[.int .i64 i] w fun e w' => e = .returned (.bool true) ∧ w = w' := by
 go_enter Tryz.func162, Tryz.ntmps162
 go_wp2
 go_ret
 exact ⟨rfl, rfl⟩
set_option maxHeartbeats 2000000 in
set_option maxRecDepth 100000 in
theorem settle_calls {D : Nat → Prop} {p : Nat} {L : List (List Int)} {m : Nat} (w : World) (h : DiskIs w D p L m) :
  Calls Tryz.prog 161 #[.pointer (some ⟨p, 0, none⟩), .func (.func 162) #[] #[]] w fun e w' => e = .returned (.tuple #[]) ∧ DiskIs w' D p L 0 ∧ Mod w w' D := by
 obtain ⟨bd, bn, pv, ops, fd, fn, pend, h⟩ := h
 have hlo := h.lo
 have hhi := h.hi
 obtain ⟨A, c, rfl, hc, _, hA0, hA⟩ := own_shape h.row
 have hk1 := h.st.cell 1 _ rfl
 have hk2 := h.st.cell 2 _ rfl
 have HH := Aside0.mk h
 have HA := Aside0.mk hA
 have HA0 := Aside0.mk hA0
 have hps := h.short
 have hpm := h.most
 have hnp : bd ≠ p := h.st.not_map h.md
 have hnb := h.ne
 have HKEEP := Aside0.mk (show ∀ w', Mod w w' (· = bd) → Strc w' p 168 [.int .i64 L.length, .map (some bd), .slice A pend.length c, .map (some bn), .int .i64 ops] from fun w' hm => h.st.mod hm (Ne.symm hnp))
 have HKC := Aside0.mk (show ∀ w' ad i u, Mod w w' (· = bd) → A = some ad → (pend.flatMap wcells)[i]? = some u → w'.cell? (ad.add i) = some u from fun w' ad i u hm e hi => by
  have h1 := hA ad e i u hi
  refine hm.cell h1 ?_
  rintro e2
  have h2 : (Value.slice A pend.length c).ownBlock = some bd := by
   subst e
   have h3 : (ad.add i).block = ad.block := by unfold Addr.add; split <;> rfl
   rw [h3] at e2
   rw [← e2]
   rfl
  exact own_not_map h.row h.md h2)
 clear h hA hA0
 go_enter Tryz.func161, Tryz.ntmps161
 go_wp2
 go_loopg [11] pend.length (fun g i wr => ∃ k : Nat, k + g = pend.length ∧ i = .int .i64 k ∧ Aside0 (Mod w wr (· = bd)) ∧ Aside0 (IM Tryz.prog 3 wr bd 4096 (putAll fd (pend.take k))))
 case atStart => exact ⟨0, by omega, rfl, ⟨Mod.refl _ _⟩, ⟨HH.out.md⟩⟩
 case round =>
  obtain ⟨k, hk, rfl, HM, HD⟩ := hrel
  cases gk with
  | zero =>
   obtain rfl : k = pend.length := by omega
   have hst := HKEEP.out _ HM.out
   have hr3 := hst.cell 3 _ rfl
   have hr2 := hst.cell 2 _ rfl
   have hf2 := hst.free 2
   have hl2 := hst.lt
   have HST := Aside0.mk hst
   have HMN := Aside0.mk (fun u => (HH.out.mn.mod HM.out (Ne.symm hnb)).mod ((Mod.refl wr (· = p)).set_own 2 u) (HH.out.st.not_map HH.out.mn))
   clear hst
   go_wp2_with (first
    | ((with_reducible refine gate_builtin rfl ?_); fail)
    | ((refine im_clear _ rfl _ rfl Tryz.underlying98 rfl (HMN.out _) ?_; intro w4 hmn4 hmod4 hsz4; have HMN4 := Aside0.mk hmn4; have HMOD4 := Aside0.mk hmod4; clear hmn4 hmod4)))
   go_end0
   have hm12 : Mod wr w4 (fun k => k = p ∨ k = bn) := (((Mod.refl wr (fun k => k = p ∨ k = bn)).setCell (p := ⟨p, 2, none⟩) (fun _ => .inl rfl) _).trans HMOD4.out (fun _ _ e => .inr e))
   have hm04 : Mod w w4 (fun k => k = bd ∨ k = p ∨ k = bn) := (HM.out.mono (fun _ _ e => .inl e)).trans hm12 (fun _ _ e => .inr e)
   have hnn : bn ≠ p := HH.out.st.not_map HH.out.mn
   have hne3 : (5 : TypeId) ≠ 168 := by decide
   refine ⟨rfl, ⟨bd, bn, .slice none 0 0, ops, putAll fd pend, fun _ => none, [], ?_⟩, hm04.mono (fun k _ e => by rcases e with rfl | rfl | rfl; exact HH.out.dd; exact HH.out.dp; exact HH.out.dn)⟩
   refine ⟨(HST.out.set 2 (.slice none 0 0)).mod HMOD4.out (Ne.symm hnn), HH.out.dp, HH.out.dd, HH.out.dn, HH.out.ne, ?_, HMN4.out, own_nil _ _ _ _, by simp [Value.ownBlock], HH.out.lo, HH.out.hi, fun y => rfl, fun n hn => ?_, Nat.le_refl _, Nat.zero_le _, by simp⟩
   ·have h1 := HD.out
    rw [List.take_length] at h1
    exact h1.mod hm12 (by rintro (e | e); exact hnp e; exact hnb e)
   ·rw [Option.none_or, putAll_or, ← HH.out.new]
    exact (HH.out.cont n hn).kept (fun g hd hr => hm04.block g hr.lt (by
     rintro (rfl | rfl | rfl)
     ·exact hr.not_map HH.out.md rfl
     ·exact HH.out.st.not_row hr hne3.symm rfl
     ·exact hr.not_map HH.out.mn rfl))
  | succ g =>
   have hkl : k < pend.length := by omega
   obtain ⟨q, hq⟩ : ∃ q, pend[k]? = some q := ⟨_, List.getElem?_eq_getElem hkl⟩
   have hqm : q ∈ pend := List.mem_of_getElem? hq
   obtain ⟨hql, qA, qn, qc, hqs⟩ := HH.out.pok q hqm
   have hsn : putAll fd (pend.take (k + 1)) = fun y => if y = (q.1 : Int) then some q.2 else putAll fd (pend.take k) y := by
    rw [List.take_add_one, hq]
    exact putAll_snoc _ _ _
   obtain ⟨q1, q2⟩ := q
   dsimp only at hql hsn hqs
   subst hqs
   obtain ⟨ad, rfl⟩ := HA0.out (by omega)
   obtain ⟨hc1, hc2⟩ := wcells_at pend k _ hq
   have hr1 := HKC.out wr ad _ _ HM.out rfl hc1
   have hr2 := HKC.out wr ad _ _ HM.out rfl hc2
   have HSN := Aside0.mk hsn
   have hst := HKEEP.out _ HM.out
   have hr1a : wr.cell? ⟨p, 1, none⟩ = some (.map (some bd)) := hst.cell 1 _ rfl
   have hl1 := hst.lt
   have HST := Aside0.mk hst
   rw [add_next ad (k * 2) 1 (by omega)] at hr2
   clear hsn hst hqm hq hc1 hc2
   have i1 : (k : Int) < (pend.length : Int) := by omega
   go_wp2_with (go_at_call 162; refine (flush1_calls _ _).mono ?_; rintro e w' ⟨rfl, rfl⟩)
   have ha1 : (wr.alloc (.cells #[.int .i64 q1, .slice qA qn qc] 207)).cell? ⟨p, 1, none⟩ = some (.map (some bd)) := (HST.out.below (below_alloc (Below.refl _ _) _)).cell 1 _ rfl
   have ha2 := cell_alloc wr #[.int .i64 q1, .slice qA qn qc] 207 0 _ rfl
   have ha3 := cell_alloc wr #[.int .i64 q1, .slice qA qn qc] 207 1 _ rfl
   have HDA := Aside0.mk (HD.out.below (below_alloc (Below.refl _ _) (.cells #[.int .i64 q1, .slice qA qn qc] 207)))
   have HMA := Aside0.mk (HM.out.alloc (.cells #[.int .i64 q1, .slice qA qn qc] 207))
   obtain ⟨W, hW⟩ : ∃ W, wr.alloc (.cells #[.int .i64 q1, .slice qA qn qc] 207) = W := ⟨_, rfl⟩
   rw [hW] at ha1 ha2 ha3 HDA HMA ⊢
   clear hW
   refine wp_region_in [0, 0, 0, 1, 0, 1, 0, 1, 3] [8] (fun w' => w'.cell? ⟨p, 1, none⟩ = some (.map (some bd)) ∧ w'.cell? ⟨wr.heap.size, 0, none⟩ = some (.int .i64 q1) ∧ w'.cell? ⟨wr.heap.size, 1, none⟩ = some (.slice qA qn qc)) (by kernel_rfl) rfl (by kernel_rfl) (fun _ _ _ _ h => h) ⟨ha1, ha2, ha3⟩ ?_
   iterate 8 (first
    | (refine in_off0 (by rfl) ?_; simp only [Act.put, stA, stZ, stS, i64_w, i32_w])
    | (refine in_off1 (by rfl) ?_; simp only [Act.put, stA, stZ, stS, i64_w, i32_w])
    | (refine in_0 (v := ?_) (by rfl) rfl ?_ (a' := ?_) ?_ ?_; rotate_left; (intro w'; go_simp; with_reducible rfl); rotate_left; (simp only [Act.put, stA, stZ, stS, i64_w, i32_w]; rfl))
    | (refine in_1 (v := ?_) (by rfl) rfl ?_ (a' := ?_) ?_ ?_; rotate_left; (rintro w' hs; go_split_ands; go_simp; with_reducible rfl); rotate_left; (simp only [Act.put, stA, stZ, stS, i64_w, i32_w]; rfl)))
   refine in_3 (by rfl) (fun K hK => ?_)
   refine wp_im_store _ _ _ _ rfl Tryz.underlying3 Tryz.underlying98 (by decide) rfl (HDA.out.kept (w1 := W.drew) rfl) q1 (by omega) rfl _ rfl ?_
   intro w4 hmd4 hmod4 hsz4
   refine hK _ _ ?_
   clear hK K
   try simp only [Act.put, stA, stZ, stS, i64_w, i32_w]
   refine out_nil ?_
   have HMD4 := Aside0.mk hmd4
   have HM4 := Aside0.mk (HMA.out.drew.trans hmod4 (fun _ _ e => e))
   clear hmd4 hmod4 ha1 ha2 ha3
   go_wp2
   go_roundg g
   case measure => omega
   case rel => exact ⟨k + 1, by omega, by go_num, HM4, ⟨by rw [HSN.out]; exact HMD4.out⟩⟩
theorem DiskIs.ops {w : World} {D : Nat → Prop} {p : Nat} {L : List (List Int)} {m : Nat} (h : DiskIs w D p L m) : ∃ x : Int, w.cell? ⟨p, 4, none⟩ = some (.int .i64 x) ∧ w.frozen? ⟨p, 4, none⟩ = false ∧ p < w.heap.size ∧ ∀ y : Int, DiskIs (w.setCell ⟨p, 4, none⟩ (.int .i64 y)) D p L m ∧ D p := by
 obtain ⟨bd, bn, pv, ops, fd, fn, pend, h⟩ := h
 refine ⟨ops, h.st.cell 4 _ rfl, h.st.free 4, h.st.lt, fun y => ⟨⟨bd, bn, pv, y, fd, fn, pend, ?_⟩, h.dp⟩⟩
 have hm : Mod w (w.setCell ⟨p, 4, none⟩ (.int .i64 y)) (· = p) := (Mod.refl _ _).set_own 4 _
 have hne1 : (168 : TypeId) ≠ 207 := by decide
 have hne3 : (5 : TypeId) ≠ 168 := by decide
 exact ⟨h.st.set 4 _, h.dp, h.dd, h.dn, h.ne, h.md.mod hm (h.st.not_map h.md), h.mn.mod hm (h.st.not_map h.mn), own_mod h.row hm (by rintro g hg rfl; exact own_not_strc h.row h.st hne1 hg), h.drow, h.lo, h.hi, h.new,
  fun n hn => (h.cont n hn).kept (fun g hd hr => hm.block g hr.lt (h.st.not_row hr hne3.symm)), h.short, h.most, h.pok⟩
theorem DiskIs.n {w : World} {D : Nat → Prop} {p : Nat} {L : List (List Int)} {m : Nat} (h : DiskIs w D p L m) : w.cell? ⟨p, 0, none⟩ = some (.int .i64 L.length) ∧ 128 ≤ L.length ∧ L.length ≤ 4096 ∧ D p ∧ p < w.heap.size := by
 obtain ⟨bd, bn, pv, ops, fd, fn, pend, h⟩ := h
 exact ⟨h.st.cell 0 _ rfl, h.lo, h.hi, h.dp, h.st.lt⟩
set_option maxHeartbeats 1000000 in
theorem flush_calls {D : Nat → Prop} {p : Nat} {L : List (List Int)} {m : Nat} (w : World) (h : DiskIs w D p L m) :
  Calls Tryz.prog 109 #[.pointer (some ⟨p, 0, none⟩)] w fun e w' => e = .returned (.tuple #[]) ∧ DiskIs w' D p L 0 ∧ Mod w w' D := by
 obtain ⟨h0, hlo, hhi, _, _⟩ := h.n
 have H := Aside0.mk h
 clear h
 go_enter Tryz.func109, Tryz.ntmps109
 have hne : ((L.length : Int) == 0) = false := by rw [beq_eq_false_iff_ne]; omega
 go_wp2_with (first
  | (go_at_call 102; refine (dblocks_calls h0).mono ?_; rintro e w' ⟨rfl, rfl⟩)
  | (go_at_call 161; refine (settle_calls _ H.out).mono ?_; rintro e w1 ⟨rfl, hd1, hm1⟩; obtain ⟨x, hx1, hx2, hx3, hx4⟩ := hd1.ops; have HX := Aside0.mk hx4; have HM1 := Aside0.mk hm1; clear hd1 hx4 hm1))
 go_end0
 refine ⟨rfl, (HX.out _).1, HM1.out.setCell (fun _ => (HX.out 0).2) _⟩
set_option maxHeartbeats 1000000 in
theorem dnew_calls (n : Nat) (w : World) (h0 : 128 ≤ n) (h1 : n ≤ 4096) :
  Calls Tryz.prog 45 #[.int .i64 n] w fun e w' => ∃ p, e = .returned (.tuple #[.pointer (some ⟨p, 0, none⟩), .int .i64 0]) ∧ DiskIs w' (fun k => w.heap.size ≤ k ∧ k < w'.heap.size) p (List.replicate n zeros) 0 ∧ Below w.heap.size w w' := by
 have hmm := @run_makeMap Tryz.prog
 go_enter Tryz.func45, Tryz.ntmps45
 have i1 : ¬ (n : Int) < 128 := by omega
 have i2 : ¬ (n : Int) > 4096 := by omega
 go_wp2
 go_ret2
 have b1 : Below w.heap.size w (w.alloc (.map #[] 0)) := below_alloc (Below.refl _ _) _
 have b2 := below_alloc b1 (.map #[] 0)
 have m1 : IM Tryz.prog 3 (w.alloc (.map #[] 0)) w.heap.size 4096 (fun _ => none) := IM.made w
 have m2 : IM Tryz.prog 3 ((w.alloc (.map #[] 0)).alloc (.map #[] 0)) (w.heap.size + 1) 4096 (fun _ => none) := by
  have := IM.made (P := Tryz.prog) (kt := 3) (N := 4096) (w.alloc (.map #[] 0))
  rwa [World.size_alloc] at this
 have m1' := m1.below (below_alloc (Below.refl _ _) (.map #[] 0))
 refine ⟨w.heap.size + 1 + 1, rfl, ⟨w.heap.size, w.heap.size + 1, .slice none 0 0, 0, fun _ => none, fun _ => none, [], ?_⟩, below_alloc b2 _⟩
 have hz : ∀ k, k < n → (List.replicate n zeros).getD k [] = zeros := fun k hk => by simp [List.getD_eq_getElem?_getD, hk]
 refine ⟨?_, ⟨by omega, by simp⟩, ⟨Nat.le_refl _, by simp; omega⟩, ⟨by omega, by simp⟩, by omega, m1'.below (below_alloc (Below.refl _ _) _), m2.below (below_alloc (Below.refl _ _) _), own_nil _ _ _ _, by simp [Value.ownBlock], by simpa using h0, by simpa using h1, fun _ => rfl, fun k hk => ?_, Nat.le_refl _, by omega, by simp⟩
 ·rw [List.length_replicate]
  exact alloc_at _ _ _ (by simp)
 ·rw [List.length_replicate] at hk
  exact hz k hk
end Go.Proofs.YtkmhilhfmfmckaaGreatDoor.Hand
