/- Own texts and printed words of the kit, put together and trimmed by a program of mine (merge.py). -/
import Derived.Test.YtkmhilhfmfmckaaGreatDoorP05
namespace Go.Proofs.YtkmhilhfmfmckaaGreatDoor.Hand
set_option linter.unusedSimpArgs false
set_option linter.unusedVariables false
open Go.Shelf Go.RowKit Go.Proofs.YtkmhilhfmfmckaaGreatDoorW.PrintWords Go.Proofs.YtkmhilhfmfmckaaGreatDoorW.PrintLast Go.Proofs.YtkmhilhfmfmckaaGreatDoorW.PrintMore
def recI (b ws : List Int) : Nat → List Int
  | 0 => []
  | k + 1 => recI b ws k ++ [wrap64 (getI b (sumI (ws.take k)) (ws.getD k 0)).1]
theorem recI_len (b ws : List Int) (k : Nat) : (recI b ws k).length = k := by
  induction k with
  | zero => rfl
  | succ k ih => simp [recI, ih]
theorem recI_get (b ws : List Int) (n k : Nat) (h : k < n) : (recI b ws n).getD k 0 = wrap64 (getI b (sumI (ws.take k)) (ws.getD k 0)).1 := by
  induction n with
  | zero => omega
  | succ n ih =>
    rw [recI, List.getD_eq_getElem?_getD]
    by_cases e : k = n
    · subst e
      rw [List.getElem?_append_right (by rw [recI_len]; omega), recI_len]
      simp
    · rw [List.getElem?_append_left (by rw [recI_len]; omega), ← List.getD_eq_getElem?_getD]
      exact ih (by omega)
theorem infoInt : (Tryz.prog.info? 3).map (fun i => (i.zero, i.size, i.bytes)) = some (some (.int .i64 0), 1, 8) := by kernel_rfl
set_option maxHeartbeats 2000000 in
set_option maxRecDepth 100000 in
theorem record_calls (A B : Option Addr) (c d : Nat) (b ws : List Int) (w : World) (hb : Kd.C (Kd.int .u8) w A b.length b) (hbc : b.length ≤ c) (hw : Kd.C (Kd.int .i64) w B ws.length ws) (hl : ws.length ≤ 1000) (hok : widthsOk ws) :
    Calls Tryz.prog 171 #[.slice A b.length c, .slice B ws.length d] w fun e w' => ∃ v, e = .returned v ∧ Own w' w.heap.size 3 .i64 v (recI b ws ws.length) ∧ Below w.heap.size w w' := by
  have HB := Aside0.mk hb
  have HW := Aside0.mk hw
  have HSR := Aside0.mk (fun k hk => sumI_range hok k hk)
  have HWA := Aside0.mk (fun k hk => widths_at hok k hk)
  have HSN := Aside0.mk (fun k hk => sumI_snoc ws k hk)
  have HGET := Aside0.mk (fun (a k : Int) (W : World) (hW : Below w.heap.size w W) => get_calls A c a k W b (Kd.C_below hb hW) hbc)
  clear hb hw hok
  go_enter Tryz.func171, Tryz.ntmps171
  go_wp2
  go_loopg [5, 6, 13] ws.length (fun g v at_ i wr => ∃ k : Nat, k + g = ws.length ∧ at_ = .int .i64 (sumI (ws.take k)) ∧ i = .int .i64 k ∧ Aside0 (Own wr w.heap.size 3 .i64 v (recI b ws k)) ∧ Aside0 (Below w.heap.size w wr))
  case atStart => exact ⟨0, by omega, rfl, rfl, ⟨own_of_nil _ _ _ _⟩, ⟨Below.refl _ _⟩⟩
  case round =>
    obtain ⟨k, hk, rfl, rfl, HO, HBw⟩ := hrel
    cases gk with
    | zero =>
      obtain rfl : k = ws.length := by omega
      go_wp2
      go_ret
      exact ⟨_, rfl, HO.out, HBw.out⟩
    | succ g =>
      have hkl : k < ws.length := by omega
      have hsr := HSR.out k (by omega)
      have hsr2 := HSR.out (k + 1) (by omega)
      obtain ⟨ad, rfl, hcw⟩ := C_int_at (Kd.C_below HW.out HBw.out) k hkl
      have hwa := HWA.out k hkl
      have hsn := HSN.out k hkl
      have hrec : recI b ws (k + 1) = recI b ws k ++ [wrap64 (getI b (sumI (ws.take k)) (ws.getD k 0)).1] := rfl
      obtain ⟨x, hx⟩ : ∃ x, ws.getD k 0 = x := ⟨_, rfl⟩
      obtain ⟨a, ha⟩ : ∃ a, sumI (ws.take k) = a := ⟨_, rfl⟩
      obtain ⟨y, hy⟩ : ∃ y, (getI b a x).1 = y := ⟨_, rfl⟩
      rw [hx] at hcw hwa hsn hrec
      rw [ha] at hsr hsn hrec ⊢
      rw [hy] at hrec
      rw [hsn] at hsr2
      have HREC := Aside0.mk hrec
      have HSNN := Aside0.mk hsn
      have HLN := Aside0.mk (recI_len b ws k)
      have HY := Aside0.mk hy
      have i1 : (k : Int) < (ws.length : Int) := by omega
      clear hx ha hy hrec hsn
      go_wp2_with fail
      refine (HGET.out a x wr HBw.out).mono ?_
      rintro e w1 ⟨rfl, hb1⟩
      rw [HY.out]
      have HB1 := Aside0.mk (below_then HBw.out HBw.out.size hb1)
      have HO1 := Aside0.mk (HO.out.below hb1)
      have HOa := Aside0.mk (fun o => HO1.out.below (below_alloc (Below.refl _ _) o))
      have HBa := Aside0.mk (fun o => below_alloc HB1.out o)
      obtain ⟨e0, he, hz0, hz1, hz2⟩ := info_parts infoInt
      clear hb1
      dsimp only
      go_wp2_with ((with_reducible refine gate_dst (N := 28) rfl ?_); (refine wpList_append_own _ rfl (.tmp 24) (.tmp 27) 105 rfl w.heap.size 3 e0 (.int .i64 0) 1 8 Tryz.underlying105 he hz0 hz1 hz2 rfl (by decide) _ _ _ rfl (HOa.out _) ⟨w1.heap.size, 0, none⟩ 1 1 [.int .i64 (wrap64 y)] rfl ?c6 ?c1 ?c2 ?c3 ?c4 ?c5 ?_; (case c6 => rfl); (case c1 => (intro j u hj; rw [add_plain]; exact cell_alloc w1 _ _ j u (by simpa using hj))); (case c2 => simp [Value.oneCell']); (case c3 => (rw [HLN.out]; simp only [maxLen]; omega)); (case c4 => (rw [HLN.out]; omega)); (case c5 => exact (HBa.out _).size); intro v1 w5 hown1 hgrow1 _; have HO5 := Aside0.mk (own_snoc (ys := [wrap64 y]) hown1 rfl rfl); have HB5 := Aside0.mk (pw_below_grown (HBa.out _) _ (HBa.out _).size hgrow1 (fun g hg => HO1.out.base g hg)); clear hown1 hgrow1 hz0 hz1 hz2 he))
      go_roundg g
      case measure => omega
      case rel => exact ⟨k + 1, by omega, by rw [HSNN.out], by go_num, ⟨by rw [HREC.out]; exact HO5.out⟩, HB5⟩
def numAt (b : List Int) (a k : Int) : Int := wrap64 (getI b a k).1
def supB (b : List Int) : Sup := ⟨⟨numAt b 6 4, numAt b 10 4, numAt b 14 4, numAt b 18 4⟩, numAt b 22 4, numAt b 26 4, numAt b 30 4, numAt b 34 4, numAt b 38 1 == 1⟩
def sup0 : Sup := ⟨⟨0, 0, 0, 0⟩, 0, 0, 0, 0, false⟩
def unsuperI (b : List Int) : Sup × Int := if (psuperI (supB b)).2 = 0 ∧ (psuperI (supB b)).1 = b then (supB b, 0) else (sup0, 117)
theorem allB_seal {l : List Int} (h : allB l) (s : Int) : allB (sealL l s) := allB_lay h _ _ _
theorem packGo_allB {z : List Int} (h : allB z) (xs ws : List Int) (k : Nat) : allB (packGo xs ws z k) := by
  induction k with
  | zero => exact h
  | succ k ih => exact allB_lay ih _ _ _
theorem blockI_allB (xs ws : List Int) (s : Int) : allB (blockI xs ws s) := allB_seal (packGo_allB (fun x hx => by rw [List.eq_of_mem_replicate hx]; omega) _ _ _) _
theorem fst_allB {l : List Int} {p : List Int × Int} {c : Int} (h : p = (l, c)) (hl : allB l) : allB p.1 := by subst h; exact hl
theorem nil_allB : allB [] := fun x hx => by simp at hx
theorem psuper_good {s : Sup} (h : supOk s = true) : psuperI s = (blockI (wordsI s.nums) superW 0, 0) := by unfold psuperI; rw [if_pos h]
theorem psuper_bad {s : Sup} (h : ¬ supOk s = true) : psuperI s = ([], 22) := by unfold psuperI; rw [if_neg h]
theorem psuper_allB (s : Sup) : allB (psuperI s).1 := by
  by_cases h : supOk s = true
  · exact fst_allB (psuper_good h) (blockI_allB _ _ _)
  · exact fst_allB (psuper_bad h) nil_allB
theorem pgroups_good {l : List Grp} (h : 1 ≤ l.length ∧ l.length ≤ 14 ∧ l.all gOk = true) : pgroupsI l = (blockI (wordsI (l.flatMap gnums)) (groupW l.length) 1, 0) := by unfold pgroupsI; rw [if_pos h]
theorem pgroups_bad {l : List Grp} (h : ¬ (1 ≤ l.length ∧ l.length ≤ 14 ∧ l.all gOk = true)) : pgroupsI l = ([], 22) := by unfold pgroupsI; rw [if_neg h]
theorem fst_len {l : List Int} {p : List Int × Int} {c : Int} (h : p = (l, c)) (hl : l.length ≤ 256) : p.1.length ≤ 256 := by subst h; exact hl
theorem psuper_len (s : Sup) : (psuperI s).1.length ≤ 256 := by
  by_cases h : supOk s = true
  · exact fst_len (psuper_good h) (by rw [blockI_length]; omega)
  · exact fst_len (psuper_bad h) (by simp)
theorem pgroups_len (l : List Grp) : (pgroupsI l).1.length ≤ 256 := by
  by_cases h : 1 ≤ l.length ∧ l.length ≤ 14 ∧ l.all gOk = true
  · exact fst_len (pgroups_good h) (by rw [blockI_length]; omega)
  · exact fst_len (pgroups_bad h) (by simp)
theorem pgroups_allB (l : List Grp) : allB (pgroupsI l).1 := by
  by_cases h : 1 ≤ l.length ∧ l.length ≤ 14 ∧ l.all gOk = true
  · exact fst_allB (pgroups_good h) (blockI_allB _ _ _)
  · exact fst_allB (pgroups_bad h) nil_allB
set_option maxHeartbeats 4000000 in
set_option maxRecDepth 100000 in
theorem unsuper_calls (A : Option Addr) (c : Nat) (b : List Int) (w : World) (hb : Kd.C (Kd.int .u8) w A b.length b) (hbc : b.length ≤ c) (hba : allB b) :
    Calls Tryz.prog 130 #[.slice A b.length c] w fun e w' => e = .returned (.tuple #[(unsuperI b).1.v, .int .i64 (unsuperI b).2]) ∧ Below w.heap.size w w' := by
  have HB := Aside0.mk hb
  have HBA := Aside0.mk hba
  have hs : supB b = ⟨⟨(recI b superW 11).getD 2 0, (recI b superW 11).getD 3 0, (recI b superW 11).getD 4 0, (recI b superW 11).getD 5 0⟩, (recI b superW 11).getD 6 0, (recI b superW 11).getD 7 0, (recI b superW 11).getD 8 0, (recI b superW 11).getD 9 0, (recI b superW 11).getD 10 0 == 1⟩ := by
    rw [recI_get _ _ _ _ (by omega), recI_get _ _ _ _ (by omega), recI_get _ _ _ _ (by omega), recI_get _ _ _ _ (by omega), recI_get _ _ _ _ (by omega), recI_get _ _ _ _ (by omega), recI_get _ _ _ _ (by omega), recI_get _ _ _ _ (by omega), recI_get _ _ _ _ (by omega)]
    rfl
  obtain ⟨q, hq⟩ : ∃ q, recI b superW 11 = q := ⟨_, rfl⟩
  have hql : q.length = 11 := by rw [← hq, recI_len]
  rw [hq] at hs
  obtain ⟨s, hss⟩ : ∃ s, supB b = s := ⟨_, rfl⟩
  have hbad : ¬ ((psuperI s).2 = 0 ∧ (psuperI s).1 = b) → unsuperI b = (sup0, 117) := fun h => by unfold unsuperI; rw [hss, if_neg h]
  have hgood : ((psuperI s).2 = 0 ∧ (psuperI s).1 = b) → unsuperI b = (s, 0) := fun h => by unfold unsuperI; rw [hss, if_pos h]
  have HPS := Aside0.mk (fun W => psuper_calls s W)
  have hpa := psuper_allB s
  have hpl := psuper_len s
  rw [hss] at hs
  obtain ⟨p, hp⟩ : ∃ p, psuperI s = p := ⟨_, rfl⟩
  obtain ⟨r, hr⟩ : ∃ r, unsuperI b = r := ⟨_, rfl⟩
  rw [hr] at hbad hgood ⊢
  rw [hp] at hbad hgood HPS hpa hpl
  have HBD := Aside0.mk hbad
  have HGD := Aside0.mk hgood
  have HQ := Aside0.mk hq
  have HQL := Aside0.mk hql
  have HPA := Aside0.mk hpa
  have HPL := Aside0.mk hpl
  obtain ⟨x2, e2⟩ : ∃ x, q.getD 2 0 = x := ⟨_, rfl⟩
  obtain ⟨x3, e3⟩ : ∃ x, q.getD 3 0 = x := ⟨_, rfl⟩
  obtain ⟨x4, e4⟩ : ∃ x, q.getD 4 0 = x := ⟨_, rfl⟩
  obtain ⟨x5, e5⟩ : ∃ x, q.getD 5 0 = x := ⟨_, rfl⟩
  obtain ⟨x6, e6⟩ : ∃ x, q.getD 6 0 = x := ⟨_, rfl⟩
  obtain ⟨x7, e7⟩ : ∃ x, q.getD 7 0 = x := ⟨_, rfl⟩
  obtain ⟨x8, e8⟩ : ∃ x, q.getD 8 0 = x := ⟨_, rfl⟩
  obtain ⟨x9, e9⟩ : ∃ x, q.getD 9 0 = x := ⟨_, rfl⟩
  obtain ⟨x10, e10⟩ : ∃ x, q.getD 10 0 = x := ⟨_, rfl⟩
  have hcell : ∀ (w' : World) (ad : Addr), Kd.C (Kd.int .i64) w' (some ad) q.length q → w'.cell? ⟨ad.block, ad.off + 2, none⟩ = some (.int .i64 x2) ∧ w'.cell? ⟨ad.block, ad.off + 3, none⟩ = some (.int .i64 x3) ∧ w'.cell? ⟨ad.block, ad.off + 4, none⟩ = some (.int .i64 x4) ∧ w'.cell? ⟨ad.block, ad.off + 5, none⟩ = some (.int .i64 x5) ∧ w'.cell? ⟨ad.block, ad.off + 6, none⟩ = some (.int .i64 x6) ∧ w'.cell? ⟨ad.block, ad.off + 7, none⟩ = some (.int .i64 x7) ∧ w'.cell? ⟨ad.block, ad.off + 8, none⟩ = some (.int .i64 x8) ∧ w'.cell? ⟨ad.block, ad.off + 9, none⟩ = some (.int .i64 x9) ∧ w'.cell? ⟨ad.block, ad.off + 10, none⟩ = some (.int .i64 x10) := fun w' ad h => by
    have hx : ∀ j, j < q.length → w'.cell? (ad.add j) = some (.int .i64 (q.getD j 0)) := fun j hj => by
      obtain ⟨ad', e, hc⟩ := C_int_at h j hj
      cases e
      exact hc
    refine ⟨?_, ?_, ?_, ?_, ?_, ?_, ?_, ?_, ?_⟩
    · rw [← e2]; exact hx 2 (by omega)
    · rw [← e3]; exact hx 3 (by omega)
    · rw [← e4]; exact hx 4 (by omega)
    · rw [← e5]; exact hx 5 (by omega)
    · rw [← e6]; exact hx 6 (by omega)
    · rw [← e7]; exact hx 7 (by omega)
    · rw [← e8]; exact hx 8 (by omega)
    · rw [← e9]; exact hx 9 (by omega)
    · rw [← e10]; exact hx 10 (by omega)
  rw [e2, e3, e4, e5, e6, e7, e8, e9, e10] at hs
  have HCELL := Aside0.mk hcell
  have HV : Sup.v s = .agg #[.int .i64 x2, .int .i64 x3, .int .i64 x4, .int .i64 x5, .int .i64 x6, .int .i64 x7, .int .i64 x8, .int .i64 x9, .bool (x10 == 1)] := by rw [hs]; rfl
  have HV := Aside0.mk HV
  have HB0 := Aside0.mk (fun o => below_alloc (Below.refl w.heap.size w) o)
  clear hb hba hs hq hql hss hbad hgood hpa hpl hp hr hcell e2 e3 e4 e5 e6 e7 e8 e9 e10
  go_enter Tryz.func130, Tryz.ntmps130
  go_wp2_with fail
  refine (superw_calls _).mono ?_
  rintro e w1 ⟨g1, rfl, hg1, hr1, hb1⟩
  have HC0 := Aside0.mk ((show Strc (w.alloc (.cells #[.int .i64 0, .int .i64 0, .int .i64 0, .int .i64 0, .int .i64 0, .int .i64 0, .int .i64 0, .int .i64 0, .bool false] 121)) w.heap.size 121 [.int .i64 0, .int .i64 0, .int .i64 0, .int .i64 0, .int .i64 0, .int .i64 0, .int .i64 0, .int .i64 0, .bool false] from alloc_last _ _).below hb1)
  have hzz := HC0.out.cell 0 _ rfl
  have HB1 := Aside0.mk (below_then (HB0.out _) (HB0.out _).size hb1)
  have HREC := Aside0.mk (record_calls A (some ⟨g1, 0, none⟩) c 11 b superW w1 (Kd.C_below HB.out HB1.out) hbc (hr1.reads (by decide)) (by decide) superW_ok)
  clear hr1 hb1
  dsimp only
  go_wp2_with fail
  refine HREC.out.mono ?_
  rintro e w2 ⟨v2, rfl, ho2, hb2⟩
  rw [show superW.length = 11 from rfl, HQ.out] at ho2
  obtain ⟨A2, c2, rfl, hc2, hk2⟩ := ho2.reads
  obtain ⟨ad, rfl, _⟩ := C_int_at hk2 0 (by rw [HQL.out]; omega)
  have HB2 := Aside0.mk (below_then HB1.out HB1.out.size hb2)
  have HZ := Aside0.mk (fun w' (hb : Below w2.heap.size w2 w') => (HC0.out.below hb2).below hb)
  have HS := Aside0.mk (fun w' (hb : Below w2.heap.size w2 w') => HCELL.out w' ad (Kd.C_below hk2 hb))
  rw [HQL.out]
  clear ho2 hb2 hk2 hc2 hzz
  dsimp only
  go_wp2
  refine wp_region_in [0, 0, 1, 0, 0, 1, 0, 0, 1, 0, 0, 1, 0, 0, 0, 1, 0, 0, 1, 0, 0, 1, 0, 0, 1, 0, 0, 1, 0, 0, 2, 3] [31] (fun w' => w'.cell? ⟨ad.block, ad.off + 2, none⟩ = some (.int .i64 x2) ∧ w'.cell? ⟨ad.block, ad.off + 3, none⟩ = some (.int .i64 x3) ∧ w'.cell? ⟨ad.block, ad.off + 4, none⟩ = some (.int .i64 x4) ∧ w'.cell? ⟨ad.block, ad.off + 5, none⟩ = some (.int .i64 x5) ∧ w'.cell? ⟨ad.block, ad.off + 6, none⟩ = some (.int .i64 x6) ∧ w'.cell? ⟨ad.block, ad.off + 7, none⟩ = some (.int .i64 x7) ∧ w'.cell? ⟨ad.block, ad.off + 8, none⟩ = some (.int .i64 x8) ∧ w'.cell? ⟨ad.block, ad.off + 9, none⟩ = some (.int .i64 x9) ∧ w'.cell? ⟨ad.block, ad.off + 10, none⟩ = some (.int .i64 x10)) (by kernel_rfl) rfl (by kernel_rfl) (fun _ _ _ _ h => h) (HS.out _ (Below.refl _ _).drew) ?_
  iterate 30 (first
    | (refine in_off0 (by rfl) ?_; simp only [Act.put, stA, stZ, stS, i64_w, i32_w])
    | (refine in_off1 (by rfl) ?_; simp only [Act.put, stA, stZ, stS, i64_w, i32_w])
    | (refine in_0 (v := ?_) (by rfl) rfl ?_ (a' := ?_) ?_ ?_; rotate_left; (intro w'; go_simp; with_reducible rfl); rotate_left; (simp only [Act.put, stA, stZ, stS, i64_w, i32_w]; rfl))
    | (refine in_1 (v := ?_) (by rfl) rfl ?_ (a' := ?_) ?_ ?_; rotate_left; (rintro w' hs; go_split_ands; go_simp; with_reducible rfl); rotate_left; (simp only [Act.put, stA, stZ, stS, i64_w, i32_w]; rfl)))
  refine in_2 (by rfl) (fun K hK => ?_)
  go_simp
  refine hK _ _ (HS.out _ (below_alloc (Below.refl _ _) (.cells #[.int .i64 0, .int .i64 0, .int .i64 0, .int .i64 0, .int .i64 0, .int .i64 0, .int .i64 0, .int .i64 0, .bool false] 121)).drew) ?_
  clear hK K
  try simp only [Act.put, stA, stZ, stS, i64_w, i32_w]
  refine in_3 (by rfl) (fun K hK => ?_)
  go_simp
  refine hK _ _ ?_
  clear hK K
  try simp only [Act.put, stA, stZ, stS, i64_w, i32_w]
  refine out_nil ?_
  have hb3 : Below w2.heap.size w2 (w2.alloc (.cells #[.int .i64 x2, .int .i64 x3, .int .i64 x4, .int .i64 x5, .int .i64 x6, .int .i64 x7, .int .i64 x8, .int .i64 x9, .bool (x10 == 1)] 121)).drew := (below_alloc (Below.refl _ _) _).drew
  have hc3 := fun j v h => pw_cell_below (Below.refl (w2.alloc (.cells #[.int .i64 x2, .int .i64 x3, .int .i64 x4, .int .i64 x5, .int .i64 x6, .int .i64 x7, .int .i64 x8, .int .i64 x9, .bool (x10 == 1)] 121)).heap.size (w2.alloc (.cells #[.int .i64 x2, .int .i64 x3, .int .i64 x4, .int .i64 x5, .int .i64 x6, .int .i64 x7, .int .i64 x8, .int .i64 x9, .bool (x10 == 1)] 121))).drew (cell_alloc w2 #[.int .i64 x2, .int .i64 x3, .int .i64 x4, .int .i64 x5, .int .i64 x6, .int .i64 x7, .int .i64 x8, .int .i64 x9, .bool (x10 == 1)] 121 j v h)
  generalize (w2.alloc (.cells #[.int .i64 x2, .int .i64 x3, .int .i64 x4, .int .i64 x5, .int .i64 x6, .int .i64 x7, .int .i64 x8, .int .i64 x9, .bool (x10 == 1)] 121)).drew = w3 at hb3 hc3 ⊢
  have HC3 := Aside0.mk hc3
  have HB3 := Aside0.mk (below_then HB2.out HB2.out.size hb3)
  have HZ3 := Aside0.mk (HZ.out _ hb3)
  have j0 := hc3 0 _ rfl
  have j1 := hc3 1 _ rfl
  have j2 := hc3 2 _ rfl
  have j3 := hc3 3 _ rfl
  have j4 := hc3 4 _ rfl
  have j5 := hc3 5 _ rfl
  have j6 := hc3 6 _ rfl
  have j7 := hc3 7 _ rfl
  have j8 := hc3 8 _ rfl
  clear hb3 hc3
  go_wp2_with fail
  have hps := HPS.out w3
  rw [HV.out] at hps
  refine hps.mono ?_
  clear hps
  rintro e w4 ⟨v4, rfl, hb4, hv4, hv4'⟩
  have HB4 := Aside0.mk (below_then HB3.out HB3.out.size hb4)
  have m0 := pw_cell_below hb4 (HC3.out 0 _ rfl)
  have m1 := pw_cell_below hb4 (HC3.out 1 _ rfl)
  have m2 := pw_cell_below hb4 (HC3.out 2 _ rfl)
  have m3 := pw_cell_below hb4 (HC3.out 3 _ rfl)
  have m4 := pw_cell_below hb4 (HC3.out 4 _ rfl)
  have m5 := pw_cell_below hb4 (HC3.out 5 _ rfl)
  have m6 := pw_cell_below hb4 (HC3.out 6 _ rfl)
  have m7 := pw_cell_below hb4 (HC3.out 7 _ rfl)
  have m8 := pw_cell_below hb4 (HC3.out 8 _ rfl)
  have z0 := (HZ3.out.below hb4).cell 0 _ rfl
  have zf0 := (HZ3.out.below hb4).free 0
  have z1 := (HZ3.out.below hb4).cell 1 _ rfl
  have zf1 := (HZ3.out.below hb4).free 1
  have z2 := (HZ3.out.below hb4).cell 2 _ rfl
  have zf2 := (HZ3.out.below hb4).free 2
  have z3 := (HZ3.out.below hb4).cell 3 _ rfl
  have zf3 := (HZ3.out.below hb4).free 3
  have z4 := (HZ3.out.below hb4).cell 4 _ rfl
  have zf4 := (HZ3.out.below hb4).free 4
  have z5 := (HZ3.out.below hb4).cell 5 _ rfl
  have zf5 := (HZ3.out.below hb4).free 5
  have z6 := (HZ3.out.below hb4).cell 6 _ rfl
  have zf6 := (HZ3.out.below hb4).free 6
  have z7 := (HZ3.out.below hb4).cell 7 _ rfl
  have zf7 := (HZ3.out.below hb4).free 7
  have z8 := (HZ3.out.below hb4).cell 8 _ rfl
  have zf8 := (HZ3.out.below hb4).free 8
  have hzl := (HZ3.out.below hb4).lt
  have HZ4 := Aside0.mk (HZ3.out.below hb4)
  clear j0 j1 j2 j3 j4 j5 j6 j7 j8
  obtain ⟨p1, p2⟩ := p
  dsimp only at hv4 hv4' HBD HGD HPA HPL ⊢
  by_cases hp0 : p2 = 0
  · subst hp0
    obtain ⟨g4, c4, rfl, hg4, hc4, hr4⟩ := hv4 rfl
    have heq := equal_calls A (some ⟨g4, 0, none⟩) c c4 b p1 w4 (Kd.C_below HB.out HB4.out) (hr4.reads (Nat.le_trans HPL.out (by omega)))
    rw [strOf_eq HBA.out HPA.out] at heq
    have HEQ := Aside0.mk heq
    clear hv4 hv4' heq hb4 hr4
    obtain ⟨t, ht⟩ : ∃ t, (b == p1) = t := ⟨_, rfl⟩
    rw [ht] at HEQ
    cases t
    · have hne : p1 ≠ b := by rintro rfl; simp at ht
      have HR := Aside0.mk (HBD.out (fun h => hne h.2))
      clear ht hne
      go_wp2_with (go_at_call 43; refine HEQ.out.mono ?_; rintro e w2 ⟨rfl, rfl⟩)
      have hfs : Strc (((((((((w4.setCell ⟨w.heap.size, 0, none⟩ (.int .i64 0)).setCell ⟨w.heap.size, 1, none⟩ (.int .i64 0)).setCell ⟨w.heap.size, 2, none⟩ (.int .i64 0)).setCell ⟨w.heap.size, 3, none⟩ (.int .i64 0)).setCell ⟨w.heap.size, 4, none⟩ (.int .i64 0)).setCell ⟨w.heap.size, 5, none⟩ (.int .i64 0)).setCell ⟨w.heap.size, 6, none⟩ (.int .i64 0)).setCell ⟨w.heap.size, 7, none⟩ (.int .i64 0)).setCell ⟨w.heap.size, 8, none⟩ (.bool false)) w.heap.size 121 [.int .i64 0, .int .i64 0, .int .i64 0, .int .i64 0, .int .i64 0, .int .i64 0, .int .i64 0, .int .i64 0, .bool false] := ((((((((HZ4.out.set 0 (.int .i64 0)).set 1 (.int .i64 0)).set 2 (.int .i64 0)).set 3 (.int .i64 0)).set 4 (.int .i64 0)).set 5 (.int .i64 0)).set 6 (.int .i64 0)).set 7 (.int .i64 0)).set 8 (.bool false)
      have hfb : Below w.heap.size w (((((((((w4.setCell ⟨w.heap.size, 0, none⟩ (.int .i64 0)).setCell ⟨w.heap.size, 1, none⟩ (.int .i64 0)).setCell ⟨w.heap.size, 2, none⟩ (.int .i64 0)).setCell ⟨w.heap.size, 3, none⟩ (.int .i64 0)).setCell ⟨w.heap.size, 4, none⟩ (.int .i64 0)).setCell ⟨w.heap.size, 5, none⟩ (.int .i64 0)).setCell ⟨w.heap.size, 6, none⟩ (.int .i64 0)).setCell ⟨w.heap.size, 7, none⟩ (.int .i64 0)).setCell ⟨w.heap.size, 8, none⟩ (.bool false)) := ((((((((((Mod.of_below HB4.out (fun _ => False)).setCell (p := ⟨w.heap.size, 0, none⟩) (fun h => absurd h (Nat.lt_irrefl _)) (.int .i64 0)).setCell (p := ⟨w.heap.size, 1, none⟩) (fun h => absurd h (Nat.lt_irrefl _)) (.int .i64 0)).setCell (p := ⟨w.heap.size, 2, none⟩) (fun h => absurd h (Nat.lt_irrefl _)) (.int .i64 0)).setCell (p := ⟨w.heap.size, 3, none⟩) (fun h => absurd h (Nat.lt_irrefl _)) (.int .i64 0)).setCell (p := ⟨w.heap.size, 4, none⟩) (fun h => absurd h (Nat.lt_irrefl _)) (.int .i64 0)).setCell (p := ⟨w.heap.size, 5, none⟩) (fun h => absurd h (Nat.lt_irrefl _)) (.int .i64 0)).setCell (p := ⟨w.heap.size, 6, none⟩) (fun h => absurd h (Nat.lt_irrefl _)) (.int .i64 0)).setCell (p := ⟨w.heap.size, 7, none⟩) (fun h => absurd h (Nat.lt_irrefl _)) (.int .i64 0)).setCell (p := ⟨w.heap.size, 8, none⟩) (fun h => absurd h (Nat.lt_irrefl _)) (.bool false)).to_below (fun _ _ h => h)
      generalize (((((((((w4.setCell ⟨w.heap.size, 0, none⟩ (.int .i64 0)).setCell ⟨w.heap.size, 1, none⟩ (.int .i64 0)).setCell ⟨w.heap.size, 2, none⟩ (.int .i64 0)).setCell ⟨w.heap.size, 3, none⟩ (.int .i64 0)).setCell ⟨w.heap.size, 4, none⟩ (.int .i64 0)).setCell ⟨w.heap.size, 5, none⟩ (.int .i64 0)).setCell ⟨w.heap.size, 6, none⟩ (.int .i64 0)).setCell ⟨w.heap.size, 7, none⟩ (.int .i64 0)).setCell ⟨w.heap.size, 8, none⟩ (.bool false)) = W5 at hfs hfb ⊢
      have f0 := hfs.cell 0 _ rfl
      have f1 := hfs.cell 1 _ rfl
      have f2 := hfs.cell 2 _ rfl
      have f3 := hfs.cell 3 _ rfl
      have f4 := hfs.cell 4 _ rfl
      have f5 := hfs.cell 5 _ rfl
      have f6 := hfs.cell 6 _ rfl
      have f7 := hfs.cell 7 _ rfl
      have f8 := hfs.cell 8 _ rfl
      refine bodyPost_ret (v := .tuple #[.agg #[.int .i64 0, .int .i64 0, .int .i64 0, .int .i64 0, .int .i64 0, .int .i64 0, .int .i64 0, .int .i64 0, .bool false], .int .i64 117]) ?_ rfl ⟨?_, hfb⟩
      · simp [results, Tryz.results130, go_sem, f0, f1, f2, f3, f4, f5, f6, f7, f8]
      · rw [HR.out]
        rfl
    · have he : p1 = b := by simp at ht; exact ht.symm
      have HR := Aside0.mk (HGD.out ⟨rfl, he⟩)
      clear ht he
      go_wp2_with (go_at_call 43; refine HEQ.out.mono ?_; rintro e w2 ⟨rfl, rfl⟩)
      have hfs : Strc (((((((((w4.setCell ⟨w.heap.size, 0, none⟩ (.int .i64 x2)).setCell ⟨w.heap.size, 1, none⟩ (.int .i64 x3)).setCell ⟨w.heap.size, 2, none⟩ (.int .i64 x4)).setCell ⟨w.heap.size, 3, none⟩ (.int .i64 x5)).setCell ⟨w.heap.size, 4, none⟩ (.int .i64 x6)).setCell ⟨w.heap.size, 5, none⟩ (.int .i64 x7)).setCell ⟨w.heap.size, 6, none⟩ (.int .i64 x8)).setCell ⟨w.heap.size, 7, none⟩ (.int .i64 x9)).setCell ⟨w.heap.size, 8, none⟩ (.bool (x10 == 1))) w.heap.size 121 [.int .i64 x2, .int .i64 x3, .int .i64 x4, .int .i64 x5, .int .i64 x6, .int .i64 x7, .int .i64 x8, .int .i64 x9, .bool (x10 == 1)] := ((((((((HZ4.out.set 0 (.int .i64 x2)).set 1 (.int .i64 x3)).set 2 (.int .i64 x4)).set 3 (.int .i64 x5)).set 4 (.int .i64 x6)).set 5 (.int .i64 x7)).set 6 (.int .i64 x8)).set 7 (.int .i64 x9)).set 8 (.bool (x10 == 1))
      have hfb : Below w.heap.size w (((((((((w4.setCell ⟨w.heap.size, 0, none⟩ (.int .i64 x2)).setCell ⟨w.heap.size, 1, none⟩ (.int .i64 x3)).setCell ⟨w.heap.size, 2, none⟩ (.int .i64 x4)).setCell ⟨w.heap.size, 3, none⟩ (.int .i64 x5)).setCell ⟨w.heap.size, 4, none⟩ (.int .i64 x6)).setCell ⟨w.heap.size, 5, none⟩ (.int .i64 x7)).setCell ⟨w.heap.size, 6, none⟩ (.int .i64 x8)).setCell ⟨w.heap.size, 7, none⟩ (.int .i64 x9)).setCell ⟨w.heap.size, 8, none⟩ (.bool (x10 == 1))) := ((((((((((Mod.of_below HB4.out (fun _ => False)).setCell (p := ⟨w.heap.size, 0, none⟩) (fun h => absurd h (Nat.lt_irrefl _)) (.int .i64 x2)).setCell (p := ⟨w.heap.size, 1, none⟩) (fun h => absurd h (Nat.lt_irrefl _)) (.int .i64 x3)).setCell (p := ⟨w.heap.size, 2, none⟩) (fun h => absurd h (Nat.lt_irrefl _)) (.int .i64 x4)).setCell (p := ⟨w.heap.size, 3, none⟩) (fun h => absurd h (Nat.lt_irrefl _)) (.int .i64 x5)).setCell (p := ⟨w.heap.size, 4, none⟩) (fun h => absurd h (Nat.lt_irrefl _)) (.int .i64 x6)).setCell (p := ⟨w.heap.size, 5, none⟩) (fun h => absurd h (Nat.lt_irrefl _)) (.int .i64 x7)).setCell (p := ⟨w.heap.size, 6, none⟩) (fun h => absurd h (Nat.lt_irrefl _)) (.int .i64 x8)).setCell (p := ⟨w.heap.size, 7, none⟩) (fun h => absurd h (Nat.lt_irrefl _)) (.int .i64 x9)).setCell (p := ⟨w.heap.size, 8, none⟩) (fun h => absurd h (Nat.lt_irrefl _)) (.bool (x10 == 1))).to_below (fun _ _ h => h)
      generalize (((((((((w4.setCell ⟨w.heap.size, 0, none⟩ (.int .i64 x2)).setCell ⟨w.heap.size, 1, none⟩ (.int .i64 x3)).setCell ⟨w.heap.size, 2, none⟩ (.int .i64 x4)).setCell ⟨w.heap.size, 3, none⟩ (.int .i64 x5)).setCell ⟨w.heap.size, 4, none⟩ (.int .i64 x6)).setCell ⟨w.heap.size, 5, none⟩ (.int .i64 x7)).setCell ⟨w.heap.size, 6, none⟩ (.int .i64 x8)).setCell ⟨w.heap.size, 7, none⟩ (.int .i64 x9)).setCell ⟨w.heap.size, 8, none⟩ (.bool (x10 == 1))) = W5 at hfs hfb ⊢
      have f0 := hfs.cell 0 _ rfl
      have f1 := hfs.cell 1 _ rfl
      have f2 := hfs.cell 2 _ rfl
      have f3 := hfs.cell 3 _ rfl
      have f4 := hfs.cell 4 _ rfl
      have f5 := hfs.cell 5 _ rfl
      have f6 := hfs.cell 6 _ rfl
      have f7 := hfs.cell 7 _ rfl
      have f8 := hfs.cell 8 _ rfl
      refine bodyPost_ret (v := .tuple #[.agg #[.int .i64 x2, .int .i64 x3, .int .i64 x4, .int .i64 x5, .int .i64 x6, .int .i64 x7, .int .i64 x8, .int .i64 x9, .bool (x10 == 1)], .int .i64 0]) ?_ rfl ⟨?_, hfb⟩
      · simp [results, Tryz.results130, go_sem, f0, f1, f2, f3, f4, f5, f6, f7, f8]
      · rw [HR.out]
        show Ending.returned _ = .returned (.tuple #[s.v, _])
        rw [HV.out]
  · have HR := Aside0.mk (HBD.out (fun h => hp0 h.1))
    obtain rfl := hv4' hp0
    clear hv4 hv4'
    go_wp2
    have hfs : Strc (((((((((w4.setCell ⟨w.heap.size, 0, none⟩ (.int .i64 0)).setCell ⟨w.heap.size, 1, none⟩ (.int .i64 0)).setCell ⟨w.heap.size, 2, none⟩ (.int .i64 0)).setCell ⟨w.heap.size, 3, none⟩ (.int .i64 0)).setCell ⟨w.heap.size, 4, none⟩ (.int .i64 0)).setCell ⟨w.heap.size, 5, none⟩ (.int .i64 0)).setCell ⟨w.heap.size, 6, none⟩ (.int .i64 0)).setCell ⟨w.heap.size, 7, none⟩ (.int .i64 0)).setCell ⟨w.heap.size, 8, none⟩ (.bool false)) w.heap.size 121 [.int .i64 0, .int .i64 0, .int .i64 0, .int .i64 0, .int .i64 0, .int .i64 0, .int .i64 0, .int .i64 0, .bool false] := ((((((((HZ4.out.set 0 (.int .i64 0)).set 1 (.int .i64 0)).set 2 (.int .i64 0)).set 3 (.int .i64 0)).set 4 (.int .i64 0)).set 5 (.int .i64 0)).set 6 (.int .i64 0)).set 7 (.int .i64 0)).set 8 (.bool false)
    have hfb : Below w.heap.size w (((((((((w4.setCell ⟨w.heap.size, 0, none⟩ (.int .i64 0)).setCell ⟨w.heap.size, 1, none⟩ (.int .i64 0)).setCell ⟨w.heap.size, 2, none⟩ (.int .i64 0)).setCell ⟨w.heap.size, 3, none⟩ (.int .i64 0)).setCell ⟨w.heap.size, 4, none⟩ (.int .i64 0)).setCell ⟨w.heap.size, 5, none⟩ (.int .i64 0)).setCell ⟨w.heap.size, 6, none⟩ (.int .i64 0)).setCell ⟨w.heap.size, 7, none⟩ (.int .i64 0)).setCell ⟨w.heap.size, 8, none⟩ (.bool false)) := ((((((((((Mod.of_below HB4.out (fun _ => False)).setCell (p := ⟨w.heap.size, 0, none⟩) (fun h => absurd h (Nat.lt_irrefl _)) (.int .i64 0)).setCell (p := ⟨w.heap.size, 1, none⟩) (fun h => absurd h (Nat.lt_irrefl _)) (.int .i64 0)).setCell (p := ⟨w.heap.size, 2, none⟩) (fun h => absurd h (Nat.lt_irrefl _)) (.int .i64 0)).setCell (p := ⟨w.heap.size, 3, none⟩) (fun h => absurd h (Nat.lt_irrefl _)) (.int .i64 0)).setCell (p := ⟨w.heap.size, 4, none⟩) (fun h => absurd h (Nat.lt_irrefl _)) (.int .i64 0)).setCell (p := ⟨w.heap.size, 5, none⟩) (fun h => absurd h (Nat.lt_irrefl _)) (.int .i64 0)).setCell (p := ⟨w.heap.size, 6, none⟩) (fun h => absurd h (Nat.lt_irrefl _)) (.int .i64 0)).setCell (p := ⟨w.heap.size, 7, none⟩) (fun h => absurd h (Nat.lt_irrefl _)) (.int .i64 0)).setCell (p := ⟨w.heap.size, 8, none⟩) (fun h => absurd h (Nat.lt_irrefl _)) (.bool false)).to_below (fun _ _ h => h)
    generalize (((((((((w4.setCell ⟨w.heap.size, 0, none⟩ (.int .i64 0)).setCell ⟨w.heap.size, 1, none⟩ (.int .i64 0)).setCell ⟨w.heap.size, 2, none⟩ (.int .i64 0)).setCell ⟨w.heap.size, 3, none⟩ (.int .i64 0)).setCell ⟨w.heap.size, 4, none⟩ (.int .i64 0)).setCell ⟨w.heap.size, 5, none⟩ (.int .i64 0)).setCell ⟨w.heap.size, 6, none⟩ (.int .i64 0)).setCell ⟨w.heap.size, 7, none⟩ (.int .i64 0)).setCell ⟨w.heap.size, 8, none⟩ (.bool false)) = W5 at hfs hfb ⊢
    have f0 := hfs.cell 0 _ rfl
    have f1 := hfs.cell 1 _ rfl
    have f2 := hfs.cell 2 _ rfl
    have f3 := hfs.cell 3 _ rfl
    have f4 := hfs.cell 4 _ rfl
    have f5 := hfs.cell 5 _ rfl
    have f6 := hfs.cell 6 _ rfl
    have f7 := hfs.cell 7 _ rfl
    have f8 := hfs.cell 8 _ rfl
    refine bodyPost_ret (v := .tuple #[.agg #[.int .i64 0, .int .i64 0, .int .i64 0, .int .i64 0, .int .i64 0, .int .i64 0, .int .i64 0, .int .i64 0, .bool false], .int .i64 117]) ?_ rfl ⟨?_, hfb⟩
    · simp [results, Tryz.results130, go_sem, f0, f1, f2, f3, f4, f5, f6, f7, f8]
    · rw [HR.out]
      rfl
theorem allB_attB {x : Att} (h : allB x.val) : allB (attB x) := by
  unfold attB
  refine allB_append (allB_append (fun y hy => ?_) (allB_bytes _)) h
  simp only [List.mem_cons, List.not_mem_nil, or_false] at hy
  rcases hy with rfl | rfl <;> omega
theorem allB_xpack {l : List Att} (h : ∀ x ∈ l, allB x.val) (s : Int) : allB (xpackI l s).1 := by
  unfold xpackI
  split
  · split
    · intro y hy; cases hy
    · refine allB_seal (allB_pad ?_) s
      unfold attsB
      refine allB_append (fun y hy => ?_) (fun y hy => ?_)
      · simp only [List.mem_cons, List.not_mem_nil, or_false] at hy
        rcases hy with rfl | rfl <;> omega
      · obtain ⟨x, hx, hy⟩ := List.mem_flatMap.1 hy
        exact allB_attB (h x hx) y hy
  · intro y hy; cases hy
theorem xpackI_len {l : List Att} {s : Int} (h : (xpackI l s).2 = 0) : (xpackI l s).1.length = 256 := by
  unfold xpackI at h ⊢
  by_cases h1 : attsOk l
  · rw [if_pos h1] at h ⊢
    by_cases h2 : 250 < attN l
    · rw [if_pos h2] at h; cases h
    · rw [if_neg h2]
      show (sealL (pad (attsB l)) s).length = 256
      unfold sealL
      rw [layL_length]
      refine pad_length _ ?_
      unfold attsB
      unfold attN at h2
      simp only [List.length_append, List.length_cons, List.length_nil]
      omega
  · rw [if_neg h1] at h; cases h
def xattI (r : List Int) : Att := ⟨strOfNums ((r.drop 2).take (r.getD 0 0).toNat), (r.drop (2 + (r.getD 0 0).toNat)).take (r.getD 1 0).toNat⟩
def xreadI : Nat → List Int → List Att → Option (List Att)
  | 0, _, out => some out
  | g + 1, r, out => if (r.length : Int) < 2 ∨ (r.length : Int) < 2 + r.getD 0 0 + r.getD 1 0 then none else xreadI g (r.drop (2 + (r.getD 0 0).toNat + (r.getD 1 0).toNat)) (out ++ [xattI r])
def xunpI (l : List Int) (s : Int) : List Att × Int :=
  if l.length ≠ 256 then ([], 117) else
  match xreadI (l.getD 1 0).toNat ((l.drop 2).take 250) [] with
  | none => ([], 117)
  | some out => if (xpackI out s).2 = 0 ∧ (xpackI out s).1 = l then (out, 0) else ([], 117)
def acells (l : List Att) (vs : List Value) : List Value := (l.zip vs).flatMap fun q => [.string q.1.name, q.2]
theorem acells_at : ∀ (l : List Att) (vs : List Value) (j : Nat), j < l.length → vs.length = l.length → (acells l vs)[j * 2]? = some (.string (attAt l j).name) ∧ (acells l vs)[j * 2 + 1]? = some (vs.getD j undef)
  | [], _, j, h, _ => by simp at h
  | x :: l, [], j, _, h => by simp at h
  | x :: l, v :: vs, 0, _, _ => by simp [acells, attAt]
  | x :: l, v :: vs, j + 1, h, hv => by
    have ih := acells_at l vs j (by simpa using h) (by simpa using hv)
    have e : acells (x :: l) (v :: vs) = [.string x.name, v] ++ acells l vs := by simp [acells]
    have e1 : (j + 1) * 2 = 2 + j * 2 := by omega
    rw [e, e1, show 2 + j * 2 + 1 = 2 + (j * 2 + 1) by omega]
    rw [List.getElem?_append_right (by simp), List.getElem?_append_right (by simp)]
    simpa [attAt] using ih
theorem acells_snoc (l : List Att) (vs : List Value) (x : Att) (v : Value) (h : vs.length = l.length) : acells (l ++ [x]) (vs ++ [v]) = acells l vs ++ [.string x.name, v] := by
  unfold acells
  rw [List.zip_append h.symm, List.flatMap_append]
  simp
theorem acells_length (l : List Att) (vs : List Value) (h : vs.length = l.length) : (acells l vs).length = l.length * 2 := by
  unfold acells
  have : ∀ q : List (Att × Value), (q.flatMap fun q => [Value.string q.1.name, q.2]).length = q.length * 2 := by
    intro q
    induction q with
    | nil => rfl
    | cons a q ih => rw [List.flatMap_cons, List.length_append, ih]; simp; omega
  rw [this, List.length_zip, h, Nat.min_self]
def OwnA (w : World) (base : Nat) (v : Value) (l : List Att) : Prop :=
  ∃ vs : List Value, vs.length = l.length ∧ w.ownsRow base 72 2 v l.length (acells l vs) ∧ ∀ j, j < l.length → Own w base 5 .u8 (vs.getD j undef) (attAt l j).val ∧ allB (attAt l j).val
theorem OwnA.below {w w1 : World} {base : Nat} {v : Value} {l : List Att} (h : OwnA w base v l) (hb : Below w.heap.size w w1) : OwnA w1 base v l := by
  obtain ⟨vs, h1, h2, h3⟩ := h
  exact ⟨vs, h1, pw_own_below h2 hb, fun j hj => ⟨(h3 j hj).1.below hb, (h3 j hj).2⟩⟩
theorem own_nocap {w : World} {base e : Nat} {k : IntKind} {A : Option Addr} {n c : Nat} {l : List Int} (h : Own w base e k (.slice A n c) l) : A = none → c = 0 := by
  rintro rfl
  rcases h.2 with ⟨h0, _⟩ | ⟨g, cap, cur, h0, _⟩
  · cases h0; rfl
  · cases h0
theorem OwnA.reads {w : World} {base : Nat} {v : Value} {l : List Att} (h : OwnA w base v l) (hs : l.length ≤ 1125899906842624) : ∃ A c, v = .slice A l.length c ∧ l.length ≤ c ∧ Atts w A l := by
  obtain ⟨vs, h1, h2, h3⟩ := h
  obtain ⟨A, c, rfl, hc, _, hA, hcell⟩ := own_shape h2
  refine ⟨A, c, rfl, hc, hs, fun j hj => ?_⟩
  obtain ⟨ad, rfl⟩ := hA (by omega)
  obtain ⟨q1, q2⟩ := acells_at l vs j hj h1
  obtain ⟨hown, _⟩ := h3 j hj
  obtain ⟨Av, cv, ev, hcv, hC⟩ := hown.reads
  rw [ev] at hown
  refine ⟨ad, Av, cv, rfl, hcell ad rfl _ _ q1, ?_, hcv, hC, own_nocap hown⟩
  have := hcell ad rfl _ _ q2
  rw [add_next ad (j * 2) 1 (by omega), ev] at this
  exact this
theorem own_ne {w : World} {b1 b2 e1 e2 s1 s2 n1 n2 : Nat} {v1 v2 : Value} {c1 c2 : List Value} (h1 : w.ownsRow b1 e1 s1 v1 n1 c1) (h2 : w.ownsRow b2 e2 s2 v2 n2 c2) (he : e1 ≠ e2) (g : Nat) (h : v1.ownBlock = some g) : v2.ownBlock ≠ some g := by
  rcases h1.2 with ⟨rfl, _⟩ | ⟨g1, cap1, cur1, rfl, _, hb1, _⟩
  · simp [Value.ownBlock] at h
  · rcases h2.2 with ⟨rfl, _⟩ | ⟨g2, cap2, cur2, rfl, _, hb2, _⟩
    · simp [Value.ownBlock]
    · intro h'
      obtain rfl : g1 = g := by simpa [Value.ownBlock] using h
      obtain rfl : g2 = g1 := by simpa [Value.ownBlock] using h'
      have := hb1.symm.trans hb2
      simp at this
      exact he this.2
theorem ownA_snoc {w1 w2 : World} {base : Nat} {v v2 vx : Value} {l : List Att} {x : Att} {vs : List Value} (hvl : vs.length = l.length) (hrow : w1.ownsRow base 72 2 v l.length (acells l vs)) (hvals : ∀ j, j < l.length → Own w1 base 5 .u8 (vs.getD j undef) (attAt l j).val ∧ allB (attAt l j).val)
    (hx : Own w1 base 5 .u8 vx x.val) (hxb : allB x.val) (hg : w1.grownBy w2 v.ownBlock) (h2 : w2.ownsRow base 72 2 v2 (l.length + 1) (acells l vs ++ [.string x.name, vx])) : OwnA w2 base v2 (l ++ [x]) := by
  have hne : (72 : TypeId) ≠ 5 := by decide
  refine ⟨vs ++ [vx], by simp [hvl], by rw [acells_snoc l vs x vx hvl, List.length_append]; exact h2, fun j hj => ?_⟩
  have hk : ∀ {u : Value} {z : List Int}, Own w1 base 5 .u8 u z → Own w2 base 5 .u8 u z := fun hu => own_mod hu (mod_grown hg) (fun g hg' e => own_ne hrow hu hne g e hg')
  by_cases h : j < l.length
  · obtain ⟨p1, p2⟩ := hvals j h
    have e1 : (vs ++ [vx]).getD j undef = vs.getD j undef := by simp [List.getD_eq_getElem?_getD, List.getElem?_append_left (show j < vs.length by omega)]
    have e2 : attAt (l ++ [x]) j = attAt l j := by simp [attAt, List.getD_eq_getElem?_getD, List.getElem?_append_left h]
    rw [e1, e2]
    exact ⟨hk p1, p2⟩
  · have hj' : j = l.length := by simp at hj; omega
    subst hj'
    have e1 : (vs ++ [vx]).getD l.length undef = vx := by rw [← hvl]; simp [List.getD_eq_getElem?_getD]
    have e2 : attAt (l ++ [x]) l.length = x := by simp [attAt, List.getD_eq_getElem?_getD]
    rw [e1, e2]
    exact ⟨hk hx, hxb⟩
theorem OwnA.nil (w : World) (base : Nat) : OwnA w base (.slice none 0 0) [] := ⟨[], rfl, own_nil _ _ _ _, fun j hj => by simp at hj⟩
theorem infoAtt : (Tryz.prog.info? 72).map (fun i => (i.zero, i.size, i.bytes)) = some (some (.agg #[.string ⟨#[]⟩, .slice none 0 0]), 2, 40) := by kernel_rfl
def XUnpPost (r : List Att × Int) (w : World) (e : Ending) (w' : World) : Prop :=
  ∃ v, e = .returned (.tuple #[v, .int .i64 r.2]) ∧ OwnA w' w.heap.size v r.1 ∧ Below w.heap.size w w'
theorem xunpPost_bad {r : List Att × Int} {w w' : World} {e : Ending} {c : Int} (hp : r = ([], c)) (he : e = .returned (.tuple #[.slice none 0 0, .int .i64 c])) (hb : Below w.heap.size w w') : XUnpPost r w e w' :=
  ⟨.slice none 0 0, by rw [hp]; exact he, by rw [hp]; exact OwnA.nil _ _, hb⟩
structure XUnp (w wr : World) (m k g : Nat) (full r : List Int) (v vr : Value) (out : List Att) (cc : Nat) : Prop where
  own : OwnA wr w.heap.size v out
  cnt : out.length = k
  below : Below w.heap.size w wr
  rest : ∃ ad, vr = .slice (some ad) r.length cc ∧ r.length < cc ∧ r.length ≤ 250 ∧ Kd.C (Kd.int .u8) w (some ad) r.length r
  bytes : allB r
  eq : xreadI m full [] = xreadI g r out
set_option maxHeartbeats 16000000 in
set_option maxRecDepth 100000 in
theorem xunpack_calls (A : Option Addr) (c : Nat) (s : Int) (l : List Int) (w : World) (hl : Kd.C (Kd.int .u8) w A l.length l) (hc : l.length ≤ c) (hs0 : 0 ≤ s) (hs1 : s < 4294967296) (hb : allB l) :
    Calls Tryz.prog 13 #[.slice A l.length c, .int .u32 s] w (XUnpPost (xunpI l s) w) := by
  by_cases h256 : l.length = 256
  · have HL := Aside0.mk hl
    have hub : xunpI l s = match xreadI (l.getD 1 0).toNat ((l.drop 2).take 250) [] with | none => ([], 117) | some out => if (xpackI out s).2 = 0 ∧ (xpackI out s).1 = l then (out, 0) else ([], 117) := by unfold xunpI; exact if_neg (fun h => h h256)
    obtain ⟨ad, rfl, hx1⟩ := C_int_at hl 1 (by omega)
    obtain ⟨hm0, hm1⟩ := allB_get hb 1
    have HB := Aside0.mk hb
    obtain ⟨m, hm⟩ : ∃ m : Nat, l.getD 1 0 = m := ⟨(l.getD 1 0).toNat, by omega⟩
    have hp2 : Kd.C (Kd.int .u8) w (some ⟨ad.block, ad.off + 2, none⟩) 250 ((l.drop 2).take 250) := C_int_part hl 2 250 (by omega)
    have hfb : allB ((l.drop 2).take 250) := allB_take (allB_drop hb 2) 250
    have hfl : ((l.drop 2).take 250).length = 250 := by simp; omega
    generalize (l.drop 2).take 250 = full at hp2 hfb hfl hub
    have HFB := Aside0.mk hfb
    rw [hm] at hx1 hm1
    replace hx1 : w.cell? ⟨ad.block, ad.off + 1, none⟩ = some (.int .u8 m) := hx1
    have hmm : (l.getD 1 0).toNat = m := by rw [hm]; exact Int.toNat_natCast m
    rw [hmm] at hub
    obtain ⟨rr, hrr⟩ : ∃ rr, xunpI l s = rr := ⟨_, rfl⟩
    rw [hrr] at hub ⊢
    have HBAD := Aside0.mk (fun (h : xreadI m full [] = none) => show rr = ([], 117) by rw [hub, h])
    have HGOOD := Aside0.mk (fun out (h : xreadI m full [] = some out) => show rr = if (xpackI out s).2 = 0 ∧ (xpackI out s).1 = l then (out, 0) else ([], 117) by rw [hub, h])
    have HFL := Aside0.mk hfl
    have HP2 := Aside0.mk hp2
    have HL2 := Aside0.mk h256
    rw [h256] at hc ⊢
    clear hl hub hb hm hm0 hp2 h256 hfb hfl hmm hrr
    have hc2 : c ≠ 2 := by omega
    go_enter Tryz.func13, Tryz.ntmps13
    go_wp2
    go_loopg [6, 7, 20] m (fun g v vr i wr => ∃ (k : Nat) (r : List Int) (out : List Att) (cc : Nat), k + g = m ∧ i = .int .u8 k ∧ Aside0 (XUnp w wr m k g full r v vr out cc))
    case atStart => exact ⟨0, full, [], c - 2, by omega, rfl, ⟨⟨OwnA.nil _ _, rfl, Below.refl _ _, ⟨⟨ad.block, ad.off + 2, none⟩, by rw [HFL.out], by rw [HFL.out]; omega, by rw [HFL.out]; omega, by rw [HFL.out]; exact HP2.out⟩, HFB.out, rfl⟩⟩⟩
    case round =>
      obtain ⟨k, r, out, cc, hk, rfl, HU⟩ := hrel
      obtain ⟨ad2, rfl, hcc, h250, hr⟩ := HU.out.rest
      have HR := Aside0.mk hr
      have HB1 := fun j => allB_get HU.out.bytes j
      clear hr
      cases gk with
      | zero =>
        obtain rfl : k = m := by omega
        have hg := HGOOD.out out HU.out.eq
        obtain ⟨A', c', rfl, hc', hE⟩ := HU.out.own.reads (by rw [HU.out.cnt]; omega)
        have HG := Aside0.mk hg
        have hC := HU.out.cnt
        have hlen := HL2.out
        have hall : ∀ x ∈ out, allB x.val := fun x hx => by
          obtain ⟨vs, _, _, h3⟩ := HU.out.own
          obtain ⟨j, hj, rfl⟩ := List.getElem_of_mem hx
          have := (h3 j hj).2
          simpa [attAt, List.getD_eq_getElem?_getD, hj] using this
        obtain ⟨p, hp⟩ : ∃ p, xpackI out s = p := ⟨_, rfl⟩
        have hpk := xpack_calls A' c' s out _ hE hc' (by omega) hs0 hs1
        have hap := allB_xpack hall s
        have hpl := xpackI_len (l := out) (s := s)
        rw [hp] at hpk hap HG hpl
        obtain ⟨p1, p2⟩ := p
        dsimp only at HG hap hpl
        have HAP := Aside0.mk hap
        have HPK := Aside0.mk hpk
        clear hpk hap hp hC hlen HB1 hall hE hg
        by_cases hp0 : p2 = 0
        · subst hp0
          have HPLN := Aside0.mk (hpl rfl)
          clear hpl
          go_wp2_with fail
          refine HPK.out.mono ?_
          rintro e w1 ⟨v1, rfl, hb1, hv1, _⟩
          obtain ⟨g1, c1, rfl, hg1, hc1, hr1⟩ := hv1 rfl
          have HB1 := Aside0.mk (below_then HU.out.below HU.out.below.size hb1)
          have HO1 := Aside0.mk (HU.out.own.below hb1)
          have hR1 : Kd.C (Kd.int .u8) w1 (some ⟨g1, 0, none⟩) p1.length p1 := hr1.reads (by rw [HPLN.out]; omega)
          have heq := equal_calls (some ad) (some ⟨g1, 0, none⟩) c c1 l p1 w1 (Kd.C_below HL.out HB1.out) hR1
          rw [HL2.out, strOf_eq HB.out HAP.out] at heq
          obtain ⟨b, hb⟩ : ∃ b, (l == p1) = b := ⟨_, rfl⟩
          rw [hb] at heq
          have HBB := Aside0.mk hb
          have HEQ := Aside0.mk heq
          clear heq hR1 hr1 hb1 hv1 hb
          dsimp only
          go_wp2_with fail
          refine HEQ.out.mono ?_
          rintro e w2 ⟨rfl, rfl⟩
          dsimp only
          cases b
          · go_wp2
            go_ret2
            have hne : ¬ (p1 = l) := by rintro rfl; have := HBB.out; simp at this
            exact xunpPost_bad (by rw [HG.out]; exact if_neg (fun h => hne h.2)) rfl HB1.out
          · go_wp2
            go_ret2
            have he : p1 = l := by have := HBB.out; simp at this; exact this.symm
            have hg : rr = (out, 0) := by rw [HG.out]; exact if_pos ⟨trivial, he⟩
            exact ⟨.slice A' out.length c', by rw [hg]; rfl, by rw [hg]; exact HO1.out, HB1.out⟩
        · clear hpl
          have hpb : (p2 != 0) = true := by simpa using hp0
          go_wp2_with fail
          refine HPK.out.mono ?_
          rintro e w1 ⟨v1, rfl, hb1, _, hv1⟩
          obtain rfl := hv1 hp0
          have HB1 := Aside0.mk (below_then HU.out.below HU.out.below.size hb1)
          clear hv1 hb1
          dsimp only
          go_wp2
          go_ret2
          exact xunpPost_bad (by rw [HG.out]; exact if_neg (fun h => hp0 h.1)) rfl HB1.out
      | succ g =>
        have i0k : (k : Int) < (m : Int) := by omega
        have i0kn : k < m := by omega
        by_cases h4 : r.length < 2
        · have h4i : (r.length : Int) < 2 := by omega
          go_upto_region 7 with fail
          refine wp_region_in [0, 0, 0, 0, 0, 0, 0, 0, 1, 0, 0, 0, 0, 1, 0, 0, 0, 0] [] (fun _ => True) (by kernel_rfl) rfl (by kernel_rfl) (fun _ _ _ _ h => h) trivial ?_
          iterate 18 (first
            | (refine in_off0 (by rfl) ?_; simp only [Act.put, stA, stZ, stS, i64_w, i32_w])
            | (refine in_off1 (by rfl) ?_; simp only [Act.put, stA, stZ, stS, i64_w, i32_w])
            | (refine in_0 (v := ?_) (by rfl) rfl ?_ (a' := ?_) ?_ ?_; rotate_left; (intro w'; go_simp; with_reducible rfl); rotate_left; (simp only [Act.put, stA, stZ, stS, i64_w, i32_w]; rfl))
            | (refine in_1 (v := ?_) (by rfl) rfl ?_ (a' := ?_) ?_ ?_; rotate_left; (rintro w' hs; go_split_ands; go_simp; with_reducible rfl); rotate_left; (simp only [Act.put, stA, stZ, stS, i64_w, i32_w]; rfl)))
          refine in_nil ?_
          go_wp2
          go_ret2
          exact xunpPost_bad (HBAD.out (HU.out.eq.trans (by rw [xreadI, if_pos (by omega)]))) rfl HU.out.below.drew
        · obtain ⟨ad', e, hy0⟩ := C_int_at HR.out 0 (by omega)
          cases e
          obtain ⟨ad', e, hy1⟩ := C_int_at HR.out 1 (by omega)
          cases e
          replace hy0 := pw_cell_below HU.out.below hy0
          replace hy1 : wr.cell? ⟨ad2.block, ad2.off + 1, none⟩ = _ := pw_cell_below HU.out.below hy1
          rw [show ad2.add 0 = ad2 from rfl] at hy0
          obtain ⟨a, ha⟩ : ∃ a : Nat, r.getD 0 0 = a := ⟨(r.getD 0 0).toNat, by have := HB1 0; omega⟩
          obtain ⟨bq, hbq⟩ : ∃ bq : Nat, r.getD 1 0 = bq := ⟨(r.getD 1 0).toNat, by have := HB1 1; omega⟩
          have ha1 : a < 256 := by have := HB1 0; omega
          have hb1 : bq < 256 := by have := HB1 1; omega
          rw [ha] at hy0
          rw [hbq] at hy1
          have HAB := Aside0.mk (And.intro ha hbq)
          have h4i : ¬ (r.length : Int) < 2 := by omega
          have i0 : (0 : Int) < (r.length : Int) := by omega
          have i0n : 0 < r.length := by omega
          have i1 : (1 : Int) < (r.length : Int) := by omega
          have i1n : 1 < r.length := by omega
          obtain ⟨na, hna⟩ : ∃ na, 2 + a = na := ⟨_, rfl⟩
          obtain ⟨nb, hnb⟩ : ∃ nb, na + bq = nb := ⟨_, rfl⟩
          have e1 : 2 + (a : Int) = (na : Int) := by omega
          have e2 : (na : Int) + (bq : Int) = (nb : Int) := by omega
          have HNA := Aside0.mk (And.intro hna hnb)
          have hnb1 : nb < 1000 := by omega
          have HW := Aside0.mk (And.intro (show wrap64 (a : Int) = (a : Int) by unfold wrap64; omega) (And.intro (show wrap64 (bq : Int) = (bq : Int) by unfold wrap64; omega) (And.intro (show wrap64 (na : Int) = (na : Int) by unfold wrap64; omega) (show wrap64 (nb : Int) = (nb : Int) by unfold wrap64; omega))))
          clear hna hnb
          clear HB1 ha hbq
          by_cases h4q : r.length < nb
          · have h4qi : (r.length : Int) < (nb : Int) := by omega
            go_upto_region 7 with fail
            obtain ⟨hw0, hw1, hw2, hw3⟩ := HW.out
            refine wp_region_in [0, 0, 0, 0, 0, 0, 0, 0, 1, 0, 0, 0, 0, 1, 0, 0, 0, 0] [] (fun w' => w'.cell? ad2 = some (.int .u8 (a : Nat)) ∧ w'.cell? ⟨ad2.block, ad2.off + 1, none⟩ = some (.int .u8 (bq : Nat))) (by kernel_rfl) rfl (by kernel_rfl) (fun _ _ _ _ h => h) ⟨hy0, hy1⟩ ?_
            iterate 18 (first
              | (refine in_off0 (by rfl) ?_; simp only [Act.put, stA, stZ, stS, i64_w, i32_w])
              | (refine in_off1 (by rfl) ?_; simp only [Act.put, stA, stZ, stS, i64_w, i32_w])
              | (refine in_0 (v := ?_) (by rfl) rfl ?_ (a' := ?_) ?_ ?_; rotate_left; (intro w'; go_simp; with_reducible rfl); rotate_left; (simp only [Act.put, stA, stZ, stS, i64_w, i32_w]; rfl))
              | (refine in_1 (v := ?_) (by rfl) rfl ?_ (a' := ?_) ?_ ?_; rotate_left; (rintro w' hs; go_split_ands; go_simp; with_reducible rfl); rotate_left; (simp only [Act.put, stA, stZ, stS, i64_w, i32_w]; rfl)))
            refine in_nil ?_
            clear hw0 hw1 hw2 hw3
            go_wp2
            go_ret2
            exact xunpPost_bad (HBAD.out (HU.out.eq.trans (by rw [xreadI, if_pos (by rw [HAB.out.1, HAB.out.2]; have := HNA.out; omega)]))) rfl HU.out.below.drew
          · have h4qi : ¬ (r.length : Int) < (nb : Int) := by omega
            go_upto_region 7 with fail
            obtain ⟨hw0, hw1, hw2, hw3⟩ := HW.out
            refine wp_region_in [0, 0, 0, 0, 0, 0, 0, 0, 1, 0, 0, 0, 0, 1, 0, 0, 0, 0] [] (fun w' => w'.cell? ad2 = some (.int .u8 (a : Nat)) ∧ w'.cell? ⟨ad2.block, ad2.off + 1, none⟩ = some (.int .u8 (bq : Nat))) (by kernel_rfl) rfl (by kernel_rfl) (fun _ _ _ _ h => h) ⟨hy0, hy1⟩ ?_
            iterate 18 (first
              | (refine in_off0 (by rfl) ?_; simp only [Act.put, stA, stZ, stS, i64_w, i32_w])
              | (refine in_off1 (by rfl) ?_; simp only [Act.put, stA, stZ, stS, i64_w, i32_w])
              | (refine in_0 (v := ?_) (by rfl) rfl ?_ (a' := ?_) ?_ ?_; rotate_left; (intro w'; go_simp; with_reducible rfl); rotate_left; (simp only [Act.put, stA, stZ, stS, i64_w, i32_w]; rfl))
              | (refine in_1 (v := ?_) (by rfl) rfl ?_ (a' := ?_) ?_ ?_; rotate_left; (rintro w' hs; go_split_ands; go_simp; with_reducible rfl); rotate_left; (simp only [Act.put, stA, stZ, stS, i64_w, i32_w]; rfl)))
            refine in_nil ?_
            clear hw0 hw1 hw2 hw3
            go_upto_region 9 with fail
            obtain ⟨hw0, hw1, hw2, hw3⟩ := HW.out
            refine wp_region_in [0, 0, 1, 0, 0, 0, 0, 1, 0, 0, 0, 0, 1, 0, 0, 0, 0] [] (fun w' => w'.cell? ad2 = some (.int .u8 (a : Nat)) ∧ w'.cell? ⟨ad2.block, ad2.off + 1, none⟩ = some (.int .u8 (bq : Nat))) (by kernel_rfl) rfl (by kernel_rfl) (fun _ _ _ _ h => h) ⟨hy0, hy1⟩ ?_
            iterate 17 (first
              | (refine in_off0 (by rfl) ?_; simp only [Act.put, stA, stZ, stS, i64_w, i32_w])
              | (refine in_off1 (by rfl) ?_; simp only [Act.put, stA, stZ, stS, i64_w, i32_w])
              | (refine in_0 (v := ?_) (by rfl) rfl ?_ (a' := ?_) ?_ ?_; rotate_left; (intro w'; go_simp; with_reducible rfl); rotate_left; (simp only [Act.put, stA, stZ, stS, i64_w, i32_w]; rfl))
              | (refine in_1 (v := ?_) (by rfl) rfl ?_ (a' := ?_) ?_ ?_; rotate_left; (rintro w' hs; go_split_ands; go_simp; with_reducible rfl); rotate_left; (simp only [Act.put, stA, stZ, stS, i64_w, i32_w]; rfl)))
            refine in_nil ?_
            clear hw0 hw1 hw2 hw3
            go_upto_region 10 with fail
            have hna := HNA.out.1
            have hnb := HNA.out.2
            obtain ⟨vl, hvl⟩ : ∃ vl, (r.drop na).take bq = vl := ⟨_, rfl⟩
            have hvll : vl.length = bq := by rw [← hvl]; simp; omega
            have hvlb : allB vl := by rw [← hvl]; exact allB_take (allB_drop HU.out.bytes _) _
            have hpart := C_int_part HR.out 2 a (by omega)
            have hpart2 := C_int_part HR.out na bq (by omega)
            rw [hvl] at hpart2
            have HS := Aside0.mk (show ∀ w' : World, Below wr.heap.size wr w' → ((convert 23 9 (.slice (some ⟨ad2.block, ad2.off + 2, none⟩) a (cc - 2))).run Tryz.prog w' = .ok (.string (strOfNums ((r.drop 2).take a))) w' ∧ Below wr.heap.size wr w') from fun w' hb =>
              ⟨Kd.C_string rfl rfl rfl (Kd.C_below (Kd.C_below hpart HU.out.below) hb), hb⟩)
            have HCL := Aside0.mk (show ∀ W : World, Below wr.heap.size wr W → Calls Tryz.prog 42 #[.slice (some (ad2.add na)) bq (cc - na)] W fun e w' => ∃ v, e = .returned v ∧ Own w' W.heap.size 5 .u8 v vl ∧ Below W.heap.size W w' from fun W hb => by
              have := clone_calls (ad2.add na) (cc - na) vl W (by rw [hvll]; exact Kd.C_below (Kd.C_below hpart2 HU.out.below) hb) (by omega)
              rw [hvll] at this
              exact this)
            have hcc2 : cc ≠ 2 := by omega
            have hcut1 : ∀ W : World, (Instr.slice 23 (.slice (some ad2) r.length cc) (some (.int .i64 2)) (some (.int .i64 (na : Int))) none).run Tryz.prog W = .ok (.slice (some ⟨ad2.block, ad2.off + 2, none⟩) a (cc - 2)) W := by
              intro W
              obtain ⟨j0, hj, hj0, hj1, hj2⟩ := info_parts infoU8
              have := cut_mid (P := Tryz.prog) 23 5 .i64 .i64 (i := j0) rfl hj 1 hj1 (some ad2) r.length cc 2 (na : Int) (by omega) (by omega) (by omega) (by omega) W
              rw [this, if_neg (show ¬ cc = (2 : Int).toNat from hcc2)]
              have e : ((na : Nat) : Int).toNat - (2 : Int).toNat = a := by omega
              rw [e]
              rfl
            have hcut2 : ∀ W : World, (Instr.slice 23 (.slice (some ad2) r.length cc) (some (.int .i64 (na : Int))) (some (.int .i64 (nb : Int))) none).run Tryz.prog W = .ok (.slice (some (ad2.add na)) bq (cc - na)) W := by
              intro W
              obtain ⟨j0, hj, hj0, hj1, hj2⟩ := info_parts infoU8
              have := cut_mid (P := Tryz.prog) 23 5 .i64 .i64 (i := j0) rfl hj 1 hj1 (some ad2) r.length cc (na : Int) (nb : Int) (by omega) (by omega) (by omega) (by omega) W
              have e0 : ((na : Nat) : Int).toNat = na := by omega
              have e : ((nb : Nat) : Int).toNat - na = bq := by omega
              rw [e0] at this
              rw [this, if_neg (show ¬ cc = na by omega), e, Nat.mul_one]
              rfl
            have HVL := Aside0.mk (And.intro hvl (And.intro hvll hvlb))
            clear hvl hvll hvlb hpart hpart2 hna hnb
            refine wp_region_in [0, 0, 0, 0, 1, 0, 0, 0, 0, 2, 0, 2, 3, 0] [12] (fun w' => (convert 23 9 (.slice (some ⟨ad2.block, ad2.off + 2, none⟩) a (cc - 2))).run Tryz.prog w' = .ok (.string (strOfNums ((r.drop 2).take a))) w' ∧ Below wr.heap.size wr w') (by kernel_rfl) rfl (by kernel_rfl) (fun _ _ _ _ h => h) (HS.out _ (Below.refl _ _).drew.drew.drew) ?_
            iterate 9 (first
              | (refine in_off0 (by rfl) ?_; simp only [Act.put, stA, stZ, stS, i64_w, i32_w])
              | (refine in_off1 (by rfl) ?_; simp only [Act.put, stA, stZ, stS, i64_w, i32_w])
              | (refine in_0 (v := ?_) (by rfl) rfl ?_ (a' := ?_) ?_ ?_; rotate_left; (intro w'; go_simp; with_reducible rfl); rotate_left; (simp only [Act.put, stA, stZ, stS, i64_w, i32_w]; rfl))
              | (refine in_1 (v := ?_) (by rfl) rfl ?_ (a' := ?_) ?_ ?_; rotate_left; (rintro w' hs; go_split_ands; go_simp; with_reducible rfl); rotate_left; (simp only [Act.put, stA, stZ, stS, i64_w, i32_w]; rfl)))
            refine in_2 (by rfl) (fun K hK => ?_)
            go_simp
            have hbd : Below wr.heap.size wr wr.drew.drew.drew := (Below.refl _ _).drew.drew.drew
            refine (HCL.out _ hbd).mono ?_
            rintro e w9 ⟨v9, rfl, ho9, hb9⟩
            obtain ⟨A9, c9, rfl, hc9, _⟩ := ho9.reads
            have hb9' : Below wr.heap.size wr w9 := below_then hbd (Nat.le_refl _) hb9
            dsimp only
            refine hK _ _ (HS.out _ hb9') ?_
            clear hK K
            try simp only [Act.put, stA, stZ, stS, i64_w, i32_w]
            iterate 1 (first
              | (refine in_off0 (by rfl) ?_; simp only [Act.put, stA, stZ, stS, i64_w, i32_w])
              | (refine in_off1 (by rfl) ?_; simp only [Act.put, stA, stZ, stS, i64_w, i32_w])
              | (refine in_0 (v := ?_) (by rfl) rfl ?_ (a' := ?_) ?_ ?_; rotate_left; (intro w'; go_simp; with_reducible rfl); rotate_left; (simp only [Act.put, stA, stZ, stS, i64_w, i32_w]; rfl))
              | (refine in_1 (v := ?_) (by rfl) rfl ?_ (a' := ?_) ?_ ?_; rotate_left; (rintro w' hs; go_split_ands; go_simp; with_reducible rfl); rotate_left; (simp only [Act.put, stA, stZ, stS, i64_w, i32_w]; rfl)))
            refine in_2 (by rfl) (fun K hK => ?_)
            go_simp
            have hb10 : Below wr.heap.size wr (w9.alloc (.cells #[.string (strOfNums ((r.drop 2).take a)), .slice A9 vl.length c9] 72)) := below_alloc hb9' _
            refine hK _ _ (HS.out _ hb10) ?_
            clear hK K
            try simp only [Act.put, stA, stZ, stS, i64_w, i32_w]
            refine in_3 (by rfl) (fun K hK => ?_)
            obtain ⟨e0, he, hz0, hz1, hz2⟩ := info_parts infoAtt
            obtain ⟨vs, hvs1, hvs2, hvs3⟩ := HU.out.own
            have hba := below_alloc (Below.refl w9.heap.size w9) (.cells #[.string (strOfNums ((r.drop 2).take a)), .slice A9 vl.length c9] 72)
            have hown := pw_own_below hvs2 hb10
            have hbw := below_then HU.out.below HU.out.below.size hb10
            have hcnt := HU.out.cnt
            refine wp_append_own _ (.tmp 55) (.tmp 66) 29 rfl w.heap.size 72 e0 (.agg #[.string ⟨#[]⟩, .slice none 0 0]) 2 40 Tryz.underlying29 he hz0 hz1 hz2 rfl (by decide) u6 out.length (acells out vs) rfl hown ⟨w9.heap.size, 0, none⟩ 1 1 [.string (strOfNums ((r.drop 2).take a)), .slice A9 vl.length c9] rfl rfl ?c1 ?c2 (by simp only [maxLen]; omega) (by omega) hbw.size ?_
            case c1 =>
              intro j u hj
              rw [add_plain]
              exact cell_alloc w9 _ _ j u (by simpa using hj)
            case c2 => simp [Value.oneCell']
            intro v' w' h2 h3 _
            have hown2 : OwnA w' w.heap.size v' (out ++ [xattI r]) := ownA_snoc (x := xattI r) hvs1 hown (fun j hj => ⟨(hvs3 j hj).1.below hb10, (hvs3 j hj).2⟩)
              (by
                have e : (xattI r).val = vl := by
                  unfold xattI
                  dsimp only
                  rw [HAB.out.1, HAB.out.2, Int.toNat_natCast, Int.toNat_natCast, HNA.out.1, HVL.out.1]
                rw [e]
                exact own_any (ho9.below hba) (fun g' hg' => Nat.le_trans HU.out.below.size (own_base ho9 g' hg')))
              (by
                have e : (xattI r).val = vl := by
                  unfold xattI
                  dsimp only
                  rw [HAB.out.1, HAB.out.2, Int.toNat_natCast, Int.toNat_natCast, HNA.out.1, HVL.out.1]
                rw [e]
                exact HVL.out.2.2) h3 (by
                have e : (xattI r).name = strOfNums ((r.drop 2).take a) := by
                  unfold xattI
                  dsimp only
                  rw [HAB.out.1, Int.toNat_natCast]
                rw [e]
                exact h2)
            have hbl2 := pw_below_grown hbw _ hbw.size h3 (own_base hown)
            have HO2 := Aside0.mk hown2
            have HB2 := Aside0.mk hbl2
            refine hK _ _ ?_
            clear hK K h2 h3 hown2 hbl2 hown hbw hb10 hb9 hb9' hbd hba ho9 hvs1 hvs2 hvs3 hc9
            try simp only [Act.put, stA, stZ, stS, i64_w, i32_w]
            refine out_0 (v := ?_) (by rfl) rfl ?_ (a' := ?_) ?_ ?_
            rotate_left
            · intro w'
              go_simp
              with_reducible rfl
            rotate_left
            · simp only [Act.put, stA, stZ, stS, i64_w, i32_w]
              rfl
            refine out_nil ?_
            have hcut3 : ∀ W : World, (Instr.slice 23 (.slice (some ad2) r.length cc) (some (.int .i64 (nb : Int))) none none).run Tryz.prog W = .ok (.slice (some (ad2.add nb)) (r.drop nb).length (cc - nb)) W := by
              intro W
              obtain ⟨j0, hj, hj0, hj1, hj2⟩ := info_parts infoU8
              have := cut_from (P := Tryz.prog) 23 5 .i64 (i := j0) rfl hj 1 hj1 (some ad2) r.length cc (nb : Int) (by omega) (by omega) W
              have e : ((nb : Nat) : Int).toNat = nb := by omega
              rw [e] at this
              rw [this, if_neg (by omega), Nat.mul_one, List.length_drop]
              rfl
            clear hcut1 hcut2 hcnt
            go_wp2
            go_roundg g
            case measure => omega
            case rel =>
              have hp := C_int_part HR.out nb (r.drop nb).length (by rw [List.length_drop]; omega)
              rw [List.take_of_length_le (Nat.le_refl _)] at hp
              have hq4 : ¬ ((r.length : Int) < 2 ∨ (r.length : Int) < 2 + r.getD 0 0 + r.getD 1 0) := by rw [HAB.out.1, HAB.out.2]; have := HNA.out; omega
              have hnb' : 2 + a + bq = nb := by have := HNA.out; omega
              exact ⟨k + 1, r.drop nb, out ++ [xattI r], cc - nb, by omega, by go_num, ⟨⟨HO2.out, by rw [List.length_append, HU.out.cnt]; rfl, HB2.out, ⟨ad2.add nb, by rw [List.length_drop], by rw [List.length_drop]; omega, by rw [List.length_drop]; omega, hp⟩, allB_drop HU.out.bytes _, HU.out.eq.trans (by
                show xreadI (g + 1) r out = _
                rw [xreadI, if_neg hq4, HAB.out.1, HAB.out.2, Int.toNat_natCast, Int.toNat_natCast, hnb'])⟩⟩⟩
  · go_enter Tryz.func13, Tryz.ntmps13
    have hub : xunpI l s = ([], 117) := by unfold xunpI; rw [if_pos h256]
    go_wp2
    go_ret2
    exact xunpPost_bad hub rfl (Below.refl _ _)
def goodV (w : World) (x : Att) (u : Value) : Prop := ∃ Av cv, u = .slice Av x.val.length cv ∧ x.val.length ≤ cv ∧ Kd.C (Kd.int .u8) w Av x.val.length x.val ∧ (Av = none → cv = 0)
theorem goodV.below {w w1 : World} {x : Att} {u : Value} (h : goodV w x u) (hb : Below w.heap.size w w1) : goodV w1 x u := by
  obtain ⟨Av, cv, h1, h2, h3, h4⟩ := h
  exact ⟨Av, cv, h1, h2, Kd.C_below h3 hb, h4⟩
theorem shared_reads {w w1 : World} {base : Nat} {v : Value} {l : List Att} {vs : List Value} (h1 : vs.length = l.length) (h2 : w1.ownsRow base 72 2 v l.length (acells l vs)) (h3 : ∀ j, j < l.length → goodV w (attAt l j) (vs.getD j undef)) (hb : Below w.heap.size w w1) (hs : l.length ≤ 1125899906842624) : ∃ A c, v = .slice A l.length c ∧ l.length ≤ c ∧ Atts w1 A l := by
  obtain ⟨A, c, rfl, hc, _, hA, hcell⟩ := own_shape h2
  refine ⟨A, c, rfl, hc, hs, fun j hj => ?_⟩
  obtain ⟨ad, rfl⟩ := hA (by omega)
  obtain ⟨q1, q2⟩ := acells_at l vs j hj h1
  obtain ⟨Av, cv, ev, hcv, hC, hno⟩ := (h3 j hj).below hb
  refine ⟨ad, Av, cv, rfl, hcell ad rfl _ _ q1, ?_, hcv, hC, hno⟩
  have := hcell ad rfl _ _ q2
  rw [add_next ad (j * 2) 1 (by omega), ev] at this
  exact this
def MinePost (l : List Att) (w : World) (e : Ending) (w' : World) : Prop := ∃ A c, e = .returned (.slice A l.length c) ∧ l.length ≤ c ∧ Atts w' A l ∧ Below w.heap.size w w'
set_option maxHeartbeats 4000000 in
set_option maxRecDepth 100000 in
theorem xmine_calls (A : Option Addr) (c : Nat) (l : List Att) (w : World) (hl : Atts w A l) (hc : l.length ≤ c) (hn : l.length ≤ 2000000) :
    Calls Tryz.prog 11 #[.slice A l.length c] w (MinePost l w) := by
  have HL := Aside0.mk hl
  obtain ⟨n, hnn⟩ : ∃ n, l.length = n := ⟨_, rfl⟩
  have HN := Aside0.mk hnn
  rw [hnn] at hn hc ⊢
  have HB0 := Aside0.mk (Below.refl w.heap.size w)
  have HO0 := Aside0.mk (own_nil w w.heap.size 72 2)
  clear hl hnn
  go_enter Tryz.func11, Tryz.ntmps11
  go_wp2
  go_loopg [3, 4] n (fun g v3 v4 wr => ∃ (k : Nat) (vs : List Value), k + g = n ∧ v4 = .int .i64 k ∧ vs.length = k ∧ Aside0 (wr.ownsRow w.heap.size 72 2 v3 k (acells (l.take k) vs)) ∧ Aside0 (Below w.heap.size w wr) ∧ Aside0 (∀ j, j < k → goodV w (attAt l j) (vs.getD j undef)))
  case atStart => exact ⟨0, [], by omega, rfl, rfl, HO0, HB0, ⟨fun j hj => by omega⟩⟩
  case round =>
    obtain ⟨k, vs, hk, rfl, hvs, HO, HB, HG⟩ := hrel
    cases gk with
    | zero =>
      have hkn : k = n := by omega
      subst hkn
      have htk : l.take k = l := by rw [← HN.out, List.take_length]
      rw [htk] at HO
      have hres := shared_reads (w := w) (vs := vs) (l := l) (by rw [hvs, HN.out]) (by rw [HN.out]; exact HO.out) (fun j hj => HG.out j (by rw [← HN.out]; exact hj)) HB.out HL.out.size
      obtain ⟨A', c', rfl, hc', hA'⟩ := hres
      have HR := Aside0.mk (And.intro hc' hA')
      clear htk hc' hA' hvs
      go_wp2
      go_ret
      exact ⟨A', c', rfl, HR.out.1, HR.out.2, HB.out⟩
    | succ g =>
      have hkn : k < n := by omega
      obtain ⟨ad, Av, cv, rfl, h1, h2, h3, h4, h5⟩ := HL.out.cells k (by rw [HN.out]; exact hkn)
      replace h1 := pw_cell_below HB.out h1
      replace h2 := pw_cell_below HB.out h2
      have HGK := Aside0.mk (show goodV w (attAt l k) (.slice Av (attAt l k).val.length cv) from ⟨Av, cv, rfl, h3, h4, h5⟩)
      have hsn : l.take (k + 1) = l.take k ++ [attAt l k] := by
        unfold attAt
        rw [List.take_succ_eq_append_getElem (by rw [HN.out]; exact hkn)]
        simp [List.getD_eq_getElem?_getD, show k < l.length by rw [HN.out]; exact hkn]
      have htl : (l.take k).length = k := by rw [List.length_take, HN.out]; omega
      obtain ⟨x, hx⟩ : ∃ x, attAt l k = x := ⟨_, rfl⟩
      rw [hx] at h1 h2 HGK hsn
      obtain ⟨nm, vl⟩ := x
      dsimp only at h1 h2
      obtain ⟨m, hm⟩ : ∃ m, vl.length = m := ⟨_, rfl⟩
      rw [hm] at h2
      have HX := Aside0.mk (And.intro hx (And.intro hsn (And.intro htl hm)))
      have i1 : (k : Int) < (n : Int) := by omega
      have HVS := Aside0.mk hvs
      clear h3 h4 h5 hx hsn htl hm hvs
      go_upto_region 5 with fail
      have hbd : Below wr.heap.size wr wr.drew := (Below.refl _ _).drew
      refine wp_region_in [0, 0, 0, 0, 0, 1, 0, 0, 0, 0, 1, 0, 2, 3, 0] [13] (fun w' => w'.cell? (ad.add (k * 2)) = some (.string nm) ∧ w'.cell? ⟨(ad.add (k * 2)).block, (ad.add (k * 2)).off + 1, none⟩ = some (.slice Av m cv)) (by kernel_rfl) rfl (by kernel_rfl) (fun _ _ _ _ h => h) ⟨pw_cell_below hbd h1, pw_cell_below hbd h2⟩ ?_
      iterate 12 (first
        | (refine in_off0 (by rfl) ?_; simp only [Act.put, stA, stZ, stS, i64_w, i32_w])
        | (refine in_off1 (by rfl) ?_; simp only [Act.put, stA, stZ, stS, i64_w, i32_w])
        | (refine in_0 (v := ?_) (by rfl) rfl ?_ (a' := ?_) ?_ ?_; rotate_left; (intro w'; go_simp; with_reducible rfl); rotate_left; (simp only [Act.put, stA, stZ, stS, i64_w, i32_w]; rfl))
        | (refine in_1 (v := ?_) (by rfl) rfl ?_ (a' := ?_) ?_ ?_; rotate_left; (rintro w' hs; go_split_ands; go_simp; with_reducible rfl); rotate_left; (simp only [Act.put, stA, stZ, stS, i64_w, i32_w]; rfl)))
      refine in_2 (by rfl) (fun K hK => ?_)
      go_simp
      have hb10 : Below wr.heap.size wr (wr.drew.alloc (.cells #[.string nm, .slice Av m cv] 72)) := below_alloc hbd _
      refine hK _ _ ⟨pw_cell_below hb10 h1, pw_cell_below hb10 h2⟩ ?_
      clear hK K
      try simp only [Act.put, stA, stZ, stS, i64_w, i32_w]
      refine in_3 (by rfl) (fun K hK => ?_)
      obtain ⟨e0, he, hz0, hz1, hz2⟩ := info_parts infoAtt
      have hown := pw_own_below HO.out hb10
      have hbw := below_then HB.out HB.out.size hb10
      refine wp_append_own _ (.tmp 11) (.tmp 23) 29 rfl w.heap.size 72 e0 (.agg #[.string ⟨#[]⟩, .slice none 0 0]) 2 40 Tryz.underlying29 he hz0 hz1 hz2 rfl (by decide) u3 k (acells (l.take k) vs) rfl hown ⟨wr.drew.heap.size, 0, none⟩ 1 1 [.string nm, .slice Av m cv] rfl rfl ?c1 ?c2 (by simp only [maxLen]; omega) (by omega) hbw.size ?_
      case c1 =>
        intro j u hj
        rw [add_plain]
        exact cell_alloc wr.drew _ _ j u (by simpa using hj)
      case c2 => simp [Value.oneCell']
      intro v' w' h2' h3' _
      have HO2 := Aside0.mk (show w'.ownsRow w.heap.size 72 2 v' (k + 1) (acells (l.take (k + 1)) (vs ++ [.slice Av m cv])) by
        rw [HX.out.2.1, acells_snoc _ _ _ _ (by rw [HVS.out, HX.out.2.2.1])]
        exact h2')
      have HB2 := Aside0.mk (pw_below_grown hbw _ hbw.size h3' (own_base hown))
      refine hK _ _ ?_
      clear hK K h2' h3' hown hbw hb10 hbd
      try simp only [Act.put, stA, stZ, stS, i64_w, i32_w]
      refine out_0 (v := ?_) (by rfl) rfl ?_ (a' := ?_) ?_ ?_
      rotate_left
      · intro w'
        go_simp
        with_reducible rfl
      rotate_left
      · simp only [Act.put, stA, stZ, stS, i64_w, i32_w]
        rfl
      refine out_nil ?_
      go_wp2
      go_roundg g
      case measure => omega
      case rel =>
        refine ⟨k + 1, vs ++ [.slice Av m cv], by omega, by go_num, by rw [List.length_append, HVS.out]; rfl, HO2, HB2, ⟨fun j hj => ?_⟩⟩
        by_cases hj2 : j < k
        · have e1 : (vs ++ [Value.slice Av m cv]).getD j undef = vs.getD j undef := by simp [List.getD_eq_getElem?_getD, List.getElem?_append_left (show j < vs.length by rw [HVS.out]; exact hj2)]
          rw [e1]
          exact HG.out j hj2
        · obtain rfl : j = k := by omega
          have e1 : (vs ++ [Value.slice Av m cv]).getD j undef = .slice Av m cv := by rw [← HVS.out]; simp [List.getD_eq_getElem?_getD]
          rw [e1, HX.out.1]
          have := HGK.out
          rw [HX.out.2.2.2] at this
          exact this
theorem take_succ_ne {l m : List Int} (k : Nat) (h1 : k < l.length) (h2 : k < m.length) (h : l.getD k 0 ≠ m.getD k 0) : (l == m) = false := by
  rw [beq_eq_false_iff_ne]
  rintro rfl
  exact h rfl
theorem take_succ_eq {l m : List Int} (k : Nat) (h1 : k < l.length) (h2 : k < m.length) (ht : l.take k = m.take k) (h : l.getD k 0 = m.getD k 0) : l.take (k + 1) = m.take (k + 1) := by
  rw [List.take_succ_eq_append_getElem h1, List.take_succ_eq_append_getElem h2, ht]
  have : l[k] = m[k] := by simpa [List.getD_eq_getElem?_getD, h1, h2] using h
  rw [this]
set_option maxHeartbeats 1000000 in
set_option maxRecDepth 100000 in
theorem same_calls (A B : Option Addr) (c d : Nat) (l m : List Int) (w : World) (hl : Kd.C (Kd.int .u8) w A l.length l) (hm : Kd.C (Kd.int .u8) w B m.length m) :
    Calls Tryz.prog 15 #[.slice A l.length c, .slice B m.length d] w fun e w' => e = .returned (.bool (l == m)) ∧ Below w.heap.size w w' := by
  have hll := (C_int_len hl).2
  have HL := Aside0.mk hl
  have HM := Aside0.mk hm
  clear hl hm
  obtain ⟨b, hb⟩ : ∃ b, (l == m) = b := ⟨_, rfl⟩
  rw [hb]
  by_cases hlen : l.length = m.length
  · have HBB := Aside0.mk hb
    have HLEN := Aside0.mk hlen
    rw [← hlen]
    clear hb hlen
    go_enter Tryz.func15, Tryz.ntmps15
    go_wp2
    go_loopg [5] l.length (fun g i wr => ∃ k : Nat, k + g = l.length ∧ i = .int .i64 k ∧ Aside0 (Below w.heap.size w wr) ∧ Aside0 (l.take k = m.take k))
    case atStart => exact ⟨0, by omega, rfl, ⟨Below.refl _ _⟩, ⟨rfl⟩⟩
    case round =>
      obtain ⟨k, hk, rfl, HB, HT⟩ := hrel
      cases gk with
      | zero =>
        obtain rfl : k = l.length := by omega
        go_wp2
        go_ret
        have : l = m := by
          have h := HT.out
          rw [List.take_length, List.take_of_length_le (by rw [HLEN.out]; exact Nat.le_refl _)] at h
          exact h
        exact ⟨by rw [← HBB.out, this]; simp, HB.out⟩
      | succ g =>
        have hkm : k < m.length := by have := HLEN.out; omega
        obtain ⟨ad, rfl, h1⟩ := C_int_at (Kd.C_below HL.out HB.out) k (by omega)
        obtain ⟨bd, rfl, h2⟩ := C_int_at (Kd.C_below HM.out HB.out) k hkm
        have hne := take_succ_ne (l := l) (m := m) k (by omega) hkm
        have heq := take_succ_eq (l := l) (m := m) k (by omega) hkm HT.out
        generalize l.getD k 0 = x at h1 hne heq
        generalize m.getD k 0 = y at h2 hne heq
        have i1 : (k : Int) < (l.length : Int) := by omega
        have i2 : k < l.length := by omega
        by_cases hxy : x = y
        · have HQ := Aside0.mk (heq hxy)
          subst hxy
          clear hne heq
          go_wp2
          go_quiet (fail)
          go_wp2
          go_roundg g
          case measure => omega
          case rel => exact ⟨k + 1, by omega, by go_num, ⟨pw_below_drewN HB.out _⟩, ⟨HQ.out⟩⟩
        · have hb0 := hne hxy
          rw [HBB.out] at hb0
          have hxy1 : (x != y) = true := by simpa using hxy
          subst hb0
          clear hne heq hxy
          go_wp2
          go_quiet (fail)
          go_wp2
          go_ret
          exact ⟨rfl, pw_below_drewN HB.out _⟩
  · have hb0 : b = false := by
      rw [← hb, beq_eq_false_iff_ne]
      rintro rfl
      exact hlen rfl
    have hl1 : ((l.length : Int) != (m.length : Int)) = true := by rw [bne_iff_ne]; omega
    subst hb0
    clear hb hlen
    go_enter Tryz.func15, Tryz.ntmps15
    go_wp2
    go_ret
    exact ⟨rfl, Below.refl _ _⟩
theorem attN_part (l : List Att) (j : Nat) : attN (l.take j) ≤ attN l := by
  unfold attN
  have e : l.flatMap attB = (l.take j).flatMap attB ++ (l.drop j).flatMap attB := by rw [← List.flatMap_append, List.take_append_drop]
  rw [e, List.length_append]
  omega
set_option maxHeartbeats 4000000 in
set_option maxRecDepth 100000 in
theorem sameAttrs_calls (A B : Option Addr) (c d : Nat) (l : List Att) (w : World) (hl : Atts w A l) (hm : Atts w B l) (hn : l.length ≤ 2000000) :
    Calls Tryz.prog 16 #[.slice A l.length c, .slice B l.length d] w fun e w' => e = .returned (.bool true) ∧ Below w.heap.size w w' := by
  have HL := Aside0.mk (And.intro hl hm)
  obtain ⟨n, hnn⟩ : ∃ n, l.length = n := ⟨_, rfl⟩
  have HN := Aside0.mk hnn
  rw [hnn] at hn ⊢
  have HB0 := Aside0.mk (Below.refl w.heap.size w)
  clear hl hm hnn
  go_enter Tryz.func16, Tryz.ntmps16
  go_wp2
  go_loopg [5] n (fun g v5 wr => ∃ k : Nat, k + g = n ∧ v5 = .int .i64 k ∧ Aside0 (Below w.heap.size w wr))
  case atStart => exact ⟨0, by omega, rfl, HB0⟩
  case round =>
    obtain ⟨k, hk, rfl, HB⟩ := hrel
    cases gk with
    | zero =>
      have hkn : k = n := by omega
      subst hkn
      go_wp2
      go_ret
      exact ⟨rfl, HB.out⟩
    | succ g =>
      have hkn : k < n := by omega
      obtain ⟨ad, Av, cv, rfl, h1, h2, h3, h4, h5⟩ := HL.out.1.cells k (by rw [HN.out]; exact hkn)
      obtain ⟨bd, Bv, dv, rfl, k1, k2, k3, k4, k5⟩ := HL.out.2.cells k (by rw [HN.out]; exact hkn)
      replace h1 := pw_cell_below HB.out h1
      replace h2 := pw_cell_below HB.out h2
      replace k1 := pw_cell_below HB.out k1
      replace k2 := pw_cell_below HB.out k2
      have hbd : Below wr.heap.size wr wr.drew := (Below.refl _ _).drew
      have hs := same_calls Av Bv cv dv (attAt l k).val (attAt l k).val wr.drew (Kd.C_below (Kd.C_below h4 HB.out) hbd) (Kd.C_below (Kd.C_below k4 HB.out) hbd)
      rw [beq_self_eq_true] at hs
      obtain ⟨x, hx⟩ : ∃ x, attAt l k = x := ⟨_, rfl⟩
      rw [hx] at h1 h2 k1 k2 hs
      obtain ⟨nm, vl⟩ := x
      dsimp only at h1 h2 k1 k2 hs
      obtain ⟨m, hm⟩ : ∃ m, vl.length = m := ⟨_, rfl⟩
      rw [hm] at h2 k2 hs
      have HS := Aside0.mk hs
      have HBD := Aside0.mk (below_then HB.out HB.out.size hbd)
      have i1 : (k : Int) < (n : Int) := by omega
      have hq : (nm.toList == nm.toList) = true := beq_self_eq_true _
      have hS := And.intro (pw_cell_below hbd h1) (And.intro (pw_cell_below hbd h2) (And.intro (pw_cell_below hbd k1) (pw_cell_below hbd k2)))
      clear h3 h4 h5 k3 k4 k5 hx hm hs hbd h1 h2 k1 k2
      go_upto_region 6 with fail
      refine wp_region_in [0, 0, 0, 0, 1, 0, 0, 0, 0, 1, 0, 0, 0, 0, 0, 0, 1, 0, 0, 0, 0, 1, 2, 0, 0] [] (fun w' => w'.cell? (ad.add (k * 2)) = some (.string nm) ∧ w'.cell? ⟨(ad.add (k * 2)).block, (ad.add (k * 2)).off + 1, none⟩ = some (.slice Av m cv) ∧ w'.cell? (bd.add (k * 2)) = some (.string nm) ∧ w'.cell? ⟨(bd.add (k * 2)).block, (bd.add (k * 2)).off + 1, none⟩ = some (.slice Bv m dv)) (by kernel_rfl) rfl (by kernel_rfl) (fun _ _ _ _ h => h) hS ?_
      iterate 22 (first
        | (refine in_off0 (by rfl) ?_; simp only [Act.put, stA, stZ, stS, i64_w, i32_w])
        | (refine in_off1 (by rfl) ?_; simp only [Act.put, stA, stZ, stS, i64_w, i32_w])
        | (refine in_0 (v := ?_) (by rfl) rfl ?_ (a' := ?_) ?_ ?_; rotate_left; (intro w'; go_simp; with_reducible rfl); rotate_left; (simp only [Act.put, stA, stZ, stS, i64_w, i32_w]; rfl))
        | (refine in_1 (v := ?_) (by rfl) rfl ?_ (a' := ?_) ?_ ?_; rotate_left; (rintro w' hs; go_split_ands; go_simp; with_reducible rfl); rotate_left; (simp only [Act.put, stA, stZ, stS, i64_w, i32_w]; rfl)))
      refine in_2 (by rfl) (fun K hK => ?_)
      go_simp
      with_reducible refine HS.out.mono ?_
      rintro e w5 ⟨rfl, hb5⟩
      have HB5 := Aside0.mk (below_then HBD.out HBD.out.size hb5)
      dsimp only
      refine hK _ _ ⟨pw_cell_below hb5 hS.1, pw_cell_below hb5 hS.2.1, pw_cell_below hb5 hS.2.2.1, pw_cell_below hb5 hS.2.2.2⟩ ?_
      clear hK K hb5
      try simp only [Act.put, stA, stZ, stS, i64_w, i32_w]
      iterate 2 (first
        | (refine in_off0 (by rfl) ?_; simp only [Act.put, stA, stZ, stS, i64_w, i32_w])
        | (refine in_off1 (by rfl) ?_; simp only [Act.put, stA, stZ, stS, i64_w, i32_w])
        | (refine in_0 (v := ?_) (by rfl) rfl ?_ (a' := ?_) ?_ ?_; rotate_left; (intro w'; go_simp; with_reducible rfl); rotate_left; (simp only [Act.put, stA, stZ, stS, i64_w, i32_w]; rfl))
        | (refine in_1 (v := ?_) (by rfl) rfl ?_ (a' := ?_) ?_ ?_; rotate_left; (rintro w' hs; go_split_ands; go_simp; with_reducible rfl); rotate_left; (simp only [Act.put, stA, stZ, stS, i64_w, i32_w]; rfl)))
      refine in_nil ?_
      go_wp2
      go_roundg g
      case measure => omega
      case rel => exact ⟨k + 1, by omega, by go_num, HB5⟩
end Go.Proofs.YtkmhilhfmfmckaaGreatDoor.Hand
