/- Package name: a block of entries is read as the plain functions say, for every row of bytes. -/
import Derived.Test.YtjggkaieagbjmaaUnp0
namespace Go.Proofs.Ytjggkaieagbjmaa.Hand
set_option linter.unusedVariables false
set_option linter.unusedSimpArgs false
open Go.Shelf Go.RowKit Go.Proofs.YtjggkaieagbjmaaW.PrintWords Go.Proofs.YtjggkaieagbjmaaW.PrintLast Go.Proofs.YtjggkaieagbjmaaW.PrintMore

/-- What UnpackLeaf's call leaves. -/
def UnpPost (l : List Int) (s : Int) (w : World) (e : Ending) (w' : World) : Prop :=
  ∃ v, e = .returned (.tuple #[v, .int .i64 (unpackI l s).2]) ∧ OwnE w' w.heap.size v (unpackI l s).1 ∧ Below w.heap.size w w'
theorem unpPost_bad {l : List Int} {s : Int} {w w' : World} {e : Ending} (hp : unpackI l s = ([], 117)) (he : e = .returned (.tuple #[.slice none 0 0, .int .i64 117])) (hb : Below w.heap.size w w') : UnpPost l s w e w' :=
  ⟨.slice none 0 0, by rw [hp]; exact he, by rw [hp]; exact own_nil _ _ _ _, hb⟩
/-- Where the rounds stand. -/
structure Unp (w wr : World) (m k g : Nat) (full r : List Int) (v vr : Value) (out : List Ent) (cc : Nat) : Prop where
  own : OwnE wr w.heap.size v out
  cnt : out.length = k
  below : Below w.heap.size w wr
  rest : ∃ ad, vr = .slice (some ad) r.length cc ∧ r.length < cc ∧ r.length ≤ 250 ∧ Kd.C (Kd.int .u8) w (some ad) r.length r
  bytes : allB r
  eq : readI m full [] = readI g r out

set_option maxHeartbeats 16000000 in
set_option maxRecDepth 100000 in
theorem unpack_calls (A : Option Addr) (c : Nat) (s : Int) (l : List Int) (w : World) (hl : Kd.C (Kd.int .u8) w A l.length l) (hc : l.length ≤ c) (hs0 : 0 ≤ s) (hs1 : s < 4294967296) (hb : allB l) :
    Calls Try.prog 19 #[.slice A l.length c, .int .u32 s] w (UnpPost l s w) := by
  by_cases h256 : l.length = 256
  · have HL := Aside0.mk hl
    have hub : unpackI l s = match readI (l.getD 1 0).toNat ((l.drop 2).take 250) [] with | none => ([], 117) | some out => if (packI out s).2 = 0 ∧ (packI out s).1 = l then (out, 0) else ([], 117) := by unfold unpackI; rw [if_neg (fun h => h h256)]; rfl
    obtain ⟨ad, rfl, hx1⟩ := C_int_at hl 1 (by omega)
    obtain ⟨hm0, hm1⟩ := allB_get hb 1
    have HB := Aside0.mk hb
    obtain ⟨m, hm⟩ : ∃ m : Nat, l.getD 1 0 = m := ⟨(l.getD 1 0).toNat, by omega⟩
    have hp2 : Kd.C (Kd.int .u8) w (some ⟨ad.block, ad.off + 2, none⟩) 250 ((l.drop 2).take 250) := C_int_part hl 2 250 (by omega)
    have hfb : allB ((l.drop 2).take 250) := allB_take (allB_drop hb 2) 250
    have hfl : ((l.drop 2).take 250).length = 250 := by simp; omega
    generalize (l.drop 2).take 250 = full at hp2 hfb hfl hub
    have HFB := Aside0.mk hfb
    rw [hm] at hx1 hm1
    replace hx1 : w.cell? ⟨ad.block, ad.off + 1, none⟩ = some (.int .u8 m) := hx1
    have HM := Aside0.mk hm
    have hmm : (l.getD 1 0).toNat = m := by rw [hm]; exact Int.toNat_natCast m
    rw [hmm] at hub
    have HBAD := Aside0.mk (fun (h : readI m full [] = none) => show unpackI l s = ([], 117) by rw [hub, h])
    have HGOOD := Aside0.mk (fun out (h : readI m full [] = some out) => show unpackI l s = if (packI out s).2 = 0 ∧ (packI out s).1 = l then (out, 0) else ([], 117) by rw [hub, h])
    have HFL := Aside0.mk hfl
    have HP2 := Aside0.mk hp2
    have HL2 := Aside0.mk h256
    rw [h256] at hc ⊢
    clear hl hub hb hm hm0 hp2 h256 hfb hfl hmm
    have hc2 : c ≠ 2 := by omega
    go_enter Try.func19, Try.ntmps19
    go_wp2
    go_loopg [6, 7, 19] m (fun g v vr i wr => ∃ (k : Nat) (r : List Int) (out : List Ent) (cc : Nat), k + g = m ∧ i = .int .u8 k ∧ Aside0 (Unp w wr m k g full r v vr out cc))
    case atStart => exact ⟨0, full, [], c - 2, by omega, rfl, ⟨⟨own_nil _ _ _ _, rfl, Below.refl _ _, ⟨⟨ad.block, ad.off + 2, none⟩, by rw [HFL.out], by rw [HFL.out]; omega, by rw [HFL.out]; omega, by rw [HFL.out]; exact HP2.out⟩, HFB.out, rfl⟩⟩⟩
    case round =>
      obtain ⟨k, r, out, cc, hk, rfl, HU⟩ := hrel
      obtain ⟨ad2, rfl, hcc, h250, hr⟩ := HU.out.rest
      have HR := Aside0.mk hr
      have HB1 := fun j => allB_get HU.out.bytes j
      clear hr
      cases gk with
      | zero =>
        obtain rfl : k = m := by omega
        have hg := HGOOD.out out HU.out.eq
        obtain ⟨A', c', rfl, hc', hE⟩ := HU.out.own.reads (by rw [HU.out.cnt]; omega)
        have HE := Aside0.mk hE
        have HG := Aside0.mk hg
        clear hE hg
        have hC := HU.out.cnt
        have hlen := HL2.out
        obtain ⟨p, hp⟩ : ∃ p, packI out s = p := ⟨_, rfl⟩
        have hpk := pack_calls A' c' s out _ HE.out hc' hs0 hs1
        unfold PackPost at hpk
        have hap := allB_pack out s
        rw [hp] at hpk hap HG
        have HAP := Aside0.mk hap
        obtain ⟨p1, p2⟩ := p
        dsimp only at hpk HG HAP
        have HPK := Aside0.mk hpk
        clear hpk hap hp hC hlen HB1
        by_cases hp0 : p2 = 0
        · subst hp0
          go_wp2_with (first
            | (go_at_call 16; refine HPK.out.mono ?_; rintro e w1 ⟨v1, rfl, hR1, hb1⟩; obtain ⟨A1, c1, rfl, hc1, hC1⟩ := (Own.of_R hR1).reads; have HC1 := Aside0.mk hC1; have HB1 := Aside0.mk (below_then HU.out.below HU.out.below.size hb1); have HO1 := Aside0.mk (HU.out.own.below hb1); have heq := equal_calls (some ad) A1 c c1 l p1 w1 (Kd.C_below HL.out HB1.out) hC1; rw [HL2.out, strOf_eq HB.out HAP.out] at heq; have HEQ := Aside0.mk heq; clear heq hC1 hR1 hb1)
            | (go_at_call 40; refine HEQ.out.mono ?_; rintro e w2 ⟨rfl, rfl⟩; obtain ⟨b, hb⟩ : ∃ b, (l == p1) = b := ⟨_, rfl⟩; rw [hb]; have HBB := Aside0.mk hb; clear hb; cases b))
          · go_ret2
            have hne : ¬ (p1 = l) := by rintro rfl; have := HBB.out; simp at this
            exact unpPost_bad (by rw [HG.out]; exact if_neg (fun h => hne h.2)) rfl HB1.out
          · go_ret2
            have he : p1 = l := by have := HBB.out; simp at this; exact this.symm
            have hg : unpackI l s = (out, 0) := by rw [HG.out]; exact if_pos ⟨trivial, he⟩
            exact ⟨.slice A' out.length c', by rw [hg]; rfl, by rw [hg]; exact HO1.out, HB1.out⟩
        · go_wp2_with (first
            | (go_at_call 16; refine HPK.out.mono ?_; rintro e w1 ⟨v1, rfl, hR1, hb1⟩; have HB1 := Aside0.mk (below_then HU.out.below HU.out.below.size hb1); clear hR1 hb1))
          go_ret2
          exact unpPost_bad (by rw [HG.out]; exact if_neg (fun h => hp0 h.1)) rfl HB1.out
      | succ g =>
        by_cases h4 : r.length < 4
        · go_wp2
          go_ret2
          exact unpPost_bad (HBAD.out (HU.out.eq.trans (by rw [readI, if_pos (by omega)]))) rfl HU.out.below
        · obtain ⟨ad', e, hy0⟩ := C_int_at HR.out 0 (by omega)
          cases e
          obtain ⟨ad', e, hy1⟩ := C_int_at HR.out 1 (by omega)
          cases e
          obtain ⟨ad', e, hy2⟩ := C_int_at HR.out 2 (by omega)
          cases e
          obtain ⟨ad', e, hy3⟩ := C_int_at HR.out 3 (by omega)
          cases e
          replace hy0 := pw_cell_below HU.out.below hy0
          replace hy1 : wr.cell? ⟨ad2.block, ad2.off + 1, none⟩ = _ := pw_cell_below HU.out.below hy1
          replace hy2 : wr.cell? ⟨ad2.block, ad2.off + 2, none⟩ = _ := pw_cell_below HU.out.below hy2
          replace hy3 : wr.cell? ⟨ad2.block, ad2.off + 3, none⟩ = _ := pw_cell_below HU.out.below hy3
          rw [show ad2.add 0 = ad2 from rfl] at hy0
          have r0 := HB1 0
          have r1 := HB1 1
          have r2 := HB1 2
          obtain ⟨q, hq⟩ : ∃ q : Nat, r.getD 3 0 = q := ⟨(r.getD 3 0).toNat, by have := HB1 3; omega⟩
          have hq1 : q < 256 := by have := HB1 3; omega
          rw [hq] at hy3
          obtain ⟨x0, hx0⟩ : ∃ x, r.getD 0 0 = x := ⟨_, rfl⟩
          rw [hx0] at hy0 r0
          have HX0 := Aside0.mk hx0
          clear hx0
          obtain ⟨x1, hx1⟩ : ∃ x, r.getD 1 0 = x := ⟨_, rfl⟩
          rw [hx1] at hy1 r1
          have HX1 := Aside0.mk hx1
          clear hx1
          obtain ⟨x2, hx2⟩ : ∃ x, r.getD 2 0 = x := ⟨_, rfl⟩
          rw [hx2] at hy2 r2
          have HX2 := Aside0.mk hx2
          clear hx2
          clear HB1
          have HQ := Aside0.mk hq
          clear hq
          by_cases h4q : r.length < 4 + q
          · go_wp2
            go_ret2
            exact unpPost_bad (HBAD.out (HU.out.eq.trans (by rw [readI, if_pos (by rw [HQ.out]; omega)]))) rfl HU.out.below
          · have hpart := C_int_part HR.out 4 q (by omega)
            have hS : ∀ w', Below wr.heap.size wr w' → (w'.cell? ad2 = some (.int .u8 x0) ∧ w'.cell? ⟨ad2.block, ad2.off + 1, none⟩ = some (.int .u8 x1) ∧ w'.cell? ⟨ad2.block, ad2.off + 2, none⟩ = some (.int .u8 x2) ∧ (convert 30 9 (.slice (some ⟨ad2.block, ad2.off + 4, none⟩) q (cc - 4))).run Try.prog w' = .ok (.string (strOfNums ((r.drop 4).take q))) w' ∧ Below wr.heap.size wr w') := fun w' hb =>
              ⟨pw_cell_below hb hy0, pw_cell_below hb hy1, pw_cell_below hb hy2, Kd.C_string rfl rfl rfl (Kd.C_below (Kd.C_below hpart HU.out.below) hb), hb⟩
            have HS := Aside0.mk hS
            clear hS hpart
            go_wp2
            have hcc4 : cc ≠ 4 := by omega
            have i0 : (0 : Int) < (r.length : Int) := by omega
            have i0n : 0 < r.length := by omega
            have i1 : (1 : Int) < (r.length : Int) := by omega
            have i1n : 1 < r.length := by omega
            have i2 : (2 : Int) < (r.length : Int) := by omega
            have i2n : 2 < r.length := by omega
            have hcut : ∀ W : World, (Instr.slice 30 (.slice (some ad2) r.length cc) (some (.int .i64 4)) (some (.int .i64 (4 + (q : Int)))) none).run Try.prog W = .ok (.slice (some ⟨ad2.block, ad2.off + 4, none⟩) q (cc - 4)) W := by
              intro W
              obtain ⟨j0, hj, hj0, hj1, hj2⟩ := info_parts infoU8
              have := cut_mid (P := Try.prog) 30 5 .i64 .i64 (i := j0) rfl hj 1 hj1 (some ad2) r.length cc 4 (4 + (q : Int)) (by omega) (by omega) (by omega) (by omega) W
              rw [this, if_neg (show ¬ cc = (4 : Int).toNat from hcc4)]
              have e : (4 + (q : Int)).toNat - (4 : Int).toNat = q := by omega
              rw [e]
              rfl
            have hw0 : wrap64 x0 = x0 := by unfold wrap64; omega
            have hw1 : wrap64 x1 = x1 := by unfold wrap64; omega
            have hw2 : wrap64 x2 = x2 := by unfold wrap64; omega
            refine wp_region_in [0,0,0,1,0,0,0,1,0,0,0,0,0,1,0,0,0,0,1,0,2,3,0] [21] (fun w' => w'.cell? ad2 = some (.int .u8 x0) ∧ w'.cell? ⟨ad2.block, ad2.off + 1, none⟩ = some (.int .u8 x1) ∧ w'.cell? ⟨ad2.block, ad2.off + 2, none⟩ = some (.int .u8 x2) ∧ (convert 30 9 (.slice (some ⟨ad2.block, ad2.off + 4, none⟩) q (cc - 4))).run Try.prog w' = .ok (.string (strOfNums ((r.drop 4).take q))) w' ∧ Below wr.heap.size wr w') (by kernel_rfl) rfl (by kernel_rfl) (fun _ _ _ _ h => h) (HS.out _ (Below.refl _ _).drew) ?_
            iterate 20 (first
              | (refine in_off0 (by rfl) ?_; simp only [Act.put, List.setIfInBounds_toArray, List.set_cons_zero, List.set_cons_succ, i64_w, i32_w])
              | (refine in_off1 (by rfl) ?_; simp only [Act.put, List.setIfInBounds_toArray, List.set_cons_zero, List.set_cons_succ, i64_w, i32_w])
              | (refine in_0 (v := ?_) (by rfl) rfl ?_ (a' := ?_) ?_ ?_; rotate_left; (intro w'; go_simp; with_reducible rfl); rotate_left; (simp only [Act.put, List.setIfInBounds_toArray, List.set_cons_zero, List.set_cons_succ, i64_w, i32_w]; rfl))
              | (refine in_1 (v := ?_) (by rfl) rfl ?_ (a' := ?_) ?_ ?_; rotate_left; (rintro w' hs; go_split_ands; go_simp; with_reducible rfl); rotate_left; (simp only [Act.put, List.setIfInBounds_toArray, List.set_cons_zero, List.set_cons_succ, i64_w, i32_w]; rfl)))
            refine in_2 (by rfl) (fun K hK => ?_)
            go_simp
            have hb1 : Below wr.heap.size wr (wr.alloc (.cells #[.int .i64 (Go.bits .or .i64 x0 (wrap64 (x1 * 256))), .int .i64 x2, .string (strOfNums ((r.drop 4).take q))] 61)).drew := (below_alloc (Below.refl _ _) _).drew
            refine hK _ _ (HS.out _ hb1) ?_
            clear hK K
            try simp only [Act.put, List.setIfInBounds_toArray, List.set_cons_zero, List.set_cons_succ, i64_w, i32_w]
            refine in_3 (by rfl) (fun K hK => ?_)
            obtain ⟨e0, he, hz0, hz1, hz2⟩ := info_parts infoEnt
            have hown := HU.out.own.below hb1
            have hbw := below_then HU.out.below HU.out.below.size hb1
            have HBW := Aside0.mk hbw
            have hcnt := HU.out.cnt
            refine wp_append_own _ (.tmp 39) (.tmp 59) 33 rfl w.heap.size 61 e0 (.agg #[.int .i64 0, .int .i64 0, .string ⟨#[]⟩]) 3 32 Try.underlying33 he hz0 hz1 hz2 rfl (by decide) u6 out.length (out.flatMap ecells) rfl hown ⟨wr.heap.size, 0, none⟩ 1 1 [.int .i64 (Go.bits .or .i64 x0 (wrap64 (x1 * 256))), .int .i64 x2, .string (strOfNums ((r.drop 4).take q))] rfl rfl ?c1 ?c2 (by simp only [maxLen]; omega) (by omega) hbw.size ?_
            case c1 =>
              intro j u hj
              rw [add_plain]
              exact cell_alloc wr _ _ j u (by simpa using hj)
            case c2 => simp [Value.oneCell']
            intro v' w' h2 h3 _
            have hown2 : OwnE w' w.heap.size v' (out ++ [entI r]) := ownE_snoc h2 (by
              simp only [ecells, entI, HQ.out, HX0.out, HX1.out, HX2.out, or_bytes r0 r1, Int.toNat_natCast])
            have hbl2 := pw_below_grown hbw _ hbw.size h3 (own_base hown)
            have HO2 := Aside0.mk hown2
            have HB2 := Aside0.mk hbl2
            refine hK _ _ ?_
            clear hK K h2 h3 hown2 hbl2 hown hbw hb1
            try simp only [Act.put, List.setIfInBounds_toArray, List.set_cons_zero, List.set_cons_succ, i64_w, i32_w]
            refine out_0 (v := ?_) (by rfl) rfl ?_ (a' := ?_) ?_ ?_
            rotate_left
            · intro w'
              go_simp
              with_reducible rfl
            rotate_left
            · simp only [Act.put, List.setIfInBounds_toArray, List.set_cons_zero, List.set_cons_succ, i64_w, i32_w]
              rfl
            refine out_nil ?_
            have hcut2 : ∀ W : World, (Instr.slice 30 (.slice (some ad2) r.length cc) (some (.int .i64 (4 + (q : Int)))) none none).run Try.prog W = .ok (.slice (some (ad2.add (4 + q))) (r.drop (4 + q)).length (cc - (4 + q))) W := by
              intro W
              obtain ⟨j0, hj, hj0, hj1, hj2⟩ := info_parts infoU8
              have := cut_from (P := Try.prog) 30 5 .i64 (i := j0) rfl hj 1 hj1 (some ad2) r.length cc (4 + (q : Int)) (by omega) (by omega) W
              have e : (4 + (q : Int)).toNat = 4 + q := by omega
              rw [e] at this
              rw [this, if_neg (by omega), Nat.mul_one, List.length_drop]
              rfl
            clear hcut hcnt
            go_wp2
            go_roundg g
            case measure => omega
            case rel =>
              have hp := C_int_part HR.out (4 + q) (r.drop (4 + q)).length (by rw [List.length_drop]; omega)
              rw [List.take_of_length_le (Nat.le_refl _)] at hp
              have hq4 : ¬ ((r.length : Int) < 4 ∨ (r.length : Int) < 4 + r.getD 3 0) := by rw [HQ.out]; omega
              exact ⟨k + 1, r.drop (4 + q), out ++ [entI r], cc - (4 + q), by omega, by go_num, ⟨⟨HO2.out, by rw [List.length_append, HU.out.cnt]; rfl, HB2.out, ⟨ad2.add (4 + q), by rw [List.length_drop], by rw [List.length_drop]; omega, by rw [List.length_drop]; omega, hp⟩, allB_drop HU.out.bytes _, HU.out.eq.trans (by
                show readI (g + 1) r out = _
                rw [readI, if_neg hq4, HQ.out, Int.toNat_natCast])⟩⟩⟩
  · go_enter Try.func19, Try.ntmps19
    have hub : unpackI l s = ([], 117) := by unfold unpackI; rw [if_pos h256]
    go_wp2
    go_ret2
    exact unpPost_bad hub rfl (Below.refl _ _)
end Go.Proofs.Ytjggkaieagbjmaa.Hand
