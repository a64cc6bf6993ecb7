/- Own texts and printed words of the kit, put together and trimmed by a program of mine (merge.py). -/
import Derived.Test.YtkmhilhfmfmckaaGreatDoorP10
import Derived.RangeFuncNested
import Derived.RangeFuncCalls
import Derived.RangeFuncLeaves
import Derived.Shelf.RegionOpen
import Derived.WalkKit
import Derived.OwnWalkIn
import Derived.TacticsInMore
import Derived.LoopNIn
import Derived.LoopIn
import Derived.Sort.LoopGhostIn
import Derived.Sort.CutIn
namespace Go.Proofs.YtkmhilhfmfmckaaGreatDoor.Hand
set_option linter.unusedSimpArgs false
set_option linter.unusedVariables false
open Go.Shelf Go.RowKit Go.Proofs.YtkmhilhfmfmckaaGreatDoorW.PrintWords Go.Proofs.YtkmhilhfmfmckaaGreatDoorW.PrintLast Go.Proofs.YtkmhilhfmfmckaaGreatDoorW.PrintMore
def holds : Nat → Nat → St → St
  | 0, _, s => s
  | n + 1, a, s => holds n (a + 1) (s.hold a)
def freeAt (s : St) (x : Sup) (l : List Grp) (i fr zz bm : Nat) (a n : Nat) : St × Int :=
  if (leaveI (dturnI s bm (zz - fr) ((a : Int) - fr) n false).1 s.hist.length (addFb x n) (setFb l i ((grpAt l i).fb + n)) (dturnI s bm (zz - fr) ((a : Int) - fr) n false).2).2 ≠ 0 then
    leaveI (dturnI s bm (zz - fr) ((a : Int) - fr) n false).1 s.hist.length (addFb x n) (setFb l i ((grpAt l i).fb + n)) (dturnI s bm (zz - fr) ((a : Int) - fr) n false).2
  else (holds n a (leaveI (dturnI s bm (zz - fr) ((a : Int) - fr) n false).1 s.hist.length (addFb x n) (setFb l i ((grpAt l i).fb + n)) (dturnI s bm (zz - fr) ((a : Int) - fr) n false).2).1, 0)
def freeI (s : St) (first n : Int) : St × Int :=
  match sitI s.now with
  | none => (s, 117)
  | some (x, l) =>
    if n < 1 ∨ first < 0 ∨ x.geo.blocks ≤ first then (s, 22) else
    if first < (placeI x.geo (first / x.geo.per)).2.2.2.1 ∨ (spanI x.geo (first / x.geo.per)).2.1 - first < n then (s, 22) else
    freeAt s x l (first / x.geo.per).toNat (spanI x.geo (first / x.geo.per)).1.toNat (spanI x.geo (first / x.geo.per)).2.1.toNat (placeI x.geo (first / x.geo.per)).1.toNat first.toNat n.toNat
theorem dturnI_len (s : St) (n m : Nat) (fr ct : Int) (on : Bool) : (dturnI s n m fr ct on).1.now.length = s.now.length ∧ s.hist.length ≤ (dturnI s n m fr ct on).1.hist.length ∧ (dturnI s n m fr ct on).1.hist.length ≤ s.hist.length + 1 := by
  unfold dturnI
  split
  · exact ⟨by simp [St.write], by simp [St.write], by simp [St.write]⟩
  · exact ⟨rfl, Nat.le_refl _, Nat.le_succ _⟩
theorem leaveI_len (s : St) (mark : Nat) (x : Sup) (l : List Grp) (e : Int) (h : (leaveI s mark x l e).2 = 0) : (leaveI s mark x l e).1.now.length = s.now.length ∧ (leaveI s mark x l e).1.hist.length ≤ s.hist.length + 2 := by
  unfold leaveI at h ⊢
  by_cases h1 : e ≠ 0
  · rw [if_pos h1] at h; exact absurd h h1
  · rw [if_neg h1] at h ⊢
    by_cases h2 : (pgroupsI l).2 ≠ 0 ∨ (psuperI x).2 ≠ 0
    · rw [if_pos h2] at h; cases h
    · rw [if_neg h2]
      exact ⟨by simp [St.write], by simp [St.write]⟩
set_option maxHeartbeats 4000000 in
set_option maxRecDepth 100000 in
theorem free_calls {D : Nat → Prop} {s0 : Nat} {s : St} (first n : Int) (w : World) (h : StIs w D s0 s) (hh : s.hist.length ≤ 900000)
    (hf0 : -9223372036854775808 ≤ first) (hf1 : first < 9223372036854775808) (hn0 : -9223372036854775808 ≤ n) (hn1 : n < 9223372036854775808) :
    Calls Tryz.prog 63 #[.pointer (some ⟨s0, 0, none⟩), .int .i64 first, .int .i64 n] w (DoPost D s0 (freeI s first n) w) := by
  have HSIT := Aside0.mk (sit_calls w h)
  have hlen := h.len
  obtain ⟨r, hr⟩ : ∃ r, freeI s first n = r := ⟨_, rfl⟩
  rw [hr]
  have HR := Aside0.mk hr
  have HH := Aside0.mk h
  clear h hr
  go_enter Tryz.func63, Tryz.ntmps63
  go_wp2_with fail
  refine HSIT.out.mono ?_
  rintro e w1 ⟨D1, h1, hd1, hm1, hrest⟩
  have HX := Aside0.mk (And.intro h1 (And.intro hd1 hm1))
  clear h1 hd1 hm1
  cases hsi : sitI s.now with
  | none =>
    rw [hsi] at hrest
    have hl : r = (s, 117) := by rw [← HR.out]; unfold freeI; rw [hsi]
    subst hl
    subst hrest
    clear hsi HR
    dsimp only
    go_wp2
    go_ret
    exact ⟨D1, rfl, HX.out.1, HX.out.2.1, HX.out.2.2⟩
  | some q =>
    obtain ⟨⟨⟨bl, pr, ino, jo⟩, fb, fi, orp, mnt, cl⟩, l⟩ := q
    obtain ⟨x, hx⟩ : ∃ x : Sup, (⟨⟨bl, pr, ino, jo⟩, fb, fi, orp, mnt, cl⟩ : Sup) = x := ⟨_, rfl⟩
    rw [hx] at hsi
    rw [hsi] at hrest
    obtain ⟨k0, gv, rfl, hk, hk0, hgv⟩ := hrest
    have hsat := sitI_sat hsi
    have hr0 : r = if n < 1 ∨ first < 0 ∨ x.geo.blocks ≤ first then (s, 22) else
      if first < (placeI x.geo (first / x.geo.per)).2.2.2.1 ∨ (spanI x.geo (first / x.geo.per)).2.1 - first < n then (s, 22) else
      freeAt s x l (first / x.geo.per).toNat (spanI x.geo (first / x.geo.per)).1.toNat (spanI x.geo (first / x.geo.per)).2.1.toNat (placeI x.geo (first / x.geo.per)).1.toNat first.toNat n.toNat := by
      rw [← HR.out]; unfold freeI; rw [hsi]
    have c1 : w1.cell? ⟨k0, 1, none⟩ = some (.int .i64 bl) := by have := hk.st.cell 1 _ rfl; rw [← hx] at this; exact this
    have c2 : w1.cell? ⟨k0, 2, none⟩ = some (.int .i64 pr) := by have := hk.st.cell 2 _ rfl; rw [← hx] at this; exact this
    have c3 : w1.cell? ⟨k0, 3, none⟩ = some (.int .i64 ino) := by have := hk.st.cell 3 _ rfl; rw [← hx] at this; exact this
    have c4 : w1.cell? ⟨k0, 4, none⟩ = some (.int .i64 jo) := by have := hk.st.cell 4 _ rfl; rw [← hx] at this; exact this
    have hgeo : x.geo = ⟨bl, pr, ino, jo⟩ := by rw [← hx]
    rw [hgeo] at hr0
    dsimp only at hr0
    have HK := Aside0.mk hk
    have HSAT := Aside0.mk hsat
    have HR0 := Aside0.mk hr0
    have HSI := Aside0.mk hsi
    have HGEO := Aside0.mk hgeo
    have hgz := hsat.geo
    rw [hgeo] at hgz
    have hbl := hsat.bl
    rw [hgeo] at hbl
    dsimp only at hbl
    have HGZ := Aside0.mk hgz
    have hzz := geoI_zero hgz
    dsimp only at hzz
    have HBL := Aside0.mk hbl
    have hbl2 : bl ≤ 4096 := hzz.1.2
    clear hbl
    have hpr1 : 32 ≤ pr := hzz.2.1.1
    have hpr2 : pr ≤ 2016 := hzz.2.1.2
    have HGV := Aside0.mk hgv
    clear hk hr0 hsi hgv HR hx hgeo hsat hgz hzz
    dsimp only
    go_upto_region 5 with fail
    have hsc := alloc_last w1 (.cells #[.int .i64 bl, .int .i64 pr, .int .i64 ino, .int .i64 jo] 80)
    have hb2 := below_alloc (Below.refl w1.heap.size w1) (.cells #[.int .i64 bl, .int .i64 pr, .int .i64 ino, .int .i64 jo] 80)
    generalize w1.alloc (.cells #[.int .i64 bl, .int .i64 pr, .int .i64 ino, .int .i64 jo] 80) = W2 at hsc hb2 ⊢
    have hst2 : Strc W2 w1.heap.size 80 [.int .i64 bl, .int .i64 pr, .int .i64 ino, .int .i64 jo] := hsc
    have HST2 := Aside0.mk hst2
    have HB2 := Aside0.mk hb2
    have g0 := hst2.cell 0 _ rfl
    have g1 := hst2.cell 1 _ rfl
    have g2 := hst2.cell 2 _ rfl
    have g3 := hst2.cell 3 _ rfl
    clear hsc hb2 hst2 c1 c2 c3 c4
    by_cases b1 : n < 1
    · have hl : r = (s, 22) := by rw [HR0.out, if_pos (.inl b1)]
      subst hl
      clear HR0
      go_wp2
      go_ret
      exact ⟨D1, rfl, HX.out.1.below HB2.out, HX.out.2.1, HX.out.2.2.below HB2.out⟩
    · by_cases b2 : first < 0
      · have hl : r = (s, 22) := by rw [HR0.out, if_pos (.inr (.inl b2))]
        subst hl
        clear HR0
        go_wp2
        go_ret
        exact ⟨D1, rfl, HX.out.1.below HB2.out, HX.out.2.1, HX.out.2.2.below HB2.out⟩
      · by_cases b3 : bl ≤ first
        · have hl : r = (s, 22) := by rw [HR0.out, if_pos (.inr (.inr b3))]
          subst hl
          clear HR0
          go_wp2
          go_ret
          exact ⟨D1, rfl, HX.out.1.below HB2.out, HX.out.2.1, HX.out.2.2.below HB2.out⟩
        · have hl := HR0.out
          rw [if_neg (by rintro (h | h | h); exact b1 h; exact b2 h; exact b3 h)] at hl
          obtain ⟨a, rfl⟩ : ∃ a : Nat, first = a := ⟨first.toNat, by omega⟩
          obtain ⟨m, rfl⟩ : ∃ m : Nat, n = m := ⟨n.toNat, by omega⟩
          obtain ⟨i, fr, zz, bm, e1, e2, e3, e4, e5, e6, e7, e8, e9, e10, e11⟩ := geo_at HGZ.out (a := (a : Int)) (by omega) (by show (a : Int) < bl; omega)
          dsimp only at e1 e8 e9 e4
          rw [e1, e3, e4] at hl
          simp only [Int.toNat_natCast] at hl
          have hsp : ∀ W : World, Calls Tryz.prog 67 #[.agg #[.int .i64 bl, .int .i64 pr, .int .i64 ino, .int .i64 jo], .int .i64 i] W fun e w' => e = .returned (.tuple #[.int .i64 fr, .int .i64 zz, .int .i64 0]) ∧ Below W.heap.size W w' := fun W => by
            have := span_calls ⟨bl, pr, ino, jo⟩ i W
            rw [e3] at this
            exact this
          have hpl : ∀ W : World, Calls Tryz.prog 68 #[.agg #[.int .i64 bl, .int .i64 pr, .int .i64 ino, .int .i64 jo], .int .i64 i] W fun e w' => e = .returned (.tuple #[.int .i64 bm, .int .i64 ((bm : Int) + 1), .int .i64 ((bm : Int) + 2), .int .i64 ((bm : Int) + 2 + ino / 2), .int .i64 0]) ∧ Below W.heap.size W w' := fun W => by
            have := place_calls ⟨bl, pr, ino, jo⟩ i W
            rw [e4] at this
            exact this
          have HSP := Aside0.mk hsp
          have HPL := Aside0.mk hpl
          have HL := Aside0.mk hl
          have HE2 := Aside0.mk e2
          obtain ⟨da, hda⟩ : ∃ da : Int, (bm : Int) + 2 + ino / 2 = da := ⟨_, rfl⟩
          rw [hda] at HPL HL e8
          have hbd : (bm : Int) < da := by
            have h9 := (geoI_zero HGZ.out).2.2.1.1
            dsimp only at h9
            omega
          have ht : (a : Int).tdiv pr = (i : Int) := by rw [Int.tdiv_eq_ediv_of_nonneg (by omega)]; exact e1
          have hp0 : (pr == 0) = false := by rw [beq_eq_false_iff_ne]; omega
          have hp1 : ¬ pr = 0 := by omega
          have i1 : i < 4096 := by
            have := groupsI_range ⟨bl, pr, ino, jo⟩
            omega
          clear hsp hpl hl e2 e3 e4 HR0 hda
          go_wp2_with fail
          refine (HSP.out W2).mono ?_
          rintro e W3 ⟨rfl, hb3⟩
          have HB3 := Aside0.mk (below_then HB2.out HB2.out.size hb3)
          have hst3 := HST2.out.below hb3
          clear g0 g1 g2 g3
          have g0 := hst3.cell 0 _ rfl
          have g1 := hst3.cell 1 _ rfl
          have g2 := hst3.cell 2 _ rfl
          have g3 := hst3.cell 3 _ rfl
          clear hb3 hst3
          dsimp only
          go_wp2_with fail
          refine (HPL.out W3).mono ?_
          rintro e W4 ⟨rfl, hb4⟩
          have HB4 := Aside0.mk (below_then HB3.out HB3.out.size hb4)
          clear hb4 g0 g1 g2 g3
          dsimp only
          by_cases d1 : (a : Int) < da
          · have hl := HL.out
            rw [if_pos (.inl d1)] at hl
            subst hl
            clear HL
            go_wp2
            go_ret
            exact ⟨D1, rfl, HX.out.1.below HB4.out, HX.out.2.1, HX.out.2.2.below HB4.out⟩
          · by_cases d2 : (zz : Int) - (a : Int) < (m : Int)
            · have hl := HL.out
              rw [if_pos (.inr d2)] at hl
              subst hl
              clear HL
              go_wp2
              go_ret
              exact ⟨D1, rfl, HX.out.1.below HB4.out, HX.out.2.1, HX.out.2.2.below HB4.out⟩
            · have hl := HL.out
              rw [if_neg (by rintro (h' | h'); exact d1 h'; exact d2 h')] at hl
              obtain ⟨M, hM⟩ : ∃ M : Nat, zz - fr = M := ⟨_, rfl⟩
              have hMi : (zz : Int) - (fr : Int) = (M : Int) := by omega
              have hm4 : m ≤ 4096 := by omega
              have hil : i < l.length := by
                have q1 := HSAT.out.len
                have q2 := HE2.out
                rw [← HGEO.out, ← q1] at q2
                omega
              have hbmN : bm < s.now.length := by have := HBL.out; omega
              have hk4 := HK.out.below HB4.out
              have hgr := HSAT.out.gr i hil
              have hxf := And.intro HSAT.out.f0 HSAT.out.f1
              have hct := counted_calls i (m : Int) W4 hk4 hil (by omega) (by omega) (by omega) (by omega) (by omega) (by omega)
              have HCT := Aside0.mk hct
              have HBMN := Aside0.mk hbmN
              have HK4 := Aside0.mk hk4
              have H4 := Aside0.mk (HX.out.1.below HB4.out)
              have HM4 := Aside0.mk (HX.out.2.2.below HB4.out)
              unfold freeAt at hl
              rw [hM] at hl
              have HL2 := Aside0.mk hl
              clear hl HL hk4 hgr hxf hct hbmN
              go_wp2_with fail
              refine HCT.out.mono ?_
              rintro e W5 ⟨rfl, hk5, hm5⟩
              have h5 := H4.out.mod hm5 (fun k hk e => e.elim (fun e => HK4.out.nk (e ▸ hk)) (fun e => (HK4.out.ng k e).1 hk))
              have hm5' : Mod w W5 D := HM4.out.trans hm5 (fun k hk e => by
                exfalso
                rcases e with e | e
                · omega
                · have := HGV.out k e; omega)
              have hdt := dturn_calls bm M ((a : Int) - (fr : Int)) (m : Int) false W5 h5 (hk5.st.cell 0 _ rfl) hk5.nk HBMN.out (by omega) (by omega) (by omega) (by omega) (by omega) (by omega)
              have HDT := Aside0.mk hdt
              have HK5 := Aside0.mk hk5
              have HM5 := Aside0.mk hm5'
              clear hk5 hm5 h5 hm5' hdt
              dsimp only
              go_wp2_with fail
              refine HDT.out.mono ?_
              rintro e W6 ⟨D6, rfl, h6, hD6, hm6⟩
              have hdl := dturnI_len s bm M ((a : Int) - (fr : Int)) (m : Int) false
              obtain ⟨⟨t1, t2⟩, htt⟩ : ∃ t, dturnI s bm M ((a : Int) - (fr : Int)) (m : Int) false = t := ⟨_, rfl⟩
              rw [htt] at h6 hdl HL2 ⊢
              dsimp only at h6 hdl HL2 ⊢
              have hlv := leave_calls t2 W6 h6 (HK5.out.mod hm6 hD6) hdl.2.1 (by omega) (by rw [setFb_length]; have := HSAT.out.l1; omega)
              have hll := leaveI_len t1 s.hist.length (addFb x m) (setFb l i ((grpAt l i).fb + m)) t2
              have hD6' := hd_then HM5.out HX.out.2.1 hD6
              have hm6' := mod_then HM5.out HX.out.2.1 hm6
              obtain ⟨⟨u1, u2⟩, hu⟩ : ∃ u, leaveI t1 s.hist.length (addFb x m) (setFb l i ((grpAt l i).fb + m)) t2 = u := ⟨_, rfl⟩
              rw [hu] at hlv hll HL2
              dsimp only at hll HL2
              have HLV := Aside0.mk hlv
              have HLL := Aside0.mk (And.intro hdl hll)
              have HD6 := Aside0.mk (And.intro hD6' hm6')
              clear h6 hdl hlv hll hD6 hm6 hD6' hm6' htt hu
              go_wp2_with fail
              refine HLV.out.mono ?_
              rintro e W7 ⟨D7, rfl, h7, hD7, hm7⟩
              have HY := Aside0.mk (And.intro h7 (And.intro (hd_then HD6.out.2 HD6.out.1 hD7) (mod_then HD6.out.2 HD6.out.1 hm7)))
              clear h7 hD7 hm7
              dsimp only
              by_cases hu0 : u2 = 0
              · subst hu0
                have hl := HL2.out
                rw [if_neg (by simp)] at hl
                subst hl
                clear HL2
                go_wp2
                go_loopg [20] m (fun g v wr => ∃ (b : Nat) (sx : St) (Dx : Nat → Prop), v = .int .i64 (b : Nat) ∧ b + g = a + m ∧ sx.now.length = s.now.length ∧ sx.hist.length + g ≤ 920000 ∧ Aside0 (holds m a u1 = holds g b sx) ∧ Aside0 (StIs wr Dx s0 sx) ∧ Aside0 (∀ k, Dx k → D k ∨ w.heap.size ≤ k) ∧ Aside0 (Mod w wr D))
                case atStart =>
                  have q1 := HLL.out.1
                  have q2 := HLL.out.2 (by first | trivial | rfl)
                  exact ⟨a, u1, D7, rfl, by omega, by omega, by omega, ⟨rfl⟩, ⟨HY.out.1⟩, ⟨HY.out.2.1⟩, ⟨HY.out.2.2⟩⟩
                case round =>
                  obtain ⟨b, sx, Dx, rfl, hbg, hnl, hhl, HE, HS, HDx, HMx⟩ := hrel
                  cases gk with
                  | zero =>
                    have hb : b = a + m := by omega
                    subst hb
                    go_wp2
                    go_ret
                    exact ⟨Dx, rfl, by rw [show holds m a u1 = sx from HE.out]; exact HS.out, HDx.out, HMx.out⟩
                  | succ g =>
                    have hbN : b < sx.now.length := by have := HBL.out; omega
                    have HHO := Aside0.mk (shold_calls b wr HS.out hbN (by omega))
                    have hb1 : (b : Int) < (a : Int) + (m : Int) := by omega
                    have hb2 : b < a + m := by omega
                    have HNL := Aside0.mk (show (sx.hold b).now.length = s.now.length ∧ (sx.hold b).hist.length = sx.hist.length + 1 from ⟨hnl, rfl⟩)
                    clear hbN hnl
                    go_wp2_with fail
                    refine HHO.out.mono ?_
                    rintro e W8 ⟨D8, rfl, h8, hD8, hm8⟩
                    have HZ := Aside0.mk (And.intro h8 (And.intro (hd_then HMx.out HDx.out hD8) (mod_then HMx.out HDx.out hm8)))
                    clear h8 hD8 hm8
                    dsimp only
                    go_wp2
                    go_roundg g
                    case measure => omega
                    case rel => exact ⟨b + 1, sx.hold b, D8, by go_num, by omega, HNL.out.1, by have := HNL.out.2; omega, HE, ⟨HZ.out.1⟩, ⟨HZ.out.2.1⟩, ⟨HZ.out.2.2⟩⟩
              · have hl := HL2.out
                rw [if_pos hu0] at hl
                subst hl
                have hub : (u2 != 0) = true := by simpa using hu0
                clear HL2
                go_wp2
                go_ret
                exact ⟨D7, rfl, HY.out.1, HY.out.2.1, HY.out.2.2⟩
section
variable {P : Program} {l n : Nat} {ops : Array Oper} {Q : Exit → Act → World → Prop} {S : World → Prop} {ds : List Nat}
def noDefer (ops : Array Oper) : Bool := ops.all fun o => match o.op with
  | .defer _ => false
  | _ => true
theorem noDefer_spec (h : noDefer ops = true) {i : Nat} {o : Oper} (hi : ops[i]? = some o) : ∀ c, o.op ≠ .defer c := by
  intro c hc
  obtain ⟨hlt, e⟩ := Array.getElem?_eq_some_iff.1 hi
  have h2 := Array.all_eq_true.1 h i hlt
  rw [e, hc] at h2
  cases h2
theorem operIn_of_wp {o : Oper} {a : Act} {w : World} {K : Act → World → Prop} (hd : ∀ c, o.op ≠ .defer c) (h : o.wp P a w K Q) : o.wpIn (Fence.wide.inRound l) n P a w K Q := by
  refine ⟨fun _ _ => trivial, ?_⟩
  rw [Fence.inRound_round, Oper.semAt_some l _ o hd]
  unfold Oper.wp at h
  generalize (execOp a.eval o).run P w = r at h ⊢
  cases r with
  | ok x w' =>
    cases x
    case value v => exact h
    case skip => exact h
    case defer d => exact h
    case enter f args => exact ⟨fun h' => (by cases h'), CallsIn.inRound l (callsIn_wide.2 h)⟩
    case row r args =>
      refine ⟨fun h' => (by cases h'), fun c cs hr => ?_⟩
      obtain ⟨v, w'', h1, h2⟩ := h c cs
      exact ⟨v, w'', h1, stepsIn_wide.2 h2⟩
    all_goals exact h.elim
  | halt x w' => cases x <;> exact h
theorem opIn_of_wpOp {i : Nat} {a : Act} {w : World} {K : Act → World → Prop} (hd : noDefer ops = true) (hno : ¬ LetsOut Q) (h : wpOp P ops Q i K a w) : wpOpIn (Fence.wide.inRound l) n P ops Q i K a w := by
  unfold wpOp at h
  unfold wpOpIn
  cases ho : ops[i]? with
  | none => rw [ho] at h; exact h
  | some o =>
    rw [ho] at h
    dsimp only at h ⊢
    by_cases hw : Region.wanted o (yielded ops a.tmps) = true
    · rw [if_pos hw] at h ⊢
      rcases h with h | h
      · exact operIn_of_wp (noDefer_spec hd ho) h
      · exact absurd h.2 hno
    · rw [if_neg hw] at h ⊢
      exact ⟨fun _ _ => trivial, h⟩
theorem anyIn_of_any {md : Region.Mode} (hd : noDefer ops = true) (hno : ¬ LetsOut Q) : ∀ (fuel : Nat) (listed : Array Bool) (a : Act) (w : World), wpAny P md ops Q fuel listed a w → wpAnyIn (Fence.wide.inRound l) n P md ops Q fuel listed a w
  | 0, _, _, _, h => h
  | fuel + 1, _, _, _, h => ⟨h.1, fun i hi => wpOpIn_mono (fun a' w' h' => anyIn_of_any hd hno fuel _ a' w' h') (opIn_of_wpOp hd hno (h.2 i hi))⟩
def noOut (Q : Exit → Act → World → Prop) : Exit → Act → World → Prop
  | .outgrown, _, _ => False
  | .normal, a, w => Q .normal a w
  | .exit id, a, w => Q (.exit id) a w
  | .goto l, a, w => Q (.goto l) a w
  | .ret, a, w => Q .ret a w
  | .panic c, a, w => Q (.panic c) a w
theorem noOut_not (Q : Exit → Act → World → Prop) : ¬ LetsOut (noOut Q) := fun ⟨_, _, h⟩ => h
theorem noOut_le {Q : Exit → Act → World → Prop} : ∀ e a w, noOut Q e a w → Q e a w
  | .outgrown, _, _, h => h.elim
  | .normal, _, _, h => h
  | .exit _, _, _, h => h
  | .goto _, _, _, h => h
  | .ret, _, _, h => h
  | .panic _, _, _, h => h
theorem noOut_normal {Q : Exit → Act → World → Prop} {a : Act} {w : World} (h : Q .normal a w) : noOut Q .normal a w := h
theorem wpR_region_in {id : Nat} {l0 : List Oper} {a : Act} {w : World} (ks : List Nat) (ds : List Nat) (S : World → Prop) (hd : noDefer l0.toArray = true) (hm : P.follows .mixedOrders = true) (hl : ks.length = l0.length) (ho : ordB .any l0.toArray ds l0.toArray.size 0 ks = true)
    (hQ : ∀ c (a : Act) t w, Q (.panic c) { a with tmps := t } w → Q (.panic c) a w) (hS : S w.drew) (h : wpIn P l0.toArray (noOut Q) S ks l0 a w.drew) : (Code.region id l0.toArray true).wpIn (Fence.wide.inRound l) n P Q a w := by
  refine Go.wpIn_mono (wpIn_region_any hm (anyIn_of_any hd (noOut_not Q) _ _ _ _ (wpAny_of_last (S := S) (ds := ds) _ _ _ _ ?_))) noOut_le
  have := wpIn_sound (P := P) (md := .any) (ops := l0.toArray) (S := S) (ds := ds) (Q := noOut Q) hQ ks 0 l0 a w.drew hl (by simp) (fun j => by simp) ho hS h
  have e : flg l0.toArray.size 0 = Array.replicate l0.toArray.size false := by simp [flg]
  rw [e] at this
  have e2 : l0.length = l0.toArray.size := by simp
  rw [e2] at this
  exact this
end
def keptPost (B : Nat) (I : Nat → World → Prop) (Ix : Code → World → Prop) (k : Nat) (W : World) : Exit → Act → World → Prop
  | .normal, _, W' => (W'.heap[B]? = W.heap[B]? ∧ W'.heap[B + 1]? = W.heap[B + 1]?) ∧ I k W'
  | .ret, _, W' => (W'.heap[B]? = W.heap[B]? ∧ W'.heap[B + 1]? = W.heap[B + 1]?) ∧ Ix .ret W'
  | .exit id, _, W' => (W'.heap[B]? = W.heap[B]? ∧ W'.heap[B + 1]? = W.heap[B + 1]?) ∧ Ix (.exit id) W'
  | .goto _, _, _ => False
  | .panic _, _, _ => False
  | .outgrown, _, _ => False
theorem wp_rangeFunc_kept {P : Program} {n : Nat} {α : Type} {g : Operand} {ps : Array Tmp} {assign body : Code} {Q : Exit → Act → World → Prop} {a : Act} {w : World}
    {gf : Nat} {lb : Array Value} (hg : a.eval g = .func (.func gf) #[] lb) (eg : ∀ args w, (callFunc gf args).run P w = .ok (.enter gf args) w)
    {encs : α → Array Value} (hps : ∀ x, (encs x).size = ps.size) (xs : List α)
    (I : Nat → World → Prop) (Ix : Code → World → Prop)
    (hI : ∀ k W b o, (b = w.heap.size ∨ b = w.heap.size + 1) → I k W → I k (W.putObj b o))
    (hIx : ∀ c W b o, (b = w.heap.size ∨ b = w.heap.size + 1) → Ix c W → Ix c (W.putObj b o))
    (hIb : ∀ k W W', I k W → Below W.heap.size W W' → I k W') (h0 : I 0 w) {a₁ : α → Act}
    (hassign : ∀ (l : Nat) (x : α) (W : World) (K : Act → World → Prop), K (a₁ x) W →
      assign.wpIn (Fence.wide.inRound l) n P (Exit.then K (fun _ _ _ => False)) { tmps := (ps.zip (encs x)).foldl (fun t (p, v) => t.setIfInBounds p v) a.tmps, defers := [] } W)
    (hbody : ∀ (l k : Nat) (x : α) (W : World), xs[k]? = some x → I k W → w.heap.size + 1 < W.heap.size → body.wpIn (Fence.wide.inRound l) n P (keptPost w.heap.size I Ix (k + 1) W) (a₁ x) W)
    (hiter : ∀ (Y : Nat → World → Prop) (N : World → Prop) (W1 : World), (∀ k W, Y k W → I k W) → (∀ k W W', Y k W → Below W.heap.size W W' → Y k W') → Y 0 W1 →
      (∀ k x W, xs[k]? = some x → Y k W → YieldAt Fence.wide n P (w.heap.size + 1) (encs x) W fun e W' => (e = .returned (.bool true) ∧ Y (k + 1) W') ∨ (e = .returned (.bool false) ∧ N W')) →
      CallsIn Fence.wide n P gf (#[.func (.yield (w.heap.size + 1)) #[] #[]] ++ lb) W1 fun e W' => (∃ v, e = .returned v) ∧ (Y xs.length W' ∨ N W'))
    (hdone : ∀ W : World, w.heap.size < W.heap.size → I xs.length W → W.heap[w.heap.size]? = some (.deferred (some [])) → Q .normal { a with defers := { target := .collected w.heap.size, args := #[] } :: a.defers } W)
    (hstop : ∀ (c : Code) (W : World), w.heap.size < W.heap.size → Ix c W → W.heap[w.heap.size]? = some (.deferred (some [])) → c.wpIn Fence.wide n P Q { a with defers := { target := .collected w.heap.size, args := #[] } :: a.defers } W) :
    (Code.rangeFunc g ps assign body).wpIn Fence.wide n P Q a w := by
  refine wpIn_rangeFunc ?_
  intro fn hfn
  obtain ⟨rec, hrec⟩ : ∃ rec : LoopState → Option Code → Loop, rec = fun st pe => { state := st, pending := pe, fn, tmps := a.tmps, params := ps, assign, body, defers := w.heap.size } := ⟨_, rfl⟩
  obtain ⟨W1, hW1⟩ : ∃ W1, (w.alloc (.deferred (some []))).alloc (.loop (rec .ready none)) = W1 := ⟨_, rfl⟩
  have hL1 : W1.heap[w.heap.size + 1]? = some (.loop (rec .ready none)) := by
    rw [← hW1]; have := World.alloc_heap_new (w.alloc (.deferred (some []))) (.loop (rec .ready none)); rwa [World.size_alloc] at this
  have hK1 : W1.heap[w.heap.size]? = some (.deferred (some [])) := by
    rw [← hW1]; exact (Below.heap_alloc _ _ _ (by simp)).trans (World.alloc_heap_new w _)
  have hb1 : Below w.heap.size w W1 := by
    rw [← hW1]; exact ((Below.refl _ w).alloc (Nat.le_refl _) _).alloc (by simp) _
  have hI1 : I 0 W1 := hIb _ _ _ h0 hb1
  refine ⟨w.heap.size + 1, [{ target := .collected w.heap.size, args := #[] }], W1, { target := .fn (.func gf) lb, args := #[.func (.yield (w.heap.size + 1)) #[] #[]] }, W1, gf,
    #[.func (.yield (w.heap.size + 1)) #[] #[]] ++ lb, W1, ?_, ?_, ?_, ?_, fun h => (by cases h), ?_⟩
  · rw [← hW1, hrec]; exact run_enterLoop_outer _ _ _ _ _
  · simp only [resolve, hg]
    simp [go_sem]
  · intro f' hf'; trivial
  · simp [invoke, go_sem, eg]
  · refine CallsIn.mono (callsIn_wide.2 (callsIn_wide.1 (hiter
      (fun k W => I k W ∧ W.heap[w.heap.size + 1]? = some (.loop (rec .ready none)) ∧ W.heap[w.heap.size]? = some (.deferred (some [])))
      (fun W => ∃ c, Ix c W ∧ W.heap[w.heap.size + 1]? = some (.loop (rec .done (some c))) ∧ W.heap[w.heap.size]? = some (.deferred (some [])))
      W1 (fun k W h => h.1)
      (fun k W W' h hb => ⟨hIb _ _ _ h.1 hb, (hb.block _ (lt_of_obj h.2.1)).trans h.2.1, (hb.block _ (lt_of_obj h.2.2)).trans h.2.2⟩)
      ⟨hI1, hL1, hK1⟩ ?_))) ?_
    · rintro k x W hx ⟨hi, hl, hk⟩
      have hlt : w.heap.size + 1 < W.heap.size := lt_of_obj hl
      have hy := run_yield (P := P) (args := encs x) hl (by rw [hrec]; exact hps x)
      rw [hrec] at hy
      refine ⟨fn, _, assign, body, hy, roundIn_of_wpIn hfn (hassign _ x W _ ⟨_, run_beginRound hl (by rw [hrec]), ?_⟩)⟩
      have hl2 : (W.putObj (w.heap.size + 1) (.loop { rec .ready none with state := .busy })).heap[w.heap.size + 1]? = some (.loop { rec .ready none with state := .busy }) := World.putObj_heap_same hlt
      have hk2 : (W.putObj (w.heap.size + 1) (.loop { rec .ready none with state := .busy })).heap[w.heap.size]? = some (.deferred (some [])) := (World.putObj_heap_other (by omega)).trans hk
      refine wpIn_mono (hbody _ k x _ hx (hI _ _ _ _ (.inr rfl) hi) (by simpa using hlt)) ?_
      have fin : ∀ (jump : Option Code) (W3 : World), (W3.heap[w.heap.size]? = (W.putObj (w.heap.size + 1) (.loop { rec .ready none with state := .busy })).heap[w.heap.size]? ∧ W3.heap[w.heap.size + 1]? = (W.putObj (w.heap.size + 1) (.loop { rec .ready none with state := .busy })).heap[w.heap.size + 1]?) →
          (Instr.endRound (w.heap.size + 1) jump).run P W3 = .ok (.bool jump.isNone) (W3.putObj (w.heap.size + 1) (.loop (rec (if jump.isNone then .ready else .done) jump))) ∧
          (W3.putObj (w.heap.size + 1) (.loop (rec (if jump.isNone then .ready else .done) jump))).heap[w.heap.size + 1]? = some (.loop (rec (if jump.isNone then .ready else .done) jump)) ∧
          (W3.putObj (w.heap.size + 1) (.loop (rec (if jump.isNone then .ready else .done) jump))).heap[w.heap.size]? = some (.deferred (some [])) := fun jump W3 hk3 => by
        have hl3 := hk3.2.trans hl2
        have := run_endRound (P := P) jump hl3
        rw [hrec] at this ⊢
        exact ⟨this, World.putObj_heap_same (lt_of_obj hl3), (World.putObj_heap_other (by omega)).trans (hk3.1.trans hk2)⟩
      rintro e a3 W3 hp
      cases e with
      | normal =>
        obtain ⟨hk3, hi3⟩ := hp
        obtain ⟨hr, hl4, hk4⟩ := fin none W3 hk3
        exact ⟨_, _, hr, .inl ⟨rfl, hI _ _ _ _ (.inr rfl) hi3, hl4, hk4⟩⟩
      | ret =>
        obtain ⟨hk3, hi3⟩ := hp
        obtain ⟨hr, hl4, hk4⟩ := fin (some .ret) W3 hk3
        exact ⟨_, _, hr, .inr ⟨rfl, .ret, hIx _ _ _ _ (.inr rfl) hi3, hl4, hk4⟩⟩
      | exit id =>
        obtain ⟨hk3, hi3⟩ := hp
        obtain ⟨hr, hl4, hk4⟩ := fin (some (.exit id)) W3 hk3
        exact ⟨_, _, hr, .inr ⟨rfl, .exit id, hIx _ _ _ _ (.inr rfl) hi3, hl4, hk4⟩⟩
      | goto t => exact hp.elim
      | panic ch => exact hp.elim
      | outgrown => exact hp.elim
    · rintro e W2 ⟨⟨v, rfl⟩, (⟨hi, hl, hk⟩ | ⟨c, hi, hl, hk⟩)⟩
      · exact ⟨none, _, by have := run_endLoop (P := P) hl (by rw [hrec]; simp); rw [hrec] at this; exact this, hdone _ (by simpa using lt_of_obj hk) (hI _ _ _ _ (.inr rfl) hi) ((World.putObj_heap_other (by omega)).trans hk)⟩
      · exact ⟨some c, _, by have := run_endLoop (P := P) hl (by rw [hrec]; simp); rw [hrec] at this; exact this, hstop c _ (by simpa using lt_of_obj hk) (hIx _ _ _ _ (.inr rfl) hi) ((World.putObj_heap_other (by omega)).trans hk)⟩
end Go.Proofs.YtkmhilhfmfmckaaGreatDoor.Hand
namespace Go.Proofs.YtkmhilhfmfmckaaGreatDoor.Hand
set_option linter.unusedSimpArgs false
set_option linter.unusedVariables false
open Go.Shelf Go.RowKit Go.Proofs.YtkmhilhfmfmckaaGreatDoorW.PrintWords Go.Proofs.YtkmhilhfmfmckaaGreatDoorW.PrintLast Go.Proofs.YtkmhilhfmfmckaaGreatDoorW.PrintMore
attribute [local go_sem] Oper.semAt_some
theorem roundIn_any {m m' : Nat} {P : Program} {l : Nat} {f : FuncId} {tmps : Array Value} {assign body : Code} {w : World} {R : Ending → World → Prop} (h : RoundIn Fence.wide m P l f tmps assign body w R) : RoundIn Fence.wide m' P l f tmps assign body w R :=
  ⟨h.1, fun c cs _ => h.2 c cs (room_wide _)⟩
theorem round_calls {k0 : Nat} (own : Int) (w : World) :
    Calls Tryz.prog 66 #[.pointer (some ⟨k0, 0, none⟩), .int .i64 own] w fun e w' => e = .returned (.func (.func 133) #[] #[.pointer (some ⟨w.heap.size, 0, none⟩), .pointer (some ⟨w.heap.size + 1, 0, none⟩)]) ∧
      w' = (w.alloc (.cells #[.pointer (some ⟨k0, 0, none⟩)] 117)).alloc (.cells #[.int .i64 own] 3) := by
  go_enter Tryz.func66, Tryz.ntmps66
  go_wp2
  go_ret
  exact ⟨by simp, rfl⟩
set_option maxHeartbeats 1000000 in
theorem round1_iter {m n k0 bk bo l own : Nat} {A : Option Addr} {c : Nat} {Y : Nat → World → Prop} {N : World → Prop} {W : World}
    (hc : ∀ k W, Y k W → W.cell? ⟨bk, 0, none⟩ = some (.pointer (some ⟨k0, 0, none⟩)) ∧ W.cell? ⟨bo, 0, none⟩ = some (.int .i64 own) ∧ W.cell? ⟨k0, 10, none⟩ = some (.slice A n c))
    (h0 : Y 0 W) (hn : n ≤ 14) (ho : own ≤ 100000)
    (hY : ∀ k W, k < n → Y k W → YieldAt Fence.wide m Tryz.prog l #[.int .i64 ((own + k) % n : Nat)] W fun e W' => (e = .returned (.bool true) ∧ Y (k + 1) W') ∨ (e = .returned (.bool false) ∧ N W')) :
    CallsIn Fence.wide m Tryz.prog 133 #[.func (.yield l) #[] #[], .pointer (some ⟨bk, 0, none⟩), .pointer (some ⟨bo, 0, none⟩)] W fun e W' => (∃ v, e = .returned v) ∧ (Y n W' ∨ N W') := by
  obtain ⟨c1, c2, c3⟩ := hc 0 W h0
  have HC := Aside0.mk hc
  have HY := Aside0.mk hY
  have H0 := Aside0.mk h0
  clear hc hY h0
  refine callsIn_of_wp Tryz.func133 rfl trivial ?_ rfl
  simp only [Tryz.ntmps133, List.size_toArray, List.length_cons, List.length_nil, Nat.reduceAdd, Nat.reduceSub, Array.replicate_succ, Array.replicate_zero, List.push_toArray, List.append_toArray, List.nil_append, List.cons_append]
  gi_wp2
  gi_loopg [12] n (fun g v wr => ∃ k : Nat, v = .int .i64 (k : Nat) ∧ k + g = n ∧ Aside0 (Y k wr))
  case atStart => exact ⟨0, rfl, by omega, H0⟩
  case round =>
    obtain ⟨k, rfl, hkg, hy⟩ := hrel
    clear c1 c2 c3 H0
    obtain ⟨c1, c2, c3⟩ := HC.out k wr hy.out
    cases gk with
    | zero =>
      have hk : k = n := by omega
      subst hk
      have hy' := hy
      clear HY hy HC
      gi_wp2
      go_end0
      exact ⟨⟨_, rfl⟩, .inl hy'.out⟩
    | succ g =>
      have hkn : k < n := by omega
      obtain ⟨i, hi⟩ : ∃ i, (own + k) % n = i := ⟨_, rfl⟩
      have hil : i < n := by rw [← hi]; exact Nat.mod_lt _ (by omega)
      have ht : ((own : Int) + (k : Int)).tmod (n : Int) = (i : Int) := by
        rw [Int.tmod_eq_emod_of_nonneg (by omega), ← hi]
        simp
      have hyy := HY.out k wr hkn hy.out
      rw [hi] at hyy
      obtain ⟨fn, tmps, assign, body, hy', hR⟩ := hyy
      have HRR := Aside0.mk hR
      have i0 : ¬ (n : Int) = 0 := by omega
      have i1 : (k : Int) < (n : Int) := by omega
      have i2 : ((n : Int) == 0) = false := by rw [beq_eq_false_iff_ne]; omega
      have i3 : ¬ n = 0 := by omega
      clear hR hy HY HC hi
      gi_wp2
      refine ⟨fun h => (by cases h), (roundIn_any HRR.out).mono ?_⟩
      rintro e W3 (⟨rfl, hJ⟩ | ⟨rfl, hN⟩)
      · have HJ := Aside0.mk hJ
        clear hJ
        gi_wp2
        gi_roundg g
        case measure => omega
        case rel => exact ⟨k + 1, by go_num, by omega, HJ⟩
      · have HN := Aside0.mk hN
        clear hN
        gi_wp2
        refine bodyPost_ret (results_none rfl _ _ _) rfl ?_
        exact ⟨⟨_, rfl⟩, .inr HN.out⟩
end Go.Proofs.YtkmhilhfmfmckaaGreatDoor.Hand
namespace Go.Proofs.YtkmhilhfmfmckaaGreatDoor.Hand
set_option linter.unusedSimpArgs false
set_option linter.unusedVariables false
open Go.Shelf Go.RowKit Go.Proofs.YtkmhilhfmfmckaaGreatDoorW.PrintWords Go.Proofs.YtkmhilhfmfmckaaGreatDoorW.PrintLast Go.Proofs.YtkmhilhfmfmckaaGreatDoorW.PrintMore
def markB (b : List Int) (q : Nat) : List Int := b.set (q / 8) (Go.bits .or .u8 (b.getD (q / 8) 0) (2 ^ (q % 8)))
theorem markB_length (b : List Int) (i : Nat) : (markB b i).length = b.length := by simp [markB]
theorem allB_mark {b : List Int} (h : allB b) (i : Nat) : allB (markB b i) := allB_set h _ _ (bits_u8 _ _ _)
def maskI (held : List Bool) (fr : Nat) : Nat → Nat → List Int → List Int
  | 0, _, b => b
  | g + 1, q, b => maskI held fr g (q + 1) (if held.getD (fr + q) false = true then markB b q else b)
def takeAt (s : St) (x : Sup) (l : List Grp) (i fr zz bm : Nat) (f1 f2 : Int) : St × Int :=
  leaveI (dturnI s bm (zz - fr) f1 f2 true).1 s.hist.length (addFb x (-f2)) (setFb l i ((grpAt l i).fb + -f2)) (dturnI s bm (zz - fr) f1 f2 true).2
def tookAt (t : St × Int) (fr : Nat) (f1 f2 : Int) : St × Int × Int × Int := if t.2 ≠ 0 then (t.1, 0, 0, t.2) else (t.1, fr + f1, f2, 0)
def blkAt (s : St) (x : Sup) (l : List Grp) (i fr zz bm : Nat) (goal want : Int) : Option (St × Int × Int × Int) :=
  if chkB (s.now.getD bm []) (zz - fr) bm ≠ 0 then some (s, 0, 0, 117) else
  match findI (maskI s.held fr (zz - fr) 0 (s.now.getD bm [])) (if (zz : Int) ≤ goal then -1 else goal - fr) want with
  | (f1, f2, true) => some (tookAt (takeAt s x l i fr zz bm f1 f2) fr f1 f2)
  | (_, _, false) => none
def blkGo (s : St) (x : Sup) (l : List Grp) (own : Nat) (goal want : Int) : Nat → Nat → St × Int × Int × Int
  | 0, _ => (s, 0, 0, 28)
  | g + 1, k =>
    match blkAt s x l ((own + k) % l.length) (spanI x.geo ((own + k) % l.length : Nat)).1.toNat (spanI x.geo ((own + k) % l.length : Nat)).2.1.toNat (placeI x.geo ((own + k) % l.length : Nat)).1.toNat goal want with
    | some r => r
    | none => blkGo s x l own goal want g (k + 1)
def blocksI (s : St) (goal want : Int) : St × Int × Int × Int :=
  match sitI s.now with
  | none => (s, 0, 0, 117)
  | some (x, l) => if want < 1 then (s, 0, 0, 22) else blkGo s x l (if 0 ≤ goal ∧ goal < x.geo.blocks then (goal / x.geo.per).toNat else 0) goal want l.length 0
theorem geo_grp {g : Geo} (h : geoI g = 0) {i : Nat} (hi : (i : Int) < groupsI g) :
    ∃ fr zz bm : Nat, spanI g (i : Int) = ((fr : Int), (zz : Int), 0) ∧ placeI g (i : Int) = ((bm : Int), (bm : Int) + 1, (bm : Int) + 2, (bm : Int) + 2 + g.inodes / 2, 0) ∧ fr ≤ bm ∧ bm < zz ∧ (zz : Int) ≤ g.blocks ∧ zz - fr ≤ 2016 ∧ fr < zz := by
  have hz := geoI_zero h
  have hg := (groupsI_good (g := g) (i := (i : Int)) (by omega) hi).2.2
  have hp : 0 < g.per := by omega
  have hm : 0 ≤ (i : Int) * g.per := Int.mul_nonneg (by omega) (by omega)
  obtain ⟨i', fr, zz, bm, e1, e2, e3, e4, e5, e6, e7, e8, e9, e10, e11⟩ := geo_at h (a := (i : Int) * g.per) hm (by omega)
  rw [Int.mul_ediv_cancel _ (by omega)] at e1
  rw [← e1] at e3 e4
  exact ⟨fr, zz, bm, e3, e4, e5, by omega, e9, e10, e11⟩
theorem splitGo_cb : ∀ (g : Nat) (t : List Int) (a z : Nat), CB t a → a ≤ z → z ≤ a + g → CB (splitGo g t a z) z
  | 0, t, a, z, h, h1, h2 => by rw [splitGo]; exact h.mono h1
  | g + 1, t, a, z, h, h1, h2 => by
    rw [splitGo]
    split
    · have hd := (downK_spec (topK a) a z (by assumption)).2
      have hp : 1 ≤ 2 ^ downK (topK a) a z := Nat.one_le_two_pow
      exact splitGo_cb g _ _ z (h.put _ hp) hd (by omega)
    · exact h.mono h1
theorem budGo_cb (b : List Int) : ∀ (g i : Nat) (t : List Int) (fr : Int), (fr < 0 → CB t i) → (0 ≤ fr → fr.toNat ≤ i ∧ CB t fr.toNat) → CB (budGo b g i t fr) (i + g)
  | 0, i, t, fr, h1, h2 => by
    rw [budGo]
    by_cases hf : fr < 0
    · exact h1 hf
    · exact (h2 (by omega)).2.mono (h2 (by omega)).1
  | g + 1, i, t, fr, h1, h2 => by
    rw [budGo, show i + (g + 1) = (i + 1) + g by omega]
    split
    · split
      · have h := h2 (by assumption)
        exact budGo_cb b g (i + 1) _ _ (fun _ => (splitGo_cb _ _ _ _ h.2 h.1 (by omega)).mono (by omega)) (fun h => by omega)
      · exact budGo_cb b g (i + 1) _ _ (fun h => (h1 h).mono (by omega)) (fun h => by omega)
    · split
      · exact budGo_cb b g (i + 1) _ _ (fun h => by omega) (fun _ => ⟨by omega, by rw [Int.toNat_natCast]; exact h1 (by assumption)⟩)
      · exact budGo_cb b g (i + 1) _ _ (fun h => by omega) (fun h => ⟨by have := (h2 h).1; omega, (h2 h).2⟩)
theorem budI_cb (b : List Int) : CB (budI b) 2017 := by
  have := budGo_cb b 2017 0 (List.replicate 22 0) (-1) (fun _ => CB.zero) (fun h => by omega)
  simpa [budI] using this
theorem runGo_le (b : List Int) (goal want : Int) : ∀ (g n : Nat), runGo b goal want g n ≤ n + g
  | 0, n => Nat.le_refl _
  | g + 1, n => by
    rw [runGo]
    split
    · have := runGo_le b goal want g (n + 1); omega
    · omega
theorem dnGo_lt (t : List Int) : ∀ (k j : Nat), dnGo t k = some j → j < k
  | 0, j, h => by simp [dnGo] at h
  | k + 1, j, h => by
    rw [dnGo] at h
    split at h
    · cases h; omega
    · have := dnGo_lt t k j h; omega
theorem findI_range {b : List Int} {goal want f1 f2 : Int} (h : findI b goal want = (f1, f2, true)) : 0 ≤ f1 ∧ f1 ≤ 2017 ∧ 0 ≤ f2 ∧ f2 ≤ 2017 := by
  unfold findI at h
  split at h
  · cases h
  · split at h
    · rename_i h0 h1
      have hr := runGo_le b goal want 2017 0
      have hg : 0 ≤ goal ∧ goal < 2016 := by
        rw [runGo] at h1
        split at h1
        · rename_i h2
          have := setI_lt h2.2.2
          omega
        · omega
      simp only [Prod.mk.injEq, and_true] at h
      omega
    · have hc := budI_cb b
      unfold pickI at h
      split at h
      · rename_i k _
        have := hc.get k
        simp only [Prod.mk.injEq, and_true] at h
        omega
      · split at h
        · rename_i k hk
          have := hc.get k
          have h3 := dnGo_lt _ _ _ hk
          have h4 := Go.Lib.bitLen_le ((min want 1024).toNat - 1) 10 (by omega) (by omega)
          have h5 := pow_small k (by omega)
          simp only [Prod.mk.injEq, and_true] at h
          omega
        · cases h
end Go.Proofs.YtkmhilhfmfmckaaGreatDoor.Hand
