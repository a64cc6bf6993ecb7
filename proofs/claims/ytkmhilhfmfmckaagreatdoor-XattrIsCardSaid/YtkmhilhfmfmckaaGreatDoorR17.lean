/- Own texts and printed words of the kit, put together and trimmed by a program of mine (merge.py). -/
import Derived.Test.YtkmhilhfmfmckaaGreatDoorR16
namespace Go.Proofs.YtkmhilhfmfmckaaGreatDoor.Hand
set_option linter.unusedSimpArgs false
set_option linter.unusedVariables false
open Go.Shelf Go.RowKit Go.Proofs.YtkmhilhfmfmckaaGreatDoorW.PrintWords Go.Proofs.YtkmhilhfmfmckaaGreatDoorW.PrintLast Go.Proofs.YtkmhilhfmfmckaaGreatDoorW.PrintMore
def BmPost (x : Int) (w : World) (e : Ending) (w' : World) : Prop :=
 ∃ A c l B d m, e = .returned (.tuple #[.slice A (List.length l) c, .slice B (List.length m) d, .int .i64 x]) ∧ (Kd.C (Kd.int .u8) w' A l.length l ∧ l.length ≤ 256 ∧ (A = none → c = 0) ∧ ∀ ad, A = some ad → w.heap.size ≤ ad.block) ∧ (Kd.C (Kd.int .u8) w' B m.length m ∧ m.length ≤ 256 ∧ (B = none → d = 0) ∧ ∀ ad, B = some ad → w.heap.size ≤ ad.block) ∧ Below w.heap.size w w'
set_option maxHeartbeats 4000000 in
set_option maxRecDepth 100000 in
theorem rbitmaps_calls (g : Geo) (i : Nat) (w : World) (hz : geoI g = 0) (hi : (i : Int) < groupsI g) :
  Calls Tryz.prog 112 #[g.v, .int .i64 i] w (BmPost ((mkTo g i : Int) - mkDa g i) w) := by
 have HSP := Aside0.mk (fun W : World => rspan_calls g i W)
 have HPL := Aside0.mk (fun W : World => rplace_calls g i W)
 obtain ⟨fr, zz, bm, da, e3, e4, hr⟩ := geo_grp2 hz hi
 obtain ⟨m1, m2, m3, m4⟩ := mk_is e3 e4
 rw [m2, m4]
 rw [e3] at HSP
 rw [e4] at HPL
 have hzz := geoI_zero hz
 obtain ⟨B, P, I, J⟩ := g
 unfold Geo.v at HSP HPL ⊢
 dsimp only at HSP HPL hzz hr ⊢
 clear e3 e4 m1 m2 m3 m4 hz hi
 obtain ⟨r1, r2, r3, r4, r5, r6⟩ := hr
 obtain ⟨n, hn⟩ : ∃ n : Nat, (zz : Int) - (fr : Int) = (n : Int) := ⟨zz - fr, by omega⟩
 obtain ⟨ct, hct⟩ : ∃ ct : Nat, (da : Int) - (fr : Int) = (ct : Int) := ⟨da - fr, by omega⟩
 obtain ⟨bm1, hbm1⟩ : ∃ bm1 : Nat, (bm : Int) + 1 = (bm1 : Int) := ⟨bm + 1, by omega⟩
 obtain ⟨I', hI⟩ : ∃ I' : Nat, I = (I' : Int) := ⟨I.toNat, by omega⟩
 have HNW := Aside0.mk (fun W : World => hn ▸ rnewb_calls n bm W (by omega) (by omega) (by omega))
 have HNI := Aside0.mk (fun W : World => rnewb_calls I' bm1 W (by omega) (by omega) (by omega))
 have HTN := Aside0.mk (fun (A : Option Addr) (c : Nat) (b : List Int) (W : World) (h1 : Kd.C (Kd.int .u8) W A b.length b) (h2 : b.length ≤ c) (h3 : allB b) => hn ▸ hct ▸ rturnb_calls A c b n 0 ct true bm W h1 h2 h3 (by omega) (by omega) (by omega) (by omega) (by omega))
 rw [show ((0 : Nat) : Int) = 0 from rfl] at HTN
 rw [hbm1] at HPL
 subst hI
 have hzf : (fr : Int) ≤ (zz : Int) := by omega
 have hdf : (fr : Int) ≤ (da : Int) := by omega
 have hdz : (da : Int) ≤ (zz : Int) := by omega
 have hz4 : (zz : Int) ≤ 4096 := by omega
 have hwx : IntKind.u32.wrap (bm : Int) = (bm : Int) := by rw [IntKind.wrap_u32]; omega
 have hwy : IntKind.u32.wrap (bm1 : Int) = (bm1 : Int) := by rw [IntKind.wrap_u32]; omega
 clear hzz r1 r2 r3 r4 r5 r6 hn hct hbm1
 go_enter Tryz.func112, Tryz.ntmps112
 go_upto_region 1 with fail
 have hcells : ∀ (W : World), Below (w.alloc (.cells #[.int .i64 B, .int .i64 P, .int .i64 (I' : Int), .int .i64 J] 80)).heap.size (w.alloc (.cells #[.int .i64 B, .int .i64 P, .int .i64 (I' : Int), .int .i64 J] 80)) W → W.cell? ⟨w.heap.size, 0, none⟩ = some (.int .i64 B) ∧ W.cell? ⟨w.heap.size, 1, none⟩ = some (.int .i64 P) ∧ W.cell? ⟨w.heap.size, 2, none⟩ = some (.int .i64 (I' : Int)) ∧ W.cell? ⟨w.heap.size, 3, none⟩ = some (.int .i64 J) := fun W hb => by
  have hx := fun j v hj => pw_cell_below hb (cell_alloc w #[.int .i64 B, .int .i64 P, .int .i64 (I' : Int), .int .i64 J] 80 j v hj)
  exact ⟨hx 0 _ rfl, hx 1 _ rfl, hx 2 _ rfl, hx 3 _ rfl⟩
 have HB0 := Aside0.mk (below_alloc (Below.refl w.heap.size w) (.cells #[.int .i64 B, .int .i64 P, .int .i64 (I' : Int), .int .i64 J] 80))
 generalize w.alloc (.cells #[.int .i64 B, .int .i64 P, .int .i64 (I' : Int), .int .i64 J] 80) = W0 at hcells HB0 ⊢
 have HC := Aside0.mk hcells
 obtain ⟨d0, d1, d2, d3⟩ := hcells W0 (Below.refl _ _)
 clear hcells
 go_wp2_with fail
 refine (HSP.out W0).mono ?_
 rintro e w1 ⟨rfl, hb1⟩
 have HB1 := Aside0.mk hb1
 clear d0 d1 d2 d3
 obtain ⟨d0, d1, d2, d3⟩ := HC.out w1 hb1
 clear hb1
 dsimp only
 go_wp2_with fail
 refine (HPL.out w1).mono ?_
 rintro e w2 ⟨rfl, hb2⟩
 have HB2 := Aside0.mk (below_then HB1.out HB1.out.size hb2)
 clear d0 d1 d2 d3 hb2
 obtain ⟨d0, d1, d2, d3⟩ := HC.out w2 HB2.out
 dsimp only
 go_wp2_with fail
 with_reducible refine (HNW.out w2).mono ?_
 rintro e w3 ⟨A3, c3, l3, x3, rfl, hC3, hab3, hl3, hlc3, hn3, _, hb3⟩
 have HB3 := Aside0.mk (below_then HB2.out HB2.out.size hb3)
 have HT := Aside0.mk (HTN.out A3 c3 l3 w3 hC3 hlc3 hab3)
 clear d0 d1 d2 d3 hb3 hC3 hab3 hl3 hlc3 hn3
 obtain ⟨d0, d1, d2, d3⟩ := HC.out w3 HB3.out
 dsimp only
 go_wp2_with fail
 with_reducible refine HT.out.mono ?_
 rintro e w4 ⟨A4, c4, l4, x4, rfl, hC4, hab4, hl4, hlc4, hn4, hg4, hb4⟩
 have HB4 := Aside0.mk (below_then HB3.out HB3.out.size hb4)
 have H4 := Aside0.mk (And.intro hC4 (And.intro hl4 (And.intro hn4 (fun ad h => Nat.le_trans (Nat.le_trans HB0.out.size HB3.out.size) (hg4 ad h)))))
 clear d0 d1 d2 d3 hb4 hC4 hab4 hl4 hlc4 hn4 hg4 HT
 obtain ⟨d0, d1, d2, d3⟩ := HC.out w4 HB4.out
 dsimp only
 go_wp2_with fail
 with_reducible refine (HNI.out w4).mono ?_
 rintro e w5 ⟨A5, c5, l5, x5, rfl, hC5, hab5, hl5, hlc5, hn5, hg5, hb5⟩
 have HB5 := Aside0.mk (below_then HB4.out HB4.out.size hb5)
 have H5 := Aside0.mk (And.intro hC5 (And.intro hl5 (And.intro hn5 (fun ad h => Nat.le_trans (Nat.le_trans HB0.out.size HB4.out.size) (hg5 ad h)))))
 have HC4 := Aside0.mk (Kd.C_below H4.out.1 hb5)
 clear d0 d1 d2 d3 hb5 hC5 hab5 hl5 hlc5 hn5 hg5
 dsimp only
 go_wp2
 refine bodyPost_ret (results_tmp3 rfl _ _ _) rfl ?_
 exact ⟨A4, c4, l4, A5, c5, l5, rfl, ⟨HC4.out, H4.out.2.1, H4.out.2.2⟩, ⟨H5.out.1, H5.out.2.1, H5.out.2.2⟩, below_then HB0.out HB0.out.size HB5.out⟩
theorem infoIy : (Tryz.prog.info? 105).map (fun i => (i.zero, i.size, i.bytes)) = some (some (.slice none 0 0), 1, 24) := by kernel_rfl
theorem own_setw {w : World} {base e sz g n c : Nat} {cs : List Value} (h : w.ownsRow base e sz (.slice (some ⟨g, 0, none⟩) n c) n cs) (j : Nat) (x : Value) : (w.setCell ⟨g, j, none⟩ x).ownsRow base e sz (.slice (some ⟨g, 0, none⟩) n c) n (cs.set j x) := by
 refine ⟨by rw [List.length_set]; exact h.1, ?_⟩
 rcases h.2 with ⟨h0, _⟩ | ⟨g', cap, cur, hv, hb, hh, h1, h2, h3, h4⟩
 ·cases h0
 ·cases hv
  refine .inr ⟨g, c, cur.setIfInBounds j x, rfl, hb, ?_, h1, h2, by simpa using h3, ?_⟩
  ·unfold World.setCell
   simp only [Array.getElem?_modify, if_true, hh, Option.map_some]
   simp
  ·rw [Array.toList_setIfInBounds, List.take_set, h4]
theorem own_cells {w : World} {base e sz n : Nat} {v : Value} {cs : List Value} (h : w.ownsRow base e sz v n cs) (hp : 0 < n * sz) : ∃ g c, v = .slice (some ⟨g, 0, none⟩) n c ∧ base ≤ g ∧ g < w.heap.size ∧ n ≤ c ∧ (∀ j u, cs[j]? = some u → w.cell? ⟨g, j, none⟩ = some u) ∧ ∀ j, w.frozen? ⟨g, j, none⟩ = false := by
 have hl := h.1
 rcases h.2 with ⟨rfl, h0⟩ | ⟨g, c, cur, rfl, hb, hh, h1, h2, h3, h4⟩
 ·subst h0
  simp at hp
 ·refine ⟨g, c, rfl, hb, lt_of_obj hh, h1, fun j u hj => ?_, fun j => by simp [World.frozen?, hh]⟩
  rw [← h4, List.getElem?_take] at hj
  split at hj
  ·simp only [World.cell?, hh]
   simpa using hj
  ·cases hj
set_option maxHeartbeats 4000000 in
set_option maxRecDepth 100000 in
theorem rflush2_calls {D : Nat → Prop} {p N m : Nat} (w : World) (h : RDk w D p N m) (hm : m ≤ 1000000) (hN : N ≤ 100000) :
  Calls Tryz.prog 117 #[.pointer (some ⟨p, 0, none⟩)] w fun e w' => e = .returned (.tuple #[]) ∧ RDk w' D p N 0 ∧ Mod w w' D := by
 obtain ⟨Lv, Pv, kk, cs, ps, hst, ⟨hbp, hLD, hPD⟩, hL, hcs, hP, hps, hpb⟩ := h
 have HLD := Aside0.mk hLD
 obtain ⟨PA, Pc, rfl, _, _⟩ := own_shape hP
 have HP := Aside0.mk (And.intro hps hpb)
 have HST := Aside0.mk hst
 have HOP := Aside0.mk hP
 have hpl := hst.lt
 have HC := Aside0.mk (show ∃ cs', w.ownsRow 0 23 1 Lv N cs' ∧ (∀ q ∈ cs', q.oneCell' = true) from ⟨cs, hL, hcs⟩)
 have HB0 := Aside0.mk (Mod.refl w D)
 clear hst hL hcs hP hps hpb hPD hLD
 go_enter Tryz.func117, Tryz.ntmps117
 go_upto_region 0 with fail
 go_wp2
 go_loopg [2] m (fun g i wr => ∃ k : Nat, k + g = m ∧ i = .int .i64 k ∧ Aside0 (Strc wr p 176 [Lv, .slice PA m Pc, .int .i64 kk]) ∧ Aside0 (wr.ownsRow 0 207 2 (.slice PA m Pc) m ps) ∧ Aside0 (∃ cs', wr.ownsRow 0 23 1 Lv N cs' ∧ (∀ q ∈ cs', q.oneCell' = true)) ∧ Aside0 (Mod w wr D))
 case atStart => exact ⟨0, by omega, rfl, HST, HOP, HC, HB0⟩
 case round =>
  obtain ⟨k, hk, rfl, HS, HO, HCS, HB⟩ := hrel
  have hk0 := HS.out.cell 0 Lv rfl
  have hk1 := HS.out.cell 1 (.slice PA m Pc) rfl
  have hpw := HS.out.lt
  cases gk with
  | zero =>
   obtain rfl : k = m := by omega
   have hf1 := HS.out.free 1
   go_upto_region 5 with fail
   have hS5 := HS.out.set 1 (.slice none 0 0)
   have hm5 : Mod wr (wr.setCell ⟨p, 1, none⟩ (.slice none 0 0)) (· = p) := (Mod.refl wr (· = p)).set_own 1 _
   have hB5 : Mod w (wr.setCell ⟨p, 1, none⟩ (.slice none 0 0)) D := HB.out.setCell (p := ⟨p, 1, none⟩) (fun _ => hbp) _
   obtain ⟨cs', hL', hcs'⟩ := HCS.out
   have hL5 := own_mod hL' hm5 (fun g hg e => own_not_strc hL' HS.out (by decide) (by rw [hg, e]))
   have H5 := Aside0.mk (And.intro hS5 (And.intro hL5 (And.intro hcs' hB5)))
   clear hk0 hk1 hf1 hm5 hL' hcs'
   generalize wr.setCell ⟨p, 1, none⟩ (.slice none 0 0) = w5 at H5 hS5 hL5 hB5 ⊢
   have hk2 := hS5.cell 2 (.int .i64 kk) rfl
   have hf2 := hS5.free 2
   have hl5 := hS5.lt
   clear hS5 hL5 hB5
   go_wp2
   go_end0
   obtain ⟨x, hx⟩ : ∃ x, wrap64 (kk + 1) = x := ⟨_, rfl⟩
   rw [hx]
   have hm6 : Mod w5 (w5.setCell ⟨p, 2, none⟩ (.int .i64 x)) (· = p) := (Mod.refl w5 (· = p)).set_own 2 _
   exact ⟨rfl, ⟨Lv, .slice none 0 0, x, cs', [], H5.out.1.set 2 (.int .i64 x), ⟨hbp, HLD.out, fun k hk => by cases hk⟩, own_mod H5.out.2.1 hm6 (fun g hg e => own_not_strc H5.out.2.1 H5.out.1 (by decide) (by rw [hg, e])), H5.out.2.2.1, own_nil _ _ _ _, (fun q hq => nomatch hq), fun j hj => by omega⟩, H5.out.2.2.2.setCell (p := ⟨p, 2, none⟩) (fun _ => hbp) _⟩
  | succ g =>
   obtain ⟨b, yA, yn, yc, hb, hy1, hy2⟩ := HP.out.2 k (by omega)
   obtain ⟨gp, cp, e, hgp1, hgp2, _, hcell, _⟩ := own_cells HO.out (by omega)
   cases e
   obtain ⟨cs', hL', hcs'⟩ := HCS.out
   obtain ⟨gl, cl, rfl, hgl1, hgl2, hcl, hlcell, hlf⟩ := own_cells hL' (by omega)
   have p0 := hcell _ _ hy1
   have p1 := hcell _ _ hy2
   obtain ⟨z, hz⟩ : ∃ z, cs'[b]? = some z := ⟨_, List.getElem?_eq_getElem (by rw [hL'.1]; omega)⟩
   have l0 := hlcell _ _ hz
   have l1 := hlf b
   have HX := Aside0.mk (And.intro hL' hcs')
   have hbn : (b : Int) < (N : Int) := by omega
   have hkm : (k : Int) < (m : Int) := by omega
   have hkm' : k < m := by omega
   clear hgl1 hcell hlcell hlf hy1 hy2 hz hL' hcs'
   go_upto_region 3 with fail
   refine wp_region_in [0, 0, 0, 1, 0, 0, 0, 1, 0, 0, 0, 1, 0, 0, 0, 1, 0, 0, 0, 1, 0, 3] [21] (fun W => W.cell? ⟨p, 0, none⟩ = some (.slice (some ⟨gl, 0, none⟩) N cl) ∧ W.cell? ⟨p, 1, none⟩ = some (.slice (some ⟨gp, 0, none⟩) m Pc) ∧ W.cell? ⟨gp, k * 2, none⟩ = some (.int .i64 b) ∧ W.cell? ⟨gp, k * 2 + 1, none⟩ = some (.slice yA yn yc) ∧ W.cell? ⟨gl, b, none⟩ = some z ∧ W.frozen? ⟨gl, b, none⟩ = false) (by kernel_rfl) rfl (by kernel_rfl) (fun _ _ _ _ h => h) ⟨hk0, hk1, p0, p1, l0, l1⟩ ?_
   iterate 21 (first
    | (refine in_off0 (by rfl) ?_; simp only [Act.put, stA, stZ, stS, i64_w, i32_w])
    | (refine in_off1 (by rfl) ?_; simp only [Act.put, stA, stZ, stS, i64_w, i32_w])
    | (refine in_0 (v := ?_) (by rfl) rfl ?_ (a' := ?_) ?_ ?_; rotate_left; (intro w'; go_simp; with_reducible rfl); rotate_left; (simp only [Act.put, stA, stZ, stS, i64_w, i32_w]; rfl))
    | (refine in_1 (v := ?_) (by rfl) rfl ?_ (a' := ?_) ?_ ?_; rotate_left; (rintro w' hs; go_split_ands; go_simp; with_reducible rfl); rotate_left; (simp only [Act.put, stA, stZ, stS, i64_w, i32_w]; rfl)))
   refine in_3 (by rfl) (fun K hK => ?_)
   unfold Oper.wp execOp
   go_simp
   refine hK _ _ ?_
   clear hK K
   try simp only [Act.put, stA, stZ, stS, i64_w, i32_w]
   refine out_nil ?_
   have hL5 := pw_own_below (own_setw HX.out.1 b (.slice yA yn yc)) ((Below.refl _ _).drew)
   have hm5 : Mod wr (wr.setCell ⟨gl, b, none⟩ (.slice yA yn yc)).drew (· = gl) := ((Mod.refl wr (· = gl)).set_own b _).drew
   have hS5 := HS.out.mod hm5 (fun e => own_not_strc HX.out.1 HS.out (by decide) (by rw [e]; rfl))
   have hO5 := own_mod HO.out hm5 (fun g hg e => own_apart HO.out HX.out.1 (by decide) g hg (by rw [e]; rfl))
   have hc5 : ∀ q ∈ cs'.set b (.slice yA yn yc), q.oneCell' = true := fun q hq => by
    rcases List.mem_or_eq_of_mem_set hq with h | h
    ·exact HX.out.2 q h
    ·rw [h]; rfl
   have hB5 : Mod w (wr.setCell ⟨gl, b, none⟩ (.slice yA yn yc)).drew D := (HB.out.setCell (p := ⟨gl, b, none⟩) (fun _ => HLD.out gl rfl) _).drew
   have H5 := Aside0.mk (And.intro hS5 (And.intro hO5 (And.intro (show ∃ cs'', (wr.setCell ⟨gl, b, none⟩ (.slice yA yn yc)).drew.ownsRow 0 23 1 (.slice (some ⟨gl, 0, none⟩) N cl) N cs'' ∧ (∀ q ∈ cs'', q.oneCell' = true) from ⟨_, hL5, hc5⟩) hB5)))
   clear hL5 hm5 hS5 hO5 hc5 hB5 hk0 hk1 p0 p1 l0 l1
   generalize (wr.setCell ⟨gl, b, none⟩ (.slice yA yn yc)).drew = w5 at H5 ⊢
   go_wp2
   go_roundg g
   case measure => omega
   case rel => exact ⟨k + 1, by omega, by go_num, ⟨H5.out.1⟩, ⟨H5.out.2.1⟩, ⟨H5.out.2.2.1⟩, ⟨H5.out.2.2.2⟩⟩
set_option maxHeartbeats 40000000 in
set_option maxRecDepth 100000 in
theorem rnew6_calls {D : Nat → Prop} {p N m : Nat} (w : World) (h : RDk w D p N m) (h0 : 0 < N) (hN : N ≤ 100000) :
  Calls Tryz.prog 50 #[.pointer (some ⟨p, 0, none⟩), .int .i64 4, .int .i64 64] w fun e w' => ∃ q, e = .returned (.tuple #[.pointer (some ⟨q, 0, none⟩), .int .i64 0]) ∧ Below w.heap.size w w' := by
 obtain ⟨Lv, Pv, kk, cs, ps, hst, hbp, hL, hcs, hP, hps, hpb⟩ := h
 obtain ⟨LA, Lc, rfl, _, _⟩ := own_shape hL
 have hk0 := hst.cell 0 _ rfl
 have hNi : ¬ ((N : Int) = 0) := by omega
 have hNb : ((N : Int) == 0) = false := by rw [beq_eq_false_iff_ne]; omega
 clear hst hL hcs hP hps hpb
 go_enter Tryz.func50, Tryz.ntmps50
 go_upto_region 4 with fail
 have hmA := fun W : World => run_make_row' (P := Tryz.prog) 148 23 (.slice none 0 0) 24 Tryz.underlying148 infoBy rfl .i64 .i64 N (by omega) (by omega) W
 have hmB := fun W : World => run_make_row' (P := Tryz.prog) 149 4 (.bool false) 1 Tryz.underlying149 infoBo rfl .i64 .i64 N (by omega) (by omega) W
 have hmC : ∀ W : World, (Instr.makeSlice 154 (.int .i64 4) (.int .i64 4)).run Tryz.prog W = .ok (.slice (some ⟨W.heap.size, 0, none⟩) 4 4) (W.alloc (.cells (madeCells #[Value.slice none 0 0] 4) 105)) := fun W => run_make_row' (P := Tryz.prog) 154 105 (.slice none 0 0) 24 Tryz.underlying154 infoIy rfl .i64 .i64 4 (by omega) (by omega) W
 go_region
 all_goals (go_wp2; go_ret2; exact ⟨_, rfl, by repeat (first | exact Below.refl _ _ | apply Below.drew | apply below_alloc)⟩)
end Go.Proofs.YtkmhilhfmfmckaaGreatDoor.Hand
