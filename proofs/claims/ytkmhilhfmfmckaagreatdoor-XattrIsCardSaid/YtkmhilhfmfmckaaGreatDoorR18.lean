/- Own texts and printed words of the kit, put together and trimmed by a program of mine (merge.py). -/
import Derived.Test.YtkmhilhfmfmckaaGreatDoorR17
namespace Go.Proofs.YtkmhilhfmfmckaaGreatDoor.Hand
set_option linter.unusedSimpArgs false
set_option linter.unusedVariables false
open Go.Shelf Go.RowKit Go.Proofs.YtkmhilhfmfmckaaGreatDoorW.PrintWords Go.Proofs.YtkmhilhfmfmckaaGreatDoorW.PrintLast Go.Proofs.YtkmhilhfmfmckaaGreatDoorW.PrintMore
theorem RDk.shrink {w : World} {D : Nat → Prop} {p N m : Nat} (h : RDk w D p N m) : ∃ D1, RDk w D1 p N m ∧ (∀ k, D1 k → D k) ∧ ∀ k, D1 k → k < w.heap.size := by
 obtain ⟨Lv, Pv, k, cs, ps, h1, ⟨h2, h8, h9⟩, h3, h4, h5, h6, h7⟩ := h
 refine ⟨fun x => x = p ∨ Lv.ownBlock = some x ∨ Pv.ownBlock = some x, ⟨Lv, Pv, k, cs, ps, h1, ⟨.inl rfl, fun x hx => .inr (.inl hx), fun x hx => .inr (.inr hx)⟩, h3, h4, h5, h6, h7⟩, ?_, ?_⟩
 ·rintro x (rfl | hx | hx)
  ·exact h2
  ·exact h8 x hx
  ·exact h9 x hx
 ·rintro x (rfl | hx | hx)
  ·exact h1.lt
  ·exact own_lt h3 x hx
  ·exact own_lt h5 x hx
def RS (w0 : World) (D0 : Nat → Prop) (p N M : Nat) (w : World) (D : Nat → Prop) : Prop := ∃ m, RDk w D p N m ∧ m ≤ M ∧ (∀ k, D k → k < w.heap.size) ∧ (∀ k, D k → D0 k ∨ w0.heap.size ≤ k) ∧ Mod w0 w D0
theorem RS.mod {w0 w w1 : World} {D0 D S : Nat → Prop} {p N M : Nat} (h : RS w0 D0 p N M w D) (hm : Mod w w1 S) (hn : ∀ k, D k → ¬ S k) (hs : ∀ k, S k → D0 k ∨ w0.heap.size ≤ k) : RS w0 D0 p N M w1 D := by
 obtain ⟨m, h1, h2, h3, h4, h5⟩ := h
 exact ⟨m, h1.mod hm (fun k hk _ => hn k hk), h2, fun k hk => Nat.lt_of_lt_of_le (h3 k hk) hm.size, h4, h5.trans hm (fun k hk e => (hs k e).elim id (fun h => by omega))⟩
theorem RS.below {w0 w w1 : World} {D0 D : Nat → Prop} {p N M : Nat} (h : RS w0 D0 p N M w D) (hb : Below w.heap.size w w1) : RS w0 D0 p N M w1 D := h.mod (Mod.of_below hb (fun _ => False)) (fun _ _ => id) (fun _ h => h.elim)
theorem RS.more {w0 w : World} {D0 D : Nat → Prop} {p N M M' : Nat} (h : RS w0 D0 p N M w D) (hm : M ≤ M') : RS w0 D0 p N M' w D := by
 obtain ⟨m, h1, h2, h3⟩ := h
 exact ⟨m, h1, by omega, h3⟩
def RSPost (w0 : World) (D0 : Nat → Prop) (p N M : Nat) (D : Nat → Prop) (w : World) (e : Ending) (w' : World) : Prop := ∃ x D', e = .returned (.int .i64 x) ∧ RS w0 D0 p N (M + 1) w' D' ∧ (∀ k, D' k → D k ∨ w.heap.size ≤ k) ∧ Mod w w' D
theorem rstep {w0 w : World} {D0 D : Nat → Prop} {p N M : Nat} (h : RS w0 D0 p N M w D) (hM : M ≤ 100000) (hN : N ≤ 100000) (n : Nat) (A : Option Addr) (c : Nat) (b : List Int) (hn : n < N) (hb : Kd.C (Kd.int .u8) w A b.length b) (hnil : A = none → c = 0) (hl : b.length ≤ 1000) :
  Calls Tryz.prog 113 #[.pointer (some ⟨p, 0, none⟩), .int .i64 n, .slice A b.length c] w (RSPost w0 D0 p N M D w) := by
 obtain ⟨m, h1, h2, h3, h4, h5⟩ := h
 refine (rwrite2_calls n A c b w h1 (by omega) hN hn hb hnil hl).mono ?_
 rintro e w' ⟨D', x, m', he, hm', hr, hD, hm⟩
 obtain ⟨D1, g1, g2, g3⟩ := hr.shrink
 refine ⟨x, D1, he, ⟨m', g1, by omega, g3, fun k hk => (hD k (g2 k hk)).elim (h4 k) (fun h => .inr (by have := h5.size; omega)), h5.trans hm (fun k hk hd => (h4 k hd).elim id (fun h => by omega))⟩, fun k hk => hD k (g2 k hk), hm⟩
theorem bytesPost_reads {r : List Int × Int} {w w' : World} {e : Ending} (h : BytesPost r w e w') (hl : r.1.length ≤ 256) : ∃ A c l, e = .returned (.tuple #[.slice A (List.length l) c, .int .i64 r.2]) ∧ Kd.C (Kd.int .u8) w' A l.length l ∧ l.length ≤ 256 ∧ (A = none → c = 0) ∧ (∀ ad, A = some ad → w.heap.size ≤ ad.block) ∧ Below w.heap.size w w' := by
 obtain ⟨v, he, hb, h1, h2⟩ := h
 by_cases h0 : r.2 = 0
 ·obtain ⟨g, c, rfl, hg, _, hr⟩ := h1 h0
  exact ⟨some ⟨g, 0, none⟩, c, r.1, he, hr.reads (by omega), hl, (fun h => nomatch h), (fun ad h => by cases h; exact hg), hb⟩
 ·have := h2 h0
  subst this
  exact ⟨none, 0, [], he, C_int_nil _ _ _, by simp, (fun _ => rfl), (fun ad h => nomatch h), hb⟩
def MkInv (w0 : World) (D0 : Nat → Prop) (p N M q0 : Nat) (cs : List Value) (v : Value) (l : List Grp) (w : World) (D : Nat → Prop) : Prop := RS w0 D0 p N M w D ∧ ¬ D q0 ∧ w0.heap.size ≤ q0 ∧ Strc w q0 80 cs ∧ OwnG w w0.heap.size v l ∧ ∀ k, v.ownBlock = some k → ¬ D k
theorem MkInv.below {w0 : World} {D0 : Nat → Prop} {p N M q0 : Nat} {cs : List Value} {v : Value} {l : List Grp} {w w1 : World} {D : Nat → Prop} (h : MkInv w0 D0 p N M q0 cs v l w D) (hb : Below w.heap.size w w1) : MkInv w0 D0 p N M q0 cs v l w1 D := by
 obtain ⟨h1, h2, h3, h4, h5, h6⟩ := h
 exact ⟨h1.below hb, h2, h3, h4.below hb, h5.below hb, h6⟩
theorem MkInv.more {w0 : World} {D0 : Nat → Prop} {p N M M' q0 : Nat} {cs : List Value} {v : Value} {l : List Grp} {w : World} {D : Nat → Prop} (h : MkInv w0 D0 p N M q0 cs v l w D) (hm : M ≤ M') : MkInv w0 D0 p N M' q0 cs v l w D := ⟨h.1.more hm, h.2⟩
def MkPost (w0 : World) (D0 : Nat → Prop) (p N M q0 : Nat) (cs : List Value) (v : Value) (l : List Grp) (D : Nat → Prop) (w : World) (e : Ending) (w' : World) : Prop := ∃ x D', e = .returned (.int .i64 x) ∧ MkInv w0 D0 p N (M + 1) q0 cs v l w' D' ∧ Mod w w' D
theorem mkstep {w0 : World} {D0 : Nat → Prop} {p N M q0 : Nat} {cs : List Value} {v : Value} {l : List Grp} {w : World} {D : Nat → Prop} (h : MkInv w0 D0 p N M q0 cs v l w D) (hM : M ≤ 100000) (hN : N ≤ 100000) (n : Nat) (A : Option Addr) (c : Nat) (b : List Int) (hn : n < N) (hb : Kd.C (Kd.int .u8) w A b.length b) (hnil : A = none → c = 0) (hl : b.length ≤ 1000) :
  Calls Tryz.prog 113 #[.pointer (some ⟨p, 0, none⟩), .int .i64 n, .slice A b.length c] w (MkPost w0 D0 p N M q0 cs v l D w) := by
 obtain ⟨h1, h2, h3, h4, h5, h6⟩ := h
 refine (rstep h1 hM hN n A c b hn hb hnil hl).mono ?_
 rintro e w' ⟨x, D', he, hr, hD, hm⟩
 exact ⟨x, D', he, ⟨hr, fun hd => (hD _ hd).elim h2 (fun h => by have := h4.lt; omega), h3, h4.mod hm h2, own_mod h5 hm h6, fun k hk hd => (hD k hd).elim (h6 k hk) (fun h => by have := own_lt h5 k hk; omega)⟩, hm⟩
theorem MkInv.append {w0 : World} {D0 : Nat → Prop} {p N M q0 : Nat} {cs : List Value} {v v1 : Value} {l : List Grp} {x : Grp} {w w1 : World} {D : Nat → Prop} (h : MkInv w0 D0 p N M q0 cs v l w D) (h2 : w1.ownsRow w0.heap.size 144 3 v1 (l.length + 1) (l.flatMap gcells ++ gcells x)) (h3 : w.grownBy w1 v.ownBlock) (h5 : v1.ownBlock = v.ownBlock ∨ v1.ownBlock = some w.heap.size) : MkInv w0 D0 p N M q0 cs v1 (l ++ [x]) w1 D := by
 obtain ⟨a1, a2, a3, a4, a5, a6⟩ := h
 have hm := mod_grown h3
 refine ⟨a1.mod hm (fun k hk e => a6 k e hk) (fun k e => .inr (own_base a5 k e)), a2, a3, a4.mod hm (fun e => own_not_strc a5 a4 (by decide) e), ownG_snoc h2 rfl, fun k hk => ?_⟩
 rcases h5 with e | e
 ·exact a6 k (e ▸ hk)
 ·intro hd
  obtain ⟨m, _, _, hlt, _⟩ := a1
  have := hlt k hd
  have : k = w.heap.size := Option.some.inj (hk.symm.trans e)
  omega
def RMkPost (D : Nat → Prop) (p N : Nat) (w : World) (e : Ending) (w' : World) : Prop := ∃ D' x m', e = .returned (.int .i64 x) ∧ RDk w' D' p N m' ∧ (∀ k, D' k → D k ∨ w.heap.size ≤ k) ∧ Mod w w' D
set_option maxHeartbeats 8000000 in
set_option maxRecDepth 100000 in
theorem rmake_calls {D0 : Nat → Prop} {p N m0 : Nat} (g : Geo) (w : World) (h : RDk w D0 p N m0) (hm0 : m0 ≤ 100) (hz : geoI g = 0) (hN : g.blocks = N) :
  Calls Tryz.prog 49 #[.pointer (some ⟨p, 0, none⟩), g.v] w (RMkPost D0 p N w) := by
 have HCK := Aside0.mk (fun W : World => hz ▸ rgeo_calls g W)
 have HGR := Aside0.mk (fun W : World => rgrps_calls g W)
 have HFX := Aside0.mk (fun W : World => rfixed_calls g W)
 have HPL := Aside0.mk (fun (i : Nat) (W : World) => rplace_calls g i W)
 have HGG := Aside0.mk (fun (i : Nat) (hi : (i : Int) < groupsI g) => geo_grp2 hz hi)
 have HBM := Aside0.mk (fun (i : Nat) (W : World) (hi : (i : Int) < groupsI g) => rbitmaps_calls g i W hz hi)
 have hzz := geoI_zero hz
 have hgr := groupsI_range g
 have hmul : groupsI g * g.inodes ≤ 14 * 512 := Int.mul_le_mul hgr.2 hzz.2.2.1.2 (by omega) (by omega)
 have hmul0 : 0 ≤ groupsI g * g.inodes := Int.mul_nonneg hgr.1 (by omega)
 have hf := fixedI_sum hz
 have hf2 : 0 ≤ groupsI g * (2 + g.inodes / 2) := Int.mul_nonneg hgr.1 (by omega)
 obtain ⟨i0, hi, hz0, hz1, hz2⟩ := info_parts infoGrp
 obtain ⟨D, hD0, hD1, hD2⟩ := h.shrink
 have HRS := Aside0.mk (show RS w D0 p N 100 w D from ⟨m0, hD0, hm0, hD2, fun k hk => .inl (hD1 k hk), Mod.refl _ _⟩)
 obtain ⟨Lv, Pv, kk, cs, ps, hst, hdd, hL, hcs, hP, hps, hpb⟩ := hD0
 obtain ⟨LA, Lc, rfl, _, _⟩ := own_shape hL
 have hk0 := hst.cell 0 _ rfl
 have hpl := hst.lt
 have hDq : ¬ D w.heap.size := fun h => by have := hD2 _ h; omega
 have hg1 : 1 ≤ groupsI g := by
  unfold groupsI
  rw [if_pos hz]
  have : 0 ≤ (g.blocks - 1) / g.per := Int.ediv_nonneg (by omega) (by omega)
  omega
 have hsok : supOk ⟨g, g.blocks - fixedI g, groupsI g * g.inodes, 0, 0, false⟩ = true := by
  have hp : 8 ≤ groupsI g * g.inodes := by
   have := Int.mul_le_mul hg1 hzz.2.2.1.1 (by omega) (by omega)
   omega
  unfold supOk
  simp only [Bool.and_eq_true, decide_eq_true_eq, inI_iff]
  refine ⟨⟨⟨⟨by omega, by omega, by omega⟩, by omega, by omega⟩, by omega, by omega⟩, by omega, by omega⟩
 have HSP := Aside0.mk (fun W : World => rpsuper_calls ⟨g, g.blocks - fixedI g, groupsI g * g.inodes, 0, 0, false⟩ W hsok rfl)
 have HSL := Aside0.mk (show (psuperI ⟨g, g.blocks - fixedI g, groupsI g * g.inodes, 0, 0, false⟩).1.length ≤ 256 by unfold psuperI; rw [if_pos hsok]; dsimp only; rw [blockI_length]; omega)
 obtain ⟨gn, hgn⟩ : ∃ gn : Nat, groupsI g = gn := ⟨(groupsI g).toNat, by omega⟩
 rw [hgn] at HGR HSP HSL HGG HBM hgr hmul hmul0 hg1
 have HG1 := Aside0.mk hg1
 obtain ⟨f, hff⟩ : ∃ f, fixedI g = f := ⟨_, rfl⟩
 rw [hff] at HFX HSP HSL hf
 have hsum : 0 ≤ g.blocks - f ∧ g.blocks - f ≤ 4096 := by omega
 obtain ⟨B, P, I, J⟩ := g
 unfold Geo.v at HCK HGR HFX HPL HBM ⊢
 unfold Sup.v at HSP
 dsimp only at HCK HGR HFX HPL HBM HSP HSL hzz hmul hmul0 hN hsum ⊢
 subst hN
 have HMM := Aside0.mk (And.intro hmul (And.intro hmul0 (And.intro hsum (And.intro hgr hzz))))
 have hgn14 : gn ≤ 14 := by omega
 have hN4 : N ≤ 4096 := by omega
 have hwm : wrap64 ((gn : Int) * I) = (gn : Int) * I := by unfold wrap64; omega
 have hwb : wrap64 ((N : Int) - f) = (N : Int) - f := by unfold wrap64; omega
 have HWW := Aside0.mk (And.intro hwm hwb)
 clear hg1 hsok hf hf2 hmul hmul0 hsum hff hgn hwm hwb hD1 hst hdd hL hcs hP hps hpb hzz hgr
 go_enter Tryz.func49, Tryz.ntmps49
 go_upto_region 1 with fail
 have hq1 : Strc (w.alloc (.cells #[.int .i64 N, .int .i64 P, .int .i64 I, .int .i64 J] 80)) w.heap.size 80 [.int .i64 N, .int .i64 P, .int .i64 I, .int .i64 J] := alloc_last w _
 have hb1 := below_alloc (Below.refl w.heap.size w) (.cells #[.int .i64 N, .int .i64 P, .int .i64 I, .int .i64 J] 80)
 have HRS1 := Aside0.mk (HRS.out.below hb1)
 have hk1 := pw_cell_below hb1 hk0
 generalize w.alloc (.cells #[.int .i64 N, .int .i64 P, .int .i64 I, .int .i64 J] 80) = w1 at hq1 hb1 HRS1 hk1 ⊢
 obtain ⟨q0, hq0⟩ : ∃ q0, w.heap.size = q0 := ⟨_, rfl⟩
 rw [hq0] at hq1 hDq ⊢
 have HQ0 := Aside0.mk hq0
 have HQ1 := Aside0.mk hq1
 have d0 := hq1.cell 0 _ rfl
 have d1 := hq1.cell 1 _ rfl
 have d2 := hq1.cell 2 _ rfl
 have d3 := hq1.cell 3 _ rfl
 clear hk0 hb1 hq0 hq1
 refine wp_region_in [0, 0, 0, 1, 2, 0, 0, 0, 0, 0, 0, 1, 0, 0, 1, 0, 0] [] (fun W => W.cell? ⟨q0, 0, none⟩ = some (.int .i64 N) ∧ W.cell? ⟨q0, 1, none⟩ = some (.int .i64 P) ∧ W.cell? ⟨q0, 2, none⟩ = some (.int .i64 I) ∧ W.cell? ⟨q0, 3, none⟩ = some (.int .i64 J) ∧ W.cell? ⟨p, 0, none⟩ = some (.slice LA N Lc)) (by kernel_rfl) rfl (by kernel_rfl) (fun _ _ _ _ h => h) ⟨d0, d1, d2, d3, hk1⟩ ?_
 iterate 4 (first
  | (refine in_off0 (by rfl) ?_; simp only [Act.put, stA, stZ, stS, i64_w, i32_w])
  | (refine in_off1 (by rfl) ?_; simp only [Act.put, stA, stZ, stS, i64_w, i32_w])
  | (refine in_0 (v := ?_) (by rfl) rfl ?_ (a' := ?_) ?_ ?_; rotate_left; (intro w'; go_simp; with_reducible rfl); rotate_left; (simp only [Act.put, stA, stZ, stS, i64_w, i32_w]; rfl))
  | (refine in_1 (v := ?_) (by rfl) rfl ?_ (a' := ?_) ?_ ?_; rotate_left; (rintro w' hs; go_split_ands; go_simp; with_reducible rfl); rotate_left; (simp only [Act.put, stA, stZ, stS, i64_w, i32_w]; rfl)))
 refine in_2 (by rfl) (fun K hK => ?_)
 go_simp
 with_reducible refine (HCK.out _).mono ?_
 rintro e w2 ⟨rfl, hb2⟩
 dsimp only
 refine hK _ _ ⟨pw_cell_below (below_then ((Below.refl w1.heap.size w1).drew) (Nat.le_refl _) hb2) d0, pw_cell_below (below_then ((Below.refl w1.heap.size w1).drew) (Nat.le_refl _) hb2) d1, pw_cell_below (below_then ((Below.refl w1.heap.size w1).drew) (Nat.le_refl _) hb2) d2, pw_cell_below (below_then ((Below.refl w1.heap.size w1).drew) (Nat.le_refl _) hb2) d3, pw_cell_below (below_then ((Below.refl w1.heap.size w1).drew) (Nat.le_refl _) hb2) hk1⟩ ?_
 clear hK K
 try simp only [Act.put, stA, stZ, stS, i64_w, i32_w]
 iterate 12 (first
  | (refine in_off0 (by rfl) ?_; simp only [Act.put, stA, stZ, stS, i64_w, i32_w])
  | (refine in_off1 (by rfl) ?_; simp only [Act.put, stA, stZ, stS, i64_w, i32_w])
  | (refine in_0 (v := ?_) (by rfl) rfl ?_ (a' := ?_) ?_ ?_; rotate_left; (intro w'; go_simp; with_reducible rfl); rotate_left; (simp only [Act.put, stA, stZ, stS, i64_w, i32_w]; rfl))
  | (refine in_1 (v := ?_) (by rfl) rfl ?_ (a' := ?_) ?_ ?_; rotate_left; (rintro w' hs; go_split_ands; go_simp; with_reducible rfl); rotate_left; (simp only [Act.put, stA, stZ, stS, i64_w, i32_w]; rfl)))
 refine in_nil ?_
 have hb12 := below_then ((Below.refl w1.heap.size w1).drew) (Nat.le_refl _) hb2
 have HQ2 := Aside0.mk (HQ1.out.below hb12)
 have HRS2 := Aside0.mk (HRS1.out.below hb12)
 clear d0 d1 d2 d3 hk1 hb2 hb12
 go_upto_region 3 with fail
 have hgs := HQ0.out
 have hsz2 := HQ2.out.lt
 have HI2 := Aside0.mk (show MkInv w D0 p N 100 q0 [.int .i64 N, .int .i64 P, .int .i64 I, .int .i64 J] (.slice none 0 0) [] w2 D from ⟨HRS2.out, hDq, by omega, HQ2.out, own_nil _ _ _ _, fun k hk => by cases hk⟩)
 have d0 := HQ2.out.cell 0 _ rfl
 have d1 := HQ2.out.cell 1 _ rfl
 have d2 := HQ2.out.cell 2 _ rfl
 have d3 := HQ2.out.cell 3 _ rfl
 clear HQ1 HQ2 HRS1 HRS2 HRS hD2 hDq hpl
 go_wp2_with fail
 with_reducible refine (HGR.out w2).mono ?_
 rintro e w3 ⟨rfl, hb3⟩
 have HI3 := Aside0.mk (HI2.out.below hb3)
 clear d0 d1 d2 d3 hb3 HI2
 dsimp only
 go_upto_region 6 with fail
 go_loopg [6, 7, 8, 9, 10, 11, 12, 13, 14, 15, 16] gn (fun g v i v8 v9 v10 v11 v12 v13 v14 v15 v16 wr => ∃ k : Nat, k + g = gn ∧ i = .int .i64 k ∧ Aside0 (∃ l D, MkInv w D0 p N (100 + k * 300) q0 [.int .i64 N, .int .i64 P, .int .i64 I, .int .i64 J] v l wr D ∧ l.length = k ∧ l.all gOk = true))
 case atStart => exact ⟨0, by omega, rfl, ⟨[], D, HI3.out, rfl, rfl⟩⟩
 case round =>
  obtain ⟨k, hk, rfl, HI⟩ := hrel
  obtain ⟨l, D, hinv, hll, hlk⟩ := HI.out
  clear HI
  have HI := Aside0.mk (And.intro hinv (And.intro hll hlk))
  have hcs := hinv.2.2.2.1
  have d0 := hcs.cell 0 _ rfl
  have d1 := hcs.cell 1 _ rfl
  have d2 := hcs.cell 2 _ rfl
  have d3 := hcs.cell 3 _ rfl
  clear hinv hll hlk hcs
  cases gk with
  | zero =>
   obtain rfl : k = gn := by omega
   obtain ⟨Ag, cg, rfl, hcg, hgr⟩ := HI.out.1.2.2.2.2.1.reads
   have hlk := HI.out.2.1
   have hl1 : 1 ≤ l.length := by
    rw [hlk]
    have := HG1.out
    omega
   have hpg := rpgroups_calls Ag cg l wr hgr hl1 (by omega) HI.out.2.2
   rw [hlk] at hpg ⊢
   have HPG := Aside0.mk hpg
   have HPL2 := Aside0.mk (show (pgroupsI l).1.length ≤ 256 by
    unfold pgroupsI
    split
    ·dsimp only; rw [blockI_length]; omega
    ·simp)
   clear hpg hgr hl1 hlk hcg
   go_wp2_with fail
   with_reducible refine HPG.out.mono ?_
   intro e w2 hp2
   obtain ⟨A2, c2, b2, rfl, hr2, hlen2, hnil2, hap2, hb2⟩ := bytesPost_reads hp2 HPL2.out
   have HI2 := Aside0.mk (HI.out.1.below hb2)
   have HR2 := Aside0.mk (And.intro hr2 (And.intro hlen2 (And.intro hnil2 (show ∀ ad, A2 = some ad → ¬ D ad.block from fun ad hA hd => by
    obtain ⟨m, _, _, hlt, _⟩ := HI.out.1.1
    exact Nat.lt_irrefl _ (Nat.lt_of_lt_of_le (hlt _ hd) (hap2 ad hA))))))
   clear hp2 hb2 hr2 hlen2 hnil2 hap2 d0 d1 d2 d3
   have d0 := HI2.out.2.2.2.1.cell 0 _ rfl
   have d1 := HI2.out.2.2.2.1.cell 1 _ rfl
   have d2 := HI2.out.2.2.2.1.cell 2 _ rfl
   have d3 := HI2.out.2.2.2.1.cell 3 _ rfl
   dsimp only
   go_upto_region 18 with fail
   refine wp_region_ord [0, 1, 2, 3, 6, 7, 8, 9, 4, 5, 10, 11, 12, 13, 14, 15, 16] [1, 0, 1, 1, 0, 0, 1, 0, 2, 0, 0, 2, 0, 0, 0, 0, 0] (fun W => W.cell? ⟨q0, 0, none⟩ = some (.int .i64 N) ∧ W.cell? ⟨q0, 1, none⟩ = some (.int .i64 P) ∧ W.cell? ⟨q0, 2, none⟩ = some (.int .i64 I) ∧ W.cell? ⟨q0, 3, none⟩ = some (.int .i64 J)) (by kernel_rfl) rfl (by kernel_rfl) (fun _ _ _ _ h => h) ⟨d0, d1, d2, d3⟩ ?_
   iterate 8 (first
    | (refine inQ_off0 (by rfl) (by rfl) ?_; simp only [Act.put, stA, stZ, stS, i64_w, i32_w])
    | (refine inQ_off1 (by rfl) (by rfl) ?_; simp only [Act.put, stA, stZ, stS, i64_w, i32_w])
    | (refine inQ_0 (v := ?_) (by rfl) (by rfl) rfl ?_ (a' := ?_) ?_ ?_; rotate_left; (intro w'; go_simp; with_reducible rfl); rotate_left; (simp only [Act.put, stA, stZ, stS, i64_w, i32_w]; rfl))
    | (refine inQ_1 (v := ?_) (by rfl) (by rfl) rfl ?_ (a' := ?_) ?_ ?_; rotate_left; (rintro w' hs; go_split_ands; go_simp; with_reducible rfl); rotate_left; (simp only [Act.put, stA, stZ, stS, i64_w, i32_w]; rfl)))
   rw [HWW.out.1]
   refine inQ_2 (by rfl) (by rfl) (fun K hK => ?_)
   go_simp
   with_reducible refine (HFX.out _).mono ?_
   rintro e w3 ⟨rfl, hb3⟩
   dsimp only
   have hb23 := below_then ((Below.refl w2.heap.size w2).drew) (Nat.le_refl _) hb3
   have HI3 := Aside0.mk (HI2.out.below hb23)
   have HR3 := Aside0.mk (Kd.C_below HR2.out.1 hb23)
   have hcs3 := HI3.out.2.2.2.1
   have c0 := hcs3.cell 0 _ rfl
   have c1 := hcs3.cell 1 _ rfl
   have c2' := hcs3.cell 2 _ rfl
   have c3 := hcs3.cell 3 _ rfl
   refine hK _ _ ⟨c0, c1, c2', c3⟩ ?_
   clear hK K hb3 hb23 d0 d1 d2 d3 hcs3
   try simp only [Act.put, stA, stZ, stS, i64_w, i32_w]
   iterate 1 (first
    | (refine inQ_off0 (by rfl) (by rfl) ?_; simp only [Act.put, stA, stZ, stS, i64_w, i32_w])
    | (refine inQ_off1 (by rfl) (by rfl) ?_; simp only [Act.put, stA, stZ, stS, i64_w, i32_w])
    | (refine inQ_0 (v := ?_) (by rfl) (by rfl) rfl ?_ (a' := ?_) ?_ ?_; rotate_left; (intro w'; go_simp; with_reducible rfl); rotate_left; (simp only [Act.put, stA, stZ, stS, i64_w, i32_w]; rfl))
    | (refine inQ_1 (v := ?_) (by rfl) (by rfl) rfl ?_ (a' := ?_) ?_ ?_; rotate_left; (rintro w' hs; go_split_ands; go_simp; with_reducible rfl); rotate_left; (simp only [Act.put, stA, stZ, stS, i64_w, i32_w]; rfl)))
   rw [HWW.out.2]
   iterate 1 (first
    | (refine inQ_off0 (by rfl) (by rfl) ?_; simp only [Act.put, stA, stZ, stS, i64_w, i32_w])
    | (refine inQ_off1 (by rfl) (by rfl) ?_; simp only [Act.put, stA, stZ, stS, i64_w, i32_w])
    | (refine inQ_0 (v := ?_) (by rfl) (by rfl) rfl ?_ (a' := ?_) ?_ ?_; rotate_left; (intro w'; go_simp; with_reducible rfl); rotate_left; (simp only [Act.put, stA, stZ, stS, i64_w, i32_w]; rfl))
    | (refine inQ_1 (v := ?_) (by rfl) (by rfl) rfl ?_ (a' := ?_) ?_ ?_; rotate_left; (rintro w' hs; go_split_ands; go_simp; with_reducible rfl); rotate_left; (simp only [Act.put, stA, stZ, stS, i64_w, i32_w]; rfl)))
   have hsp := HSP.out w3
   refine inQ_2 (by rfl) (by rfl) (fun K hK => ?_)
   go_simp
   with_reducible refine hsp.mono ?_
   clear hsp
   intro e w4 hp4
   obtain ⟨A4, c4, b4, rfl, hr4, hlen4, hnil4, hap4, hb4⟩ := bytesPost_reads hp4 HSL.out
   dsimp only
   have hi4 := HI3.out.below hb4
   have HR4 := Aside0.mk (And.intro hr4 (And.intro hlen4 (And.intro hnil4 (show ∀ ad, A4 = some ad → ¬ D ad.block from fun ad hA hd => by
    obtain ⟨m, _, _, hlt, _⟩ := HI3.out.1
    exact Nat.lt_irrefl _ (Nat.lt_of_lt_of_le (hlt _ hd) (hap4 ad hA))))))
   have hs1 := mkstep hi4 (by omega) (by omega) 1 A2 c2 b2 (by have := HMM.out.2.2.2.2; omega) (Kd.C_below HR3.out hb4) HR2.out.2.2.1 (by have := HR2.out.2.1; omega)
   rw [show ((1 : Nat) : Int) = 1 from rfl] at hs1
   have HS1 := Aside0.mk hs1
   refine hK _ _ ⟨pw_cell_below hb4 c0, pw_cell_below hb4 c1, pw_cell_below hb4 c2', pw_cell_below hb4 c3⟩ ?_
   clear hK K hp4 hb4 hr4 hlen4 hnil4 hap4 hi4 hs1 c0 c1 c2' c3
   try simp only [Act.put, stA, stZ, stS, i64_w, i32_w]
   iterate 5 (first
    | (refine inQ_off0 (by rfl) (by rfl) ?_; simp only [Act.put, stA, stZ, stS, i64_w, i32_w])
    | (refine inQ_off1 (by rfl) (by rfl) ?_; simp only [Act.put, stA, stZ, stS, i64_w, i32_w])
    | (refine inQ_0 (v := ?_) (by rfl) (by rfl) rfl ?_ (a' := ?_) ?_ ?_; rotate_left; (intro w'; go_simp; with_reducible rfl); rotate_left; (simp only [Act.put, stA, stZ, stS, i64_w, i32_w]; rfl))
    | (refine inQ_1 (v := ?_) (by rfl) (by rfl) rfl ?_ (a' := ?_) ?_ ?_; rotate_left; (rintro w' hs; go_split_ands; go_simp; with_reducible rfl); rotate_left; (simp only [Act.put, stA, stZ, stS, i64_w, i32_w]; rfl)))
   refine inP_nil ?_
   go_wp2_with fail
   with_reducible refine HS1.out.mono ?_
   rintro e w5 ⟨x5, D5, rfl, hi5, hm5⟩
   have hs2 := mkstep hi5 (by omega) (by omega) 0 A4 c4 b4 (by have := HMM.out.2.2.2.2; omega) (C_int_mod HR4.out.1 hm5 HR4.out.2.2.2) HR4.out.2.2.1 (by have := HR4.out.2.1; omega)
   rw [show ((0 : Nat) : Int) = 0 from rfl] at hs2
   have HS2 := Aside0.mk hs2
   clear hi5 hm5 hs2
   dsimp only
   go_wp2_with fail
   with_reducible refine HS2.out.mono ?_
   rintro e w6 ⟨x6, D6, rfl, hi6, hm6⟩
   obtain ⟨⟨m6, g1, g2, g3, g4, g5⟩, _⟩ := hi6
   have HG := Aside0.mk (And.intro g4 g5)
   have HFL := Aside0.mk (rflush2_calls w6 g1 (by omega) (by omega))
   clear g1 g2 g3 g4 g5 hm6
   dsimp only
   go_wp2_with fail
   with_reducible refine HFL.out.mono ?_
   rintro e w7 ⟨rfl, hr7, hm7⟩
   have HE := Aside0.mk (And.intro hr7 hm7)
   clear hr7 hm7
   dsimp only
   go_wp2
   go_ret
   exact ⟨D6, 0, 0, rfl, HE.out.1, HG.out.1, HG.out.2.trans HE.out.2 (fun k hk hd => (HG.out.1 k hd).elim id (fun h => by omega))⟩
  | succ g =>
   have hlt : (k : Int) < (gn : Int) := by omega
   obtain ⟨fr, zz, bm, da, e3, e4, r1, r2, r3, r4, r5, r6⟩ := HGG.out k hlt
   obtain ⟨m1, m2, m3, m4⟩ := mk_is e3 e4
   have hpl := HPL.out k
   rw [e4] at hpl
   have hbm := fun W => HBM.out k W hlt
   rw [m2, m4] at hbm
   obtain ⟨bm1, hbm1⟩ : ∃ bm1 : Nat, (bm : Int) + 1 = (bm1 : Int) := ⟨bm + 1, by omega⟩
   obtain ⟨bm2, hbm2⟩ : ∃ bm2 : Nat, (bm : Int) + 2 = (bm2 : Int) := ⟨bm + 2, by omega⟩
   dsimp only at hpl r4
   rw [hbm1, hbm2] at hpl
   have HP := Aside0.mk hpl
   have HBMK := Aside0.mk hbm
   have hw3 : bm < N ∧ bm1 < N ∧ bm2 ≤ da ∧ da < N ∧ da - bm2 ≤ 256 ∧ 0 ≤ (zz : Int) - da ∧ (zz : Int) - da ≤ 65535 := by omega
   have HWW3 := Aside0.mk hw3
   clear e3 e4 m1 m2 m3 m4 hpl hbm r1 r2 r3 r4 r5 r6 hbm1 hbm2 hw3
   go_wp2_with fail
   with_reducible refine (HP.out wr).mono ?_
   rintro e w1 ⟨rfl, hb1⟩
   have HI1 := Aside0.mk (HI.out.1.below hb1)
   clear d0 d1 d2 d3 hb1
   have d0 := HI1.out.2.2.2.1.cell 0 _ rfl
   have d1 := HI1.out.2.2.2.1.cell 1 _ rfl
   have d2 := HI1.out.2.2.2.1.cell 2 _ rfl
   have d3 := HI1.out.2.2.2.1.cell 3 _ rfl
   dsimp only
   go_wp2_with fail
   with_reducible refine (HBMK.out w1).mono ?_
   rintro e w2 ⟨A, c, x, A', c', y, rfl, ⟨hA1, hA2, hA3, hA4⟩, ⟨hB1, hB2, hB3, hB4⟩, hb2⟩
   have HI2 := Aside0.mk (HI1.out.below hb2)
   have HDl := Aside0.mk (show ∀ k, D k → k < w1.heap.size from HI1.out.1.elim fun m h => h.2.2.1)
   have HST := Aside0.mk (mkstep HI2.out (by omega) (by omega) bm A c x HWW3.out.1 hA1 hA3 (by omega))
   have HBB := Aside0.mk (And.intro hB1 (And.intro hB2 (And.intro hB3 (fun ad h hd => Nat.lt_irrefl _ (Nat.lt_of_lt_of_le (HDl.out ad.block hd) (hB4 ad h))))))
   clear d0 d1 d2 d3 hb2 hA1 hA2 hA3 hA4 hB1 hB2 hB3 hB4
   dsimp only
   go_wp2_with fail
   with_reducible refine HST.out.mono ?_
   rintro e w3 ⟨x3, D3, rfl, hi3, hm3⟩
   have HI3 := Aside0.mk hi3
   have HST := Aside0.mk (mkstep hi3 (by omega) (by omega) bm1 A' c' y HWW3.out.2.1 (C_int_mod HBB.out.1 hm3 HBB.out.2.2.2) HBB.out.2.2.1 (by have := HBB.out.2.1; omega))
   clear hi3 hm3
   dsimp only
   go_wp2_with fail
   with_reducible refine HST.out.mono ?_
   rintro e w4 ⟨x4, D4, rfl, hi4, hm4⟩
   have HI4 := Aside0.mk hi4
   clear hi4 hm4 HST HI3 HBB HI2 HI1 HDl
   dsimp only
   have hmk : ∀ w : World, (Instr.makeSlice 23 (.int .i64 256) (.int .i64 256)).run Tryz.prog w = .ok (.slice (some ⟨w.heap.size, 0, none⟩) 256 256) (noughts w) := make256
   have HMK := Aside0.mk hmk
   clear hmk
   go_upto_region 13 with fail
   go_loopg [16] (da - bm2) (fun g v wr => ∃ j D, bm2 + j + g = da ∧ v = .int .i64 ((bm2 + j : Nat) : Int) ∧ Aside0 (MkInv w D0 p N (100 + k * 300 + 1 + 1 + j) q0 [.int .i64 N, .int .i64 P, .int .i64 I, .int .i64 J] u6 l wr D))
   case atStart => exact ⟨0, D4, by have := HWW3.out; omega, rfl, HI4⟩
   case round =>
    obtain ⟨j, D5, hj, rfl, HI5⟩ := hrel
    obtain ⟨nn, hnn⟩ : ∃ nn, bm2 + j = nn := ⟨_, rfl⟩
    rw [hnn]
    cases gk with
    | zero =>
     obtain rfl : nn = da := by omega
     have d0 := HI5.out.2.2.2.1.cell 0 _ rfl
     have d1 := HI5.out.2.2.2.1.cell 1 _ rfl
     have d2 := HI5.out.2.2.2.1.cell 2 _ rfl
     have d3 := HI5.out.2.2.2.1.cell 3 _ rfl
     have hba := below_alloc (Below.refl wr.heap.size wr) (.cells #[.int .i64 ((zz : Int) - (nn : Int)), .int .i64 I, .int .i64 0] 144)
     have hia := HI5.out.below hba
     have hx := alloc_last wr (.cells #[.int .i64 ((zz : Int) - (nn : Int)), .int .i64 I, .int .i64 0] 144)
     have hc1 : ∀ (j : Nat) (u : Value), [Value.int .i64 ((zz : Int) - (nn : Int)), .int .i64 I, .int .i64 0][j]? = some u → (wr.alloc (.cells #[.int .i64 ((zz : Int) - (nn : Int)), .int .i64 I, .int .i64 0] 144)).cell? ((⟨wr.heap.size, 0, none⟩ : Addr).add j) = some u := fun j u hj => by rw [add_plain]; exact (cell_of_obj (L := [Value.int .i64 ((zz : Int) - (nn : Int)), .int .i64 I, .int .i64 0]) hx j).trans hj
     have hc2 : ∀ u ∈ [Value.int .i64 ((zz : Int) - (nn : Int)), .int .i64 I, .int .i64 0], u.oneCell' = true := fun u hu => by
      simp only [List.mem_cons, List.not_mem_nil, or_false] at hu
      rcases hu with rfl | rfl | rfl <;> rfl
     have HIA := Aside0.mk hia
     have HCC := Aside0.mk (And.intro hc1 hc2)
     have hwd : w.heap.size ≤ (wr.alloc (.cells #[.int .i64 ((zz : Int) - (nn : Int)), .int .i64 I, .int .i64 0] 144)).heap.size := Nat.le_trans (Nat.le_trans hia.2.2.1 (Nat.le_of_lt hia.2.2.2.1.lt)) (Nat.le_refl _)
     have hl14 : l.length ≤ 14 := by have := HI.out.2.1; omega
     have hdz : (nn : Int) ≤ (zz : Int) := by have := HWW3.out; omega
     have hz4 : (zz : Int) ≤ 70000 := by have := HWW3.out; omega
     clear hba hia hx hc1 hc2
     go_upto_region 7 with (at_builtin; go_loud (refine wpList_append_own_at _ rfl (.tmp 79) (.tmp 84) 122 rfl w.heap.size 144 i0 (.agg #[.int .i64 0, .int .i64 0, .int .i64 0]) 3 24 Tryz.underlying122 hi hz0 hz1 hz2 rfl (by decide) _ l.length (l.flatMap gcells) rfl HIA.out.2.2.2.2.1 ⟨wr.heap.size, 0, none⟩ 1 1 [Value.int .i64 ((zz : Int) - (nn : Int)), .int .i64 I, .int .i64 0] rfl rfl HCC.out.1 HCC.out.2 (by simp only [maxLen]; omega) (by omega) hwd ?_; intro v1 w7 h2 h3 _ h5; have H2 := Aside0.mk (And.intro h2 (And.intro h3 h5)); clear h2 h3 h5))
     have HI7 := Aside0.mk (MkInv.append (x := ⟨(zz : Int) - (nn : Int), I, 0⟩) HIA.out H2.out.1 H2.out.2.1 H2.out.2.2)
     clear H2 d0 d1 d2 d3
     go_wp2
     go_roundg g
     case measure => omega
     case rel =>
      refine ⟨k + 1, by omega, by go_num, ⟨l ++ [⟨(zz : Int) - (nn : Int), I, 0⟩], D5, HI7.out.more (by have := HWW3.out; omega), by rw [List.length_append, HI.out.2.1]; rfl, ?_⟩⟩
      rw [List.all_append, HI.out.2.2]
      simp only [List.all_cons, List.all_nil, Bool.and_true, Bool.true_and]
      unfold gOk
      simp only [Bool.and_eq_true, inI_iff]
      have h1 := HWW3.out
      have h2 := HMM.out.2.2.2.2
      exact ⟨⟨⟨by omega, by omega⟩, by omega, by omega⟩, by omega, by omega⟩
    | succ g' =>
     have hnd : (nn : Int) < (da : Int) := by omega
     have hnb : nn ≤ 100000 := by have := HWW3.out; omega
     have hmk := HMK.out
     have hba : Below wr.heap.size wr (noughts wr) := below_alloc (Below.refl _ _) _
     have hrd : Row (noughts wr) .u8 wr.heap.size 5 (List.replicate 256 0) := row_last _ _ _ _
     have hst := mkstep (HI5.out.below hba) (by have := HWW3.out; omega) (by omega) nn (some ⟨wr.heap.size, 0, none⟩) 256 (List.replicate 256 0) (by have := HWW3.out; omega) (hrd.reads (by simp)) (fun h => nomatch h) (by simp)
     rw [List.length_replicate] at hst
     have HST := Aside0.mk hst
     have HNN := Aside0.mk hnn
     clear hba hrd hst hnn
     go_wp2_with fail
     with_reducible refine HST.out.mono ?_
     rintro e w6 ⟨x6, D6, rfl, hi6, hm6⟩
     have HI6 := Aside0.mk hi6
     clear hi6 hm6 HST hmk
     dsimp only
     go_wp2
     go_roundg g'
     case measure => omega
     case rel => exact ⟨j + 1, D6, by have := HNN.out; omega, by have := HNN.out; go_num, HI6⟩
end Go.Proofs.YtkmhilhfmfmckaaGreatDoor.Hand
