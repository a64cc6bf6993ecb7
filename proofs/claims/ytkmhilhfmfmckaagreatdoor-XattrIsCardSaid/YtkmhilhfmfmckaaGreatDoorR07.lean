/- Own texts and printed words of the kit, put together and trimmed by a program of mine (merge.py). -/
import Derived.Test.YtkmhilhfmfmckaaGreatDoorR06
import Derived.Lib.SliceRun
namespace Go.Proofs.YtkmhilhfmfmckaaGreatDoor.Hand
set_option linter.unusedSimpArgs false
set_option linter.unusedVariables false
open Go.Shelf Go.RowKit Go.Proofs.YtkmhilhfmfmckaaGreatDoorW.PrintWords Go.Proofs.YtkmhilhfmfmckaaGreatDoorW.PrintLast Go.Proofs.YtkmhilhfmfmckaaGreatDoorW.PrintMore
theorem forget1_calls (k x : Int) (p : Addr) (w : World) (hp : w.cell? p = some (.int .i64 x)) : Calls Tryz.prog 149 #[.int .i64 k, .pointer (some p)] w fun e w' => e = .returned (.bool (k == x)) ∧ w = w' := by
 go_enter Tryz.func149, Tryz.ntmps149
 go_wp2
 go_ret
 exact ⟨rfl, rfl⟩
set_option maxHeartbeats 1000000 in
set_option maxRecDepth 100000 in
theorem indexf_calls (A : Option Addr) (c : Nat) (l : List Int) (x : Int) (p : Addr) (w : World) (hl : Kd.C (Kd.int .i64) w A l.length l) (hn : l.length ≤ 1000) (hp : w.cell? p = some (.int .i64 x)) :
  Calls Tryz.prog 180 #[.slice A l.length c, .func (.func 149) #[] #[.pointer (some p)]] w fun e w' => ∃ r : Int, e = .returned (.int .i64 r) ∧ w = w' ∧ ((r = -1 ∧ ∀ j, j < l.length → l.getD j 0 ≠ x) ∨ ∃ i : Nat, r = i ∧ i < l.length) := by
 have HL := Aside0.mk hl
 clear hl
 go_enter Tryz.func180, Tryz.ntmps180
 go_wp2
 go_loopg [5, 8] l.length (fun g u i wr => ∃ k : Nat, k + g = l.length ∧ i = .int .i64 k ∧ Aside0 (∀ j, j < k → l.getD j 0 ≠ x) ∧ w = wr)
 case atStart => exact ⟨0, by omega, rfl, ⟨fun j hj => absurd hj (by omega)⟩, rfl⟩
 case round =>
  obtain ⟨k, hk, rfl, HN, rfl⟩ := hrel
  cases gk with
  | zero =>
   obtain rfl : k = l.length := by omega
   go_wp2
   go_ret
   exact ⟨-1, rfl, rfl, .inl ⟨rfl, HN.out⟩⟩
  | succ g =>
   obtain ⟨ad, rfl, hc⟩ := C_int_at HL.out k (by omega)
   obtain ⟨y, hy⟩ : ∃ y, l.getD k 0 = y := ⟨_, rfl⟩
   rw [hy] at hc
   have HY := Aside0.mk hy
   have i1 : (k : Int) < (l.length : Int) := by omega
   have i2 : k < l.length := by omega
   clear hy
   by_cases hyx : y = x
   ·subst hyx
    have hb : (y == y) = true := by simp
    go_wp2_with (go_at_call 149; refine (forget1_calls _ _ _ _ hp).mono ?_; rintro e w' ⟨rfl, rfl⟩)
    go_ret
    exact ⟨k, rfl, rfl, .inr ⟨k, rfl, i2⟩⟩
   ·have hb : (y == x) = false := by simpa using hyx
    go_wp2_with (go_at_call 149; refine (forget1_calls _ _ _ _ hp).mono ?_; rintro e w' ⟨rfl, rfl⟩)
    go_roundg g
    case measure => omega
    case rel => exact ⟨k + 1, by omega, by go_num, ⟨fun j hj => by
     by_cases e : j = k
     ·subst e
      rw [HY.out]
      exact hyx
     ·exact HN.out j (by omega)⟩, rfl⟩
theorem own_set {w : World} {base e g n c : Nat} {k : IntKind} {l : List Int} (h : w.ownsRow base e 1 (.slice (some ⟨g, 0, none⟩) n c) n (nums k l)) (j : Nat) (x : Int) (hj : j < n) : (w.setCell ⟨g, j, none⟩ (.int k x)).ownsRow base e 1 (.slice (some ⟨g, 0, none⟩) n c) n (nums k (l.set j x)) := by
 have hl : (nums k l).length = n * 1 := h.1
 refine ⟨by rw [nums_length, List.length_set]; rw [nums_length] at hl; exact hl, ?_⟩
 rcases h.2 with ⟨h0, _⟩ | ⟨g', cap, cur, hv, hb, hh, h1, h2, h3, h4⟩
 ·cases h0
 ·cases hv
  refine .inr ⟨g, c, cur.setIfInBounds j (.int k x), rfl, hb, ?_, h1, h2, by simpa using h3, ?_⟩
  ·unfold World.setCell
   simp only [Array.getElem?_modify, if_true, hh, Option.map_some]
   simp
  ·rw [Array.toList_setIfInBounds, List.take_set, h4]
   simp [nums, List.map_set]
theorem own_take {w : World} {base e g n c : Nat} {k : IntKind} {l : List Int} (h : w.ownsRow base e 1 (.slice (some ⟨g, 0, none⟩) n c) n (nums k l)) (i : Nat) (hi : i ≤ n) : w.ownsRow base e 1 (.slice (some ⟨g, 0, none⟩) i c) i (nums k (l.take i)) := by
 have hl : (nums k l).length = n * 1 := h.1
 refine ⟨by rw [nums_length, List.length_take]; rw [nums_length] at hl; omega, ?_⟩
 rcases h.2 with ⟨h0, _⟩ | ⟨g', cap, cur, hv, hb, hh, h1, h2, h3, h4⟩
 ·cases h0
 ·cases hv
  refine .inr ⟨g, c, cur, rfl, hb, hh, by omega, h2, h3, ?_⟩
  have : cur.toList.take (i * 1) = (cur.toList.take (n * 1)).take (i * 1) := by rw [List.take_take, Nat.min_eq_left (by omega)]
  rw [this, h4, Nat.mul_one]
  simp [nums, List.map_take]
theorem own_sets {base e g n c : Nat} {k : IntKind} (x : Int) (m : Nat) : ∀ (o : Nat) (w : World) (l : List Int), w.ownsRow base e 1 (.slice (some ⟨g, 0, none⟩) n c) n (nums k l) → o + m ≤ n →
  (∃ l', (w.setCells g o (List.replicate m (.int k x))).ownsRow base e 1 (.slice (some ⟨g, 0, none⟩) n c) n (nums k l') ∧ l'.length = l.length ∧ l'.take o = l.take o) ∧ Mod w (w.setCells g o (List.replicate m (.int k x))) (· = g) := by
 induction m with
 | zero => intro o w l h _; exact ⟨⟨l, h, rfl, rfl⟩, Mod.refl _ _⟩
 | succ m ih =>
  intro o w l h ho
  have h1 := own_set h o x (by omega)
  obtain ⟨⟨l', h2, h3, h4⟩, hm⟩ := ih (o + 1) _ _ h1 (by omega)
  refine ⟨⟨l', h2, by rw [h3, List.length_set], ?_⟩, ((Mod.refl w (· = g)).set_own o _).trans hm (fun _ _ e => e)⟩
  have h5 : (l'.take (o + 1)).take o = ((l.set o x).take (o + 1)).take o := by rw [h4]
  rw [List.take_take, List.take_take, Nat.min_eq_left (by omega)] at h5
  rw [h5, List.take_set_of_le (by omega)]
theorem infoIntS : (Tryz.prog.info? 3).map (fun i => (i.zero, i.size, i.bytes)) = some (some (.int .i64 0), 1, 8) := by kernel_rfl
theorem zero_int (w : World) : (zeroValue 3).run Tryz.prog w = .ok (.int .i64 0) w := by kernel_rfl
set_option maxHeartbeats 2000000 in
set_option maxRecDepth 100000 in
theorem deletef_calls (base : Nat) (v : Value) (l : List Int) (x : Int) (p : Addr) (w : World) (h : w.ownsRow base 3 1 v l.length (nums .i64 l)) (hn : l.length ≤ 1000) (hp : w.cell? p = some (.int .i64 x)) (hpb : v.ownBlock ≠ some p.block) :
  Calls Tryz.prog 148 #[v, .func (.func 149) #[] #[.pointer (some p)]] w fun e w' => ∃ v' l', e = .returned v' ∧ w'.ownsRow base 3 1 v' l'.length (nums .i64 l') ∧ l'.length ≤ l.length ∧ (0 < l.length → l.getD 0 0 = x → l'.length < l.length) ∧ (∀ x ∈ l', x ∈ l) ∧ (∀ g, v'.ownBlock = some g → v.ownBlock = some g) ∧ Mod w w' (fun k => v.ownBlock = some k) := by
 obtain ⟨A, c, rfl, hc, hA, _, _⟩ := own_shape h
 have hrd : Kd.C (Kd.int .i64) w A l.length l := by
  obtain ⟨A', c', e, _, hk⟩ := Own.reads (k := .i64) (show Own w base 3 .i64 (.slice A l.length c) l from h)
  cases e
  exact hk
 have HIX := Aside0.mk (indexf_calls A c l x p w hrd hn hp)
 have H := Aside0.mk h
 clear hrd h
 go_enter Tryz.func148, Tryz.ntmps148
 go_wp2_with fail
 refine HIX.out.mono ?_
 rintro e w' ⟨r, rfl, rfl, hr⟩
 dsimp only
 rcases hr with ⟨rfl, hno⟩ | ⟨i0, rfl, hi0⟩
 ·go_wp2
  go_ret
  exact ⟨_, l, rfl, H.out, Nat.le_refl _, fun h0 h1 => absurd h1 (hno 0 h0), fun _ => id, fun _ => id, Mod.refl _ _⟩
 ·have hneg : ((i0 : Int) == -1) = false := by rw [beq_eq_false_iff_ne]; omega
  obtain ⟨gb, rfl⟩ : ∃ gb, A = some ⟨gb, 0, none⟩ := by
   rcases H.out.2 with ⟨h0, h1⟩ | ⟨gb, cap, cur, h0, _⟩
   ·omega
   ·cases h0; exact ⟨gb, rfl⟩
  have hpg : ¬ p.block = gb := fun e => hpb (by rw [e]; rfl)
  go_wp2
  go_loopg [5, 6, 7] (l.length - i0 - 1) (fun g i j v wr => ∃ (ii jj : Nat) (lr : List Int), i = .int .i64 ii ∧ j = .int .i64 jj ∧ ii < jj ∧ jj + g = l.length ∧ Aside0 (∀ x ∈ lr, x ∈ l) ∧ Aside0 (wr.ownsRow base 3 1 (.slice (some ⟨gb, 0, none⟩) l.length c) l.length (nums .i64 lr)) ∧ Aside0 (Mod w wr (· = gb)))
  case atStart => exact ⟨i0, i0 + 1, l, rfl, by go_num, by omega, by omega, ⟨fun _ => id⟩, H, ⟨Mod.refl _ _⟩⟩
  case round =>
   obtain ⟨ii, jj, lr, rfl, rfl, hij, hjg, HIN, HO, HM⟩ := hrel
   have hlr : lr.length = l.length := by have := HO.out.1; rw [nums_length, Nat.mul_one] at this; exact this
   have HLR := Aside0.mk hlr
   clear hlr
   cases gk with
   | zero =>
    obtain rfl : jj = l.length := by omega
    have hrow := HO.out
    have hcl : ∀ ty, (Builtin.clear_ #[105] ty #[.slice (some ⟨gb, ii, none⟩) (l.length - ii) (c - ii)]).run Tryz.prog wr = .ok (.tuple #[]) (wr.setCells gb ii (List.replicate (l.length - ii) (.int .i64 0))) := fun ty => by
     obtain ⟨_, h2⟩ := hrow
     rcases h2 with ⟨h0, _⟩ | ⟨g', cap, cur, hv, hb, hh, h1, h2, h3, h4⟩
     ·cases h0
     ·cases hv
      refine Lib.run_clear_slice wr 105 3 ty (.int .i64 0) Tryz.underlying105 zero_int rfl rfl gb ii _ _ (by omega) (fun j hj => ?_) (fun j hj => ?_)
      ·rw [cell_of_row wr gb _ cur _ _ hh]
       simp
       omega
      ·simp [World.frozen?, hh]
    obtain ⟨⟨l', ho', hl', htk⟩, hm'⟩ := own_sets (x := 0) (l.length - ii) ii wr lr hrow (by omega)
    have HO2 := Aside0.mk (own_take ho' ii (by omega))
    have HM2 := Aside0.mk (HM.out.trans hm' (fun _ _ e => e))
    have hln : (l'.take ii).length = ii := by rw [List.length_take, hl', HLR.out]; omega
    have HLN := Aside0.mk hln
    have HSUB := Aside0.mk (show ∀ x ∈ l'.take ii, x ∈ l from fun x hx => HIN.out x (by rw [htk] at hx; exact List.mem_of_mem_take hx))
    clear ho' hm' hrow hl' hln htk
    go_wp2
    go_ret
    exact ⟨_, l'.take ii, rfl, by rw [HLN.out]; exact HO2.out, by rw [HLN.out]; omega, fun _ _ => by rw [HLN.out]; omega, HSUB.out, fun g hg => hg, HM2.out.mono (fun k _ e => by rw [e]; rfl)⟩
   | succ g =>
    have hy0 : wr.cell? ⟨gb, jj, none⟩ = some (.int .i64 (lr.getD jj 0)) := by
     have := HO.out.cells (g := gb) rfl jj (.int .i64 (lr.getD jj 0)) (by simp [nums, List.getD_eq_getElem?_getD, HLR.out, show jj < l.length by omega])
     rwa [add_plain] at this
    have hy1 : (wr.cell? ⟨gb, ii, none⟩).isSome = true := by
     have := HO.out.cells (g := gb) rfl ii (.int .i64 (lr.getD ii 0)) (by simp [nums, List.getD_eq_getElem?_getD, HLR.out, show ii < l.length by omega])
     rw [add_plain] at this
     rw [this]
     rfl
    have hy2 : wr.cell? ⟨gb, ii, none⟩ = some (.int .i64 (lr.getD ii 0)) := by
     have := HO.out.cells (g := gb) rfl ii (.int .i64 (lr.getD ii 0)) (by simp [nums, List.getD_eq_getElem?_getD, HLR.out, show ii < l.length by omega])
     rwa [add_plain] at this
    have hfz : wr.frozen? ⟨gb, ii, none⟩ = false := by
     rcases HO.out.2 with ⟨h0, _⟩ | ⟨g', cap, cur, hv, hb, hh, h1, h2, h3, h4⟩
     ·cases h0
     ·cases hv; simp [World.frozen?, hh]
    have hpp := HM.out.cell hp hpg
    obtain ⟨y, hy⟩ : ∃ y, lr.getD jj 0 = y := ⟨_, rfl⟩
    obtain ⟨z, hz⟩ : ∃ z, lr.getD ii 0 = z := ⟨_, rfl⟩
    rw [hy] at hy0
    rw [hz] at hy2
    have HSET := Aside0.mk (own_set HO.out ii y (by omega))
    have HYM := Aside0.mk (show y ∈ l from HIN.out y (by rw [← hy, List.getD_eq_getElem?_getD, List.getElem?_eq_getElem (by rw [HLR.out]; omega)]; exact List.getElem_mem _))
    have i1 : (jj : Int) < (l.length : Int) := by omega
    have i2 : jj < l.length := by omega
    have i3 : (ii : Int) < (l.length : Int) := by omega
    have i4 : ii < l.length := by omega
    clear hy hz
    cases hyx : (y == x)
    ·go_wp2_with (go_at_call 149; (refine (forget1_calls _ _ _ _ hpp).mono ?_; rintro e w' ⟨rfl, rfl⟩; rw [hyx]))
     go_roundg g
     case measure => omega
     case rel => exact ⟨ii + 1, jj + 1, lr.set ii y, by go_num, by go_num, by omega, by omega, ⟨fun x hx => (List.mem_or_eq_of_mem_set hx).elim (HIN.out x) (fun e => e ▸ HYM.out)⟩, HSET, ⟨HM.out.set_own _ _⟩⟩
    ·go_wp2_with (go_at_call 149; (refine (forget1_calls _ _ _ _ hpp).mono ?_; rintro e w' ⟨rfl, rfl⟩; rw [hyx]))
     go_roundg g
     case measure => omega
     case rel => exact ⟨ii, jj + 1, lr, rfl, by go_num, by omega, by omega, HIN, HO, HM⟩
set_option maxHeartbeats 2000000 in
set_option maxRecDepth 100000 in
theorem forget_calls (gs o mb N : Nat) (cs : List Value) (ov : Value) (ol : List Int) (n : Nat) (f : Int → Option Value) (w : World) (hst : Strc w gs 107 cs) (h0 : cs[o]? = some ov) (h1 : cs[o + 1]? = some (.map (some mb)))
  (hov : w.ownsRow 0 3 1 ov ol.length (nums .i64 ol)) (hl : ol.length ≤ 1000) (hm : IM Tryz.prog 3 w mb N f) (hn : n < 9223372036854775808) :
  Calls Tryz.prog 86 #[.pointer (some ⟨gs, o, none⟩), .int .i64 n] w fun e w' => ∃ ov' ol', e = .returned (.tuple #[]) ∧ Strc w' gs 107 (cs.set o ov') ∧ w'.ownsRow 0 3 1 ov' ol'.length (nums .i64 ol') ∧ ol'.length ≤ ol.length ∧ (0 < ol.length → ol.getD 0 0 = n → ol'.length < ol.length) ∧ (∀ x ∈ ol', x ∈ ol) ∧ (∀ g, ov'.ownBlock = some g → ov.ownBlock = some g) ∧
   IM Tryz.prog 3 w' mb N (fun y => if y = (n : Int) then none else f y) ∧ Mod w w' (fun k => k = gs ∨ k = mb ∨ ov.ownBlock = some k) := by
 obtain ⟨A, c, rfl, hc, hA, _, _⟩ := own_shape hov
 have hne1 : (107 : TypeId) ≠ 3 := by decide
 have hng : mb ≠ gs := hst.not_map hm
 have hnm : (Value.slice A ol.length c).ownBlock ≠ some mb := own_not_map hov hm
 have hns : (Value.slice A ol.length c).ownBlock ≠ some gs := own_not_strc hov hst hne1
 have hbox := cell_alloc w #[.int .i64 n] 3 0 _ rfl
 have hb1 : Below w.heap.size w (w.alloc (.cells #[.int .i64 n] 3)) := below_alloc (Below.refl _ _) _
 have hst1 := hst.below hb1
 have hov1 := own_mod hov (Mod.of_below hb1 (fun _ => False)) (fun _ _ => id)
 have hm1 := hm.below hb1
 have hgl := hst.lt
 have hml := hm.lt
 have hol := own_lt hov
 have k0 := hst1.cell o _ h0
 have k1 := hst1.cell (o + 1) _ h1
 have HB1 := Aside0.mk hb1
 have HST1 := Aside0.mk hst1
 have HOV1 := Aside0.mk hov1
 have HM1 := Aside0.mk hm1
 have HC := Aside0.mk (And.intro h0 h1)
 clear hst h0 h1 hov hm hst1 hov1 hm1 hb1
 go_enter Tryz.func86, Tryz.ntmps86
 go_wp2
 generalize hW : w.alloc (.cells #[.int .i64 n] 3) = W at hbox k0 k1 HB1 HST1 HOV1 HM1 ⊢
 have hbl : w.heap.size < W.heap.size := by rw [← hW, World.size_alloc]; omega
 clear hW
 refine wp_region_in [0, 0, 0, 1, 1, 3] [5] (fun w' => w'.cell? ⟨gs, o + 1, none⟩ = some (.map (some mb)) ∧ w'.cell? ⟨w.heap.size, 0, none⟩ = some (.int .i64 n)) (by kernel_rfl) rfl (by kernel_rfl) (fun _ _ _ _ h => h) ⟨k1, hbox⟩ ?_
 iterate 5 (first
  | (refine in_off0 (by rfl) ?_; simp only [Act.put, stA, stZ, stS, i64_w, i32_w])
  | (refine in_off1 (by rfl) ?_; simp only [Act.put, stA, stZ, stS, i64_w, i32_w])
  | (refine in_0 (v := ?_) (by rfl) rfl ?_ (a' := ?_) ?_ ?_; rotate_left; (intro w'; go_simp; with_reducible rfl); rotate_left; (simp only [Act.put, stA, stZ, stS, i64_w, i32_w]; rfl))
  | (refine in_1 (v := ?_) (by rfl) rfl ?_ (a' := ?_) ?_ ?_; rotate_left; (rintro w' hs; go_split_ands; go_simp; with_reducible rfl); rotate_left; (simp only [Act.put, stA, stZ, stS, i64_w, i32_w]; rfl)))
 refine in_3 (by rfl) (fun K hK => ?_)
 refine wp_im_drop _ _ _ rfl Tryz.underlying3 Tryz.underlying98 rfl (HM1.out.kept (w1 := W.drew) rfl) n hn rfl ?_
 intro w2 hm2 hmod2 hsz2
 refine hK _ _ ?_
 clear hK K
 try simp only [Act.put, stA, stZ, stS, i64_w, i32_w]
 refine out_nil ?_
 have hmod2' : Mod W w2 (· = mb) := (Mod.refl W (· = mb)).drew.trans hmod2 (fun _ _ e => e)
 have hst2 := HST1.out.mod hmod2' (fun e => hng e.symm)
 have hov2 := own_mod HOV1.out hmod2' (fun g hg e => hnm (e ▸ hg))
 have hbx2 := hmod2'.cell hbox (show ¬ w.heap.size = mb by omega)
 have HM2 := Aside0.mk hm2
 have HST2 := Aside0.mk hst2
 have HMOD2 := Aside0.mk hmod2'
 have k20 := hst2.cell o _ HC.out.1
 have HDF := Aside0.mk (deletef_calls 0 (.slice A ol.length c) ol n ⟨w.heap.size, 0, none⟩ w2 hov2 hl hbx2 (fun e => by have := hol _ e; simp at this))
 clear hm2 hmod2 hmod2' hst2 hov2 hbx2 k0 k1 hbox
 go_wp2_with fail
 refine HDF.out.mono ?_
 rintro e w3 ⟨v3, l3, rfl, ho3, hle3, hlt3, hsb3, hob3, hm3⟩
 obtain ⟨A3, c3, rfl, _, _, _, _⟩ := own_shape ho3
 have hst3 := HST2.out.mod hm3 hns
 have hz3 := hst3.free o
 have hk3 := hst3.cell o _ HC.out.1
 have hl3 := hst3.lt
 have HST3 := Aside0.mk hst3
 have HO3 := Aside0.mk ho3
 have HM3 := Aside0.mk hm3
 have HP := Aside0.mk (And.intro hle3 (And.intro hlt3 (And.intro hsb3 hob3)))
 clear hst3 ho3 hm3 hle3 hlt3 hsb3 hob3 k20
 dsimp only
 go_wp2
 go_end0
 have hfm : Mod w3 (w3.setCell ⟨gs, o, none⟩ (.slice A3 l3.length c3)) (· = gs) := (Mod.refl _ _).set_own o _
 refine ⟨_, l3, rfl, HST3.out.set o _, own_mod HO3.out hfm (fun g hg e => by subst e; exact hns (HP.out.2.2.2 g hg)), HP.out.1, HP.out.2.1, HP.out.2.2.1, HP.out.2.2.2, (HM2.out.mod HM3.out (fun e => hnm e)).mod hfm hng, ?_⟩
 exact (((Mod.of_below HB1.out _).trans HMOD2.out (fun i _ e => .inr (.inl e))).trans HM3.out (fun i _ e => .inr (.inr e))).trans hfm (fun i _ e => .inl e)
structure ShardAt (w : World) (M R : Nat → Prop) (L : List (List Int)) (room : Nat) (X : Nat → Prop) (cs : List Value) (i : Nat) (ov : Value) (ol : List Int) (mb : Nat) (f : Int → Option Value) : Prop where
 h0 : cs[2 * i]? = some ov
 h1 : cs[2 * i + 1]? = some (.map (some mb))
 own : w.ownsRow 0 3 1 ov ol.length (nums .i64 ol)
 len : ol.length ≤ room
 rng : ∀ x ∈ ol, 0 ≤ x ∧ x < 4096
 mo : ∀ g, ov.ownBlock = some g → M g
 mm : M mb
 nx : ¬ X mb
 map : IM Tryz.prog 3 w mb 4096 f
 good : ∀ x v, f x = some v → HB w R v (L.getD x.toNat [])
def Apart (ns : Nat) (cs : List Value) : Prop := ∀ i j, i < ns → j < ns → i ≠ j → ∀ g oi oj, cs[2 * i]? = some oi → cs[2 * j]? = some oj → oi.ownBlock = some g → oj.ownBlock ≠ some g
def Cache (w : World) (M R : Nat → Prop) (L : List (List Int)) (room ns gs : Nat) (X : Nat → Prop) : Prop :=
 ∃ cs, Strc w gs 107 cs ∧ 2 * ns ≤ cs.length ∧ (∀ i, i < ns → ∃ ov ol mb f, ShardAt w M R L room X cs i ov ol mb f) ∧ Apart ns cs
theorem HB.mod {w w1 : World} {R S : Nat → Prop} {v : Value} {l : List Int} (h : HB w R v l) (hm : Mod w w1 S) (hn : ∀ k, R k → ¬ S k) : HB w1 R v l :=
 h.kept (fun g hd hr => hm.block g hr.lt (hn g hd))
theorem Cache.mod {w w1 : World} {M R S : Nat → Prop} {L : List (List Int)} {room ns gs : Nat} {X : Nat → Prop} (h : Cache w M R L room ns gs X) (hm : Mod w w1 S) (hn : ∀ k, M k → ¬ S k) (hr : ∀ k, R k → ¬ S k) (hg : ¬ S gs) : Cache w1 M R L room ns gs X := by
 obtain ⟨cs, h1, h2, h3, h4⟩ := h
 refine ⟨cs, h1.mod hm hg, h2, fun i hi => ?_, h4⟩
 obtain ⟨ov, ol, mb, f, h⟩ := h3 i hi
 exact ⟨ov, ol, mb, f, ⟨h.h0, h.h1, own_mod h.own hm (fun g hg => hn g (h.mo g hg)), h.len, h.rng, h.mo, h.mm, h.nx, h.map.mod hm (hn _ h.mm), fun x v hx => (h.good x v hx).mod hm hr⟩⟩
set_option maxHeartbeats 1000000 in
set_option maxRecDepth 100000 in
theorem of_calls (s0 gs ns cap n : Nat) (w : World) (h6 : w.cell? ⟨s0, 6, none⟩ = some (.slice (some ⟨gs, 0, none⟩) ns cap)) (h0 : 0 < ns) (h16 : ns ≤ 16) (hn : n < 9223372036854775808) :
  Calls Tryz.prog 55 #[.pointer (some ⟨s0, 0, none⟩), .int .i64 n] w fun e w' => e = .returned (.pointer (some ⟨gs, 2 * (n % ns), none⟩)) ∧ w.drew = w' := by
 obtain ⟨i, hi⟩ : ∃ i, n % ns = i := ⟨_, rfl⟩
 have hil : i < ns := by rw [← hi]; exact Nat.mod_lt _ h0
 have ht : (n : Int).tmod (ns : Int) = (i : Int) := by rw [Int.tmod_eq_emod_of_nonneg (by omega), ← hi]; omega
 have HT := Aside0.mk ht
 rw [hi]
 have i0 : ¬ (ns : Int) = 0 := by omega
 have i1 : (i : Int) < (ns : Int) := by omega
 have i2 : ((ns : Int) == 0) = false := by rw [beq_eq_false_iff_ne]; omega
 have i3 : ¬ ns = 0 := by omega
 clear hi ht
 go_enter Tryz.func55, Tryz.ntmps55
 go_wp2
 have ht := HT.out
 refine wp_region_in [0, 0, 0, 1, 0, 0, 0, 0, 1, 0, 0, 0, 0] [] (fun w' => w'.cell? ⟨s0, 6, none⟩ = some (.slice (some ⟨gs, 0, none⟩) ns cap)) (by kernel_rfl) rfl (by kernel_rfl) (fun _ _ _ _ h => h) h6 ?_
 iterate 13 (first
  | (refine in_off0 (by rfl) ?_; simp only [Act.put, stA, stZ, stS, i64_w, i32_w])
  | (refine in_off1 (by rfl) ?_; simp only [Act.put, stA, stZ, stS, i64_w, i32_w])
  | (refine in_0 (v := ?_) (by rfl) rfl ?_ (a' := ?_) ?_ ?_; rotate_left; (intro w'; go_simp; with_reducible rfl); rotate_left; (simp only [Act.put, stA, stZ, stS, i64_w, i32_w]; rfl))
  | (refine in_1 (v := ?_) (by rfl) rfl ?_ (a' := ?_) ?_ ?_; rotate_left; (rintro w' hs; go_split_ands; go_simp; with_reducible rfl); rotate_left; (simp only [Act.put, stA, stZ, stS, i64_w, i32_w]; rfl)))
 refine in_nil ?_
 go_wp2
 go_ret
 refine ⟨?_, rfl⟩
 have : (⟨gs, 0, none⟩ : Addr).add (i * 2) = ⟨gs, 2 * i, none⟩ := by rw [add_plain, Nat.mul_comm]
 first
  | rfl
  | (rw [this])
  | simp [this]
theorem own_row_at {w : World} {base e n : Nat} {v : Value} {k : IntKind} {l : List Int} (h : w.ownsRow base e 1 v n (nums k l)) {g : Nat} (hg : v.ownBlock = some g) : Row w k g e l := by
 rcases h.2 with ⟨rfl, _⟩ | ⟨g', cap, cur, rfl, hb, hh, h1, h2, h3, h4⟩
 ·simp [Value.ownBlock] at hg
 ·obtain rfl : g' = g := by simpa [Value.ownBlock] using hg
  exact ⟨cur.toList.drop (n * 1), by rw [hh, ← h4, List.take_append_drop]⟩
theorem nums_at (k : IntKind) (l : List Int) (j : Nat) (h : j < l.length) : (nums k l)[j]? = some (.int k (l.getD j 0)) := by
 simp [nums, List.getD_eq_getElem?_getD, h]
theorem cache_turn {w w' : World} {M R : Nat → Prop} {L : List (List Int)} {room ns gs : Nat} {X : Nat → Prop} {cs : List Value} {i : Nat} {ov : Value} {ol : List Int} {mb : Nat} {f : Int → Option Value} {ov' : Value} {ol' : List Int} {f' : Int → Option Value}
  (hst : Strc w gs 107 cs) (hlen : 2 * ns ≤ cs.length) (hall : ∀ i, i < ns → ∃ ov ol mb f, ShardAt w M R L room X cs i ov ol mb f) (hap : Apart ns cs) (hi : i < ns) (hsh : ShardAt w M R L room X cs i ov ol mb f)
  (hMR : ∀ k, M k → ¬ R k) (hMl : ∀ k, M k → k < w.heap.size) (hgR : ¬ R gs)
  (hst' : Strc w' gs 107 (cs.set (2 * i) ov')) (hown : w'.ownsRow 0 3 1 ov' ol'.length (nums .i64 ol')) (hl : ol'.length ≤ room) (hrng : ∀ x ∈ ol', 0 ≤ x ∧ x < 4096) (hblk : ∀ g, ov'.ownBlock = some g → ov.ownBlock = some g ∨ w.heap.size ≤ g)
  (hm : IM Tryz.prog 3 w' mb 4096 f') (hgood : ∀ x v, f' x = some v → HB w' R v (L.getD x.toNat [])) (hmod : Mod w w' (fun k => k = gs ∨ k = mb ∨ ov.ownBlock = some k)) :
  Cache w' (fun k => M k ∨ ov'.ownBlock = some k) R L room ns gs X := by
 have hne1 : (107 : TypeId) ≠ 3 := by decide
 refine ⟨cs.set (2 * i) ov', hst', by rw [List.length_set]; exact hlen, fun j hj => ?_, fun a b ha hb hab g oa ob hoa hob hga => ?_⟩
 ·by_cases e : j = i
  ·subst e
   refine ⟨ov', ol', mb, f', ⟨?_, ?_, hown, hl, hrng, fun g hg => .inr hg, .inl hsh.mm, hsh.nx, hm, hgood⟩⟩
   ·rw [List.getElem?_set_self (by omega)]
   ·rw [List.getElem?_set_ne (by omega)]; exact hsh.h1
  ·obtain ⟨oj, lj, mj, fj, h⟩ := hall j hj
   have hjo : w'.ownsRow 0 3 1 oj lj.length (nums .i64 lj) := own_mod h.own hmod (fun g hg => by
    rintro (e1 | e1 | e1)
    ·subst e1; exact own_not_strc h.own hst hne1 hg
    ·subst e1; exact own_not_map h.own hsh.map hg
    ·exact hap i j hi hj (fun e2 => e e2.symm) g ov oj hsh.h0 h.h0 e1 hg)
   by_cases em : mj = mb
   ·subst em
    exact ⟨oj, lj, mj, f', ⟨by rw [List.getElem?_set_ne (by omega)]; exact h.h0, by rw [List.getElem?_set_ne (by omega)]; exact h.h1, hjo, h.len, h.rng, fun g hg => .inl (h.mo g hg), .inl h.mm, h.nx, hm, hgood⟩⟩
   ·refine ⟨oj, lj, mj, fj, ⟨by rw [List.getElem?_set_ne (by omega)]; exact h.h0, by rw [List.getElem?_set_ne (by omega)]; exact h.h1, hjo, h.len, h.rng, fun g hg => .inl (h.mo g hg), .inl h.mm, h.nx, h.map.mod hmod ?_, fun x v hx => (h.good x v hx).mod hmod ?_⟩⟩
    ·rintro (e1 | e1 | e1)
     ·exact hst.not_map h.map e1
     ·exact em e1
     ·exact own_not_map hsh.own h.map e1
    ·rintro k hk (e1 | e1 | e1)
     ·exact hgR (e1 ▸ hk)
     ·exact hMR k (e1 ▸ hsh.mm) hk
     ·exact hMR k (hsh.mo k e1) hk
 ·by_cases ea : a = i
  ·subst ea
   rw [List.getElem?_set_self (by omega)] at hoa
   cases hoa
   rw [List.getElem?_set_ne (by omega)] at hob
   obtain ⟨oj, lj, mj, fj, h⟩ := hall b hb
   rw [h.h0] at hob
   cases hob
   rcases hblk g hga with h1 | h1
   ·exact hap a b ha hb hab g ov _ hsh.h0 h.h0 h1
   ·intro h2
    have := own_lt h.own g h2
    omega
  ·rw [List.getElem?_set_ne (by omega)] at hoa
   by_cases eb : b = i
   ·subst eb
    rw [List.getElem?_set_self (by omega)] at hob
    cases hob
    obtain ⟨oj, lj, mj, fj, h⟩ := hall a ha
    rw [h.h0] at hoa
    cases hoa
    intro h2
    rcases hblk g h2 with h1 | h1
    ·exact hap a b ha hb hab g _ ov h.h0 hsh.h0 hga h1
    ·have := own_lt h.own g hga
     omega
   ·rw [List.getElem?_set_ne (by omega)] at hob
    exact hap a b ha hb hab g oa ob hoa hob hga
set_option maxHeartbeats 4000000 in
set_option maxRecDepth 100000 in
theorem use_calls {M R : Nat → Prop} {L : List (List Int)} {room ns gs cap s0 : Nat} {X : Nat → Prop} (n g c : Nat) (w : World) (h1 : w.cell? ⟨s0, 1, none⟩ = some (.int .i64 room)) (h6 : w.cell? ⟨s0, 6, none⟩ = some (.slice (some ⟨gs, 0, none⟩) ns cap))
  (hc : Cache w M R L room ns gs X) (h0 : 0 < ns) (h16 : ns ≤ 16) (hr : room ≤ 256) (hn : n < 4096) (hMR : ∀ k, M k → ¬ R k) (hMl : ∀ k, M k → k < w.heap.size) (hgM : M gs) (hsM : ¬ M s0) (hv : HB w R (.slice (some ⟨g, 0, none⟩) 256 c) (L.getD n [])) :
  Calls Tryz.prog 57 #[.pointer (some ⟨s0, 0, none⟩), .int .i64 n, .slice (some ⟨g, 0, none⟩) 256 c] w fun e w' => e = .returned (.tuple #[]) ∧ Mod w w' M ∧ ∃ r : Nat → Prop, (∀ k, r k → (M k ∨ (w.heap.size ≤ k ∧ k < w'.heap.size)) ∧ ∃ l, Row w' .i64 k 3 l) ∧ Cache w' (fun k => M k ∨ r k) R L room ns gs X := by
 obtain ⟨cs, hst, hlen, hall, hap⟩ := hc
 have hil : n % ns < ns := Nat.mod_lt _ h0
 obtain ⟨ov, ol, mb, f, hsh⟩ := hall (n % ns) hil
 have HOF := Aside0.mk (of_calls s0 gs ns cap n w h6 h0 h16 (by omega))
 obtain ⟨i, hi⟩ : ∃ i, n % ns = i := ⟨_, rfl⟩
 rw [hi] at hil hsh HOF
 have hgR : ¬ R gs := hMR gs hgM
 have HFG := Aside0.mk (forget_calls gs (2 * i) mb 4096 cs ov ol n f w.drew (hst.kept rfl) hsh.h0 hsh.h1 (own_mod hsh.own (Mod.refl w (fun _ => False)).drew (fun _ _ => id)) (by have := hsh.len; omega) (hsh.map.kept rfl) (by omega))
 have hS0 : ¬ (s0 = gs ∨ s0 = mb ∨ ov.ownBlock = some s0) := by
  rintro (e | e | e)
  ·exact hsM (e ▸ hgM)
  ·exact hsM (e ▸ hsh.mm)
  ·exact hsM (hsh.mo _ e)
 have HSH := Aside0.mk hsh
 have HV := Aside0.mk hv
 have HTURN := Aside0.mk (@cache_turn w)
 have HC := Aside0.mk (And.intro hst (And.intro hlen (And.intro hall hap)))
 have HMM := Aside0.mk (And.intro hMR (And.intro hMl hgR))
 have hgm : gs ≠ mb := fun e => hst.not_map hsh.map e.symm
 have hne1 : (107 : TypeId) ≠ 3 := by decide
 have hMi : ∀ k, (k = gs ∨ k = mb ∨ ov.ownBlock = some k) → M k := by
  rintro k (rfl | rfl | e)
  ·exact hgM
  ·exact hsh.mm
  ·exact hsh.mo k e
 have HMI := Aside0.mk hMi
 have hol : ol.length ≤ room := hsh.len
 have hrg := hsh.rng
 have HRG := Aside0.mk hrg
 clear hsh hv hst hlen hall hap hMR hMl hi hMi hrg
 go_enter Tryz.func57, Tryz.ntmps57
 go_wp2_with fail
 refine HOF.out.mono ?_
 rintro e w' ⟨rfl, rfl⟩
 dsimp only
 go_wp2_with fail
 refine HFG.out.mono ?_
 rintro e w1 ⟨ov1, ol1, rfl, hst1, hown1, hle1, _, hsb1, hob1, hm1, hmod1⟩
 have hmodw : Mod w w1 (fun k => k = gs ∨ k = mb ∨ ov.ownBlock = some k) := (Mod.refl w _).drew.trans hmod1 (fun _ _ e => e)
 have hk1 := hmodw.cell h1 hS0
 have hk6 := hmodw.cell h6 hS0
 have hio : (cs.set (2 * i) ov1)[2 * i]? = some ov1 := by rw [List.getElem?_set_self (List.getElem?_eq_some_iff.1 HSH.out.h0).1]
 have hso := hst1.cell (2 * i) _ hio
 have hsm := hst1.cell (2 * i + 1) (.map (some mb)) (by rw [List.getElem?_set_ne (by omega)]; exact HSH.out.h1)
 have hgl := hst1.lt
 have HOWa := Aside0.mk (fun o => own_mod hown1 (Mod.of_below (below_alloc (Below.refl _ _) o) (fun _ => False)) (fun _ _ => id))
 have HMODW := Aside0.mk hmodw
 have HP1 := Aside0.mk (And.intro hsb1 hob1)
 have HF := Aside0.mk (show ∀ (o : Obj) (w2 : World) (v2 : Value), (w1.alloc o).grownBy w2 ov1.ownBlock → (v2.ownBlock = ov1.ownBlock ∨ v2.ownBlock = some (w1.alloc o).heap.size) →
   Strc w2 gs 107 (cs.set (2 * i) ov1) ∧ IM Tryz.prog 3 w2 mb 4096 (fun y => if y = (n : Int) then none else f y) ∧ Mod w w2 (fun k => k = gs ∨ k = mb ∨ ov.ownBlock = some k) ∧ w2.cell? ⟨s0, 1, none⟩ = some (.int .i64 room) ∧ (∀ g, v2.ownBlock = some g → ov.ownBlock = some g ∨ w.heap.size ≤ g) from fun o w2 v2 hg hl => by
  have hb1a : Below w1.heap.size w1 (w1.alloc o) := below_alloc (Below.refl _ _) _
  have hsta := hst1.below hb1a
  have hma := hm1.below hb1a
  have hmg := mod_grown hg
  have hmw2 : Mod w w2 (fun k => k = gs ∨ k = mb ∨ ov.ownBlock = some k) := (hmodw.alloc o).trans hmg (fun k _ e => .inr (.inr (hob1 k e)))
  refine ⟨hsta.mod hmg (own_not_strc (HOWa.out o) hsta hne1), hma.mod hmg (own_not_map (HOWa.out o) hma), hmw2, hmw2.cell h1 hS0, fun g e => ?_⟩
  rcases hl with h | h
  ·exact .inl (hob1 g (h.symm.trans e))
  ·have h3 := hmodw.size
   have h2 : g = (w1.alloc o).heap.size := by rw [e] at h; exact Option.some.inj h
   rw [World.size_alloc] at h2
   exact .inr (by omega))
 obtain ⟨A1, c1, rfl, _, _, _, _⟩ := own_shape hown1
 obtain ⟨q0, hq, hz0, hz1, hz2⟩ := info_parts infoIntS
 have h31 : 2 * i < cs.length := (List.getElem?_eq_some_iff.1 HSH.out.h0).1
 clear hst1 hown1 hm1 hmod1 hmodw hio hsb1 hob1
 dsimp only
 go_wp2_with (first
  | ((with_reducible refine gate_dst (N := 20) rfl ?_); (refine wpList_append_own_at _ rfl (.tmp 17) (.tmp 19) 105 rfl 0 3 q0 (.int .i64 0) 1 8 Tryz.underlying105 hq hz0 hz1 hz2 rfl (by decide) _ _ _ rfl (HOWa.out _) ⟨w1.heap.size, 0, none⟩ 1 1 [.int .i64 n] rfl ?c6 ?c1 ?c2 ?c3 ?c4 ?c5 ?_; (case c6 => rfl); (case c1 => (intro j u hj; rw [add_plain]; exact cell_alloc w1 _ _ j u (by simpa using hj))); (case c2 => simp [Value.oneCell']); (case c3 => (simp only [maxLen]; omega)); (case c4 => omega); (case c5 => exact Nat.zero_le _); intro v2 w2 hown2 hgrow2 _ hloc; clear hz0 hz1 hz2 hq; obtain ⟨g2, cap2, rfl⟩ := own_succ hown2; obtain ⟨hst2, hm2, hmod2, hk2, hblk2⟩ := HF.out _ _ _ hgrow2 hloc; have HO2 := Aside0.mk (own_snoc (ys := [(n : Int)]) hown2 rfl rfl); have HST2 := Aside0.mk hst2; have HM2 := Aside0.mk (fun u => hm2.mod ((Mod.refl w2 (· = gs)).set_own (2 * i) u) (Ne.symm hgm)); have HM0 := Aside0.mk hm2; have HMOD2 := Aside0.mk hmod2; have HBLK2 := Aside0.mk hblk2; have hk21 := hst2.cell (2 * i + 1) (.map (some mb)) (by rw [List.getElem?_set_ne (by omega)]; exact HSH.out.h1); have hk22 := hst2.cell (2 * i) _ (List.getElem?_set_self h31); have hf22 := hst2.free (2 * i); have hpl2 := hst2.lt; clear hloc hblk2 hown2 hgrow2 hst2 hm2 hmod2))
  | (at_mapUpdate; (refine im_store _ rfl _ _ _ rfl Tryz.underlying3 Tryz.underlying98 (by decide) rfl (HM2.out _) n hn rfl _ rfl ?_; intro w4 hm4 hmod4 hsz4; have HST4 := Aside0.mk ((HST2.out.set (2 * i) (.slice (some ⟨g2, 0, none⟩) (ol1.length + 1) cap2)).mod hmod4 hgm); have HM4 := Aside0.mk hm4; have HMOD4 := Aside0.mk ((HMOD2.out.setCell (p := ⟨gs, 2 * i, none⟩) (fun _ => .inl rfl) (.slice (some ⟨g2, 0, none⟩) (ol1.length + 1) cap2)).trans hmod4 (fun _ _ e => .inr (.inl e))); have HO4 := Aside0.mk (own_mod (own_mod HO2.out ((Mod.refl w2 (· = gs)).set_own (2 * i) (.slice (some ⟨g2, 0, none⟩) (ol1.length + 1) cap2)) (fun g hg e => by subst e; exact own_not_strc HO2.out HST2.out hne1 hg)) hmod4 (fun g hg e => by subst e; exact own_not_map HO2.out HM0.out hg)); have hk40 := HST4.out.cell (2 * i) (.slice (some ⟨g2, 0, none⟩) (ol1.length + 1) cap2) (List.getElem?_set_self (by rw [List.length_set]; exact h31)); have hr4 := HMOD4.out.cell h1 hS0; clear hm4 hmod4)))
 have hset : (cs.set (2 * i) (.slice A1 ol1.length c1)).set (2 * i) (.slice (some ⟨g2, 0, none⟩) (ol1.length + 1) cap2) = cs.set (2 * i) (.slice (some ⟨g2, 0, none⟩) (ol1.length + 1) cap2) := List.set_set ..
 rw [hset] at HST4
 have hlen2 : (ol1 ++ [(n : Int)]).length = ol1.length + 1 := by simp
 have hrng2 : ∀ x ∈ ol1 ++ [(n : Int)], 0 ≤ x ∧ x < 4096 := fun x hx => by
  rcases List.mem_append.1 hx with h | h
  ·exact HRG.out x (HP1.out.1 x h)
  ·simp at h; omega
 have HRN2 := Aside0.mk hrng2
 have HGOOD : ∀ (w' : World), Mod w w' (fun k => k = gs ∨ k = mb ∨ ov.ownBlock = some k) → (∀ x v, (fun y => if y = (n : Int) then some (Value.slice (some ⟨g, 0, none⟩) 256 c) else if y = (n : Int) then none else f y) x = some v → HB w' R v (L.getD x.toNat [])) ∧ (∀ x v, (fun y => if y = (n : Int) then none else f y) x = some v → HB w' R v (L.getD x.toNat [])) := fun w' hm => by
  have hR : ∀ k, R k → ¬ (k = gs ∨ k = mb ∨ ov.ownBlock = some k) := fun k hk e => HMM.out.1 k (HMI.out k e) hk
  refine ⟨fun x v hx => ?_, fun x v hx => ?_⟩
  ·dsimp only at hx
   by_cases e : x = (n : Int)
   ·subst e
    rw [if_pos rfl] at hx
    cases hx
    rw [Int.toNat_natCast]
    exact HV.out.mod hm hR
   ·rw [if_neg e, if_neg e] at hx
    exact (HSH.out.good x v hx).mod hm hR
  ·dsimp only at hx
   by_cases e : x = (n : Int)
   ·rw [if_pos e] at hx; cases hx
   ·rw [if_neg e] at hx
    exact (HSH.out.good x v hx).mod hm hR
 have HGOOD := Aside0.mk HGOOD
 have hl4 := hlen2
 by_cases hgt : ol1.length + 1 ≤ room
 ·have i1 : ¬ ((ol1.length : Int) + 1 > (room : Int)) := by omega
  clear hset hlen2 hrng2
  refine wp_region_in [0, 0, 0, 1, 0, 0, 0, 0, 1, 0] [] (fun w' => w'.cell? ⟨gs, 2 * i, none⟩ = some (.slice (some ⟨g2, 0, none⟩) (ol1.length + 1) cap2) ∧ w'.cell? ⟨s0, 1, none⟩ = some (.int .i64 room)) (by kernel_rfl) rfl (by kernel_rfl) (fun _ _ _ _ h => h) ⟨hk40, hr4⟩ ?_
  iterate 10 (first
   | (refine in_off0 (by rfl) ?_; simp only [Act.put, stA, stZ, stS, i64_w, i32_w])
   | (refine in_off1 (by rfl) ?_; simp only [Act.put, stA, stZ, stS, i64_w, i32_w])
   | (refine in_0 (v := ?_) (by rfl) rfl ?_ (a' := ?_) ?_ ?_; rotate_left; (intro w'; go_simp; with_reducible rfl); rotate_left; (simp only [Act.put, stA, stZ, stS, i64_w, i32_w]; rfl))
   | (refine in_1 (v := ?_) (by rfl) rfl ?_ (a' := ?_) ?_ ?_; rotate_left; (rintro w' hs; go_split_ands; go_simp; with_reducible rfl); rotate_left; (simp only [Act.put, stA, stZ, stS, i64_w, i32_w]; rfl)))
  refine in_nil ?_
  go_wp2
  go_end0
  have hmf : Mod w w4.drew (fun k => k = gs ∨ k = mb ∨ ov.ownBlock = some k) := HMOD4.out.drew
  refine ⟨rfl, hmf.mono (fun k _ e => HMI.out k e), fun k => (Value.slice (some ⟨g2, 0, none⟩) (ol1.length + 1) cap2).ownBlock = some k, fun k hk => ?_, ?_⟩
  ·have hrow := own_mod HO4.out (Mod.refl w4 (fun _ => False)).drew (fun _ _ => id)
   have hlt := own_lt hrow k hk
   refine ⟨(HBLK2.out k hk).elim (fun e => .inl (HSH.out.mo k e)) (fun e => .inr ⟨e, hlt⟩), ?_⟩
   exact ⟨_, own_row_at hrow hk⟩
  ·exact HTURN.out HC.out.1 HC.out.2.1 HC.out.2.2.1 HC.out.2.2.2 hil HSH.out HMM.out.1 HMM.out.2.1 HMM.out.2.2 (HST4.out.kept rfl) (own_mod HO4.out (Mod.refl w4 (fun _ => False)).drew (fun _ _ => id)) (by rw [hl4]; exact hgt) HRN2.out HBLK2.out (HM4.out.kept rfl) (HGOOD.out _ hmf).1 hmf
 ·have i1 : (ol1.length : Int) + 1 > (room : Int) := by omega
  have hx0 : ∃ x0 : Nat, (ol1 ++ [(n : Int)]).getD 0 0 = x0 ∧ x0 < 4096 := by
   have hp : 0 < (ol1 ++ [(n : Int)]).length := by omega
   have hm := hrng2 ((ol1 ++ [(n : Int)])[0]) (List.getElem_mem hp)
   have e : (ol1 ++ [(n : Int)]).getD 0 0 = (ol1 ++ [(n : Int)])[0] := by rw [List.getD_eq_getElem?_getD, List.getElem?_eq_getElem hp]; rfl
   exact ⟨((ol1 ++ [(n : Int)]).getD 0 0).toNat, by rw [e]; omega, by rw [e]; omega⟩
  obtain ⟨x0, hx0, hx1⟩ := hx0
  have hc0 : w4.cell? ⟨g2, 0, none⟩ = some (.int .i64 x0) := by
   have := HO4.out.cells (g := g2) rfl 0 (.int .i64 ((ol1 ++ [(n : Int)]).getD 0 0)) (nums_at _ _ _ (by omega))
   rw [add_plain, hx0] at this
   exact this
  have i2 : 0 < ol1.length + 1 := by omega
  have HX0 := Aside0.mk hx0
  have hsg : ¬ (Value.slice (some ⟨g2, 0, none⟩) (ol1.length + 1) cap2).ownBlock = some s0 := fun e => by
   rcases HBLK2.out s0 e with h | h
   ·exact hsM (HSH.out.mo _ h)
   ·have := World.block_lt_of_cell? w ⟨s0, 1, none⟩ h1
    simp at this
    omega
  have HST4d := Aside0.mk (HST4.out.kept (w1 := w4.drew) rfl)
  have HO4d := Aside0.mk (own_mod HO4.out (Mod.refl w4 (fun _ => False)).drew (fun _ _ => id))
  have HFG2 := Aside0.mk (forget_calls gs (2 * i) mb 4096 _ _ (ol1 ++ [(n : Int)]) x0 _ w4.drew HST4d.out (List.getElem?_set_self h31) (by rw [List.getElem?_set_ne (by omega)]; exact HSH.out.h1) (by rw [hl4] at *; exact HO4d.out) (by omega) (HM4.out.kept (w1 := w4.drew) rfl) (by omega))
  clear hset hlen2 hrng2 hx0
  refine wp_region_in [0, 0, 0, 1, 0, 0, 0, 0, 1, 0] [] (fun w' => w'.cell? ⟨gs, 2 * i, none⟩ = some (.slice (some ⟨g2, 0, none⟩) (ol1.length + 1) cap2) ∧ w'.cell? ⟨s0, 1, none⟩ = some (.int .i64 room)) (by kernel_rfl) rfl (by kernel_rfl) (fun _ _ _ _ h => h) ⟨hk40, hr4⟩ ?_
  iterate 10 (first
   | (refine in_off0 (by rfl) ?_; simp only [Act.put, stA, stZ, stS, i64_w, i32_w])
   | (refine in_off1 (by rfl) ?_; simp only [Act.put, stA, stZ, stS, i64_w, i32_w])
   | (refine in_0 (v := ?_) (by rfl) rfl ?_ (a' := ?_) ?_ ?_; rotate_left; (intro w'; go_simp; with_reducible rfl); rotate_left; (simp only [Act.put, stA, stZ, stS, i64_w, i32_w]; rfl))
   | (refine in_1 (v := ?_) (by rfl) rfl ?_ (a' := ?_) ?_ ?_; rotate_left; (rintro w' hs; go_split_ands; go_simp; with_reducible rfl); rotate_left; (simp only [Act.put, stA, stZ, stS, i64_w, i32_w]; rfl)))
  refine in_nil ?_
  have hk40d : w4.drew.cell? ⟨gs, 2 * i, none⟩ = some (.slice (some ⟨g2, 0, none⟩) (ol1.length + 1) cap2) := hk40
  have hc0d : w4.drew.cell? ⟨g2, 0, none⟩ = some (.int .i64 x0) := hc0
  go_wp2_with fail
  refine HFG2.out.mono ?_
  rintro e w5 ⟨ov5, ol5, rfl, hst5, hown5, hle5, hlt5, hsb5, hob5, hm5, hmod5⟩
  rw [hl4] at hle5 hlt5
  have hlt := hlt5 (by omega) HX0.out
  have hmf : Mod w w5 (fun k => k = gs ∨ k = mb ∨ ov.ownBlock = some k) := HMOD4.out.drew.trans hmod5 (fun k hk e => by
   rcases e with e | e | e
   ·exact .inl e
   ·exact .inr (.inl e)
   ·rcases HBLK2.out k e with h | h
    ·exact .inr (.inr h)
    ·omega)
  have hg5 := HGOOD.out w5 hmf
  have HR5 := Aside0.mk (show (∀ g, ov5.ownBlock = some g → ov.ownBlock = some g ∨ w.heap.size ≤ g) from fun g hg => HBLK2.out g (hob5 g hg))
  rw [List.set_set] at hst5
  have hlr : ol5.length ≤ room := by omega
  have hrow5 := hown5
  obtain ⟨A5, c5, rfl, _, _, _, _⟩ := own_shape hown5
  have hT := HTURN.out HC.out.1 HC.out.2.1 HC.out.2.2.1 HC.out.2.2.2 hil HSH.out HMM.out.1 HMM.out.2.1 HMM.out.2.2 hst5 hown5 hlr (fun x hx => HRN2.out x (hsb5 x hx)) HR5.out hm5 (fun x v hx => by
   by_cases e : x = (x0 : Int)
   ·simp [e] at hx
   ·rw [if_neg e] at hx
    exact hg5.1 x v hx) hmf
  have HT := Aside0.mk hT
  have HMF := Aside0.mk hmf
  have HROW := Aside0.mk hown5
  clear hT hmf hg5 hst5 hown5 hrow5 hm5 hmod5 hle5 hlt5 hsb5 hob5 hk40d hc0d
  dsimp only
  go_wp2
  go_end0
  refine ⟨rfl, HMF.out.mono (fun k _ e => HMI.out k e), fun k => (Value.slice A5 ol5.length c5).ownBlock = some k, fun k hk => ?_, HT.out⟩
  have hlt := own_lt HROW.out k hk
  refine ⟨(HR5.out k hk).elim (fun e => .inl (HSH.out.mo k e)) (fun e => .inr ⟨e, hlt⟩), ?_⟩
  exact ⟨_, own_row_at HROW.out hk⟩
structure St where
 now : List (List Int)
 held : List Bool
 hist : List (List (List Int) × List Bool)
def St.write (s : St) (n : Nat) (b : List Int) : St := ⟨s.now.set n b, s.held, (s.now, s.held) :: s.hist⟩
def St.hold (s : St) (n : Nat) : St := ⟨s.now, s.held.set n true, (s.now, s.held) :: s.hist⟩
def St.backGo : Nat → List (List Int) → List Bool → List (List (List Int) × List Bool) → St
 | 0, a, b, h => ⟨a, b, h⟩
 | _ + 1, a, b, [] => ⟨a, b, []⟩
 | k + 1, _, _, (a, b) :: h => St.backGo k a b h
def St.back (s : St) (m : Nat) : St := St.backGo (s.hist.length - m) s.now s.held s.hist
def View (w : World) (R : Nat → Prop) (L : List (List Int)) (fc : Int → Option Value) (now : List (List Int)) : Prop :=
 now.length = L.length ∧ (∀ y v, fc y = some v → 0 ≤ y ∧ y < (L.length : Int)) ∧ ∀ n : Nat, n < L.length → match fc n with | some v => HB w R v (now.getD n []) | none => now.getD n [] = L.getD n []
def HeldIs (N : Nat) (fh : Int → Option Value) (held : List Bool) : Prop :=
 held.length = N ∧ (∀ y v, fh y = some v → 0 ≤ y ∧ y < (N : Int)) ∧ ∀ n : Nat, n < N → fh n = if held.getD n false = true then some (.int .i64 1) else none
def Undo (w : World) (R : Nat → Prop) (N s0 bh : Nat) (u : Value) (fc fh fc0 fh0 : Int → Option Value) : Prop :=
 (∃ bo bs bn n : Nat, ∃ ov : Option Value, u = .func (.func 85) #[] #[.pointer (some ⟨bo, 0, none⟩), .pointer (some ⟨bs, 0, none⟩), .pointer (some ⟨bn, 0, none⟩)] ∧
   Strc w bo 23 [ov.getD (.slice none 0 0)] ∧ Strc w bs 42 [.pointer (some ⟨s0, 0, none⟩)] ∧ Strc w bn 3 [.int .i64 n] ∧ R bo ∧ R bs ∧ R bn ∧ n < N ∧ (∀ v, ov = some v → ∃ g c, v = .slice (some ⟨g, 0, none⟩) 256 c) ∧
   fc0 = (fun y => if y = (n : Int) then ov else fc y) ∧ fh0 = fh) ∨
 (∃ bw bm bn n : Nat, ∃ was : Int, u = .func (.func 170) #[] #[.pointer (some ⟨bw, 0, none⟩), .pointer (some ⟨bm, 0, none⟩), .pointer (some ⟨bn, 0, none⟩)] ∧
   Strc w bw 3 [.int .i64 was] ∧ Strc w bm 99 [.map (some bh)] ∧ Strc w bn 3 [.int .i64 n] ∧ R bw ∧ R bm ∧ R bn ∧ n < N ∧ fc0 = fc ∧ (was = 0 ∨ was = 1) ∧ fh0 = (if was = 0 then (fun y => if y = (n : Int) then none else fh y) else fh))
def Chain (w : World) (R : Nat → Prop) (L : List (List Int)) (s0 bh : Nat) : List Value → (Int → Option Value) → (Int → Option Value) → List (List (List Int) × List Bool) → Prop
 | [], _, _, [] => True
 | u :: us, fc, fh, (a, b) :: h => ∃ fc0 fh0, Undo w R L.length s0 bh u fc fh fc0 fh0 ∧ View w R L fc0 a ∧ HeldIs L.length fh0 b ∧ Chain w R L s0 bh us fc0 fh0 h
 | _, _, _, _ => False
structure StAt (w : World) (Dd M Mc R : Nat → Prop) (s0 p0 : Nat) (L : List (List Int)) (m room ns gs cap bc bw bh : Nat) (uv : Value) (found asked : Int) (fc fh : Int → Option Value) (us : List Value) (s : St) : Prop where
 disk : DiskIs w Dd p0 L m
 st : Strc w s0 103 [.pointer (some ⟨p0, 0, none⟩), .int .i64 room, .map (some bc), .map (some bw), .map (some bh), uv, .slice (some ⟨gs, 0, none⟩) ns cap, .int .i64 found, .int .i64 asked]
 ms0 : M s0
 mcM : ∀ k, Mc k → M k
 mgs : Mc gs
 ncs : ¬ Mc s0
 ncc : ¬ Mc bc
 ncw : ¬ Mc bw
 nch : ¬ Mc bh
 ncu : ∀ g, uv.ownBlock = some g → ¬ Mc g
 mbc : M bc
 mbw : M bw
 mbh : M bh
 n1 : bc ≠ bw
 n2 : bc ≠ bh
 n3 : bw ≠ bh
 ic : IM Tryz.prog 3 w bc 4096 fc
 iw : IM Tryz.prog 3 w bw 4096 (fun _ => none)
 ih : IM Tryz.prog 3 w bh 4096 fh
 und : w.ownsRow 0 1 1 uv us.length us
 mu : ∀ g, uv.ownBlock = some g → M g
 cache : Cache w Mc R L room ns gs (fun _ => False)
 r1 : 1 ≤ room
 r2 : room ≤ 256
 s1 : 0 < ns
 s2 : ns ≤ 16
 view : View w R L fc s.now
 held : HeldIs L.length fh s.held
 chain : Chain w R L s0 bh us.reverse fc fh s.hist
 sepD : ∀ k, M k → ¬ Dd k
 sepR : ∀ k, M k → ¬ R k
 subM : ∀ k, M k → k < w.heap.size
 subR : ∀ k, R k → k < w.heap.size
 subD : ∀ k, Dd k → k < w.heap.size
def StIs (w : World) (D : Nat → Prop) (s0 : Nat) (s : St) : Prop :=
 ∃ Dd M Mc R p0 L m room ns gs cap bc bw bh uv found asked fc fh us, StAt w Dd M Mc R s0 p0 L m room ns gs cap bc bw bh uv found asked fc fh us s ∧ D = fun k => Dd k ∨ M k ∨ R k
theorem View.mod {w w1 : World} {R S : Nat → Prop} {L : List (List Int)} {fc : Int → Option Value} {a : List (List Int)} (h : View w R L fc a) (hm : Mod w w1 S) (hn : ∀ k, R k → ¬ S k) : View w1 R L fc a := by
 refine ⟨h.1, h.2.1, fun n hn' => ?_⟩
 have := h.2.2 n hn'
 split at this
 ·exact this.mod hm hn
 ·exact this
theorem HB.more {w : World} {R R' : Nat → Prop} {v : Value} {l : List Int} (h : HB w R v l) (hr : ∀ k, R k → R' k) : HB w R' v l := h.mono hr
theorem View.more {w : World} {R R' : Nat → Prop} {L : List (List Int)} {fc : Int → Option Value} {a : List (List Int)} (h : View w R L fc a) (hr : ∀ k, R k → R' k) : View w R' L fc a := by
 refine ⟨h.1, h.2.1, fun n hn' => ?_⟩
 have := h.2.2 n hn'
 split at this
 ·exact this.more hr
 ·exact this
theorem Undo.mod {w w1 : World} {R S : Nat → Prop} {N s0 bh : Nat} {u : Value} {fc fh fc0 fh0 : Int → Option Value} (h : Undo w R N s0 bh u fc fh fc0 fh0) (hm : Mod w w1 S) (hn : ∀ k, R k → ¬ S k) : Undo w1 R N s0 bh u fc fh fc0 fh0 := by
 rcases h with ⟨bo, bs, bn, n, ov, hu, h1, h2, h3, r1, r2, r3, hr⟩ | ⟨bo, bs, bn, n, was, hu, h1, h2, h3, r1, r2, r3, hr⟩
 ·exact .inl ⟨bo, bs, bn, n, ov, hu, h1.mod hm (hn _ r1), h2.mod hm (hn _ r2), h3.mod hm (hn _ r3), r1, r2, r3, hr⟩
 ·exact .inr ⟨bo, bs, bn, n, was, hu, h1.mod hm (hn _ r1), h2.mod hm (hn _ r2), h3.mod hm (hn _ r3), r1, r2, r3, hr⟩
theorem Undo.more {w : World} {R R' : Nat → Prop} {N s0 bh : Nat} {u : Value} {fc fh fc0 fh0 : Int → Option Value} (h : Undo w R N s0 bh u fc fh fc0 fh0) (hr : ∀ k, R k → R' k) : Undo w R' N s0 bh u fc fh fc0 fh0 := by
 rcases h with ⟨bo, bs, bn, n, ov, hu, h1, h2, h3, r1, r2, r3, h⟩ | ⟨bo, bs, bn, n, was, hu, h1, h2, h3, r1, r2, r3, h⟩
 ·exact .inl ⟨bo, bs, bn, n, ov, hu, h1, h2, h3, hr _ r1, hr _ r2, hr _ r3, h⟩
 ·exact .inr ⟨bo, bs, bn, n, was, hu, h1, h2, h3, hr _ r1, hr _ r2, hr _ r3, h⟩
theorem Chain.mod {w w1 : World} {R S : Nat → Prop} {L : List (List Int)} {s0 bh : Nat} (hm : Mod w w1 S) (hn : ∀ k, R k → ¬ S k) : ∀ (us : List Value) (fc fh : Int → Option Value) (h : List (List (List Int) × List Bool)), Chain w R L s0 bh us fc fh h → Chain w1 R L s0 bh us fc fh h
 | [], _, _, [], _ => trivial
 | u :: us, fc, fh, (a, b) :: h, hc => by
  obtain ⟨fc0, fh0, h1, h2, h3, h4⟩ := hc
  exact ⟨fc0, fh0, h1.mod hm hn, h2.mod hm hn, h3, Chain.mod hm hn us fc0 fh0 h h4⟩
 | [], _, _, _ :: _, hc => hc.elim
 | _ :: _, _, _, [], hc => hc.elim
theorem Chain.more {w : World} {R R' : Nat → Prop} {L : List (List Int)} {s0 bh : Nat} (hr : ∀ k, R k → R' k) : ∀ (us : List Value) (fc fh : Int → Option Value) (h : List (List (List Int) × List Bool)), Chain w R L s0 bh us fc fh h → Chain w R' L s0 bh us fc fh h
 | [], _, _, [], _ => trivial
 | u :: us, fc, fh, (a, b) :: h, hc => by
  obtain ⟨fc0, fh0, h1, h2, h3, h4⟩ := hc
  exact ⟨fc0, fh0, h1.more hr, h2.more hr, h3, Chain.more hr us fc0 fh0 h h4⟩
 | [], _, _, _ :: _, hc => hc.elim
 | _ :: _, _, _, [], hc => hc.elim
theorem Chain.len {w : World} {R : Nat → Prop} {L : List (List Int)} {s0 bh : Nat} : ∀ (us : List Value) (fc fh : Int → Option Value) (h : List (List (List Int) × List Bool)), Chain w R L s0 bh us fc fh h → us.length = h.length
 | [], _, _, [], _ => rfl
 | u :: us, fc, fh, (a, b) :: h, hc => by
  obtain ⟨fc0, fh0, _, _, _, h4⟩ := hc
  simp [Chain.len us fc0 fh0 h h4]
 | [], _, _, _ :: _, hc => hc.elim
 | _ :: _, _, _, [], hc => hc.elim
theorem Cache.more {w : World} {M M' R R' : Nat → Prop} {L : List (List Int)} {room ns gs : Nat} {X : Nat → Prop} (h : Cache w M R L room ns gs X) (hm : ∀ k, M k → M' k) (hr : ∀ k, R k → R' k) : Cache w M' R' L room ns gs X := by
 obtain ⟨cs, h1, h2, h3, h4⟩ := h
 refine ⟨cs, h1, h2, fun i hi => ?_, h4⟩
 obtain ⟨ov, ol, mb, f, h⟩ := h3 i hi
 exact ⟨ov, ol, mb, f, ⟨h.h0, h.h1, h.own, h.len, h.rng, fun g hg => hm _ (h.mo g hg), hm _ h.mm, h.nx, h.map, fun x v hx => (h.good x v hx).more hr⟩⟩
theorem StAt.mod {w w1 : World} {S Dd M Mc R : Nat → Prop} {s0 p0 : Nat} {L : List (List Int)} {m room ns gs cap bc bw bh : Nat} {uv : Value} {found asked : Int} {fc fh : Int → Option Value} {us : List Value} {s : St}
  (h : StAt w Dd M Mc R s0 p0 L m room ns gs cap bc bw bh uv found asked fc fh us s) (hm : Mod w w1 S) (hD : ∀ k, Dd k → ¬ S k) (hM : ∀ k, M k → ¬ S k) (hR : ∀ k, R k → ¬ S k) : StAt w1 Dd M Mc R s0 p0 L m room ns gs cap bc bw bh uv found asked fc fh us s :=
 ⟨h.disk.mod hm (fun k _ hk => hD k hk), h.st.mod hm (hM _ h.ms0), h.ms0, h.mcM, h.mgs, h.ncs, h.ncc, h.ncw, h.nch, h.ncu, h.mbc, h.mbw, h.mbh, h.n1, h.n2, h.n3, h.ic.mod hm (hM _ h.mbc), h.iw.mod hm (hM _ h.mbw), h.ih.mod hm (hM _ h.mbh), own_mod h.und hm (fun g hg => hM _ (h.mu g hg)), h.mu,
  h.cache.mod hm (fun k hk => hM k (h.mcM k hk)) hR (hM _ (h.mcM _ h.mgs)), h.r1, h.r2, h.s1, h.s2, h.view.mod hm hR, h.held, Chain.mod hm hR _ _ _ _ h.chain, h.sepD, h.sepR, fun k hk => Nat.lt_of_lt_of_le (h.subM k hk) hm.size, fun k hk => Nat.lt_of_lt_of_le (h.subR k hk) hm.size, fun k hk => Nat.lt_of_lt_of_le (h.subD k hk) hm.size⟩
theorem StIs.mod {w w1 : World} {D S : Nat → Prop} {s0 : Nat} {s : St} (h : StIs w D s0 s) (hm : Mod w w1 S) (hn : ∀ k, D k → ¬ S k) : StIs w1 D s0 s := by
 obtain ⟨Dd, M, Mc, R, p0, L, m, room, ns, gs, cap, bc, bw, bh, uv, found, asked, fc, fh, us, h, rfl⟩ := h
 exact ⟨Dd, M, Mc, R, p0, L, m, room, ns, gs, cap, bc, bw, bh, uv, found, asked, fc, fh, us, h.mod hm (fun k hk => hn k (.inl hk)) (fun k hk => hn k (.inr (.inl hk))) (fun k hk => hn k (.inr (.inr hk))), rfl⟩
theorem StIs.below {w w1 : World} {D : Nat → Prop} {s0 : Nat} {s : St} (h : StIs w D s0 s) (hm : Below w.heap.size w w1) : StIs w1 D s0 s := h.mod (Mod.of_below hm (fun _ => False)) (fun _ _ => id)
theorem StIs.sub {w : World} {D : Nat → Prop} {s0 : Nat} {s : St} (h : StIs w D s0 s) : ∀ k, D k → k < w.heap.size := by
 obtain ⟨Dd, M, Mc, R, p0, L, m, room, ns, gs, cap, bc, bw, bh, uv, found, asked, fc, fh, us, h, rfl⟩ := h
 rintro k (h1 | h1 | h1)
 ·exact h.subD k h1
 ·exact h.subM k h1
 ·exact h.subR k h1
theorem StAt.counts {w w1 : World} {Dd M Mc R : Nat → Prop} {s0 p0 : Nat} {L : List (List Int)} {m room ns gs cap bc bw bh : Nat} {uv : Value} {found asked : Int} {fc fh : Int → Option Value} {us : List Value} {s : St}
  (h : StAt w Dd M Mc R s0 p0 L m room ns gs cap bc bw bh uv found asked fc fh us s) (hm : Mod w w1 (· = s0)) {x y : Int} (hst : Strc w1 s0 103 [.pointer (some ⟨p0, 0, none⟩), .int .i64 room, .map (some bc), .map (some bw), .map (some bh), uv, .slice (some ⟨gs, 0, none⟩) ns cap, .int .i64 x, .int .i64 y]) :
  StAt w1 Dd M Mc R s0 p0 L m room ns gs cap bc bw bh uv x y fc fh us s := by
 have hne1 : (103 : TypeId) ≠ 1 := by decide
 have hR : ∀ k, R k → ¬ k = s0 := fun k hk e => h.sepR s0 h.ms0 (e ▸ hk)
 have hC : ∀ k, Mc k → ¬ k = s0 := fun k hk e => h.ncs (e ▸ hk)
 exact ⟨h.disk.mod hm (fun k _ hk e => h.sepD s0 h.ms0 (e ▸ hk)), hst, h.ms0, h.mcM, h.mgs, h.ncs, h.ncc, h.ncw, h.nch, h.ncu, h.mbc, h.mbw, h.mbh, h.n1, h.n2, h.n3, h.ic.mod hm (h.st.not_map h.ic), h.iw.mod hm (h.st.not_map h.iw), h.ih.mod hm (h.st.not_map h.ih),
  own_mod h.und hm (fun g hg e => own_not_strc h.und h.st hne1 (e ▸ hg)), h.mu, h.cache.mod hm hC hR (hC _ h.mgs), h.r1, h.r2, h.s1, h.s2, h.view.mod hm hR, h.held, Chain.mod hm hR _ _ _ _ h.chain, h.sepD, h.sepR,
  fun k hk => Nat.lt_of_lt_of_le (h.subM k hk) hm.size, fun k hk => Nat.lt_of_lt_of_le (h.subR k hk) hm.size, fun k hk => Nat.lt_of_lt_of_le (h.subD k hk) hm.size⟩
theorem StAt.used {w w1 : World} {Dd M Mc R r : Nat → Prop} {s0 p0 : Nat} {L : List (List Int)} {m room ns gs cap bc bw bh : Nat} {uv : Value} {found asked : Int} {fc fh : Int → Option Value} {us : List Value} {s : St}
  (h : StAt w Dd M Mc R s0 p0 L m room ns gs cap bc bw bh uv found asked fc fh us s) (hm : Mod w w1 Mc) (hr : ∀ k, r k → (Mc k ∨ (w.heap.size ≤ k ∧ k < w1.heap.size)) ∧ ∃ l, Row w1 .i64 k 3 l) (hc : Cache w1 (fun k => Mc k ∨ r k) R L room ns gs (fun _ => False)) :
  StAt w1 Dd (fun k => M k ∨ r k) (fun k => Mc k ∨ r k) R s0 p0 L m room ns gs cap bc bw bh uv found asked fc fh us s := by
 have hR : ∀ k, R k → ¬ Mc k := fun k hk e => h.sepR k (h.mcM k e) hk
 have hnew : ∀ k, k < w.heap.size → r k → Mc k := fun k hk hrk => (hr k hrk).1.elim id (fun e => absurd e.1 (by omega))
 have hno : ∀ k, k < w.heap.size → ¬ Mc k → ¬ (Mc k ∨ r k) := fun k hk hn e => e.elim hn (fun e => hn (hnew k hk e))
 refine ⟨h.disk.mod hm (fun k _ hk e => h.sepD k (h.mcM k e) hk), h.st.mod hm h.ncs, .inl h.ms0, fun k hk => hk.imp (h.mcM k) id, .inl h.mgs, hno _ (h.subM _ h.ms0) h.ncs, hno _ (h.subM _ h.mbc) h.ncc, hno _ (h.subM _ h.mbw) h.ncw, hno _ (h.subM _ h.mbh) h.nch, fun g hg => hno g (h.subM _ (h.mu g hg)) (h.ncu g hg),
  .inl h.mbc, .inl h.mbw, .inl h.mbh, h.n1, h.n2, h.n3, h.ic.mod hm h.ncc, h.iw.mod hm h.ncw, h.ih.mod hm h.nch, own_mod h.und hm h.ncu, fun g hg => .inl (h.mu g hg), hc, h.r1, h.r2, h.s1, h.s2, h.view.mod hm hR, h.held, Chain.mod hm hR _ _ _ _ h.chain, ?_, ?_, ?_,
  fun k hk => Nat.lt_of_lt_of_le (h.subR k hk) hm.size, fun k hk => Nat.lt_of_lt_of_le (h.subD k hk) hm.size⟩
 ·rintro k (hk | hk) hd
  ·exact h.sepD k hk hd
  ·exact h.sepD k (h.mcM k (hnew k (h.subD k hd) hk)) hd
 ·rintro k (hk | hk) hd
  ·exact h.sepR k hk hd
  ·exact h.sepR k (h.mcM k (hnew k (h.subR k hd) hk)) hd
 ·rintro k (hk | hk)
  ·exact Nat.lt_of_lt_of_le (h.subM k hk) hm.size
  ·rcases (hr k hk).1 with h1 | h1
   ·exact Nat.lt_of_lt_of_le (h.subM k (h.mcM k h1)) hm.size
   ·exact h1.2
theorem StAt.change {w w1 : World} {Dd M Mc R r : Nat → Prop} {s0 p0 : Nat} {L : List (List Int)} {m room ns gs cap bc bw bh : Nat} {uv uv' : Value} {found asked : Int} {fc fh fc' fh' : Int → Option Value} {us us' : List Value} {s s' : St}
  (h : StAt w Dd M Mc R s0 p0 L m room ns gs cap bc bw bh uv found asked fc fh us s) (hm : Mod w w1 (fun k => k = s0 ∨ k = bc ∨ k = bh ∨ uv.ownBlock = some k))
  (st' : Strc w1 s0 103 [.pointer (some ⟨p0, 0, none⟩), .int .i64 room, .map (some bc), .map (some bw), .map (some bh), uv', .slice (some ⟨gs, 0, none⟩) ns cap, .int .i64 found, .int .i64 asked])
  (ic' : IM Tryz.prog 3 w1 bc 4096 fc') (ih' : IM Tryz.prog 3 w1 bh 4096 fh') (und' : w1.ownsRow 0 1 1 uv' us'.length us') (loc : ∀ g, uv'.ownBlock = some g → uv.ownBlock = some g ∨ w.heap.size ≤ g)
  (hr : ∀ k, r k → w.heap.size ≤ k ∧ k < w1.heap.size ∧ uv'.ownBlock ≠ some k) (view' : View w1 (fun k => R k ∨ r k) L fc' s'.now) (held' : HeldIs L.length fh' s'.held) (chain' : Chain w1 (fun k => R k ∨ r k) L s0 bh us'.reverse fc' fh' s'.hist) :
  StAt w1 Dd (fun k => M k ∨ uv'.ownBlock = some k) Mc (fun k => R k ∨ r k) s0 p0 L m room ns gs cap bc bw bh uv' found asked fc' fh' us' s' := by
 have hSM : ∀ k, (k = s0 ∨ k = bc ∨ k = bh ∨ uv.ownBlock = some k) → M k := by
  rintro k (rfl | rfl | rfl | e)
  ·exact h.ms0
  ·exact h.mbc
  ·exact h.mbh
  ·exact h.mu k e
 have hSC : ∀ k, Mc k → ¬ (k = s0 ∨ k = bc ∨ k = bh ∨ uv.ownBlock = some k) := by
  rintro k hk (rfl | rfl | rfl | e)
  ·exact h.ncs hk
  ·exact h.ncc hk
  ·exact h.nch hk
  ·exact h.ncu k e hk
 have hSR : ∀ k, R k → ¬ (k = s0 ∨ k = bc ∨ k = bh ∨ uv.ownBlock = some k) := fun k hk e => h.sepR k (hSM k e) hk
 refine ⟨h.disk.mod hm (fun k _ hk e => h.sepD k (hSM k e) hk), st', .inl h.ms0, fun k hk => .inl (h.mcM k hk), h.mgs, h.ncs, h.ncc, h.ncw, h.nch, fun g hg => ?_, .inl h.mbc, .inl h.mbw, .inl h.mbh, h.n1, h.n2, h.n3, ic', h.iw.mod hm ?_, ih', und', fun g hg => .inr hg,
  (h.cache.mod hm hSC hSR (hSC _ h.mgs)).more (fun _ => id) (fun _ => .inl), h.r1, h.r2, h.s1, h.s2, view', held', chain', ?_, ?_, ?_, ?_, fun k hk => Nat.lt_of_lt_of_le (h.subD k hk) hm.size⟩
 ·intro hk
  rcases loc g hg with h1 | h1
  ·exact h.ncu g h1 hk
  ·have := h.subM g (h.mcM g hk); omega
 ·rintro (e | e | e | e)
  ·exact h.st.not_map h.iw e
  ·exact h.n1 e.symm
  ·exact h.n3 e
  ·exact own_not_map h.und h.iw e
 ·rintro k (hk | hk) hd
  ·exact h.sepD k hk hd
  ·rcases loc k hk with h1 | h1
   ·exact h.sepD k (h.mu k h1) hd
   ·have := h.subD k hd; omega
 ·rintro k (hk | hk) (hd | hd)
  ·exact h.sepR k hk hd
  ·have := h.subM k hk; have := (hr k hd).1; omega
  ·rcases loc k hk with h1 | h1
   ·exact h.sepR k (h.mu k h1) hd
   ·have := h.subR k hd; omega
  ·exact (hr k hd).2.2 hk
 ·rintro k (hk | hk)
  ·exact Nat.lt_of_lt_of_le (h.subM k hk) hm.size
  ·exact own_lt und' k hk
 ·rintro k (hk | hk)
  ·exact Nat.lt_of_lt_of_le (h.subR k hk) hm.size
  ·exact (hr k hk).2.1
theorem StAt.keep {w : World} {Dd M Mc R r : Nat → Prop} {s0 p0 : Nat} {L : List (List Int)} {m room ns gs cap bc bw bh : Nat} {uv : Value} {found asked : Int} {fc fh : Int → Option Value} {us : List Value} {s : St}
  (h : StAt w Dd M Mc R s0 p0 L m room ns gs cap bc bw bh uv found asked fc fh us s) (hr : ∀ k, r k → ¬ M k ∧ k < w.heap.size) : StAt w Dd M Mc (fun k => R k ∨ r k) s0 p0 L m room ns gs cap bc bw bh uv found asked fc fh us s :=
 ⟨h.disk, h.st, h.ms0, h.mcM, h.mgs, h.ncs, h.ncc, h.ncw, h.nch, h.ncu, h.mbc, h.mbw, h.mbh, h.n1, h.n2, h.n3, h.ic, h.iw, h.ih, h.und, h.mu, h.cache.more (fun _ => id) (fun _ => .inl), h.r1, h.r2, h.s1, h.s2, h.view.more (fun _ => .inl), h.held, Chain.more (fun _ => .inl) _ _ _ _ h.chain,
  h.sepD, fun k hk e => e.elim (h.sepR k hk) (fun e => (hr k e).1 hk), h.subM, fun k hk => hk.elim (h.subR k) (fun e => (hr k e).2), h.subD⟩
theorem sblocks_calls {w : World} {s0 p0 : Nat} {n : Int} (h : w.cell? ⟨s0, 0, none⟩ = some (.pointer (some ⟨p0, 0, none⟩))) (hn : w.cell? ⟨p0, 0, none⟩ = some (.int .i64 n)) :
  Calls Tryz.prog 123 #[.pointer (some ⟨s0, 0, none⟩)] w fun e w' => e = .returned (.int .i64 n) ∧ w = w' := by
 go_enter Tryz.func123, Tryz.ntmps123
 go_wp2_with (go_at_call 102; refine (dblocks_calls hn).mono ?_; rintro e w' ⟨rfl, rfl⟩)
 go_ret
 exact ⟨rfl, rfl⟩
theorem shas_calls {w : World} {s0 p0 : Nat} {n x : Int} (h : w.cell? ⟨s0, 0, none⟩ = some (.pointer (some ⟨p0, 0, none⟩))) (hn : w.cell? ⟨p0, 0, none⟩ = some (.int .i64 n)) :
  Calls Tryz.prog 54 #[.pointer (some ⟨s0, 0, none⟩), .int .i64 x] w fun e w' => e = .returned (.bool (decide (0 ≤ x ∧ x < n))) ∧ w = w' := by
 by_cases h0 : 0 ≤ x
 ·have e1 : decide (0 ≤ x ∧ x < n) = decide (x < n) := by simp [h0]
  rw [e1]
  go_enter Tryz.func54, Tryz.ntmps54
  go_wp2_with (go_at_call 123; refine (sblocks_calls h hn).mono ?_; rintro e w' ⟨rfl, rfl⟩)
  go_ret
  exact ⟨rfl, rfl⟩
 ·have e1 : decide (0 ≤ x ∧ x < n) = false := by simp [h0]
  rw [e1]
  go_enter Tryz.func54, Tryz.ntmps54
  go_wp2
  go_ret
  exact ⟨rfl, rfl⟩
theorem nonnil_neql (ad : Addr) (n c : Nat) (W : World) : (binOp .neq 23 (.slice (some ad) n c) (.slice none 0 0)).run Tryz.prog W = .ok (.bool true) W := by kernel_rfl
theorem nil_neql (W : World) : (binOp .neq 23 (.slice none 0 0) (.slice none 0 0)).run Tryz.prog W = .ok (.bool false) W := by kernel_rfl
def SReadPost (D : Nat → Prop) (s0 : Nat) (s : St) (b : List Int) (w : World) (e : Ending) (w' : World) : Prop :=
 ∃ D' g c, e = .returned (.tuple #[.slice (some ⟨g, 0, none⟩) 256 c, .int .i64 0]) ∧ StIs w' D' s0 s ∧ (∀ k, D' k → D k ∨ w.heap.size ≤ k) ∧ Mod w w' D ∧ w.heap.size ≤ g ∧ ¬ D' g ∧ 256 ≤ c ∧ Row w' .u8 g 5 b
theorem sread_end {D D1 : Nat → Prop} {s0 : Nat} {s : St} {b : List Int} {w w1 w2 : World} {e : Ending} {v : Value} (h1 : StIs w1 D1 s0 s) (hD : ∀ k, D1 k → D k ∨ w.heap.size ≤ k) (hm : Mod w w1 D) (ho : Own w2 w1.heap.size 5 .u8 v b) (hb : Below w1.heap.size w1 w2) (hl : b.length = 256) (he : e = .returned (.tuple #[v, .int .i64 0])) :
  SReadPost D s0 s b w e w2 := by
 obtain ⟨g, c, rfl, hg, hc, hr⟩ := ho.row (by omega)
 rw [hl] at he hc
 exact ⟨D1, g, c, he, h1.below hb, hD, hm.below hb, Nat.le_trans hm.size hg, fun hd => by have := h1.sub g hd; omega, hc, hr⟩
theorem StAt.is {w : World} {Dd M Mc R : Nat → Prop} {s0 p0 : Nat} {L : List (List Int)} {m room ns gs cap bc bw bh : Nat} {uv : Value} {found asked : Int} {fc fh : Int → Option Value} {us : List Value} {s : St}
  (h : StAt w Dd M Mc R s0 p0 L m room ns gs cap bc bw bh uv found asked fc fh us s) : StIs w (fun k => Dd k ∨ M k ∨ R k) s0 s := ⟨Dd, M, Mc, R, p0, L, m, room, ns, gs, cap, bc, bw, bh, uv, found, asked, fc, fh, us, h, rfl⟩
set_option maxHeartbeats 4000000 in
set_option maxRecDepth 100000 in
theorem sread_calls {D : Nat → Prop} {s0 : Nat} {s : St} (n : Nat) (w : World) (h : StIs w D s0 s) (hn : n < s.now.length) :
  Calls Tryz.prog 20 #[.pointer (some ⟨s0, 0, none⟩), .int .i64 n] w (SReadPost D s0 s (s.now.getD n []) w) := by
 obtain ⟨Dd, M, Mc, R, p0, L, m, room, ns, gs, cap, bc, bw, bh, uv, found, asked, fc, fh, us, h, rfl⟩ := h
 have hlen := h.view.1
 rw [hlen] at hn
 have hview := h.view.2.2 n hn
 obtain ⟨hd0, hd1, hd2, hdp, hdl⟩ := h.disk.n
 have hc0 := h.st.cell 0 _ rfl
 have hdec : decide (0 ≤ (n : Int) ∧ (n : Int) < (L.length : Int)) = true := by simp; omega
 have hhas := shas_calls (x := (n : Int)) hc0 hd0
 rw [hdec] at hhas
 have HHAS := Aside0.mk hhas
 have HH := Aside0.mk h
 have hc2 := h.st.cell 2 _ rfl
 have hc3 := h.st.cell 3 _ rfl
 have i1 : n < 9223372036854775808 := by omega
 obtain ⟨b, hb⟩ : ∃ b, s.now.getD n [] = b := ⟨_, rfl⟩
 rw [hb] at hview ⊢
 have hsl := h.st.lt
 have HS := Aside0.mk (show ∀ o : Obj, (w.alloc o).drew.cell? ⟨s0, 2, none⟩ = some (.map (some bc)) ∧ (w.alloc o).drew.cell? ⟨s0, 3, none⟩ = some (.map (some bw)) from fun o => ⟨(h.st.below (below_alloc (Below.refl _ _) o)).cell 2 _ rfl, (h.st.below (below_alloc (Below.refl _ _) o)).cell 3 _ rfl⟩)
 have HWA := Aside0.mk (fun (W : World) (hW : Below w.heap.size w W) => h.mod (Mod.of_below hW (fun _ => False)) (fun _ _ => id) (fun _ _ => id) (fun _ _ => id))
 clear hhas hdec hb
 cases hfc : fc n with
 | some v =>
  rw [hfc] at hview
  dsimp only at hview
  obtain ⟨g0, c0, rfl, hr0, hcc0, hrow0, hl0, hb0⟩ := hview
  have HF := Aside0.mk (show (fc n).getD (.slice none 0 0) = .slice (some ⟨g0, 0, none⟩) 256 c0 by rw [hfc]; rfl)
  have HROW := Aside0.mk hrow0
  have HL0 := Aside0.mk hl0
  have hnil := nonnil_neql ⟨g0, 0, none⟩ 256 c0
  clear h hfc hrow0 hl0 hb0
  go_enter Tryz.func20, Tryz.ntmps20
  go_wp2_with (go_at_call 54; refine HHAS.out.mono ?_; rintro e w' ⟨rfl, rfl⟩)
  refine wp_region_ord [0, 1, 2, 3, 4, 5, 6, 7, 10, 8, 9] [0, 0, 0, 1, 0, 0, 0, 1, 0, 2, 0] (fun w' => w'.cell? ⟨s0, 2, none⟩ = some (.map (some bc)) ∧ w'.cell? ⟨s0, 3, none⟩ = some (.map (some bw))) (by kernel_rfl) rfl (by kernel_rfl) (fun _ _ _ _ h => h) ⟨hc2, hc3⟩ ?_
  iterate 9 (first
   | (refine inQ_off0 (by rfl) (by rfl) ?_; simp only [Act.put, stA, stZ, stS, i64_w, i32_w])
   | (refine inQ_off1 (by rfl) (by rfl) ?_; simp only [Act.put, stA, stZ, stS, i64_w, i32_w])
   | (refine inQ_0 (v := ?_) (by rfl) (by rfl) rfl ?_ (a' := ?_) ?_ ?_; rotate_left; (intro w'; go_simp; with_reducible rfl); rotate_left; (simp only [Act.put, stA, stZ, stS, i64_w, i32_w]; rfl))
   | (refine inQ_1 (v := ?_) (by rfl) (by rfl) rfl ?_ (a' := ?_) ?_ ?_; rotate_left; (rintro w' hs; go_split_ands; go_simp; with_reducible rfl); rotate_left; (simp only [Act.put, stA, stZ, stS, i64_w, i32_w]; rfl)))
  refine inP_2 (by rfl) (by rfl) (fun K hK => ?_)
  go_simp
  refine hK _ _ (HS.out _) ?_
  clear hK K
  try simp only [Act.put, stA, stZ, stS, i64_w, i32_w]
  iterate 1 (first
   | (refine inQ_off0 (by rfl) (by rfl) ?_; simp only [Act.put, stA, stZ, stS, i64_w, i32_w])
   | (refine inQ_off1 (by rfl) (by rfl) ?_; simp only [Act.put, stA, stZ, stS, i64_w, i32_w])
   | (refine inQ_0 (v := ?_) (by rfl) (by rfl) rfl ?_ (a' := ?_) ?_ ?_; rotate_left; (intro w'; go_simp; with_reducible rfl); rotate_left; (simp only [Act.put, stA, stZ, stS, i64_w, i32_w]; rfl))
   | (refine inQ_1 (v := ?_) (by rfl) (by rfl) rfl ?_ (a' := ?_) ?_ ?_; rotate_left; (rintro w' hs; go_split_ands; go_simp; with_reducible rfl); rotate_left; (simp only [Act.put, stA, stZ, stS, i64_w, i32_w]; rfl)))
  refine inP_nil ?_
  have ha := HWA.out _ (below_alloc (Below.refl _ _) (.cells #[.map (some bc), .map (some bw)] 98)).drew
  have hcl := cell_alloc w #[.map (some bc), .map (some bw)] 98 0 _ rfl
  have hcl2 : (w.alloc (.cells #[.map (some bc), .map (some bw)] 98)).drew.cell? ⟨w.heap.size, 0, none⟩ = some (.map (some bc)) := hcl
  have hb1 : Below w.heap.size w (w.alloc (.cells #[.map (some bc), .map (some bw)] 98)).drew := (below_alloc (Below.refl _ _) _).drew
  have hsz : w.heap.size < (w.alloc (.cells #[.map (some bc), .map (some bw)] 98)).drew.heap.size := by show w.heap.size < (w.alloc _).heap.size; rw [World.size_alloc]; omega
  generalize (w.alloc (.cells #[.map (some bc), .map (some bw)] 98)).drew = W at ha hcl2 hb1 hsz ⊢
  have k7 := ha.st.cell 7 _ rfl
  have f7 := ha.st.free 7
  have hwl := ha.st.lt
  have HIC := Aside0.mk ha.ic
  have HW := Aside0.mk ha
  have HB1 := Aside0.mk hb1
  have HCW := Aside0.mk (show ∀ x, (W.setCell ⟨s0, 7, none⟩ (.int .i64 x)).heap[g0]? = W.heap[g0]? from fun x => ((Mod.refl W (· = s0)).set_own 7 (.int .i64 x)).block g0 (HROW.out.below hb1).lt (fun e => ha.sepR s0 ha.ms0 (e ▸ hr0)))
  have hct := ha.counts (x := wrap64 (found + 1)) (y := asked) ((Mod.refl W (· = s0)).set_own 7 _) (ha.st.set 7 _)
  have HCT := Aside0.mk hct
  have hr1 : Row (W.setCell ⟨s0, 7, none⟩ (.int .i64 (wrap64 (found + 1)))) .u8 g0 5 b := (HROW.out.below hb1).kept (HCW.out _)
  have hclo := clone_calls ⟨g0, 0, none⟩ c0 b (W.setCell ⟨s0, 7, none⟩ (.int .i64 (wrap64 (found + 1)))) (hr1.reads (by rw [HL0.out]; omega)) (by rw [HL0.out]; omega)
  rw [HL0.out] at hclo
  have HCLO := Aside0.mk hclo
  clear ha hcl hb1 hct hr1 hclo
  go_wp2
  refine wp_loop_rounds 3 ?_
  rw [rounds_succ]
  go_wp2_with (first
   | (at_lookup; (refine im_look _ rfl _ _ rfl Tryz.underlying3 Tryz.underlying98 (zero_bytes _) rfl HIC.out n i1 rfl _ HF.out ?_))
   | (go_at_call 42; (refine HCLO.out.mono ?_; rintro e w2 ⟨v2, rfl, ho2, hb2⟩; have HO2 := Aside0.mk ho2; have HB2 := Aside0.mk hb2; clear ho2 hb2)))
  go_ret2
  exact sread_end HCT.out.is (fun k hk => .inl hk) ((Mod.of_below HB1.out _).setCell (fun _ => .inr (.inl HCT.out.ms0)) _) HO2.out HB2.out HL0.out rfl
 | none =>
  rw [hfc] at hview
  dsimp only at hview
  have HBL := Aside0.mk hview
  have HF := Aside0.mk (show (fc n).getD (.slice none 0 0) = .slice none 0 0 by rw [hfc]; rfl)
  have hnil0 := nil_neql
  have hil : n % ns < ns := Nat.mod_lt _ h.s1
  obtain ⟨cs, hst, hcl1, hall, hap⟩ := h.cache
  obtain ⟨ov, ol, mb, f, hsh⟩ := hall (n % ns) hil
  obtain ⟨i, hi⟩ : ∃ i, n % ns = i := ⟨_, rfl⟩
  rw [hi] at hsh hil
  have HI := Aside0.mk hi
  have HSH := Aside0.mk (And.intro hst hsh)
  have HGM := Aside0.mk h.mgs
  clear hfc hview hst hcl1 hall hap hsh hi
  go_enter Tryz.func20, Tryz.ntmps20
  go_wp2_with (go_at_call 54; refine HHAS.out.mono ?_; rintro e w' ⟨rfl, rfl⟩)
  refine wp_region_ord [0, 1, 2, 3, 4, 5, 6, 7, 10, 8, 9] [0, 0, 0, 1, 0, 0, 0, 1, 0, 2, 0] (fun w' => w'.cell? ⟨s0, 2, none⟩ = some (.map (some bc)) ∧ w'.cell? ⟨s0, 3, none⟩ = some (.map (some bw))) (by kernel_rfl) rfl (by kernel_rfl) (fun _ _ _ _ h => h) ⟨hc2, hc3⟩ ?_
  iterate 9 (first
   | (refine inQ_off0 (by rfl) (by rfl) ?_; simp only [Act.put, stA, stZ, stS, i64_w, i32_w])
   | (refine inQ_off1 (by rfl) (by rfl) ?_; simp only [Act.put, stA, stZ, stS, i64_w, i32_w])
   | (refine inQ_0 (v := ?_) (by rfl) (by rfl) rfl ?_ (a' := ?_) ?_ ?_; rotate_left; (intro w'; go_simp; with_reducible rfl); rotate_left; (simp only [Act.put, stA, stZ, stS, i64_w, i32_w]; rfl))
   | (refine inQ_1 (v := ?_) (by rfl) (by rfl) rfl ?_ (a' := ?_) ?_ ?_; rotate_left; (rintro w' hs; go_split_ands; go_simp; with_reducible rfl); rotate_left; (simp only [Act.put, stA, stZ, stS, i64_w, i32_w]; rfl)))
  refine inP_2 (by rfl) (by rfl) (fun K hK => ?_)
  go_simp
  refine hK _ _ (HS.out _) ?_
  clear hK K
  try simp only [Act.put, stA, stZ, stS, i64_w, i32_w]
  iterate 1 (first
   | (refine inQ_off0 (by rfl) (by rfl) ?_; simp only [Act.put, stA, stZ, stS, i64_w, i32_w])
   | (refine inQ_off1 (by rfl) (by rfl) ?_; simp only [Act.put, stA, stZ, stS, i64_w, i32_w])
   | (refine inQ_0 (v := ?_) (by rfl) (by rfl) rfl ?_ (a' := ?_) ?_ ?_; rotate_left; (intro w'; go_simp; with_reducible rfl); rotate_left; (simp only [Act.put, stA, stZ, stS, i64_w, i32_w]; rfl))
   | (refine inQ_1 (v := ?_) (by rfl) (by rfl) rfl ?_ (a' := ?_) ?_ ?_; rotate_left; (rintro w' hs; go_split_ands; go_simp; with_reducible rfl); rotate_left; (simp only [Act.put, stA, stZ, stS, i64_w, i32_w]; rfl)))
  refine inP_nil ?_
  have ha := HWA.out _ (below_alloc (Below.refl _ _) (.cells #[.map (some bc), .map (some bw)] 98)).drew
  have hcl2 : (w.alloc (.cells #[.map (some bc), .map (some bw)] 98)).drew.cell? ⟨w.heap.size, 0, none⟩ = some (.map (some bc)) := cell_alloc w #[.map (some bc), .map (some bw)] 98 0 _ rfl
  have hcl3 : (w.alloc (.cells #[.map (some bc), .map (some bw)] 98)).drew.cell? ⟨w.heap.size, 1, none⟩ = some (.map (some bw)) := cell_alloc w #[.map (some bc), .map (some bw)] 98 1 _ rfl
  have hb1 : Below w.heap.size w (w.alloc (.cells #[.map (some bc), .map (some bw)] 98)).drew := (below_alloc (Below.refl _ _) _).drew
  have hsz : w.heap.size < (w.alloc (.cells #[.map (some bc), .map (some bw)] 98)).drew.heap.size := by show w.heap.size < (w.alloc _).heap.size; rw [World.size_alloc]; omega
  generalize (w.alloc (.cells #[.map (some bc), .map (some bw)] 98)).drew = W at ha hcl2 hcl3 hb1 hsz ⊢
  have k6 := ha.st.cell 6 _ rfl
  have hwl := ha.st.lt
  have HIC := Aside0.mk ha.ic
  have HIW := Aside0.mk ha.iw
  have HW := Aside0.mk ha
  have HB1 := Aside0.mk hb1
  have hone := fun k (hk : k < w.heap.size) => hb1.block k hk
  have HSTW := Aside0.mk (HSH.out.1.below hb1)
  have HMB := Aside0.mk (HSH.out.2.map.below hb1)
  have hk1 := HSTW.out.cell (2 * i + 1) _ HSH.out.2.h1
  have HOF := Aside0.mk (of_calls s0 gs ns cap n W k6 HH.out.s1 HH.out.s2 i1)
  rw [HI.out] at HOF
  have HGL := Aside0.mk HSTW.out.lt
  have HD := Aside0.mk (ha.mod (Mod.refl W (fun _ => False)).drew (fun _ _ => id) (fun _ _ => id) (fun _ _ => id))
  have k7 := HD.out.st.cell 7 _ rfl
  have f7 := HD.out.st.free 7
  have k8 := HD.out.st.cell 8 _ rfl
  have f8 := HD.out.st.free 8
  have hdl2 := HD.out.st.lt
  have hk1d : W.drew.cell? ⟨gs, 2 * i + 1, none⟩ = some (.map (some mb)) := hk1
  have hpd : W.drew.cell? ⟨s0, 0, none⟩ = some (.pointer (some ⟨p0, 0, none⟩)) := HD.out.st.cell 0 _ rfl
  have hpw : W.cell? ⟨s0, 0, none⟩ = some (.pointer (some ⟨p0, 0, none⟩)) := hpd
  have hl4 : n < 4096 := by omega
  clear ha hb1 hone h
  cases hf : f n with
  | some v =>
   obtain ⟨g1, c1, rfl, hr1, hcc1, hrow1, hl1, hba1⟩ := HSH.out.2.good n v hf
   rw [Int.toNat_natCast] at hrow1 hl1 hba1
   have HFF := Aside0.mk (show (f n).getD (.slice none 0 0) = .slice (some ⟨g1, 0, none⟩) 256 c1 by rw [hf]; rfl)
   have hnil := nonnil_neql ⟨g1, 0, none⟩ 256 c1
   have hct := HD.out.counts (x := wrap64 (found + 1)) (y := asked) ((Mod.refl W.drew (· = s0)).set_own 7 _) (HD.out.st.set 7 _)
   have hmw : Mod w (W.drew.setCell ⟨s0, 7, none⟩ (.int .i64 (wrap64 (found + 1)))) (· = s0) := ((Mod.of_below HB1.out _).drew).set_own 7 _
   have hR : ∀ k, R k → ¬ k = s0 := fun k hk e => HD.out.sepR s0 HD.out.ms0 (e ▸ hk)
   have hrow2 : Row (W.drew.setCell ⟨s0, 7, none⟩ (.int .i64 (wrap64 (found + 1)))) .u8 g1 5 (L.getD n []) := hrow1.mod hmw (hR g1 hr1)
   have HUSE := Aside0.mk (use_calls n g1 c1 (W.drew.setCell ⟨s0, 7, none⟩ (.int .i64 (wrap64 (found + 1)))) (hct.st.cell 1 _ rfl) (hct.st.cell 6 _ rfl) hct.cache hct.s1 hct.s2 hct.r2 hl4 (fun k hk => hct.sepR k (hct.mcM k hk)) (fun k hk => hct.subM k (hct.mcM k hk)) hct.mgs hct.ncs ⟨g1, c1, rfl, hr1, hcc1, hrow2, hl1, hba1⟩)
   have HCT := Aside0.mk hct
   have HROW2 := Aside0.mk hrow2
   have HL1 := Aside0.mk hl1
   have HMW := Aside0.mk hmw
   have HR1 := Aside0.mk hr1
   clear hf hrow1 hl1 hba1 hct hmw hR hrow2 hr1 hnil0
   have hnil0 := nil_neql
   go_wp2
   refine wp_loop_rounds 3 ?_
   rw [rounds_succ]
   go_wp2_with (at_lookup; (refine im_look _ rfl _ _ rfl Tryz.underlying3 Tryz.underlying98 (zero_bytes _) rfl HIC.out n i1 rfl _ HF.out ?_))
   rw [rounds_succ]
   go_wp2_with (at_lookup; (refine im_look _ rfl _ _ rfl Tryz.underlying3 Tryz.underlying98 (zero_bytes _) rfl HIW.out n i1 rfl (.slice none 0 0) rfl ?_))
   rw [rounds_succ]
   go_wp2_with (first
    | (go_at_call 55; refine HOF.out.mono ?_; rintro e w' ⟨rfl, rfl⟩)
    | (at_lookup; (refine im_look _ rfl _ _ rfl Tryz.underlying3 Tryz.underlying98 (zero_bytes _) rfl (HMB.out.kept (w1 := W.drew) rfl) n i1 rfl _ HFF.out ?_))
    | (go_at_call 57; (refine HUSE.out.mono ?_; rintro e w3 ⟨rfl, hm3, r3, hr3, hc3⟩; have HM3 := Aside0.mk hm3; have HU3 := Aside0.mk (HCT.out.used hm3 hr3 hc3); have HR3 := Aside0.mk hr3; have hclo := clone_calls ⟨g1, 0, none⟩ c1 (L.getD n []) w3 ((HROW2.out.mod hm3 (fun e => HCT.out.sepR g1 (HCT.out.mcM g1 e) HR1.out)).reads (by rw [HL1.out]; omega)) (by rw [HL1.out]; omega); rw [HL1.out] at hclo; have HCLO := Aside0.mk hclo; clear hm3 hr3 hc3 hclo))
    | (go_at_call 42; (refine HCLO.out.mono ?_; rintro e w4 ⟨v4, rfl, ho4, hb4⟩; have HO4 := Aside0.mk ho4; have HB4 := Aside0.mk hb4; clear ho4 hb4)))
   go_ret2
   rw [HBL.out]
   refine sread_end HU3.out.is (fun k hk => ?_) ((HMW.out.mono (fun k _ e => .inr (.inl (e ▸ HCT.out.ms0)))).trans HM3.out (fun k _ e => .inr (.inl (HCT.out.mcM k e)))) HO4.out HB4.out HL1.out rfl
   rcases hk with hk | (hk | hk) | hk
   ·exact .inl (.inl hk)
   ·exact .inl (.inr (.inl hk))
   ·rcases (HR3.out k hk).1 with h1 | h1
    ·exact .inl (.inr (.inl (HCT.out.mcM k h1)))
    ·exact .inr (Nat.le_trans HMW.out.size h1.1)
   ·exact .inl (.inr (.inr hk))
  | none =>
   have HFF := Aside0.mk (show (f n).getD (.slice none 0 0) = .slice none 0 0 by rw [hf]; rfl)
   have hct := HD.out.counts (x := found) (y := wrap64 (asked + 1)) ((Mod.refl W.drew (· = s0)).set_own 8 _) (HD.out.st.set 8 _)
   have hmw : Mod w (W.drew.setCell ⟨s0, 8, none⟩ (.int .i64 (wrap64 (asked + 1)))) (· = s0) := ((Mod.of_below HB1.out _).drew).set_own 8 _
   have HCT := Aside0.mk hct
   have HMW := Aside0.mk hmw
   have HRD := Aside0.mk (dread_calls n _ hct.disk hn)
   have hok := hct.disk.ok n hn
   have HOK := Aside0.mk hok
   have hk0 := hct.st.cell 0 _ rfl
   clear hf hct hmw hok
   go_wp2
   refine wp_loop_rounds 3 ?_
   rw [rounds_succ]
   go_wp2_with (at_lookup; (refine im_look _ rfl _ _ rfl Tryz.underlying3 Tryz.underlying98 (zero_bytes _) rfl HIC.out n i1 rfl _ HF.out ?_))
   rw [rounds_succ]
   go_wp2_with (at_lookup; (refine im_look _ rfl _ _ rfl Tryz.underlying3 Tryz.underlying98 (zero_bytes _) rfl HIW.out n i1 rfl (.slice none 0 0) rfl ?_))
   rw [rounds_succ]
   go_wp2_with (first
    | (go_at_call 55; refine HOF.out.mono ?_; rintro e w' ⟨rfl, rfl⟩)
    | (at_lookup; (refine im_look _ rfl _ _ rfl Tryz.underlying3 Tryz.underlying98 (zero_bytes _) rfl (HMB.out.kept (w1 := W.drew) rfl) n i1 rfl _ HFF.out ?_)))
   refine HRD.out.mono ?_
   rintro e w3 ⟨g3, c3, rfl, hg3, hc3, hr3, hb3⟩
   have h3 := (HCT.out.mod (Mod.of_below hb3 (fun _ => False)) (fun _ _ => id) (fun _ _ => id) (fun _ _ => id)).keep (r := (· = g3)) (fun k e => ⟨fun hk => by have := HCT.out.subM k hk; omega, e ▸ hr3.lt⟩)
   have HUSE := Aside0.mk (use_calls n g3 c3 w3 (h3.st.cell 1 _ rfl) (h3.st.cell 6 _ rfl) h3.cache h3.s1 h3.s2 h3.r2 hl4 (fun k hk => h3.sepR k (h3.mcM k hk)) (fun k hk => h3.subM k (h3.mcM k hk)) h3.mgs h3.ncs ⟨g3, c3, rfl, .inr rfl, hc3, hr3, HOK.out.1, HOK.out.2⟩)
   have H3 := Aside0.mk h3
   have HR3 := Aside0.mk hr3
   have HB3 := Aside0.mk hb3
   clear h3 hr3 hb3 hc3
   dsimp only
   go_wp2_with (first
    | (go_at_call 57; (refine HUSE.out.mono ?_; rintro e w4 ⟨rfl, hm4, r4, hr4, hc4⟩; have HM4 := Aside0.mk hm4; have HU4 := Aside0.mk (H3.out.used hm4 hr4 hc4); have HR4 := Aside0.mk hr4; have hclo := clone_calls ⟨g3, 0, none⟩ c3 (L.getD n []) w4 ((HR3.out.mod hm4 (fun e => H3.out.sepR g3 (H3.out.mcM g3 e) (.inr rfl))).reads (by rw [HOK.out.1]; omega)) (by rw [HOK.out.1]; omega); rw [HOK.out.1] at hclo; have HCLO := Aside0.mk hclo; clear hm4 hr4 hc4 hclo))
    | (go_at_call 42; (refine HCLO.out.mono ?_; rintro e w5 ⟨v5, rfl, ho5, hb5⟩; have HO5 := Aside0.mk ho5; have HB5 := Aside0.mk hb5; clear ho5 hb5)))
   go_ret2
   rw [HBL.out]
   refine sread_end HU4.out.is (fun k hk => ?_) (((HMW.out.mono (fun k _ e => .inr (.inl (e ▸ HCT.out.ms0)))).below HB3.out).trans HM4.out (fun k _ e => .inr (.inl (HCT.out.mcM k e)))) HO5.out HB5.out HOK.out.1 rfl
   have hsw := HMW.out.size
   have hsw3 := HB3.out.size
   rcases hk with hk | (hk | hk) | (hk | hk)
   ·exact .inl (.inl hk)
   ·exact .inl (.inr (.inl hk))
   ·rcases (HR4.out k hk).1 with h1 | h1
    ·exact .inl (.inr (.inl (HCT.out.mcM k h1)))
    ·exact .inr (by omega)
   ·exact .inl (.inr (.inr hk))
   ·exact .inr (by omega)
end Go.Proofs.YtkmhilhfmfmckaaGreatDoor.Hand
