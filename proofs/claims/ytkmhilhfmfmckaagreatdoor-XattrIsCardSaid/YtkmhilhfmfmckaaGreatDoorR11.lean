/- Own texts and printed words of the kit, put together and trimmed by a program of mine (merge.py). -/
import Derived.Test.YtkmhilhfmfmckaaGreatDoorR10
import Derived.Deep.DeepCutAuto
import Derived.Deep.CutBlock
namespace Go.Proofs.YtkmhilhfmfmckaaGreatDoor.Hand
set_option linter.unusedSimpArgs false
set_option linter.unusedVariables false
open Go.Shelf Go.RowKit Go.Proofs.YtkmhilhfmfmckaaGreatDoorW.PrintWords Go.Proofs.YtkmhilhfmfmckaaGreatDoorW.PrintLast Go.Proofs.YtkmhilhfmfmckaaGreatDoorW.PrintMore
def markB (b : List Int) (q : Nat) : List Int := b.set (q / 8) (Go.bits .or .u8 (b.getD (q / 8) 0) (2 ^ (q % 8)))
theorem markB_length (b : List Int) (i : Nat) : (markB b i).length = b.length := by simp [markB]
theorem allB_mark {b : List Int} (h : allB b) (i : Nat) : allB (markB b i) := allB_set h _ _ (bits_u8 _ _ _)
def maskI (held : List Bool) (fr : Nat) : Nat → Nat → List Int → List Int
 | 0, _, b => b
 | g + 1, q, b => maskI held fr g (q + 1) (if held.getD (fr + q) false = true then markB b q else b)
def takeAt (s : St) (x : Sup) (l : List Grp) (i fr zz bm : Nat) (f1 f2 : Int) : St × Int :=
 leaveI (dturnI s bm (zz - fr) f1 f2 true).1 s.hist.length (addFb x (-f2)) (setFb l i ((grpAt l i).fb + -f2)) (dturnI s bm (zz - fr) f1 f2 true).2
def tookAt (t : St × Int) (fr : Nat) (f1 f2 : Int) : St × Int × Int × Int := if t.2 ≠ 0 then (t.1, 0, 0, t.2) else (t.1, fr + f1, f2, 0)
def blkAt (s : St) (x : Sup) (l : List Grp) (i fr zz bm : Nat) (goal want : Int) : Option (St × Int × Int × Int) :=
 if chkB (s.now.getD bm []) (zz - fr) bm ≠ 0 then some (s, 0, 0, 117) else
 match findI (maskI s.held fr (zz - fr) 0 (s.now.getD bm [])) (if (zz : Int) ≤ goal then -1 else goal - fr) want with
 | (f1, f2, true) => some (tookAt (takeAt s x l i fr zz bm f1 f2) fr f1 f2)
 | (_, _, false) => none
def blkGo (s : St) (x : Sup) (l : List Grp) (own : Nat) (goal want : Int) : Nat → Nat → St × Int × Int × Int
 | 0, _ => (s, 0, 0, 28)
 | g + 1, k =>
  match blkAt s x l ((own + k) % l.length) (spanI x.geo ((own + k) % l.length : Nat)).1.toNat (spanI x.geo ((own + k) % l.length : Nat)).2.1.toNat (placeI x.geo ((own + k) % l.length : Nat)).1.toNat goal want with
  | some r => r
  | none => blkGo s x l own goal want g (k + 1)
def blocksI (s : St) (goal want : Int) : St × Int × Int × Int :=
 match sitI s.now with
 | none => (s, 0, 0, 117)
 | some (x, l) => if want < 1 then (s, 0, 0, 22) else blkGo s x l (if 0 ≤ goal ∧ goal < x.geo.blocks then (goal / x.geo.per).toNat else 0) goal want l.length 0
theorem geo_grp {g : Geo} (h : geoI g = 0) {i : Nat} (hi : (i : Int) < groupsI g) :
  ∃ fr zz bm : Nat, spanI g (i : Int) = ((fr : Int), (zz : Int), 0) ∧ placeI g (i : Int) = ((bm : Int), (bm : Int) + 1, (bm : Int) + 2, (bm : Int) + 2 + g.inodes / 2, 0) ∧ fr ≤ bm ∧ bm < zz ∧ (zz : Int) ≤ g.blocks ∧ zz - fr ≤ 2016 ∧ fr < zz := by
 have hz := geoI_zero h
 have hg := (groupsI_good (g := g) (i := (i : Int)) (by omega) hi).2.2
 have hp : 0 < g.per := by omega
 have hm : 0 ≤ (i : Int) * g.per := Int.mul_nonneg (by omega) (by omega)
 obtain ⟨i', fr, zz, bm, e1, e2, e3, e4, e5, e6, e7, e8, e9, e10, e11⟩ := geo_at h (a := (i : Int) * g.per) hm (by omega)
 rw [Int.mul_ediv_cancel _ (by omega)] at e1
 rw [← e1] at e3 e4
 exact ⟨fr, zz, bm, e3, e4, e5, by omega, e9, e10, e11⟩
theorem splitGo_cb : ∀ (g : Nat) (t : List Int) (a z : Nat), CB t a → a ≤ z → z ≤ a + g → CB (splitGo g t a z) z
 | 0, t, a, z, h, h1, h2 => by rw [splitGo]; exact h.mono h1
 | g + 1, t, a, z, h, h1, h2 => by
  rw [splitGo]
  split
  ·have hd := (downK_spec (topK a) a z (by assumption)).2
   have hp : 1 ≤ 2 ^ downK (topK a) a z := Nat.one_le_two_pow
   exact splitGo_cb g _ _ z (h.put _ hp) hd (by omega)
  ·exact h.mono h1
theorem budGo_cb (b : List Int) : ∀ (g i : Nat) (t : List Int) (fr : Int), (fr < 0 → CB t i) → (0 ≤ fr → fr.toNat ≤ i ∧ CB t fr.toNat) → CB (budGo b g i t fr) (i + g)
 | 0, i, t, fr, h1, h2 => by
  rw [budGo]
  by_cases hf : fr < 0
  ·exact h1 hf
  ·exact (h2 (by omega)).2.mono (h2 (by omega)).1
 | g + 1, i, t, fr, h1, h2 => by
  rw [budGo, show i + (g + 1) = (i + 1) + g by omega]
  split
  ·split
   ·have h := h2 (by assumption)
    exact budGo_cb b g (i + 1) _ _ (fun _ => (splitGo_cb _ _ _ _ h.2 h.1 (by omega)).mono (by omega)) (fun h => by omega)
   ·exact budGo_cb b g (i + 1) _ _ (fun h => (h1 h).mono (by omega)) (fun h => by omega)
  ·split
   ·exact budGo_cb b g (i + 1) _ _ (fun h => by omega) (fun _ => ⟨by omega, by rw [Int.toNat_natCast]; exact h1 (by assumption)⟩)
   ·exact budGo_cb b g (i + 1) _ _ (fun h => by omega) (fun h => ⟨by have := (h2 h).1; omega, (h2 h).2⟩)
theorem budI_cb (b : List Int) : CB (budI b) 2017 := by
 have := budGo_cb b 2017 0 (List.replicate 22 0) (-1) (fun _ => CB.zero) (fun h => by omega)
 simpa [budI] using this
theorem runGo_le (b : List Int) (goal want : Int) : ∀ (g n : Nat), runGo b goal want g n ≤ n + g
 | 0, n => Nat.le_refl _
 | g + 1, n => by
  rw [runGo]
  split
  ·have := runGo_le b goal want g (n + 1); omega
  ·omega
theorem dnGo_lt (t : List Int) : ∀ (k j : Nat), dnGo t k = some j → j < k
 | 0, j, h => by simp [dnGo] at h
 | k + 1, j, h => by
  rw [dnGo] at h
  split at h
  ·cases h; omega
  ·have := dnGo_lt t k j h; omega
theorem findI_range {b : List Int} {goal want f1 f2 : Int} (h : findI b goal want = (f1, f2, true)) : 0 ≤ f1 ∧ f1 ≤ 2017 ∧ 0 ≤ f2 ∧ f2 ≤ 2017 := by
 unfold findI at h
 split at h
 ·cases h
 ·split at h
  ·rename_i h0 h1
   have hr := runGo_le b goal want 2017 0
   have hg : 0 ≤ goal ∧ goal < 2016 := by
    rw [runGo] at h1
    split at h1
    ·rename_i h2
     have := setI_lt h2.2.2
     omega
    ·omega
   simp only [Prod.mk.injEq, and_true] at h
   omega
  ·have hc := budI_cb b
   unfold pickI at h
   split at h
   ·rename_i k _
    have := hc.get k
    simp only [Prod.mk.injEq, and_true] at h
    omega
   ·split at h
    ·rename_i k hk
     have := hc.get k
     have h3 := dnGo_lt _ _ _ hk
     have h4 := Go.Lib.bitLen_le ((min want 1024).toNat - 1) 10 (by omega) (by omega)
     have h5 := pow_small k (by omega)
     simp only [Prod.mk.injEq, and_true] at h
     omega
    ·cases h
end Go.Proofs.YtkmhilhfmfmckaaGreatDoor.Hand
namespace Go.Proofs.YtkmhilhfmfmckaaGreatDoor.Hand
set_option linter.unusedSimpArgs false
set_option linter.unusedVariables false
open Go.Shelf Go.RowKit Go.Proofs.YtkmhilhfmfmckaaGreatDoorW.PrintWords Go.Proofs.YtkmhilhfmfmckaaGreatDoorW.PrintLast Go.Proofs.YtkmhilhfmfmckaaGreatDoorW.PrintMore
attribute [local go_sem] Oper.semAt_some
def Cs (W : World) (l : List (Nat × TypeId × List Value)) : Prop := ∀ p ∈ l, Strc W p.1 p.2.1 p.2.2
theorem Cs.mod {W W1 : World} {S : Nat → Prop} {l : List (Nat × TypeId × List Value)} (h : Cs W l) (hm : Mod W W1 S) (hn : ∀ p ∈ l, ¬ S p.1) : Cs W1 l := fun p hp => (h p hp).mod hm (hn p hp)
theorem Cs.below {W W1 : World} {l : List (Nat × TypeId × List Value)} (h : Cs W l) (hm : Below W.heap.size W W1) : Cs W1 l := fun p hp => (h p hp).below hm
theorem Cs.get {W : World} {l : List (Nat × TypeId × List Value)} (h : Cs W l) (i : Nat) {p : Nat × TypeId × List Value} (hi : l[i]? = some p) : Strc W p.1 p.2.1 p.2.2 := h p (List.mem_of_getElem? hi)
theorem Cs.sub {W : World} {l m : List (Nat × TypeId × List Value)} (h : Cs W l) (hm : ∀ p ∈ m, p ∈ l) : Cs W m := fun p hp => h p (hm p hp)
theorem Cs.cons {W : World} {l : List (Nat × TypeId × List Value)} (h : Cs W l) {p : Nat × TypeId × List Value} (hp : Strc W p.1 p.2.1 p.2.2) : Cs W (p :: l) := fun x hx => by
 rcases List.mem_cons.1 hx with rfl | hx
 ·exact hp
 ·exact h x hx
theorem Cs.nil (W : World) : Cs W [] := fun _ h => by cases h
theorem cs_alloc (W : World) (l : List (Nat × TypeId × List Value)) (h : Cs W l) (t : TypeId) (v : List Value) : Cs (W.alloc (.cells v.toArray t)) ((W.heap.size, t, v) :: l) :=
 (h.below (below_alloc (Below.refl _ _) _)).cons (alloc_last W _)
theorem mod_put (W : World) (b : Nat) (o : Obj) : Mod W (W.putObj b o) (fun k => k = b) := ⟨rfl, rfl, rfl, by simp, fun k _ hn => World.putObj_heap_other hn⟩
theorem leavesM_ret {n : Nat} {P : Program} {fn : Func} {tmps : Array Value} {R : Ending → World → Prop} {w : World} {v : Value} (hr : (results fn tmps).run P w = .ok v w) (hR : R (.returned v) w) : LeavesInM Fence.wide n P fn tmps R [] .returning w := ⟨v, hr, hR⟩
theorem leavesM_mark {n : Nat} {P : Program} {fn : Func} {tmps : Array Value} {R : Ending → World → Prop} {w : World} {v : Value} {B : Nat} (hK : w.heap[B]? = some (.deferred (some []))) (hr : (results fn tmps).run P (w.putObj B (.deferred none)) = .ok v (w.putObj B (.deferred none))) (hR : R (.returned v) (w.putObj B (.deferred none))) :
  LeavesInM Fence.wide n P fn tmps R [{ target := .collected B, args := #[] }] .returning w := ⟨by simp, .inl ⟨B, _, rfl, run_takeDeferred hK, v, hr, hR⟩⟩
theorem res3 {W : World} {a b c : Nat} {u v x x0 y0 z0 : Value} {ta tb tc : TypeId} (ha : Strc W a ta [x0]) (hb : Strc W b tb [y0]) (hc : Strc W c tc [z0]) (hab : a ≠ b) (hac : a ≠ c) (hbc : b ≠ c) :
  Strc (((W.setCell ⟨a, 0, none⟩ u).setCell ⟨b, 0, none⟩ v).setCell ⟨c, 0, none⟩ x) a ta [u] ∧ Strc (((W.setCell ⟨a, 0, none⟩ u).setCell ⟨b, 0, none⟩ v).setCell ⟨c, 0, none⟩ x) b tb [v] ∧ Strc (((W.setCell ⟨a, 0, none⟩ u).setCell ⟨b, 0, none⟩ v).setCell ⟨c, 0, none⟩ x) c tc [x] ∧
  Mod W (((W.setCell ⟨a, 0, none⟩ u).setCell ⟨b, 0, none⟩ v).setCell ⟨c, 0, none⟩ x) (fun k => k = a ∨ k = b ∨ k = c) := by
 have m1 := (Mod.refl W (· = a)).set_own 0 u
 have m2 := (Mod.refl (W.setCell ⟨a, 0, none⟩ u) (· = b)).set_own 0 v
 have m3 := (Mod.refl ((W.setCell ⟨a, 0, none⟩ u).setCell ⟨b, 0, none⟩ v) (· = c)).set_own 0 x
 refine ⟨((ha.set 0 u).mod m2 hab).mod m3 hac, ((hb.mod m1 (Ne.symm hab)).set 0 v).mod m3 hbc, ((hc.mod m1 (Ne.symm hac)).mod m2 (Ne.symm hbc)).set 0 x, ?_⟩
 exact ((m1.mono (fun k _ e => .inl e)).trans (m2.mono (fun k _ e => .inr (.inl e))) (fun _ _ e => e)).trans (m3.mono (fun k _ e => .inr (.inr e))) (fun _ _ e => e)
def BlkPost (D : Nat → Prop) (s0 : Nat) (r : St × Int × Int × Int) (w : World) (e : Ending) (w' : World) : Prop :=
 ∃ D', e = .returned (.tuple #[.int .i64 r.2.1, .int .i64 r.2.2.1, .int .i64 r.2.2.2]) ∧ StIs w' D' s0 r.1 ∧ (∀ k, D' k → D k ∨ w.heap.size ≤ k) ∧ Mod w w' D
theorem runGo_out {b : List Int} {goal want : Int} (h : goal < 0 ∨ 2016 ≤ goal) : runGo b goal want 2017 0 = 0 := by
 rw [runGo, if_neg]
 rintro ⟨_, h2, h3⟩
 have := setI_lt h3
 omega
theorem findI_out {b : List Int} {g1 g2 want : Int} (h1 : g1 < 0 ∨ 2016 ≤ g1) (h2 : g2 < 0 ∨ 2016 ≤ g2) : findI b g1 want = findI b g2 want := by
 unfold findI
 rw [runGo_out h1, runGo_out h2]
 rfl
theorem w64_bound (x : Int) : -9223372036854775808 ≤ wrap64 x ∧ wrap64 x < 9223372036854775808 := by unfold wrap64; omega
theorem findI_wrap {b : List Int} {goal want : Int} {fr : Nat} (h0 : -9223372036854775808 ≤ goal) (h1 : goal < 9223372036854775808) (hf : fr ≤ 100000000) : findI b (goal - fr) want = findI b (wrap64 (goal - fr)) want := by
 by_cases h : -9223372036854775808 ≤ goal - fr
 ·rw [show wrap64 (goal - fr) = goal - fr by unfold wrap64; omega]
 ·exact findI_out (.inl (by omega)) (.inr (by unfold wrap64; omega))
set_option maxHeartbeats 4000000 in
set_option maxRecDepth 100000 in
theorem blocks_calls {D : Nat → Prop} {s0 : Nat} {s : St} (goal want : Int) (w : World) (h : StIs w D s0 s) (hT : Tab w) (hTD : ¬ D 2) (hh : s.hist.length ≤ 900000)
  (hg0 : -9223372036854775808 ≤ goal) (hg1 : goal < 9223372036854775808) (hw0 : -9223372036854775808 ≤ want) (hw1 : want < 9223372036854775808) :
  Calls Tryz.prog 30 #[.pointer (some ⟨s0, 0, none⟩), .int .i64 goal, .int .i64 want] w (BlkPost D s0 (blocksI s goal want) w) := by
 have HSIT := Aside0.mk (fun (W : World) (hW : Below w.heap.size w W) => sit_calls W (h.below hW))
 have hlen := h.len
 obtain ⟨r, hr⟩ : ∃ r, blocksI s goal want = r := ⟨_, rfl⟩
 rw [hr]
 have HR := Aside0.mk hr
 have HH := Aside0.mk (And.intro h (And.intro hT hTD))
 have hsub := h.sub
 obtain ⟨q, hq⟩ : ∃ q, w.heap.size = q := ⟨_, rfl⟩
 have HQ := Aside0.mk hq
 have hcs : Cs ((((((w.alloc (.cells #[.pointer (some ⟨s0, 0, none⟩)] 42)).alloc (.cells #[.int .i64 goal] 3)).alloc (.cells #[.int .i64 want] 3)).alloc (.cells #[.int .i64 0] 3)).alloc (.cells #[.int .i64 0] 3)).alloc (.cells #[.int .i64 0] 26))
   [(q + 5, 26, [.int .i64 0]), (q + 4, 3, [.int .i64 0]), (q + 3, 3, [.int .i64 0]), (q + 2, 3, [.int .i64 want]), (q + 1, 3, [.int .i64 goal]), (q, 42, [.pointer (some ⟨s0, 0, none⟩)])] := by
  have := cs_alloc _ _ (cs_alloc _ _ (cs_alloc _ _ (cs_alloc _ _ (cs_alloc _ _ (cs_alloc w [] (Cs.nil w) 42 [.pointer (some ⟨s0, 0, none⟩)]) 3 [.int .i64 goal]) 3 [.int .i64 want]) 3 [.int .i64 0]) 3 [.int .i64 0]) 26 [.int .i64 0]
  simpa [hq] using this
 have hb0 : Below w.heap.size w ((((((w.alloc (.cells #[.pointer (some ⟨s0, 0, none⟩)] 42)).alloc (.cells #[.int .i64 goal] 3)).alloc (.cells #[.int .i64 want] 3)).alloc (.cells #[.int .i64 0] 3)).alloc (.cells #[.int .i64 0] 3)).alloc (.cells #[.int .i64 0] 26)) :=
  below_alloc (below_alloc (below_alloc (below_alloc (below_alloc (below_alloc (Below.refl _ _) _) _) _) _) _) _
 have hz0 : ((((((w.alloc (.cells #[.pointer (some ⟨s0, 0, none⟩)] 42)).alloc (.cells #[.int .i64 goal] 3)).alloc (.cells #[.int .i64 want] 3)).alloc (.cells #[.int .i64 0] 3)).alloc (.cells #[.int .i64 0] 3)).alloc (.cells #[.int .i64 0] 26)).heap.size = q + 6 := by simp [hq]
 refine (callsIn_wide (n := 0)).1 (callsIn_of_wp_marks Tryz.func30 rfl trivial ?_ rfl)
 simp only [Tryz.ntmps30, List.size_toArray, List.length_cons, List.length_nil, Nat.reduceAdd, Nat.reduceSub, Array.replicate_succ, Array.replicate_zero, List.push_toArray, List.append_toArray, List.nil_append, List.cons_append]
 refine wpIn_wide.2 ?_
 go_upto_region 1 with fail
 simp only [World.size_alloc, hq, Nat.add_assoc, Nat.reduceAdd]
 generalize ((((((w.alloc (.cells #[.pointer (some ⟨s0, 0, none⟩)] 42)).alloc (.cells #[.int .i64 goal] 3)).alloc (.cells #[.int .i64 want] 3)).alloc (.cells #[.int .i64 0] 3)).alloc (.cells #[.int .i64 0] 3)).alloc (.cells #[.int .i64 0] 26)) = W0 at hcs hb0 hz0 ⊢
 have HCS := Aside0.mk hcs
 have HB0 := Aside0.mk hb0
 have HS0 := Aside0.mk (HSIT.out W0 hb0)
 have c3 := (hcs.get 5 rfl).cell 0 _ rfl
 dsimp only at c3
 clear hcs hb0 HSIT h hT hTD hr
 go_wp2_with fail
 refine HS0.out.mono ?_
 rintro e w1 ⟨D1, h1, hd1, hm1, hrest⟩
 have hnD : ∀ k, q ≤ k → ¬ D k := fun k hk hd => by have := hsub _ hd; omega
 have hcs1 := HCS.out.mod hm1 (fun p hp => by
  simp only [List.mem_cons, List.not_mem_nil, or_false] at hp
  rcases hp with rfl | rfl | rfl | rfl | rfl | rfl <;> exact hnD _ (by dsimp only; omega))
 have HC1 := Aside0.mk hcs1
 have hz1 := hm1.size
 rw [hz0] at hz1
 have hd1' : ∀ k, D1 k → D k ∨ q + 6 ≤ k := fun k hk => (hd1 k hk).imp id (fun h => by omega)
 have HX := Aside0.mk (And.intro h1 (And.intro hd1' ((Mod.of_below HB0.out D).trans hm1 (fun _ _ e => e))))
 have HSUB := Aside0.mk (And.intro hsub hnD)
 clear c3 hcs1 h1 hd1 hm1 hd1' hsub hnD
 cases hsi : sitI s.now with
 | none =>
  rw [hsi] at hrest
  have hrn : r = (s, 0, 0, 117) := by rw [← HR.out]; unfold blocksI; rw [hsi]
  subst hrn
  subst hrest
  clear hsi HR
  dsimp only
  go_upto_region 2 with fail
  have hcs2 := cs_alloc _ _ HC1.out 117 [.pointer none]
  have hb2 := below_alloc (Below.refl w1.heap.size w1) (.cells #[.pointer none] 117)
  generalize w1.alloc (.cells #[.pointer none] 117) = w2 at hcs2 hb2 ⊢
  have HB2 := Aside0.mk hb2
  have HC2 := Aside0.mk hcs2
  have c6 := (hcs2.get 3 rfl).cell 0 _ rfl
  have c7 := (hcs2.get 2 rfl).cell 0 _ rfl
  have c8 := (hcs2.get 1 rfl).cell 0 _ rfl
  have z6 := (hcs2.get 3 rfl).free 0
  have z7 := (hcs2.get 2 rfl).free 0
  have z8 := (hcs2.get 1 rfl).free 0
  dsimp only at c6 c7 c8 z6 z7 z8
  clear hcs2 hb2
  go_wp2
  have hr3 := res3 (u := .int .i64 0) (v := .int .i64 0) (x := .int .i64 117) (HC2.out.get 3 rfl) (HC2.out.get 2 rfl) (HC2.out.get 1 rfl) (by dsimp only; omega) (by dsimp only; omega) (by dsimp only; omega)
  dsimp only at hr3
  generalize (((w2.setCell ⟨q + 3, 0, none⟩ (.int .i64 0)).setCell ⟨q + 4, 0, none⟩ (.int .i64 0)).setCell ⟨q + 5, 0, none⟩ (.int .i64 117)) = w3 at hr3 ⊢
  obtain ⟨e1, e2, e3, hm3⟩ := hr3
  have f1 := e1.cell 0 _ rfl
  have f2 := e2.cell 0 _ rfl
  have f3 := e3.cell 0 _ rfl
  have hnn : ∀ k, D1 k → ¬ (k = q + 3 ∨ k = q + 4 ∨ k = q + 5) := fun k hk e => (HX.out.2.1 k hk).elim (fun h => by have := HSUB.out.1 k h; omega) (fun h => by omega)
  refine leavesM_ret (v := .tuple #[.int .i64 0, .int .i64 0, .int .i64 117]) (by simp [results, Tryz.results30, go_sem, f1, f2, f3]) ⟨D1, rfl, (HX.out.1.below HB2.out).mod hm3 hnn, fun k hk => (HX.out.2.1 k hk).imp id (fun h => by omega), (HX.out.2.2.below HB2.out).trans hm3 (fun i hi e => by exfalso; omega)⟩
 | some qx =>
  obtain ⟨⟨⟨bl, pr, ino, jo⟩, fb, fi, orp, mnt, cl⟩, l⟩ := qx
  obtain ⟨x, hx⟩ : ∃ x : Sup, (⟨⟨bl, pr, ino, jo⟩, fb, fi, orp, mnt, cl⟩ : Sup) = x := ⟨_, rfl⟩
  rw [hx] at hsi
  rw [hsi] at hrest
  obtain ⟨k0, gv, rfl, hk, hk0, hgv⟩ := hrest
  have hsat := sitI_sat hsi
  obtain ⟨own, hown⟩ : ∃ own, (if 0 ≤ goal ∧ goal < x.geo.blocks then (goal / x.geo.per).toNat else 0) = own := ⟨_, rfl⟩
  have hr0 : r = if want < 1 then (s, 0, 0, 22) else blkGo s x l own goal want l.length 0 := by
   rw [← HR.out, ← hown]; unfold blocksI; rw [hsi]
  have hgeo : x.geo = ⟨bl, pr, ino, jo⟩ := by rw [← hx]
  rw [hgeo] at hown
  dsimp only at hown
  have hbl := hsat.bl
  rw [hgeo] at hbl
  dsimp only at hbl
  have hgz := hsat.geo
  rw [hgeo] at hgz
  have hzz := geoI_zero hgz
  dsimp only at hzz
  have hdc : x.cells = [.int .i64 bl, .int .i64 pr, .int .i64 ino, .int .i64 jo, .int .i64 fb, .int .i64 fi, .int .i64 orp, .int .i64 mnt, .bool cl] := by rw [← hx]; rfl
  have HDC := Aside0.mk hdc
  have HK := Aside0.mk hk
  have HSAT := Aside0.mk hsat
  have HR0 := Aside0.mk hr0
  have HGEO := Aside0.mk hgeo
  have HGZ := Aside0.mk hgz
  have HBL := Aside0.mk hbl
  have HOWN := Aside0.mk hown
  have HGV := Aside0.mk hgv
  have hbl2 : bl ≤ 4096 := hzz.1.2
  have hpr1 : 32 ≤ pr := hzz.2.1.1
  have hpr2 : pr ≤ 2016 := hzz.2.1.2
  rw [hz0] at hk0
  clear hk hr0 hgeo hgz hbl hown hgv hsi HR hx hsat hzz hdc
  dsimp only
  go_upto_region 2 with fail
  have hcs2 := cs_alloc _ _ HC1.out 117 [.pointer (some ⟨k0, 0, none⟩)]
  have hb2 := below_alloc (Below.refl w1.heap.size w1) (.cells #[.pointer (some ⟨k0, 0, none⟩)] 117)
  have hz2 : (w1.alloc (.cells #[.pointer (some ⟨k0, 0, none⟩)] 117)).heap.size = w1.heap.size + 1 := by simp
  obtain ⟨p, hp⟩ : ∃ p, w1.heap.size = p := ⟨_, rfl⟩
  rw [hp] at hcs2 hz1 hz2 ⊢
  generalize w1.alloc (.cells #[.pointer (some ⟨k0, 0, none⟩)] 117) = w2 at hcs2 hb2 hz2 ⊢
  have HB2 := Aside0.mk hb2
  have HC2 := Aside0.mk hcs2
  have hk2 := HK.out.below hb2
  have HK2 := Aside0.mk hk2
  have HP := Aside0.mk hp
  have c5 := (hcs2.get 4 rfl).cell 0 _ rfl
  have c9 := (hcs2.get 0 rfl).cell 0 _ rfl
  have d1 := hk2.st.cell 1 (.int .i64 bl) (by simp [deskC, HDC.out])
  have d2 := hk2.st.cell 2 (.int .i64 pr) (by simp [deskC, HDC.out])
  have d3 := hk2.st.cell 3 (.int .i64 ino) (by simp [deskC, HDC.out])
  have d4 := hk2.st.cell 4 (.int .i64 jo) (by simp [deskC, HDC.out])
  dsimp only at c5 c9
  have hkp : k0 < p := by have := HK.out.st.lt; omega
  have hgp : ∀ g, gv.ownBlock = some g → q + 6 ≤ g ∧ g < p := fun g hg => ⟨by have := HGV.out g hg; omega, by have := own_lt HK.out.gr g hg; omega⟩
  have HGP := Aside0.mk hgp
  clear hgp
  clear hcs2 hb2 hk2 hp HK HC1
  by_cases hwant : want < 1
  ·have c6 := (HC2.out.get 3 rfl).cell 0 _ rfl
   have c7 := (HC2.out.get 2 rfl).cell 0 _ rfl
   have c8 := (HC2.out.get 1 rfl).cell 0 _ rfl
   have z6 := (HC2.out.get 3 rfl).free 0
   have z7 := (HC2.out.get 2 rfl).free 0
   have z8 := (HC2.out.get 1 rfl).free 0
   dsimp only at c6 c7 c8 z6 z7 z8
   have hrn := HR0.out
   rw [if_pos hwant] at hrn
   subst hrn
   clear HR0 d1 d2 d3 d4
   go_wp2
   have hr3 := res3 (u := .int .i64 0) (v := .int .i64 0) (x := .int .i64 22) (HC2.out.get 3 rfl) (HC2.out.get 2 rfl) (HC2.out.get 1 rfl) (by dsimp only; omega) (by dsimp only; omega) (by dsimp only; omega)
   dsimp only at hr3
   generalize (((w2.setCell ⟨q + 3, 0, none⟩ (.int .i64 0)).setCell ⟨q + 4, 0, none⟩ (.int .i64 0)).setCell ⟨q + 5, 0, none⟩ (.int .i64 22)) = w3 at hr3 ⊢
   obtain ⟨e1, e2, e3, hm3⟩ := hr3
   have f1 := e1.cell 0 _ rfl
   have f2 := e2.cell 0 _ rfl
   have f3 := e3.cell 0 _ rfl
   have hnn : ∀ k, D1 k → ¬ (k = q + 3 ∨ k = q + 4 ∨ k = q + 5) := fun k hk e => (HX.out.2.1 k hk).elim (fun h => by have := HSUB.out.1 k h; omega) (fun h => by omega)
   exact leavesM_ret (v := .tuple #[.int .i64 0, .int .i64 0, .int .i64 22]) (by simp [results, Tryz.results30, go_sem, f1, f2, f3]) ⟨D1, rfl, (HX.out.1.below HB2.out).mod hm3 hnn, fun k hk => (HX.out.2.1 k hk).imp id (fun h => by omega), (HX.out.2.2.below HB2.out).trans hm3 (fun i hi e => by exfalso; omega)⟩
  ·have hr0 := HR0.out
   rw [if_neg hwant] at hr0
   have HR1 := Aside0.mk hr0
   clear hr0 HR0
   go_upto_region 8 with fail
   have hcs3 := cs_alloc _ _ HC2.out 80 [.int .i64 bl, .int .i64 pr, .int .i64 ino, .int .i64 jo]
   have hb3 := below_alloc (Below.refl w2.heap.size w2) (.cells #[.int .i64 bl, .int .i64 pr, .int .i64 ino, .int .i64 jo] 80)
   have hz3 : (w2.alloc (.cells #[.int .i64 bl, .int .i64 pr, .int .i64 ino, .int .i64 jo] 80)).heap.size = p + 2 := by simp [hz2]
   rw [hz2] at hcs3
   generalize w2.alloc (.cells #[.int .i64 bl, .int .i64 pr, .int .i64 ino, .int .i64 jo] 80) = w3 at hcs3 hb3 hz3 ⊢
   have HB3 := Aside0.mk (below_then HB2.out HB2.out.size hb3)
   have HC3 := Aside0.mk hcs3
   have HK3 := Aside0.mk (HK2.out.below hb3)
   have c4 := (hcs3.get 6 rfl).cell 0 _ rfl
   have c5 := (hcs3.get 5 rfl).cell 0 _ rfl
   have c9 := (hcs3.get 1 rfl).cell 0 _ rfl
   have g0 := (hcs3.get 0 rfl).cell 0 _ rfl
   have g1 := (hcs3.get 0 rfl).cell 1 _ rfl
   have g2 := (hcs3.get 0 rfl).cell 2 _ rfl
   have g3 := (hcs3.get 0 rfl).cell 3 _ rfl
   dsimp only at c4 c5 c9 g0 g1 g2 g3
   clear hcs3 hb3 d1 d2 d3 d4
   go_cut [52] from 45 to 52 (fun v wx => v = .bool (decide (0 ≤ goal ∧ goal < bl)) ∧ wx = w3)
   case first =>
    by_cases e1 : 0 ≤ goal
    ·by_cases e2 : goal < bl
     ·go_wp2
      go_meet
      exact ⟨by simp [e1, e2], rfl⟩
     ·go_wp2
      go_meet
      exact ⟨by simp [e1, e2], rfl⟩
    ·go_wp2
     go_meet
     exact ⟨by rw [decide_eq_false (by omega)], rfl⟩
   case rest =>
    obtain ⟨rfl, rfl⟩ := hcut
    go_upto_if 52 with fail
    go_cut [12] from 45 to 56 (fun v wx => v = .int .i64 (own : Nat) ∧ wx = wc)
    case first =>
     by_cases e : 0 ≤ goal ∧ goal < bl
     ·have ho := HOWN.out
      rw [if_pos e] at ho
      have hq0 : 0 ≤ goal / pr := Int.ediv_nonneg e.1 (by omega)
      have ht : goal.tdiv pr = (own : Int) := by rw [Int.tdiv_eq_ediv_of_nonneg e.1, ← ho]; omega
      have hp0 : (pr == 0) = false := by rw [beq_eq_false_iff_ne]; omega
      have hp1 : ¬ pr = 0 := by omega
      have hq0 : own ≤ 4096 := by
       have h1 : goal / pr ≤ goal := Int.ediv_le_self _ e.1
       omega
      clear ho
      go_wp2
      go_meet
      exact ⟨rfl, rfl⟩
     ·have ho := HOWN.out
      rw [if_neg e] at ho
      subst ho
      go_wp2
      go_meet
      exact ⟨rfl, rfl⟩
    case rest =>
     obtain ⟨rfl, rfl⟩ := hcut
     go_upto_region 11 with fail
     have hown2 : own ≤ 4096 := by
      have := HOWN.out
      split at this
      ·have h1 : goal / pr ≤ goal := Int.ediv_le_self _ (by omega)
       omega
      ·omega
     refine (round_calls (k0 := k0) (own : Int) wc).mono ?_
     rintro e w4 ⟨rfl, hw4⟩
     have hcs4 := cs_alloc _ _ (cs_alloc _ _ HC3.out 117 [.pointer (some ⟨k0, 0, none⟩)]) 3 [.int .i64 (own : Nat)]
     have hb4 : Below wc.heap.size wc ((wc.alloc (.cells #[.pointer (some ⟨k0, 0, none⟩)] 117)).alloc (.cells #[.int .i64 (own : Nat)] 3)) := below_alloc (below_alloc (Below.refl _ _) _) _
     simp only [World.size_alloc, hz3, Nat.add_assoc, Nat.reduceAdd] at hcs4
     have hz4 : w4.heap.size = p + 4 := by rw [hw4]; simp [hz3]
     change Below wc.heap.size wc ((wc.alloc (.cells [.pointer (some ⟨k0, 0, none⟩)].toArray 117)).alloc (.cells [.int .i64 (own : Nat)].toArray 3)) at hb4
     rw [← hw4] at hcs4 hb4
     rw [hz3]
     have HB4 := Aside0.mk (below_then HB3.out HB3.out.size hb4)
     have HC4 := Aside0.mk hcs4
     have HK4 := Aside0.mk (HK3.out.below hb4)
     obtain ⟨A, cg, rfl, _, hAg, _, _⟩ := own_shape HK4.out.gr
     clear hw4 hcs4 hb4 c4 c5 c9 g0 g1 g2 g3
     have hD1q : ∀ j, q ≤ j → j < q + 6 → ¬ D1 j := fun j h1 h2 hd => (HX.out.2.1 j hd).elim (HSUB.out.2 j h1) (fun h => by omega)
     have hD1p : ∀ j, p ≤ j → ¬ D1 j := fun j h1 hd => by have := HX.out.1.sub _ hd; have := HP.out; omega
     have HD1 := Aside0.mk (And.intro hD1q hD1p)
     have HS4 := Aside0.mk (HX.out.1.below HB4.out)
     clear hD1q hD1p
     dsimp only
     go_wp2
     refine (wpIn_wide (n := 0)).1 ?_
     apply wp_rangeFunc_kept (n := 0) (gf := 133) (lb := #[.pointer (some ⟨p + 2, 0, none⟩), .pointer (some ⟨p + 3, 0, none⟩)]) rfl (enters_of Tryz.func133 (by kernel_rfl) rfl) (encs := fun x : Nat => #[.int .i64 (x : Nat)]) (fun _ => rfl) ((List.range l.length).map (fun k => (own + k) % l.length))
      (fun k W => ∃ Dk, Aside0 (StIs W Dk s0 s) ∧ Aside0 (∀ j, Dk j → D1 j ∨ p + 6 ≤ j) ∧ Aside0 (Mod w4 W D1) ∧ Aside0 (r = blkGo s x l own goal want (l.length - k) k))
      (fun c W => c = .ret ∧ ∃ Dk, Aside0 (StIs W Dk s0 r.1) ∧ Aside0 (∀ j, Dk j → D1 j ∨ p + 6 ≤ j) ∧ Aside0 (Mod w4 W (fun j => D1 j ∨ q ≤ j)) ∧ Aside0 (Strc W (q + 3) 3 [.int .i64 r.2.1] ∧ Strc W (q + 4) 3 [.int .i64 r.2.2.1] ∧ Strc W (q + 5) 26 [.int .i64 r.2.2.2]))
      (hassign := ?assign) (hbody := ?body) (hiter := ?iter) (hdone := ?done) (hstop := ?stop) (hI := ?hI) (hIx := ?hIx) (hIb := ?hIb) (h0 := ?h0)
     case assign =>
      intro l0 x0 W K hK
      gi_wp2
      exact hK
     case hI =>
      rintro k W b o hb ⟨Dk, h1, h2, h3, h4⟩
      rw [hz4] at hb
      have hnb : ∀ j, Dk j → ¬ j = b := fun j hj e => (h2.out j hj).elim (fun h => HD1.out.2 j (by omega) h) (fun h => by omega)
      exact ⟨Dk, ⟨h1.out.mod (mod_put W b o) hnb⟩, h2, ⟨h3.out.trans (mod_put W b o) (fun i hi e => by exfalso; omega)⟩, h4⟩
     case hIx =>
      rintro c W b o hb ⟨hc, Dk, h1, h2, h3, h4, h5, h6⟩
      rw [hz4] at hb
      have hnb : ∀ j, Dk j → ¬ j = b := fun j hj e => (h2.out j hj).elim (fun h => HD1.out.2 j (by omega) h) (fun h => by omega)
      exact ⟨hc, Dk, ⟨h1.out.mod (mod_put W b o) hnb⟩, h2, ⟨h3.out.trans (mod_put W b o) (fun i hi e => by exfalso; omega)⟩, ⟨h4.mod (mod_put W b o) (by omega), h5.mod (mod_put W b o) (by omega), h6.mod (mod_put W b o) (by omega)⟩⟩
     case hIb =>
      rintro k W W' ⟨Dk, h1, h2, h3, h4⟩ hb
      exact ⟨Dk, ⟨h1.out.below hb⟩, h2, ⟨h3.out.below hb⟩, h4⟩
     case h0 => exact ⟨D1, HS4, ⟨fun j hj => .inl hj⟩, ⟨Mod.refl _ _⟩, HR1⟩
     case iter =>
      intro Y N W1 hYI hYb hY0 hyield
      have hl14 : l.length ≤ 14 := HSAT.out.l1
      have := round1_iter (m := 0) (n := l.length) (k0 := k0) (bk := p + 2) (bo := p + 3) (l := w4.heap.size + 1) (own := own) (A := A) (c := cg) (Y := Y) (N := N) (W := W1) (fun k W hy => by
       obtain ⟨Dk, h1, h2, h3, h4⟩ := hYI k W hy
       refine ⟨h3.out.cell ((HC4.out.get 1 rfl).cell 0 _ rfl) (HD1.out.2 _ (by dsimp only; omega)), h3.out.cell ((HC4.out.get 0 rfl).cell 0 _ rfl) (HD1.out.2 _ (by dsimp only; omega)), h3.out.cell (HK4.out.st.cell 10 _ (by simp [deskC, HDC.out])) HK4.out.nk⟩) hY0 hl14 (by omega) (fun k W hk hy => hyield k _ W (by rw [List.getElem?_map, List.getElem?_range hk]; rfl) hy)
      have e1 : ((List.range l.length).map (fun k => (own + k) % l.length)).length = l.length := by simp
      rw [e1]
      exact this
     case done =>
      rintro W hW ⟨Dk, h1, h2, h3, h4⟩ hK
      rw [hz4] at hK
      have hrn := h4.out
      simp only [List.length_map, List.length_range, Nat.sub_self, blkGo] at hrn
      subst hrn
      have hcs5 := HC4.out.mod h3.out (fun p' hp' => by
       simp only [List.mem_cons, List.not_mem_nil, or_false] at hp'
       rcases hp' with rfl | rfl | rfl | rfl | rfl | rfl | rfl | rfl | rfl | rfl <;> first | exact HD1.out.2 _ (by dsimp only; omega) | exact HD1.out.1 _ (by dsimp only; omega) (by dsimp only; omega))
      have hcs := Aside0.mk hcs5
      have c6 := (hcs5.get 6 rfl).cell 0 _ rfl
      have c7 := (hcs5.get 5 rfl).cell 0 _ rfl
      have c8 := (hcs5.get 4 rfl).cell 0 _ rfl
      have z6 := (hcs5.get 6 rfl).free 0
      have z7 := (hcs5.get 5 rfl).free 0
      have z8 := (hcs5.get 4 rfl).free 0
      dsimp only at c6 c7 c8 z6 z7 z8
      have HKM := Aside0.mk hK
      clear hcs5 hK
      rw [hz4]
      go_wp2
      have hr3 := res3 (u := .int .i64 0) (v := .int .i64 0) (x := .int .i64 28) (hcs.out.get 6 rfl) (hcs.out.get 5 rfl) (hcs.out.get 4 rfl) (by dsimp only; omega) (by dsimp only; omega) (by dsimp only; omega)
      dsimp only at hr3
      generalize (((W.setCell ⟨q + 3, 0, none⟩ (.int .i64 0)).setCell ⟨q + 4, 0, none⟩ (.int .i64 0)).setCell ⟨q + 5, 0, none⟩ (.int .i64 28)) = W5 at hr3 ⊢
      obtain ⟨e1, e2, e3, hm3⟩ := hr3
      have hm5 := mod_put W5 (p + 4) (.deferred none)
      have f1 := (e1.mod hm5 (by omega)).cell 0 _ rfl
      have f2 := (e2.mod hm5 (by omega)).cell 0 _ rfl
      have f3 := (e3.mod hm5 (by omega)).cell 0 _ rfl
      have hDk : ∀ j, Dk j → D j ∨ q + 6 ≤ j := fun j hj => (h2.out j hj).elim (HX.out.2.1 j) (fun h => .inr (by omega))
      have hnn : ∀ j, Dk j → ¬ (j = q + 3 ∨ j = q + 4 ∨ j = q + 5) := fun j hj e => (hDk j hj).elim (fun h => by have := HSUB.out.1 j h; omega) (fun h => by omega)
      have hnb : ∀ j, Dk j → ¬ j = p + 4 := fun j hj e => (h2.out j hj).elim (fun h => HD1.out.2 j (by omega) h) (fun h => by omega)
      refine leavesM_mark (hm3.obj HKM.out (by omega)) (v := .tuple #[.int .i64 0, .int .i64 0, .int .i64 28]) (by simp [results, Tryz.results30, go_sem, f1, f2, f3]) ⟨Dk, rfl, ((h1.out.mod hm3 hnn).mod hm5 hnb), fun j hj => (hDk j hj).imp id (fun h => by omega), ?_⟩
      have hmw : Mod w W D := mod_then (HX.out.2.2.below HB4.out) (fun j hj => (HX.out.2.1 j hj).imp id (fun h => by omega)) h3.out
      exact (hmw.trans hm3 (fun i hi e => by exfalso; omega)).trans hm5 (fun i hi e => by exfalso; omega)
     case stop =>
      rintro c W hW ⟨rfl, Dk, h1, h2, h3, h4⟩ hK
      rw [hz4] at hK ⊢
      obtain ⟨⟨r1, r2, r3, r4⟩, hr⟩ : ∃ r', r = r' := ⟨_, rfl⟩
      subst hr
      refine wpIn_wide.2 ?_
      go_wp2
      obtain ⟨e1, e2, e3⟩ := h4.out
      have hm5 := mod_put W (p + 4) (.deferred none)
      have f1 := (e1.mod hm5 (by omega)).cell 0 _ rfl
      have f2 := (e2.mod hm5 (by omega)).cell 0 _ rfl
      have f3 := (e3.mod hm5 (by omega)).cell 0 _ rfl
      have hDk : ∀ j, Dk j → D j ∨ q + 6 ≤ j := fun j hj => (h2.out j hj).elim (HX.out.2.1 j) (fun h => .inr (by omega))
      have hnb : ∀ j, Dk j → ¬ j = p + 4 := fun j hj e => (h2.out j hj).elim (fun h => HD1.out.2 j (by omega) h) (fun h => by omega)
      refine leavesM_mark hK (v := .tuple #[.int .i64 r2, .int .i64 r3, .int .i64 r4]) (by simp [results, Tryz.results30, go_sem, f1, f2, f3]) ⟨Dk, rfl, h1.out.mod hm5 hnb, fun j hj => (hDk j hj).imp id (fun h => by omega), ?_⟩
      have hmw : Mod w W D := (HX.out.2.2.below HB4.out).trans h3.out (fun i hi e => e.elim (fun h => (HX.out.2.1 i h).elim id (fun h => by exfalso; omega)) (fun h => by exfalso; omega))
      exact hmw.trans hm5 (fun i hi e => by exfalso; omega)
     case body =>
      rintro l0 k x0 W hx0 ⟨Dk, h1, h2, h3, h4⟩ hW
      rw [hz4] at hW
      have hkl : k < l.length := by
       have := (List.getElem?_eq_some_iff.1 hx0).1
       simpa using this
      have hx0' : (own + k) % l.length = x0 := by
       rw [List.getElem?_map, List.getElem?_range hkl] at hx0
       simpa using hx0
      have hil : x0 < l.length := by rw [← hx0']; exact Nat.mod_lt _ (by omega)
      have hgi : (x0 : Int) < groupsI ⟨bl, pr, ino, jo⟩ := by
       have q1 := HSAT.out.len
       rw [HGEO.out] at q1
       omega
      obtain ⟨fr, zz, bm, e3, e4, e5, e6, e7, e8, e9⟩ := geo_grp HGZ.out hgi
      dsimp only at e4 e7
      have hstep : r = match blkAt s x l x0 fr zz bm goal want with
        | some r => r
        | none => blkGo s x l own goal want (l.length - (k + 1)) (k + 1) := by
       rw [h4.out, show l.length - k = (l.length - (k + 1)) + 1 by omega, blkGo, hx0', HGEO.out, e3, e4]
       simp only [Int.toNat_natCast]
       all_goals (cases blkAt s x l x0 fr zz bm goal want <;> rfl)
      have HSTEP := Aside0.mk hstep
      have hcs5 := HC4.out.mod h3.out (fun p' hp' => by
       simp only [List.mem_cons, List.not_mem_nil, or_false] at hp'
       rcases hp' with rfl | rfl | rfl | rfl | rfl | rfl | rfl | rfl | rfl | rfl <;> first | exact HD1.out.2 _ (by dsimp only; omega) | exact HD1.out.1 _ (by dsimp only; omega) (by dsimp only; omega))
      have HC5 := Aside0.mk hcs5
      have HSP := Aside0.mk (span_calls ⟨bl, pr, ino, jo⟩ x0 W)
      rw [e3] at HSP
      have HPL := Aside0.mk (fun W => place_calls ⟨bl, pr, ino, jo⟩ x0 W)
      rw [e4] at HPL
      have g0 := (hcs5.get 2 rfl).cell 0 _ rfl
      have g1 := (hcs5.get 2 rfl).cell 1 _ rfl
      have g2 := (hcs5.get 2 rfl).cell 2 _ rfl
      have g3 := (hcs5.get 2 rfl).cell 3 _ rfl
      dsimp only at g0 g1 g2 g3
      have hDkD : ∀ j, Dk j → D1 j ∨ w4.heap.size ≤ j := fun j hj => (h2.out j hj).imp id (fun h => by omega)
      have hkW := HK4.out.mod h3.out hDkD
      have HKW := Aside0.mk hkW
      have hDkp : ∀ j, p ≤ j → j < p + 6 → ¬ Dk j := fun j a1 a2 hd => (h2.out j hd).elim (HD1.out.2 j a1) (fun h => by omega)
      have hDkq : ∀ j, q ≤ j → j < q + 6 → ¬ Dk j := fun j a1 a2 hd => (h2.out j hd).elim (HD1.out.1 j a1 a2) (fun h => by omega)
      have HDK := Aside0.mk (And.intro hDkq hDkp)
      have hTW : Tab W := (HH.out.2.1.mod (mod_then (HX.out.2.2.below HB4.out) (fun j hj => (HX.out.2.1 j hj).imp id (fun h => by omega)) h3.out) HH.out.2.2)
      have hn2 : ¬ Dk 2 := fun hd => (h2.out 2 hd).elim (fun h => (HX.out.2.1 2 h).elim HH.out.2.2 (fun h => by have := HH.out.2.1.lt; omega)) (fun h => by have := HH.out.2.1.lt; omega)
      have HTW := Aside0.mk (And.intro hTW hn2)
      have FIN := Aside0.mk (show ∀ (Wn : World) (D' : Nat → Prop) (u v y : Int) (s' : St), r = (s', u, v, y) → StIs Wn D' s0 s' → (∀ j, D' j → Dk j ∨ W.heap.size ≤ j) → Mod W Wn (fun j => Dk j ∨ (q ≤ j ∧ j < p)) → (∃ a b c : Value, Strc Wn (q + 3) 3 [a] ∧ Strc Wn (q + 4) 3 [b] ∧ Strc Wn (q + 5) 26 [c]) →
        ((((Wn.setCell ⟨q + 3, 0, none⟩ (.int .i64 u)).setCell ⟨q + 4, 0, none⟩ (.int .i64 v)).setCell ⟨q + 5, 0, none⟩ (.int .i64 y)).heap[p + 4]? = W.heap[p + 4]? ∧ (((Wn.setCell ⟨q + 3, 0, none⟩ (.int .i64 u)).setCell ⟨q + 4, 0, none⟩ (.int .i64 v)).setCell ⟨q + 5, 0, none⟩ (.int .i64 y)).heap[p + 4 + 1]? = W.heap[p + 4 + 1]?) ∧
        ∃ Dk, Aside0 (StIs (((Wn.setCell ⟨q + 3, 0, none⟩ (.int .i64 u)).setCell ⟨q + 4, 0, none⟩ (.int .i64 v)).setCell ⟨q + 5, 0, none⟩ (.int .i64 y)) Dk s0 r.1) ∧ Aside0 (∀ j, Dk j → D1 j ∨ p + 6 ≤ j) ∧ Aside0 (Mod w4 (((Wn.setCell ⟨q + 3, 0, none⟩ (.int .i64 u)).setCell ⟨q + 4, 0, none⟩ (.int .i64 v)).setCell ⟨q + 5, 0, none⟩ (.int .i64 y)) (fun j => D1 j ∨ q ≤ j)) ∧
         Aside0 (Strc (((Wn.setCell ⟨q + 3, 0, none⟩ (.int .i64 u)).setCell ⟨q + 4, 0, none⟩ (.int .i64 v)).setCell ⟨q + 5, 0, none⟩ (.int .i64 y)) (q + 3) 3 [.int .i64 r.2.1] ∧ Strc (((Wn.setCell ⟨q + 3, 0, none⟩ (.int .i64 u)).setCell ⟨q + 4, 0, none⟩ (.int .i64 v)).setCell ⟨q + 5, 0, none⟩ (.int .i64 y)) (q + 4) 3 [.int .i64 r.2.2.1] ∧ Strc (((Wn.setCell ⟨q + 3, 0, none⟩ (.int .i64 u)).setCell ⟨q + 4, 0, none⟩ (.int .i64 v)).setCell ⟨q + 5, 0, none⟩ (.int .i64 y)) (q + 5) 26 [.int .i64 r.2.2.2]) from by
       rintro Wn D' u v y s' rfl hst hD' hmm ⟨va, vb, vc, z1, z2, z3⟩
       have hr3 := res3 (u := .int .i64 u) (v := .int .i64 v) (x := .int .i64 y) z1 z2 z3 (by omega) (by omega) (by omega)
       generalize (((Wn.setCell ⟨q + 3, 0, none⟩ (.int .i64 u)).setCell ⟨q + 4, 0, none⟩ (.int .i64 v)).setCell ⟨q + 5, 0, none⟩ (.int .i64 y)) = W9 at hr3 ⊢
       obtain ⟨a1, a2, a3, hm9⟩ := hr3
       have hmm9 : Mod W W9 (fun j => Dk j ∨ (q ≤ j ∧ j < p)) := hmm.trans hm9 (fun i _ e => .inr (by omega))
       have hn9 : ∀ j, D' j → ¬ (j = q + 3 ∨ j = q + 4 ∨ j = q + 5) := fun j hj e => (hD' j hj).elim (fun h => hDkq j (by omega) (by omega) h) (fun h => by omega)
       refine ⟨⟨hmm9.block _ (by omega) (fun e => e.elim (hDkp _ (by omega) (by omega)) (fun h => by omega)), hmm9.block _ (by omega) (fun e => e.elim (hDkp _ (by omega) (by omega)) (fun h => by omega))⟩, D', ⟨hst.mod hm9 hn9⟩, ⟨fun j hj => (hD' j hj).elim (h2.out j) (fun h => .inr (by omega))⟩, ⟨?_⟩, ⟨a1, a2, a3⟩⟩
       exact (h3.out.mono (fun _ _ h => .inl h)).trans hmm9 (fun i hi e => e.elim (fun h => (hDkD i h).elim .inl (fun h => by omega)) (fun h => .inr (by omega))))
      have FINC := Aside0.mk (show ∀ (Wn : World) (D' : Nat → Prop), r = blkGo s x l own goal want (l.length - (k + 1)) (k + 1) → StIs Wn D' s0 s → (∀ j, D' j → Dk j ∨ W.heap.size ≤ j) → Mod W Wn Dk →
        (Wn.heap[p + 4]? = W.heap[p + 4]? ∧ Wn.heap[p + 4 + 1]? = W.heap[p + 4 + 1]?) ∧ ∃ Dk, Aside0 (StIs Wn Dk s0 s) ∧ Aside0 (∀ j, Dk j → D1 j ∨ p + 6 ≤ j) ∧ Aside0 (Mod w4 Wn D1) ∧ Aside0 (r = blkGo s x l own goal want (l.length - (k + 1)) (k + 1)) from
       fun Wn D' hr hst hD' hmm => ⟨⟨hmm.block _ (by omega) (hDkp _ (by omega) (by omega)), hmm.block _ (by omega) (hDkp _ (by omega) (by omega))⟩, D', ⟨hst⟩, ⟨fun j hj => (hD' j hj).elim (h2.out j) (fun h => .inr (by omega))⟩, ⟨mod_then h3.out hDkD hmm⟩, ⟨hr⟩⟩)
      clear hcs5 hx0 hx0' hgi e3 e4 hstep hkW hDkq hDkp hTW hn2
      gi_wp2_with fail
      refine ⟨trivial, rfl, (CallsIn.inRound l0 (callsIn_wide.2 HSP.out)).mono ?_⟩
      rintro e W1 ⟨rfl, hb1⟩
      have HB1 := Aside0.mk hb1
      have hcs6 := HC5.out.below hb1
      clear g0 g1 g2 g3
      have g0 := (hcs6.get 2 rfl).cell 0 _ rfl
      have g1 := (hcs6.get 2 rfl).cell 1 _ rfl
      have g2 := (hcs6.get 2 rfl).cell 2 _ rfl
      have g3 := (hcs6.get 2 rfl).cell 3 _ rfl
      dsimp only at g0 g1 g2 g3
      clear hb1 hcs6
      dsimp only
      gi_wp2_with fail
      refine ⟨trivial, rfl, (CallsIn.inRound l0 (callsIn_wide.2 (HPL.out W1))).mono ?_⟩
      rintro e W2 ⟨rfl, hb2⟩
      have HBW2 := Aside0.mk (below_then HB1.out HB1.out.size hb2)
      have hcs7 := HC5.out.below HBW2.out
      have c9 := (hcs7.get 3 rfl).cell 0 _ rfl
      dsimp only at c9
      obtain ⟨M, hM⟩ : ∃ M, zz - fr = M := ⟨_, rfl⟩
      have hMi : (zz : Int) - (fr : Int) = (M : Int) := by omega
      have hbmN : bm < s.now.length := by have := HBL.out; omega
      have hbt := bitmap_calls (s := s) (k0 := k0) bm M W2 (h1.out.below HBW2.out) ((HKW.out.below HBW2.out).st.cell 0 _ rfl) hbmN (by omega)
      have HBT := Aside0.mk hbt
      have HC7 := Aside0.mk hcs7
      have HBMN := Aside0.mk hbmN
      have HMN := Aside0.mk hM
      clear g0 g1 g2 g3 hb2 hcs7 hbt hbmN hM
      dsimp only
      gi_wp2_with fail
      refine ⟨trivial, rfl, (CallsIn.inRound l0 (callsIn_wide.2 HBT.out)).mono ?_⟩
      rintro e W3 ⟨D3, h3', hd3, hm3, hcase⟩
      have hm3' : Mod W W3 Dk := (Mod.of_below HBW2.out Dk).trans hm3 (fun _ _ e => e)
      have hd3' : ∀ j, D3 j → Dk j ∨ W.heap.size ≤ j := fun j hj => (hd3 j hj).imp id (fun h => by have := HBW2.out.size; omega)
      have hcs8 := HC5.out.mod hm3' (fun p' hp' => by
       simp only [List.mem_cons, List.not_mem_nil, or_false] at hp'
       rcases hp' with rfl | rfl | rfl | rfl | rfl | rfl | rfl | rfl | rfl | rfl <;> first | exact HDK.out.2 _ (by dsimp only; omega) (by dsimp only; omega) | exact HDK.out.1 _ (by dsimp only; omega) (by dsimp only; omega))
      have HC8 := Aside0.mk hcs8
      have HS3 := Aside0.mk (And.intro h3' (And.intro hd3' hm3'))
      clear c9 hcs8 h3' hd3 hm3 hm3' hd3'
      rcases hcase with ⟨hne, rfl⟩ | ⟨heq, g, c, rfl, hg, hgD, hgc, hrow⟩
      ·have hrn := HSTEP.out
       unfold blkAt at hrn
       rw [HMN.out, if_pos hne] at hrn
       have HRN := Aside0.mk hrn
       have c6 := (HC8.out.get 6 rfl).cell 0 _ rfl
       have c7 := (HC8.out.get 5 rfl).cell 0 _ rfl
       have c8 := (HC8.out.get 4 rfl).cell 0 _ rfl
       have z6 := (HC8.out.get 6 rfl).free 0
       have z7 := (HC8.out.get 5 rfl).free 0
       have z8 := (HC8.out.get 4 rfl).free 0
       dsimp only at c6 c7 c8 z6 z7 z8 ⊢
       clear hrn hne
       gi_wp2
       have hf := FIN.out W3 D3 0 0 117 s HRN.out HS3.out.1 HS3.out.2.1 (HS3.out.2.2.mono (fun _ _ h => .inl h)) ⟨_, _, _, HC8.out.get 6 rfl, HC8.out.get 5 rfl, HC8.out.get 4 rfl⟩
       exact ⟨hf.1, rfl, hf.2⟩
      ·have HB0 := Aside0.mk (HS3.out.1.blk bm HBMN.out)
       obtain ⟨b0, hb0⟩ : ∃ b0, s.now.getD bm [] = b0 := ⟨_, rfl⟩
       have hrn := HSTEP.out
       unfold blkAt at hrn
       rw [HMN.out, if_neg (fun h => h heq), hb0] at hrn
       rw [hb0] at hrow HB0
       have HRN := Aside0.mk hrn
       have HROW := Aside0.mk hrow
       have HGG := Aside0.mk (And.intro hg (And.intro hgD hgc))
       have hglt := hrow.lt
       have c3 := (HC8.out.get 9 rfl).cell 0 _ rfl
       dsimp only at c3 ⊢
       clear hrn hrow heq hg hgD hb0
       gi_wp2
       gi_loopg [24] M (fun g1 v wr => ∃ (n q1 : Nat) (b : List Int), v = .int .i64 (n : Nat) ∧ fr + q1 = n ∧ q1 + g1 = M ∧ b.length = 256 ∧ Aside0 (allB b) ∧ Aside0 (maskI s.held fr M 0 b0 = maskI s.held fr g1 q1 b) ∧ Aside0 (Row wr .u8 g 5 b) ∧ Aside0 (StIs wr D3 s0 s) ∧ Aside0 (Mod W3 wr (fun j => j = g)))
       case atStart => exact ⟨fr, 0, b0, rfl, rfl, by omega, HB0.out.1, ⟨HB0.out.2⟩, ⟨rfl⟩, HROW, ⟨HS3.out.1⟩, ⟨Mod.refl _ _⟩⟩
       case round =>
        obtain ⟨n, q1, b, rfl, hn, hqM, hbl', HAB, HMK, HRW, HSW, HMW⟩ := hrel
        have hcs9 := HC8.out.mod HMW.out (fun p' hp' => by
         have := HGG.out.1
         have hszW := HBW2.out.size
         simp only [List.mem_cons, List.not_mem_nil, or_false] at hp'
         rcases hp' with rfl | rfl | rfl | rfl | rfl | rfl | rfl | rfl | rfl | rfl <;> dsimp only <;> omega)
        have HC9 := Aside0.mk hcs9
        clear c3
        have c3 := (hcs9.get 9 rfl).cell 0 _ rfl
        dsimp only at c3
        cases gk with
        | zero =>
         have i2 : ¬ (n : Int) < (zz : Int) := by omega
         have hrn := HRN.out
         rw [show maskI s.held fr M 0 b0 = b from HMK.out] at hrn
         obtain ⟨at_, hat⟩ : ∃ at_, (if (zz : Int) ≤ goal then -1 else wrap64 (goal - (fr : Int))) = at_ := ⟨_, rfl⟩
         have hfi : findI b (if (zz : Int) ≤ goal then -1 else goal - (fr : Int)) want = findI b at_ want := by
          rw [← hat]
          split
          ·rfl
          ·exact findI_wrap hg0 hg1 (by omega)
         rw [hfi] at hrn
         have ha01 : -9223372036854775808 ≤ at_ ∧ at_ < 9223372036854775808 := by
          rw [← hat]
          split
          ·omega
          ·exact w64_bound _
         obtain ⟨ha0, ha1⟩ := ha01
         clear hfi
         have hszW := HBW2.out.size
         have hgW := HGG.out.1
         have hMW3 : Mod W wr Dk := HS3.out.2.2.trans HMW.out (fun i hi e => by exfalso; omega)
         have hTR : Tab wr := HTW.out.1.mod hMW3 HTW.out.2
         have hSR : StIs wr D3 s0 s := HSW.out
         have hfc := find_calls (some ⟨g, 0, none⟩) c b at_ want wr (HRW.out.reads (by omega)) HAB.out hTR ha0 ha1 (by omega) (by omega)
         rw [hbl'] at hfc
         have hrg := fun f1 f2 => findI_range (b := b) (goal := at_) (want := want) (f1 := f1) (f2 := f2)
         obtain ⟨⟨f1, f2, ok⟩, hf⟩ : ∃ f, findI b at_ want = f := ⟨_, rfl⟩
         rw [hf] at hfc hrn hrg
         have HFC := Aside0.mk hfc
         have HRF := Aside0.mk hrn
         have HRG := Aside0.mk (hrg f1 f2)
         have HAT := Aside0.mk hat
         have HMR := Aside0.mk hMW3
         clear hcs9 hfc hrn hrg hf hat hMW3 hTR hSR ha0 ha1 HRN hgW hszW hqM hn
         have c4 := (HC9.out.get 8 rfl).cell 0 _ rfl
         dsimp only at c4
         gi_upto_if 117 with fail
         gi_cut [25] from 113 (fun v wx => v = .int .i64 at_ ∧ wx = wr)
         case first =>
          by_cases d : (zz : Int) ≤ goal
          ·have ha := HAT.out
           rw [if_pos d] at ha
           subst ha
           gi_wp2
           gi_meet
           exact ⟨rfl, rfl⟩
          ·have ha := HAT.out
           rw [if_neg d] at ha
           subst ha
           gi_wp2
           gi_meet
           exact ⟨rfl, rfl⟩
         case rest =>
          obtain ⟨rfl, rfl⟩ := hcut
          have c5 := (HC9.out.get 7 rfl).cell 0 _ rfl
          dsimp only at c5
          clear c3 c4
          gi_wp2_with fail
          refine ⟨trivial, rfl, (CallsIn.inRound l0 (callsIn_wide.2 HFC.out)).mono ?_⟩
          rintro e W5 ⟨rfl, hb5⟩
          have HB5 := Aside0.mk hb5
          have HM5 := Aside0.mk (HMR.out.below hb5)
          have HS5 := Aside0.mk (HSW.out.below hb5)
          have HC5' := Aside0.mk (HC9.out.below hb5)
          clear c5 hb5
          dsimp only
          cases ok with
          | false =>
           have hrn : r = blkGo s x l own goal want (l.length - (k + 1)) (k + 1) := HRF.out
           clear HRF
           have HRF := Aside0.mk hrn
           clear hrn
           gi_wp2
           obtain ⟨a1, Dz, a2, a3, a4, _⟩ := FINC.out W5 D3 HRF.out HS5.out HS3.out.2.1 HM5.out
           exact ⟨by rw [hz4]; exact a1, Dz, a2, a3, a4, HRF⟩
          | true =>
           have hrn : r = tookAt (takeAt s x l x0 fr zz bm f1 f2) fr f1 f2 := HRF.out
           have hrg := HRG.out rfl
           unfold takeAt at hrn
           rw [HMN.out] at hrn
           have hk5 := HKW.out.mod HM5.out HS3.out.2.1
           have hgr := HSAT.out.gr x0 hil
           have hxf := And.intro HSAT.out.f0 HSAT.out.f1
           have hct := counted_calls x0 (-f2) W5 hk5 hil (by omega) (by omega) (by omega) (by omega) (by omega) (by omega)
           have HCT := Aside0.mk hct
           have HRT := Aside0.mk hrn
           have c9 := (HC5'.out.get 3 rfl).cell 0 _ rfl
           dsimp only at c9
           obtain ⟨hf1, hf2, hf3, hf4⟩ := hrg
           clear HRF hrn hk5 hgr hxf hct
           gi_wp2_with fail
           refine ⟨trivial, rfl, (CallsIn.inRound l0 (callsIn_wide.2 HCT.out)).mono ?_⟩
           rintro e W6 ⟨rfl, hk6, hm6⟩
           have hMM6 : Mod W W6 (fun j => Dk j ∨ j = k0 ∨ (Value.slice A l.length cg).ownBlock = some j) := (HM5.out.mono (fun _ _ h => .inl h)).trans hm6 (fun _ _ e => .inr e)
           have hst6 : StIs W6 D3 s0 s := HS5.out.mod hm6 (fun j hj e => e.elim (fun e => hk6.nk (e ▸ hj)) (fun e => (hk6.ng j e).1 hj))
           have hdt := dturn_calls (s := s) (k0 := k0) bm M f1 f2 true W6.drew (hst6.below (below_drew (Below.refl _ _))) (hk6.st.cell 0 _ rfl) hk6.nk HBMN.out (by omega) (by omega) (by omega) (by omega) (by omega) (by omega)
           have HDT := Aside0.mk hdt
           have HK6 := Aside0.mk (hk6.below (below_drew (Below.refl W6.heap.size W6)))
           have HM6 := Aside0.mk hMM6.drew
           have hcs6 : Cs W6.drew _ := (HC5.out.mod hMM6.drew (fun p' hp' => by
            intro e
            have hd1 := HDK.out.1 p'.1
            have hd2 := HDK.out.2 p'.1
            have hgg := HGP.out p'.1
            simp only [List.mem_cons, List.not_mem_nil, or_false] at hp'
            rcases hp' with rfl | rfl | rfl | rfl | rfl | rfl | rfl | rfl | rfl | rfl <;> dsimp only at e hd1 hd2 hgg <;> rcases e with e | e | e <;> first | exact hd2 (by omega) (by omega) e | exact hd1 (by omega) (by omega) e | omega | (have := hgg e; omega)))
           have HC6 := Aside0.mk hcs6
           have c9 := (hcs6.get 3 rfl).cell 0 _ rfl
           dsimp only at c9
           clear hk6 hm6 hMM6 hst6 hdt hcs6
           have HWM := Aside0.mk (w64 (x := (M : Int)) (n := M) rfl (by omega))
           dsimp only
           gi_upto_region 28 with fail
           have hwM := HWM.out
           refine wpR_region_in [1, 1, 0, 0, 0, 0, 0, 0, 2, 3, 0] [9] (fun w' => w'.cell? ⟨p, 0, none⟩ = some (.pointer (some ⟨k0, 0, none⟩))) (by kernel_rfl) (by kernel_rfl) rfl (by kernel_rfl) (fun _ _ _ _ h => h) c9 ?_
           iterate 8 (first
            | (refine in_off0 (by rfl) ?_; simp only [Act.put, stA, stZ, stS, i64_w, i32_w])
            | (refine in_off1 (by rfl) ?_; simp only [Act.put, stA, stZ, stS, i64_w, i32_w])
            | (refine in_0 (v := ?_) (by rfl) rfl ?_ (a' := ?_) ?_ ?_; rotate_left; (intro w'; go_simp; with_reducible rfl); rotate_left; (simp only [Act.put, stA, stZ, stS, i64_w, i32_w]; rfl))
            | (refine in_1 (v := ?_) (by rfl) rfl ?_ (a' := ?_) ?_ ?_; rotate_left; (rintro w' hs; go_split_ands; go_simp; with_reducible rfl); rotate_left; (simp only [Act.put, stA, stZ, stS, i64_w, i32_w]; rfl)))
           refine in_2 (by rfl) (fun K hK => ?_)
           go_simp
           clear hwM
           with_reducible refine HDT.out.mono ?_
           rintro e W7 ⟨D7, rfl, h7, hD7, hm7⟩
           dsimp only
           have hD7' : ∀ j, D7 j → Dk j ∨ W.heap.size ≤ j := fun j hj => (hD7 j hj).elim (HS3.out.2.1 j) (fun h => .inr (by have := HM6.out.size; omega))
           have hDn : ∀ j, j < W6.drew.heap.size → ¬ D3 j → ¬ D7 j := fun j hj hn hd => (hD7 j hd).elim hn (fun h => by omega)
           have hpD : ¬ D3 p := fun hd => (HS3.out.2.1 p hd).elim (HDK.out.2 p (by omega) (by omega)) (fun h => by omega)
           refine hK _ _ (hm7.cell c9 hpD) ?_
           clear hK K
           try simp only [Act.put, stA, stZ, stS, i64_w, i32_w]
           have hdl := dturnI_len s bm M f1 f2 true
           have hmm7 : Mod W W7 (fun j => Dk j ∨ j = k0 ∨ (Value.slice A l.length cg).ownBlock = some j) := HM6.out.trans hm7 (fun i hi e => .inl ((HS3.out.2.1 i e).elim id (fun h => by exfalso; omega)))
           obtain ⟨⟨t1, t2⟩, htt⟩ : ∃ t', dturnI s bm M f1 f2 true = t' := ⟨_, rfl⟩
           have hrt := HRT.out
           rw [htt] at h7 hdl hrt ⊢
           dsimp only at h7 hdl hrt ⊢
           have hlv := leave_calls (s := t1) (mark := s.hist.length) (x := addFb x (-f2)) (l := setFb l x0 ((grpAt l x0).fb + -f2)) t2 W7 h7 (HK6.out.mod hm7 hD7) hdl.2.1 (by omega) (by rw [setFb_length]; have := HSAT.out.l1; omega)
           obtain ⟨⟨u1, u2⟩, hu⟩ : ∃ u, leaveI t1 s.hist.length (addFb x (-f2)) (setFb l x0 ((grpAt l x0).fb + -f2)) t2 = u := ⟨_, rfl⟩
           rw [hu] at hlv hrt
           have HLV := Aside0.mk hlv
           have HRU := Aside0.mk hrt
           have HX7 := Aside0.mk (And.intro hD7' hmm7)
           clear h7 hdl hrt hlv hD7' hmm7 hDn hpD HRT hD7 hm7 htt hu
           refine in_3 (by rfl) (fun K hK => ?_)
           go_simp
           refine HLV.out.mono ?_
           rintro e W8 ⟨D8, rfl, h8, hD8, hm8⟩
           dsimp only
           refine hK _ _ ?_
           clear hK K
           try simp only [Act.put, stA, stZ, stS, i64_w, i32_w]
           have hmm8 : Mod W W8 (fun j => Dk j ∨ j = k0 ∨ (Value.slice A l.length cg).ownBlock = some j) := HX7.out.2.trans hm8 (fun i hi e => .inl ((HX7.out.1 i e).elim id (fun h => by exfalso; omega)))
           have hD8' : ∀ j, D8 j → Dk j ∨ W.heap.size ≤ j := fun j hj => (hD8 j hj).elim (HX7.out.1 j) (fun h => .inr (by have := HX7.out.2.size; omega))
           have HX8 := Aside0.mk (And.intro h8 (And.intro hD8' hmm8))
           clear h8 hD8 hm8 hmm8 hD8' c9
           refine out_0 (v := ?_) (by rfl) rfl ?_ (a' := ?_) ?_ ?_
           rotate_left
           ·intro w'; go_simp; with_reducible rfl
           rotate_left
           ·simp only [Act.put, stA, stZ, stS, i64_w, i32_w]; rfl
           refine out_nil ?_
           refine noOut_normal ?_
           have hcs8 : Cs W8 _ := (HC5.out.mod HX8.out.2.2 (fun p' hp' => by
            intro e
            have hd1 := HDK.out.1 p'.1
            have hd2 := HDK.out.2 p'.1
            have hgg := HGP.out p'.1
            simp only [List.mem_cons, List.not_mem_nil, or_false] at hp'
            rcases hp' with rfl | rfl | rfl | rfl | rfl | rfl | rfl | rfl | rfl | rfl <;> dsimp only at e hd1 hd2 hgg <;> rcases e with e | e | e <;> first | exact hd2 (by omega) (by omega) e | exact hd1 (by omega) (by omega) e | omega | (have := hgg e; omega)))
           have HC8' := Aside0.mk hcs8
           have c6 := (hcs8.get 6 rfl).cell 0 _ rfl
           have c7 := (hcs8.get 5 rfl).cell 0 _ rfl
           have c8 := (hcs8.get 4 rfl).cell 0 _ rfl
           have z6 := (hcs8.get 6 rfl).free 0
           have z7 := (hcs8.get 5 rfl).free 0
           have z8 := (hcs8.get 4 rfl).free 0
           dsimp only at c6 c7 c8 z6 z7 z8 ⊢
           have hmf : Mod W W8 (fun j => Dk j ∨ (q ≤ j ∧ j < p)) := HX8.out.2.2.mono (fun j _ e => e.imp id (fun e => e.elim (fun e => by omega) (fun e => by have := HGP.out j e; omega)))
           have HMF := Aside0.mk hmf
           clear hcs8 hmf
           by_cases hu2 : u2 = 0
           ·subst hu2
            have hrn : r = (u1, fr + f1, f2, 0) := by
             have := HRU.out
             unfold tookAt at this
             rw [if_neg (by simp)] at this
             exact this
            have HRN := Aside0.mk hrn
            clear hrn HRU
            gi_wp2
            have hf := FIN.out W8 D8 (fr + f1) f2 0 u1 HRN.out HX8.out.1 HX8.out.2.1 HMF.out ⟨_, _, _, HC8'.out.get 6 rfl, HC8'.out.get 5 rfl, HC8'.out.get 4 rfl⟩
            exact ⟨hf.1, rfl, hf.2⟩
           ·have hub : (u2 != 0) = true := by simpa using hu2
            have hrn : r = (u1, 0, 0, u2) := by
             have := HRU.out
             unfold tookAt at this
             rw [if_pos hu2] at this
             exact this
            have HRN := Aside0.mk hrn
            clear hrn HRU
            gi_wp2
            have hf := FIN.out W8 D8 0 0 u2 u1 HRN.out HX8.out.1 HX8.out.2.1 HMF.out ⟨_, _, _, HC8'.out.get 6 rfl, HC8'.out.get 5 rfl, HC8'.out.get 4 rfl⟩
            exact ⟨hf.1, rfl, hf.2⟩
        | succ g1 =>
         have i2 : (n : Int) < (zz : Int) := by omega
         have hnN : n < s.now.length := by have := HBL.out; omega
         have hhd := sheld_calls (s := s) n wr HSW.out hnN
         obtain ⟨tb, htb⟩ : ∃ tb, s.held.getD n false = tb := ⟨_, rfl⟩
         rw [htb] at hhd
         have HHD := Aside0.mk hhd
         have hmk1 : maskI s.held fr (g1 + 1) q1 b = maskI s.held fr g1 (q1 + 1) (if s.held.getD n false = true then markB b q1 else b) := by rw [maskI, hn]
         rw [htb] at hmk1
         have HMK1 := Aside0.mk (HMK.out.trans hmk1)
         have HNN := Aside0.mk hn
         clear hcs9 hnN hhd htb hmk1
         gi_wp2_with fail
         refine ⟨trivial, rfl, (CallsIn.inRound l0 (callsIn_wide.2 HHD.out)).mono ?_⟩
         rintro e _w4 ⟨rfl, rfl⟩
         dsimp only
         cases tb with
         | false =>
          gi_wp2
          gi_roundg g1
          case measure => omega
          case rel => exact ⟨n + 1, q1 + 1, b, by go_num, by omega, by omega, hbl', HAB, ⟨by rw [HMK1.out]; rfl⟩, HRW, HSW, HMW⟩
         | true =>
          obtain ⟨qq, hqq⟩ : ∃ qq, q1 / 8 = qq := ⟨_, rfl⟩
          obtain ⟨rr, hrr⟩ : ∃ rr, q1 % 8 = rr := ⟨_, rfl⟩
          have hr8 : rr < 8 := by omega
          have hpw := pow_wrap rr hr8
          have hsub : (n : Int) - (fr : Int) = (q1 : Int) := by omega
          have HW := Aside0.mk (And.intro (show (q1 : Int).tmod 8 = (rr : Int) by rw [Int.tmod_eq_emod_of_nonneg (by omega)]; omega) (And.intro (show (q1 : Int).tdiv 8 = (qq : Int) by rw [Int.tdiv_eq_ediv_of_nonneg (by omega)]; omega) (And.intro (w64 (x := (q1 : Int)) (n := q1) rfl (by omega)) (w64 (x := (qq : Int)) (n := qq) rfl (by omega)))))
          have i4 : qq < 256 := by omega
          have i5 : (qq : Int) < 256 := by omega
          have hfl : markB b q1 = b.set qq (Go.bits .or .u8 (b.getD qq 0) (2 ^ rr)) := by unfold markB; rw [hqq, hrr]
          have hc9 := HRW.out.cell qq (by omega)
          have hz9 := HRW.out.free qq
          have hset := HRW.out.set qq (Go.bits .or .u8 (b.getD qq 0) (2 ^ rr))
          rw [← hfl] at hset
          have HAF := Aside0.mk (allB_mark HAB.out q1)
          have HLF := Aside0.mk ((markB_length b q1).trans hbl')
          obtain ⟨y, hy⟩ : ∃ y, b.getD qq 0 = y := ⟨_, rfl⟩
          rw [hy] at hc9 hset
          have HSET := Aside0.mk hset
          have hmg := (Mod.refl wr (fun j => j = g)).set_own qq (.int .u8 (Go.bits .or .u8 y (2 ^ rr)))
          have HMG := Aside0.mk hmg
          clear hset hfl hqq hrr hy hmg
          gi_upto_region 21 with fail
          obtain ⟨hw1, hw2, hw3, hw4⟩ := HW.out
          refine wpR_region_in [0, 0, 0, 0, 0, 0, 1, 0, 0, 0, 0, 0, 0, 0, 3] [14] (fun w' => w'.cell? ⟨g, qq, none⟩ = some (.int .u8 y) ∧ w'.frozen? ⟨g, qq, none⟩ = false) (by kernel_rfl) (by kernel_rfl) rfl (by kernel_rfl) (fun _ _ _ _ h => h) ⟨hc9, hz9⟩ ?_
          iterate 14 (first
           | (refine in_off0 (by rfl) ?_; simp only [Act.put, stA, stZ, stS, i64_w, i32_w])
           | (refine in_off1 (by rfl) ?_; simp only [Act.put, stA, stZ, stS, i64_w, i32_w])
           | (refine in_0 (v := ?_) (by rfl) rfl ?_ (a' := ?_) ?_ ?_; rotate_left; (intro w'; go_simp; with_reducible rfl); rotate_left; (simp only [Act.put, stA, stZ, stS, i64_w, i32_w]; rfl))
           | (refine in_1 (v := ?_) (by rfl) rfl ?_ (a' := ?_) ?_ ?_; rotate_left; (rintro w' hs; go_split_ands; go_simp; with_reducible rfl); rotate_left; (simp only [Act.put, stA, stZ, stS, i64_w, i32_w]; rfl)))
          refine in_3 (by rfl) (fun K hK => ?_)
          go_simp
          refine hK _ _ ?_
          clear hK K
          try simp only [Act.put, stA, stZ, stS, i64_w, i32_w]
          refine out_nil ?_
          refine noOut_normal ?_
          clear hw1 hw2 hw3 hw4 hc9 hz9
          gi_wp2
          gi_roundg g1
          case measure => omega
          case rel => exact ⟨n + 1, q1 + 1, markB b q1, by go_num, by omega, by omega, HLF.out, HAF, ⟨by rw [HMK1.out]; rfl⟩, ⟨HSET.out⟩, ⟨HSW.out.mod HMG.out.drew (fun j hj e => HGG.out.2.1 (e ▸ hj))⟩, ⟨HMW.out.trans HMG.out.drew (fun _ _ e => e)⟩⟩
end Go.Proofs.YtkmhilhfmfmckaaGreatDoor.Hand
namespace Go.Proofs.YtkmhilhfmfmckaaGreatDoor.Hand
set_option linter.unusedSimpArgs false
set_option linter.unusedVariables false
open Go.Shelf Go.RowKit Go.Proofs.YtkmhilhfmfmckaaGreatDoorW.PrintWords Go.Proofs.YtkmhilhfmfmckaaGreatDoorW.PrintLast Go.Proofs.YtkmhilhfmfmckaaGreatDoorW.PrintMore
set_option maxHeartbeats 1000000 in
set_option maxRecDepth 100000 in
theorem sreadbad_calls {D : Nat → Prop} {s0 : Nat} {s : St} (n : Nat) (w : World) (h : StIs w D s0 s) (hn : s.now.length ≤ n) :
  Calls Tryz.prog 20 #[.pointer (some ⟨s0, 0, none⟩), .int .i64 n] w fun e w' => e = .returned (.tuple #[.slice none 0 0, .int .i64 5]) ∧ w = w' := by
 obtain ⟨Dd, M, Mc, R, p0, L, m, room, ns, gs, cap, bc, bw, bh, uv, found, asked, fc, fh, us, h, rfl⟩ := h
 rw [h.view.1] at hn
 obtain ⟨hd0, hd1, hd2, hdp, hdl⟩ := h.disk.n
 have hc0 := h.st.cell 0 _ rfl
 have hdec : decide (0 ≤ (n : Int) ∧ (n : Int) < (L.length : Int)) = false := by simp; omega
 have hhas := shas_calls (x := (n : Int)) hc0 hd0
 rw [hdec] at hhas
 have HHAS := Aside0.mk hhas
 clear h hhas hdec hc0 hd0
 go_enter Tryz.func20, Tryz.ntmps20
 go_wp2_with (go_at_call 54; refine HHAS.out.mono ?_; rintro e w' ⟨rfl, rfl⟩)
 go_ret2
 exact ⟨rfl, rfl⟩
def xlistI (now : List (List Int)) (r : Ino) (rl : Nat) : List Att × Int :=
 if inoI r rl ≠ 0 then ([], 22) else
 if r.xattr = 0 then ([], 0) else
 if (xunpI (now.getD r.xattr.toNat []) r.xattr).2 ≠ 0 ∨ (xunpI (now.getD r.xattr.toNat []) r.xattr).1 = [] then ([], 117) else
 ((xunpI (now.getD r.xattr.toNat []) r.xattr).1, 0)
def XListPost (D : Nat → Prop) (s0 : Nat) (s : St) (r : List Att × Int) (w : World) (e : Ending) (w' : World) : Prop :=
 ∃ D' v b, e = .returned (.tuple #[v, .int .i64 r.2]) ∧ OwnA w' b v r.1 ∧ (∀ k, D' k → k < b) ∧ w.heap.size ≤ b ∧ StIs w' D' s0 s ∧ (∀ k, D' k → D k ∨ w.heap.size ≤ k) ∧ Mod w w' D
theorem OwnA.mod {w w1 : World} {b : Nat} {S : Nat → Prop} {v : Value} {l : List Att} (h : OwnA w b v l) (hm : Mod w w1 S) (hn : ∀ k, b ≤ k → k < w.heap.size → ¬ S k) : OwnA w1 b v l := by
 obtain ⟨vs, h1, h2, h3⟩ := h
 exact ⟨vs, h1, own_mod h2 hm (fun g hg => hn g (own_base h2 g hg) (own_lt h2 g hg)), fun j hj => ⟨own_mod (h3 j hj).1 hm (fun g hg => hn g (own_base (h3 j hj).1 g hg) (own_lt (h3 j hj).1 g hg)), (h3 j hj).2⟩⟩
theorem xunpI_zero {l : List Int} {s : Int} : (xunpI l s).2 = 0 ∨ xunpI l s = ([], 117) := by
 unfold xunpI
 split
 ·exact .inr rfl
 ·split
  ·exact .inr rfl
  ·split
   ·exact .inl rfl
   ·exact .inr rfl
theorem xreadI_len : ∀ (g : Nat) (r : List Int) (out o : List Att), xreadI g r out = some o → o.length = out.length + g
 | 0, _, out, o, h => by simp only [xreadI, Option.some.injEq] at h; rw [h]; rfl
 | g + 1, r, out, o, h => by
  rw [xreadI] at h
  split at h
  ·cases h
  ·rw [xreadI_len g _ _ o h, List.length_append]
   simp
   omega
theorem xunpI_len {l : List Int} (s : Int) (h : allB l) : (xunpI l s).1.length ≤ 255 := by
 unfold xunpI
 split
 ·simp
 ·split
  ·simp
  ·rename_i out hr
   have h1 := xreadI_len _ _ _ _ hr
   have h2 := allB_get h 1
   rw [List.length_nil, Nat.zero_add] at h1
   split
   ·dsimp only
    omega
   ·simp
theorem inoI_zero {r : Ino} {n : Nat} (h : inoI r n = 0) : 0 ≤ r.xattr ∧ r.xattr ≤ 65535 ∧ n = 48 := by
 unfold inoI at h
 split at h
 ·rename_i hh
  have h13 := List.all_eq_true.1 hh.1 13 (by simp)
  have e1 : (mostL r.kind).getD 13 0 = 65535 := rfl
  have e2 : r.nums.getD 13 0 = r.xattr := rfl
  unfold numOk at h13
  rw [e1, e2] at h13
  simp at h13
  exact ⟨h13.1, h13.2, hh.2.2.1⟩
 ·cases h
set_option maxHeartbeats 4000000 in
set_option maxRecDepth 100000 in
theorem xlist_calls {D : Nat → Prop} {s0 : Nat} {s : St} (r : Ino) (A : Option Addr) (n c : Nat) (w : World) (h : StIs w D s0 s) :
  Calls Tryz.prog 26 #[.pointer (some ⟨s0, 0, none⟩), .agg (r.cells (.slice A n c)).toArray] w (XListPost D s0 s (xlistI s.now r n) w) := by
 have HCK := Aside0.mk (fun W : World => icheck_calls r.kind r.perm r.uid r.gid r.links r.size r.blocks r.atime r.mtime r.ctime r.next r.parent r.xattr r.indexed A n c W)
 obtain ⟨res, hres⟩ : ∃ res, xlistI s.now r n = res := ⟨_, rfl⟩
 have hr0 : inoI r n ≠ 0 → res = ([], 22) := fun h => by rw [← hres]; unfold xlistI; rw [if_pos h]
 have hr1 : inoI r n = 0 → r.xattr = 0 → res = ([], 0) := fun h h2 => by rw [← hres]; unfold xlistI; rw [if_neg (fun h' => h' h), if_pos h2]
 have hr2 : inoI r n = 0 → r.xattr ≠ 0 → res = if (xunpI (s.now.getD r.xattr.toNat []) r.xattr).2 ≠ 0 ∨ (xunpI (s.now.getD r.xattr.toNat []) r.xattr).1 = [] then ([], 117) else ((xunpI (s.now.getD r.xattr.toNat []) r.xattr).1, 0) := fun h h2 => by rw [← hres]; unfold xlistI; rw [if_neg (fun h' => h' h), if_neg h2]
 have hz := inoI_zero (r := r) (n := n)
 rw [hres]
 clear hres
 have HH := Aside0.mk h
 have HR := Aside0.mk (And.intro hr0 (And.intro hr1 hr2))
 have hsub := h.sub
 have HSUB := Aside0.mk hsub
 have hlen := h.len
 have HBLK := Aside0.mk (fun k hk => h.blk k hk)
 clear h hr0 hr1 hr2 hsub
 obtain ⟨kind, perm, uid, gid, links, size, blocks, atime, mtime, ctime, next, parent, xattr, indexed⟩ := r
 dsimp only at HCK hz HR
 obtain ⟨iv, hiv⟩ : ∃ iv, inoI ⟨kind, perm, uid, gid, links, size, blocks, atime, mtime, ctime, next, parent, xattr, indexed⟩ n = iv := ⟨_, rfl⟩
 rw [hiv] at HCK HR hz
 clear hiv
 unfold Ino.cells
 dsimp only
 go_enter Tryz.func26, Tryz.ntmps26
 go_upto_region 1 with fail
 have hs0 : Strc (w.alloc (.cells #[.int .i64 kind, .int .i64 perm, .int .i64 uid, .int .i64 gid, .int .i64 links, .int .i64 size, .int .i64 blocks, .int .i64 atime, .int .i64 mtime, .int .i64 ctime, .int .i64 next, .int .i64 parent, .int .i64 xattr, .bool indexed, .slice A n c] 47)) w.heap.size 47 [.int .i64 kind, .int .i64 perm, .int .i64 uid, .int .i64 gid, .int .i64 links, .int .i64 size, .int .i64 blocks, .int .i64 atime, .int .i64 mtime, .int .i64 ctime, .int .i64 next, .int .i64 parent, .int .i64 xattr, .bool indexed, .slice A n c] := alloc_last w _
 have hb0 := below_alloc (Below.refl w.heap.size w) (.cells #[.int .i64 kind, .int .i64 perm, .int .i64 uid, .int .i64 gid, .int .i64 links, .int .i64 size, .int .i64 blocks, .int .i64 atime, .int .i64 mtime, .int .i64 ctime, .int .i64 next, .int .i64 parent, .int .i64 xattr, .bool indexed, .slice A n c] 47)
 generalize w.alloc (.cells #[.int .i64 kind, .int .i64 perm, .int .i64 uid, .int .i64 gid, .int .i64 links, .int .i64 size, .int .i64 blocks, .int .i64 atime, .int .i64 mtime, .int .i64 ctime, .int .i64 next, .int .i64 parent, .int .i64 xattr, .bool indexed, .slice A n c] 47) = w0 at hs0 hb0 ⊢
 obtain ⟨q, hq⟩ : ∃ q, w.heap.size = q := ⟨_, rfl⟩
 rw [hq] at hs0 ⊢
 have HQ := Aside0.mk hq
 clear hq
 have HB0 := Aside0.mk hb0
 have HS0 := Aside0.mk hs0
 have c0 := hs0.cell 0 _ rfl
 have c1 := hs0.cell 1 _ rfl
 have c2 := hs0.cell 2 _ rfl
 have c3 := hs0.cell 3 _ rfl
 have c4 := hs0.cell 4 _ rfl
 have c5 := hs0.cell 5 _ rfl
 have c6 := hs0.cell 6 _ rfl
 have c7 := hs0.cell 7 _ rfl
 have c8 := hs0.cell 8 _ rfl
 have c9 := hs0.cell 9 _ rfl
 have c10 := hs0.cell 10 _ rfl
 have c11 := hs0.cell 11 _ rfl
 have c12 := hs0.cell 12 _ rfl
 have c13 := hs0.cell 13 _ rfl
 have c14 := hs0.cell 14 _ rfl
 clear hs0 hb0
 go_wp2_with fail
 refine (HCK.out w0).mono ?_
 rintro e w1 ⟨rfl, hb1⟩
 have HB1 := Aside0.mk (below_then HB0.out HB0.out.size hb1)
 have hs1 := HS0.out.below hb1
 have HS1 := Aside0.mk hs1
 have c12' := hs1.cell 12 _ rfl
 clear c0 c1 c2 c3 c4 c5 c6 c7 c8 c9 c10 c11 c12 c13 c14 hs1 hb1 HS0 HB0 HCK
 dsimp only
 by_cases hiv : iv = 0
 ·subst hiv
  obtain ⟨hx0, hx1, hn48⟩ := hz rfl
  by_cases hxa : xattr = 0
  ·have hrr := HR.out.2.1 rfl hxa
   have HRR := Aside0.mk hrr
   subst hxa
   clear hrr HR
   go_wp2
   go_ret2
   rw [HRR.out]
   exact ⟨D, _, w1.heap.size, rfl, OwnA.nil _ _, fun k hk => by have := HSUB.out k hk; have := HB1.out.size; omega, HB1.out.size, HH.out.below HB1.out, fun _ => .inl, Mod.of_below HB1.out D⟩
  ·have hrr := HR.out.2.2 rfl hxa
   obtain ⟨X, rfl⟩ : ∃ X : Nat, xattr = X := ⟨xattr.toNat, by omega⟩
   rw [Int.toNat_natCast] at hrr
   have hX0 : ¬ X = 0 := by omega
   have hX0i : ¬ (X : Int) = 0 := by omega
   have hXb : ((X : Int) == 0) = false := by rw [beq_eq_false_iff_ne]; omega
   have hX1 : X < 65536 := by omega
   have huz := xunpI_zero (l := s.now.getD X []) (s := X)
   obtain ⟨bl, hbl⟩ : ∃ bl, s.now.getD X [] = bl := ⟨_, rfl⟩
   rw [hbl] at hrr huz
   have HRR := Aside0.mk hrr
   have HUZ := Aside0.mk huz
   have HBL := Aside0.mk hbl
   clear hrr huz hbl HR hx0 hx1 hxa
   by_cases hXn : X < s.now.length
   ·have hblk := HBLK.out X hXn
    rw [HBL.out] at hblk
    have HBK := Aside0.mk hblk
    have hrd := sread_calls X w1 (HH.out.below HB1.out) hXn
    rw [HBL.out] at hrd
    have HRD := Aside0.mk hrd
    clear hblk hrd
    go_wp2_with fail
    refine HRD.out.mono ?_
    rintro e w2 ⟨D2, g2, cc2, rfl, h2, hD2, hm2, hg2, hgD2, hc2, hrow2⟩
    have hup := xunpack_calls (some ⟨g2, 0, none⟩) cc2 (X : Int) bl w2 (hrow2.reads (by rw [HBK.out.1]; omega)) (by rw [HBK.out.1]; exact hc2) (by omega) (by omega) HBK.out.2
    rw [HBK.out.1] at hup
    have HX2 := Aside0.mk (And.intro h2 (And.intro hD2 hm2))
    have hq1 : q < w1.heap.size := HS1.out.lt
    have hqD : ¬ D q := fun hd => by have := HSUB.out q hd; have := HQ.out; omega
    have c12 := (HS1.out.mod hm2 hqD).cell 12 _ rfl
    obtain ⟨⟨ul, ue⟩, hu⟩ : ∃ u, xunpI bl X = u := ⟨_, rfl⟩
    have HU0 := Aside0.mk hu
    rw [hu] at hup HRR HUZ
    have HUP := Aside0.mk hup
    clear c12' h2 hD2 hm2 hrow2 hup hu hgD2
    dsimp only
    go_wp2_with fail
    refine HUP.out.mono ?_
    rintro e w3 ⟨v3, rfl, ho3, hb3⟩
    have HO3 := Aside0.mk ho3
    have HB3 := Aside0.mk hb3
    have hD3 : ∀ k, D2 k → D k ∨ w.heap.size ≤ k := fun k hk => (HX2.out.2.1 k hk).imp id (fun h => Nat.le_trans HB1.out.size h)
    have hm3 : Mod w w3 D := ((Mod.of_below HB1.out D).trans HX2.out.2.2 (fun _ _ e => e)).below hb3
    have hws : w.heap.size ≤ w2.heap.size := Nat.le_trans HB1.out.size HX2.out.2.2.size
    have HF := Aside0.mk (And.intro hD3 (And.intro hm3 hws))
    dsimp only at ho3 ⊢
    have hlen3 : ul.length ≤ 1125899906842624 := by
     have h1 := xunpI_len (X : Int) HBK.out.2
     rw [HU0.out] at h1
     dsimp only at h1
     omega
    obtain ⟨A3, c3, rfl, hc3, _⟩ := ho3.reads hlen3
    clear c12 hb3 hD3 hm3 hws ho3
    by_cases hue : ue = 0
    ·subst hue
     by_cases hul : ul.length = 0
     ·have hrr := HRR.out
      have hul' : ul = [] := List.eq_nil_of_length_eq_zero hul
      rw [if_pos (.inr hul')] at hrr
      have HR4 := Aside0.mk hrr
      clear hrr HRR
      go_wp2
      go_ret2
      rw [HR4.out]
      exact ⟨D2, _, w2.heap.size, rfl, OwnA.nil _ _, fun k hk => HX2.out.1.sub k hk, HF.out.2.2, HX2.out.1.below HB3.out, HF.out.1, HF.out.2.1⟩
     ·have hrr := HRR.out
      rw [if_neg (by rintro (h | h); exact h rfl; exact hul (by rw [h]; rfl))] at hrr
      have HR4 := Aside0.mk hrr
      have hulb : (ul.length == 0) = false := by simpa using hul
      have huli : ((ul.length : Int) == 0) = false := by rw [beq_eq_false_iff_ne]; omega
      clear hrr HRR
      go_wp2
      go_ret2
      rw [HR4.out]
      exact ⟨D2, _, w2.heap.size, rfl, HO3.out, fun k hk => HX2.out.1.sub k hk, HF.out.2.2, HX2.out.1.below HB3.out, HF.out.1, HF.out.2.1⟩
    ·have hrr := HRR.out
     rw [if_pos (.inl hue)] at hrr
     have HR4 := Aside0.mk hrr
     have hub : (ue != 0) = true := by simpa using hue
     clear hrr HRR
     go_wp2
     go_ret2
     rw [HR4.out]
     exact ⟨D2, _, w2.heap.size, rfl, OwnA.nil _ _, fun k hk => HX2.out.1.sub k hk, HF.out.2.2, HX2.out.1.below HB3.out, HF.out.1, HF.out.2.1⟩
   ·have hbn : bl = [] := by
     rw [← HBL.out, List.getD_eq_getElem?_getD, List.getElem?_eq_none (by omega)]
     rfl
    subst hbn
    have hrd := sreadbad_calls (s := s) X w1 (HH.out.below HB1.out) (by omega)
    have HRD := Aside0.mk hrd
    have hup := xunpack_calls none 0 (X : Int) [] w1 (C_int_nil _ _ _) (Nat.le_refl _) (by omega) (by omega) (fun x hx => by cases hx)
    have hu : xunpI [] (X : Int) = ([], 117) := rfl
    rw [hu] at hup HRR
    have HUP := Aside0.mk hup
    have hrr := HRR.out
    rw [if_pos (.inl (by decide))] at hrr
    have HR4 := Aside0.mk hrr
    clear hrd hup hu hrr HRR HUZ
    go_wp2_with fail
    refine HRD.out.mono ?_
    rintro e _w2 ⟨rfl, rfl⟩
    dsimp only
    go_wp2_with fail
    refine HUP.out.mono ?_
    rintro e w3 ⟨v3, rfl, ho3, hb3⟩
    obtain ⟨A3, c3, rfl, hc3, _⟩ := ho3.reads (by simp)
    have HB3 := Aside0.mk (below_then HB1.out HB1.out.size hb3)
    clear ho3 hb3 c12'
    dsimp only
    go_wp2
    go_ret2
    rw [HR4.out]
    exact ⟨D, _, w3.heap.size, rfl, OwnA.nil _ _, fun k hk => by have := HSUB.out k hk; have := HB3.out.size; omega, HB3.out.size, HH.out.below HB3.out, fun _ => .inl, Mod.of_below HB3.out D⟩
 ·have hivb : (iv != 0) = true := by simpa using hiv
  have HRR := Aside0.mk (HR.out.1 hiv)
  clear HR
  go_wp2
  go_ret2
  rw [HRR.out]
  exact ⟨D, _, w1.heap.size, rfl, OwnA.nil _ _, fun k hk => by have := HSUB.out k hk; have := HB1.out.size; omega, HB1.out.size, HH.out.below HB1.out, fun _ => .inl, Mod.of_below HB1.out D⟩
def cmpN (a b : ByteArray) : Int := Lib.compareBytes a.data.toList b.data.toList
def bsGo (l : List Att) (nm : ByteArray) : Nat → Nat → Nat → Nat
 | 0, i, _ => i
 | g + 1, i, j => if i < j then (if cmpN (attAt l ((i + j) / 2)).name nm < 0 then bsGo l nm g ((i + j) / 2 + 1) j else bsGo l nm g i ((i + j) / 2)) else i
def seekI (l : List Att) (nm : ByteArray) : Nat × Bool := (bsGo l nm l.length 0 l.length, decide (bsGo l nm l.length 0 l.length < l.length) && (cmpN (attAt l (bsGo l nm l.length 0 l.length)).name nm == 0))
theorem bsGo_le (l : List Att) (nm : ByteArray) : ∀ (g i j : Nat), i ≤ j → i ≤ bsGo l nm g i j ∧ bsGo l nm g i j ≤ j
 | 0, i, j, h => ⟨Nat.le_refl _, h⟩
 | g + 1, i, j, h => by
  rw [bsGo]
  split
  ·split
   ·have := bsGo_le l nm g ((i + j) / 2 + 1) j (by omega)
    omega
   ·have := bsGo_le l nm g i ((i + j) / 2) (by omega)
    omega
  ·omega
set_option maxHeartbeats 1000000 in
set_option maxRecDepth 100000 in
theorem seek1_calls (a nm : ByteArray) (A : Option Addr) (n c : Nat) (w : World) : Calls Tryz.prog 119 #[.agg #[.string a, .slice A n c], .string nm] w fun e w' => e = .returned (.int .i64 (cmpN a nm)) ∧ Below w.heap.size w w' := by
 have HC := Aside0.mk (fun W : World => scmp_calls a nm W)
 go_enter Tryz.func119, Tryz.ntmps119
 go_wp2_with fail
 refine (HC.out _).mono ?_
 rintro e w1 ⟨rfl, rfl⟩
 dsimp only
 go_wp2
 go_ret
 exact ⟨rfl, below_alloc (Below.refl _ _) _⟩
set_option maxHeartbeats 4000000 in
set_option maxRecDepth 100000 in
theorem bsearch_calls (A : Option Addr) (c : Nat) (l : List Att) (nm : ByteArray) (w : World) (hl : Atts w A l) (hn : l.length ≤ 100000) :
  Calls Tryz.prog 118 #[.slice A l.length c, .string nm, .func (.func 119) #[] #[]] w fun e w' => e = .returned (.tuple #[.int .i64 (seekI l nm).1, .bool (seekI l nm).2]) ∧ Below w.heap.size w w' := by
 have HL := Aside0.mk hl
 clear hl
 obtain ⟨n, hnn⟩ : ∃ n, l.length = n := ⟨_, rfl⟩
 have HN := Aside0.mk hnn
 unfold seekI
 rw [hnn] at hn ⊢
 have hrg := bsGo_le l nm n 0 n (by omega)
 obtain ⟨r, hr⟩ : ∃ r, bsGo l nm n 0 n = r := ⟨_, rfl⟩
 rw [hr] at hrg ⊢
 have HR := Aside0.mk hr
 clear hr hnn
 go_enter Tryz.func118, Tryz.ntmps118
 go_wp2
 go_loopg [9, 10] n (fun g v9 v10 wr => ∃ i j : Nat, v9 = .int .i64 i ∧ v10 = .int .i64 j ∧ i ≤ j ∧ j ≤ n ∧ j - i ≤ g ∧ Aside0 (bsGo l nm g i j = r) ∧ Aside0 (Below w.heap.size w wr))
 case atStart => exact ⟨0, n, rfl, rfl, by omega, Nat.le_refl _, by omega, HR, ⟨Below.refl _ _⟩⟩
 case round =>
  obtain ⟨i, j, rfl, rfl, hij, hjn, hg, HB, HW⟩ := hrel
  by_cases hlt : i < j
  ·obtain ⟨g, rfl⟩ : ∃ g, gk = g + 1 := ⟨gk - 1, by omega⟩
   obtain ⟨h, hh⟩ : ∃ h, (i + j) / 2 = h := ⟨_, rfl⟩
   have hbs : bsGo l nm (g + 1) i j = if i < j then (if cmpN (attAt l ((i + j) / 2)).name nm < 0 then bsGo l nm g ((i + j) / 2 + 1) j else bsGo l nm g i ((i + j) / 2)) else i := rfl
   rw [if_pos hlt, hh, HB.out] at hbs
   obtain ⟨ad, Av, cv, rfl, h1, h2, _⟩ := (HL.out.below HW.out).cells h (by rw [HN.out]; omega)
   obtain ⟨x, hx⟩ : ∃ x, attAt l h = x := ⟨_, rfl⟩
   rw [hx] at h1 h2 hbs
   obtain ⟨an, av⟩ := x
   dsimp only at h1 h2 hbs
   have HSK := Aside0.mk (seek1_calls an nm Av av.length cv wr)
   obtain ⟨q, hq⟩ : ∃ q, cmpN an nm = q := ⟨_, rfl⟩
   rw [hq] at HSK hbs
   have HBS := Aside0.mk hbs
   have hlti : (i : Int) < (j : Int) := by omega
   have ht : (i : Int) + (j : Int) = ((i + j : Nat) : Int) := by omega
   obtain ⟨t, hte⟩ : ∃ t, i + j = t := ⟨_, rfl⟩
   rw [hte] at ht hh
   have hh2 : h < n := by omega
   have hh2i : (h : Int) < (n : Int) := by omega
   have hhi : (t : Int) / 2 = (h : Int) := by omega
   have ht2 : t ≤ 200000 := by omega
   clear hbs hq hx hte
   go_wp2_with fail
   refine HSK.out.mono ?_
   rintro e w2 ⟨rfl, hb2⟩
   have HB2 := Aside0.mk (below_then HW.out HW.out.size hb2)
   clear h1 h2 hb2
   dsimp only
   by_cases hq0 : q < 0
   ·have hbs := HBS.out
    rw [if_pos hq0] at hbs
    have HB3 := Aside0.mk hbs.symm
    clear hbs
    go_wp2
    go_roundg g
    case measure => omega
    case rel => exact ⟨h + 1, j, by go_num, rfl, by omega, hjn, by omega, HB3, HB2⟩
   ·have hbs := HBS.out
    rw [if_neg hq0] at hbs
    have HB3 := Aside0.mk hbs.symm
    clear hbs
    go_wp2
    go_roundg g
    case measure => omega
    case rel => exact ⟨i, h, rfl, rfl, by omega, by omega, by omega, HB3, HB2⟩
  ·have hri : r = i := by
    have hb := HB.out
    cases gk with
    | zero => exact hb.symm
    | succ g =>
     rw [bsGo, if_neg hlt] at hb
     exact hb.symm
   subst hri
   have hlti : ¬ (r : Int) < (j : Int) := by omega
   by_cases hrn : r < n
   ·obtain ⟨ad, Av, cv, rfl, h1, h2, _⟩ := (HL.out.below HW.out).cells r (by rw [HN.out]; exact hrn)
    obtain ⟨x, hx⟩ : ∃ x, attAt l r = x := ⟨_, rfl⟩
    rw [hx] at h1 h2
    obtain ⟨an, av⟩ := x
    dsimp only at h1 h2
    have HSK := Aside0.mk (seek1_calls an nm Av av.length cv wr)
    obtain ⟨q, hq⟩ : ∃ q, cmpN an nm = q := ⟨_, rfl⟩
    rw [hq] at HSK
    have HQ := Aside0.mk (And.intro hx hq)
    have hrni : (r : Int) < (n : Int) := by omega
    clear hx hq
    go_wp2_with fail
    refine HSK.out.mono ?_
    rintro e w2 ⟨rfl, hb2⟩
    have HB2 := Aside0.mk (below_then HW.out HW.out.size hb2)
    clear h1 h2 hb2
    dsimp only
    go_wp2
    go_ret2
    exact ⟨by rw [HQ.out.1]; simp [hrn, HQ.out.2], HB2.out⟩
   ·have hrni : ¬ (r : Int) < (n : Int) := by omega
    go_wp2
    go_ret2
    exact ⟨by simp [hrn], HW.out⟩
set_option maxHeartbeats 1000000 in
set_option maxRecDepth 100000 in
theorem seek_calls (A : Option Addr) (c : Nat) (l : List Att) (nm : ByteArray) (w : World) (hl : Atts w A l) (hn : l.length ≤ 100000) :
  Calls Tryz.prog 51 #[.slice A l.length c, .string nm] w fun e w' => e = .returned (.tuple #[.int .i64 (seekI l nm).1, .bool (seekI l nm).2]) ∧ Below w.heap.size w w' := by
 have HB := Aside0.mk (bsearch_calls A c l nm w hl hn)
 obtain ⟨⟨i, b⟩, hs⟩ : ∃ s, seekI l nm = s := ⟨_, rfl⟩
 rw [hs] at HB ⊢
 obtain ⟨n, hnn⟩ : ∃ n, l.length = n := ⟨_, rfl⟩
 rw [hnn] at HB ⊢
 clear hl hn hs hnn
 go_enter Tryz.func51, Tryz.ntmps51
 go_wp2_with fail
 refine HB.out.mono ?_
 rintro e w1 ⟨rfl, hb1⟩
 have HB1 := Aside0.mk hb1
 clear hb1
 dsimp only
 go_wp2
 go_ret2
 exact ⟨rfl, HB1.out⟩
end Go.Proofs.YtkmhilhfmfmckaaGreatDoor.Hand
