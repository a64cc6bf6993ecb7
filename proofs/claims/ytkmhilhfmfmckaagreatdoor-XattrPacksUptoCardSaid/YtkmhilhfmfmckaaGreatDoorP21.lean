/- Own texts and printed words of the kit, put together and trimmed by a program of mine (merge.py). -/
import Derived.Test.YtkmhilhfmfmckaaGreatDoorP20
import Derived.WalkKit
import Derived.ProofKit
import Derived.OpenShut
import Derived.ShutString
import Derived.ChangeOld
import Derived.ChangeArms
import Derived.Deep.Slices
import Derived.Deep.Fields
import Derived.ChangeSame
import Derived.Test.YtkmhilhfmfmckaaGreatDoorRows
import Derived.Lib.LaidTab
import Derived.LaidMore
import Derived.LaidHandle
import Derived.MakeChecks
import Derived.Stop.LaidErr
namespace Go.Proofs.YtkmhilhfmfmckaaGreatDoor.Hand
set_option linter.unusedSimpArgs false
set_option linter.unusedVariables false
open Go.Shelf Go.RowKit Go.Proofs.YtkmhilhfmfmckaaGreatDoorW.PrintWords Go.Proofs.YtkmhilhfmfmckaaGreatDoorW.PrintLast Go.Proofs.YtkmhilhfmfmckaaGreatDoorW.PrintMore
theorem StIs.allb {w : World} {D : Nat → Prop} {s0 : Nat} {s : St} (h : StIs w D s0 s) : ∀ b ∈ s.now, allB b := fun b hb => by
 obtain ⟨j, hj, e⟩ := List.getElem_of_mem hb
 have := (h.blk j hj).2
 rw [List.getD_eq_getElem?_getD, List.getElem?_eq_getElem hj, Option.getD_some, e] at this
 exact this
theorem resC_ok (r : Ino) (A : Option Addr) (n c : Nat) (x : Int) : (resC r (.slice A n c) x).length = 15 ∧ (resC r (.slice A n c) x).toArray.all (·.oneCell') = true := by
 unfold resC
 split
 ·exact ⟨rfl, by have := Ino_one r A n c; simpa using this⟩
 ·exact ⟨rfl, inoZ_one⟩
theorem aset_calls {D : Nat → Prop} {s0 : Nat} {s t : St} {r r' : Ino} {code : Int} (A : Option Addr) (n c : Nat) (nm : ByteArray) (Av : Option Addr) (cv : Nat) (val : List Int) (how goal : Int) (w : World) (heq : xsetR s r n nm val how goal = (t, r', code)) (h : StIs w D s0 s)
  (hv : Kd.C (Kd.int .u8) w Av val.length val) (hvn : Av = none → cv = 0) (hvb : allB val) (hvD : ∀ ad, Av = some ad → ¬ D ad.block) (hh : s.hist.length ≤ 900000) (hT : Tab w) (hTD : ¬ D 2) (hg0 : -4611686018427387904 ≤ goal) (hg1 : goal < 4611686018427387904) :
  Calls Tryz.prog 18 #[.pointer (some ⟨s0, 0, none⟩), .agg (r.cells (.slice A n c)).toArray, .string nm, .slice Av val.length cv, .int .i64 how, .int .i64 goal] w (InoPost D s0 t (resC r' (.slice A n c) code) code w) := by
 have := xset_calls r A n c nm Av cv val how goal w h h.allb hv hvn hvb hvD hh hT hTD hg0 hg1
 rw [xsetI_eq, heq] at this
 exact this
theorem arem_calls {D : Nat → Prop} {s0 : Nat} {s t : St} {r r' : Ino} {code : Int} (A : Option Addr) (n c : Nat) (nm : ByteArray) (w : World) (heq : xremR s r n nm = (t, r', code)) (h : StIs w D s0 s) (hh : s.hist.length ≤ 900000) :
  Calls Tryz.prog 22 #[.pointer (some ⟨s0, 0, none⟩), .agg (r.cells (.slice A n c)).toArray, .string nm] w (InoPost D s0 t (resC r' (.slice A n c) code) code w) := by
 have := xrem_calls r A n c nm w h h.allb hh
 rw [heq] at this
 exact this
def AwI (w0 : World) (s0 : Nat) (s : St) (bx : List (Nat × TypeId × List Value)) (w : World) : Prop := ∃ D, StIs w D s0 s ∧ (∀ k, D k → w0.heap.size ≤ k) ∧ Below w0.heap.size w0 w ∧ ∀ p ∈ bx, Strc w p.1 p.2.1 p.2.2 ∧ ¬ D p.1
theorem AwI.below {w0 w w1 : World} {s0 : Nat} {s : St} {bx : List (Nat × TypeId × List Value)} (h : AwI w0 s0 s bx w) (hb : Below w.heap.size w w1) : AwI w0 s0 s bx w1 := by
 obtain ⟨D, h1, h2, h3, h4⟩ := h
 exact ⟨D, h1.below hb, h2, below_then h3 h3.size hb, fun p hp => ⟨(h4 p hp).1.below hb, (h4 p hp).2⟩⟩
theorem AwI.push {w0 w : World} {s0 : Nat} {s : St} {bx : List (Nat × TypeId × List Value)} (h : AwI w0 s0 s bx w) (t : TypeId) (cs : List Value) : AwI w0 s0 s ((w.heap.size, t, cs) :: bx) (w.alloc (.cells cs.toArray t)) := by
 obtain ⟨D, h1, h2, h3, h4⟩ := h.below (below_alloc (Below.refl _ _) (.cells cs.toArray t))
 obtain ⟨D', h1', _, _, h4'⟩ := h
 refine ⟨D', h1'.below (below_alloc (Below.refl _ _) _), by assumption, h3, fun p hp => ?_⟩
 rcases List.mem_cons.1 hp with rfl | hp
 ·exact ⟨alloc_last w _, fun hd => Nat.lt_irrefl _ (h1'.sub _ hd)⟩
 ·exact ⟨(h4' p hp).1.below (below_alloc (Below.refl _ _) _), (h4' p hp).2⟩
theorem AwI.put {w0 w : World} {s0 q : Nat} {s : St} {bx : List (Nat × TypeId × List Value)} {t : TypeId} {cs : List Value} (cs' : List Value) (h : AwI w0 s0 s ((q, t, cs) :: bx) w) (hq : w0.heap.size ≤ q) (hne : ∀ p ∈ bx, p.1 ≠ q) : AwI w0 s0 s ((q, t, cs') :: bx) (w.setRow q cs'.toArray) := by
 obtain ⟨D, h1, h2, h3, h4⟩ := h
 have hs := h4 (q, t, cs) (List.mem_cons_self ..)
 have hm := mod_setRow w q cs'.toArray
 refine ⟨D, h1.mod hm (fun k hk e => hs.2 (e ▸ hk)), h2, h3.trans ⟨hm.os, hm.tape, hm.output, hm.size, fun k hk => hm.block k (Nat.lt_of_lt_of_le hk h3.size) (by omega)⟩, fun p hp => ?_⟩
 rcases List.mem_cons.1 hp with rfl | hp
 ·exact ⟨setRow_heap w q _ cs'.toArray t (0, 0) hs.1, hs.2⟩
 ·exact ⟨(h4 p (List.mem_cons_of_mem _ hp)).1.mod hm (hne p hp), (h4 p (List.mem_cons_of_mem _ hp)).2⟩
theorem AwI.get {w0 w : World} {s0 : Nat} {s : St} {bx : List (Nat × TypeId × List Value)} (h : AwI w0 s0 s bx w) {p : Nat × TypeId × List Value} (hp : p ∈ bx) : Strc w p.1 p.2.1 p.2.2 := h.elim fun D h => (h.2.2.2 p hp).1
theorem AwI.ge {w0 w : World} {s0 : Nat} {s : St} {bx : List (Nat × TypeId × List Value)} (h : AwI w0 s0 s bx w) : w0.heap.size ≤ w.heap.size := h.elim fun D h => h.2.2.1.size
theorem AwI.post {w0 w w' : World} {s0 : Nat} {t : St} {bx : List (Nat × TypeId × List Value)} {D D' : Nat → Prop} (h2 : ∀ k, D k → w0.heap.size ≤ k) (h3 : Below w0.heap.size w0 w) (h4 : ∀ p ∈ bx, Strc w p.1 p.2.1 p.2.2 ∧ ¬ D p.1) (g1 : StIs w' D' s0 t) (g2 : ∀ k, D' k → D k ∨ w.heap.size ≤ k) (g3 : Mod w w' D) : AwI w0 s0 t bx w' :=
 ⟨D', g1, fun k hk => (g2 k hk).elim (h2 k) (fun h => Nat.le_trans h3.size h), h3.trans ⟨g3.os, g3.tape, g3.output, g3.size, fun k hk => g3.block k (Nat.lt_of_lt_of_le hk h3.size) (fun h => by have := h2 k h; omega)⟩, fun p hp => ⟨(h4 p hp).1.mod g3 (h4 p hp).2, fun hd => (g2 _ hd).elim (h4 p hp).2 (fun h => by have := (h4 p hp).1.lt; omega)⟩⟩
def AwPost (w0 : World) (s0 : Nat) (t : St) (bx : List (Nat × TypeId × List Value)) (cs : List Value) (code : Int) (e : Ending) (w' : World) : Prop := e = .returned (.tuple #[.agg cs.toArray, .int .i64 code]) ∧ AwI w0 s0 t bx w'
theorem strc_reads {w : World} {q : Nat} {val : List Int} (h : Strc w q 5 (nums .u8 val)) (hl : val.length ≤ 1000) : Kd.C (Kd.int .u8) w (some ⟨q, 0, none⟩) val.length val := Row.reads ⟨[], by rw [List.append_nil]; exact h⟩ (by omega)
theorem AwI.set {w0 w : World} {s0 : Nat} {s t : St} {bx : List (Nat × TypeId × List Value)} {r r' : Ino} {code : Int} (h : AwI w0 s0 s bx w) (A : Option Addr) (n c : Nat) (nm : ByteArray) (Av : Option Addr) (cv : Nat) (val : List Int) (how goal : Int) (heq : xsetR s r n nm val how goal = (t, r', code)) (hT : Tab w0) (h2 : 2 < w0.heap.size)
  (hv : (val = [] ∧ Av = none ∧ cv = 0) ∨ ∃ q, Av = some ⟨q, 0, none⟩ ∧ (q, 5, nums .u8 val) ∈ bx) (hvb : allB val) (hl : val.length ≤ 1000) (hh : s.hist.length ≤ 900000) (hg0 : -4611686018427387904 ≤ goal) (hg1 : goal < 4611686018427387904) :
  Calls Tryz.prog 18 #[.pointer (some ⟨s0, 0, none⟩), .agg (r.cells (.slice A n c)).toArray, .string nm, .slice Av val.length cv, .int .i64 how, .int .i64 goal] w (AwPost w0 s0 t bx (resC r' (.slice A n c) code) code) := by
 obtain ⟨D, h1, hD, h3, h4⟩ := h
 have hTw : Tab w := hT.below h3
 have hd2 : ¬ D 2 := fun hd => by have := hD 2 hd; omega
 have key : Kd.C (Kd.int .u8) w Av val.length val ∧ (Av = none → cv = 0) ∧ ∀ ad, Av = some ad → ¬ D ad.block := by
  rcases hv with ⟨rfl, rfl, rfl⟩ | ⟨q, rfl, hq⟩
  ·exact ⟨C_int_nil _ _ _, fun _ => rfl, fun ad h => nomatch h⟩
  ·exact ⟨strc_reads (h4 _ hq).1 hl, (fun h => nomatch h), fun ad h => by cases h; exact (h4 _ hq).2⟩
 refine (aset_calls A n c nm Av cv val how goal w heq h1 key.1 key.2.1 hvb key.2.2 hh hTw hd2 hg0 hg1).mono ?_
 rintro e w' ⟨D', he, g1, g2, g3⟩
 exact ⟨he, AwI.post hD h3 h4 g1 g2 g3⟩
theorem AwI.rem {w0 w : World} {s0 : Nat} {s t : St} {bx : List (Nat × TypeId × List Value)} {r r' : Ino} {code : Int} (h : AwI w0 s0 s bx w) (A : Option Addr) (n c : Nat) (nm : ByteArray) (heq : xremR s r n nm = (t, r', code)) (hh : s.hist.length ≤ 900000) :
  Calls Tryz.prog 22 #[.pointer (some ⟨s0, 0, none⟩), .agg (r.cells (.slice A n c)).toArray, .string nm] w (AwPost w0 s0 t bx (resC r' (.slice A n c) code) code) := by
 obtain ⟨D, h1, hD, h3, h4⟩ := h
 refine (arem_calls A n c nm w heq h1 hh).mono ?_
 rintro e w' ⟨D', he, g1, g2, g3⟩
 exact ⟨he, AwI.post hD h3 h4 g1 g2 g3⟩
def AwList (w0 : World) (s0 : Nat) (s : St) (bx : List (Nat × TypeId × List Value)) (e : Ending) (w' : World) : Prop := ∃ g c h c' cur cur2, e = .returned (.tuple #[.slice (some ⟨g, 0, none⟩) 2 c, .int .i64 0]) ∧ AwI w0 s0 s ((g, 72, cur) :: (h, 5, cur2) :: bx) w' ∧ cur[0]? = some (.string exA) ∧ cur[1]? = some (.slice (some ⟨h, 0, none⟩) 1 c') ∧ cur2[0]? = some (.int .u8 2)
theorem AwI.list {w0 w : World} {s0 : Nat} {s : St} {bx : List (Nat × TypeId × List Value)} {r : Ino} (h : AwI w0 s0 s bx w) (A : Option Addr) (n c : Nat) (heq : xlistI s.now r n = ([exa, exb], 0)) :
  Calls Tryz.prog 26 #[.pointer (some ⟨s0, 0, none⟩), .agg (r.cells (.slice A n c)).toArray] w (AwList w0 s0 s bx) := by
 obtain ⟨D, h1, hD, h3, h4⟩ := h
 have := xlist_calls r A n c w h1
 rw [heq] at this
 refine this.mono ?_
 rintro e w' ⟨D', v, b, he, ⟨vs, hv, hrow, hvals⟩, hDb, hb, g1, g2, g3⟩
 obtain ⟨D2, i1, i2, i3, i4⟩ := AwI.post hD h3 h4 g1 g2 g3
 have h0 := hvals 0 (by simp)
 have hvl : vs.length = 2 := hv
 rcases hrow.2 with ⟨_, h0'⟩ | ⟨g, cp, cur, rfl, hbg, hh, _, _, hsz, htk⟩
 ·simp at h0'
 ·have hv0 : vs.getD 0 undef = vs[0]'(by omega) := by rw [List.getD_eq_getElem?_getD, List.getElem?_eq_getElem (by omega)]; rfl
  obtain ⟨hown, hab⟩ := h0
  have e0 : (attAt [exa, exb] 0).val = [2] := rfl
  rw [e0] at hown
  rcases hown.2 with ⟨_, h1'⟩ | ⟨gv, cv, curv, ev, hbv, hhv, _, _, hszv, htv⟩
  ·simp at h1'
  ·have hc := acells_at [exa, exb] vs 0 (by simp) hv
   have hlt : ∀ j u, (acells [exa, exb] vs)[j]? = some u → cur.toList[j]? = some u := fun j u hj => by
    rw [← htk, List.getElem?_take] at hj
    split at hj
    ·exact hj
    ·cases hj
   refine ⟨g, cp, gv, cv, cur.toList, curv.toList, he, ⟨D', g1, fun k hk => (g2 k hk).elim (hD k) (fun h => Nat.le_trans h3.size h), i3, ?_⟩, hlt 0 _ hc.1, ?_, ?_⟩
   ·intro p hp
    rcases List.mem_cons.1 hp with rfl | hp
    ·exact ⟨by simpa [Strc] using hh, fun hd => by have := hDb g hd; omega⟩
    ·rcases List.mem_cons.1 hp with rfl | hp
     ·exact ⟨by simpa [Strc] using hhv, fun hd => by have := hDb gv hd; omega⟩
     ·exact ⟨(h4 p hp).1.mod g3 (h4 p hp).2, fun hd => (g2 _ hd).elim (h4 p hp).2 (fun h => by have := (h4 p hp).1.lt; omega)⟩
   ·have := hlt 1 _ hc.2
    rw [ev] at this
    exact this
   ·have : curv.toList.take (1 * 1) = [.int .u8 2] := htv
    have h0 : (curv.toList.take (1 * 1))[0]? = some (.int .u8 2) := by rw [this]; rfl
    rw [List.getElem?_take] at h0
    simpa using h0
theorem AwI.sub {w0 w : World} {s0 : Nat} {s : St} {bx bx' : List (Nat × TypeId × List Value)} (h : AwI w0 s0 s bx w) (hs : ∀ p ∈ bx', p ∈ bx) : AwI w0 s0 s bx' w := by
 obtain ⟨D, h1, h2, h3, h4⟩ := h
 exact ⟨D, h1, h2, h3, fun p hp => h4 p (hs p hp)⟩
theorem AwI.lt {w0 w : World} {s0 : Nat} {s : St} {bx : List (Nat × TypeId × List Value)} (h : AwI w0 s0 s bx w) {p : Nat × TypeId × List Value} (hp : p ∈ bx) : p.1 < w.heap.size := (h.get hp).lt
theorem AwI.made {w0 w : World} {s0 : Nat} {s : St} {bx : List (Nat × TypeId × List Value)} (h : AwI w0 s0 s bx w) (t : TypeId) (cs cs' : List Value) : AwI w0 s0 s ((w.heap.size, t, cs') :: bx) ((w.alloc (.cells cs.toArray t)).setRow w.heap.size cs'.toArray) :=
 (h.push t cs).put cs' h.ge (fun p hp e => by have := h.lt hp; omega)
set_option maxHeartbeats 8000000 in
set_option maxRecDepth 100000 in
theorem awake_calls (w : World) (hT : Tab w) : Calls Tryz.prog 9 #[] w fun e w' => e = .returned (.bool true) ∧ Below w.heap.size w w' := by
 have h2w : 2 < w.heap.size := World.block_lt_of_cell? w _ (hT 0 (by omega))
 have HT := Aside0.mk (And.intro hT h2w)
 obtain ⟨s1, s2, s3, s4, x1, x2, x3, x4, x5, x6, x7, y1, y2, y3⟩ := exAll
 have HX := Aside0.mk (And.intro x1 (And.intro x2 (And.intro x3 (And.intro x4 (And.intro x5 (And.intro x6 x7))))))
 have HY := Aside0.mk (And.intro y1 (And.intro y2 y3))
 clear hT h2w x1 x2 x3 x4 x5 x6 x7 y1 y2 y3
 go_enter Tryz.func9, Tryz.ntmps9
 go_wp2_with fail
 with_reducible refine (both_calls w).mono ?_
 rintro e w1 ⟨s0, q, D, rfl, hst, hD, hb⟩
 have HA1 := Aside0.mk (show AwI w s0 exS [] w1 from ⟨D, hst, hD, hb, fun p hp => nomatch hp⟩)
 clear hst hD hb
 dsimp only
 go_upto_region 2 with fail
 refine wp_region_lit ?_
 refine wpList_plain rfl fun K hK => ?_
 unfold Oper.wp execOp
 go_simp
 refine hK _ _ ?_
 clear hK K
 refine wpList_plain rfl fun K hK => ?_
 unfold Oper.wp execOp
 go_simp
 with_reducible refine (fresh_calls w1).mono ?_
 rintro e w2 ⟨g1, rfl, hb2⟩
 have HA2 := Aside0.mk (HA1.out.below hb2)
 clear hb2
 dsimp only
 refine hK _ _ ?_
 clear hK K
 refine wpList_plain rfl fun K hK => ?_
 unfold Oper.wp execOp
 go_simp
 refine hK _ _ ?_
 clear hK K
 have ha3 := HA2.out.push 5 [.int .u8 1]
 have hge := HA2.out.ge
 obtain ⟨cs1, hcs1⟩ : ∃ cs, resC exRx (.slice (some ⟨g1, 0, none⟩) 48 48) 0 = cs := ⟨_, rfl⟩
 have Hcs1 := Aside0.mk (And.intro hcs1 (by rw [← hcs1]; exact resC_ok exRx _ _ _ _ : cs1.length = 15 ∧ cs1.toArray.all (·.oneCell') = true))
 have hs : Calls Tryz.prog 18 #[.pointer (some ⟨s0, 0, none⟩), .agg (frC g1).toArray, .string ⟨#[98]⟩, .slice (some ⟨w2.heap.size, 0, none⟩) 1 1, .int .i64 0, .int .i64 0] (w2.alloc (.cells #[.int .u8 1] 5)) (AwPost w s0 s1 [(w2.heap.size, 5, [.int .u8 1])] cs1 0) := hcs1 ▸ ha3.set (some ⟨g1, 0, none⟩) 48 48 exB (some ⟨w2.heap.size, 0, none⟩) 1 [1] 0 0 HX.out.1 HT.out.1 HT.out.2 (.inr ⟨_, rfl, List.mem_cons_self ..⟩) (by decide) (by decide) (by decide) (by decide) (by decide)
 have HS := Aside0.mk hs
 clear ha3 hs hge hcs1
 generalize w2.alloc (.cells #[.int .u8 1] 5) = w3 at HS ⊢
 refine wpList_plain rfl fun K hK => ?_
 unfold Oper.wp execOp
 go_simp
 with_reducible refine HS.out.mono ?_
 rintro e w4 ⟨rfl, hax⟩
 have HA4 := Aside0.mk hax
 clear hax HS
 dsimp only
 refine hK _ _ ?_
 clear hK K
 refine wpList_plain rfl fun K hK => ?_
 unfold Oper.wp execOp
 go_simp
 refine hK _ _ ?_
 clear hK K
 refine wpList_plain rfl fun K hK => ?_
 unfold Oper.wp execOp
 go_simp
 refine hK _ _ ?_
 clear hK K
 refine wpList_plain rfl fun K hK => ?_
 unfold Oper.wp execOp
 go_simp
 refine hK _ _ ?_
 clear hK K
 refine wpList_plain rfl fun K hK => ?_
 unfold Oper.wp execOp
 go_simp
 refine hK _ _ ?_
 clear hK K
 change wpList _ _ _ _ _ (w4.alloc (.cells inoZ.toArray 47))
 have hsx : Strc (w4.alloc (.cells inoZ.toArray 47)) w4.heap.size 47 inoZ := alloc_last w4 _
 have hax := HA4.out.made 47 inoZ cs1
 refine wpList_store_row rfl 47 _ _ rfl w4.heap.size cs1.toArray rfl rfl 47 _ hsx (infIno (Hcs1.out.2.1)) (by first | rfl | (rw [List.size_toArray, List.size_toArray, Hcs1.out.2.1]; rfl)) Hcs1.out.2.2 ?_
 generalize World.setRow (w4.alloc (.cells inoZ.toArray 47)) w4.heap.size cs1.toArray = w5 at hax ⊢
 obtain ⟨qa, hqa⟩ : ∃ q, w4.heap.size = q := ⟨_, rfl⟩
 rw [hqa] at hax ⊢
 have HA5 := Aside0.mk hax
 clear hax hsx hqa
 refine wpList_plain rfl fun K hK => ?_
 unfold Oper.wp execOp
 go_simp
 refine hK _ _ ?_
 clear hK K
 go_upto_region 3 with fail
 refine wp_region_lit ?_
 refine wpList_plain rfl fun K hK => ?_
 unfold Oper.wp execOp
 go_simp
 refine hK _ _ ?_
 clear hK K
 refine wpList_load_row rfl 47 _ rfl qa rfl 47 cs1.toArray (0, 0) _ (HA5.out.get (p := (qa, 47, cs1)) (List.mem_cons_self ..)) Tryz.underlying47 rfl (infIno (Hcs1.out.2.1)) ?_
 refine wpList_plain rfl fun K hK => ?_
 unfold Oper.wp execOp
 go_simp
 refine hK _ _ ?_
 clear hK K
 have ha6 := (HA5.out.sub (bx' := [(qa, 47, cs1)]) (fun p hp => by simp at hp; subst hp; exact List.mem_cons_self ..)).push 5 [.int .u8 2]
 have hs : Calls Tryz.prog 18 #[.pointer (some ⟨s0, 0, none⟩), .agg cs1.toArray, .string ⟨#[97]⟩, .slice (some ⟨w5.heap.size, 0, none⟩) 1 1, .int .i64 0, .int .i64 0] (w5.alloc (.cells #[.int .u8 2] 5)) (AwPost w s0 s2 ((w5.heap.size, 5, [.int .u8 2]) :: [(qa, 47, cs1)]) cs1 0) := by
  have := ha6.set (r := exRx) (some ⟨g1, 0, none⟩) 48 48 exA (some ⟨w5.heap.size, 0, none⟩) 1 [2] 0 0 HX.out.2.1 HT.out.1 HT.out.2 (.inr ⟨_, rfl, List.mem_cons_self ..⟩) (by decide) (by decide) (by have := HY.out.1; omega) (by decide) (by decide)
  rw [Hcs1.out.1, show exRx.cells (.slice (some ⟨g1, 0, none⟩) 48 48) = cs1 from Hcs1.out.1] at this
  exact this
 have HS := Aside0.mk hs
 clear ha6 hs
 generalize w5.alloc (.cells #[.int .u8 2] 5) = w6 at HS ⊢
 refine wpList_plain rfl fun K hK => ?_
 unfold Oper.wp execOp
 go_simp
 with_reducible refine HS.out.mono ?_
 rintro e w7 ⟨rfl, hax⟩
 have HA7 := Aside0.mk hax
 clear hax HS
 dsimp only
 refine hK _ _ ?_
 clear hK K
 refine wpList_plain rfl fun K hK => ?_
 unfold Oper.wp execOp
 go_simp
 refine hK _ _ ?_
 clear hK K
 refine wpList_plain rfl fun K hK => ?_
 unfold Oper.wp execOp
 go_simp
 refine hK _ _ ?_
 clear hK K
 refine wpList_plain rfl fun K hK => ?_
 unfold Oper.wp execOp
 go_simp
 refine hK _ _ ?_
 clear hK K
 refine wpList_plain rfl fun K hK => ?_
 unfold Oper.wp execOp
 go_simp
 refine hK _ _ ?_
 clear hK K
 change wpList _ _ _ _ _ (w7.alloc (.cells inoZ.toArray 47))
 have hsx : Strc (w7.alloc (.cells inoZ.toArray 47)) w7.heap.size 47 inoZ := alloc_last w7 _
 have hax := HA7.out.made 47 inoZ cs1
 refine wpList_store_row rfl 47 _ _ rfl w7.heap.size cs1.toArray rfl rfl 47 _ hsx (infIno (Hcs1.out.2.1)) (by first | rfl | (rw [List.size_toArray, List.size_toArray, Hcs1.out.2.1]; rfl)) Hcs1.out.2.2 ?_
 generalize World.setRow (w7.alloc (.cells inoZ.toArray 47)) w7.heap.size cs1.toArray = w8 at hax ⊢
 obtain ⟨qb, hqb⟩ : ∃ q, w7.heap.size = q := ⟨_, rfl⟩
 rw [hqb] at hax ⊢
 have HA8 := Aside0.mk hax
 clear hax hsx hqb
 refine wpList_plain rfl fun K hK => ?_
 unfold Oper.wp execOp
 go_simp
 refine hK _ _ ?_
 clear hK K
 go_upto_region 4 with fail
 refine wp_region_lit ?_
 refine wpList_plain rfl fun K hK => ?_
 unfold Oper.wp execOp
 go_simp
 refine hK _ _ ?_
 clear hK K
 refine wpList_load_row rfl 47 _ rfl qb rfl 47 cs1.toArray (0, 0) _ (HA8.out.get (p := (qb, 47, cs1)) (List.mem_cons_self ..)) Tryz.underlying47 rfl (infIno (Hcs1.out.2.1)) ?_
 have hl : Calls Tryz.prog 26 #[.pointer (some ⟨s0, 0, none⟩), .agg cs1.toArray] w8 (AwList w s0 s2 [(qb, 47, cs1)]) := by
  have := (HA8.out.sub (bx' := [(qb, 47, cs1)]) (fun p hp => by simp at hp; subst hp; exact List.mem_cons_self ..)).list (r := exRx) (some ⟨g1, 0, none⟩) 48 48 HX.out.2.2.1
  rw [show exRx.cells (.slice (some ⟨g1, 0, none⟩) 48 48) = cs1 from Hcs1.out.1] at this
  exact this
 have HS := Aside0.mk hl
 clear hl
 refine wpList_plain rfl fun K hK => ?_
 unfold Oper.wp execOp
 go_simp
 with_reducible refine HS.out.mono ?_
 rintro e w9 ⟨g, c, h, c', cur, cur2, rfl, hax, k0, k1, k2⟩
 have HA9 := Aside0.mk hax
 have HKK := Aside0.mk (And.intro k0 (And.intro k1 k2))
 clear hax HS k0 k1 k2
 dsimp only
 refine hK _ _ ?_
 clear hK K
 refine wpList_plain rfl fun K hK => ?_
 unfold Oper.wp execOp
 go_simp
 refine hK _ _ ?_
 clear hK K
 refine wpList_plain rfl fun K hK => ?_
 unfold Oper.wp execOp
 go_simp
 refine hK _ _ ?_
 clear hK K
 refine wpList_plain rfl fun K hK => ?_
 unfold Oper.wp execOp
 go_simp
 refine hK _ _ ?_
 clear hK K
 refine wpList_plain rfl fun K hK => ?_
 unfold Oper.wp execOp
 go_simp
 refine hK _ _ ?_
 clear hK K
 refine wpList_plain rfl fun K hK => ?_
 unfold Oper.wp execOp
 go_simp
 refine hK _ _ ?_
 clear hK K
 have HinoZ := Aside0.mk (And.intro (rfl : inoZ = inoZ) (show inoZ.length = 15 ∧ inoZ.toArray.all (·.oneCell') = true from ⟨rfl, inoZ_one⟩))
 go_upto_region 5 with fail
 refine wp_region_lit ?_
 refine wpList_plain rfl fun K hK => ?_
 unfold Oper.wp execOp
 go_simp
 refine hK _ _ ?_
 clear hK K
 refine wpList_load_row rfl 47 _ rfl qb rfl 47 cs1.toArray (0, 0) _ (HA9.out.get (p := (qb, 47, cs1)) (by simp)) Tryz.underlying47 rfl (infIno (Hcs1.out.2.1)) ?_
 have hs : Calls Tryz.prog 18 #[.pointer (some ⟨s0, 0, none⟩), .agg cs1.toArray, .string ⟨#[97]⟩, .slice none 0 0, .int .i64 1, .int .i64 0] w9 (AwPost w s0 s2 [(g, 72, cur), (h, 5, cur2), (qb, 47, cs1)] inoZ 17) := by
  have := HA9.out.set (r := exRx) (some ⟨g1, 0, none⟩) 48 48 exA none 0 [] 1 0 HX.out.2.2.2.1 HT.out.1 HT.out.2 (.inl ⟨rfl, rfl, rfl⟩) (by decide) (by decide) (by have := HY.out.2.1; omega) (by decide) (by decide)
  rw [show exRx.cells (.slice (some ⟨g1, 0, none⟩) 48 48) = cs1 from Hcs1.out.1] at this
  exact this
 have HS := Aside0.mk hs
 clear hs
 refine wpList_plain rfl fun K hK => ?_
 unfold Oper.wp execOp
 go_simp
 with_reducible refine HS.out.mono ?_
 rintro e w10 ⟨rfl, hax⟩
 have HA10 := Aside0.mk hax
 clear hax HS
 dsimp only
 refine hK _ _ ?_
 clear hK K
 refine wpList_plain rfl fun K hK => ?_
 unfold Oper.wp execOp
 go_simp
 refine hK _ _ ?_
 clear hK K
 refine wpList_plain rfl fun K hK => ?_
 unfold Oper.wp execOp
 go_simp
 refine hK _ _ ?_
 clear hK K
 refine wpList_plain rfl fun K hK => ?_
 unfold Oper.wp execOp
 go_simp
 refine hK _ _ ?_
 clear hK K
 refine wpList_plain rfl fun K hK => ?_
 unfold Oper.wp execOp
 go_simp
 refine hK _ _ ?_
 clear hK K
 change wpList _ _ _ _ _ (w10.alloc (.cells inoZ.toArray 47))
 have hsx : Strc (w10.alloc (.cells inoZ.toArray 47)) w10.heap.size 47 inoZ := alloc_last w10 _
 have hax := HA10.out.made 47 inoZ inoZ
 refine wpList_store_row rfl 47 _ _ rfl w10.heap.size inoZ.toArray rfl rfl 47 _ hsx (infIno (HinoZ.out.2.1)) (by first | rfl | (rw [List.size_toArray, List.size_toArray, HinoZ.out.2.1]; rfl)) HinoZ.out.2.2 ?_
 generalize World.setRow (w10.alloc (.cells inoZ.toArray 47)) w10.heap.size inoZ.toArray = w11 at hax ⊢
 obtain ⟨qc, hqc⟩ : ∃ q, w10.heap.size = q := ⟨_, rfl⟩
 rw [hqc] at hax ⊢
 have HA11 := Aside0.mk hax
 clear hax hsx hqc
 refine wpList_plain rfl fun K hK => ?_
 unfold Oper.wp execOp
 go_simp
 refine hK _ _ ?_
 clear hK K
 have HA11 := Aside0.mk (HA11.out.sub (bx' := [(g, 72, cur), (h, 5, cur2), (qb, 47, cs1)]) (fun p hp => List.mem_cons_of_mem _ hp))
 go_upto_region 6 with fail
 refine wp_region_lit ?_
 refine wpList_plain rfl fun K hK => ?_
 unfold Oper.wp execOp
 go_simp
 refine hK _ _ ?_
 clear hK K
 refine wpList_load_row rfl 47 _ rfl qb rfl 47 cs1.toArray (0, 0) _ (HA11.out.get (p := (qb, 47, cs1)) (by simp)) Tryz.underlying47 rfl (infIno (Hcs1.out.2.1)) ?_
 have hs : Calls Tryz.prog 18 #[.pointer (some ⟨s0, 0, none⟩), .agg cs1.toArray, .string ⟨#[99]⟩, .slice none 0 0, .int .i64 2, .int .i64 0] w11 (AwPost w s0 s2 [(g, 72, cur), (h, 5, cur2), (qb, 47, cs1)] inoZ 61) := by
  have := HA11.out.set (r := exRx) (some ⟨g1, 0, none⟩) 48 48 exC none 0 [] 2 0 HX.out.2.2.2.2.1 HT.out.1 HT.out.2 (.inl ⟨rfl, rfl, rfl⟩) (by decide) (by decide) (by have := HY.out.2.1; omega) (by decide) (by decide)
  rw [show exRx.cells (.slice (some ⟨g1, 0, none⟩) 48 48) = cs1 from Hcs1.out.1] at this
  exact this
 have HS := Aside0.mk hs
 clear hs
 refine wpList_plain rfl fun K hK => ?_
 unfold Oper.wp execOp
 go_simp
 with_reducible refine HS.out.mono ?_
 rintro e w12 ⟨rfl, hax⟩
 have HA12 := Aside0.mk hax
 clear hax HS
 dsimp only
 refine hK _ _ ?_
 clear hK K
 refine wpList_plain rfl fun K hK => ?_
 unfold Oper.wp execOp
 go_simp
 refine hK _ _ ?_
 clear hK K
 refine wpList_plain rfl fun K hK => ?_
 unfold Oper.wp execOp
 go_simp
 refine hK _ _ ?_
 clear hK K
 refine wpList_plain rfl fun K hK => ?_
 unfold Oper.wp execOp
 go_simp
 refine hK _ _ ?_
 clear hK K
 refine wpList_plain rfl fun K hK => ?_
 unfold Oper.wp execOp
 go_simp
 refine hK _ _ ?_
 clear hK K
 change wpList _ _ _ _ _ (w12.alloc (.cells inoZ.toArray 47))
 have hsx : Strc (w12.alloc (.cells inoZ.toArray 47)) w12.heap.size 47 inoZ := alloc_last w12 _
 have hax := HA12.out.made 47 inoZ inoZ
 refine wpList_store_row rfl 47 _ _ rfl w12.heap.size inoZ.toArray rfl rfl 47 _ hsx (infIno (HinoZ.out.2.1)) (by first | rfl | (rw [List.size_toArray, List.size_toArray, HinoZ.out.2.1]; rfl)) HinoZ.out.2.2 ?_
 generalize World.setRow (w12.alloc (.cells inoZ.toArray 47)) w12.heap.size inoZ.toArray = w13 at hax ⊢
 obtain ⟨qd, hqd⟩ : ∃ q, w12.heap.size = q := ⟨_, rfl⟩
 rw [hqd] at hax ⊢
 have HA13 := Aside0.mk hax
 clear hax hsx hqd
 refine wpList_plain rfl fun K hK => ?_
 unfold Oper.wp execOp
 go_simp
 refine hK _ _ ?_
 clear hK K
 have HA13 := Aside0.mk (HA13.out.sub (bx' := [(g, 72, cur), (h, 5, cur2), (qb, 47, cs1)]) (fun p hp => List.mem_cons_of_mem _ hp))
 go_upto_region 7 with fail
 refine wp_region_lit ?_
 refine wpList_plain rfl fun K hK => ?_
 unfold Oper.wp execOp
 go_simp
 refine hK _ _ ?_
 clear hK K
 refine wpList_load_row rfl 47 _ rfl qb rfl 47 cs1.toArray (0, 0) _ (HA13.out.get (p := (qb, 47, cs1)) (by simp)) Tryz.underlying47 rfl (infIno (Hcs1.out.2.1)) ?_
 have hs : Calls Tryz.prog 22 #[.pointer (some ⟨s0, 0, none⟩), .agg cs1.toArray, .string ⟨#[97]⟩] w13 (AwPost w s0 s3 [(g, 72, cur), (h, 5, cur2), (qb, 47, cs1)] cs1 0) := by
  have := HA13.out.rem (r := exRx) (some ⟨g1, 0, none⟩) 48 48 exA HX.out.2.2.2.2.2.1 (by have := HY.out.2.1; omega)
  rw [Hcs1.out.1, show exRx.cells (.slice (some ⟨g1, 0, none⟩) 48 48) = cs1 from Hcs1.out.1] at this
  exact this
 have HS := Aside0.mk hs
 clear hs
 refine wpList_plain rfl fun K hK => ?_
 unfold Oper.wp execOp
 go_simp
 with_reducible refine HS.out.mono ?_
 rintro e w14 ⟨rfl, hax⟩
 have HA14 := Aside0.mk hax
 clear hax HS
 dsimp only
 refine hK _ _ ?_
 clear hK K
 refine wpList_plain rfl fun K hK => ?_
 unfold Oper.wp execOp
 go_simp
 refine hK _ _ ?_
 clear hK K
 refine wpList_plain rfl fun K hK => ?_
 unfold Oper.wp execOp
 go_simp
 refine hK _ _ ?_
 clear hK K
 refine wpList_plain rfl fun K hK => ?_
 unfold Oper.wp execOp
 go_simp
 refine hK _ _ ?_
 clear hK K
 refine wpList_plain rfl fun K hK => ?_
 unfold Oper.wp execOp
 go_simp
 refine hK _ _ ?_
 clear hK K
 change wpList _ _ _ _ _ (w14.alloc (.cells inoZ.toArray 47))
 have hsx : Strc (w14.alloc (.cells inoZ.toArray 47)) w14.heap.size 47 inoZ := alloc_last w14 _
 have hax := HA14.out.made 47 inoZ cs1
 refine wpList_store_row rfl 47 _ _ rfl w14.heap.size cs1.toArray rfl rfl 47 _ hsx (infIno (Hcs1.out.2.1)) (by first | rfl | (rw [List.size_toArray, List.size_toArray, Hcs1.out.2.1]; rfl)) Hcs1.out.2.2 ?_
 generalize World.setRow (w14.alloc (.cells inoZ.toArray 47)) w14.heap.size cs1.toArray = w15 at hax ⊢
 obtain ⟨qe, hqe⟩ : ∃ q, w14.heap.size = q := ⟨_, rfl⟩
 rw [hqe] at hax ⊢
 have HA15 := Aside0.mk hax
 clear hax hsx hqe
 refine wpList_plain rfl fun K hK => ?_
 unfold Oper.wp execOp
 go_simp
 refine hK _ _ ?_
 clear hK K
 obtain ⟨cs4, hcs4⟩ : ∃ cs, resC exR (.slice (some ⟨g1, 0, none⟩) 48 48) 0 = cs := ⟨_, rfl⟩
 have Hcs4 := Aside0.mk (And.intro hcs4 (by rw [← hcs4]; exact resC_ok exR _ _ _ _ : cs4.length = 15 ∧ cs4.toArray.all (·.oneCell') = true))
 clear hcs4
 go_upto_region 8 with fail
 refine wp_region_lit ?_
 refine wpList_plain rfl fun K hK => ?_
 unfold Oper.wp execOp
 go_simp
 refine hK _ _ ?_
 clear hK K
 refine wpList_load_row rfl 47 _ rfl qe rfl 47 cs1.toArray (0, 0) _ (HA15.out.get (p := (qe, 47, cs1)) (by simp)) Tryz.underlying47 rfl (infIno (Hcs1.out.2.1)) ?_
 have hs : Calls Tryz.prog 22 #[.pointer (some ⟨s0, 0, none⟩), .agg cs1.toArray, .string ⟨#[98]⟩] w15 (AwPost w s0 s4 ((qe, 47, cs1) :: [(g, 72, cur), (h, 5, cur2), (qb, 47, cs1)]) cs4 0) := by
  have := HA15.out.rem (r := exRx) (some ⟨g1, 0, none⟩) 48 48 exB HX.out.2.2.2.2.2.2 (by have := HY.out.2.2; omega)
  rw [Hcs4.out.1, show exRx.cells (.slice (some ⟨g1, 0, none⟩) 48 48) = cs1 from Hcs1.out.1] at this
  exact this
 have HS := Aside0.mk hs
 clear hs
 refine wpList_plain rfl fun K hK => ?_
 unfold Oper.wp execOp
 go_simp
 with_reducible refine HS.out.mono ?_
 rintro e w16 ⟨rfl, hax⟩
 have HA16 := Aside0.mk hax
 clear hax HS
 dsimp only
 refine hK _ _ ?_
 clear hK K
 refine wpList_plain rfl fun K hK => ?_
 unfold Oper.wp execOp
 go_simp
 refine hK _ _ ?_
 clear hK K
 refine wpList_plain rfl fun K hK => ?_
 unfold Oper.wp execOp
 go_simp
 refine hK _ _ ?_
 clear hK K
 refine wpList_plain rfl fun K hK => ?_
 unfold Oper.wp execOp
 go_simp
 refine hK _ _ ?_
 clear hK K
 refine wpList_plain rfl fun K hK => ?_
 unfold Oper.wp execOp
 go_simp
 refine hK _ _ ?_
 clear hK K
 change wpList _ _ _ _ _ (w16.alloc (.cells inoZ.toArray 47))
 have hsx : Strc (w16.alloc (.cells inoZ.toArray 47)) w16.heap.size 47 inoZ := alloc_last w16 _
 have hax := HA16.out.made 47 inoZ cs4
 refine wpList_store_row rfl 47 _ _ rfl w16.heap.size cs4.toArray rfl rfl 47 _ hsx (infIno (Hcs4.out.2.1)) (by first | rfl | (rw [List.size_toArray, List.size_toArray, Hcs4.out.2.1]; rfl)) Hcs4.out.2.2 ?_
 generalize World.setRow (w16.alloc (.cells inoZ.toArray 47)) w16.heap.size cs4.toArray = w17 at hax ⊢
 obtain ⟨qf, hqf⟩ : ∃ q, w16.heap.size = q := ⟨_, rfl⟩
 rw [hqf] at hax ⊢
 have HA17 := Aside0.mk hax
 clear hax hsx hqf
 refine wpList_plain rfl fun K hK => ?_
 unfold Oper.wp execOp
 go_simp
 refine hK _ _ ?_
 clear hK K
 have hA := HA17.out
 have f0 := (hA.get (p := (g, 72, cur)) (by simp)).cell 0 _ HKK.out.1
 have f1 := (hA.get (p := (g, 72, cur)) (by simp)).cell 1 _ HKK.out.2.1
 have f2 := (hA.get (p := (h, 5, cur2)) (by simp)).cell 0 _ HKK.out.2.2
 have f3 := (hA.get (p := (qf, 47, cs4)) (by simp)).cell 12 (.int .i64 0) (by rw [← Hcs4.out.1]; rfl)
 have f4 := (hA.get (p := (qf, 47, cs4)) (by simp)).cell 6 (.int .i64 0) (by rw [← Hcs4.out.1]; rfl)
 have HB := Aside0.mk (hA.elim fun D h => h.2.2.1)
 unfold exA at f0
 clear hA
 go_wp2
 go_ret
 exact ⟨rfl, HB.out⟩
theorem xallB_wf {l : List Int} (h : ∀ x ∈ l, (Lit.int .u8 x).wf = true) : allB l := fun x hx => by
 have := h x hx
 simp [Lit.wf, IntKind.min, IntKind.max, IntKind.bits, IntKind.signed] at this
 omega
theorem xwf_u32 {x : Int} (h : (Lit.int .u32 x).wf = true) : 0 ≤ x ∧ x < 4294967296 := by
 simp [Lit.wf, IntKind.min, IntKind.max, IntKind.bits, IntKind.signed] at h
 omega
theorem xunpI_small (b : List Int) (s : Int) : (xunpI b s).1.length ≤ 83 := by
 rcases xunpI_zero (l := b) (s := s) with hz | hx
 ·exact xpack_small (s := s) (by rw [xunpI_pack hz])
 ·rw [hx]; simp
set_option maxHeartbeats 8000000 in
set_option maxRecDepth 100000 in
theorem xpacks_calls (A B : Option Addr) (c d : Nat) (l : List Att) (b : List Int) (s : Int) (w : World) (hl : Atts w A l) (hc : l.length ≤ c) (hn : l.length ≤ 2000000) (hab : ∀ j, j < l.length → allB (attAt l j).val)
  (hb : Kd.C (Kd.int .u8) w B b.length b) (hd : b.length ≤ d) (hbb : allB b) (hs0 : 0 ≤ s) (hs1 : s < 4294967296) (hT : Tab w) :
  Calls Tryz.prog 3 #[.slice A l.length c, .slice B b.length d, .int .u32 s] w fun e w' => e = .returned (.bool true) ∧ Below w.heap.size w w' := by
 have HM := Aside0.mk (fun (W : World) (hW : Below w.heap.size w W) => xmine_calls A c l W (hl.below hW) hc hn)
 have HR := Aside0.mk (fun (W : World) (hW : Below w.heap.size w W) => rxpack_calls A c s l W (hl.below hW) hc hn hs0 hs1 hab)
 have HP := Aside0.mk (fun (W : World) (A' : Option Addr) (c' : Nat) (h : Atts W A' l) (h' : l.length ≤ c') => xpack_calls A' c' s l W h h' hn hs0 hs1)
 have HU := Aside0.mk (fun (W : World) (hW : Below w.heap.size w W) => xunpack_calls B d s b W (Kd.C_below hb hW) hd hs0 hs1 hbb)
 have HV := Aside0.mk (fun (W : World) (hW : Below w.heap.size w W) => rxunpack_calls B d s b W (Kd.C_below hb hW) hd hs0 hs1 hbb)
 have HLA := Aside0.mk (And.intro hl hab)
 have HT := Aside0.mk hT
 have hsm := xunpI_small b s
 obtain ⟨X, hX⟩ : ∃ X, xunpI b s = X := ⟨_, rfl⟩
 obtain ⟨x, ec⟩ := X
 rw [hX] at HU HV hsm
 dsimp only at hsm
 have hbk : (xpackI l s).2 = 0 → xunpI (xpackI l s).1 s = (l, 0) := fun h => xback h
 have hpln : (xpackI l s).2 = 0 → (xpackI l s).1.length = 256 := fun h => xpackI_len h
 have hpab : allB (xpackI l s).1 := allB_xpack (fun y hy => by
  obtain ⟨j, hj, rfl⟩ := List.getElem_of_mem hy
  have := hab j hj
  simpa [attAt, List.getD_eq_getElem?_getD, hj] using this) s
 obtain ⟨P, hP⟩ : ∃ P, xpackI l s = P := ⟨_, rfl⟩
 obtain ⟨pb, pe⟩ := P
 rw [hP] at HR HP hbk hpln hpab
 dsimp only at hbk hpln hpab
 have HBK := Aside0.mk hbk
 have HPLN := Aside0.mk hpln
 have HPAB := Aside0.mk hpab
 unfold MinePost at HM
 unfold XUnpPost at HU
 unfold RXUnpPost at HV
 unfold BytesPost at HR HP
 clear hl hab hb hbb hT hX hP hbk hpln hpab
 go_enter Tryz.func3, Tryz.ntmps3
 go_wp2_with fail
 refine (awake_calls w HT.out).mono ?_
 rintro e w1 ⟨rfl, hb1⟩
 have HB1 := Aside0.mk hb1
 clear hb1
 dsimp only
 go_wp2_with fail
 refine (HM.out w1 HB1.out).mono ?_
 rintro e w2 ⟨A2, c2, rfl, hc2, hA2, hb2⟩
 have HB2 := Aside0.mk (below_then HB1.out HB1.out.size hb2)
 have HA2 := Aside0.mk hA2
 have HC2 := Aside0.mk hc2
 clear hb2 hA2
 dsimp only
 go_wp2_with fail
 refine (HP.out w2 A2 c2 HA2.out HC2.out).mono ?_
 rintro e w3 ⟨v3, rfl, hb3, hr3, hz3⟩
 have HB3 := Aside0.mk (below_then HB2.out HB2.out.size hb3)
 have HR3 := Aside0.mk (And.intro hr3 hz3)
 clear hb3 hr3 hz3
 dsimp only
 go_wp2_with fail
 refine (HR.out w3 HB3.out).mono ?_
 rintro e w4 ⟨v4, rfl, hb4, hr4, hz4⟩
 have HB4 := Aside0.mk (below_then HB3.out HB3.out.size hb4)
 have HBX4 := Aside0.mk hb4
 have HR4 := Aside0.mk (And.intro hr4 hz4)
 clear hb4 hr4 hz4
 dsimp only
 go_wp2_with fail
 refine (HU.out w4 HB4.out).mono ?_
 rintro e w5 ⟨v5, rfl, ho5, hb5⟩
 have HB5 := Aside0.mk (below_then HB4.out HB4.out.size hb5)
 have HBX5 := Aside0.mk hb5
 obtain ⟨A5, c5, rfl, hc5, hE5⟩ := OwnA.reads ho5 (by first | omega | (dsimp only; omega))
 try dsimp only at hE5
 have HE5 := Aside0.mk hE5
 clear hb5 ho5 hE5
 dsimp only
 go_wp2_with fail
 refine (HV.out w5 HB5.out).mono ?_
 rintro e w6 ⟨v6, rfl, ho6, hb6⟩
 have HB6 := Aside0.mk (below_then HB5.out HB5.out.size hb6)
 have HBX6 := Aside0.mk hb6
 obtain ⟨A6, c6, rfl, hc6, hE6⟩ := OwnRA.reads ho6 (by first | omega | (dsimp only; omega))
 try dsimp only at hE6
 have HSA := Aside0.mk (fun (W : World) (hW : Below w6.heap.size w6 W) => sameAttrs_calls A5 A6 c5 c6 x W ((HE5.out.below hb6).below hW) (hE6.below hW) (by omega))
 clear hb6 ho6 hE6 hc2
 dsimp only
 by_cases hpe : pe = 0
 ·subst hpe
  have HBK0 := Aside0.mk (HBK.out rfl)
  obtain ⟨g3, k3, rfl, hg3, hk3, hrow3⟩ := HR3.out.1 rfl
  obtain ⟨g4, k4, rfl, hg4, hk4, hrow4⟩ := HR4.out.1 rfl
  have hpl := HPLN.out rfl
  have hC3 : Kd.C (Kd.int .u8) w6 (some ⟨g3, 0, none⟩) pb.length pb := Kd.C_below (Kd.C_below (Kd.C_below (hrow3.reads (by omega)) HBX4.out) HBX5.out) HBX6.out
  have hC4 : Kd.C (Kd.int .u8) w6 (some ⟨g4, 0, none⟩) pb.length pb := Kd.C_below (Kd.C_below (hrow4.reads (by omega)) HBX5.out) HBX6.out
  have hs := same_calls (some ⟨g3, 0, none⟩) (some ⟨g4, 0, none⟩) k3 k4 pb pb w6 hC3 hC4
  rw [beq_self_eq_true] at hs
  have HS := Aside0.mk hs
  have HC3 := Aside0.mk hC3
  have HK3 := Aside0.mk hk3
  clear hs hC3 hC4 hrow3 hrow4 hg3 hg4 hk3 hk4 hpl
  go_wp2_with fail
  refine HS.out.mono ?_
  rintro e w7 ⟨rfl, hb7⟩
  have HB7 := Aside0.mk (below_then HB6.out HB6.out.size hb7)
  have HBX7 := Aside0.mk hb7
  clear hb7
  dsimp only
  go_wp2_with fail
  refine (HSA.out w7 HBX7.out).mono ?_
  rintro e w8 ⟨rfl, hb8⟩
  have HB8 := Aside0.mk (below_then HB7.out HB7.out.size hb8)
  have HBX8 := Aside0.mk hb8
  clear hb8
  dsimp only
  have hu := xunpack_calls (some ⟨g3, 0, none⟩) k3 s pb w8 (Kd.C_below (Kd.C_below HC3.out HBX7.out) HBX8.out) HK3.out hs0 hs1 HPAB.out
  rw [HBK0.out] at hu
  unfold XUnpPost at hu
  have HUU := Aside0.mk hu
  clear hu
  go_wp2_with fail
  refine HUU.out.mono ?_
  rintro e w9 ⟨v9, rfl, ho9, hb9⟩
  have HB9 := Aside0.mk (below_then HB8.out HB8.out.size hb9)
  obtain ⟨A9, c9, rfl, hc9, hE9⟩ := OwnA.reads ho9 (by first | omega | (dsimp only; omega))
  try dsimp only at hE9
  have hsa := sameAttrs_calls A9 A c9 c l w9 hE9 (HLA.out.1.below HB9.out) hn
  have HSB := Aside0.mk hsa
  clear hb9 ho9 hE9 hsa
  dsimp only
  go_wp2_with fail
  refine HSB.out.mono ?_
  rintro e w10 ⟨rfl, hb10⟩
  have HB10 := Aside0.mk (below_then HB9.out HB9.out.size hb10)
  clear hb10
  dsimp only
  go_wp2
  go_ret
  exact ⟨rfl, HB10.out⟩
 ·obtain rfl := HR3.out.2 hpe
  obtain rfl := HR4.out.2 hpe
  have hpb : (pe != 0) = true := by simpa using hpe
  have hs := same_calls none none 0 0 [] [] w6 (C_int_nil _ _ _) (C_int_nil _ _ _)
  rw [beq_self_eq_true] at hs
  have HS := Aside0.mk hs
  clear hs
  go_wp2_with fail
  refine HS.out.mono ?_
  rintro e w7 ⟨rfl, hb7⟩
  have HB7 := Aside0.mk (below_then HB6.out HB6.out.size hb7)
  have HBX7 := Aside0.mk hb7
  clear hb7
  dsimp only
  go_wp2_with fail
  refine (HSA.out w7 HBX7.out).mono ?_
  rintro e w8 ⟨rfl, hb8⟩
  have HB8 := Aside0.mk (below_then HB7.out HB7.out.size hb8)
  clear hb8
  dsimp only
  go_wp2
  go_ret
  exact ⟨rfl, HB8.out⟩
theorem xpacks_walk (a0 : Option Addr) (cap0 : Nat) (l : List Att) (a1 : Option Addr) (len1 cap1 : Nat) (z1 : List Int) (a2 : Int) (w : World) (he : Atts w a0 l) (hc : l.length ≤ cap0) (hn : l.length ≤ 2000000) (hb : ∀ j, j < l.length → allB (attAt l j).val)
  (w1 : (a1 = none ∧ len1 = 0 ∧ cap1 = 0 ∧ z1 = []) ∨ ∃ x, a1 = some x ∧ len1 ≤ cap1 ∧ cap1 ≤ maxLen ∧ z1.length = cap1 ∧ (∀ i, i < z1.length → w.cell? (x.add i) = some (.int .u8 (z1.getD i 0))) ∧ ∀ n ∈ z1, (Lit.int .u8 n).wf = true)
  (w2 : (Lit.int .u32 a2).wf = true) (hT : Tab w) :
  Calls Tryz.prog 3 #[.slice a0 l.length cap0, .slice a1 len1 cap1, .int .u32 a2] w fun e w' => e = .returned (.bool true) ∧ Below w.heap.size w w' := by
 obtain ⟨b, rfl, hr, hm, hw, hd⟩ := ReadsInt.ofRowC w1
 exact xpacks_calls a0 a1 cap0 cap1 l b a2 w he hc hn hb (Kd.C_of_reads (d := (0 : Int)) (h1 := fun _ => rfl) hr) hd (xallB_wf hw) (xwf_u32 w2).1 (xwf_u32 w2).2 hT
end Go.Proofs.YtkmhilhfmfmckaaGreatDoor.Hand
namespace Go.Proofs.YtkmhilhfmfmckaaGreatDoor.Hand
set_option linter.unusedSimpArgs false
set_option linter.unusedVariables false
set_option maxRecDepth 10000
open Go Go.RowKit Go.ChangeShapes Go.WideShapes Go.ChangeAt Go.Deep Go.Proofs.YtkmhilhfmfmckaaGreatDoorW.PrintWords Go.Proofs.YtkmhilhfmfmckaaGreatDoorW.PrintLast Go.Proofs.YtkmhilhfmfmckaaGreatDoorW.PrintMore
section
variable {H : Type} {enc : TypeId × Value → H} {w : World}
theorem open_att {t e1 : TypeId} {f0 f1 : Field} {fuel : Nat} {cs : List Value} {x : DataW H × List MemPlace} (he : Tryz.prog.underlying t = some (.struct #[f0, f1]))
  (hone : oneCellFields Tryz.prog #[f0, f1] = true) (h0 : Tryz.prog.underlying f0.type = some .string) (h1 : Tryz.prog.underlying f1.type = some (.slice e1)) (h2 : Tryz.prog.underlying e1 = some (.int .u8)) (h3 : Tryz.prog.cellsOf e1 = 1)
  (h : DataW.trod enc Tryz.prog w 0 (fun _ => true) true fuel t cs = some x) : ∃ (e : Att) (Av : Option Addr) (cv : Nat), cs[0]? = some (.string e.name) ∧ cs[1]? = some (.slice Av e.val.length cv) ∧ e.val.length ≤ cv ∧ Kd.C (Kd.int .u8) w Av e.val.length e.val ∧ (Av = none → cv = 0) ∧ allB e.val := by
 obtain ⟨ys, n, _, hxx, _, hyl, hf⟩ := DataW.trod_struct he h
 have hl : ys.length = 2 := hyl
 have g0 := hf 0 f0 rfl
 have g1 := hf 1 f1 rfl
 obtain ⟨o0, k0⟩ := hone_of hone 0 f0 rfl
 obtain ⟨o1, k1⟩ := hone_of hone 1 f1 rfl
 rw [o0, k0, List.getElem?_eq_getElem (by omega)] at g0
 rw [o1, k1, List.getElem?_eq_getElem (by omega)] at g1
 obtain ⟨s, es, _, _⟩ := DataW.trod_string h0 g0
 have hat : ∀ (j : Nat) (v : Value), (cs.drop j).take 1 = [v] → cs[j]? = some v := fun j v hv => by
  have : ((cs.drop j).take 1)[0]? = some v := by rw [hv]; rfl
  simpa [List.getElem?_take, List.getElem?_drop] using this
 rcases open_ints h1 h2 h3 g1 with ⟨hcs, _⟩ | ⟨a, l, c, zs, hcs, _, hl, hm, hz, _, hcell, hwz⟩
 ·exact ⟨⟨s, []⟩, none, 0, hat 0 _ es, hat 1 _ hcs, Nat.le_refl _, C_int_nil _ _ _, fun _ => rfl, fun x hx => nomatch hx⟩
 ·obtain ⟨l', hl', hr, hm', hw, hc'⟩ := ReadsInt.ofRowC (w := w) (k := .u8) (.inr ⟨a, rfl, hl, hm, by simpa using hz, hcell, hwz⟩)
  subst hl'
  refine ⟨⟨s, l'⟩, some a, c, hat 0 _ es, hat 1 _ hcs, hl, Kd.C_of_reads (d := (0 : Int)) (h1 := fun _ => rfl) hr, (fun e => nomatch e), fun z hz => ?_⟩
  have := hw z hz
  simp [Lit.wf, IntKind.min, IntKind.max, IntKind.bits, IntKind.signed] at this
  omega
theorem cells_att : Tryz.prog.cellsOf 76 = 2 := by kernel_rfl
theorem open_atts {fuel : Nat} {cs : List Value} {x : DataW H × List MemPlace} (h : DataW.trod enc Tryz.prog w 0 (fun _ => true) true fuel 22 cs = some x) :
  ∃ (A : Option Addr) (cap : Nat) (l : List Att), cs = [.slice A l.length cap] ∧ l.length ≤ cap ∧ (l = [] ∨ ∃ elems sp : List (DataW H), x.1 = .slice elems sp ∧ elems.length = l.length) ∧ (l.length ≤ 1125899906842624 → Atts w A l) ∧ ∀ j, j < l.length → allB (attAt l j).val := by
 rcases open_slice Tryz.underlying22 h with ⟨h0, _⟩ | ⟨a, len, cap, m, n, D, Pl, hcs, hb, hl, hm, hmm, hx, hi⟩
 ·exact ⟨none, 0, [], h0, Nat.le_refl _, .inl rfl, fun _ => ⟨by simp, fun j hj => by simp at hj⟩, fun j hj => by simp at hj⟩
 ·have hle : len ≤ m := by rw [hmm]; split <;> omega
  have hall : ∀ i : Nat, ∃ e : Att, i < len → allB e.val ∧ ∃ (Av : Option Addr) (cv : Nat), w.cell? (a.add (i * 2)) = some (.string e.name) ∧ w.cell? (a.add (i * 2 + 1)) = some (.slice Av e.val.length cv) ∧ e.val.length ≤ cv ∧ Kd.C (Kd.int .u8) w Av e.val.length e.val ∧ (Av = none → cv = 0) := fun i => by
   by_cases hlt : i < len
   ·obtain ⟨cs', hc, ht⟩ := hi i (by omega)
    obtain ⟨e, Av, cv, e0, e1, e2, e3, e4, e5⟩ := open_att Tryz.underlying76 (by kernel_rfl) Tryz.underlying9 Tryz.underlying23 Tryz.underlying5 (by kernel_rfl) ht
    rw [cells_att] at hc
    obtain ⟨_, hcl, hat⟩ := World.cells?_some hc
    refine ⟨e, fun _ => ⟨e5, Av, cv, ?_, ?_, e2, e3, e4⟩⟩
    ·have := hat 0 (by omega)
     rw [Go.Deep.add_add, e0] at this
     exact this
    ·have := hat 1 (by omega)
     rw [Go.Deep.add_add, e1] at this
     exact this
   ·exact ⟨⟨⟨#[]⟩, []⟩, fun h => absurd h hlt⟩
  obtain ⟨F, hF⟩ := Classical.axiomOfChoice hall
  have hlen : ((List.range len).map F).length = len := by simp
  have hat : ∀ j, j < len → attAt ((List.range len).map F) j = F j := fun j hj => by
   unfold attAt
   simp [List.getD_eq_getElem?_getD, hj]
  refine ⟨some a, cap, (List.range len).map F, by rw [hlen]; exact hcs, by rw [hlen]; exact hl, .inr ⟨_, _, by rw [hx], by simp⟩, fun hs => ⟨hs, fun j hj => ?_⟩, fun j hj => ?_⟩
  ·rw [hlen] at hj
   rw [hat j hj]
   obtain ⟨_, Av, cv, q0, q1, q2, q3, q4⟩ := hF j hj
   refine ⟨a, Av, cv, rfl, q0, ?_, q2, q3, q4⟩
   rw [← Go.Deep.add_add] at q1
   exact q1
  ·rw [hlen] at hj
   rw [hat j hj]
   exact (hF j hj).1
end
end Go.Proofs.YtkmhilhfmfmckaaGreatDoor.Hand
namespace Go.Proofs.YtkmhilhfmfmckaaGreatDoor.Hand
set_option maxRecDepth 100000
open Go Go.RowKit
def laidL : List (String × DataW Unit) := [("math/bits.deBruijn32tab", Rows.laid_math_bits_deBruijn32tab), ("math/bits.deBruijn64tab", Rows.laid_math_bits_deBruijn64tab)]
theorem g64 : Tryz.prog.globalNamed "math/bits.deBruijn64tab" = some 2 := by kernel_rfl
theorem t64 : (Tryz.prog.globals[2]?).map (·.type) = some 236 := by kernel_rfl
theorem e64 : ∃ e, Tryz.prog.underlying 236 = some (.array 64 e) ∧ Tryz.prog.underlying e = some (.int .u8) ∧ Tryz.prog.cellsOf e = 1 := ⟨5, by kernel_rfl, by kernel_rfl, by kernel_rfl⟩
theorem tab_data {H : Type} : (Rows.laid_math_bits_deBruijn64tab : DataW H) = Go.Lib.tabData .u8 (List.map (fun (n : Nat) => (n : Int)) Go.Lib.deBruijn64tab) := rfl
theorem tab_of_laid {W : World} (h : laidMetH Tryz.prog laidL W) : Tab W := by
 rw [MakeChecks.laidMetH_plain _ _ _ (by kernel_rfl)] at h
 have h2 := laidMet.tail (show laidMet Tryz.prog (("math/bits.deBruijn32tab", Rows.laid_math_bits_deBruijn32tab) :: [("math/bits.deBruijn64tab", Rows.laid_math_bits_deBruijn64tab)]) W from h)
 rw [tab_data] at h2
 obtain ⟨e, he, he1, he2⟩ := e64
 have ht := Go.Lib.tabIs_of_head g64 t64 he he1 he2 (by kernel_rfl) h2
 intro i hi
 have := ht.cell g64 i (by simpa [Go.Lib.deBruijn64tab] using hi)
 rw [this]
 congr 1
 simp only [List.getD_eq_getElem?_getD, List.getElem?_map]
 cases Go.Lib.deBruijn64tab[i]? <;> rfl
theorem door_met (os : Os) (args : Array Value) : laidMetH Tryz.prog laidL ((World.doorLaid Tryz.prog 19 os).forCall (fun _ _ => 0) ⟨#[], args, []⟩).memory :=
 laidMetH_of_parts3 (fuel := 8) (laidMet_of_run' 65 (by kernel_rfl) (by kernel_rfl)) (by kernel_rfl) (by kernel_rfl)
end Go.Proofs.YtkmhilhfmfmckaaGreatDoor.Hand
