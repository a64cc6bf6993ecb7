/- Own texts and printed words of the kit, put together and trimmed by a program of mine (merge.py). -/
import Derived.Test.YtkmhilhfmfmckaaGreatDoorH18
namespace Go.Proofs.YtkmhilhfmfmckaaGreatDoor.Hand
set_option linter.unusedSimpArgs false
set_option linter.unusedVariables false
open Go.Shelf Go.RowKit Go.Proofs.YtkmhilhfmfmckaaGreatDoorW.PrintWords Go.Proofs.YtkmhilhfmfmckaaGreatDoorW.PrintLast Go.Proofs.YtkmhilhfmfmckaaGreatDoorW.PrintMore
theorem StIs.allb {w : World} {D : Nat → Prop} {s0 : Nat} {s : St} (h : StIs w D s0 s) : ∀ b ∈ s.now, allB b := fun b hb => by
  obtain ⟨j, hj, e⟩ := List.getElem_of_mem hb
  have := (h.blk j hj).2
  rw [List.getD_eq_getElem?_getD, List.getElem?_eq_getElem hj, Option.getD_some, e] at this
  exact this
theorem resC_ok (r : Ino) (A : Option Addr) (n c : Nat) (x : Int) : (resC r (.slice A n c) x).length = 15 ∧ (resC r (.slice A n c) x).toArray.all (·.oneCell') = true := by
  unfold resC
  split
  · exact ⟨rfl, by have := Ino_one r A n c; simpa using this⟩
  · exact ⟨rfl, inoZ_one⟩
theorem aset_calls {D : Nat → Prop} {s0 : Nat} {s t : St} {r r' : Ino} {code : Int} (A : Option Addr) (n c : Nat) (nm : ByteArray) (Av : Option Addr) (cv : Nat) (val : List Int) (how goal : Int) (w : World) (heq : xsetR s r n nm val how goal = (t, r', code)) (h : StIs w D s0 s)
    (hv : Kd.C (Kd.int .u8) w Av val.length val) (hvn : Av = none → cv = 0) (hvb : allB val) (hvD : ∀ ad, Av = some ad → ¬ D ad.block) (hh : s.hist.length ≤ 900000) (hT : Tab w) (hTD : ¬ D 2) (hg0 : -4611686018427387904 ≤ goal) (hg1 : goal < 4611686018427387904) :
    Calls Tryz.prog 18 #[.pointer (some ⟨s0, 0, none⟩), .agg (r.cells (.slice A n c)).toArray, .string nm, .slice Av val.length cv, .int .i64 how, .int .i64 goal] w (InoPost D s0 t (resC r' (.slice A n c) code) code w) := by
  have := xset_calls r A n c nm Av cv val how goal w h h.allb hv hvn hvb hvD hh hT hTD hg0 hg1
  rw [xsetI_eq, heq] at this
  exact this
theorem arem_calls {D : Nat → Prop} {s0 : Nat} {s t : St} {r r' : Ino} {code : Int} (A : Option Addr) (n c : Nat) (nm : ByteArray) (w : World) (heq : xremR s r n nm = (t, r', code)) (h : StIs w D s0 s) (hh : s.hist.length ≤ 900000) :
    Calls Tryz.prog 22 #[.pointer (some ⟨s0, 0, none⟩), .agg (r.cells (.slice A n c)).toArray, .string nm] w (InoPost D s0 t (resC r' (.slice A n c) code) code w) := by
  have := xrem_calls r A n c nm w h h.allb hh
  rw [heq] at this
  exact this
def AwI (w0 : World) (s0 : Nat) (s : St) (bx : List (Nat × TypeId × List Value)) (w : World) : Prop := ∃ D, StIs w D s0 s ∧ (∀ k, D k → w0.heap.size ≤ k) ∧ Below w0.heap.size w0 w ∧ ∀ p ∈ bx, Strc w p.1 p.2.1 p.2.2 ∧ ¬ D p.1
theorem AwI.below {w0 w w1 : World} {s0 : Nat} {s : St} {bx : List (Nat × TypeId × List Value)} (h : AwI w0 s0 s bx w) (hb : Below w.heap.size w w1) : AwI w0 s0 s bx w1 := by
  obtain ⟨D, h1, h2, h3, h4⟩ := h
  exact ⟨D, h1.below hb, h2, below_then h3 h3.size hb, fun p hp => ⟨(h4 p hp).1.below hb, (h4 p hp).2⟩⟩
theorem AwI.push {w0 w : World} {s0 : Nat} {s : St} {bx : List (Nat × TypeId × List Value)} (h : AwI w0 s0 s bx w) (t : TypeId) (cs : List Value) : AwI w0 s0 s ((w.heap.size, t, cs) :: bx) (w.alloc (.cells cs.toArray t)) := by
  obtain ⟨D, h1, h2, h3, h4⟩ := h.below (below_alloc (Below.refl _ _) (.cells cs.toArray t))
  obtain ⟨D', h1', _, _, h4'⟩ := h
  refine ⟨D', h1'.below (below_alloc (Below.refl _ _) _), by assumption, h3, fun p hp => ?_⟩
  rcases List.mem_cons.1 hp with rfl | hp
  · exact ⟨alloc_last w _, fun hd => Nat.lt_irrefl _ (h1'.sub _ hd)⟩
  · exact ⟨(h4' p hp).1.below (below_alloc (Below.refl _ _) _), (h4' p hp).2⟩
theorem AwI.put {w0 w : World} {s0 q : Nat} {s : St} {bx : List (Nat × TypeId × List Value)} {t : TypeId} {cs : List Value} (cs' : List Value) (h : AwI w0 s0 s ((q, t, cs) :: bx) w) (hq : w0.heap.size ≤ q) (hne : ∀ p ∈ bx, p.1 ≠ q) : AwI w0 s0 s ((q, t, cs') :: bx) (w.setRow q cs'.toArray) := by
  obtain ⟨D, h1, h2, h3, h4⟩ := h
  have hs := h4 (q, t, cs) (List.mem_cons_self ..)
  have hm := mod_setRow w q cs'.toArray
  refine ⟨D, h1.mod hm (fun k hk e => hs.2 (e ▸ hk)), h2, h3.trans ⟨hm.os, hm.tape, hm.output, hm.size, fun k hk => hm.block k (Nat.lt_of_lt_of_le hk h3.size) (by omega)⟩, fun p hp => ?_⟩
  rcases List.mem_cons.1 hp with rfl | hp
  · exact ⟨setRow_heap w q _ cs'.toArray t (0, 0) hs.1, hs.2⟩
  · exact ⟨(h4 p (List.mem_cons_of_mem _ hp)).1.mod hm (hne p hp), (h4 p (List.mem_cons_of_mem _ hp)).2⟩
theorem AwI.get {w0 w : World} {s0 : Nat} {s : St} {bx : List (Nat × TypeId × List Value)} (h : AwI w0 s0 s bx w) {p : Nat × TypeId × List Value} (hp : p ∈ bx) : Strc w p.1 p.2.1 p.2.2 := h.elim fun D h => (h.2.2.2 p hp).1
theorem AwI.ge {w0 w : World} {s0 : Nat} {s : St} {bx : List (Nat × TypeId × List Value)} (h : AwI w0 s0 s bx w) : w0.heap.size ≤ w.heap.size := h.elim fun D h => h.2.2.1.size
theorem AwI.post {w0 w w' : World} {s0 : Nat} {t : St} {bx : List (Nat × TypeId × List Value)} {D D' : Nat → Prop} (h2 : ∀ k, D k → w0.heap.size ≤ k) (h3 : Below w0.heap.size w0 w) (h4 : ∀ p ∈ bx, Strc w p.1 p.2.1 p.2.2 ∧ ¬ D p.1) (g1 : StIs w' D' s0 t) (g2 : ∀ k, D' k → D k ∨ w.heap.size ≤ k) (g3 : Mod w w' D) : AwI w0 s0 t bx w' :=
  ⟨D', g1, fun k hk => (g2 k hk).elim (h2 k) (fun h => Nat.le_trans h3.size h), h3.trans ⟨g3.os, g3.tape, g3.output, g3.size, fun k hk => g3.block k (Nat.lt_of_lt_of_le hk h3.size) (fun h => by have := h2 k h; omega)⟩, fun p hp => ⟨(h4 p hp).1.mod g3 (h4 p hp).2, fun hd => (g2 _ hd).elim (h4 p hp).2 (fun h => by have := (h4 p hp).1.lt; omega)⟩⟩
def AwPost (w0 : World) (s0 : Nat) (t : St) (bx : List (Nat × TypeId × List Value)) (cs : List Value) (code : Int) (e : Ending) (w' : World) : Prop := e = .returned (.tuple #[.agg cs.toArray, .int .i64 code]) ∧ AwI w0 s0 t bx w'
theorem strc_reads {w : World} {q : Nat} {val : List Int} (h : Strc w q 5 (nums .u8 val)) (hl : val.length ≤ 1000) : Kd.C (Kd.int .u8) w (some ⟨q, 0, none⟩) val.length val := Row.reads ⟨[], by rw [List.append_nil]; exact h⟩ (by omega)
theorem AwI.set {w0 w : World} {s0 : Nat} {s t : St} {bx : List (Nat × TypeId × List Value)} {r r' : Ino} {code : Int} (h : AwI w0 s0 s bx w) (A : Option Addr) (n c : Nat) (nm : ByteArray) (Av : Option Addr) (cv : Nat) (val : List Int) (how goal : Int) (heq : xsetR s r n nm val how goal = (t, r', code)) (hT : Tab w0) (h2 : 2 < w0.heap.size)
    (hv : (val = [] ∧ Av = none ∧ cv = 0) ∨ ∃ q, Av = some ⟨q, 0, none⟩ ∧ (q, 5, nums .u8 val) ∈ bx) (hvb : allB val) (hl : val.length ≤ 1000) (hh : s.hist.length ≤ 900000) (hg0 : -4611686018427387904 ≤ goal) (hg1 : goal < 4611686018427387904) :
    Calls Tryz.prog 18 #[.pointer (some ⟨s0, 0, none⟩), .agg (r.cells (.slice A n c)).toArray, .string nm, .slice Av val.length cv, .int .i64 how, .int .i64 goal] w (AwPost w0 s0 t bx (resC r' (.slice A n c) code) code) := by
  obtain ⟨D, h1, hD, h3, h4⟩ := h
  have hTw : Tab w := hT.below h3
  have hd2 : ¬ D 2 := fun hd => by have := hD 2 hd; omega
  have key : Kd.C (Kd.int .u8) w Av val.length val ∧ (Av = none → cv = 0) ∧ ∀ ad, Av = some ad → ¬ D ad.block := by
    rcases hv with ⟨rfl, rfl, rfl⟩ | ⟨q, rfl, hq⟩
    · exact ⟨C_int_nil _ _ _, fun _ => rfl, fun ad h => nomatch h⟩
    · exact ⟨strc_reads (h4 _ hq).1 hl, (fun h => nomatch h), fun ad h => by cases h; exact (h4 _ hq).2⟩
  refine (aset_calls A n c nm Av cv val how goal w heq h1 key.1 key.2.1 hvb key.2.2 hh hTw hd2 hg0 hg1).mono ?_
  rintro e w' ⟨D', he, g1, g2, g3⟩
  exact ⟨he, AwI.post hD h3 h4 g1 g2 g3⟩
theorem AwI.rem {w0 w : World} {s0 : Nat} {s t : St} {bx : List (Nat × TypeId × List Value)} {r r' : Ino} {code : Int} (h : AwI w0 s0 s bx w) (A : Option Addr) (n c : Nat) (nm : ByteArray) (heq : xremR s r n nm = (t, r', code)) (hh : s.hist.length ≤ 900000) :
    Calls Tryz.prog 22 #[.pointer (some ⟨s0, 0, none⟩), .agg (r.cells (.slice A n c)).toArray, .string nm] w (AwPost w0 s0 t bx (resC r' (.slice A n c) code) code) := by
  obtain ⟨D, h1, hD, h3, h4⟩ := h
  refine (arem_calls A n c nm w heq h1 hh).mono ?_
  rintro e w' ⟨D', he, g1, g2, g3⟩
  exact ⟨he, AwI.post hD h3 h4 g1 g2 g3⟩
def AwList (w0 : World) (s0 : Nat) (s : St) (bx : List (Nat × TypeId × List Value)) (e : Ending) (w' : World) : Prop := ∃ g c h c' cur cur2, e = .returned (.tuple #[.slice (some ⟨g, 0, none⟩) 2 c, .int .i64 0]) ∧ AwI w0 s0 s ((g, 72, cur) :: (h, 5, cur2) :: bx) w' ∧ cur[0]? = some (.string exA) ∧ cur[1]? = some (.slice (some ⟨h, 0, none⟩) 1 c') ∧ cur2[0]? = some (.int .u8 2)
theorem AwI.list {w0 w : World} {s0 : Nat} {s : St} {bx : List (Nat × TypeId × List Value)} {r : Ino} (h : AwI w0 s0 s bx w) (A : Option Addr) (n c : Nat) (heq : xlistI s.now r n = ([exa, exb], 0)) :
    Calls Tryz.prog 26 #[.pointer (some ⟨s0, 0, none⟩), .agg (r.cells (.slice A n c)).toArray] w (AwList w0 s0 s bx) := by
  obtain ⟨D, h1, hD, h3, h4⟩ := h
  have := xlist_calls r A n c w h1
  rw [heq] at this
  refine this.mono ?_
  rintro e w' ⟨D', v, b, he, ⟨vs, hv, hrow, hvals⟩, hDb, hb, g1, g2, g3⟩
  obtain ⟨D2, i1, i2, i3, i4⟩ := AwI.post hD h3 h4 g1 g2 g3
  have h0 := hvals 0 (by simp)
  have hvl : vs.length = 2 := hv
  rcases hrow.2 with ⟨_, h0'⟩ | ⟨g, cp, cur, rfl, hbg, hh, _, _, hsz, htk⟩
  · simp at h0'
  · have hv0 : vs.getD 0 undef = vs[0]'(by omega) := by rw [List.getD_eq_getElem?_getD, List.getElem?_eq_getElem (by omega)]; rfl
    obtain ⟨hown, hab⟩ := h0
    have e0 : (attAt [exa, exb] 0).val = [2] := rfl
    rw [e0] at hown
    rcases hown.2 with ⟨_, h1'⟩ | ⟨gv, cv, curv, ev, hbv, hhv, _, _, hszv, htv⟩
    · simp at h1'
    · have hc := acells_at [exa, exb] vs 0 (by simp) hv
      have hlt : ∀ j u, (acells [exa, exb] vs)[j]? = some u → cur.toList[j]? = some u := fun j u hj => by
        rw [← htk, List.getElem?_take] at hj
        split at hj
        · exact hj
        · cases hj
      refine ⟨g, cp, gv, cv, cur.toList, curv.toList, he, ⟨D', g1, fun k hk => (g2 k hk).elim (hD k) (fun h => Nat.le_trans h3.size h), i3, ?_⟩, hlt 0 _ hc.1, ?_, ?_⟩
      · intro p hp
        rcases List.mem_cons.1 hp with rfl | hp
        · exact ⟨by simpa [Strc] using hh, fun hd => by have := hDb g hd; omega⟩
        · rcases List.mem_cons.1 hp with rfl | hp
          · exact ⟨by simpa [Strc] using hhv, fun hd => by have := hDb gv hd; omega⟩
          · exact ⟨(h4 p hp).1.mod g3 (h4 p hp).2, fun hd => (g2 _ hd).elim (h4 p hp).2 (fun h => by have := (h4 p hp).1.lt; omega)⟩
      · have := hlt 1 _ hc.2
        rw [ev] at this
        exact this
      · have : curv.toList.take (1 * 1) = [.int .u8 2] := htv
        have h0 : (curv.toList.take (1 * 1))[0]? = some (.int .u8 2) := by rw [this]; rfl
        rw [List.getElem?_take] at h0
        simpa using h0
theorem AwI.sub {w0 w : World} {s0 : Nat} {s : St} {bx bx' : List (Nat × TypeId × List Value)} (h : AwI w0 s0 s bx w) (hs : ∀ p ∈ bx', p ∈ bx) : AwI w0 s0 s bx' w := by
  obtain ⟨D, h1, h2, h3, h4⟩ := h
  exact ⟨D, h1, h2, h3, fun p hp => h4 p (hs p hp)⟩
theorem AwI.lt {w0 w : World} {s0 : Nat} {s : St} {bx : List (Nat × TypeId × List Value)} (h : AwI w0 s0 s bx w) {p : Nat × TypeId × List Value} (hp : p ∈ bx) : p.1 < w.heap.size := (h.get hp).lt
theorem AwI.made {w0 w : World} {s0 : Nat} {s : St} {bx : List (Nat × TypeId × List Value)} (h : AwI w0 s0 s bx w) (t : TypeId) (cs cs' : List Value) : AwI w0 s0 s ((w.heap.size, t, cs') :: bx) ((w.alloc (.cells cs.toArray t)).setRow w.heap.size cs'.toArray) :=
  (h.push t cs).put cs' h.ge (fun p hp e => by have := h.lt hp; omega)
set_option maxHeartbeats 8000000 in
set_option maxRecDepth 100000 in
theorem awake_calls (w : World) (hT : Tab w) : Calls Tryz.prog 9 #[] w fun e w' => e = .returned (.bool true) ∧ Below w.heap.size w w' := by
  have h2w : 2 < w.heap.size := World.block_lt_of_cell? w _ (hT 0 (by omega))
  have HT := Aside0.mk (And.intro hT h2w)
  obtain ⟨s1, s2, s3, s4, x1, x2, x3, x4, x5, x6, x7, y1, y2, y3⟩ := exAll
  have HX := Aside0.mk (And.intro x1 (And.intro x2 (And.intro x3 (And.intro x4 (And.intro x5 (And.intro x6 x7))))))
  have HY := Aside0.mk (And.intro y1 (And.intro y2 y3))
  clear hT h2w x1 x2 x3 x4 x5 x6 x7 y1 y2 y3
  go_enter Tryz.func9, Tryz.ntmps9
  go_wp2_with fail
  with_reducible refine (both_calls w).mono ?_
  rintro e w1 ⟨s0, q, D, rfl, hst, hD, hb⟩
  have HA1 := Aside0.mk (show AwI w s0 exS [] w1 from ⟨D, hst, hD, hb, fun p hp => nomatch hp⟩)
  clear hst hD hb
  dsimp only
  go_upto_region 2 with fail
  refine wp_region_lit ?_
  refine wpList_plain rfl fun K hK => ?_
  unfold Oper.wp execOp
  go_simp
  refine hK _ _ ?_
  clear hK K
  refine wpList_plain rfl fun K hK => ?_
  unfold Oper.wp execOp
  go_simp
  with_reducible refine (fresh_calls w1).mono ?_
  rintro e w2 ⟨g1, rfl, hb2⟩
  have HA2 := Aside0.mk (HA1.out.below hb2)
  clear hb2
  dsimp only
  refine hK _ _ ?_
  clear hK K
  refine wpList_plain rfl fun K hK => ?_
  unfold Oper.wp execOp
  go_simp
  refine hK _ _ ?_
  clear hK K
  have ha3 := HA2.out.push 5 [.int .u8 1]
  have hge := HA2.out.ge
  obtain ⟨cs1, hcs1⟩ : ∃ cs, resC exRx (.slice (some ⟨g1, 0, none⟩) 48 48) 0 = cs := ⟨_, rfl⟩
  have Hcs1 := Aside0.mk (And.intro hcs1 (by rw [← hcs1]; exact resC_ok exRx _ _ _ _ : cs1.length = 15 ∧ cs1.toArray.all (·.oneCell') = true))
  have hs : Calls Tryz.prog 18 #[.pointer (some ⟨s0, 0, none⟩), .agg (frC g1).toArray, .string ⟨#[98]⟩, .slice (some ⟨w2.heap.size, 0, none⟩) 1 1, .int .i64 0, .int .i64 0] (w2.alloc (.cells #[.int .u8 1] 5)) (AwPost w s0 s1 [(w2.heap.size, 5, [.int .u8 1])] cs1 0) := hcs1 ▸ ha3.set (some ⟨g1, 0, none⟩) 48 48 exB (some ⟨w2.heap.size, 0, none⟩) 1 [1] 0 0 HX.out.1 HT.out.1 HT.out.2 (.inr ⟨_, rfl, List.mem_cons_self ..⟩) (by decide) (by decide) (by decide) (by decide) (by decide)
  have HS := Aside0.mk hs
  clear ha3 hs hge hcs1
  generalize w2.alloc (.cells #[.int .u8 1] 5) = w3 at HS ⊢
  refine wpList_plain rfl fun K hK => ?_
  unfold Oper.wp execOp
  go_simp
  with_reducible refine HS.out.mono ?_
  rintro e w4 ⟨rfl, hax⟩
  have HA4 := Aside0.mk hax
  clear hax HS
  dsimp only
  refine hK _ _ ?_
  clear hK K
  refine wpList_plain rfl fun K hK => ?_
  unfold Oper.wp execOp
  go_simp
  refine hK _ _ ?_
  clear hK K
  refine wpList_plain rfl fun K hK => ?_
  unfold Oper.wp execOp
  go_simp
  refine hK _ _ ?_
  clear hK K
  refine wpList_plain rfl fun K hK => ?_
  unfold Oper.wp execOp
  go_simp
  refine hK _ _ ?_
  clear hK K
  refine wpList_plain rfl fun K hK => ?_
  unfold Oper.wp execOp
  go_simp
  refine hK _ _ ?_
  clear hK K
  change wpList _ _ _ _ _ (w4.alloc (.cells inoZ.toArray 47))
  have hsx : Strc (w4.alloc (.cells inoZ.toArray 47)) w4.heap.size 47 inoZ := alloc_last w4 _
  have hax := HA4.out.made 47 inoZ cs1
  refine wpList_store_row rfl 47 _ _ rfl w4.heap.size cs1.toArray rfl rfl 47 _ hsx (infIno (Hcs1.out.2.1)) (by first | rfl | (rw [List.size_toArray, List.size_toArray, Hcs1.out.2.1]; rfl)) Hcs1.out.2.2 ?_
  generalize World.setRow (w4.alloc (.cells inoZ.toArray 47)) w4.heap.size cs1.toArray = w5 at hax ⊢
  obtain ⟨qa, hqa⟩ : ∃ q, w4.heap.size = q := ⟨_, rfl⟩
  rw [hqa] at hax ⊢
  have HA5 := Aside0.mk hax
  clear hax hsx hqa
  refine wpList_plain rfl fun K hK => ?_
  unfold Oper.wp execOp
  go_simp
  refine hK _ _ ?_
  clear hK K
  go_upto_region 3 with fail
  refine wp_region_lit ?_
  refine wpList_plain rfl fun K hK => ?_
  unfold Oper.wp execOp
  go_simp
  refine hK _ _ ?_
  clear hK K
  refine wpList_load_row rfl 47 _ rfl qa rfl 47 cs1.toArray (0, 0) _ (HA5.out.get (p := (qa, 47, cs1)) (List.mem_cons_self ..)) Tryz.underlying47 rfl (infIno (Hcs1.out.2.1)) ?_
  refine wpList_plain rfl fun K hK => ?_
  unfold Oper.wp execOp
  go_simp
  refine hK _ _ ?_
  clear hK K
  have ha6 := (HA5.out.sub (bx' := [(qa, 47, cs1)]) (fun p hp => by simp at hp; subst hp; exact List.mem_cons_self ..)).push 5 [.int .u8 2]
  have hs : Calls Tryz.prog 18 #[.pointer (some ⟨s0, 0, none⟩), .agg cs1.toArray, .string ⟨#[97]⟩, .slice (some ⟨w5.heap.size, 0, none⟩) 1 1, .int .i64 0, .int .i64 0] (w5.alloc (.cells #[.int .u8 2] 5)) (AwPost w s0 s2 ((w5.heap.size, 5, [.int .u8 2]) :: [(qa, 47, cs1)]) cs1 0) := by
    have := ha6.set (r := exRx) (some ⟨g1, 0, none⟩) 48 48 exA (some ⟨w5.heap.size, 0, none⟩) 1 [2] 0 0 HX.out.2.1 HT.out.1 HT.out.2 (.inr ⟨_, rfl, List.mem_cons_self ..⟩) (by decide) (by decide) (by have := HY.out.1; omega) (by decide) (by decide)
    rw [Hcs1.out.1, show exRx.cells (.slice (some ⟨g1, 0, none⟩) 48 48) = cs1 from Hcs1.out.1] at this
    exact this
  have HS := Aside0.mk hs
  clear ha6 hs
  generalize w5.alloc (.cells #[.int .u8 2] 5) = w6 at HS ⊢
  refine wpList_plain rfl fun K hK => ?_
  unfold Oper.wp execOp
  go_simp
  with_reducible refine HS.out.mono ?_
  rintro e w7 ⟨rfl, hax⟩
  have HA7 := Aside0.mk hax
  clear hax HS
  dsimp only
  refine hK _ _ ?_
  clear hK K
  refine wpList_plain rfl fun K hK => ?_
  unfold Oper.wp execOp
  go_simp
  refine hK _ _ ?_
  clear hK K
  refine wpList_plain rfl fun K hK => ?_
  unfold Oper.wp execOp
  go_simp
  refine hK _ _ ?_
  clear hK K
  refine wpList_plain rfl fun K hK => ?_
  unfold Oper.wp execOp
  go_simp
  refine hK _ _ ?_
  clear hK K
  refine wpList_plain rfl fun K hK => ?_
  unfold Oper.wp execOp
  go_simp
  refine hK _ _ ?_
  clear hK K
  change wpList _ _ _ _ _ (w7.alloc (.cells inoZ.toArray 47))
  have hsx : Strc (w7.alloc (.cells inoZ.toArray 47)) w7.heap.size 47 inoZ := alloc_last w7 _
  have hax := HA7.out.made 47 inoZ cs1
  refine wpList_store_row rfl 47 _ _ rfl w7.heap.size cs1.toArray rfl rfl 47 _ hsx (infIno (Hcs1.out.2.1)) (by first | rfl | (rw [List.size_toArray, List.size_toArray, Hcs1.out.2.1]; rfl)) Hcs1.out.2.2 ?_
  generalize World.setRow (w7.alloc (.cells inoZ.toArray 47)) w7.heap.size cs1.toArray = w8 at hax ⊢
  obtain ⟨qb, hqb⟩ : ∃ q, w7.heap.size = q := ⟨_, rfl⟩
  rw [hqb] at hax ⊢
  have HA8 := Aside0.mk hax
  clear hax hsx hqb
  refine wpList_plain rfl fun K hK => ?_
  unfold Oper.wp execOp
  go_simp
  refine hK _ _ ?_
  clear hK K
  go_upto_region 4 with fail
  refine wp_region_lit ?_
  refine wpList_plain rfl fun K hK => ?_
  unfold Oper.wp execOp
  go_simp
  refine hK _ _ ?_
  clear hK K
  refine wpList_load_row rfl 47 _ rfl qb rfl 47 cs1.toArray (0, 0) _ (HA8.out.get (p := (qb, 47, cs1)) (List.mem_cons_self ..)) Tryz.underlying47 rfl (infIno (Hcs1.out.2.1)) ?_
  have hl : Calls Tryz.prog 26 #[.pointer (some ⟨s0, 0, none⟩), .agg cs1.toArray] w8 (AwList w s0 s2 [(qb, 47, cs1)]) := by
    have := (HA8.out.sub (bx' := [(qb, 47, cs1)]) (fun p hp => by simp at hp; subst hp; exact List.mem_cons_self ..)).list (r := exRx) (some ⟨g1, 0, none⟩) 48 48 HX.out.2.2.1
    rw [show exRx.cells (.slice (some ⟨g1, 0, none⟩) 48 48) = cs1 from Hcs1.out.1] at this
    exact this
  have HS := Aside0.mk hl
  clear hl
  refine wpList_plain rfl fun K hK => ?_
  unfold Oper.wp execOp
  go_simp
  with_reducible refine HS.out.mono ?_
  rintro e w9 ⟨g, c, h, c', cur, cur2, rfl, hax, k0, k1, k2⟩
  have HA9 := Aside0.mk hax
  have HKK := Aside0.mk (And.intro k0 (And.intro k1 k2))
  clear hax HS k0 k1 k2
  dsimp only
  refine hK _ _ ?_
  clear hK K
  refine wpList_plain rfl fun K hK => ?_
  unfold Oper.wp execOp
  go_simp
  refine hK _ _ ?_
  clear hK K
  refine wpList_plain rfl fun K hK => ?_
  unfold Oper.wp execOp
  go_simp
  refine hK _ _ ?_
  clear hK K
  refine wpList_plain rfl fun K hK => ?_
  unfold Oper.wp execOp
  go_simp
  refine hK _ _ ?_
  clear hK K
  refine wpList_plain rfl fun K hK => ?_
  unfold Oper.wp execOp
  go_simp
  refine hK _ _ ?_
  clear hK K
  refine wpList_plain rfl fun K hK => ?_
  unfold Oper.wp execOp
  go_simp
  refine hK _ _ ?_
  clear hK K
  have HinoZ := Aside0.mk (And.intro (rfl : inoZ = inoZ) (show inoZ.length = 15 ∧ inoZ.toArray.all (·.oneCell') = true from ⟨rfl, inoZ_one⟩))
  go_upto_region 5 with fail
  refine wp_region_lit ?_
  refine wpList_plain rfl fun K hK => ?_
  unfold Oper.wp execOp
  go_simp
  refine hK _ _ ?_
  clear hK K
  refine wpList_load_row rfl 47 _ rfl qb rfl 47 cs1.toArray (0, 0) _ (HA9.out.get (p := (qb, 47, cs1)) (by simp)) Tryz.underlying47 rfl (infIno (Hcs1.out.2.1)) ?_
  have hs : Calls Tryz.prog 18 #[.pointer (some ⟨s0, 0, none⟩), .agg cs1.toArray, .string ⟨#[97]⟩, .slice none 0 0, .int .i64 1, .int .i64 0] w9 (AwPost w s0 s2 [(g, 72, cur), (h, 5, cur2), (qb, 47, cs1)] inoZ 17) := by
    have := HA9.out.set (r := exRx) (some ⟨g1, 0, none⟩) 48 48 exA none 0 [] 1 0 HX.out.2.2.2.1 HT.out.1 HT.out.2 (.inl ⟨rfl, rfl, rfl⟩) (by decide) (by decide) (by have := HY.out.2.1; omega) (by decide) (by decide)
    rw [show exRx.cells (.slice (some ⟨g1, 0, none⟩) 48 48) = cs1 from Hcs1.out.1] at this
    exact this
  have HS := Aside0.mk hs
  clear hs
  refine wpList_plain rfl fun K hK => ?_
  unfold Oper.wp execOp
  go_simp
  with_reducible refine HS.out.mono ?_
  rintro e w10 ⟨rfl, hax⟩
  have HA10 := Aside0.mk hax
  clear hax HS
  dsimp only
  refine hK _ _ ?_
  clear hK K
  refine wpList_plain rfl fun K hK => ?_
  unfold Oper.wp execOp
  go_simp
  refine hK _ _ ?_
  clear hK K
  refine wpList_plain rfl fun K hK => ?_
  unfold Oper.wp execOp
  go_simp
  refine hK _ _ ?_
  clear hK K
  refine wpList_plain rfl fun K hK => ?_
  unfold Oper.wp execOp
  go_simp
  refine hK _ _ ?_
  clear hK K
  refine wpList_plain rfl fun K hK => ?_
  unfold Oper.wp execOp
  go_simp
  refine hK _ _ ?_
  clear hK K
  change wpList _ _ _ _ _ (w10.alloc (.cells inoZ.toArray 47))
  have hsx : Strc (w10.alloc (.cells inoZ.toArray 47)) w10.heap.size 47 inoZ := alloc_last w10 _
  have hax := HA10.out.made 47 inoZ inoZ
  refine wpList_store_row rfl 47 _ _ rfl w10.heap.size inoZ.toArray rfl rfl 47 _ hsx (infIno (HinoZ.out.2.1)) (by first | rfl | (rw [List.size_toArray, List.size_toArray, HinoZ.out.2.1]; rfl)) HinoZ.out.2.2 ?_
  generalize World.setRow (w10.alloc (.cells inoZ.toArray 47)) w10.heap.size inoZ.toArray = w11 at hax ⊢
  obtain ⟨qc, hqc⟩ : ∃ q, w10.heap.size = q := ⟨_, rfl⟩
  rw [hqc] at hax ⊢
  have HA11 := Aside0.mk hax
  clear hax hsx hqc
  refine wpList_plain rfl fun K hK => ?_
  unfold Oper.wp execOp
  go_simp
  refine hK _ _ ?_
  clear hK K
  have HA11 := Aside0.mk (HA11.out.sub (bx' := [(g, 72, cur), (h, 5, cur2), (qb, 47, cs1)]) (fun p hp => List.mem_cons_of_mem _ hp))
  go_upto_region 6 with fail
  refine wp_region_lit ?_
  refine wpList_plain rfl fun K hK => ?_
  unfold Oper.wp execOp
  go_simp
  refine hK _ _ ?_
  clear hK K
  refine wpList_load_row rfl 47 _ rfl qb rfl 47 cs1.toArray (0, 0) _ (HA11.out.get (p := (qb, 47, cs1)) (by simp)) Tryz.underlying47 rfl (infIno (Hcs1.out.2.1)) ?_
  have hs : Calls Tryz.prog 18 #[.pointer (some ⟨s0, 0, none⟩), .agg cs1.toArray, .string ⟨#[99]⟩, .slice none 0 0, .int .i64 2, .int .i64 0] w11 (AwPost w s0 s2 [(g, 72, cur), (h, 5, cur2), (qb, 47, cs1)] inoZ 61) := by
    have := HA11.out.set (r := exRx) (some ⟨g1, 0, none⟩) 48 48 exC none 0 [] 2 0 HX.out.2.2.2.2.1 HT.out.1 HT.out.2 (.inl ⟨rfl, rfl, rfl⟩) (by decide) (by decide) (by have := HY.out.2.1; omega) (by decide) (by decide)
    rw [show exRx.cells (.slice (some ⟨g1, 0, none⟩) 48 48) = cs1 from Hcs1.out.1] at this
    exact this
  have HS := Aside0.mk hs
  clear hs
  refine wpList_plain rfl fun K hK => ?_
  unfold Oper.wp execOp
  go_simp
  with_reducible refine HS.out.mono ?_
  rintro e w12 ⟨rfl, hax⟩
  have HA12 := Aside0.mk hax
  clear hax HS
  dsimp only
  refine hK _ _ ?_
  clear hK K
  refine wpList_plain rfl fun K hK => ?_
  unfold Oper.wp execOp
  go_simp
  refine hK _ _ ?_
  clear hK K
  refine wpList_plain rfl fun K hK => ?_
  unfold Oper.wp execOp
  go_simp
  refine hK _ _ ?_
  clear hK K
  refine wpList_plain rfl fun K hK => ?_
  unfold Oper.wp execOp
  go_simp
  refine hK _ _ ?_
  clear hK K
  refine wpList_plain rfl fun K hK => ?_
  unfold Oper.wp execOp
  go_simp
  refine hK _ _ ?_
  clear hK K
  change wpList _ _ _ _ _ (w12.alloc (.cells inoZ.toArray 47))
  have hsx : Strc (w12.alloc (.cells inoZ.toArray 47)) w12.heap.size 47 inoZ := alloc_last w12 _
  have hax := HA12.out.made 47 inoZ inoZ
  refine wpList_store_row rfl 47 _ _ rfl w12.heap.size inoZ.toArray rfl rfl 47 _ hsx (infIno (HinoZ.out.2.1)) (by first | rfl | (rw [List.size_toArray, List.size_toArray, HinoZ.out.2.1]; rfl)) HinoZ.out.2.2 ?_
  generalize World.setRow (w12.alloc (.cells inoZ.toArray 47)) w12.heap.size inoZ.toArray = w13 at hax ⊢
  obtain ⟨qd, hqd⟩ : ∃ q, w12.heap.size = q := ⟨_, rfl⟩
  rw [hqd] at hax ⊢
  have HA13 := Aside0.mk hax
  clear hax hsx hqd
  refine wpList_plain rfl fun K hK => ?_
  unfold Oper.wp execOp
  go_simp
  refine hK _ _ ?_
  clear hK K
  have HA13 := Aside0.mk (HA13.out.sub (bx' := [(g, 72, cur), (h, 5, cur2), (qb, 47, cs1)]) (fun p hp => List.mem_cons_of_mem _ hp))
  go_upto_region 7 with fail
  refine wp_region_lit ?_
  refine wpList_plain rfl fun K hK => ?_
  unfold Oper.wp execOp
  go_simp
  refine hK _ _ ?_
  clear hK K
  refine wpList_load_row rfl 47 _ rfl qb rfl 47 cs1.toArray (0, 0) _ (HA13.out.get (p := (qb, 47, cs1)) (by simp)) Tryz.underlying47 rfl (infIno (Hcs1.out.2.1)) ?_
  have hs : Calls Tryz.prog 22 #[.pointer (some ⟨s0, 0, none⟩), .agg cs1.toArray, .string ⟨#[97]⟩] w13 (AwPost w s0 s3 [(g, 72, cur), (h, 5, cur2), (qb, 47, cs1)] cs1 0) := by
    have := HA13.out.rem (r := exRx) (some ⟨g1, 0, none⟩) 48 48 exA HX.out.2.2.2.2.2.1 (by have := HY.out.2.1; omega)
    rw [Hcs1.out.1, show exRx.cells (.slice (some ⟨g1, 0, none⟩) 48 48) = cs1 from Hcs1.out.1] at this
    exact this
  have HS := Aside0.mk hs
  clear hs
  refine wpList_plain rfl fun K hK => ?_
  unfold Oper.wp execOp
  go_simp
  with_reducible refine HS.out.mono ?_
  rintro e w14 ⟨rfl, hax⟩
  have HA14 := Aside0.mk hax
  clear hax HS
  dsimp only
  refine hK _ _ ?_
  clear hK K
  refine wpList_plain rfl fun K hK => ?_
  unfold Oper.wp execOp
  go_simp
  refine hK _ _ ?_
  clear hK K
  refine wpList_plain rfl fun K hK => ?_
  unfold Oper.wp execOp
  go_simp
  refine hK _ _ ?_
  clear hK K
  refine wpList_plain rfl fun K hK => ?_
  unfold Oper.wp execOp
  go_simp
  refine hK _ _ ?_
  clear hK K
  refine wpList_plain rfl fun K hK => ?_
  unfold Oper.wp execOp
  go_simp
  refine hK _ _ ?_
  clear hK K
  change wpList _ _ _ _ _ (w14.alloc (.cells inoZ.toArray 47))
  have hsx : Strc (w14.alloc (.cells inoZ.toArray 47)) w14.heap.size 47 inoZ := alloc_last w14 _
  have hax := HA14.out.made 47 inoZ cs1
  refine wpList_store_row rfl 47 _ _ rfl w14.heap.size cs1.toArray rfl rfl 47 _ hsx (infIno (Hcs1.out.2.1)) (by first | rfl | (rw [List.size_toArray, List.size_toArray, Hcs1.out.2.1]; rfl)) Hcs1.out.2.2 ?_
  generalize World.setRow (w14.alloc (.cells inoZ.toArray 47)) w14.heap.size cs1.toArray = w15 at hax ⊢
  obtain ⟨qe, hqe⟩ : ∃ q, w14.heap.size = q := ⟨_, rfl⟩
  rw [hqe] at hax ⊢
  have HA15 := Aside0.mk hax
  clear hax hsx hqe
  refine wpList_plain rfl fun K hK => ?_
  unfold Oper.wp execOp
  go_simp
  refine hK _ _ ?_
  clear hK K
  obtain ⟨cs4, hcs4⟩ : ∃ cs, resC exR (.slice (some ⟨g1, 0, none⟩) 48 48) 0 = cs := ⟨_, rfl⟩
  have Hcs4 := Aside0.mk (And.intro hcs4 (by rw [← hcs4]; exact resC_ok exR _ _ _ _ : cs4.length = 15 ∧ cs4.toArray.all (·.oneCell') = true))
  clear hcs4
  go_upto_region 8 with fail
  refine wp_region_lit ?_
  refine wpList_plain rfl fun K hK => ?_
  unfold Oper.wp execOp
  go_simp
  refine hK _ _ ?_
  clear hK K
  refine wpList_load_row rfl 47 _ rfl qe rfl 47 cs1.toArray (0, 0) _ (HA15.out.get (p := (qe, 47, cs1)) (by simp)) Tryz.underlying47 rfl (infIno (Hcs1.out.2.1)) ?_
  have hs : Calls Tryz.prog 22 #[.pointer (some ⟨s0, 0, none⟩), .agg cs1.toArray, .string ⟨#[98]⟩] w15 (AwPost w s0 s4 ((qe, 47, cs1) :: [(g, 72, cur), (h, 5, cur2), (qb, 47, cs1)]) cs4 0) := by
    have := HA15.out.rem (r := exRx) (some ⟨g1, 0, none⟩) 48 48 exB HX.out.2.2.2.2.2.2 (by have := HY.out.2.2; omega)
    rw [Hcs4.out.1, show exRx.cells (.slice (some ⟨g1, 0, none⟩) 48 48) = cs1 from Hcs1.out.1] at this
    exact this
  have HS := Aside0.mk hs
  clear hs
  refine wpList_plain rfl fun K hK => ?_
  unfold Oper.wp execOp
  go_simp
  with_reducible refine HS.out.mono ?_
  rintro e w16 ⟨rfl, hax⟩
  have HA16 := Aside0.mk hax
  clear hax HS
  dsimp only
  refine hK _ _ ?_
  clear hK K
  refine wpList_plain rfl fun K hK => ?_
  unfold Oper.wp execOp
  go_simp
  refine hK _ _ ?_
  clear hK K
  refine wpList_plain rfl fun K hK => ?_
  unfold Oper.wp execOp
  go_simp
  refine hK _ _ ?_
  clear hK K
  refine wpList_plain rfl fun K hK => ?_
  unfold Oper.wp execOp
  go_simp
  refine hK _ _ ?_
  clear hK K
  refine wpList_plain rfl fun K hK => ?_
  unfold Oper.wp execOp
  go_simp
  refine hK _ _ ?_
  clear hK K
  change wpList _ _ _ _ _ (w16.alloc (.cells inoZ.toArray 47))
  have hsx : Strc (w16.alloc (.cells inoZ.toArray 47)) w16.heap.size 47 inoZ := alloc_last w16 _
  have hax := HA16.out.made 47 inoZ cs4
  refine wpList_store_row rfl 47 _ _ rfl w16.heap.size cs4.toArray rfl rfl 47 _ hsx (infIno (Hcs4.out.2.1)) (by first | rfl | (rw [List.size_toArray, List.size_toArray, Hcs4.out.2.1]; rfl)) Hcs4.out.2.2 ?_
  generalize World.setRow (w16.alloc (.cells inoZ.toArray 47)) w16.heap.size cs4.toArray = w17 at hax ⊢
  obtain ⟨qf, hqf⟩ : ∃ q, w16.heap.size = q := ⟨_, rfl⟩
  rw [hqf] at hax ⊢
  have HA17 := Aside0.mk hax
  clear hax hsx hqf
  refine wpList_plain rfl fun K hK => ?_
  unfold Oper.wp execOp
  go_simp
  refine hK _ _ ?_
  clear hK K
  have hA := HA17.out
  have f0 := (hA.get (p := (g, 72, cur)) (by simp)).cell 0 _ HKK.out.1
  have f1 := (hA.get (p := (g, 72, cur)) (by simp)).cell 1 _ HKK.out.2.1
  have f2 := (hA.get (p := (h, 5, cur2)) (by simp)).cell 0 _ HKK.out.2.2
  have f3 := (hA.get (p := (qf, 47, cs4)) (by simp)).cell 12 (.int .i64 0) (by rw [← Hcs4.out.1]; rfl)
  have f4 := (hA.get (p := (qf, 47, cs4)) (by simp)).cell 6 (.int .i64 0) (by rw [← Hcs4.out.1]; rfl)
  have HB := Aside0.mk (hA.elim fun D h => h.2.2.1)
  unfold exA at f0
  clear hA
  go_wp2
  go_ret
  exact ⟨rfl, HB.out⟩
end Go.Proofs.YtkmhilhfmfmckaaGreatDoor.Hand
namespace Go.Proofs.YtkmhilhfmfmckaaGreatDoor.Hand
set_option linter.unusedSimpArgs false
set_option linter.unusedVariables false
set_option maxRecDepth 100000
open Go.Shelf Go.RowKit Go.Proofs.YtkmhilhfmfmckaaGreatDoorW.PrintWords Go.Proofs.YtkmhilhfmfmckaaGreatDoorW.PrintLast Go.Proofs.YtkmhilhfmfmckaaGreatDoorW.PrintMore
theorem cmpB_eq : ∀ (a b : List UInt8), Lib.compareBytes a b = 0 ↔ a = b
  | [], [] => by simp [Lib.compareBytes]
  | [], _ :: _ => by simp [Lib.compareBytes]
  | _ :: _, [] => by simp [Lib.compareBytes]
  | x :: a, y :: b => by
    rw [Lib.compareBytes]
    by_cases h1 : x < y
    · rw [if_pos h1]
      have hne : x ≠ y := fun e => by subst e; exact absurd h1 (UInt8.lt_irrefl x)
      simp [hne]
    · rw [if_neg h1]
      by_cases h2 : y < x
      · rw [if_pos h2]
        have hne : x ≠ y := fun e => by subst e; exact absurd h2 (UInt8.lt_irrefl x)
        simp [hne]
      · rw [if_neg h2, cmpB_eq a b]
        have he : x = y := UInt8.le_antisymm (UInt8.not_lt.1 h2) (UInt8.not_lt.1 h1)
        simp [he]
theorem cmpN_eq (a b : ByteArray) : cmpN a b = 0 ↔ a = b := by
  unfold cmpN
  rw [cmpB_eq]
  constructor
  · intro h
    cases a; cases b
    congr 1
    exact Array.toList_inj.1 h
  · rintro rfl; rfl
theorem seek_nil (nm : ByteArray) : seekI [] nm = (0, false) := by
  unfold seekI
  simp [bsGo]
theorem seek_one (x : Att) (nm : ByteArray) : seekI [x] nm = if cmpN x.name nm < 0 then (1, false) else (0, cmpN x.name nm == 0) := by
  unfold seekI
  have e1 : bsGo [x] nm 1 0 1 = if cmpN x.name nm < 0 then 1 else 0 := by
    rw [bsGo]
    simp only [Nat.lt_one_iff, if_true]
    show (if cmpN x.name nm < 0 then bsGo [x] nm 0 1 1 else bsGo [x] nm 0 0 0) = _
    rfl
  show (bsGo [x] nm 1 0 1, decide (bsGo [x] nm 1 0 1 < 1) && (cmpN (attAt [x] (bsGo [x] nm 1 0 1)).name nm == 0)) = _
  rw [e1]
  by_cases h : cmpN x.name nm < 0
  · rw [if_pos h, if_pos h]; simp
  · rw [if_neg h, if_neg h]; simp [attAt]
theorem seek_same (x : Att) : seekI [x] x.name = (0, true) := by
  have h0 : cmpN x.name x.name = 0 := (cmpN_eq _ _).2 rfl
  rw [seek_one, h0, if_neg (by omega)]; rfl
def setOk (nm : ByteArray) (val : List Int) : Prop := namedB nm = true ∧ ¬ 64 < val.length
def refused (nm : ByteArray) (val : List Int) : Int := if 64 < val.length then 34 else if namedB nm = false then 22 else 0
theorem attOk_head {l : List Att} (h : namedB (attAt l 0).name = true ∧ ¬ 64 < (attAt l 0).val.length) : attOk l 0 := ⟨h.1, h.2, fun h => absurd h (Nat.lt_irrefl 0)⟩
theorem pack_one {nm : ByteArray} {val : List Int} (h : setOk nm val) : (xpackI [⟨nm, val⟩] 0).2 = 0 := by
  have hok : attsOk [⟨nm, val⟩] := fun k hk => by
    obtain rfl : k = 0 := by simp at hk; omega
    exact attOk_head h
  have hn := attN_le [⟨nm, val⟩] 1 (Nat.le_refl _) (fun j hj => hok j hj)
  unfold xpackI
  rw [if_pos hok, if_neg (by have e : List.take 1 [(⟨nm, val⟩ : Att)] = [⟨nm, val⟩] := rfl; rw [e] at hn; omega)]
theorem setNo {s : St} {r : Ino} {l : List Att} {nm : ByteArray} {val : List Int} {how : Int} (hl : xlistI s.now r 48 = (l, 0)) (h : refused nm val ≠ 0) : xsetR s r 48 nm val how 0 = (s, r, refused nm val) := by
  unfold xsetR
  rw [hl]
  unfold refused at h ⊢
  rw [if_neg (by simp)]
  by_cases h1 : 64 < val.length
  · rw [if_pos h1, if_pos h1]
  · rw [if_neg h1] at h ⊢
    rw [if_neg h1]
    by_cases h2 : namedB nm = false
    · rw [if_pos h2, if_pos (.inl h2)]
    · rw [if_neg h2] at h; exact absurd rfl h
theorem setFirst {s : St} {nm : ByteArray} {val : List Int} {how : Int} (h : ExSt s exX0 exG0 exM0) (ho : setOk nm val) (hw : how = 0 ∨ how = 1) : ∃ t, xsetR s exR 48 nm val how 0 = (t, exRx, 0) ∧ ExSt t exX1 exG1 exM1 ∧ t.now.getD 108 [] = (xpackI [⟨nm, val⟩] 108).1 ∧ t.hist.length = s.hist.length + 4 := by
  obtain ⟨t, ht, hx, hl⟩ := exTake h
  refine ⟨t.write 108 (xpackI [⟨nm, val⟩] 108).1, ?_, hx.write 108 (by omega) (by omega) (by omega), ?_, ?_⟩
  · unfold xsetR
    rw [exList0]
    dsimp only
    rw [seek_nil, ht]
    rw [if_neg (by simp), if_neg ho.2, if_neg (by rw [ho.1]; rcases hw with rfl | rfl <;> simp), if_neg (by simp), if_neg (by rcases hw with rfl | rfl <;> simp)]
    show (if (xpackI [⟨nm, val⟩] 0).2 ≠ 0 then _ else _) = _
    rw [pack_one ho, if_neg (by simp), if_neg (by simp [exR]), if_neg (by simp)]
    rfl
  · exact getD_same (by rw [hx.len]; omega)
  · show (t.hist.length + 1) = _
    omega
theorem setNone {s : St} {nm : ByteArray} {val : List Int} (ho : setOk nm val) : xsetR s exR 48 nm val 2 0 = (s, exR, 61) := by
  unfold xsetR
  rw [exList0]
  dsimp only
  rw [seek_nil]
  rw [if_neg (by simp), if_neg ho.2, if_neg (by rw [ho.1]; simp), if_neg (by simp), if_pos (by simp)]
theorem setThere {s : St} {nm : ByteArray} {v0 val : List Int} (h0 : setOk nm v0) (hb : s.now.getD 108 [] = (xpackI [⟨nm, v0⟩] 108).1) (ho : setOk nm val) : xsetR s exRx 48 nm val 1 0 = (s, exRx, 17) := by
  have hl := exList (s := s) hb (pack_one h0) (by simp)
  have hs : seekI [⟨nm, v0⟩] nm = (0, true) := seek_same ⟨nm, v0⟩
  unfold xsetR
  rw [hl]
  dsimp only
  rw [hs]
  rw [if_neg (by simp), if_neg ho.2, if_neg (by rw [ho.1]; simp), if_pos (by simp)]
theorem setAgain {s : St} {nm : ByteArray} {v0 val : List Int} (h0 : setOk nm v0) (hb : s.now.getD 108 [] = (xpackI [⟨nm, v0⟩] 108).1) (ho : setOk nm val) : xsetR s exRx 48 nm val 2 0 = (s.write 108 (xpackI [⟨nm, val⟩] 108).1, exRx, 0) := by
  have hl := exList (s := s) hb (pack_one h0) (by simp)
  have hs : seekI [⟨nm, v0⟩] nm = (0, true) := seek_same ⟨nm, v0⟩
  unfold xsetR
  rw [hl]
  dsimp only
  rw [hs]
  rw [if_neg (by simp), if_neg ho.2, if_neg (by rw [ho.1]; simp), if_neg (by simp), if_neg (by simp)]
  show (if (xpackI [⟨nm, val⟩] 0).2 ≠ 0 then _ else _) = _
  rw [pack_one ho, if_neg (by simp), if_pos (by simp [exRx])]
  rfl
end Go.Proofs.YtkmhilhfmfmckaaGreatDoor.Hand
namespace Go.Proofs.YtkmhilhfmfmckaaGreatDoor.Hand
set_option linter.unusedSimpArgs false
set_option linter.unusedVariables false
open Go.Shelf Go.RowKit Go.Proofs.YtkmhilhfmfmckaaGreatDoorW.PrintWords Go.Proofs.YtkmhilhfmfmckaaGreatDoorW.PrintLast Go.Proofs.YtkmhilhfmfmckaaGreatDoorW.PrintMore
theorem AwI.setA {w0 w : World} {s0 : Nat} {s t : St} {bx : List (Nat × TypeId × List Value)} {r r' : Ino} {code : Int} (h : AwI w0 s0 s bx w) (A : Option Addr) (n c : Nat) (nm : ByteArray) (Av : Option Addr) (cv : Nat) (val : List Int) (how goal : Int) (heq : xsetR s r n nm val how goal = (t, r', code)) (hT : Tab w0) (h2 : 2 < w0.heap.size)
    (hv : Kd.C (Kd.int .u8) w0 Av val.length val) (hvn : Av = none → cv = 0) (hvD : ∀ ad, Av = some ad → ad.block < w0.heap.size) (hvb : allB val) (hh : s.hist.length ≤ 900000) (hg0 : -4611686018427387904 ≤ goal) (hg1 : goal < 4611686018427387904) :
    Calls Tryz.prog 18 #[.pointer (some ⟨s0, 0, none⟩), .agg (r.cells (.slice A n c)).toArray, .string nm, .slice Av val.length cv, .int .i64 how, .int .i64 goal] w (AwPost w0 s0 t bx (resC r' (.slice A n c) code) code) := by
  obtain ⟨D, h1, hD, h3, h4⟩ := h
  have hTw : Tab w := hT.below h3
  have hd2 : ¬ D 2 := fun hd => by have := hD 2 hd; omega
  refine (aset_calls A n c nm Av cv val how goal w heq h1 (Kd.C_below hv h3) hvn hvb (fun ad e hd => by have := hD _ hd; have := hvD ad e; omega) hh hTw hd2 hg0 hg1).mono ?_
  rintro e w' ⟨D', he, g1, g2, g3⟩
  exact ⟨he, AwI.post hD h3 h4 g1 g2 g3⟩
theorem AwI.lts {w0 w : World} {s0 : Nat} {s : St} {bx : List (Nat × TypeId × List Value)} (h : AwI w0 s0 s bx w) : ∀ p ∈ bx, p.1 < w.heap.size := fun p hp => h.lt hp
section
variable {P : Program} {ops : Array Oper} {Q : Exit → Act → World → Prop} {S : World → Prop}
theorem wpT_join {pl p : Plan} {a : Act} {w : World} (R : Nat → List Value → Nat → World → Prop) (act : Nat → List Value → Nat → Act) (paths : (∀ g cs q W, R g cs q W → wpT P ops Q S p (act g cs q) W) → wpT P ops Q S pl a w)
    (tail : ∀ g cs q W, R g cs q W → wpT P ops Q S p (act g cs q) W) : wpT P ops Q S pl a w := paths tail
end
set_option maxHeartbeats 8000000 in
set_option maxRecDepth 100000 in
theorem how_had (what how goal : Int) (nm : ByteArray) (Av : Option Addr) (cv : Nat) (val : List Int) (w : World) (hT : Tab w) (hv : Kd.C (Kd.int .u8) w Av val.length val) (hvn : Av = none → cv = 0) (hvD : ∀ ad, Av = some ad → ad.block < w.heap.size) (hvb : allB val) {s1 s2 : St} {c1 c2 : Int} (x0 : xsetR exS exR 48 nm [] 0 0 = (s1, exRx, 0)) (x1 : xsetR s1 exRx 48 nm val 1 0 = (s1, exRx, c1)) (x2 : xsetR s1 exRx 48 nm val 2 0 = (s2, exRx, c2)) (hh : s1.hist.length ≤ 1000) (hc : (c1 = 17 ∧ c2 = 0) ∨ (c1 = 34 ∧ c2 = 34)) :
    Calls Tryz.prog 6 #[.agg #[.int .i64 what, .string nm, .slice Av val.length cv, .int .i64 how, .int .i64 goal], .bool true] w fun e w' => e = .returned (.bool true) ∧ Below w.heap.size w w' := by
  have h2w : 2 < w.heap.size := World.block_lt_of_cell? w _ (hT 0 (by omega))
  have HT := Aside0.mk (And.intro hT h2w)
  have HV := Aside0.mk (And.intro hv (And.intro hvn (And.intro hvD hvb)))
  clear hT hv hvn hvD hvb h2w
  have HX := Aside0.mk (And.intro x0 (And.intro x1 x2))
  clear x0 x1 x2
  go_enter Tryz.func6, Tryz.ntmps6
  go_wp2_with fail
  have hb0 := below_alloc (Below.refl w.heap.size w) (.cells #[.int .i64 what, .string nm, .slice Av val.length cv, .int .i64 how, .int .i64 goal] 41)
  have hp0 : Strc (w.alloc (.cells #[.int .i64 what, .string nm, .slice Av val.length cv, .int .i64 how, .int .i64 goal] 41)) w.heap.size 41 [.int .i64 what, .string nm, .slice Av val.length cv, .int .i64 how, .int .i64 goal] := alloc_last w _
  generalize w.alloc (.cells #[.int .i64 what, .string nm, .slice Av val.length cv, .int .i64 how, .int .i64 goal] 41) = w0 at hb0 hp0 ⊢
  obtain ⟨ocs, hocs⟩ : ∃ l : List Value, [.int .i64 what, .string nm, .slice Av val.length cv, .int .i64 how, .int .i64 goal] = l := ⟨_, rfl⟩
  rw [hocs] at hp0
  obtain ⟨pb, hpb⟩ : ∃ q, w.heap.size = q := ⟨_, rfl⟩
  rw [hpb] at hp0 ⊢
  have HO := Aside0.mk (And.intro hocs hpb)
  have HP0 := Aside0.mk hp0
  have HB0 := Aside0.mk hb0
  clear hb0 hp0 hocs hpb
  refine (awake_calls w0 (HT.out.1.below HB0.out)).mono ?_
  rintro e w1 ⟨rfl, hb1⟩
  have HB1 := Aside0.mk (below_then HB0.out HB0.out.size hb1)
  have HP1 := Aside0.mk (HP0.out.below hb1)
  clear hb1 HP0
  dsimp only
  go_wp2_with fail
  with_reducible refine (both_calls w1).mono ?_
  rintro e w2 ⟨s0, q, D, rfl, hst, hD, hb⟩
  have HA2 := Aside0.mk (show AwI w s0 exS [(pb, 41, ocs)] w2 from ⟨D, hst, fun k hk => Nat.le_trans HB1.out.size (hD k hk), below_then HB1.out HB1.out.size hb, fun p hp => by
    obtain rfl := List.mem_singleton.1 hp
    exact ⟨HP1.out.below hb, fun hd => by have := hD _ hd; have := HP1.out.lt; omega⟩⟩)
  clear hst hD hb HP1
  dsimp only
  go_upto_region 3 with fail
  refine wp_region_lit ?_
  refine wpList_plain rfl fun K hK => ?_
  unfold Oper.wp execOp
  go_simp
  with_reducible refine (fresh_calls w2).mono ?_
  rintro e w3 ⟨g1, rfl, hb2⟩
  have HA3 := Aside0.mk (HA2.out.below hb2)
  clear hb2
  dsimp only
  refine hK _ _ ?_
  clear hK K
  obtain ⟨cs0, hcs0⟩ : ∃ cs, frC g1 = cs := ⟨_, rfl⟩
  have Hcs0 := Aside0.mk (And.intro hcs0 (by rw [← hcs0]; exact ⟨rfl, by have := Ino_one exR (some ⟨g1, 0, none⟩) 48 48; simpa [frC] using this⟩ : cs0.length = 15 ∧ cs0.toArray.all (·.oneCell') = true))
  rw [hcs0]
  clear hcs0
  refine wpList_plain rfl fun K hK => ?_
  unfold Oper.wp execOp
  go_simp
  refine hK _ _ ?_
  clear hK K
  change wpList _ _ _ _ _ (w3.alloc (.cells inoZ.toArray 47))
  have hsx : Strc (w3.alloc (.cells inoZ.toArray 47)) w3.heap.size 47 inoZ := alloc_last w3 _
  have hax := HA3.out.made 47 inoZ cs0
  have hlx := HA3.out.lt (p := (pb, 41, ocs)) (by simp)
  refine wpList_store_row rfl 47 _ _ rfl w3.heap.size cs0.toArray rfl rfl 47 _ hsx (infIno (Hcs0.out.2.1)) (by first | rfl | (rw [List.size_toArray, List.size_toArray, Hcs0.out.2.1]; rfl)) Hcs0.out.2.2 ?_
  generalize World.setRow (w3.alloc (.cells inoZ.toArray 47)) w3.heap.size cs0.toArray = w4 at hax ⊢
  obtain ⟨qr, hqr⟩ : ∃ q, w3.heap.size = q := ⟨_, rfl⟩
  rw [hqr] at hax hlx ⊢
  have HA4 := Aside0.mk hax
  have HLqr := Aside0.mk hlx
  clear hax hsx hlx hqr
  obtain ⟨cs1, hcs1⟩ : ∃ cs, resC exRx (.slice (some ⟨g1, 0, none⟩) 48 48) 0 = cs := ⟨_, rfl⟩
  have Hcs1 := Aside0.mk (And.intro hcs1 (by rw [← hcs1]; exact resC_ok exRx _ _ _ _ : cs1.length = 15 ∧ cs1.toArray.all (·.oneCell') = true))
  clear hcs1
  go_upto_region 6 with fail
  refine wp_region_lit ?_
  refine wpList_plain rfl fun K hK => ?_
  unfold Oper.wp execOp
  go_simp
  refine hK _ _ ?_
  clear hK K
  refine wpList_load_row rfl 47 _ rfl qr rfl 47 cs0.toArray (0, 0) _ (HA4.out.get (p := (qr, 47, cs0)) (by simp)) Tryz.underlying47 rfl (infIno (Hcs0.out.2.1)) ?_
  have f1 := (HA4.out.get (p := (pb, 41, ocs)) (by simp)).cell 1 (.string nm) (by rw [← HO.out.1]; rfl)
  have f2 := (HA4.out.get (p := (pb, 41, ocs)) (by simp)).cell 2 (.slice Av val.length cv) (by rw [← HO.out.1]; rfl)
  refine wpList_plain rfl fun K hK => ?_
  unfold Oper.wp execOp
  go_simp
  refine hK _ _ ?_
  clear hK K
  refine wpList_plain rfl fun K hK => ?_
  unfold Oper.wp execOp
  go_simp
  refine hK _ _ ?_
  clear hK K
  clear f1 f2
  have hs : Calls Tryz.prog 18 #[.pointer (some ⟨s0, 0, none⟩), .agg cs0.toArray, .string nm, .slice none 0 0, .int .i64 0, .int .i64 0] w4 (AwPost w s0 s1 [(qr, 47, cs0), (pb, 41, ocs)] cs1 0) := by
    have := HA4.out.set (r := exR) (some ⟨g1, 0, none⟩) 48 48 nm none 0 [] 0 0 HX.out.1 HT.out.1 HT.out.2 (.inl ⟨rfl, rfl, rfl⟩) (fun x hx => nomatch hx) (by decide) (by show 0 ≤ 900000; omega) (by decide) (by decide)
    rw [Hcs1.out.1, show exR.cells (.slice (some ⟨g1, 0, none⟩) 48 48) = cs0 from Hcs0.out.1] at this
    exact this
  have HS := Aside0.mk hs
  clear hs
  refine wpList_plain rfl fun K hK => ?_
  unfold Oper.wp execOp
  go_simp
  with_reducible refine HS.out.mono ?_
  rintro e w5 ⟨rfl, hax⟩
  have HA5 := Aside0.mk hax
  clear hax HS
  dsimp only
  refine hK _ _ ?_
  clear hK K
  refine wpList_plain rfl fun K hK => ?_
  unfold Oper.wp execOp
  go_simp
  refine hK _ _ ?_
  clear hK K
  refine wpList_plain rfl fun K hK => ?_
  unfold Oper.wp execOp
  go_simp
  refine hK _ _ ?_
  clear hK K
  refine wpList_plain rfl fun K hK => ?_
  unfold Oper.wp execOp
  go_simp
  refine hK _ _ ?_
  clear hK K
  refine wpList_plain rfl fun K hK => ?_
  unfold Oper.wp execOp
  go_simp
  refine hK _ _ ?_
  clear hK K
  change wpList _ _ _ _ _ (w5.alloc (.cells inoZ.toArray 47))
  have hsx : Strc (w5.alloc (.cells inoZ.toArray 47)) w5.heap.size 47 inoZ := alloc_last w5 _
  have hax := HA5.out.made 47 inoZ cs1
  have hlx := HA5.out.lt (p := (pb, 41, ocs)) (by simp)
  refine wpList_store_row rfl 47 _ _ rfl w5.heap.size cs1.toArray rfl rfl 47 _ hsx (infIno (Hcs1.out.2.1)) (by first | rfl | (rw [List.size_toArray, List.size_toArray, Hcs1.out.2.1]; rfl)) Hcs1.out.2.2 ?_
  generalize World.setRow (w5.alloc (.cells inoZ.toArray 47)) w5.heap.size cs1.toArray = w6 at hax ⊢
  obtain ⟨qx, hqx⟩ : ∃ q, w5.heap.size = q := ⟨_, rfl⟩
  rw [hqx] at hax hlx ⊢
  have HA6 := Aside0.mk hax
  have HLqx := Aside0.mk hlx
  clear hax hsx hlx hqx
  refine wpList_plain rfl fun K hK => ?_
  unfold Oper.wp execOp
  go_simp
  refine hK _ _ ?_
  clear hK K
  go_upto_region 8 with fail
  refine wp_region_lit ?_
  refine wpList_load_row rfl 47 _ rfl qx rfl 47 cs1.toArray (0, 0) _ (HA6.out.get (p := (qx, 47, cs1)) (by simp)) Tryz.underlying47 rfl (infIno (Hcs1.out.2.1)) ?_
  have hax := (HA6.out.sub (bx' := [(qr, 47, cs0), (pb, 41, ocs)]) (fun p hp => List.mem_cons_of_mem _ hp)).put cs1 (by have := HLqr.out; have := HO.out.2; omega) (fun p hp e => by obtain rfl := List.mem_singleton.1 hp; have := HLqr.out; dsimp only at this e; omega)
  refine wpList_store_row rfl 47 _ _ rfl qr cs1.toArray rfl rfl 47 _ (HA6.out.get (p := (qr, 47, cs0)) (by simp)) (infIno (Hcs1.out.2.1)) (by rw [List.size_toArray, List.size_toArray, Hcs1.out.2.1, Hcs0.out.2.1]) Hcs1.out.2.2 ?_
  generalize World.setRow w6 qr cs1.toArray = w7 at hax ⊢
  have HA7 := Aside0.mk hax
  clear hax
  obtain ⟨cs2, hcs2⟩ : ∃ cs, resC exRx (.slice (some ⟨g1, 0, none⟩) 48 48) c1 = cs := ⟨_, rfl⟩
  have Hcs2 := Aside0.mk (And.intro hcs2 (by rw [← hcs2]; exact resC_ok exRx _ _ _ _ : cs2.length = 15 ∧ cs2.toArray.all (·.oneCell') = true))
  clear hcs2
  go_upto_region 10 with fail
  refine wp_region_lit ?_
  refine wpList_plain rfl fun K hK => ?_
  unfold Oper.wp execOp
  go_simp
  refine hK _ _ ?_
  clear hK K
  refine wpList_load_row rfl 47 _ rfl qr rfl 47 cs1.toArray (0, 0) _ (HA7.out.get (p := (qr, 47, cs1)) (by simp)) Tryz.underlying47 rfl (infIno (Hcs1.out.2.1)) ?_
  have f1 := (HA7.out.get (p := (pb, 41, ocs)) (by simp)).cell 1 (.string nm) (by rw [← HO.out.1]; rfl)
  have f2 := (HA7.out.get (p := (pb, 41, ocs)) (by simp)).cell 2 (.slice Av val.length cv) (by rw [← HO.out.1]; rfl)
  refine wpList_plain rfl fun K hK => ?_
  unfold Oper.wp execOp
  go_simp
  refine hK _ _ ?_
  clear hK K
  refine wpList_plain rfl fun K hK => ?_
  unfold Oper.wp execOp
  go_simp
  refine hK _ _ ?_
  clear hK K
  refine wpList_plain rfl fun K hK => ?_
  unfold Oper.wp execOp
  go_simp
  refine hK _ _ ?_
  clear hK K
  refine wpList_plain rfl fun K hK => ?_
  unfold Oper.wp execOp
  go_simp
  refine hK _ _ ?_
  clear hK K
  clear f1 f2
  have hs : Calls Tryz.prog 18 #[.pointer (some ⟨s0, 0, none⟩), .agg cs1.toArray, .string nm, .slice Av val.length cv, .int .i64 1, .int .i64 0] w7 (AwPost w s0 s1 [(qr, 47, cs1), (pb, 41, ocs)] cs2 c1) := by
    have := HA7.out.setA (r := exRx) (some ⟨g1, 0, none⟩) 48 48 nm Av cv val 1 0 HX.out.2.1 HT.out.1 HT.out.2 HV.out.1 HV.out.2.1 HV.out.2.2.1 HV.out.2.2.2 (by omega) (by decide) (by decide)
    rw [Hcs2.out.1, show exRx.cells (.slice (some ⟨g1, 0, none⟩) 48 48) = cs1 from Hcs1.out.1] at this
    exact this
  have HS := Aside0.mk hs
  clear hs
  refine wpList_plain rfl fun K hK => ?_
  unfold Oper.wp execOp
  go_simp
  with_reducible refine HS.out.mono ?_
  rintro e w8 ⟨rfl, hax⟩
  have HA8 := Aside0.mk hax
  clear hax HS
  dsimp only
  refine hK _ _ ?_
  clear hK K
  refine wpList_plain rfl fun K hK => ?_
  unfold Oper.wp execOp
  go_simp
  refine hK _ _ ?_
  clear hK K
  refine wpList_plain rfl fun K hK => ?_
  unfold Oper.wp execOp
  go_simp
  refine hK _ _ ?_
  clear hK K
  refine wpList_plain rfl fun K hK => ?_
  unfold Oper.wp execOp
  go_simp
  refine hK _ _ ?_
  clear hK K
  refine wpList_plain rfl fun K hK => ?_
  unfold Oper.wp execOp
  go_simp
  refine hK _ _ ?_
  clear hK K
  change wpList _ _ _ _ _ (w8.alloc (.cells inoZ.toArray 47))
  have hsx : Strc (w8.alloc (.cells inoZ.toArray 47)) w8.heap.size 47 inoZ := alloc_last w8 _
  have hax := HA8.out.made 47 inoZ cs2
  have hlx := HA8.out.lt (p := (pb, 41, ocs)) (by simp)
  refine wpList_store_row rfl 47 _ _ rfl w8.heap.size cs2.toArray rfl rfl 47 _ hsx (infIno (Hcs2.out.2.1)) (by first | rfl | (rw [List.size_toArray, List.size_toArray, Hcs2.out.2.1]; rfl)) Hcs2.out.2.2 ?_
  generalize World.setRow (w8.alloc (.cells inoZ.toArray 47)) w8.heap.size cs2.toArray = w9 at hax ⊢
  obtain ⟨qy, hqy⟩ : ∃ q, w8.heap.size = q := ⟨_, rfl⟩
  rw [hqy] at hax hlx ⊢
  have HA9 := Aside0.mk hax
  have HLqy := Aside0.mk hlx
  clear hax hsx hlx hqy
  refine wpList_plain rfl fun K hK => ?_
  unfold Oper.wp execOp
  go_simp
  refine hK _ _ ?_
  clear hK K
  have HA9 := Aside0.mk (HA9.out.sub (bx' := [(qr, 47, cs1), (pb, 41, ocs)]) (fun p hp => List.mem_cons_of_mem _ hp))
  obtain ⟨cs3, hcs3⟩ : ∃ cs, resC exRx (.slice (some ⟨g1, 0, none⟩) 48 48) c2 = cs := ⟨_, rfl⟩
  have Hcs3 := Aside0.mk (And.intro hcs3 (by rw [← hcs3]; exact resC_ok exRx _ _ _ _ : cs3.length = 15 ∧ cs3.toArray.all (·.oneCell') = true))
  clear hcs3
  go_upto_region 12 with fail
  refine wp_region_lit ?_
  refine wpList_plain rfl fun K hK => ?_
  unfold Oper.wp execOp
  go_simp
  refine hK _ _ ?_
  clear hK K
  refine wpList_load_row rfl 47 _ rfl qr rfl 47 cs1.toArray (0, 0) _ (HA9.out.get (p := (qr, 47, cs1)) (by simp)) Tryz.underlying47 rfl (infIno (Hcs1.out.2.1)) ?_
  have f1 := (HA9.out.get (p := (pb, 41, ocs)) (by simp)).cell 1 (.string nm) (by rw [← HO.out.1]; rfl)
  have f2 := (HA9.out.get (p := (pb, 41, ocs)) (by simp)).cell 2 (.slice Av val.length cv) (by rw [← HO.out.1]; rfl)
  refine wpList_plain rfl fun K hK => ?_
  unfold Oper.wp execOp
  go_simp
  refine hK _ _ ?_
  clear hK K
  refine wpList_plain rfl fun K hK => ?_
  unfold Oper.wp execOp
  go_simp
  refine hK _ _ ?_
  clear hK K
  refine wpList_plain rfl fun K hK => ?_
  unfold Oper.wp execOp
  go_simp
  refine hK _ _ ?_
  clear hK K
  refine wpList_plain rfl fun K hK => ?_
  unfold Oper.wp execOp
  go_simp
  refine hK _ _ ?_
  clear hK K
  clear f1 f2
  have hs : Calls Tryz.prog 18 #[.pointer (some ⟨s0, 0, none⟩), .agg cs1.toArray, .string nm, .slice Av val.length cv, .int .i64 2, .int .i64 0] w9 (AwPost w s0 s2 [(qr, 47, cs1), (pb, 41, ocs)] cs3 c2) := by
    have := HA9.out.setA (r := exRx) (some ⟨g1, 0, none⟩) 48 48 nm Av cv val 2 0 HX.out.2.2 HT.out.1 HT.out.2 HV.out.1 HV.out.2.1 HV.out.2.2.1 HV.out.2.2.2 (by omega) (by decide) (by decide)
    rw [Hcs3.out.1, show exRx.cells (.slice (some ⟨g1, 0, none⟩) 48 48) = cs1 from Hcs1.out.1] at this
    exact this
  have HS := Aside0.mk hs
  clear hs
  refine wpList_plain rfl fun K hK => ?_
  unfold Oper.wp execOp
  go_simp
  with_reducible refine HS.out.mono ?_
  rintro e w10 ⟨rfl, hax⟩
  have HA10 := Aside0.mk hax
  clear hax HS
  dsimp only
  refine hK _ _ ?_
  clear hK K
  refine wpList_plain rfl fun K hK => ?_
  unfold Oper.wp execOp
  go_simp
  refine hK _ _ ?_
  clear hK K
  refine wpList_plain rfl fun K hK => ?_
  unfold Oper.wp execOp
  go_simp
  refine hK _ _ ?_
  clear hK K
  refine wpList_plain rfl fun K hK => ?_
  unfold Oper.wp execOp
  go_simp
  refine hK _ _ ?_
  clear hK K
  refine wpList_plain rfl fun K hK => ?_
  unfold Oper.wp execOp
  go_simp
  refine hK _ _ ?_
  clear hK K
  change wpList _ _ _ _ _ (w10.alloc (.cells inoZ.toArray 47))
  have hsx : Strc (w10.alloc (.cells inoZ.toArray 47)) w10.heap.size 47 inoZ := alloc_last w10 _
  have hax := HA10.out.made 47 inoZ cs3
  have hlx := HA10.out.lt (p := (pb, 41, ocs)) (by simp)
  refine wpList_store_row rfl 47 _ _ rfl w10.heap.size cs3.toArray rfl rfl 47 _ hsx (infIno (Hcs3.out.2.1)) (by first | rfl | (rw [List.size_toArray, List.size_toArray, Hcs3.out.2.1]; rfl)) Hcs3.out.2.2 ?_
  generalize World.setRow (w10.alloc (.cells inoZ.toArray 47)) w10.heap.size cs3.toArray = w11 at hax ⊢
  obtain ⟨qz, hqz⟩ : ∃ q, w10.heap.size = q := ⟨_, rfl⟩
  rw [hqz] at hax hlx ⊢
  have HA11 := Aside0.mk hax
  have HLqz := Aside0.mk hlx
  clear hax hsx hlx hqz
  refine wpList_plain rfl fun K hK => ?_
  unfold Oper.wp execOp
  go_simp
  refine hK _ _ ?_
  clear hK K
  have HB := Aside0.mk (HA11.out.elim fun D h => h.2.2.1)
  rcases hc with ⟨rfl, rfl⟩ | ⟨rfl, rfl⟩
  all_goals
    go_wp2
    go_ret
    exact ⟨rfl, HB.out⟩
end Go.Proofs.YtkmhilhfmfmckaaGreatDoor.Hand
