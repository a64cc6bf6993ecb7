/- Own texts and printed words of the kit, put together and trimmed by a program of mine (merge.py). -/
import Derived.Test.YtkmhilhfmfmckaaGreatDoorH18
namespace Go.Proofs.YtkmhilhfmfmckaaGreatDoor.Hand
set_option linter.unusedSimpArgs false
set_option linter.unusedVariables false
open Go.Shelf Go.RowKit Go.Proofs.YtkmhilhfmfmckaaGreatDoorW.PrintWords Go.Proofs.YtkmhilhfmfmckaaGreatDoorW.PrintLast Go.Proofs.YtkmhilhfmfmckaaGreatDoorW.PrintMore
theorem StIs.allb {w : World} {D : Nat → Prop} {s0 : Nat} {s : St} (h : StIs w D s0 s) : ∀ b ∈ s.now, allB b := fun b hb => by
  obtain ⟨j, hj, e⟩ := List.getElem_of_mem hb
  have := (h.blk j hj).2
  rw [List.getD_eq_getElem?_getD, List.getElem?_eq_getElem hj, Option.getD_some, e] at this
  exact this
theorem resC_ok (r : Ino) (A : Option Addr) (n c : Nat) (x : Int) : (resC r (.slice A n c) x).length = 15 ∧ (resC r (.slice A n c) x).toArray.all (·.oneCell') = true := by
  unfold resC
  split
  · exact ⟨rfl, by have := Ino_one r A n c; simpa using this⟩
  · exact ⟨rfl, inoZ_one⟩
theorem aset_calls {D : Nat → Prop} {s0 : Nat} {s t : St} {r r' : Ino} {code : Int} (A : Option Addr) (n c : Nat) (nm : ByteArray) (Av : Option Addr) (cv : Nat) (val : List Int) (how goal : Int) (w : World) (heq : xsetR s r n nm val how goal = (t, r', code)) (h : StIs w D s0 s)
    (hv : Kd.C (Kd.int .u8) w Av val.length val) (hvn : Av = none → cv = 0) (hvb : allB val) (hvD : ∀ ad, Av = some ad → ¬ D ad.block) (hh : s.hist.length ≤ 900000) (hT : Tab w) (hTD : ¬ D 2) (hg0 : -4611686018427387904 ≤ goal) (hg1 : goal < 4611686018427387904) :
    Calls Tryz.prog 18 #[.pointer (some ⟨s0, 0, none⟩), .agg (r.cells (.slice A n c)).toArray, .string nm, .slice Av val.length cv, .int .i64 how, .int .i64 goal] w (InoPost D s0 t (resC r' (.slice A n c) code) code w) := by
  have := xset_calls r A n c nm Av cv val how goal w h h.allb hv hvn hvb hvD hh hT hTD hg0 hg1
  rw [xsetI_eq, heq] at this
  exact this
theorem arem_calls {D : Nat → Prop} {s0 : Nat} {s t : St} {r r' : Ino} {code : Int} (A : Option Addr) (n c : Nat) (nm : ByteArray) (w : World) (heq : xremR s r n nm = (t, r', code)) (h : StIs w D s0 s) (hh : s.hist.length ≤ 900000) :
    Calls Tryz.prog 22 #[.pointer (some ⟨s0, 0, none⟩), .agg (r.cells (.slice A n c)).toArray, .string nm] w (InoPost D s0 t (resC r' (.slice A n c) code) code w) := by
  have := xrem_calls r A n c nm w h h.allb hh
  rw [heq] at this
  exact this
def AwI (w0 : World) (s0 : Nat) (s : St) (bx : List (Nat × TypeId × List Value)) (w : World) : Prop := ∃ D, StIs w D s0 s ∧ (∀ k, D k → w0.heap.size ≤ k) ∧ Below w0.heap.size w0 w ∧ ∀ p ∈ bx, Strc w p.1 p.2.1 p.2.2 ∧ ¬ D p.1
theorem AwI.below {w0 w w1 : World} {s0 : Nat} {s : St} {bx : List (Nat × TypeId × List Value)} (h : AwI w0 s0 s bx w) (hb : Below w.heap.size w w1) : AwI w0 s0 s bx w1 := by
  obtain ⟨D, h1, h2, h3, h4⟩ := h
  exact ⟨D, h1.below hb, h2, below_then h3 h3.size hb, fun p hp => ⟨(h4 p hp).1.below hb, (h4 p hp).2⟩⟩
theorem AwI.push {w0 w : World} {s0 : Nat} {s : St} {bx : List (Nat × TypeId × List Value)} (h : AwI w0 s0 s bx w) (t : TypeId) (cs : List Value) : AwI w0 s0 s ((w.heap.size, t, cs) :: bx) (w.alloc (.cells cs.toArray t)) := by
  obtain ⟨D, h1, h2, h3, h4⟩ := h.below (below_alloc (Below.refl _ _) (.cells cs.toArray t))
  obtain ⟨D', h1', _, _, h4'⟩ := h
  refine ⟨D', h1'.below (below_alloc (Below.refl _ _) _), by assumption, h3, fun p hp => ?_⟩
  rcases List.mem_cons.1 hp with rfl | hp
  · exact ⟨alloc_last w _, fun hd => Nat.lt_irrefl _ (h1'.sub _ hd)⟩
  · exact ⟨(h4' p hp).1.below (below_alloc (Below.refl _ _) _), (h4' p hp).2⟩
theorem AwI.put {w0 w : World} {s0 q : Nat} {s : St} {bx : List (Nat × TypeId × List Value)} {t : TypeId} {cs : List Value} (cs' : List Value) (h : AwI w0 s0 s ((q, t, cs) :: bx) w) (hq : w0.heap.size ≤ q) (hne : ∀ p ∈ bx, p.1 ≠ q) : AwI w0 s0 s ((q, t, cs') :: bx) (w.setRow q cs'.toArray) := by
  obtain ⟨D, h1, h2, h3, h4⟩ := h
  have hs := h4 (q, t, cs) (List.mem_cons_self ..)
  have hm := mod_setRow w q cs'.toArray
  refine ⟨D, h1.mod hm (fun k hk e => hs.2 (e ▸ hk)), h2, h3.trans ⟨hm.os, hm.tape, hm.output, hm.size, fun k hk => hm.block k (Nat.lt_of_lt_of_le hk h3.size) (by omega)⟩, fun p hp => ?_⟩
  rcases List.mem_cons.1 hp with rfl | hp
  · exact ⟨setRow_heap w q _ cs'.toArray t (0, 0) hs.1, hs.2⟩
  · exact ⟨(h4 p (List.mem_cons_of_mem _ hp)).1.mod hm (hne p hp), (h4 p (List.mem_cons_of_mem _ hp)).2⟩
theorem AwI.get {w0 w : World} {s0 : Nat} {s : St} {bx : List (Nat × TypeId × List Value)} (h : AwI w0 s0 s bx w) {p : Nat × TypeId × List Value} (hp : p ∈ bx) : Strc w p.1 p.2.1 p.2.2 := h.elim fun D h => (h.2.2.2 p hp).1
theorem AwI.ge {w0 w : World} {s0 : Nat} {s : St} {bx : List (Nat × TypeId × List Value)} (h : AwI w0 s0 s bx w) : w0.heap.size ≤ w.heap.size := h.elim fun D h => h.2.2.1.size
theorem AwI.post {w0 w w' : World} {s0 : Nat} {t : St} {bx : List (Nat × TypeId × List Value)} {D D' : Nat → Prop} (h2 : ∀ k, D k → w0.heap.size ≤ k) (h3 : Below w0.heap.size w0 w) (h4 : ∀ p ∈ bx, Strc w p.1 p.2.1 p.2.2 ∧ ¬ D p.1) (g1 : StIs w' D' s0 t) (g2 : ∀ k, D' k → D k ∨ w.heap.size ≤ k) (g3 : Mod w w' D) : AwI w0 s0 t bx w' :=
  ⟨D', g1, fun k hk => (g2 k hk).elim (h2 k) (fun h => Nat.le_trans h3.size h), h3.trans ⟨g3.os, g3.tape, g3.output, g3.size, fun k hk => g3.block k (Nat.lt_of_lt_of_le hk h3.size) (fun h => by have := h2 k h; omega)⟩, fun p hp => ⟨(h4 p hp).1.mod g3 (h4 p hp).2, fun hd => (g2 _ hd).elim (h4 p hp).2 (fun h => by have := (h4 p hp).1.lt; omega)⟩⟩
def AwPost (w0 : World) (s0 : Nat) (t : St) (bx : List (Nat × TypeId × List Value)) (cs : List Value) (code : Int) (e : Ending) (w' : World) : Prop := e = .returned (.tuple #[.agg cs.toArray, .int .i64 code]) ∧ AwI w0 s0 t bx w'
theorem strc_reads {w : World} {q : Nat} {val : List Int} (h : Strc w q 5 (nums .u8 val)) (hl : val.length ≤ 1000) : Kd.C (Kd.int .u8) w (some ⟨q, 0, none⟩) val.length val := Row.reads ⟨[], by rw [List.append_nil]; exact h⟩ (by omega)
theorem AwI.set {w0 w : World} {s0 : Nat} {s t : St} {bx : List (Nat × TypeId × List Value)} {r r' : Ino} {code : Int} (h : AwI w0 s0 s bx w) (A : Option Addr) (n c : Nat) (nm : ByteArray) (Av : Option Addr) (cv : Nat) (val : List Int) (how goal : Int) (heq : xsetR s r n nm val how goal = (t, r', code)) (hT : Tab w0) (h2 : 2 < w0.heap.size)
    (hv : (val = [] ∧ Av = none ∧ cv = 0) ∨ ∃ q, Av = some ⟨q, 0, none⟩ ∧ (q, 5, nums .u8 val) ∈ bx) (hvb : allB val) (hl : val.length ≤ 1000) (hh : s.hist.length ≤ 900000) (hg0 : -4611686018427387904 ≤ goal) (hg1 : goal < 4611686018427387904) :
    Calls Tryz.prog 18 #[.pointer (some ⟨s0, 0, none⟩), .agg (r.cells (.slice A n c)).toArray, .string nm, .slice Av val.length cv, .int .i64 how, .int .i64 goal] w (AwPost w0 s0 t bx (resC r' (.slice A n c) code) code) := by
  obtain ⟨D, h1, hD, h3, h4⟩ := h
  have hTw : Tab w := hT.below h3
  have hd2 : ¬ D 2 := fun hd => by have := hD 2 hd; omega
  have key : Kd.C (Kd.int .u8) w Av val.length val ∧ (Av = none → cv = 0) ∧ ∀ ad, Av = some ad → ¬ D ad.block := by
    rcases hv with ⟨rfl, rfl, rfl⟩ | ⟨q, rfl, hq⟩
    · exact ⟨C_int_nil _ _ _, fun _ => rfl, fun ad h => nomatch h⟩
    · exact ⟨strc_reads (h4 _ hq).1 hl, (fun h => nomatch h), fun ad h => by cases h; exact (h4 _ hq).2⟩
  refine (aset_calls A n c nm Av cv val how goal w heq h1 key.1 key.2.1 hvb key.2.2 hh hTw hd2 hg0 hg1).mono ?_
  rintro e w' ⟨D', he, g1, g2, g3⟩
  exact ⟨he, AwI.post hD h3 h4 g1 g2 g3⟩
theorem AwI.rem {w0 w : World} {s0 : Nat} {s t : St} {bx : List (Nat × TypeId × List Value)} {r r' : Ino} {code : Int} (h : AwI w0 s0 s bx w) (A : Option Addr) (n c : Nat) (nm : ByteArray) (heq : xremR s r n nm = (t, r', code)) (hh : s.hist.length ≤ 900000) :
    Calls Tryz.prog 22 #[.pointer (some ⟨s0, 0, none⟩), .agg (r.cells (.slice A n c)).toArray, .string nm] w (AwPost w0 s0 t bx (resC r' (.slice A n c) code) code) := by
  obtain ⟨D, h1, hD, h3, h4⟩ := h
  refine (arem_calls A n c nm w heq h1 hh).mono ?_
  rintro e w' ⟨D', he, g1, g2, g3⟩
  exact ⟨he, AwI.post hD h3 h4 g1 g2 g3⟩
def AwList (w0 : World) (s0 : Nat) (s : St) (bx : List (Nat × TypeId × List Value)) (e : Ending) (w' : World) : Prop := ∃ g c h c' cur cur2, e = .returned (.tuple #[.slice (some ⟨g, 0, none⟩) 2 c, .int .i64 0]) ∧ AwI w0 s0 s ((g, 72, cur) :: (h, 5, cur2) :: bx) w' ∧ cur[0]? = some (.string exA) ∧ cur[1]? = some (.slice (some ⟨h, 0, none⟩) 1 c') ∧ cur2[0]? = some (.int .u8 2)
theorem AwI.list {w0 w : World} {s0 : Nat} {s : St} {bx : List (Nat × TypeId × List Value)} {r : Ino} (h : AwI w0 s0 s bx w) (A : Option Addr) (n c : Nat) (heq : xlistI s.now r n = ([exa, exb], 0)) :
    Calls Tryz.prog 26 #[.pointer (some ⟨s0, 0, none⟩), .agg (r.cells (.slice A n c)).toArray] w (AwList w0 s0 s bx) := by
  obtain ⟨D, h1, hD, h3, h4⟩ := h
  have := xlist_calls r A n c w h1
  rw [heq] at this
  refine this.mono ?_
  rintro e w' ⟨D', v, b, he, ⟨vs, hv, hrow, hvals⟩, hDb, hb, g1, g2, g3⟩
  obtain ⟨D2, i1, i2, i3, i4⟩ := AwI.post hD h3 h4 g1 g2 g3
  have h0 := hvals 0 (by simp)
  have hvl : vs.length = 2 := hv
  rcases hrow.2 with ⟨_, h0'⟩ | ⟨g, cp, cur, rfl, hbg, hh, _, _, hsz, htk⟩
  · simp at h0'
  · have hv0 : vs.getD 0 undef = vs[0]'(by omega) := by rw [List.getD_eq_getElem?_getD, List.getElem?_eq_getElem (by omega)]; rfl
    obtain ⟨hown, hab⟩ := h0
    have e0 : (attAt [exa, exb] 0).val = [2] := rfl
    rw [e0] at hown
    rcases hown.2 with ⟨_, h1'⟩ | ⟨gv, cv, curv, ev, hbv, hhv, _, _, hszv, htv⟩
    · simp at h1'
    · have hc := acells_at [exa, exb] vs 0 (by simp) hv
      have hlt : ∀ j u, (acells [exa, exb] vs)[j]? = some u → cur.toList[j]? = some u := fun j u hj => by
        rw [← htk, List.getElem?_take] at hj
        split at hj
        · exact hj
        · cases hj
      refine ⟨g, cp, gv, cv, cur.toList, curv.toList, he, ⟨D', g1, fun k hk => (g2 k hk).elim (hD k) (fun h => Nat.le_trans h3.size h), i3, ?_⟩, hlt 0 _ hc.1, ?_, ?_⟩
      · intro p hp
        rcases List.mem_cons.1 hp with rfl | hp
        · exact ⟨by simpa [Strc] using hh, fun hd => by have := hDb g hd; omega⟩
        · rcases List.mem_cons.1 hp with rfl | hp
          · exact ⟨by simpa [Strc] using hhv, fun hd => by have := hDb gv hd; omega⟩
          · exact ⟨(h4 p hp).1.mod g3 (h4 p hp).2, fun hd => (g2 _ hd).elim (h4 p hp).2 (fun h => by have := (h4 p hp).1.lt; omega)⟩
      · have := hlt 1 _ hc.2
        rw [ev] at this
        exact this
      · have : curv.toList.take (1 * 1) = [.int .u8 2] := htv
        have h0 : (curv.toList.take (1 * 1))[0]? = some (.int .u8 2) := by rw [this]; rfl
        rw [List.getElem?_take] at h0
        simpa using h0
theorem AwI.sub {w0 w : World} {s0 : Nat} {s : St} {bx bx' : List (Nat × TypeId × List Value)} (h : AwI w0 s0 s bx w) (hs : ∀ p ∈ bx', p ∈ bx) : AwI w0 s0 s bx' w := by
  obtain ⟨D, h1, h2, h3, h4⟩ := h
  exact ⟨D, h1, h2, h3, fun p hp => h4 p (hs p hp)⟩
theorem AwI.lt {w0 w : World} {s0 : Nat} {s : St} {bx : List (Nat × TypeId × List Value)} (h : AwI w0 s0 s bx w) {p : Nat × TypeId × List Value} (hp : p ∈ bx) : p.1 < w.heap.size := (h.get hp).lt
theorem AwI.made {w0 w : World} {s0 : Nat} {s : St} {bx : List (Nat × TypeId × List Value)} (h : AwI w0 s0 s bx w) (t : TypeId) (cs cs' : List Value) : AwI w0 s0 s ((w.heap.size, t, cs') :: bx) ((w.alloc (.cells cs.toArray t)).setRow w.heap.size cs'.toArray) :=
  (h.push t cs).put cs' h.ge (fun p hp e => by have := h.lt hp; omega)
set_option maxHeartbeats 8000000 in
set_option maxRecDepth 100000 in
theorem awake_calls (w : World) (hT : Tab w) : Calls Tryz.prog 9 #[] w fun e w' => e = .returned (.bool true) ∧ Below w.heap.size w w' := by
  have h2w : 2 < w.heap.size := World.block_lt_of_cell? w _ (hT 0 (by omega))
  have HT := Aside0.mk (And.intro hT h2w)
  obtain ⟨s1, s2, s3, s4, x1, x2, x3, x4, x5, x6, x7, y1, y2, y3⟩ := exAll
  have HX := Aside0.mk (And.intro x1 (And.intro x2 (And.intro x3 (And.intro x4 (And.intro x5 (And.intro x6 x7))))))
  have HY := Aside0.mk (And.intro y1 (And.intro y2 y3))
  clear hT h2w x1 x2 x3 x4 x5 x6 x7 y1 y2 y3
  go_enter Tryz.func9, Tryz.ntmps9
  go_wp2_with fail
  with_reducible refine (both_calls w).mono ?_
  rintro e w1 ⟨s0, q, D, rfl, hst, hD, hb⟩
  have HA1 := Aside0.mk (show AwI w s0 exS [] w1 from ⟨D, hst, hD, hb, fun p hp => nomatch hp⟩)
  clear hst hD hb
  dsimp only
  go_upto_region 2 with fail
  refine wp_region_lit ?_
  refine wpList_plain rfl fun K hK => ?_
  unfold Oper.wp execOp
  go_simp
  refine hK _ _ ?_
  clear hK K
  refine wpList_plain rfl fun K hK => ?_
  unfold Oper.wp execOp
  go_simp
  with_reducible refine (fresh_calls w1).mono ?_
  rintro e w2 ⟨g1, rfl, hb2⟩
  have HA2 := Aside0.mk (HA1.out.below hb2)
  clear hb2
  dsimp only
  refine hK _ _ ?_
  clear hK K
  refine wpList_plain rfl fun K hK => ?_
  unfold Oper.wp execOp
  go_simp
  refine hK _ _ ?_
  clear hK K
  have ha3 := HA2.out.push 5 [.int .u8 1]
  have hge := HA2.out.ge
  obtain ⟨cs1, hcs1⟩ : ∃ cs, resC exRx (.slice (some ⟨g1, 0, none⟩) 48 48) 0 = cs := ⟨_, rfl⟩
  have Hcs1 := Aside0.mk (And.intro hcs1 (by rw [← hcs1]; exact resC_ok exRx _ _ _ _ : cs1.length = 15 ∧ cs1.toArray.all (·.oneCell') = true))
  have hs : Calls Tryz.prog 18 #[.pointer (some ⟨s0, 0, none⟩), .agg (frC g1).toArray, .string ⟨#[98]⟩, .slice (some ⟨w2.heap.size, 0, none⟩) 1 1, .int .i64 0, .int .i64 0] (w2.alloc (.cells #[.int .u8 1] 5)) (AwPost w s0 s1 [(w2.heap.size, 5, [.int .u8 1])] cs1 0) := hcs1 ▸ ha3.set (some ⟨g1, 0, none⟩) 48 48 exB (some ⟨w2.heap.size, 0, none⟩) 1 [1] 0 0 HX.out.1 HT.out.1 HT.out.2 (.inr ⟨_, rfl, List.mem_cons_self ..⟩) (by decide) (by decide) (by decide) (by decide) (by decide)
  have HS := Aside0.mk hs
  clear ha3 hs hge hcs1
  generalize w2.alloc (.cells #[.int .u8 1] 5) = w3 at HS ⊢
  refine wpList_plain rfl fun K hK => ?_
  unfold Oper.wp execOp
  go_simp
  with_reducible refine HS.out.mono ?_
  rintro e w4 ⟨rfl, hax⟩
  have HA4 := Aside0.mk hax
  clear hax HS
  dsimp only
  refine hK _ _ ?_
  clear hK K
  refine wpList_plain rfl fun K hK => ?_
  unfold Oper.wp execOp
  go_simp
  refine hK _ _ ?_
  clear hK K
  refine wpList_plain rfl fun K hK => ?_
  unfold Oper.wp execOp
  go_simp
  refine hK _ _ ?_
  clear hK K
  refine wpList_plain rfl fun K hK => ?_
  unfold Oper.wp execOp
  go_simp
  refine hK _ _ ?_
  clear hK K
  refine wpList_plain rfl fun K hK => ?_
  unfold Oper.wp execOp
  go_simp
  refine hK _ _ ?_
  clear hK K
  change wpList _ _ _ _ _ (w4.alloc (.cells inoZ.toArray 47))
  have hsx : Strc (w4.alloc (.cells inoZ.toArray 47)) w4.heap.size 47 inoZ := alloc_last w4 _
  have hax := HA4.out.made 47 inoZ cs1
  refine wpList_store_row rfl 47 _ _ rfl w4.heap.size cs1.toArray rfl rfl 47 _ hsx (infIno (Hcs1.out.2.1)) (by first | rfl | (rw [List.size_toArray, List.size_toArray, Hcs1.out.2.1]; rfl)) Hcs1.out.2.2 ?_
  generalize World.setRow (w4.alloc (.cells inoZ.toArray 47)) w4.heap.size cs1.toArray = w5 at hax ⊢
  obtain ⟨qa, hqa⟩ : ∃ q, w4.heap.size = q := ⟨_, rfl⟩
  rw [hqa] at hax ⊢
  have HA5 := Aside0.mk hax
  clear hax hsx hqa
  refine wpList_plain rfl fun K hK => ?_
  unfold Oper.wp execOp
  go_simp
  refine hK _ _ ?_
  clear hK K
  go_upto_region 3 with fail
  refine wp_region_lit ?_
  refine wpList_plain rfl fun K hK => ?_
  unfold Oper.wp execOp
  go_simp
  refine hK _ _ ?_
  clear hK K
  refine wpList_load_row rfl 47 _ rfl qa rfl 47 cs1.toArray (0, 0) _ (HA5.out.get (p := (qa, 47, cs1)) (List.mem_cons_self ..)) Tryz.underlying47 rfl (infIno (Hcs1.out.2.1)) ?_
  refine wpList_plain rfl fun K hK => ?_
  unfold Oper.wp execOp
  go_simp
  refine hK _ _ ?_
  clear hK K
  have ha6 := (HA5.out.sub (bx' := [(qa, 47, cs1)]) (fun p hp => by simp at hp; subst hp; exact List.mem_cons_self ..)).push 5 [.int .u8 2]
  have hs : Calls Tryz.prog 18 #[.pointer (some ⟨s0, 0, none⟩), .agg cs1.toArray, .string ⟨#[97]⟩, .slice (some ⟨w5.heap.size, 0, none⟩) 1 1, .int .i64 0, .int .i64 0] (w5.alloc (.cells #[.int .u8 2] 5)) (AwPost w s0 s2 ((w5.heap.size, 5, [.int .u8 2]) :: [(qa, 47, cs1)]) cs1 0) := by
    have := ha6.set (r := exRx) (some ⟨g1, 0, none⟩) 48 48 exA (some ⟨w5.heap.size, 0, none⟩) 1 [2] 0 0 HX.out.2.1 HT.out.1 HT.out.2 (.inr ⟨_, rfl, List.mem_cons_self ..⟩) (by decide) (by decide) (by have := HY.out.1; omega) (by decide) (by decide)
    rw [Hcs1.out.1, show exRx.cells (.slice (some ⟨g1, 0, none⟩) 48 48) = cs1 from Hcs1.out.1] at this
    exact this
  have HS := Aside0.mk hs
  clear ha6 hs
  generalize w5.alloc (.cells #[.int .u8 2] 5) = w6 at HS ⊢
  refine wpList_plain rfl fun K hK => ?_
  unfold Oper.wp execOp
  go_simp
  with_reducible refine HS.out.mono ?_
  rintro e w7 ⟨rfl, hax⟩
  have HA7 := Aside0.mk hax
  clear hax HS
  dsimp only
  refine hK _ _ ?_
  clear hK K
  refine wpList_plain rfl fun K hK => ?_
  unfold Oper.wp execOp
  go_simp
  refine hK _ _ ?_
  clear hK K
  refine wpList_plain rfl fun K hK => ?_
  unfold Oper.wp execOp
  go_simp
  refine hK _ _ ?_
  clear hK K
  refine wpList_plain rfl fun K hK => ?_
  unfold Oper.wp execOp
  go_simp
  refine hK _ _ ?_
  clear hK K
  refine wpList_plain rfl fun K hK => ?_
  unfold Oper.wp execOp
  go_simp
  refine hK _ _ ?_
  clear hK K
  change wpList _ _ _ _ _ (w7.alloc (.cells inoZ.toArray 47))
  have hsx : Strc (w7.alloc (.cells inoZ.toArray 47)) w7.heap.size 47 inoZ := alloc_last w7 _
  have hax := HA7.out.made 47 inoZ cs1
  refine wpList_store_row rfl 47 _ _ rfl w7.heap.size cs1.toArray rfl rfl 47 _ hsx (infIno (Hcs1.out.2.1)) (by first | rfl | (rw [List.size_toArray, List.size_toArray, Hcs1.out.2.1]; rfl)) Hcs1.out.2.2 ?_
  generalize World.setRow (w7.alloc (.cells inoZ.toArray 47)) w7.heap.size cs1.toArray = w8 at hax ⊢
  obtain ⟨qb, hqb⟩ : ∃ q, w7.heap.size = q := ⟨_, rfl⟩
  rw [hqb] at hax ⊢
  have HA8 := Aside0.mk hax
  clear hax hsx hqb
  refine wpList_plain rfl fun K hK => ?_
  unfold Oper.wp execOp
  go_simp
  refine hK _ _ ?_
  clear hK K
  go_upto_region 4 with fail
  refine wp_region_lit ?_
  refine wpList_plain rfl fun K hK => ?_
  unfold Oper.wp execOp
  go_simp
  refine hK _ _ ?_
  clear hK K
  refine wpList_load_row rfl 47 _ rfl qb rfl 47 cs1.toArray (0, 0) _ (HA8.out.get (p := (qb, 47, cs1)) (List.mem_cons_self ..)) Tryz.underlying47 rfl (infIno (Hcs1.out.2.1)) ?_
  have hl : Calls Tryz.prog 26 #[.pointer (some ⟨s0, 0, none⟩), .agg cs1.toArray] w8 (AwList w s0 s2 [(qb, 47, cs1)]) := by
    have := (HA8.out.sub (bx' := [(qb, 47, cs1)]) (fun p hp => by simp at hp; subst hp; exact List.mem_cons_self ..)).list (r := exRx) (some ⟨g1, 0, none⟩) 48 48 HX.out.2.2.1
    rw [show exRx.cells (.slice (some ⟨g1, 0, none⟩) 48 48) = cs1 from Hcs1.out.1] at this
    exact this
  have HS := Aside0.mk hl
  clear hl
  refine wpList_plain rfl fun K hK => ?_
  unfold Oper.wp execOp
  go_simp
  with_reducible refine HS.out.mono ?_
  rintro e w9 ⟨g, c, h, c', cur, cur2, rfl, hax, k0, k1, k2⟩
  have HA9 := Aside0.mk hax
  have HKK := Aside0.mk (And.intro k0 (And.intro k1 k2))
  clear hax HS k0 k1 k2
  dsimp only
  refine hK _ _ ?_
  clear hK K
  refine wpList_plain rfl fun K hK => ?_
  unfold Oper.wp execOp
  go_simp
  refine hK _ _ ?_
  clear hK K
  refine wpList_plain rfl fun K hK => ?_
  unfold Oper.wp execOp
  go_simp
  refine hK _ _ ?_
  clear hK K
  refine wpList_plain rfl fun K hK => ?_
  unfold Oper.wp execOp
  go_simp
  refine hK _ _ ?_
  clear hK K
  refine wpList_plain rfl fun K hK => ?_
  unfold Oper.wp execOp
  go_simp
  refine hK _ _ ?_
  clear hK K
  refine wpList_plain rfl fun K hK => ?_
  unfold Oper.wp execOp
  go_simp
  refine hK _ _ ?_
  clear hK K
  have HinoZ := Aside0.mk (And.intro (rfl : inoZ = inoZ) (show inoZ.length = 15 ∧ inoZ.toArray.all (·.oneCell') = true from ⟨rfl, inoZ_one⟩))
  go_upto_region 5 with fail
  refine wp_region_lit ?_
  refine wpList_plain rfl fun K hK => ?_
  unfold Oper.wp execOp
  go_simp
  refine hK _ _ ?_
  clear hK K
  refine wpList_load_row rfl 47 _ rfl qb rfl 47 cs1.toArray (0, 0) _ (HA9.out.get (p := (qb, 47, cs1)) (by simp)) Tryz.underlying47 rfl (infIno (Hcs1.out.2.1)) ?_
  have hs : Calls Tryz.prog 18 #[.pointer (some ⟨s0, 0, none⟩), .agg cs1.toArray, .string ⟨#[97]⟩, .slice none 0 0, .int .i64 1, .int .i64 0] w9 (AwPost w s0 s2 [(g, 72, cur), (h, 5, cur2), (qb, 47, cs1)] inoZ 17) := by
    have := HA9.out.set (r := exRx) (some ⟨g1, 0, none⟩) 48 48 exA none 0 [] 1 0 HX.out.2.2.2.1 HT.out.1 HT.out.2 (.inl ⟨rfl, rfl, rfl⟩) (by decide) (by decide) (by have := HY.out.2.1; omega) (by decide) (by decide)
    rw [show exRx.cells (.slice (some ⟨g1, 0, none⟩) 48 48) = cs1 from Hcs1.out.1] at this
    exact this
  have HS := Aside0.mk hs
  clear hs
  refine wpList_plain rfl fun K hK => ?_
  unfold Oper.wp execOp
  go_simp
  with_reducible refine HS.out.mono ?_
  rintro e w10 ⟨rfl, hax⟩
  have HA10 := Aside0.mk hax
  clear hax HS
  dsimp only
  refine hK _ _ ?_
  clear hK K
  refine wpList_plain rfl fun K hK => ?_
  unfold Oper.wp execOp
  go_simp
  refine hK _ _ ?_
  clear hK K
  refine wpList_plain rfl fun K hK => ?_
  unfold Oper.wp execOp
  go_simp
  refine hK _ _ ?_
  clear hK K
  refine wpList_plain rfl fun K hK => ?_
  unfold Oper.wp execOp
  go_simp
  refine hK _ _ ?_
  clear hK K
  refine wpList_plain rfl fun K hK => ?_
  unfold Oper.wp execOp
  go_simp
  refine hK _ _ ?_
  clear hK K
  change wpList _ _ _ _ _ (w10.alloc (.cells inoZ.toArray 47))
  have hsx : Strc (w10.alloc (.cells inoZ.toArray 47)) w10.heap.size 47 inoZ := alloc_last w10 _
  have hax := HA10.out.made 47 inoZ inoZ
  refine wpList_store_row rfl 47 _ _ rfl w10.heap.size inoZ.toArray rfl rfl 47 _ hsx (infIno (HinoZ.out.2.1)) (by first | rfl | (rw [List.size_toArray, List.size_toArray, HinoZ.out.2.1]; rfl)) HinoZ.out.2.2 ?_
  generalize World.setRow (w10.alloc (.cells inoZ.toArray 47)) w10.heap.size inoZ.toArray = w11 at hax ⊢
  obtain ⟨qc, hqc⟩ : ∃ q, w10.heap.size = q := ⟨_, rfl⟩
  rw [hqc] at hax ⊢
  have HA11 := Aside0.mk hax
  clear hax hsx hqc
  refine wpList_plain rfl fun K hK => ?_
  unfold Oper.wp execOp
  go_simp
  refine hK _ _ ?_
  clear hK K
  have HA11 := Aside0.mk (HA11.out.sub (bx' := [(g, 72, cur), (h, 5, cur2), (qb, 47, cs1)]) (fun p hp => List.mem_cons_of_mem _ hp))
  go_upto_region 6 with fail
  refine wp_region_lit ?_
  refine wpList_plain rfl fun K hK => ?_
  unfold Oper.wp execOp
  go_simp
  refine hK _ _ ?_
  clear hK K
  refine wpList_load_row rfl 47 _ rfl qb rfl 47 cs1.toArray (0, 0) _ (HA11.out.get (p := (qb, 47, cs1)) (by simp)) Tryz.underlying47 rfl (infIno (Hcs1.out.2.1)) ?_
  have hs : Calls Tryz.prog 18 #[.pointer (some ⟨s0, 0, none⟩), .agg cs1.toArray, .string ⟨#[99]⟩, .slice none 0 0, .int .i64 2, .int .i64 0] w11 (AwPost w s0 s2 [(g, 72, cur), (h, 5, cur2), (qb, 47, cs1)] inoZ 61) := by
    have := HA11.out.set (r := exRx) (some ⟨g1, 0, none⟩) 48 48 exC none 0 [] 2 0 HX.out.2.2.2.2.1 HT.out.1 HT.out.2 (.inl ⟨rfl, rfl, rfl⟩) (by decide) (by decide) (by have := HY.out.2.1; omega) (by decide) (by decide)
    rw [show exRx.cells (.slice (some ⟨g1, 0, none⟩) 48 48) = cs1 from Hcs1.out.1] at this
    exact this
  have HS := Aside0.mk hs
  clear hs
  refine wpList_plain rfl fun K hK => ?_
  unfold Oper.wp execOp
  go_simp
  with_reducible refine HS.out.mono ?_
  rintro e w12 ⟨rfl, hax⟩
  have HA12 := Aside0.mk hax
  clear hax HS
  dsimp only
  refine hK _ _ ?_
  clear hK K
  refine wpList_plain rfl fun K hK => ?_
  unfold Oper.wp execOp
  go_simp
  refine hK _ _ ?_
  clear hK K
  refine wpList_plain rfl fun K hK => ?_
  unfold Oper.wp execOp
  go_simp
  refine hK _ _ ?_
  clear hK K
  refine wpList_plain rfl fun K hK => ?_
  unfold Oper.wp execOp
  go_simp
  refine hK _ _ ?_
  clear hK K
  refine wpList_plain rfl fun K hK => ?_
  unfold Oper.wp execOp
  go_simp
  refine hK _ _ ?_
  clear hK K
  change wpList _ _ _ _ _ (w12.alloc (.cells inoZ.toArray 47))
  have hsx : Strc (w12.alloc (.cells inoZ.toArray 47)) w12.heap.size 47 inoZ := alloc_last w12 _
  have hax := HA12.out.made 47 inoZ inoZ
  refine wpList_store_row rfl 47 _ _ rfl w12.heap.size inoZ.toArray rfl rfl 47 _ hsx (infIno (HinoZ.out.2.1)) (by first | rfl | (rw [List.size_toArray, List.size_toArray, HinoZ.out.2.1]; rfl)) HinoZ.out.2.2 ?_
  generalize World.setRow (w12.alloc (.cells inoZ.toArray 47)) w12.heap.size inoZ.toArray = w13 at hax ⊢
  obtain ⟨qd, hqd⟩ : ∃ q, w12.heap.size = q := ⟨_, rfl⟩
  rw [hqd] at hax ⊢
  have HA13 := Aside0.mk hax
  clear hax hsx hqd
  refine wpList_plain rfl fun K hK => ?_
  unfold Oper.wp execOp
  go_simp
  refine hK _ _ ?_
  clear hK K
  have HA13 := Aside0.mk (HA13.out.sub (bx' := [(g, 72, cur), (h, 5, cur2), (qb, 47, cs1)]) (fun p hp => List.mem_cons_of_mem _ hp))
  go_upto_region 7 with fail
  refine wp_region_lit ?_
  refine wpList_plain rfl fun K hK => ?_
  unfold Oper.wp execOp
  go_simp
  refine hK _ _ ?_
  clear hK K
  refine wpList_load_row rfl 47 _ rfl qb rfl 47 cs1.toArray (0, 0) _ (HA13.out.get (p := (qb, 47, cs1)) (by simp)) Tryz.underlying47 rfl (infIno (Hcs1.out.2.1)) ?_
  have hs : Calls Tryz.prog 22 #[.pointer (some ⟨s0, 0, none⟩), .agg cs1.toArray, .string ⟨#[97]⟩] w13 (AwPost w s0 s3 [(g, 72, cur), (h, 5, cur2), (qb, 47, cs1)] cs1 0) := by
    have := HA13.out.rem (r := exRx) (some ⟨g1, 0, none⟩) 48 48 exA HX.out.2.2.2.2.2.1 (by have := HY.out.2.1; omega)
    rw [Hcs1.out.1, show exRx.cells (.slice (some ⟨g1, 0, none⟩) 48 48) = cs1 from Hcs1.out.1] at this
    exact this
  have HS := Aside0.mk hs
  clear hs
  refine wpList_plain rfl fun K hK => ?_
  unfold Oper.wp execOp
  go_simp
  with_reducible refine HS.out.mono ?_
  rintro e w14 ⟨rfl, hax⟩
  have HA14 := Aside0.mk hax
  clear hax HS
  dsimp only
  refine hK _ _ ?_
  clear hK K
  refine wpList_plain rfl fun K hK => ?_
  unfold Oper.wp execOp
  go_simp
  refine hK _ _ ?_
  clear hK K
  refine wpList_plain rfl fun K hK => ?_
  unfold Oper.wp execOp
  go_simp
  refine hK _ _ ?_
  clear hK K
  refine wpList_plain rfl fun K hK => ?_
  unfold Oper.wp execOp
  go_simp
  refine hK _ _ ?_
  clear hK K
  refine wpList_plain rfl fun K hK => ?_
  unfold Oper.wp execOp
  go_simp
  refine hK _ _ ?_
  clear hK K
  change wpList _ _ _ _ _ (w14.alloc (.cells inoZ.toArray 47))
  have hsx : Strc (w14.alloc (.cells inoZ.toArray 47)) w14.heap.size 47 inoZ := alloc_last w14 _
  have hax := HA14.out.made 47 inoZ cs1
  refine wpList_store_row rfl 47 _ _ rfl w14.heap.size cs1.toArray rfl rfl 47 _ hsx (infIno (Hcs1.out.2.1)) (by first | rfl | (rw [List.size_toArray, List.size_toArray, Hcs1.out.2.1]; rfl)) Hcs1.out.2.2 ?_
  generalize World.setRow (w14.alloc (.cells inoZ.toArray 47)) w14.heap.size cs1.toArray = w15 at hax ⊢
  obtain ⟨qe, hqe⟩ : ∃ q, w14.heap.size = q := ⟨_, rfl⟩
  rw [hqe] at hax ⊢
  have HA15 := Aside0.mk hax
  clear hax hsx hqe
  refine wpList_plain rfl fun K hK => ?_
  unfold Oper.wp execOp
  go_simp
  refine hK _ _ ?_
  clear hK K
  obtain ⟨cs4, hcs4⟩ : ∃ cs, resC exR (.slice (some ⟨g1, 0, none⟩) 48 48) 0 = cs := ⟨_, rfl⟩
  have Hcs4 := Aside0.mk (And.intro hcs4 (by rw [← hcs4]; exact resC_ok exR _ _ _ _ : cs4.length = 15 ∧ cs4.toArray.all (·.oneCell') = true))
  clear hcs4
  go_upto_region 8 with fail
  refine wp_region_lit ?_
  refine wpList_plain rfl fun K hK => ?_
  unfold Oper.wp execOp
  go_simp
  refine hK _ _ ?_
  clear hK K
  refine wpList_load_row rfl 47 _ rfl qe rfl 47 cs1.toArray (0, 0) _ (HA15.out.get (p := (qe, 47, cs1)) (by simp)) Tryz.underlying47 rfl (infIno (Hcs1.out.2.1)) ?_
  have hs : Calls Tryz.prog 22 #[.pointer (some ⟨s0, 0, none⟩), .agg cs1.toArray, .string ⟨#[98]⟩] w15 (AwPost w s0 s4 ((qe, 47, cs1) :: [(g, 72, cur), (h, 5, cur2), (qb, 47, cs1)]) cs4 0) := by
    have := HA15.out.rem (r := exRx) (some ⟨g1, 0, none⟩) 48 48 exB HX.out.2.2.2.2.2.2 (by have := HY.out.2.2; omega)
    rw [Hcs4.out.1, show exRx.cells (.slice (some ⟨g1, 0, none⟩) 48 48) = cs1 from Hcs1.out.1] at this
    exact this
  have HS := Aside0.mk hs
  clear hs
  refine wpList_plain rfl fun K hK => ?_
  unfold Oper.wp execOp
  go_simp
  with_reducible refine HS.out.mono ?_
  rintro e w16 ⟨rfl, hax⟩
  have HA16 := Aside0.mk hax
  clear hax HS
  dsimp only
  refine hK _ _ ?_
  clear hK K
  refine wpList_plain rfl fun K hK => ?_
  unfold Oper.wp execOp
  go_simp
  refine hK _ _ ?_
  clear hK K
  refine wpList_plain rfl fun K hK => ?_
  unfold Oper.wp execOp
  go_simp
  refine hK _ _ ?_
  clear hK K
  refine wpList_plain rfl fun K hK => ?_
  unfold Oper.wp execOp
  go_simp
  refine hK _ _ ?_
  clear hK K
  refine wpList_plain rfl fun K hK => ?_
  unfold Oper.wp execOp
  go_simp
  refine hK _ _ ?_
  clear hK K
  change wpList _ _ _ _ _ (w16.alloc (.cells inoZ.toArray 47))
  have hsx : Strc (w16.alloc (.cells inoZ.toArray 47)) w16.heap.size 47 inoZ := alloc_last w16 _
  have hax := HA16.out.made 47 inoZ cs4
  refine wpList_store_row rfl 47 _ _ rfl w16.heap.size cs4.toArray rfl rfl 47 _ hsx (infIno (Hcs4.out.2.1)) (by first | rfl | (rw [List.size_toArray, List.size_toArray, Hcs4.out.2.1]; rfl)) Hcs4.out.2.2 ?_
  generalize World.setRow (w16.alloc (.cells inoZ.toArray 47)) w16.heap.size cs4.toArray = w17 at hax ⊢
  obtain ⟨qf, hqf⟩ : ∃ q, w16.heap.size = q := ⟨_, rfl⟩
  rw [hqf] at hax ⊢
  have HA17 := Aside0.mk hax
  clear hax hsx hqf
  refine wpList_plain rfl fun K hK => ?_
  unfold Oper.wp execOp
  go_simp
  refine hK _ _ ?_
  clear hK K
  have hA := HA17.out
  have f0 := (hA.get (p := (g, 72, cur)) (by simp)).cell 0 _ HKK.out.1
  have f1 := (hA.get (p := (g, 72, cur)) (by simp)).cell 1 _ HKK.out.2.1
  have f2 := (hA.get (p := (h, 5, cur2)) (by simp)).cell 0 _ HKK.out.2.2
  have f3 := (hA.get (p := (qf, 47, cs4)) (by simp)).cell 12 (.int .i64 0) (by rw [← Hcs4.out.1]; rfl)
  have f4 := (hA.get (p := (qf, 47, cs4)) (by simp)).cell 6 (.int .i64 0) (by rw [← Hcs4.out.1]; rfl)
  have HB := Aside0.mk (hA.elim fun D h => h.2.2.1)
  unfold exA at f0
  clear hA
  go_wp2
  go_ret
  exact ⟨rfl, HB.out⟩
end Go.Proofs.YtkmhilhfmfmckaaGreatDoor.Hand
namespace Go.Proofs.YtkmhilhfmfmckaaGreatDoor.Hand
set_option linter.unusedSimpArgs false
set_option linter.unusedVariables false
set_option maxRecDepth 100000
open Go.Shelf Go.RowKit Go.Proofs.YtkmhilhfmfmckaaGreatDoorW.PrintWords Go.Proofs.YtkmhilhfmfmckaaGreatDoorW.PrintLast Go.Proofs.YtkmhilhfmfmckaaGreatDoorW.PrintMore
theorem cmpB_lt : ∀ (a b : List UInt8), Lib.compareBytes a b < 0 ↔ a < b
  | [], [] => by simp [Lib.compareBytes]
  | [], _ :: _ => by simp [Lib.compareBytes]
  | _ :: _, [] => by simp [Lib.compareBytes]
  | x :: a, y :: b => by
    rw [Lib.compareBytes, List.cons_lt_cons_iff]
    by_cases h1 : x < y
    · rw [if_pos h1]; simp [h1]
    · rw [if_neg h1]
      by_cases h2 : y < x
      · rw [if_pos h2]
        have hne : x ≠ y := fun e => by subst e; exact h1 h2
        simp [h1, hne]
      · rw [if_neg h2, cmpB_lt a b]
        have he : x = y := by
          have := UInt8.not_lt.1 h1
          have := UInt8.not_lt.1 h2
          exact UInt8.le_antisymm ‹_› ‹_›
        simp [h1, he]
theorem cmpB_eq : ∀ (a b : List UInt8), Lib.compareBytes a b = 0 ↔ a = b
  | [], [] => by simp [Lib.compareBytes]
  | [], _ :: _ => by simp [Lib.compareBytes]
  | _ :: _, [] => by simp [Lib.compareBytes]
  | x :: a, y :: b => by
    rw [Lib.compareBytes]
    by_cases h1 : x < y
    · rw [if_pos h1]
      have hne : x ≠ y := fun e => by subst e; exact absurd h1 (UInt8.lt_irrefl x)
      simp [hne]
    · rw [if_neg h1]
      by_cases h2 : y < x
      · rw [if_pos h2]
        have hne : x ≠ y := fun e => by subst e; exact absurd h2 (UInt8.lt_irrefl x)
        simp [hne]
      · rw [if_neg h2, cmpB_eq a b]
        have he : x = y := UInt8.le_antisymm (UInt8.not_lt.1 h2) (UInt8.not_lt.1 h1)
        simp [he]
theorem baData (a : ByteArray) : a.data.toList = a.toList := (Go.Lib.toList_data a).symm ▸ rfl
theorem cmpN_lt (a b : ByteArray) : cmpN a b < 0 ↔ a.toList < b.toList := by
  unfold cmpN
  rw [cmpB_lt, baData, baData]
theorem cmpN_eq (a b : ByteArray) : cmpN a b = 0 ↔ a = b := by
  unfold cmpN
  rw [cmpB_eq]
  constructor
  · intro h
    cases a; cases b
    congr 1
    exact Array.toList_inj.1 h
  · rintro rfl; rfl
theorem seek_nil (nm : ByteArray) : seekI [] nm = (0, false) := by
  unfold seekI
  simp [bsGo]
theorem seek_one (x : Att) (nm : ByteArray) : seekI [x] nm = if cmpN x.name nm < 0 then (1, false) else (0, cmpN x.name nm == 0) := by
  unfold seekI
  have e1 : bsGo [x] nm 1 0 1 = if cmpN x.name nm < 0 then 1 else 0 := by
    rw [bsGo]
    simp only [Nat.lt_one_iff, if_true]
    show (if cmpN x.name nm < 0 then bsGo [x] nm 0 1 1 else bsGo [x] nm 0 0 0) = _
    rfl
  show (bsGo [x] nm 1 0 1, decide (bsGo [x] nm 1 0 1 < 1) && (cmpN (attAt [x] (bsGo [x] nm 1 0 1)).name nm == 0)) = _
  rw [e1]
  by_cases h : cmpN x.name nm < 0
  · rw [if_pos h, if_pos h]; simp
  · rw [if_neg h, if_neg h]; simp [attAt]
def twoL (x y : Att) : List Att := if cmpN x.name y.name < 0 then [x, y] else [y, x]
theorem seek_two (x y : Att) (h : x.name ≠ y.name) : (seekI [x] y.name).2 = false ∧ xsetL [x] (seekI [x] y.name) y = twoL x y := by
  have h0 : ¬ cmpN x.name y.name = 0 := fun e => h ((cmpN_eq _ _).1 e)
  rw [seek_one]
  unfold twoL
  by_cases h1 : cmpN x.name y.name < 0
  · rw [if_pos h1, if_pos h1]; exact ⟨rfl, rfl⟩
  · rw [if_neg h1, if_neg h1]
    have : (cmpN x.name y.name == 0) = false := by simpa using h0
    rw [this]; exact ⟨rfl, rfl⟩
theorem twoL_comm (x y : Att) (h : x.name ≠ y.name) : twoL x y = twoL y x := by
  unfold twoL
  rcases Std.lt_trichotomy x.name.toList y.name.toList with h1 | h1 | h1
  · rw [if_pos ((cmpN_lt _ _).2 h1), if_neg (fun h2 => List.lt_asymm h1 ((cmpN_lt _ _).1 h2))]
  · exact absurd ((cmpN_eq _ _).1 (by unfold cmpN; rw [cmpB_eq, baData, baData]; exact h1)) h
  · rw [if_pos (c := cmpN y.name x.name < 0) ((cmpN_lt _ _).2 h1), if_neg (fun h2 => List.lt_asymm h1 ((cmpN_lt _ _).1 h2))]
def setOk (nm : ByteArray) (val : List Int) : Prop := namedB nm = true ∧ ¬ 64 < val.length
def refused (nm : ByteArray) (val : List Int) : Int := if 64 < val.length then 34 else if namedB nm = false then 22 else 0
theorem attOk_head {l : List Att} (h : namedB (attAt l 0).name = true ∧ ¬ 64 < (attAt l 0).val.length) : attOk l 0 := ⟨h.1, h.2, fun h => absurd h (Nat.lt_irrefl 0)⟩
theorem pack_one {nm : ByteArray} {val : List Int} (h : setOk nm val) : (xpackI [⟨nm, val⟩] 0).2 = 0 := by
  have hok : attsOk [⟨nm, val⟩] := fun k hk => by
    obtain rfl : k = 0 := by simp at hk; omega
    exact attOk_head h
  have hn := attN_le [⟨nm, val⟩] 1 (Nat.le_refl _) (fun j hj => hok j hj)
  unfold xpackI
  rw [if_pos hok, if_neg (by have e : List.take 1 [(⟨nm, val⟩ : Att)] = [⟨nm, val⟩] := rfl; rw [e] at hn; omega)]
theorem pack_two {x y : Att} (hx : setOk x.name x.val) (hy : setOk y.name y.val) (h : x.name ≠ y.name) : (xpackI (twoL x y) 0).2 = 0 := by
  have key : ∀ a b : Att, setOk a.name a.val → setOk b.name b.val → a.name.toList < b.name.toList → (xpackI [a, b] 0).2 = 0 := fun a b ha hb hlt => by
    have hok : attsOk [a, b] := fun k hk => by
      have hk2 : k = 0 ∨ k = 1 := by simp at hk; omega
      rcases hk2 with rfl | rfl
      · exact attOk_head ha
      · exact ⟨hb.1, hb.2, fun _ => leS_false.2 hlt⟩
    have hn := attN_le [a, b] 2 (Nat.le_refl _) (fun j hj => hok j hj)
    unfold xpackI
    rw [if_pos hok, if_neg (by have e : List.take 2 [a, b] = [a, b] := rfl; rw [e] at hn; omega)]
  by_cases h1 : cmpN x.name y.name < 0
  · unfold twoL
    rw [if_pos h1]
    exact key x y hx hy ((cmpN_lt _ _).1 h1)
  · have h2 : cmpN y.name x.name < 0 := by
      rcases Std.lt_trichotomy x.name.toList y.name.toList with h3 | h3 | h3
      · exact absurd ((cmpN_lt _ _).2 h3) h1
      · exact absurd ((cmpN_eq _ _).1 (by unfold cmpN; rw [cmpB_eq, baData, baData]; exact h3)) h
      · exact (cmpN_lt _ _).2 h3
    unfold twoL
    rw [if_neg h1]
    exact key y x hy hx ((cmpN_lt _ _).1 h2)
theorem setNo {s : St} {r : Ino} {l : List Att} {nm : ByteArray} {val : List Int} {how : Int} (hl : xlistI s.now r 48 = (l, 0)) (h : refused nm val ≠ 0) : xsetR s r 48 nm val how 0 = (s, r, refused nm val) := by
  unfold xsetR
  rw [hl]
  unfold refused at h ⊢
  rw [if_neg (by simp)]
  by_cases h1 : 64 < val.length
  · rw [if_pos h1, if_pos h1]
  · rw [if_neg h1] at h ⊢
    rw [if_neg h1]
    by_cases h2 : namedB nm = false
    · rw [if_pos h2, if_pos (.inl h2)]
    · rw [if_neg h2] at h; exact absurd rfl h
theorem setFirst {s : St} {nm : ByteArray} {val : List Int} {how : Int} (h : ExSt s exX0 exG0 exM0) (ho : setOk nm val) (hw : how = 0 ∨ how = 1) : ∃ t, xsetR s exR 48 nm val how 0 = (t, exRx, 0) ∧ ExSt t exX1 exG1 exM1 ∧ t.now.getD 108 [] = (xpackI [⟨nm, val⟩] 108).1 ∧ t.hist.length = s.hist.length + 4 := by
  obtain ⟨t, ht, hx, hl⟩ := exTake h
  refine ⟨t.write 108 (xpackI [⟨nm, val⟩] 108).1, ?_, hx.write 108 (by omega) (by omega) (by omega), ?_, ?_⟩
  · unfold xsetR
    rw [exList0]
    dsimp only
    rw [seek_nil, ht]
    rw [if_neg (by simp), if_neg ho.2, if_neg (by rw [ho.1]; rcases hw with rfl | rfl <;> simp), if_neg (by simp), if_neg (by rcases hw with rfl | rfl <;> simp)]
    show (if (xpackI [⟨nm, val⟩] 0).2 ≠ 0 then _ else _) = _
    rw [pack_one ho, if_neg (by simp), if_neg (by simp [exR]), if_neg (by simp)]
    rfl
  · exact getD_same (by rw [hx.len]; omega)
  · show (t.hist.length + 1) = _
    omega
theorem setSecond {s : St} {x : Att} {nm : ByteArray} {val : List Int} (h0 : setOk x.name x.val) (hb : s.now.getD 108 [] = (xpackI [x] 108).1) (ho : setOk nm val) (hne : x.name ≠ nm) : xsetR s exRx 48 nm val 0 0 = (s.write 108 (xpackI (twoL x ⟨nm, val⟩) 108).1, exRx, 0) := by
  have hl := exList (s := s) hb (pack_one h0) (by simp)
  obtain ⟨hs, hp⟩ := seek_two x ⟨nm, val⟩ hne
  unfold xsetR
  rw [hl]
  dsimp only
  rw [if_neg (by simp), if_neg ho.2, if_neg (by rw [ho.1]; simp), if_neg (by simp), if_neg (by simp)]
  rw [show xsetL [x] (seekI [x] nm) ⟨nm, val⟩ = twoL x ⟨nm, val⟩ from hp]
  rw [pack_two (x := x) (y := ⟨nm, val⟩) h0 ho hne, if_neg (by simp), if_pos (by simp [exRx])]
  rfl
end Go.Proofs.YtkmhilhfmfmckaaGreatDoor.Hand
namespace Go.Proofs.YtkmhilhfmfmckaaGreatDoor.Hand
set_option linter.unusedSimpArgs false
set_option linter.unusedVariables false
open Go.Shelf Go.RowKit Go.Proofs.YtkmhilhfmfmckaaGreatDoorW.PrintWords Go.Proofs.YtkmhilhfmfmckaaGreatDoorW.PrintLast Go.Proofs.YtkmhilhfmfmckaaGreatDoorW.PrintMore
theorem AwI.setA {w0 w : World} {s0 : Nat} {s t : St} {bx : List (Nat × TypeId × List Value)} {r r' : Ino} {code : Int} (h : AwI w0 s0 s bx w) (A : Option Addr) (n c : Nat) (nm : ByteArray) (Av : Option Addr) (cv : Nat) (val : List Int) (how goal : Int) (heq : xsetR s r n nm val how goal = (t, r', code)) (hT : Tab w0) (h2 : 2 < w0.heap.size)
    (hv : Kd.C (Kd.int .u8) w0 Av val.length val) (hvn : Av = none → cv = 0) (hvD : ∀ ad, Av = some ad → ad.block < w0.heap.size) (hvb : allB val) (hh : s.hist.length ≤ 900000) (hg0 : -4611686018427387904 ≤ goal) (hg1 : goal < 4611686018427387904) :
    Calls Tryz.prog 18 #[.pointer (some ⟨s0, 0, none⟩), .agg (r.cells (.slice A n c)).toArray, .string nm, .slice Av val.length cv, .int .i64 how, .int .i64 goal] w (AwPost w0 s0 t bx (resC r' (.slice A n c) code) code) := by
  obtain ⟨D, h1, hD, h3, h4⟩ := h
  have hTw : Tab w := hT.below h3
  have hd2 : ¬ D 2 := fun hd => by have := hD 2 hd; omega
  refine (aset_calls A n c nm Av cv val how goal w heq h1 (Kd.C_below hv h3) hvn hvb (fun ad e hd => by have := hD _ hd; have := hvD ad e; omega) hh hTw hd2 hg0 hg1).mono ?_
  rintro e w' ⟨D', he, g1, g2, g3⟩
  exact ⟨he, AwI.post hD h3 h4 g1 g2 g3⟩
theorem AwI.lts {w0 w : World} {s0 : Nat} {s : St} {bx : List (Nat × TypeId × List Value)} (h : AwI w0 s0 s bx w) : ∀ p ∈ bx, p.1 < w.heap.size := fun p hp => h.lt hp
section
variable {P : Program} {ops : Array Oper} {Q : Exit → Act → World → Prop} {S : World → Prop}
theorem wpT_join {pl p : Plan} {a : Act} {w : World} (R : Nat → List Value → Nat → World → Prop) (act : Nat → List Value → Nat → Act) (paths : (∀ g cs q W, R g cs q W → wpT P ops Q S p (act g cs q) W) → wpT P ops Q S pl a w)
    (tail : ∀ g cs q W, R g cs q W → wpT P ops Q S p (act g cs q) W) : wpT P ops Q S pl a w := paths tail
end
def AwJ (w0 : World) (s0 : Nat) (s : St) (t0 : Nat) (t : St) (bx : List (Nat × TypeId × List Value)) (w : World) : Prop := ∃ D E, StIs w D s0 s ∧ StIs w E t0 t ∧ (∀ k, D k → w0.heap.size ≤ k) ∧ (∀ k, E k → w0.heap.size ≤ k) ∧ (∀ k, D k → ¬ E k) ∧ Below w0.heap.size w0 w ∧ ∀ p ∈ bx, Strc w p.1 p.2.1 p.2.2 ∧ ¬ D p.1 ∧ ¬ E p.1
section
variable {w0 w w1 : World} {s0 t0 : Nat} {s t : St} {bx : List (Nat × TypeId × List Value)}
theorem AwJ.swap (h : AwJ w0 s0 s t0 t bx w) : AwJ w0 t0 t s0 s bx w := by
  obtain ⟨D, E, h1, h2, h3, h4, h5, h6, h7⟩ := h
  exact ⟨E, D, h2, h1, h4, h3, fun k he hd => h5 k hd he, h6, fun p hp => ⟨(h7 p hp).1, (h7 p hp).2.2, (h7 p hp).2.1⟩⟩
theorem AwJ.below (h : AwJ w0 s0 s t0 t bx w) (hb : Below w.heap.size w w1) : AwJ w0 s0 s t0 t bx w1 := by
  obtain ⟨D, E, h1, h2, h3, h4, h5, h6, h7⟩ := h
  exact ⟨D, E, h1.below hb, h2.below hb, h3, h4, h5, below_then h6 h6.size hb, fun p hp => ⟨(h7 p hp).1.below hb, (h7 p hp).2⟩⟩
theorem AwJ.push (h : AwJ w0 s0 s t0 t bx w) (ty : TypeId) (cs : List Value) : AwJ w0 s0 s t0 t ((w.heap.size, ty, cs) :: bx) (w.alloc (.cells cs.toArray ty)) := by
  have hb := below_alloc (Below.refl w.heap.size w) (.cells cs.toArray ty)
  obtain ⟨D, E, h1, h2, h3, h4, h5, h6, h7⟩ := h
  refine ⟨D, E, h1.below hb, h2.below hb, h3, h4, h5, below_then h6 h6.size hb, fun p hp => ?_⟩
  rcases List.mem_cons.1 hp with rfl | hp
  · exact ⟨alloc_last w _, fun hd => Nat.lt_irrefl _ (h1.sub _ hd), fun hd => Nat.lt_irrefl _ (h2.sub _ hd)⟩
  · exact ⟨(h7 p hp).1.below hb, (h7 p hp).2⟩
theorem AwJ.put {q : Nat} {ty : TypeId} {cs : List Value} (cs' : List Value) (h : AwJ w0 s0 s t0 t ((q, ty, cs) :: bx) w) (hq : w0.heap.size ≤ q) (hne : ∀ p ∈ bx, p.1 ≠ q) : AwJ w0 s0 s t0 t ((q, ty, cs') :: bx) (w.setRow q cs'.toArray) := by
  obtain ⟨D, E, h1, h2, h3, h4, h5, h6, h7⟩ := h
  have hs := h7 (q, ty, cs) (List.mem_cons_self ..)
  have hm := mod_setRow w q cs'.toArray
  refine ⟨D, E, h1.mod hm (fun k hk e => hs.2.1 (e ▸ hk)), h2.mod hm (fun k hk e => hs.2.2 (e ▸ hk)), h3, h4, h5, h6.trans ⟨hm.os, hm.tape, hm.output, hm.size, fun k hk => hm.block k (Nat.lt_of_lt_of_le hk h6.size) (by omega)⟩, fun p hp => ?_⟩
  rcases List.mem_cons.1 hp with rfl | hp
  · exact ⟨setRow_heap w q _ cs'.toArray ty (0, 0) hs.1, hs.2⟩
  · exact ⟨(h7 p (List.mem_cons_of_mem _ hp)).1.mod hm (hne p hp), (h7 p (List.mem_cons_of_mem _ hp)).2⟩
theorem AwJ.get (h : AwJ w0 s0 s t0 t bx w) {p : Nat × TypeId × List Value} (hp : p ∈ bx) : Strc w p.1 p.2.1 p.2.2 := by
  obtain ⟨D, E, h1, h2, h3, h4, h5, h6, h7⟩ := h
  exact (h7 p hp).1
theorem AwJ.all (h : AwJ w0 s0 s t0 t bx w) : Below w0.heap.size w0 w := by
  obtain ⟨D, E, h1, h2, h3, h4, h5, h6, h7⟩ := h
  exact h6
theorem AwJ.ge (h : AwJ w0 s0 s t0 t bx w) : w0.heap.size ≤ w.heap.size := h.all.size
theorem AwJ.lt (h : AwJ w0 s0 s t0 t bx w) {p : Nat × TypeId × List Value} (hp : p ∈ bx) : p.1 < w.heap.size := (h.get hp).lt
theorem AwJ.lts (h : AwJ w0 s0 s t0 t bx w) : ∀ p ∈ bx, p.1 < w.heap.size := fun p hp => h.lt hp
theorem AwJ.sub {bx' : List (Nat × TypeId × List Value)} (h : AwJ w0 s0 s t0 t bx w) (hs : ∀ p ∈ bx', p ∈ bx) : AwJ w0 s0 s t0 t bx' w := by
  obtain ⟨D, E, h1, h2, h3, h4, h5, h6, h7⟩ := h
  exact ⟨D, E, h1, h2, h3, h4, h5, h6, fun p hp => h7 p (hs p hp)⟩
theorem AwJ.made (h : AwJ w0 s0 s t0 t bx w) (ty : TypeId) (cs cs' : List Value) : AwJ w0 s0 s t0 t ((w.heap.size, ty, cs') :: bx) ((w.alloc (.cells cs.toArray ty)).setRow w.heap.size cs'.toArray) :=
  (h.push ty cs).put cs' h.ge (fun p hp e => by have := h.lt hp; omega)
end
def AwJPost (w0 : World) (s0 : Nat) (s : St) (t0 : Nat) (t : St) (bx : List (Nat × TypeId × List Value)) (cs : List Value) (code : Int) (e : Ending) (w' : World) : Prop := e = .returned (.tuple #[.agg cs.toArray, .int .i64 code]) ∧ AwJ w0 s0 s t0 t bx w'
theorem AwJ.setA {w0 w : World} {s0 t0 : Nat} {s s' t : St} {bx : List (Nat × TypeId × List Value)} {r r' : Ino} {code : Int} (h : AwJ w0 s0 s t0 t bx w) (A : Option Addr) (n c : Nat) (nm : ByteArray) (Av : Option Addr) (cv : Nat) (val : List Int) (how goal : Int) (heq : xsetR s r n nm val how goal = (s', r', code)) (hT : Tab w0) (h2 : 2 < w0.heap.size)
    (hv : Kd.C (Kd.int .u8) w0 Av val.length val) (hvn : Av = none → cv = 0) (hvD : ∀ ad, Av = some ad → ad.block < w0.heap.size) (hvb : allB val) (hh : s.hist.length ≤ 900000) (hg0 : -4611686018427387904 ≤ goal) (hg1 : goal < 4611686018427387904) :
    Calls Tryz.prog 18 #[.pointer (some ⟨s0, 0, none⟩), .agg (r.cells (.slice A n c)).toArray, .string nm, .slice Av val.length cv, .int .i64 how, .int .i64 goal] w (AwJPost w0 s0 s' t0 t bx (resC r' (.slice A n c) code) code) := by
  obtain ⟨D, E, k1, k2, k3, k4, k5, k6, k7⟩ := h
  have hTw : Tab w := hT.below k6
  have hd2 : ¬ D 2 := fun hd => by have := k3 2 hd; omega
  refine (aset_calls A n c nm Av cv val how goal w heq k1 (Kd.C_below hv k6) hvn hvb (fun ad e hd => by have := k3 _ hd; have := hvD ad e; omega) hh hTw hd2 hg0 hg1).mono ?_
  rintro e w' ⟨D', he, g1, g2, g3⟩
  refine ⟨he, D', E, g1, k2.mod g3 (fun k hk hd => k5 k hd hk), fun k hk => (g2 k hk).elim (k3 k) (fun h => Nat.le_trans k6.size h), k4, fun k hk he => (g2 k hk).elim (fun hd => k5 k hd he) (fun h => by have := k2.sub k he; omega),
    k6.trans ⟨g3.os, g3.tape, g3.output, g3.size, fun k hk => g3.block k (Nat.lt_of_lt_of_le hk k6.size) (fun h => by have := k3 k h; omega)⟩, fun p hp => ⟨(k7 p hp).1.mod g3 (k7 p hp).2.1, fun hd => (g2 _ hd).elim (k7 p hp).2.1 (fun h => by have := (k7 p hp).1.lt; omega), (k7 p hp).2.2⟩⟩
def AwJRead (w0 : World) (s0 : Nat) (s : St) (t0 : Nat) (t : St) (bx : List (Nat × TypeId × List Value)) (b : List Int) (e : Ending) (w' : World) : Prop := ∃ g c rest, e = .returned (.tuple #[.slice (some ⟨g, 0, none⟩) 256 c, .int .i64 0]) ∧ 256 ≤ c ∧ b.length = 256 ∧ AwJ w0 s0 s t0 t ((g, 5, nums .u8 b ++ rest) :: bx) w'
theorem AwJ.read {w0 w : World} {s0 t0 : Nat} {s t : St} {bx : List (Nat × TypeId × List Value)} (h : AwJ w0 s0 s t0 t bx w) (n : Nat) (hn : n < s.now.length) :
    Calls Tryz.prog 20 #[.pointer (some ⟨s0, 0, none⟩), .int .i64 n] w (AwJRead w0 s0 s t0 t bx (s.now.getD n [])) := by
  obtain ⟨D, E, k1, k2, k3, k4, k5, k6, k7⟩ := h
  have hl := (k1.blk n hn).1
  refine (sread_calls n w k1 hn).mono ?_
  rintro e w' ⟨D', g, c, he, g1, g2, g3, hg, hgD, hc, rest, hrow⟩
  refine ⟨g, c, rest, he, hc, hl, D', E, g1, k2.mod g3 (fun k hk hd => k5 k hd hk), fun k hk => (g2 k hk).elim (k3 k) (fun h => Nat.le_trans k6.size h), k4, fun k hk he => (g2 k hk).elim (fun hd => k5 k hd he) (fun h => by have := k2.sub k he; omega),
    k6.trans ⟨g3.os, g3.tape, g3.output, g3.size, fun k hk => g3.block k (Nat.lt_of_lt_of_le hk k6.size) (fun h => by have := k3 k h; omega)⟩, fun p hp => ?_⟩
  rcases List.mem_cons.1 hp with rfl | hp
  · exact ⟨hrow, hgD, fun he => by have := k2.sub g he; omega⟩
  · exact ⟨(k7 p hp).1.mod g3 (k7 p hp).2.1, fun hd => (g2 _ hd).elim (k7 p hp).2.1 (fun h => by have := (k7 p hp).1.lt; omega), (k7 p hp).2.2⟩
theorem second_box (w : World) (o : Obj) (cs : List Value) (ty : TypeId) : Strc ((w.alloc o).alloc (.cells cs.toArray ty)) (w.heap.size + 1) ty cs := by
  have h := alloc_last (w.alloc o) (.cells cs.toArray ty)
  have e : (w.alloc o).heap.size = w.heap.size + 1 := Array.size_push ..
  rw [e] at h
  exact h
theorem take_succ_ne {l m : List Int} (k : Nat) (h1 : k < l.length) (h2 : k < m.length) (h : l.getD k 0 ≠ m.getD k 0) : (l == m) = false := by
  rw [beq_eq_false_iff_ne]
  rintro rfl
  exact h rfl
theorem take_succ_eq {l m : List Int} (k : Nat) (h1 : k < l.length) (h2 : k < m.length) (ht : l.take k = m.take k) (h : l.getD k 0 = m.getD k 0) : l.take (k + 1) = m.take (k + 1) := by
  rw [List.take_succ_eq_append_getElem h1, List.take_succ_eq_append_getElem h2, ht]
  have : l[k] = m[k] := by simpa [List.getD_eq_getElem?_getD, h1, h2] using h
  rw [this]
set_option maxHeartbeats 1000000 in
set_option maxRecDepth 100000 in
theorem same_calls (A B : Option Addr) (c d : Nat) (l m : List Int) (w : World) (hl : Kd.C (Kd.int .u8) w A l.length l) (hm : Kd.C (Kd.int .u8) w B m.length m) :
    Calls Tryz.prog 15 #[.slice A l.length c, .slice B m.length d] w fun e w' => e = .returned (.bool (l == m)) ∧ Below w.heap.size w w' := by
  have hll := (C_int_len hl).2
  have HL := Aside0.mk hl
  have HM := Aside0.mk hm
  clear hl hm
  obtain ⟨b, hb⟩ : ∃ b, (l == m) = b := ⟨_, rfl⟩
  rw [hb]
  by_cases hlen : l.length = m.length
  · have HBB := Aside0.mk hb
    have HLEN := Aside0.mk hlen
    rw [← hlen]
    clear hb hlen
    go_enter Tryz.func15, Tryz.ntmps15
    go_wp2
    go_loopg [5] l.length (fun g i wr => ∃ k : Nat, k + g = l.length ∧ i = .int .i64 k ∧ Aside0 (Below w.heap.size w wr) ∧ Aside0 (l.take k = m.take k))
    case atStart => exact ⟨0, by omega, rfl, ⟨Below.refl _ _⟩, ⟨rfl⟩⟩
    case round =>
      obtain ⟨k, hk, rfl, HB, HT⟩ := hrel
      cases gk with
      | zero =>
        obtain rfl : k = l.length := by omega
        go_wp2
        go_ret
        have : l = m := by
          have h := HT.out
          rw [List.take_length, List.take_of_length_le (by rw [HLEN.out]; exact Nat.le_refl _)] at h
          exact h
        exact ⟨by rw [← HBB.out, this]; simp, HB.out⟩
      | succ g =>
        have hkm : k < m.length := by have := HLEN.out; omega
        obtain ⟨ad, rfl, h1⟩ := C_int_at (Kd.C_below HL.out HB.out) k (by omega)
        obtain ⟨bd, rfl, h2⟩ := C_int_at (Kd.C_below HM.out HB.out) k hkm
        have hne := take_succ_ne (l := l) (m := m) k (by omega) hkm
        have heq := take_succ_eq (l := l) (m := m) k (by omega) hkm HT.out
        generalize l.getD k 0 = x at h1 hne heq
        generalize m.getD k 0 = y at h2 hne heq
        have i1 : (k : Int) < (l.length : Int) := by omega
        have i2 : k < l.length := by omega
        by_cases hxy : x = y
        · have HQ := Aside0.mk (heq hxy)
          subst hxy
          clear hne heq
          go_wp2
          go_quiet (fail)
          go_wp2
          go_roundg g
          case measure => omega
          case rel => exact ⟨k + 1, by omega, by go_num, ⟨pw_below_drewN HB.out _⟩, ⟨HQ.out⟩⟩
        · have hb0 := hne hxy
          rw [HBB.out] at hb0
          have hxy1 : (x != y) = true := by simpa using hxy
          subst hb0
          clear hne heq hxy
          go_wp2
          go_quiet (fail)
          go_wp2
          go_ret
          exact ⟨rfl, pw_below_drewN HB.out _⟩
  · have hb0 : b = false := by
      rw [← hb, beq_eq_false_iff_ne]
      rintro rfl
      exact hlen rfl
    have hl1 : ((l.length : Int) != (m.length : Int)) = true := by rw [bne_iff_ne]; omega
    subst hb0
    clear hb hlen
    go_enter Tryz.func15, Tryz.ntmps15
    go_wp2
    go_ret
    exact ⟨rfl, Below.refl _ _⟩
theorem names_ne {a b : ByteArray} (h : a ≠ b) : (a.toList == b.toList) = false := by
  rw [beq_eq_false_iff_ne]
  intro e
  exact h ((cmpN_eq _ _).1 (by unfold cmpN; rw [cmpB_eq, baData, baData]; exact e))
set_option maxHeartbeats 1000000 in
set_option maxRecDepth 100000 in
theorem ord_eq (whata howa goala : Int) (nma : ByteArray) (Aa : Option Addr) (ca : Nat) (la : List Int) (whatb howb goalb : Int) (nmb : ByteArray) (Ab : Option Addr) (cb : Nat) (lb : List Int) (w : World) (hT : Tab w)
    (hva : Kd.C (Kd.int .u8) w Aa la.length la) (hna : Aa = none → ca = 0) (hda : ∀ ad, Aa = some ad → ad.block < w.heap.size) (hba : allB la)
    (hvb : Kd.C (Kd.int .u8) w Ab lb.length lb) (hnb : Ab = none → cb = 0) (hdb : ∀ ad, Ab = some ad → ad.block < w.heap.size) (hbb : allB lb) (hne : nma = nmb) :
    Calls Tryz.prog 5 #[.agg #[.int .i64 whata, .string nma, .slice Aa la.length ca, .int .i64 howa, .int .i64 goala], .agg #[.int .i64 whatb, .string nmb, .slice Ab lb.length cb, .int .i64 howb, .int .i64 goalb]] w fun e w' => e = .returned (.bool true) ∧ Below w.heap.size w w' := by
  have h2w : 2 < w.heap.size := World.block_lt_of_cell? w _ (hT 0 (by omega))
  have HT := Aside0.mk (And.intro hT h2w)
  have HVA := Aside0.mk (And.intro hva (And.intro hna (And.intro hda hba)))
  have HVB := Aside0.mk (And.intro hvb (And.intro hnb (And.intro hdb hbb)))
  clear hT hva hna hda hba hvb hnb hdb hbb h2w
  have hq : (nma.toList == nmb.toList) = true := by rw [hne]; exact beq_self_eq_true _
  clear hne
  go_enter Tryz.func5, Tryz.ntmps5
  go_wp2_with fail
  have hb0 := below_alloc (below_alloc (Below.refl w.heap.size w) (.cells #[.int .i64 whata, .string nma, .slice Aa la.length ca, .int .i64 howa, .int .i64 goala] 41)) (.cells #[.int .i64 whatb, .string nmb, .slice Ab lb.length cb, .int .i64 howb, .int .i64 goalb] 41)
  have hp0 : Strc (w.alloc (.cells #[.int .i64 whata, .string nma, .slice Aa la.length ca, .int .i64 howa, .int .i64 goala] 41)) w.heap.size 41 [.int .i64 whata, .string nma, .slice Aa la.length ca, .int .i64 howa, .int .i64 goala] := alloc_last w _
  have hq0 : Strc ((w.alloc (.cells #[.int .i64 whata, .string nma, .slice Aa la.length ca, .int .i64 howa, .int .i64 goala] 41)).alloc (.cells #[.int .i64 whatb, .string nmb, .slice Ab lb.length cb, .int .i64 howb, .int .i64 goalb] 41)) (w.heap.size + 1) 41 [.int .i64 whatb, .string nmb, .slice Ab lb.length cb, .int .i64 howb, .int .i64 goalb] := second_box w _ _ _
  replace hp0 := hp0.below (below_alloc (Below.refl _ _) (.cells #[.int .i64 whatb, .string nmb, .slice Ab lb.length cb, .int .i64 howb, .int .i64 goalb] 41))
  generalize (w.alloc (.cells #[.int .i64 whata, .string nma, .slice Aa la.length ca, .int .i64 howa, .int .i64 goala] 41)).alloc (.cells #[.int .i64 whatb, .string nmb, .slice Ab lb.length cb, .int .i64 howb, .int .i64 goalb] 41) = w0 at hb0 hp0 hq0 ⊢
  obtain ⟨oca, hoca⟩ : ∃ l : List Value, [.int .i64 whata, .string nma, .slice Aa la.length ca, .int .i64 howa, .int .i64 goala] = l := ⟨_, rfl⟩
  obtain ⟨ocb, hocb⟩ : ∃ l : List Value, [.int .i64 whatb, .string nmb, .slice Ab lb.length cb, .int .i64 howb, .int .i64 goalb] = l := ⟨_, rfl⟩
  rw [hoca] at hp0
  rw [hocb] at hq0
  obtain ⟨pb, hpb⟩ : ∃ q, w.heap.size + 1 = q := ⟨_, rfl⟩
  rw [hpb] at hq0 ⊢
  obtain ⟨pa, hpa⟩ : ∃ q, w.heap.size = q := ⟨_, rfl⟩
  rw [hpa] at hp0 ⊢
  have HO := Aside0.mk (And.intro hoca (And.intro hocb (And.intro hpa hpb)))
  have HP0 := Aside0.mk (And.intro hp0 hq0)
  have HB0 := Aside0.mk hb0
  clear hb0 hp0 hq0 hoca hocb hpa hpb
  refine (awake_calls w0 (HT.out.1.below HB0.out)).mono ?_
  rintro e w1 ⟨rfl, hb1⟩
  have HB1 := Aside0.mk (below_then HB0.out HB0.out.size hb1)
  have HP1 := Aside0.mk (And.intro (HP0.out.1.below hb1) (HP0.out.2.below hb1))
  clear hb1 HP0
  dsimp only
  have n1 := HP1.out.1.cell 1 (.string nma) (by rw [← HO.out.1]; rfl)
  have n2 := HP1.out.2.cell 1 (.string nmb) (by rw [← HO.out.2.1]; rfl)
  go_wp2
  go_ret
  exact ⟨rfl, HB1.out⟩
end Go.Proofs.YtkmhilhfmfmckaaGreatDoor.Hand
