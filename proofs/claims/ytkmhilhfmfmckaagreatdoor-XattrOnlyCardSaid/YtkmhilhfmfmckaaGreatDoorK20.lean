/- Own texts and printed words of the kit, put together and trimmed by a program of mine (merge.py). -/
import Derived.Test.YtkmhilhfmfmckaaGreatDoorK19
import Derived.Test.YtkmhilhfmfmckaaGreatDoorRows
import Derived.Lib.LaidTab
import Derived.LaidMore
import Derived.LaidHandle
import Derived.MakeChecks
import Derived.Stop.LaidErr
import Derived.SizedLaws
import Derived.ChangeSlices
namespace Go.Proofs.YtkmhilhfmfmckaaGreatDoor.Hand
set_option linter.unusedSimpArgs false
set_option linter.unusedVariables false
open Go.Shelf Go.RowKit Go.Proofs.YtkmhilhfmfmckaaGreatDoorW.PrintWords Go.Proofs.YtkmhilhfmfmckaaGreatDoorW.PrintLast Go.Proofs.YtkmhilhfmfmckaaGreatDoorW.PrintMore
def BothPost (w : World) (e : Ending) (w' : World) : Prop := ∃ s0 q D, e = .returned (.tuple #[.pointer (some ⟨s0, 0, none⟩), .pointer (some ⟨q, 0, none⟩)]) ∧ StIs w' D s0 exS ∧ (∀ k, D k → w.heap.size ≤ k) ∧ Below w.heap.size w w'
theorem exDisk : List.replicate 300 zeros = exL := rfl
set_option maxHeartbeats 4000000 in
set_option maxRecDepth 100000 in
theorem both_calls (w : World) : Calls Tryz.prog 17 #[] w (BothPost w) := by
  go_enter Tryz.func17, Tryz.ntmps17
  go_upto_region 2 with fail
  have hq1 : Strc (w.alloc (.cells #[.int .i64 300, .int .i64 200, .int .i64 16, .int .i64 96] 80)) w.heap.size 80 [.int .i64 300, .int .i64 200, .int .i64 16, .int .i64 96] := alloc_last w _
  have hb0 := below_alloc (Below.refl w.heap.size w) (.cells #[.int .i64 300, .int .i64 200, .int .i64 16, .int .i64 96] 80)
  generalize w.alloc (.cells #[.int .i64 300, .int .i64 200, .int .i64 16, .int .i64 96] 80) = w0 at hq1 hb0 ⊢
  have HB0 := Aside0.mk hb0
  have HQ1 := Aside0.mk hq1
  have hq0l := hq1.lt
  obtain ⟨q0, hq0⟩ : ∃ q0, w.heap.size = q0 := ⟨_, rfl⟩
  have HQ0 := Aside0.mk hq0
  rw [hq0] at HQ1 hq0l ⊢
  clear hq1 hb0 hq0
  have hdn := dnew_calls 300 w0 (by omega) (by omega)
  rw [show ((300 : Nat) : Int) = 300 from rfl, exDisk] at hdn
  have HDN := Aside0.mk hdn
  clear hdn
  go_wp2_with fail
  with_reducible refine HDN.out.mono ?_
  rintro e w1 ⟨p1, rfl, hd1, hb1⟩
  have hcs := HQ1.out.below hb1
  have HQ2 := Aside0.mk hcs
  have d0 := hcs.cell 0 _ rfl
  have d1 := hcs.cell 1 _ rfl
  have d2 := hcs.cell 2 _ rfl
  have d3 := hcs.cell 3 _ rfl
  have HB1 := Aside0.mk hb1
  have HMK := Aside0.mk (show Calls Tryz.prog 46 #[.pointer (some ⟨p1, 0, none⟩), .agg #[.int .i64 300, .int .i64 200, .int .i64 16, .int .i64 96]] w1 _ from make_calls exG w1 hd1 (fun k h => h.2) rfl exMkOk (by omega))
  clear hcs hd1 hb1
  dsimp only
  go_wp2_with fail
  with_reducible refine HMK.out.mono ?_
  rintro e w2 ⟨rfl, D2, hd2, hD2, hm2⟩
  have hm02 : Below w0.heap.size w0 w2 := (HB1.out.trans ⟨hm2.os, hm2.tape, hm2.output, hm2.size, fun k hk => hm2.block k (Nat.lt_of_lt_of_le hk HB1.out.size) (fun h => by omega)⟩)
  have HQ3 := Aside0.mk (HQ1.out.below hm02)
  have HB2 := Aside0.mk hm02
  have HSN := Aside0.mk (snew_calls 4 64 w2 hd2 (fun k h => (hD2 k h).2) (by omega) (by omega) (by omega) (by omega))
  have HD2 := Aside0.mk (show ∀ k, D2 k → w0.heap.size ≤ k from fun k h => (hD2 k h).1.elim (fun h => h.1) (fun h => Nat.le_trans HB1.out.size h))
  clear hd2 hD2 hm2 hm02 d0 d1 d2 d3
  dsimp only
  rw [show ((4 : Nat) : Int) = 4 from rfl, show ((64 : Nat) : Int) = 64 from rfl] at HSN
  go_wp2_with fail
  with_reducible refine HSN.out.mono ?_
  rintro e w3 ⟨s0, rfl, hst3, hb3⟩
  have HB3 := Aside0.mk (below_then HB2.out HB2.out.size hb3)
  have HST3 := Aside0.mk hst3
  have HQ4 := Aside0.mk (HQ3.out.below hb3)
  have HDS := Aside0.mk (show ∀ k, (D2 k ∨ (w2.heap.size ≤ k ∧ k < w3.heap.size)) → w0.heap.size ≤ k from fun k h => h.elim (HD2.out k) (fun h => Nat.le_trans HB2.out.size h.1))
  obtain ⟨DS, hDS⟩ : ∃ DS, (fun k => D2 k ∨ (w2.heap.size ≤ k ∧ k < w3.heap.size)) = DS := ⟨_, rfl⟩
  have HDS2 := Aside0.mk (show ∀ k, DS k → w0.heap.size ≤ k by rw [← hDS]; exact HDS.out)
  rw [hDS] at HST3
  clear hst3 hb3 hDS HDS
  dsimp only
  go_wp2_with fail
  with_reducible refine (rnew2_calls w3).mono ?_
  rintro e w4 ⟨p4, rfl, hd4, hb4⟩
  have HB4 := Aside0.mk (below_then HB3.out HB3.out.size hb4)
  have HST4 := Aside0.mk (HST3.out.below hb4)
  have HSB := Aside0.mk HST3.out.sub
  have hcs := HQ4.out.below hb4
  have d0 := hcs.cell 0 _ rfl
  have d1 := hcs.cell 1 _ rfl
  have d2 := hcs.cell 2 _ rfl
  have d3 := hcs.cell 3 _ rfl
  have HMK2 := Aside0.mk (show Calls Tryz.prog 49 #[.pointer (some ⟨p4, 0, none⟩), .agg #[.int .i64 300, .int .i64 200, .int .i64 16, .int .i64 96]] w4 _ from rmake_calls exG w4 hd4 (by omega) exGeo.1 rfl)
  clear hcs hd4 hb4
  dsimp only
  go_wp2_with fail
  with_reducible refine HMK2.out.mono ?_
  rintro e w5 ⟨D5, x5, m5, rfl, hd5, hD5, hm5⟩
  have HST5 := Aside0.mk (HST4.out.mod hm5 (fun k hk h => by have := HSB.out k hk; omega))
  have HB5 := Aside0.mk (show Below w0.heap.size w0 w5 from HB4.out.trans ⟨hm5.os, hm5.tape, hm5.output, hm5.size, fun k hk => hm5.block k (Nat.lt_of_lt_of_le hk HB4.out.size) (fun h => by have := HB3.out.size; omega)⟩)
  have HN6 := Aside0.mk (rnew6_calls w5 hd5 (by omega) (by omega))
  clear hd5 hD5 hm5 d0 d1 d2 d3
  dsimp only
  go_wp2_with fail
  with_reducible refine HN6.out.mono ?_
  rintro e w6 ⟨q6, rfl, hb6⟩
  have HST6 := Aside0.mk (HST5.out.below hb6)
  have HB6 := Aside0.mk (below_then HB5.out HB5.out.size hb6)
  clear hb6
  dsimp only
  go_wp2
  go_ret2
  exact ⟨s0, q6, DS, rfl, HST6.out, fun k hk => Nat.le_trans HB0.out.size (HDS2.out k hk), below_then HB0.out HB0.out.size HB6.out⟩
def frC (g : Nat) : List Value := exR.cells (.slice (some ⟨g, 0, none⟩) 48 48)
theorem run_build2 (g : Nat) (w : World) : (Instr.build 47 #[(0, .int .i64 1), (14, .slice (some ⟨g, 0, none⟩) 48 48)]).run Tryz.prog w = .ok (.agg (frC g).toArray) w := by kernel_rfl
set_option maxHeartbeats 4000000 in
set_option maxRecDepth 100000 in
theorem fresh_calls (w : World) : Calls Tryz.prog 19 #[] w fun e w' => ∃ g, e = .returned (.agg (frC g).toArray) ∧ Below w.heap.size w w' := by
  have hmk : ∀ w : World, (Instr.makeSlice 23 (.int .i64 48) (.int .i64 48)).run Tryz.prog w = .ok (.slice (some ⟨w.heap.size, 0, none⟩) 48 48) (w.alloc (.cells (nums .u8 (List.replicate 48 0)).toArray 5)) := fun w => by kernel_rfl
  obtain ⟨z, hz⟩ : ∃ z, (nums .u8 (List.replicate 48 0)).toArray = z := ⟨_, rfl⟩
  rw [hz] at hmk
  clear hz
  go_enter Tryz.func19, Tryz.ntmps19
  go_upto_region 1 with fail
  have hs : Strc (w.alloc (.cells inoZ.toArray 47)) w.heap.size 47 inoZ := alloc_last w _
  have hb := below_alloc (Below.refl w.heap.size w) (.cells inoZ.toArray 47)
  change Code.wp _ _ _ _ (w.alloc (.cells inoZ.toArray 47))
  generalize w.alloc (.cells inoZ.toArray 47) = w1 at hs hb ⊢
  obtain ⟨q, hq⟩ : ∃ q, w.heap.size = q := ⟨_, rfl⟩
  have HQ := Aside0.mk hq
  rw [hq] at hs ⊢
  refine wp_region_lit ?_
  refine wpList_plain rfl fun K hK => ?_
  unfold Oper.wp execOp
  go_simp
  refine hK _ _ ?_
  clear hK K
  have hs2 := hs.below (below_alloc (Below.refl w1.heap.size w1) (.cells z 5))
  have hb2 := below_then hb hb.size (below_alloc (Below.refl w1.heap.size w1) (.cells z 5))
  generalize w1.alloc (.cells z 5) = w2 at hs2 hb2 ⊢
  generalize w1.heap.size = g1
  refine wpList_plain rfl fun K hK => ?_
  have hbd := run_build2 g1 w2
  unfold Oper.wp
  simp only [execOp]
  rw [Sem.run_bind]
  simp only [List.map_toArray, List.map_cons, List.map_nil]
  erw [hbd]
  simp only [Result.andThen, Sem.run_pure]
  refine hK _ _ ?_
  clear hK K hbd
  have hinf := infIno (cs := frC g1) rfl
  refine wpList_store_row rfl 47 _ _ rfl q (frC g1).toArray rfl rfl 47 _ hs2 hinf rfl (by have := Ino_one exR (some ⟨g1, 0, none⟩) 48 48; simpa [frC] using this) ?_
  have hres := setRow_heap w2 q _ (frC g1).toArray 47 (0, 0) hs2
  have hm := mod_setRow w2 q (frC g1).toArray
  have hb3 : Below w.heap.size w (World.setRow w2 q (frC g1).toArray) := below_mod hb2 hm (by have := HQ.out; omega)
  generalize World.setRow w2 q (frC g1).toArray = w9 at hres hm hb3 ⊢
  have HRS := Aside0.mk hres
  have HB3 := Aside0.mk hb3
  clear hres hm hb3 hs hs2 hb hb2
  go_wp2
  refine bodyPost_ret (results_cell_row rfl _ w9 q 47 (frC g1).toArray (0, 0) _ rfl HRS.out Tryz.underlying47 rfl hinf) rfl ?_
  exact ⟨g1, rfl, HB3.out⟩
theorem StIs.allb {w : World} {D : Nat → Prop} {s0 : Nat} {s : St} (h : StIs w D s0 s) : ∀ b ∈ s.now, allB b := fun b hb => by
  obtain ⟨j, hj, e⟩ := List.getElem_of_mem hb
  have := (h.blk j hj).2
  rw [List.getD_eq_getElem?_getD, List.getElem?_eq_getElem hj, Option.getD_some, e] at this
  exact this
theorem resC_ok (r : Ino) (A : Option Addr) (n c : Nat) (x : Int) : (resC r (.slice A n c) x).length = 15 ∧ (resC r (.slice A n c) x).toArray.all (·.oneCell') = true := by
  unfold resC
  split
  · exact ⟨rfl, by have := Ino_one r A n c; simpa using this⟩
  · exact ⟨rfl, inoZ_one⟩
theorem aset_calls {D : Nat → Prop} {s0 : Nat} {s t : St} {r r' : Ino} {code : Int} (A : Option Addr) (n c : Nat) (nm : ByteArray) (Av : Option Addr) (cv : Nat) (val : List Int) (how goal : Int) (w : World) (heq : xsetR s r n nm val how goal = (t, r', code)) (h : StIs w D s0 s)
    (hv : Kd.C (Kd.int .u8) w Av val.length val) (hvn : Av = none → cv = 0) (hvb : allB val) (hvD : ∀ ad, Av = some ad → ¬ D ad.block) (hh : s.hist.length ≤ 900000) (hT : Tab w) (hTD : ¬ D 2) (hg0 : -4611686018427387904 ≤ goal) (hg1 : goal < 4611686018427387904) :
    Calls Tryz.prog 18 #[.pointer (some ⟨s0, 0, none⟩), .agg (r.cells (.slice A n c)).toArray, .string nm, .slice Av val.length cv, .int .i64 how, .int .i64 goal] w (InoPost D s0 t (resC r' (.slice A n c) code) code w) := by
  have := xset_calls r A n c nm Av cv val how goal w h h.allb hv hvn hvb hvD hh hT hTD hg0 hg1
  rw [xsetI_eq, heq] at this
  exact this
theorem arem_calls {D : Nat → Prop} {s0 : Nat} {s t : St} {r r' : Ino} {code : Int} (A : Option Addr) (n c : Nat) (nm : ByteArray) (w : World) (heq : xremR s r n nm = (t, r', code)) (h : StIs w D s0 s) (hh : s.hist.length ≤ 900000) :
    Calls Tryz.prog 22 #[.pointer (some ⟨s0, 0, none⟩), .agg (r.cells (.slice A n c)).toArray, .string nm] w (InoPost D s0 t (resC r' (.slice A n c) code) code w) := by
  have := xrem_calls r A n c nm w h h.allb hh
  rw [heq] at this
  exact this
def AwI (w0 : World) (s0 : Nat) (s : St) (bx : List (Nat × TypeId × List Value)) (w : World) : Prop := ∃ D, StIs w D s0 s ∧ (∀ k, D k → w0.heap.size ≤ k) ∧ Below w0.heap.size w0 w ∧ ∀ p ∈ bx, Strc w p.1 p.2.1 p.2.2 ∧ ¬ D p.1
theorem AwI.below {w0 w w1 : World} {s0 : Nat} {s : St} {bx : List (Nat × TypeId × List Value)} (h : AwI w0 s0 s bx w) (hb : Below w.heap.size w w1) : AwI w0 s0 s bx w1 := by
  obtain ⟨D, h1, h2, h3, h4⟩ := h
  exact ⟨D, h1.below hb, h2, below_then h3 h3.size hb, fun p hp => ⟨(h4 p hp).1.below hb, (h4 p hp).2⟩⟩
theorem AwI.push {w0 w : World} {s0 : Nat} {s : St} {bx : List (Nat × TypeId × List Value)} (h : AwI w0 s0 s bx w) (t : TypeId) (cs : List Value) : AwI w0 s0 s ((w.heap.size, t, cs) :: bx) (w.alloc (.cells cs.toArray t)) := by
  obtain ⟨D, h1, h2, h3, h4⟩ := h.below (below_alloc (Below.refl _ _) (.cells cs.toArray t))
  obtain ⟨D', h1', _, _, h4'⟩ := h
  refine ⟨D', h1'.below (below_alloc (Below.refl _ _) _), by assumption, h3, fun p hp => ?_⟩
  rcases List.mem_cons.1 hp with rfl | hp
  · exact ⟨alloc_last w _, fun hd => Nat.lt_irrefl _ (h1'.sub _ hd)⟩
  · exact ⟨(h4' p hp).1.below (below_alloc (Below.refl _ _) _), (h4' p hp).2⟩
theorem AwI.put {w0 w : World} {s0 q : Nat} {s : St} {bx : List (Nat × TypeId × List Value)} {t : TypeId} {cs : List Value} (cs' : List Value) (h : AwI w0 s0 s ((q, t, cs) :: bx) w) (hq : w0.heap.size ≤ q) (hne : ∀ p ∈ bx, p.1 ≠ q) : AwI w0 s0 s ((q, t, cs') :: bx) (w.setRow q cs'.toArray) := by
  obtain ⟨D, h1, h2, h3, h4⟩ := h
  have hs := h4 (q, t, cs) (List.mem_cons_self ..)
  have hm := mod_setRow w q cs'.toArray
  refine ⟨D, h1.mod hm (fun k hk e => hs.2 (e ▸ hk)), h2, h3.trans ⟨hm.os, hm.tape, hm.output, hm.size, fun k hk => hm.block k (Nat.lt_of_lt_of_le hk h3.size) (by omega)⟩, fun p hp => ?_⟩
  rcases List.mem_cons.1 hp with rfl | hp
  · exact ⟨setRow_heap w q _ cs'.toArray t (0, 0) hs.1, hs.2⟩
  · exact ⟨(h4 p (List.mem_cons_of_mem _ hp)).1.mod hm (hne p hp), (h4 p (List.mem_cons_of_mem _ hp)).2⟩
theorem AwI.get {w0 w : World} {s0 : Nat} {s : St} {bx : List (Nat × TypeId × List Value)} (h : AwI w0 s0 s bx w) {p : Nat × TypeId × List Value} (hp : p ∈ bx) : Strc w p.1 p.2.1 p.2.2 := h.elim fun D h => (h.2.2.2 p hp).1
theorem AwI.ge {w0 w : World} {s0 : Nat} {s : St} {bx : List (Nat × TypeId × List Value)} (h : AwI w0 s0 s bx w) : w0.heap.size ≤ w.heap.size := h.elim fun D h => h.2.2.1.size
theorem AwI.post {w0 w w' : World} {s0 : Nat} {t : St} {bx : List (Nat × TypeId × List Value)} {D D' : Nat → Prop} (h2 : ∀ k, D k → w0.heap.size ≤ k) (h3 : Below w0.heap.size w0 w) (h4 : ∀ p ∈ bx, Strc w p.1 p.2.1 p.2.2 ∧ ¬ D p.1) (g1 : StIs w' D' s0 t) (g2 : ∀ k, D' k → D k ∨ w.heap.size ≤ k) (g3 : Mod w w' D) : AwI w0 s0 t bx w' :=
  ⟨D', g1, fun k hk => (g2 k hk).elim (h2 k) (fun h => Nat.le_trans h3.size h), h3.trans ⟨g3.os, g3.tape, g3.output, g3.size, fun k hk => g3.block k (Nat.lt_of_lt_of_le hk h3.size) (fun h => by have := h2 k h; omega)⟩, fun p hp => ⟨(h4 p hp).1.mod g3 (h4 p hp).2, fun hd => (g2 _ hd).elim (h4 p hp).2 (fun h => by have := (h4 p hp).1.lt; omega)⟩⟩
def AwPost (w0 : World) (s0 : Nat) (t : St) (bx : List (Nat × TypeId × List Value)) (cs : List Value) (code : Int) (e : Ending) (w' : World) : Prop := e = .returned (.tuple #[.agg cs.toArray, .int .i64 code]) ∧ AwI w0 s0 t bx w'
theorem strc_reads {w : World} {q : Nat} {val : List Int} (h : Strc w q 5 (nums .u8 val)) (hl : val.length ≤ 1000) : Kd.C (Kd.int .u8) w (some ⟨q, 0, none⟩) val.length val := Row.reads ⟨[], by rw [List.append_nil]; exact h⟩ (by omega)
theorem AwI.set {w0 w : World} {s0 : Nat} {s t : St} {bx : List (Nat × TypeId × List Value)} {r r' : Ino} {code : Int} (h : AwI w0 s0 s bx w) (A : Option Addr) (n c : Nat) (nm : ByteArray) (Av : Option Addr) (cv : Nat) (val : List Int) (how goal : Int) (heq : xsetR s r n nm val how goal = (t, r', code)) (hT : Tab w0) (h2 : 2 < w0.heap.size)
    (hv : (val = [] ∧ Av = none ∧ cv = 0) ∨ ∃ q, Av = some ⟨q, 0, none⟩ ∧ (q, 5, nums .u8 val) ∈ bx) (hvb : allB val) (hl : val.length ≤ 1000) (hh : s.hist.length ≤ 900000) (hg0 : -4611686018427387904 ≤ goal) (hg1 : goal < 4611686018427387904) :
    Calls Tryz.prog 18 #[.pointer (some ⟨s0, 0, none⟩), .agg (r.cells (.slice A n c)).toArray, .string nm, .slice Av val.length cv, .int .i64 how, .int .i64 goal] w (AwPost w0 s0 t bx (resC r' (.slice A n c) code) code) := by
  obtain ⟨D, h1, hD, h3, h4⟩ := h
  have hTw : Tab w := hT.below h3
  have hd2 : ¬ D 2 := fun hd => by have := hD 2 hd; omega
  have key : Kd.C (Kd.int .u8) w Av val.length val ∧ (Av = none → cv = 0) ∧ ∀ ad, Av = some ad → ¬ D ad.block := by
    rcases hv with ⟨rfl, rfl, rfl⟩ | ⟨q, rfl, hq⟩
    · exact ⟨C_int_nil _ _ _, fun _ => rfl, fun ad h => nomatch h⟩
    · exact ⟨strc_reads (h4 _ hq).1 hl, (fun h => nomatch h), fun ad h => by cases h; exact (h4 _ hq).2⟩
  refine (aset_calls A n c nm Av cv val how goal w heq h1 key.1 key.2.1 hvb key.2.2 hh hTw hd2 hg0 hg1).mono ?_
  rintro e w' ⟨D', he, g1, g2, g3⟩
  exact ⟨he, AwI.post hD h3 h4 g1 g2 g3⟩
theorem AwI.rem {w0 w : World} {s0 : Nat} {s t : St} {bx : List (Nat × TypeId × List Value)} {r r' : Ino} {code : Int} (h : AwI w0 s0 s bx w) (A : Option Addr) (n c : Nat) (nm : ByteArray) (heq : xremR s r n nm = (t, r', code)) (hh : s.hist.length ≤ 900000) :
    Calls Tryz.prog 22 #[.pointer (some ⟨s0, 0, none⟩), .agg (r.cells (.slice A n c)).toArray, .string nm] w (AwPost w0 s0 t bx (resC r' (.slice A n c) code) code) := by
  obtain ⟨D, h1, hD, h3, h4⟩ := h
  refine (arem_calls A n c nm w heq h1 hh).mono ?_
  rintro e w' ⟨D', he, g1, g2, g3⟩
  exact ⟨he, AwI.post hD h3 h4 g1 g2 g3⟩
def AwList (w0 : World) (s0 : Nat) (s : St) (bx : List (Nat × TypeId × List Value)) (e : Ending) (w' : World) : Prop := ∃ g c h c' cur cur2, e = .returned (.tuple #[.slice (some ⟨g, 0, none⟩) 2 c, .int .i64 0]) ∧ AwI w0 s0 s ((g, 72, cur) :: (h, 5, cur2) :: bx) w' ∧ cur[0]? = some (.string exA) ∧ cur[1]? = some (.slice (some ⟨h, 0, none⟩) 1 c') ∧ cur2[0]? = some (.int .u8 2)
theorem AwI.list {w0 w : World} {s0 : Nat} {s : St} {bx : List (Nat × TypeId × List Value)} {r : Ino} (h : AwI w0 s0 s bx w) (A : Option Addr) (n c : Nat) (heq : xlistI s.now r n = ([exa, exb], 0)) :
    Calls Tryz.prog 26 #[.pointer (some ⟨s0, 0, none⟩), .agg (r.cells (.slice A n c)).toArray] w (AwList w0 s0 s bx) := by
  obtain ⟨D, h1, hD, h3, h4⟩ := h
  have := xlist_calls r A n c w h1
  rw [heq] at this
  refine this.mono ?_
  rintro e w' ⟨D', v, b, he, ⟨vs, hv, hrow, hvals⟩, hDb, hb, g1, g2, g3⟩
  obtain ⟨D2, i1, i2, i3, i4⟩ := AwI.post hD h3 h4 g1 g2 g3
  have h0 := hvals 0 (by simp)
  have hvl : vs.length = 2 := hv
  rcases hrow.2 with ⟨_, h0'⟩ | ⟨g, cp, cur, rfl, hbg, hh, _, _, hsz, htk⟩
  · simp at h0'
  · have hv0 : vs.getD 0 undef = vs[0]'(by omega) := by rw [List.getD_eq_getElem?_getD, List.getElem?_eq_getElem (by omega)]; rfl
    obtain ⟨hown, hab⟩ := h0
    have e0 : (attAt [exa, exb] 0).val = [2] := rfl
    rw [e0] at hown
    rcases hown.2 with ⟨_, h1'⟩ | ⟨gv, cv, curv, ev, hbv, hhv, _, _, hszv, htv⟩
    · simp at h1'
    · have hc := acells_at [exa, exb] vs 0 (by simp) hv
      have hlt : ∀ j u, (acells [exa, exb] vs)[j]? = some u → cur.toList[j]? = some u := fun j u hj => by
        rw [← htk, List.getElem?_take] at hj
        split at hj
        · exact hj
        · cases hj
      refine ⟨g, cp, gv, cv, cur.toList, curv.toList, he, ⟨D', g1, fun k hk => (g2 k hk).elim (hD k) (fun h => Nat.le_trans h3.size h), i3, ?_⟩, hlt 0 _ hc.1, ?_, ?_⟩
      · intro p hp
        rcases List.mem_cons.1 hp with rfl | hp
        · exact ⟨by simpa [Strc] using hh, fun hd => by have := hDb g hd; omega⟩
        · rcases List.mem_cons.1 hp with rfl | hp
          · exact ⟨by simpa [Strc] using hhv, fun hd => by have := hDb gv hd; omega⟩
          · exact ⟨(h4 p hp).1.mod g3 (h4 p hp).2, fun hd => (g2 _ hd).elim (h4 p hp).2 (fun h => by have := (h4 p hp).1.lt; omega)⟩
      · have := hlt 1 _ hc.2
        rw [ev] at this
        exact this
      · have : curv.toList.take (1 * 1) = [.int .u8 2] := htv
        have h0 : (curv.toList.take (1 * 1))[0]? = some (.int .u8 2) := by rw [this]; rfl
        rw [List.getElem?_take] at h0
        simpa using h0
theorem AwI.sub {w0 w : World} {s0 : Nat} {s : St} {bx bx' : List (Nat × TypeId × List Value)} (h : AwI w0 s0 s bx w) (hs : ∀ p ∈ bx', p ∈ bx) : AwI w0 s0 s bx' w := by
  obtain ⟨D, h1, h2, h3, h4⟩ := h
  exact ⟨D, h1, h2, h3, fun p hp => h4 p (hs p hp)⟩
theorem AwI.lt {w0 w : World} {s0 : Nat} {s : St} {bx : List (Nat × TypeId × List Value)} (h : AwI w0 s0 s bx w) {p : Nat × TypeId × List Value} (hp : p ∈ bx) : p.1 < w.heap.size := (h.get hp).lt
theorem AwI.made {w0 w : World} {s0 : Nat} {s : St} {bx : List (Nat × TypeId × List Value)} (h : AwI w0 s0 s bx w) (t : TypeId) (cs cs' : List Value) : AwI w0 s0 s ((w.heap.size, t, cs') :: bx) ((w.alloc (.cells cs.toArray t)).setRow w.heap.size cs'.toArray) :=
  (h.push t cs).put cs' h.ge (fun p hp e => by have := h.lt hp; omega)
set_option maxHeartbeats 8000000 in
set_option maxRecDepth 100000 in
theorem awake_calls (w : World) (hT : Tab w) : Calls Tryz.prog 9 #[] w fun e w' => e = .returned (.bool true) ∧ Below w.heap.size w w' := by
  have h2w : 2 < w.heap.size := World.block_lt_of_cell? w _ (hT 0 (by omega))
  have HT := Aside0.mk (And.intro hT h2w)
  obtain ⟨s1, s2, s3, s4, x1, x2, x3, x4, x5, x6, x7, y1, y2, y3⟩ := exAll
  have HX := Aside0.mk (And.intro x1 (And.intro x2 (And.intro x3 (And.intro x4 (And.intro x5 (And.intro x6 x7))))))
  have HY := Aside0.mk (And.intro y1 (And.intro y2 y3))
  clear hT h2w x1 x2 x3 x4 x5 x6 x7 y1 y2 y3
  go_enter Tryz.func9, Tryz.ntmps9
  go_wp2_with fail
  with_reducible refine (both_calls w).mono ?_
  rintro e w1 ⟨s0, q, D, rfl, hst, hD, hb⟩
  have HA1 := Aside0.mk (show AwI w s0 exS [] w1 from ⟨D, hst, hD, hb, fun p hp => nomatch hp⟩)
  clear hst hD hb
  dsimp only
  go_upto_region 2 with fail
  refine wp_region_lit ?_
  refine wpList_plain rfl fun K hK => ?_
  unfold Oper.wp execOp
  go_simp
  refine hK _ _ ?_
  clear hK K
  refine wpList_plain rfl fun K hK => ?_
  unfold Oper.wp execOp
  go_simp
  with_reducible refine (fresh_calls w1).mono ?_
  rintro e w2 ⟨g1, rfl, hb2⟩
  have HA2 := Aside0.mk (HA1.out.below hb2)
  clear hb2
  dsimp only
  refine hK _ _ ?_
  clear hK K
  refine wpList_plain rfl fun K hK => ?_
  unfold Oper.wp execOp
  go_simp
  refine hK _ _ ?_
  clear hK K
  have ha3 := HA2.out.push 5 [.int .u8 1]
  have hge := HA2.out.ge
  obtain ⟨cs1, hcs1⟩ : ∃ cs, resC exRx (.slice (some ⟨g1, 0, none⟩) 48 48) 0 = cs := ⟨_, rfl⟩
  have Hcs1 := Aside0.mk (And.intro hcs1 (by rw [← hcs1]; exact resC_ok exRx _ _ _ _ : cs1.length = 15 ∧ cs1.toArray.all (·.oneCell') = true))
  have hs : Calls Tryz.prog 18 #[.pointer (some ⟨s0, 0, none⟩), .agg (frC g1).toArray, .string ⟨#[98]⟩, .slice (some ⟨w2.heap.size, 0, none⟩) 1 1, .int .i64 0, .int .i64 0] (w2.alloc (.cells #[.int .u8 1] 5)) (AwPost w s0 s1 [(w2.heap.size, 5, [.int .u8 1])] cs1 0) := hcs1 ▸ ha3.set (some ⟨g1, 0, none⟩) 48 48 exB (some ⟨w2.heap.size, 0, none⟩) 1 [1] 0 0 HX.out.1 HT.out.1 HT.out.2 (.inr ⟨_, rfl, List.mem_cons_self ..⟩) (by decide) (by decide) (by decide) (by decide) (by decide)
  have HS := Aside0.mk hs
  clear ha3 hs hge hcs1
  generalize w2.alloc (.cells #[.int .u8 1] 5) = w3 at HS ⊢
  refine wpList_plain rfl fun K hK => ?_
  unfold Oper.wp execOp
  go_simp
  with_reducible refine HS.out.mono ?_
  rintro e w4 ⟨rfl, hax⟩
  have HA4 := Aside0.mk hax
  clear hax HS
  dsimp only
  refine hK _ _ ?_
  clear hK K
  refine wpList_plain rfl fun K hK => ?_
  unfold Oper.wp execOp
  go_simp
  refine hK _ _ ?_
  clear hK K
  refine wpList_plain rfl fun K hK => ?_
  unfold Oper.wp execOp
  go_simp
  refine hK _ _ ?_
  clear hK K
  refine wpList_plain rfl fun K hK => ?_
  unfold Oper.wp execOp
  go_simp
  refine hK _ _ ?_
  clear hK K
  refine wpList_plain rfl fun K hK => ?_
  unfold Oper.wp execOp
  go_simp
  refine hK _ _ ?_
  clear hK K
  change wpList _ _ _ _ _ (w4.alloc (.cells inoZ.toArray 47))
  have hsx : Strc (w4.alloc (.cells inoZ.toArray 47)) w4.heap.size 47 inoZ := alloc_last w4 _
  have hax := HA4.out.made 47 inoZ cs1
  refine wpList_store_row rfl 47 _ _ rfl w4.heap.size cs1.toArray rfl rfl 47 _ hsx (infIno (Hcs1.out.2.1)) (by first | rfl | (rw [List.size_toArray, List.size_toArray, Hcs1.out.2.1]; rfl)) Hcs1.out.2.2 ?_
  generalize World.setRow (w4.alloc (.cells inoZ.toArray 47)) w4.heap.size cs1.toArray = w5 at hax ⊢
  obtain ⟨qa, hqa⟩ : ∃ q, w4.heap.size = q := ⟨_, rfl⟩
  rw [hqa] at hax ⊢
  have HA5 := Aside0.mk hax
  clear hax hsx hqa
  refine wpList_plain rfl fun K hK => ?_
  unfold Oper.wp execOp
  go_simp
  refine hK _ _ ?_
  clear hK K
  go_upto_region 3 with fail
  refine wp_region_lit ?_
  refine wpList_plain rfl fun K hK => ?_
  unfold Oper.wp execOp
  go_simp
  refine hK _ _ ?_
  clear hK K
  refine wpList_load_row rfl 47 _ rfl qa rfl 47 cs1.toArray (0, 0) _ (HA5.out.get (p := (qa, 47, cs1)) (List.mem_cons_self ..)) Tryz.underlying47 rfl (infIno (Hcs1.out.2.1)) ?_
  refine wpList_plain rfl fun K hK => ?_
  unfold Oper.wp execOp
  go_simp
  refine hK _ _ ?_
  clear hK K
  have ha6 := (HA5.out.sub (bx' := [(qa, 47, cs1)]) (fun p hp => by simp at hp; subst hp; exact List.mem_cons_self ..)).push 5 [.int .u8 2]
  have hs : Calls Tryz.prog 18 #[.pointer (some ⟨s0, 0, none⟩), .agg cs1.toArray, .string ⟨#[97]⟩, .slice (some ⟨w5.heap.size, 0, none⟩) 1 1, .int .i64 0, .int .i64 0] (w5.alloc (.cells #[.int .u8 2] 5)) (AwPost w s0 s2 ((w5.heap.size, 5, [.int .u8 2]) :: [(qa, 47, cs1)]) cs1 0) := by
    have := ha6.set (r := exRx) (some ⟨g1, 0, none⟩) 48 48 exA (some ⟨w5.heap.size, 0, none⟩) 1 [2] 0 0 HX.out.2.1 HT.out.1 HT.out.2 (.inr ⟨_, rfl, List.mem_cons_self ..⟩) (by decide) (by decide) (by have := HY.out.1; omega) (by decide) (by decide)
    rw [Hcs1.out.1, show exRx.cells (.slice (some ⟨g1, 0, none⟩) 48 48) = cs1 from Hcs1.out.1] at this
    exact this
  have HS := Aside0.mk hs
  clear ha6 hs
  generalize w5.alloc (.cells #[.int .u8 2] 5) = w6 at HS ⊢
  refine wpList_plain rfl fun K hK => ?_
  unfold Oper.wp execOp
  go_simp
  with_reducible refine HS.out.mono ?_
  rintro e w7 ⟨rfl, hax⟩
  have HA7 := Aside0.mk hax
  clear hax HS
  dsimp only
  refine hK _ _ ?_
  clear hK K
  refine wpList_plain rfl fun K hK => ?_
  unfold Oper.wp execOp
  go_simp
  refine hK _ _ ?_
  clear hK K
  refine wpList_plain rfl fun K hK => ?_
  unfold Oper.wp execOp
  go_simp
  refine hK _ _ ?_
  clear hK K
  refine wpList_plain rfl fun K hK => ?_
  unfold Oper.wp execOp
  go_simp
  refine hK _ _ ?_
  clear hK K
  refine wpList_plain rfl fun K hK => ?_
  unfold Oper.wp execOp
  go_simp
  refine hK _ _ ?_
  clear hK K
  change wpList _ _ _ _ _ (w7.alloc (.cells inoZ.toArray 47))
  have hsx : Strc (w7.alloc (.cells inoZ.toArray 47)) w7.heap.size 47 inoZ := alloc_last w7 _
  have hax := HA7.out.made 47 inoZ cs1
  refine wpList_store_row rfl 47 _ _ rfl w7.heap.size cs1.toArray rfl rfl 47 _ hsx (infIno (Hcs1.out.2.1)) (by first | rfl | (rw [List.size_toArray, List.size_toArray, Hcs1.out.2.1]; rfl)) Hcs1.out.2.2 ?_
  generalize World.setRow (w7.alloc (.cells inoZ.toArray 47)) w7.heap.size cs1.toArray = w8 at hax ⊢
  obtain ⟨qb, hqb⟩ : ∃ q, w7.heap.size = q := ⟨_, rfl⟩
  rw [hqb] at hax ⊢
  have HA8 := Aside0.mk hax
  clear hax hsx hqb
  refine wpList_plain rfl fun K hK => ?_
  unfold Oper.wp execOp
  go_simp
  refine hK _ _ ?_
  clear hK K
  go_upto_region 4 with fail
  refine wp_region_lit ?_
  refine wpList_plain rfl fun K hK => ?_
  unfold Oper.wp execOp
  go_simp
  refine hK _ _ ?_
  clear hK K
  refine wpList_load_row rfl 47 _ rfl qb rfl 47 cs1.toArray (0, 0) _ (HA8.out.get (p := (qb, 47, cs1)) (List.mem_cons_self ..)) Tryz.underlying47 rfl (infIno (Hcs1.out.2.1)) ?_
  have hl : Calls Tryz.prog 26 #[.pointer (some ⟨s0, 0, none⟩), .agg cs1.toArray] w8 (AwList w s0 s2 [(qb, 47, cs1)]) := by
    have := (HA8.out.sub (bx' := [(qb, 47, cs1)]) (fun p hp => by simp at hp; subst hp; exact List.mem_cons_self ..)).list (r := exRx) (some ⟨g1, 0, none⟩) 48 48 HX.out.2.2.1
    rw [show exRx.cells (.slice (some ⟨g1, 0, none⟩) 48 48) = cs1 from Hcs1.out.1] at this
    exact this
  have HS := Aside0.mk hl
  clear hl
  refine wpList_plain rfl fun K hK => ?_
  unfold Oper.wp execOp
  go_simp
  with_reducible refine HS.out.mono ?_
  rintro e w9 ⟨g, c, h, c', cur, cur2, rfl, hax, k0, k1, k2⟩
  have HA9 := Aside0.mk hax
  have HKK := Aside0.mk (And.intro k0 (And.intro k1 k2))
  clear hax HS k0 k1 k2
  dsimp only
  refine hK _ _ ?_
  clear hK K
  refine wpList_plain rfl fun K hK => ?_
  unfold Oper.wp execOp
  go_simp
  refine hK _ _ ?_
  clear hK K
  refine wpList_plain rfl fun K hK => ?_
  unfold Oper.wp execOp
  go_simp
  refine hK _ _ ?_
  clear hK K
  refine wpList_plain rfl fun K hK => ?_
  unfold Oper.wp execOp
  go_simp
  refine hK _ _ ?_
  clear hK K
  refine wpList_plain rfl fun K hK => ?_
  unfold Oper.wp execOp
  go_simp
  refine hK _ _ ?_
  clear hK K
  refine wpList_plain rfl fun K hK => ?_
  unfold Oper.wp execOp
  go_simp
  refine hK _ _ ?_
  clear hK K
  have HinoZ := Aside0.mk (And.intro (rfl : inoZ = inoZ) (show inoZ.length = 15 ∧ inoZ.toArray.all (·.oneCell') = true from ⟨rfl, inoZ_one⟩))
  go_upto_region 5 with fail
  refine wp_region_lit ?_
  refine wpList_plain rfl fun K hK => ?_
  unfold Oper.wp execOp
  go_simp
  refine hK _ _ ?_
  clear hK K
  refine wpList_load_row rfl 47 _ rfl qb rfl 47 cs1.toArray (0, 0) _ (HA9.out.get (p := (qb, 47, cs1)) (by simp)) Tryz.underlying47 rfl (infIno (Hcs1.out.2.1)) ?_
  have hs : Calls Tryz.prog 18 #[.pointer (some ⟨s0, 0, none⟩), .agg cs1.toArray, .string ⟨#[97]⟩, .slice none 0 0, .int .i64 1, .int .i64 0] w9 (AwPost w s0 s2 [(g, 72, cur), (h, 5, cur2), (qb, 47, cs1)] inoZ 17) := by
    have := HA9.out.set (r := exRx) (some ⟨g1, 0, none⟩) 48 48 exA none 0 [] 1 0 HX.out.2.2.2.1 HT.out.1 HT.out.2 (.inl ⟨rfl, rfl, rfl⟩) (by decide) (by decide) (by have := HY.out.2.1; omega) (by decide) (by decide)
    rw [show exRx.cells (.slice (some ⟨g1, 0, none⟩) 48 48) = cs1 from Hcs1.out.1] at this
    exact this
  have HS := Aside0.mk hs
  clear hs
  refine wpList_plain rfl fun K hK => ?_
  unfold Oper.wp execOp
  go_simp
  with_reducible refine HS.out.mono ?_
  rintro e w10 ⟨rfl, hax⟩
  have HA10 := Aside0.mk hax
  clear hax HS
  dsimp only
  refine hK _ _ ?_
  clear hK K
  refine wpList_plain rfl fun K hK => ?_
  unfold Oper.wp execOp
  go_simp
  refine hK _ _ ?_
  clear hK K
  refine wpList_plain rfl fun K hK => ?_
  unfold Oper.wp execOp
  go_simp
  refine hK _ _ ?_
  clear hK K
  refine wpList_plain rfl fun K hK => ?_
  unfold Oper.wp execOp
  go_simp
  refine hK _ _ ?_
  clear hK K
  refine wpList_plain rfl fun K hK => ?_
  unfold Oper.wp execOp
  go_simp
  refine hK _ _ ?_
  clear hK K
  change wpList _ _ _ _ _ (w10.alloc (.cells inoZ.toArray 47))
  have hsx : Strc (w10.alloc (.cells inoZ.toArray 47)) w10.heap.size 47 inoZ := alloc_last w10 _
  have hax := HA10.out.made 47 inoZ inoZ
  refine wpList_store_row rfl 47 _ _ rfl w10.heap.size inoZ.toArray rfl rfl 47 _ hsx (infIno (HinoZ.out.2.1)) (by first | rfl | (rw [List.size_toArray, List.size_toArray, HinoZ.out.2.1]; rfl)) HinoZ.out.2.2 ?_
  generalize World.setRow (w10.alloc (.cells inoZ.toArray 47)) w10.heap.size inoZ.toArray = w11 at hax ⊢
  obtain ⟨qc, hqc⟩ : ∃ q, w10.heap.size = q := ⟨_, rfl⟩
  rw [hqc] at hax ⊢
  have HA11 := Aside0.mk hax
  clear hax hsx hqc
  refine wpList_plain rfl fun K hK => ?_
  unfold Oper.wp execOp
  go_simp
  refine hK _ _ ?_
  clear hK K
  have HA11 := Aside0.mk (HA11.out.sub (bx' := [(g, 72, cur), (h, 5, cur2), (qb, 47, cs1)]) (fun p hp => List.mem_cons_of_mem _ hp))
  go_upto_region 6 with fail
  refine wp_region_lit ?_
  refine wpList_plain rfl fun K hK => ?_
  unfold Oper.wp execOp
  go_simp
  refine hK _ _ ?_
  clear hK K
  refine wpList_load_row rfl 47 _ rfl qb rfl 47 cs1.toArray (0, 0) _ (HA11.out.get (p := (qb, 47, cs1)) (by simp)) Tryz.underlying47 rfl (infIno (Hcs1.out.2.1)) ?_
  have hs : Calls Tryz.prog 18 #[.pointer (some ⟨s0, 0, none⟩), .agg cs1.toArray, .string ⟨#[99]⟩, .slice none 0 0, .int .i64 2, .int .i64 0] w11 (AwPost w s0 s2 [(g, 72, cur), (h, 5, cur2), (qb, 47, cs1)] inoZ 61) := by
    have := HA11.out.set (r := exRx) (some ⟨g1, 0, none⟩) 48 48 exC none 0 [] 2 0 HX.out.2.2.2.2.1 HT.out.1 HT.out.2 (.inl ⟨rfl, rfl, rfl⟩) (by decide) (by decide) (by have := HY.out.2.1; omega) (by decide) (by decide)
    rw [show exRx.cells (.slice (some ⟨g1, 0, none⟩) 48 48) = cs1 from Hcs1.out.1] at this
    exact this
  have HS := Aside0.mk hs
  clear hs
  refine wpList_plain rfl fun K hK => ?_
  unfold Oper.wp execOp
  go_simp
  with_reducible refine HS.out.mono ?_
  rintro e w12 ⟨rfl, hax⟩
  have HA12 := Aside0.mk hax
  clear hax HS
  dsimp only
  refine hK _ _ ?_
  clear hK K
  refine wpList_plain rfl fun K hK => ?_
  unfold Oper.wp execOp
  go_simp
  refine hK _ _ ?_
  clear hK K
  refine wpList_plain rfl fun K hK => ?_
  unfold Oper.wp execOp
  go_simp
  refine hK _ _ ?_
  clear hK K
  refine wpList_plain rfl fun K hK => ?_
  unfold Oper.wp execOp
  go_simp
  refine hK _ _ ?_
  clear hK K
  refine wpList_plain rfl fun K hK => ?_
  unfold Oper.wp execOp
  go_simp
  refine hK _ _ ?_
  clear hK K
  change wpList _ _ _ _ _ (w12.alloc (.cells inoZ.toArray 47))
  have hsx : Strc (w12.alloc (.cells inoZ.toArray 47)) w12.heap.size 47 inoZ := alloc_last w12 _
  have hax := HA12.out.made 47 inoZ inoZ
  refine wpList_store_row rfl 47 _ _ rfl w12.heap.size inoZ.toArray rfl rfl 47 _ hsx (infIno (HinoZ.out.2.1)) (by first | rfl | (rw [List.size_toArray, List.size_toArray, HinoZ.out.2.1]; rfl)) HinoZ.out.2.2 ?_
  generalize World.setRow (w12.alloc (.cells inoZ.toArray 47)) w12.heap.size inoZ.toArray = w13 at hax ⊢
  obtain ⟨qd, hqd⟩ : ∃ q, w12.heap.size = q := ⟨_, rfl⟩
  rw [hqd] at hax ⊢
  have HA13 := Aside0.mk hax
  clear hax hsx hqd
  refine wpList_plain rfl fun K hK => ?_
  unfold Oper.wp execOp
  go_simp
  refine hK _ _ ?_
  clear hK K
  have HA13 := Aside0.mk (HA13.out.sub (bx' := [(g, 72, cur), (h, 5, cur2), (qb, 47, cs1)]) (fun p hp => List.mem_cons_of_mem _ hp))
  go_upto_region 7 with fail
  refine wp_region_lit ?_
  refine wpList_plain rfl fun K hK => ?_
  unfold Oper.wp execOp
  go_simp
  refine hK _ _ ?_
  clear hK K
  refine wpList_load_row rfl 47 _ rfl qb rfl 47 cs1.toArray (0, 0) _ (HA13.out.get (p := (qb, 47, cs1)) (by simp)) Tryz.underlying47 rfl (infIno (Hcs1.out.2.1)) ?_
  have hs : Calls Tryz.prog 22 #[.pointer (some ⟨s0, 0, none⟩), .agg cs1.toArray, .string ⟨#[97]⟩] w13 (AwPost w s0 s3 [(g, 72, cur), (h, 5, cur2), (qb, 47, cs1)] cs1 0) := by
    have := HA13.out.rem (r := exRx) (some ⟨g1, 0, none⟩) 48 48 exA HX.out.2.2.2.2.2.1 (by have := HY.out.2.1; omega)
    rw [Hcs1.out.1, show exRx.cells (.slice (some ⟨g1, 0, none⟩) 48 48) = cs1 from Hcs1.out.1] at this
    exact this
  have HS := Aside0.mk hs
  clear hs
  refine wpList_plain rfl fun K hK => ?_
  unfold Oper.wp execOp
  go_simp
  with_reducible refine HS.out.mono ?_
  rintro e w14 ⟨rfl, hax⟩
  have HA14 := Aside0.mk hax
  clear hax HS
  dsimp only
  refine hK _ _ ?_
  clear hK K
  refine wpList_plain rfl fun K hK => ?_
  unfold Oper.wp execOp
  go_simp
  refine hK _ _ ?_
  clear hK K
  refine wpList_plain rfl fun K hK => ?_
  unfold Oper.wp execOp
  go_simp
  refine hK _ _ ?_
  clear hK K
  refine wpList_plain rfl fun K hK => ?_
  unfold Oper.wp execOp
  go_simp
  refine hK _ _ ?_
  clear hK K
  refine wpList_plain rfl fun K hK => ?_
  unfold Oper.wp execOp
  go_simp
  refine hK _ _ ?_
  clear hK K
  change wpList _ _ _ _ _ (w14.alloc (.cells inoZ.toArray 47))
  have hsx : Strc (w14.alloc (.cells inoZ.toArray 47)) w14.heap.size 47 inoZ := alloc_last w14 _
  have hax := HA14.out.made 47 inoZ cs1
  refine wpList_store_row rfl 47 _ _ rfl w14.heap.size cs1.toArray rfl rfl 47 _ hsx (infIno (Hcs1.out.2.1)) (by first | rfl | (rw [List.size_toArray, List.size_toArray, Hcs1.out.2.1]; rfl)) Hcs1.out.2.2 ?_
  generalize World.setRow (w14.alloc (.cells inoZ.toArray 47)) w14.heap.size cs1.toArray = w15 at hax ⊢
  obtain ⟨qe, hqe⟩ : ∃ q, w14.heap.size = q := ⟨_, rfl⟩
  rw [hqe] at hax ⊢
  have HA15 := Aside0.mk hax
  clear hax hsx hqe
  refine wpList_plain rfl fun K hK => ?_
  unfold Oper.wp execOp
  go_simp
  refine hK _ _ ?_
  clear hK K
  obtain ⟨cs4, hcs4⟩ : ∃ cs, resC exR (.slice (some ⟨g1, 0, none⟩) 48 48) 0 = cs := ⟨_, rfl⟩
  have Hcs4 := Aside0.mk (And.intro hcs4 (by rw [← hcs4]; exact resC_ok exR _ _ _ _ : cs4.length = 15 ∧ cs4.toArray.all (·.oneCell') = true))
  clear hcs4
  go_upto_region 8 with fail
  refine wp_region_lit ?_
  refine wpList_plain rfl fun K hK => ?_
  unfold Oper.wp execOp
  go_simp
  refine hK _ _ ?_
  clear hK K
  refine wpList_load_row rfl 47 _ rfl qe rfl 47 cs1.toArray (0, 0) _ (HA15.out.get (p := (qe, 47, cs1)) (by simp)) Tryz.underlying47 rfl (infIno (Hcs1.out.2.1)) ?_
  have hs : Calls Tryz.prog 22 #[.pointer (some ⟨s0, 0, none⟩), .agg cs1.toArray, .string ⟨#[98]⟩] w15 (AwPost w s0 s4 ((qe, 47, cs1) :: [(g, 72, cur), (h, 5, cur2), (qb, 47, cs1)]) cs4 0) := by
    have := HA15.out.rem (r := exRx) (some ⟨g1, 0, none⟩) 48 48 exB HX.out.2.2.2.2.2.2 (by have := HY.out.2.2; omega)
    rw [Hcs4.out.1, show exRx.cells (.slice (some ⟨g1, 0, none⟩) 48 48) = cs1 from Hcs1.out.1] at this
    exact this
  have HS := Aside0.mk hs
  clear hs
  refine wpList_plain rfl fun K hK => ?_
  unfold Oper.wp execOp
  go_simp
  with_reducible refine HS.out.mono ?_
  rintro e w16 ⟨rfl, hax⟩
  have HA16 := Aside0.mk hax
  clear hax HS
  dsimp only
  refine hK _ _ ?_
  clear hK K
  refine wpList_plain rfl fun K hK => ?_
  unfold Oper.wp execOp
  go_simp
  refine hK _ _ ?_
  clear hK K
  refine wpList_plain rfl fun K hK => ?_
  unfold Oper.wp execOp
  go_simp
  refine hK _ _ ?_
  clear hK K
  refine wpList_plain rfl fun K hK => ?_
  unfold Oper.wp execOp
  go_simp
  refine hK _ _ ?_
  clear hK K
  refine wpList_plain rfl fun K hK => ?_
  unfold Oper.wp execOp
  go_simp
  refine hK _ _ ?_
  clear hK K
  change wpList _ _ _ _ _ (w16.alloc (.cells inoZ.toArray 47))
  have hsx : Strc (w16.alloc (.cells inoZ.toArray 47)) w16.heap.size 47 inoZ := alloc_last w16 _
  have hax := HA16.out.made 47 inoZ cs4
  refine wpList_store_row rfl 47 _ _ rfl w16.heap.size cs4.toArray rfl rfl 47 _ hsx (infIno (Hcs4.out.2.1)) (by first | rfl | (rw [List.size_toArray, List.size_toArray, Hcs4.out.2.1]; rfl)) Hcs4.out.2.2 ?_
  generalize World.setRow (w16.alloc (.cells inoZ.toArray 47)) w16.heap.size cs4.toArray = w17 at hax ⊢
  obtain ⟨qf, hqf⟩ : ∃ q, w16.heap.size = q := ⟨_, rfl⟩
  rw [hqf] at hax ⊢
  have HA17 := Aside0.mk hax
  clear hax hsx hqf
  refine wpList_plain rfl fun K hK => ?_
  unfold Oper.wp execOp
  go_simp
  refine hK _ _ ?_
  clear hK K
  have hA := HA17.out
  have f0 := (hA.get (p := (g, 72, cur)) (by simp)).cell 0 _ HKK.out.1
  have f1 := (hA.get (p := (g, 72, cur)) (by simp)).cell 1 _ HKK.out.2.1
  have f2 := (hA.get (p := (h, 5, cur2)) (by simp)).cell 0 _ HKK.out.2.2
  have f3 := (hA.get (p := (qf, 47, cs4)) (by simp)).cell 12 (.int .i64 0) (by rw [← Hcs4.out.1]; rfl)
  have f4 := (hA.get (p := (qf, 47, cs4)) (by simp)).cell 6 (.int .i64 0) (by rw [← Hcs4.out.1]; rfl)
  have HB := Aside0.mk (hA.elim fun D h => h.2.2.1)
  unfold exA at f0
  clear hA
  go_wp2
  go_ret
  exact ⟨rfl, HB.out⟩
theorem take_succ_ne {l m : List Int} (k : Nat) (h1 : k < l.length) (h2 : k < m.length) (h : l.getD k 0 ≠ m.getD k 0) : (l == m) = false := by
  rw [beq_eq_false_iff_ne]
  rintro rfl
  exact h rfl
theorem take_succ_eq {l m : List Int} (k : Nat) (h1 : k < l.length) (h2 : k < m.length) (ht : l.take k = m.take k) (h : l.getD k 0 = m.getD k 0) : l.take (k + 1) = m.take (k + 1) := by
  rw [List.take_succ_eq_append_getElem h1, List.take_succ_eq_append_getElem h2, ht]
  have : l[k] = m[k] := by simpa [List.getD_eq_getElem?_getD, h1, h2] using h
  rw [this]
set_option maxHeartbeats 1000000 in
set_option maxRecDepth 100000 in
theorem same_calls (A B : Option Addr) (c d : Nat) (l m : List Int) (w : World) (hl : Kd.C (Kd.int .u8) w A l.length l) (hm : Kd.C (Kd.int .u8) w B m.length m) :
    Calls Tryz.prog 15 #[.slice A l.length c, .slice B m.length d] w fun e w' => e = .returned (.bool (l == m)) ∧ Below w.heap.size w w' := by
  have hll := (C_int_len hl).2
  have HL := Aside0.mk hl
  have HM := Aside0.mk hm
  clear hl hm
  obtain ⟨b, hb⟩ : ∃ b, (l == m) = b := ⟨_, rfl⟩
  rw [hb]
  by_cases hlen : l.length = m.length
  · have HBB := Aside0.mk hb
    have HLEN := Aside0.mk hlen
    rw [← hlen]
    clear hb hlen
    go_enter Tryz.func15, Tryz.ntmps15
    go_wp2
    go_loopg [5] l.length (fun g i wr => ∃ k : Nat, k + g = l.length ∧ i = .int .i64 k ∧ Aside0 (Below w.heap.size w wr) ∧ Aside0 (l.take k = m.take k))
    case atStart => exact ⟨0, by omega, rfl, ⟨Below.refl _ _⟩, ⟨rfl⟩⟩
    case round =>
      obtain ⟨k, hk, rfl, HB, HT⟩ := hrel
      cases gk with
      | zero =>
        obtain rfl : k = l.length := by omega
        go_wp2
        go_ret
        have : l = m := by
          have h := HT.out
          rw [List.take_length, List.take_of_length_le (by rw [HLEN.out]; exact Nat.le_refl _)] at h
          exact h
        exact ⟨by rw [← HBB.out, this]; simp, HB.out⟩
      | succ g =>
        have hkm : k < m.length := by have := HLEN.out; omega
        obtain ⟨ad, rfl, h1⟩ := C_int_at (Kd.C_below HL.out HB.out) k (by omega)
        obtain ⟨bd, rfl, h2⟩ := C_int_at (Kd.C_below HM.out HB.out) k hkm
        have hne := take_succ_ne (l := l) (m := m) k (by omega) hkm
        have heq := take_succ_eq (l := l) (m := m) k (by omega) hkm HT.out
        generalize l.getD k 0 = x at h1 hne heq
        generalize m.getD k 0 = y at h2 hne heq
        have i1 : (k : Int) < (l.length : Int) := by omega
        have i2 : k < l.length := by omega
        by_cases hxy : x = y
        · have HQ := Aside0.mk (heq hxy)
          subst hxy
          clear hne heq
          go_wp2
          go_quiet (fail)
          go_wp2
          go_roundg g
          case measure => omega
          case rel => exact ⟨k + 1, by omega, by go_num, ⟨pw_below_drewN HB.out _⟩, ⟨HQ.out⟩⟩
        · have hb0 := hne hxy
          rw [HBB.out] at hb0
          have hxy1 : (x != y) = true := by simpa using hxy
          subst hb0
          clear hne heq hxy
          go_wp2
          go_quiet (fail)
          go_wp2
          go_ret
          exact ⟨rfl, pw_below_drewN HB.out _⟩
  · have hb0 : b = false := by
      rw [← hb, beq_eq_false_iff_ne]
      rintro rfl
      exact hlen rfl
    have hl1 : ((l.length : Int) != (m.length : Int)) = true := by rw [bne_iff_ne]; omega
    subst hb0
    clear hb hlen
    go_enter Tryz.func15, Tryz.ntmps15
    go_wp2
    go_ret
    exact ⟨rfl, Below.refl _ _⟩
set_option maxHeartbeats 1000000 in
set_option maxRecDepth 100000 in
theorem xonly_calls (A : Option Addr) (c : Nat) (s : Int) (l : List Int) (w : World) (hl : Kd.C (Kd.int .u8) w A l.length l) (hc : l.length ≤ c) (hs0 : 0 ≤ s) (hs1 : s < 4294967296) (hb : allB l) (hT : Tab w) :
    Calls Tryz.prog 4 #[.slice A l.length c, .int .u32 s] w fun e w' => e = .returned (.bool true) ∧ Below w.heap.size w w' := by
  have HU := Aside0.mk (fun (W : World) (hW : Below w.heap.size w W) => xunpack_calls A c s l W (Kd.C_below hl hW) hc hs0 hs1 hb)
  have HS := Aside0.mk (fun (W : World) (hW : Below w.heap.size w W) (B : Option Addr) (d : Nat) (hB : Kd.C (Kd.int .u8) W B l.length l) => same_calls A B c d l l W (Kd.C_below hl hW) hB)
  have HT := Aside0.mk hT
  unfold XUnpPost at HU
  have hll : (l == l) = true := by simp
  rw [hll] at HS
  have hcase := xunpI_zero (l := l) (s := s)
  have hlm := (C_int_len hl).2
  clear hl hb hll hT
  rcases hcase with hz | hx
  · have hpx := xunpI_pack hz
    obtain ⟨x, hx⟩ : ∃ x, xunpI l s = (x, 0) := ⟨_, Prod.ext rfl hz⟩
    rw [hx] at HU hpx
    dsimp only at hpx
    have hxl : x.length ≤ 83 := xpack_small (s := s) (by rw [hpx])
    have HPX := Aside0.mk hpx
    clear hx hpx hz
    go_enter Tryz.func4, Tryz.ntmps4
    go_wp2_with fail
    refine (awake_calls w HT.out).mono ?_
    rintro e w1 ⟨rfl, hb1⟩
    have HB := Aside0.mk hb1
    clear hb1
    dsimp only
    go_wp2_with fail
    refine (HU.out w1 HB.out).mono ?_
    rintro e w2 ⟨v2, rfl, ho2, hb2⟩
    have HB2 := Aside0.mk (below_then HB.out HB.out.size hb2)
    obtain ⟨A2, c2, rfl, hc2, hE2⟩ := OwnA.reads ho2 (by first | omega | (dsimp only; omega))
    have HE2 := Aside0.mk hE2
    clear hb2 ho2 hE2
    dsimp only at hc2 HE2 ⊢
    go_wp2_with fail
    refine (xpack_calls A2 c2 s x w2 HE2.out hc2 (by omega) hs0 hs1).mono ?_
    rintro e w3 ⟨v3, rfl, hb3, hr3, _⟩
    rw [HPX.out] at hr3 ⊢
    obtain ⟨g, c3, rfl, hg3, hc3, hrow3⟩ := hr3 rfl
    have HC3 := Aside0.mk (hrow3.reads (by dsimp only; omega))
    have HB3 := Aside0.mk (below_then HB2.out HB2.out.size hb3)
    clear hb3 hr3 hrow3
    dsimp only at hc3 HC3 ⊢
    go_wp2_with fail
    refine (HS.out w3 HB3.out _ c3 HC3.out).mono ?_
    rintro e w4 ⟨rfl, hb4⟩
    have HB4 := Aside0.mk (below_then HB3.out HB3.out.size hb4)
    clear hb4
    dsimp only
    go_wp2
    go_ret
    exact ⟨rfl, HB4.out⟩
  · rw [hx] at HU
    clear hx
    go_enter Tryz.func4, Tryz.ntmps4
    go_wp2_with fail
    refine (awake_calls w HT.out).mono ?_
    rintro e w1 ⟨rfl, hb1⟩
    have HB := Aside0.mk hb1
    clear hb1
    dsimp only
    go_wp2_with fail
    refine (HU.out w1 HB.out).mono ?_
    rintro e w2 ⟨v2, rfl, ho2, hb2⟩
    have HB2 := Aside0.mk (below_then HB.out HB.out.size hb2)
    obtain ⟨A2, c2, rfl, hc2, hE2⟩ := OwnA.reads ho2 (by simp)
    clear hb2 ho2 hE2
    dsimp only at hc2 ⊢
    go_wp2
    go_ret
    exact ⟨rfl, HB2.out⟩
theorem xallB_wf {l : List Int} (h : ∀ x ∈ l, (Lit.int .u8 x).wf = true) : allB l := fun x hx => by
  have := h x hx
  simp [Lit.wf, IntKind.min, IntKind.max, IntKind.bits, IntKind.signed] at this
  omega
theorem xwf_u32 {x : Int} (h : (Lit.int .u32 x).wf = true) : 0 ≤ x ∧ x < 4294967296 := by
  simp [Lit.wf, IntKind.min, IntKind.max, IntKind.bits, IntKind.signed] at h
  omega
theorem xonly_walk (a0 : Option Addr) (len0 cap0 : Nat) (z0 : List Int) (a1 : Int) (w : World)
    (w0 : (a0 = none ∧ len0 = 0 ∧ cap0 = 0 ∧ z0 = []) ∨ ∃ x, a0 = some x ∧ len0 ≤ cap0 ∧ cap0 ≤ maxLen ∧ z0.length = cap0 ∧ (∀ i, i < z0.length → w.cell? (x.add i) = some (.int .u8 (z0.getD i 0))) ∧ ∀ n ∈ z0, (Lit.int .u8 n).wf = true)
    (y0 : len0 * 1 ≤ 140737488351232) (w1 : (Lit.int .u32 a1).wf = true) (hT : Tab w) :
    Calls Tryz.prog 4 #[.slice a0 len0 cap0, .int .u32 a1] w fun e w' => e = .returned (.bool true) ∧ Below w.heap.size w w' := by
  obtain ⟨l, rfl, hr, hm, hw, hc⟩ := ReadsInt.ofRowC w0
  exact xonly_calls a0 cap0 a1 l w (Kd.C_of_reads (d := (0 : Int)) (h1 := fun _ => rfl) hr) hc (xwf_u32 w1).1 (xwf_u32 w1).2 (xallB_wf hw) hT
end Go.Proofs.YtkmhilhfmfmckaaGreatDoor.Hand
namespace Go.Proofs.YtkmhilhfmfmckaaGreatDoor.Hand
set_option maxRecDepth 100000
open Go Go.RowKit
def laidL : List (String × DataW Unit) := [("math/bits.deBruijn32tab", Rows.laid_math_bits_deBruijn32tab), ("math/bits.deBruijn64tab", Rows.laid_math_bits_deBruijn64tab)]
theorem g64 : Tryz.prog.globalNamed "math/bits.deBruijn64tab" = some 2 := by kernel_rfl
theorem t64 : (Tryz.prog.globals[2]?).map (·.type) = some 236 := by kernel_rfl
theorem e64 : ∃ e, Tryz.prog.underlying 236 = some (.array 64 e) ∧ Tryz.prog.underlying e = some (.int .u8) ∧ Tryz.prog.cellsOf e = 1 := ⟨5, by kernel_rfl, by kernel_rfl, by kernel_rfl⟩
theorem tab_data {H : Type} : (Rows.laid_math_bits_deBruijn64tab : DataW H) = Go.Lib.tabData .u8 (List.map (fun (n : Nat) => (n : Int)) Go.Lib.deBruijn64tab) := rfl
theorem tab_of_laid {W : World} (h : laidMetH Tryz.prog laidL W) : Tab W := by
  rw [MakeChecks.laidMetH_plain _ _ _ (by kernel_rfl)] at h
  have h2 := laidMet.tail (show laidMet Tryz.prog (("math/bits.deBruijn32tab", Rows.laid_math_bits_deBruijn32tab) :: [("math/bits.deBruijn64tab", Rows.laid_math_bits_deBruijn64tab)]) W from h)
  rw [tab_data] at h2
  obtain ⟨e, he, he1, he2⟩ := e64
  have ht := Go.Lib.tabIs_of_head g64 t64 he he1 he2 (by kernel_rfl) h2
  intro i hi
  have := ht.cell g64 i (by simpa [Go.Lib.deBruijn64tab] using hi)
  rw [this]
  congr 1
  simp only [List.getD_eq_getElem?_getD, List.getElem?_map]
  cases Go.Lib.deBruijn64tab[i]? <;> rfl
theorem door_met (os : Os) (args : Array Value) : laidMetH Tryz.prog laidL ((World.doorLaid Tryz.prog 19 os).forCall (fun _ _ => 0) ⟨#[], args, []⟩).memory :=
  laidMetH_of_parts3 (fuel := 8) (laidMet_of_run' 65 (by kernel_rfl) (by kernel_rfl)) (by kernel_rfl) (by kernel_rfl)
end Go.Proofs.YtkmhilhfmfmckaaGreatDoor.Hand
namespace Go.Proofs.YtkmhilhfmfmckaaGreatDoorW.PrintWords
open Go.ChangeShapes Go.WideShapes
theorem sized_ints {H : Type} {enc : TypeId × Value → H} {P : Program} {W : World} {base : Nat} {spare : Nat → Bool} {held : Bool} {t e : TypeId} {k : IntKind} {a : Option Addr} {len cap : Nat} {d : DataW H} {ps : List MemPlace} {ts : List TypeId} {ds : List (DataW H)} {j : Nat}
    (hsz : (DataW.weightsEach P ts ds).all (· ≤ reachBytes) = true) (ht : ts[j]? = some t) (hd : ds[j]? = some d) (hu : P.underlying t = some (.slice e)) (he : P.underlying e = some (.int k)) (hc : P.cellsOf e = 1) {B : Nat} (hB : P.bytesOf e = B)
    (h : DataW.Trod enc P W base spare held t (.slice a len cap) d ps) : len * B ≤ 140737488351232 := by
  obtain ⟨fuel, hf⟩ := h
  rcases open_ints hu he hc hf with ⟨hcs, _⟩ | ⟨x, l, c, zs, hcs, _, hl, _, hz, hx, _, _⟩
  · simp [Value.cells] at hcs
    obtain ⟨rfl, rfl, rfl⟩ := hcs
    simp
  · simp [Value.cells] at hcs
    obtain ⟨rfl, rfl, rfl⟩ := hcs
    obtain ⟨hx, _⟩ := Prod.mk.inj hx
    subst hx
    have z := sized_slice hsz ht hd hu
    rw [hB] at z
    have hl2 : len ≤ zs.length := by
      rw [hz]
      split
      · exact hl
      · exact Nat.le_refl _
    have h1 : (lits (H := H) k (zs.take len)).length + (lits (H := H) k (zs.drop len)).length = zs.length := by
      simp [lits]
      omega
    rw [h1] at z
    exact Nat.le_trans (Nat.mul_le_mul_right _ hl2) z
end Go.Proofs.YtkmhilhfmfmckaaGreatDoorW.PrintWords
