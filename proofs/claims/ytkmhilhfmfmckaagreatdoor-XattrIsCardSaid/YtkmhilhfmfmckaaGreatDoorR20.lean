/- Own texts and printed words of the kit, put together and trimmed by a program of mine (merge.py). -/
import Derived.Test.YtkmhilhfmfmckaaGreatDoorR19
import Derived.Laws.AppendOwn
import Derived.Test.YtkmhilhfmfmckaaGreatDoorRows
import Derived.WalkKit
import Derived.ProofKit
import Derived.OpenShut
import Derived.ShutString
import Derived.ChangeOld
import Derived.ChangeArms
import Derived.Deep.Slices
import Derived.Deep.Fields
import Derived.ChangeSame
import Derived.Deep.DeepCutAuto
import Derived.Deep.CutBlock
import Derived.Lib.LaidTab
import Derived.LaidMore
import Derived.LaidHandle
import Derived.MakeChecks
import Derived.Stop.LaidErr
namespace Go.Proofs.YtkmhilhfmfmckaaGreatDoor.Hand
set_option linter.unusedSimpArgs false
set_option linter.unusedVariables false
open Go.Shelf Go.RowKit Go.Proofs.YtkmhilhfmfmckaaGreatDoorW.PrintWords Go.Proofs.YtkmhilhfmfmckaaGreatDoorW.PrintLast Go.Proofs.YtkmhilhfmfmckaaGreatDoorW.PrintMore
section
variable {P : Program} {w : World} {o : Oper} {a : Act} {K : Act → World → Prop} {Q : Exit → Act → World → Prop}
theorem run_append_where (base : Nat) (t ty e : TypeId) (i : TypeInfo) (z : Value) (size bytes : Nat) (ht : P.underlying t = some (.slice e)) (hi : P.info? e = some i) (hz : i.zero = some z)
  (hsize : i.size = size) (hby : i.bytes = bytes) (hzs : z.cells.size = size) (hsz : 0 < size)
  (v : Value) (n : Nat) (xs : List Value) (hown : w.ownsRow base e size v n xs)
  (a : Addr) (m c : Nat) (news : List Value) (hl : news.length = m * size) (hnews : ∀ j u, news[j]? = some u → w.cell? (a.add j) = some u) (h1 : ∀ u ∈ news, u.oneCell' = true)
  (h63 : n + m ≤ maxLen) (hbytes : (n + m) * bytes ≤ 140737488355328) :
  ∃ v' w', (Builtin.append_ #[t, t] ty #[v, .slice (some a) m c]).run P w = .ok v' w' ∧ ∀ g, v'.ownBlock = some g → v.ownBlock = some g ∨ w.heap.size ≤ g := by
 subst hsize
 subst hby
 have hsmall : n + m ≤ 9223372036854775807 := by simp only [maxLen] at h63; omega
 rcases hown.2 with ⟨rfl, rfl⟩ | ⟨g, cap, cur, rfl, hbg, hg, hnc, hcm, hcs, htake⟩
 ·by_cases hm : m = 0
  ·subst hm
   have hn : news = [] := List.eq_nil_of_length_eq_zero (by simpa using hl)
   subst hn
   refine ⟨.slice none 0 0, w, ?_, fun g hg => by simp [Value.ownBlock] at hg⟩
   simp [Builtin.append_, run_underlying ht, sizeOf, typeInfo, hi, Builtin.lenOf, Builtin.firstCells, loadCells, loadCellsFrom]
  ·have hr := run_append_nil (P := P) w t ty e i z ht hi hz a m c news hl hnews (by omega) (by omega) (by have hb := hbytes; simp only [Nat.zero_add] at hb; omega)
   exact ⟨_, _, hr, fun g hg => by
    simp [Value.ownBlock] at hg
    exact .inr (by omega)⟩
 ·by_cases hroom : n + m ≤ cap
  ·have hfit : n * i.size + news.length ≤ cur.size := by rw [hl, hcs, ← Nat.add_mul]; exact Nat.mul_le_mul_right _ hroom
   have hr := run_append_room (P := P) w t ty e i ht hi g n cap cur hg a m c news hl hnews h1 hroom hfit
   exact ⟨_, _, hr, fun g' hg' => .inl (by simpa [Value.ownBlock] using hg')⟩
  ·have holds : ∀ j u, xs[j]? = some u → w.cell? ((⟨g, 0, none⟩ : Addr).add j) = some u := hown.cells (g := g) rfl
   have hr := run_append_grow (P := P) w t ty e i z ht hi hz ⟨g, 0, none⟩ n cap xs hown.1 holds a m c news hl hnews (by omega) (by omega) (growslice_fits (by omega) hbytes)
   exact ⟨_, _, hr, fun g' hg' => by
    simp [Value.ownBlock] at hg'
    exact .inr (by omega)⟩
theorem wp_append_where (s x : Operand) (t : TypeId) (ho : o.op = .call { callee := .builtin .append, args := #[s, x], argTypes := #[t, t] })
  (base : Nat) (e : TypeId) (i : TypeInfo) (z : Value) (size bytes : Nat) (ht : P.underlying t = some (.slice e)) (hi : P.info? e = some i) (hz : i.zero = some z)
  (hsize : i.size = size) (hby : i.bytes = bytes) (hzs : z.cells.size = size) (hsz : 0 < size)
  (v : Value) (n : Nat) (xs : List Value) (hs : a.eval s = v) (hown : w.ownsRow base e size v n xs)
  (ad : Addr) (m c : Nat) (news : List Value) (hx : a.eval x = .slice (some ad) m c) (hl : news.length = m * size) (hnews : ∀ j u, news[j]? = some u → w.cell? (ad.add j) = some u) (h1 : ∀ u ∈ news, u.oneCell' = true)
  (h63 : n + m ≤ maxLen) (hbytes : (n + m) * bytes ≤ 140737488355328) (hbase : base ≤ w.heap.size)
  (h : ∀ v' w', w'.ownsRow base e size v' (n + m) (xs ++ news) → w.grownBy w' v.ownBlock → (∀ g, v'.ownBlock = some g → v.ownBlock = some g ∨ w.heap.size ≤ g) → K (a.put o.dst v') w') : o.wp P a w K Q := by
 obtain ⟨v', w', hr, h2, h3, h4⟩ := run_append_own (P := P) w base t o.type e i z size bytes ht hi hz hsize hby hzs hsz v n xs hown ad m c news hl hnews h1 h63 hbytes hbase
 obtain ⟨v2, w2, hr2, h5⟩ := run_append_where (P := P) (w := w) base t o.type e i z size bytes ht hi hz hsize hby hzs hsz v n xs hown ad m c news hl hnews h1 h63 hbytes
 have hq := hr.symm.trans hr2
 cases hq
 unfold Oper.wp execOp
 simp only [ho, resolve, invoke, builtin, Sem.run_bind, Sem.run_pure, Result.andThen_ok, List.map_toArray, List.map_cons, List.map_nil, hs, hx, hr]
 exact h v' w' h2 h3 h5
end
def Wnt (w0 w : World) (D : Nat → Prop) (v : Value) (W : List Att) : Prop :=
 ∃ vs : List Value, vs.length = W.length ∧ w.ownsRow w0.heap.size 72 2 v W.length (acells W vs) ∧ (∀ g, v.ownBlock = some g → ¬ D g) ∧ ∀ j, j < W.length → goodV w0 (attAt W j) (vs.getD j undef)
def IsM (w0 : World) (s0 : Nat) (s : St) (bx : List (Nat × TypeId × List Value)) (v : Value) (W : List Att) (w : World) : Prop :=
 ∃ D, StIs w D s0 s ∧ (∀ k, D k → w0.heap.size ≤ k) ∧ Below w0.heap.size w0 w ∧ (∀ p ∈ bx, Strc w p.1 p.2.1 p.2.2 ∧ ¬ D p.1 ∧ w0.heap.size ≤ p.1 ∧ p.2.1 ≠ 72) ∧ Wnt w0 w D v W
section
variable {w0 w : World} {s0 : Nat} {s t : St} {bx : List (Nat × TypeId × List Value)} {v : Value} {W : List Att}
theorem IsM.bel (h : IsM w0 s0 s bx v W w) : Below w0.heap.size w0 w := h.elim fun D h => h.2.2.1
theorem IsM.get (h : IsM w0 s0 s bx v W w) {p : Nat × TypeId × List Value} (hp : p ∈ bx) : Strc w p.1 p.2.1 p.2.2 := h.elim fun D h => (h.2.2.2.1 p hp).1
theorem IsM.lt (h : IsM w0 s0 s bx v W w) {p : Nat × TypeId × List Value} (hp : p ∈ bx) : p.1 < w.heap.size := (h.get hp).lt
theorem IsM.ge (h : IsM w0 s0 s bx v W w) : w0.heap.size ≤ w.heap.size := h.bel.size
theorem IsM.sub {by_ : List (Nat × TypeId × List Value)} (h : IsM w0 s0 s bx v W w) (hs : ∀ p ∈ by_, p ∈ bx) : IsM w0 s0 s by_ v W w := by
 obtain ⟨D, h1, h2, h3, h4, h5⟩ := h
 exact ⟨D, h1, h2, h3, fun p hp => h4 p (hs p hp), h5⟩
theorem IsM.below {w1 : World} (h : IsM w0 s0 s bx v W w) (hb : Below w.heap.size w w1) : IsM w0 s0 s bx v W w1 := by
 obtain ⟨D, h1, h2, h3, h4, vs, k1, k2, k3, k4⟩ := h
 exact ⟨D, h1.below hb, h2, below_then h3 h3.size hb, fun p hp => ⟨(h4 p hp).1.below hb, (h4 p hp).2⟩, vs, k1, pw_own_below k2 hb, k3, k4⟩
theorem IsM.post {w' : World} {D D' : Nat → Prop} (h1 : StIs w D s0 s) (h2 : ∀ k, D k → w0.heap.size ≤ k) (h3 : Below w0.heap.size w0 w) (h4 : ∀ p ∈ bx, Strc w p.1 p.2.1 p.2.2 ∧ ¬ D p.1 ∧ w0.heap.size ≤ p.1 ∧ p.2.1 ≠ 72) (h5 : Wnt w0 w D v W) (g1 : StIs w' D' s0 t) (g2 : ∀ k, D' k → D k ∨ w.heap.size ≤ k) (g3 : Mod w w' D) : IsM w0 s0 t bx v W w' := by
 obtain ⟨vs, k1, k2, k3, k4⟩ := h5
 refine ⟨D', g1, fun k hk => (g2 k hk).elim (h2 k) (fun h => Nat.le_trans h3.size h), h3.trans ⟨g3.os, g3.tape, g3.output, g3.size, fun k hk => g3.block k (Nat.lt_of_lt_of_le hk h3.size) (fun h => by have := h2 k h; omega)⟩, fun p hp => ⟨(h4 p hp).1.mod g3 (h4 p hp).2.1, fun hd => (g2 _ hd).elim (h4 p hp).2.1 (fun h => by have := (h4 p hp).1.lt; omega), (h4 p hp).2.2⟩, vs, k1, own_mod k2 g3 k3, fun g hg hd => (g2 _ hd).elim (k3 g hg) (fun h => by have := own_lt k2 g hg; omega), k4⟩
theorem IsM.made (h : IsM w0 s0 s bx v W w) (t : TypeId) (ht : t ≠ 72) (cs : List Value) : IsM w0 s0 s ((w.heap.size, t, cs) :: bx) v W (w.alloc (.cells cs.toArray t)) := by
 obtain ⟨D, h1, h2, h3, h4, vs, k1, k2, k3, k4⟩ := h
 have hb := below_alloc (Below.refl w.heap.size w) (.cells cs.toArray t)
 refine ⟨D, h1.below hb, h2, below_then h3 h3.size hb, fun p hp => ?_, vs, k1, pw_own_below k2 hb, k3, k4⟩
 rcases List.mem_cons.1 hp with rfl | hp
 ·exact ⟨alloc_last w _, fun hd => by have := h1.sub _ hd; dsimp only at this; omega, h3.size, ht⟩
 ·exact ⟨(h4 p hp).1.below hb, (h4 p hp).2⟩
theorem IsM.put {q : Nat} {t : TypeId} {cs : List Value} (cs' : List Value) (h : IsM w0 s0 s ((q, t, cs) :: bx) v W w) (hne : ∀ p ∈ bx, p.1 ≠ q) : IsM w0 s0 s ((q, t, cs') :: bx) v W (w.setRow q cs'.toArray) := by
 obtain ⟨D, h1, h2, h3, h4, vs, k1, k2, k3, k4⟩ := h
 have hs := h4 (q, t, cs) (List.mem_cons_self ..)
 dsimp only at hs
 have hm := mod_setRow w q cs'.toArray
 refine ⟨D, h1.mod hm (fun k hk e => hs.2.1 (e ▸ hk)), h2, h3.trans ⟨hm.os, hm.tape, hm.output, hm.size, fun k hk => hm.block k (Nat.lt_of_lt_of_le hk h3.size) (by have := hs.2.2.1; omega)⟩, fun p hp => ?_, vs, k1, own_mod k2 hm (fun g hg e => own_not_strc k2 hs.1 hs.2.2.2 (e ▸ hg)), k3, k4⟩
 rcases List.mem_cons.1 hp with rfl | hp
 ·exact ⟨setRow_heap w q _ cs'.toArray t (0, 0) hs.1, hs.2⟩
 ·exact ⟨(h4 p (List.mem_cons_of_mem _ hp)).1.mod hm (hne p hp), (h4 p (List.mem_cons_of_mem _ hp)).2⟩
theorem IsM.box (h : IsM w0 s0 s bx v W w) (t : TypeId) (ht : t ≠ 72) (cs cs' : List Value) : IsM w0 s0 s ((w.heap.size, t, cs') :: bx) v W ((w.alloc (.cells cs.toArray t)).setRow w.heap.size cs'.toArray) :=
 (h.made t ht cs).put cs' (fun p hp e => by have := h.lt hp; omega)
def IsPost (w0 : World) (s0 : Nat) (t : St) (bx : List (Nat × TypeId × List Value)) (v : Value) (W : List Att) (cs : List Value) (code : Int) (e : Ending) (w' : World) : Prop := e = .returned (.tuple #[.agg cs.toArray, .int .i64 code]) ∧ IsM w0 s0 t bx v W w'
theorem IsM.set {r : Ino} (h : IsM w0 s0 s bx v W w) (A : Option Addr) (n c : Nat) (nm : ByteArray) (Av : Option Addr) (cv : Nat) (val : List Int) (how goal : Int) (hT : Tab w0) (h2w : 2 < w0.heap.size)
  (hv : Kd.C (Kd.int .u8) w0 Av val.length val) (hvn : Av = none → cv = 0) (hvb : allB val) (hh : s.hist.length ≤ 900000) (hg0 : -9223372036854775808 ≤ goal) (hg1 : goal < 9223372036854775808) :
  Calls Tryz.prog 18 #[.pointer (some ⟨s0, 0, none⟩), .agg (r.cells (.slice A n c)).toArray, .string nm, .slice Av val.length cv, .int .i64 how, .int .i64 goal] w (IsPost w0 s0 (xsetR s r n nm val how goal).1 bx v W (resC (xsetR s r n nm val how goal).2.1 (.slice A n c) (xsetR s r n nm val how goal).2.2) (xsetR s r n nm val how goal).2.2) := by
 obtain ⟨D, h1, h2, h3, h4, h5⟩ := h
 have hTw : Tab w := hT.below h3
 have hd2 : ¬ D 2 := fun hd => by have := h2 2 hd; omega
 have hvw := Kd.C_below hv h3
 have hvm : ∀ W' : World, Mod w W' D → Kd.C (Kd.int .u8) W' Av val.length val := fun W' hW => by
  by_cases hz : 0 < val.length
  ·refine C_int_mod hvw hW (fun ad e hd => ?_)
   obtain ⟨ad', e', hc⟩ := C_int_at hv 0 hz
   have : ad' = ad := Option.some.inj (e'.symm.trans e)
   subst this
   have h5 := World.block_lt_of_cell? w0 _ hc
   have h6 := h2 _ hd
   have : (ad'.add 0).block = ad'.block := rfl
   omega
  ·have : val = [] := List.eq_nil_of_length_eq_zero (by omega)
   subst this
   exact C_int_nil _ _ _
 have := xsetm_calls r A n c nm Av cv val how goal w h1 h1.allb hvw hvn hvb hvm hh hTw hd2 hg0 hg1
 rw [xsetI_eq] at this
 refine this.mono ?_
 rintro e w' ⟨D', he, g1, g2, g3⟩
 exact ⟨he, IsM.post h1 h2 h3 h4 h5 g1 g2 g3⟩
theorem IsM.rem {r : Ino} (h : IsM w0 s0 s bx v W w) (A : Option Addr) (n c : Nat) (nm : ByteArray) (hh : s.hist.length ≤ 900000) :
  Calls Tryz.prog 22 #[.pointer (some ⟨s0, 0, none⟩), .agg (r.cells (.slice A n c)).toArray, .string nm] w (IsPost w0 s0 (xremR s r n nm).1 bx v W (resC (xremR s r n nm).2.1 (.slice A n c) (xremR s r n nm).2.2) (xremR s r n nm).2.2) := by
 obtain ⟨D, h1, h2, h3, h4, h5⟩ := h
 refine (xrem_calls r A n c nm w h1 h1.allb hh).mono ?_
 rintro e w' ⟨D', he, g1, g2, g3⟩
 exact ⟨he, IsM.post h1 h2 h3 h4 h5 g1 g2 g3⟩
theorem IsM.list {r : Ino} {L : List Att} (h : IsM w0 s0 s bx v W w) (A : Option Addr) (n c : Nat) (hL : xlistI s.now r n = (L, 0)) (hl : L.length ≤ 100000) :
  Calls Tryz.prog 26 #[.pointer (some ⟨s0, 0, none⟩), .agg (r.cells (.slice A n c)).toArray] w fun e w' => ∃ A' c', e = .returned (.tuple #[.slice A' L.length c', .int .i64 0]) ∧ IsM w0 s0 s bx v W w' := by
 obtain ⟨D, h1, h2, h3, h4, h5⟩ := h
 have := xlist_calls r A n c w h1
 rw [hL] at this
 refine this.mono ?_
 rintro e w' ⟨D', u, b, he, ho, _, _, g1, g2, g3⟩
 obtain ⟨A', c', rfl, _, _⟩ := ho.reads (by dsimp only; omega)
 exact ⟨A', c', he, IsM.post h1 h2 h3 h4 h5 g1 g2 g3⟩
theorem IsM.left (h : IsM w0 s0 s bx v W w) {a b c : Int} (hL : leftI s.now = (a, b, c)) :
  Calls Tryz.prog 36 #[.pointer (some ⟨s0, 0, none⟩)] w fun e w' => e = .returned (.tuple #[.int .i64 a, .int .i64 b, .int .i64 c]) ∧ IsM w0 s0 s bx v W w' := by
 obtain ⟨D, h1, h2, h3, h4, h5⟩ := h
 have := left_calls w h1
 unfold LeftPost at this
 rw [hL] at this
 refine this.mono ?_
 rintro e w' ⟨D', g1, g2, g3, he⟩
 exact ⟨he, IsM.post h1 h2 h3 h4 h5 g1 g2 g3⟩
theorem IsM.got {r : Ino} {L : List Att} (h : IsM w0 s0 s bx v W w) (A : Option Addr) (n c : Nat) (nm : ByteArray) (i : Nat) (hL : xlistI s.now r n = (L, 0)) (hl : L.length ≤ 100000) (hk : seekI L nm = (i, true)) (hi : i < L.length) :
  Calls Tryz.prog 24 #[.pointer (some ⟨s0, 0, none⟩), .agg (r.cells (.slice A n c)).toArray, .string nm] w fun e w' => ∃ Av cv, e = .returned (.tuple #[.slice Av (attAt L i).val.length cv, .int .i64 0]) ∧ Kd.C (Kd.int .u8) w' Av (attAt L i).val.length (attAt L i).val ∧ IsM w0 s0 s bx v W w' := by
 obtain ⟨D, h1, h2, h3, h4, h5⟩ := h
 refine (xget_calls r A n c nm L i w h1 hL hl hk hi).mono ?_
 rintro e w' ⟨D', Av, cv, he, hc, g1, g2, g3⟩
 exact ⟨Av, cv, he, hc, IsM.post h1 h2 h3 h4 h5 g1 g2 g3⟩
theorem IsM.want (h : IsM w0 s0 s bx v W w) (hs : W.length ≤ 1000) : ∃ A c, v = .slice A W.length c ∧ W.length ≤ c ∧ Atts w A W := by
 obtain ⟨D, h1, h2, h3, h4, vs, k1, k2, k3, k4⟩ := h
 exact shared_reads k1 k2 k4 h3 (by omega)
theorem acells_oneV {l : List Att} {vs : List Value} (hv : vs.length = l.length) (h : ∀ j, j < l.length → (vs.getD j undef).oneCell' = true) : ∀ u ∈ acells l vs, u.oneCell' = true := by
 intro u hu
 unfold acells at hu
 obtain ⟨q, hq, hu⟩ := List.mem_flatMap.1 hu
 simp only [List.mem_cons, List.not_mem_nil, or_false] at hu
 rcases hu with rfl | rfl
 ·rfl
 ·obtain ⟨j, hj, e⟩ := List.getElem_of_mem hq
  have hj' : j < vs.length := by rw [List.length_zip] at hj; omega
  have := h j (by omega)
  rw [← e, List.getElem_zip]
  simpa [List.getD_eq_getElem?_getD, hj'] using this
theorem acells_cut {l : List Att} {vs : List Value} (h : vs.length = l.length) {i : Nat} (hi : i < l.length) : acells (delL l i) (delL vs i) = (acells l vs).take (i * 2) ++ (acells l vs).drop ((i + 1) * 2) := by
 obtain ⟨N, e, e1, e2, _⟩ := acells_mid l vs i h hi
 rw [acells_del l vs i h, e, List.append_assoc, List.take_left' e1, ← List.append_assoc, List.drop_left' (by rw [List.length_append, e1, e2]; omega)]
theorem IsM.opened (h : IsM w0 s0 s bx v W w) : ∃ vs : List Value, vs.length = W.length ∧ w.ownsRow w0.heap.size 72 2 v W.length (acells W vs) ∧ (∀ u ∈ acells W vs, u.oneCell' = true) ∧
  (∀ (w' : World) (v' u : Value) (x : Att), goodV w0 x u → w'.ownsRow w0.heap.size 72 2 v' (W.length + 1) (acells W vs ++ [.string x.name, u]) → w.grownBy w' v.ownBlock → (∀ g, v'.ownBlock = some g → v.ownBlock = some g ∨ w.heap.size ≤ g) → IsM w0 s0 s bx v' (W ++ [x]) w') ∧
  (∀ (w' : World) (v' : Value) (W' : List Att) (vs' : List Value), Below w.heap.size w w' → vs'.length = W'.length → w'.ownsRow w.heap.size 72 2 v' W'.length (acells W' vs') → (∀ j, j < W'.length → ∃ i, i < W.length ∧ attAt W' j = attAt W i ∧ vs'.getD j undef = vs.getD i undef) → IsM w0 s0 s bx v' W' w') := by
 obtain ⟨D, h1, h2, h3, h4, vs, k1, k2, k3, k4⟩ := h
 refine ⟨vs, k1, k2, acells_oneV k1 (fun j hj => by obtain ⟨Av, cv, e, _⟩ := k4 j hj; rw [e]; rfl), fun w' v' u x hu hk hg hv' => ?_, fun w' v' W' vs' hb q1 q2 q3 => ?_⟩
 ·have hm := mod_grown hg
  have hb : Below w0.heap.size w0 w' := pw_below_grown h3 _ h3.size hg (own_base k2)
  refine ⟨D, h1.mod hm (fun k hk e => k3 k e hk), h2, hb, fun p hp => ⟨(h4 p hp).1.mod hm (fun e => own_not_strc k2 (h4 p hp).1 (h4 p hp).2.2.2 e), (h4 p hp).2⟩, vs ++ [u], by simp [k1], ?_, fun g hg hd => (hv' g hg).elim (fun e => k3 g e hd) (fun h => by have := h1.sub _ hd; omega), fun j hj => ?_⟩
  ·rw [acells_snoc _ _ _ _ k1, List.length_append]
   exact hk
  ·by_cases hj2 : j < W.length
   ·have e1 : (vs ++ [u]).getD j undef = vs.getD j undef := by simp [List.getD_eq_getElem?_getD, List.getElem?_append_left (show j < vs.length by omega)]
    have e2 : attAt (W ++ [x]) j = attAt W j := by simp [attAt, List.getD_eq_getElem?_getD, List.getElem?_append_left hj2]
    rw [e1, e2]
    exact k4 j hj2
   ·have hj' : j = W.length := by simp at hj; omega
    subst hj'
    have e1 : (vs ++ [u]).getD W.length undef = u := by rw [← k1]; simp [List.getD_eq_getElem?_getD]
    have e2 : attAt (W ++ [x]) W.length = x := by simp [attAt, List.getD_eq_getElem?_getD]
    rw [e1, e2]
    exact hu
 ·refine ⟨D, h1.below hb, h2, below_then h3 h3.size hb, fun p hp => ⟨(h4 p hp).1.below hb, (h4 p hp).2⟩, vs', q1, own_any q2 (fun g hg => Nat.le_trans h3.size (own_base q2 g hg)), fun g hg hd => by have := own_base q2 g hg; have := h1.sub _ hd; omega, fun j hj => ?_⟩
  obtain ⟨i, hi, e1, e2⟩ := q3 j hj
  rw [e1, e2]
  exact k4 i hi
theorem IsM.vset {A : Option Addr} {n c a : Nat} {u : Value} {x : Att} (h : IsM w0 s0 s bx (.slice A n c) W w) (ha : a < W.length) (hx : x.name = (attAt W a).name) (hu : goodV w0 x u) :
  ∃ g, A = some ⟨g, 0, none⟩ ∧ (∃ z, w.cell? ⟨g, a * 2 + 1, none⟩ = some z) ∧ w.frozen? ⟨g, a * 2 + 1, none⟩ = false ∧ IsM w0 s0 s bx (.slice A n c) (W.set a x) (w.setCell ⟨g, a * 2 + 1, none⟩ u) := by
 obtain ⟨D, h1, h2, h3, h4, vs, k1, k2, k3, k4⟩ := h
 have hrow := k2
 rcases k2.2 with ⟨e, h0⟩ | ⟨g, cap, cur, e, hb, hh, hc, hcm, hsz, htk⟩
 ·cases e
  omega
 ·cases e
  have hm : Mod w (w.setCell ⟨g, a * 2 + 1, none⟩ u) (· = g) := (Mod.refl w (· = g)).set_own _ _
  have hgD : ¬ D g := k3 g rfl
  refine ⟨g, rfl, ⟨_, by rw [show w.cell? ⟨g, a * 2 + 1, none⟩ = cur[a * 2 + 1]? by simp [World.cell?, hh], Array.getElem?_eq_getElem (by omega)]⟩, by simp [World.frozen?, hh], D, h1.mod hm (fun k hk e => hgD (e ▸ hk)), h2, h3.trans ⟨hm.os, hm.tape, hm.output, hm.size, fun k hk => hm.block k (Nat.lt_of_lt_of_le hk h3.size) (by omega)⟩, fun p hp => ⟨(h4 p hp).1.mod hm (fun e => own_not_strc hrow (h4 p hp).1 (h4 p hp).2.2.2 (by rw [e]; rfl)), (h4 p hp).2⟩, vs.set a u, by simp [k1], ?_, k3, fun j hj => ?_⟩
  ·rw [acells_set W vs a x u k1 ha, List.length_set]
   have e1 : (acells W vs).set (a * 2) (.string x.name) = acells W vs := by
    have hq := (acells_at W vs a ha k1).1
    apply List.ext_getElem?
    intro j
    rw [List.getElem?_set]
    split
    ·rename_i hj
     subst hj
     rw [hq, hx, if_pos (by rw [acells_length _ _ k1]; omega)]
    ·rfl
   rw [e1]
   exact own_setv hrow _ _
  ·rw [List.length_set] at hj
   by_cases e : j = a
   ·subst e
    have e1 : (vs.set j u).getD j undef = u := by simp [List.getD_eq_getElem?_getD, show j < vs.length by omega]
    have e2 : attAt (W.set j x) j = x := by simp [attAt, List.getD_eq_getElem?_getD, hj]
    rw [e1, e2]
    exact hu
   ·have e1 : (vs.set a u).getD j undef = vs.getD j undef := by simp only [List.getD_eq_getElem?_getD]; rw [List.getElem?_set_ne (by omega)]
    have e2 : attAt (W.set a x) j = attAt W j := by unfold attAt; simp only [List.getD_eq_getElem?_getD]; rw [List.getElem?_set_ne (by omega)]
    rw [e1, e2]
    exact k4 j hj
end
theorem take_succ_ne {l m : List Int} (k : Nat) (h1 : k < l.length) (h2 : k < m.length) (h : l.getD k 0 ≠ m.getD k 0) : (l == m) = false := by
 rw [beq_eq_false_iff_ne]
 rintro rfl
 exact h rfl
theorem take_succ_eq {l m : List Int} (k : Nat) (h1 : k < l.length) (h2 : k < m.length) (ht : l.take k = m.take k) (h : l.getD k 0 = m.getD k 0) : l.take (k + 1) = m.take (k + 1) := by
 rw [List.take_succ_eq_append_getElem h1, List.take_succ_eq_append_getElem h2, ht]
 have : l[k] = m[k] := by simpa [List.getD_eq_getElem?_getD, h1, h2] using h
 rw [this]
set_option maxHeartbeats 1000000 in
set_option maxRecDepth 100000 in
theorem same_calls (A B : Option Addr) (c d : Nat) (l m : List Int) (w : World) (hl : Kd.C (Kd.int .u8) w A l.length l) (hm : Kd.C (Kd.int .u8) w B m.length m) :
  Calls Tryz.prog 15 #[.slice A l.length c, .slice B m.length d] w fun e w' => e = .returned (.bool (l == m)) ∧ Below w.heap.size w w' := by
 have hll := (C_int_len hl).2
 have HL := Aside0.mk hl
 have HM := Aside0.mk hm
 clear hl hm
 obtain ⟨b, hb⟩ : ∃ b, (l == m) = b := ⟨_, rfl⟩
 rw [hb]
 by_cases hlen : l.length = m.length
 ·have HBB := Aside0.mk hb
  have HLEN := Aside0.mk hlen
  rw [← hlen]
  clear hb hlen
  go_enter Tryz.func15, Tryz.ntmps15
  go_wp2
  go_loopg [5] l.length (fun g i wr => ∃ k : Nat, k + g = l.length ∧ i = .int .i64 k ∧ Aside0 (Below w.heap.size w wr) ∧ Aside0 (l.take k = m.take k))
  case atStart => exact ⟨0, by omega, rfl, ⟨Below.refl _ _⟩, ⟨rfl⟩⟩
  case round =>
   obtain ⟨k, hk, rfl, HB, HT⟩ := hrel
   cases gk with
   | zero =>
    obtain rfl : k = l.length := by omega
    go_wp2
    go_ret
    have : l = m := by
     have h := HT.out
     rw [List.take_length, List.take_of_length_le (by rw [HLEN.out]; exact Nat.le_refl _)] at h
     exact h
    exact ⟨by rw [← HBB.out, this]; simp, HB.out⟩
   | succ g =>
    have hkm : k < m.length := by have := HLEN.out; omega
    obtain ⟨ad, rfl, h1⟩ := C_int_at (Kd.C_below HL.out HB.out) k (by omega)
    obtain ⟨bd, rfl, h2⟩ := C_int_at (Kd.C_below HM.out HB.out) k hkm
    have hne := take_succ_ne (l := l) (m := m) k (by omega) hkm
    have heq := take_succ_eq (l := l) (m := m) k (by omega) hkm HT.out
    generalize l.getD k 0 = x at h1 hne heq
    generalize m.getD k 0 = y at h2 hne heq
    have i1 : (k : Int) < (l.length : Int) := by omega
    have i2 : k < l.length := by omega
    by_cases hxy : x = y
    ·have HQ := Aside0.mk (heq hxy)
     subst hxy
     clear hne heq
     go_wp2
     go_quiet (fail)
     go_wp2
     go_roundg g
     case measure => omega
     case rel => exact ⟨k + 1, by omega, by go_num, ⟨pw_below_drewN HB.out _⟩, ⟨HQ.out⟩⟩
    ·have hb0 := hne hxy
     rw [HBB.out] at hb0
     have hxy1 : (x != y) = true := by simpa using hxy
     subst hb0
     clear hne heq hxy
     go_wp2
     go_quiet (fail)
     go_wp2
     go_ret
     exact ⟨rfl, pw_below_drewN HB.out _⟩
 ·have hb0 : b = false := by
   rw [← hb, beq_eq_false_iff_ne]
   rintro rfl
   exact hlen rfl
  have hl1 : ((l.length : Int) != (m.length : Int)) = true := by rw [bne_iff_ne]; omega
  subst hb0
  clear hb hlen
  go_enter Tryz.func15, Tryz.ntmps15
  go_wp2
  go_ret
  exact ⟨rfl, Below.refl _ _⟩
end Go.Proofs.YtkmhilhfmfmckaaGreatDoor.Hand
namespace Go.Proofs.YtkmhilhfmfmckaaGreatDoor.Hand
set_option linter.unusedSimpArgs false
set_option linter.unusedVariables false
set_option maxRecDepth 10000
open Go Go.RowKit Go.ChangeShapes Go.WideShapes Go.ChangeAt Go.Deep Go.Proofs.YtkmhilhfmfmckaaGreatDoorW.PrintWords Go.Proofs.YtkmhilhfmfmckaaGreatDoorW.PrintLast Go.Proofs.YtkmhilhfmfmckaaGreatDoorW.PrintMore
structure OpV where
 what : Int
 nm : ByteArray
 val : List Int
 how : Int
 goal : Int
def opAt (l : List OpV) (j : Nat) : OpV := l.getD j ⟨0, ⟨#[]⟩, [], 0, 0⟩
structure Ops (w : World) (A : Option Addr) (l : List OpV) : Prop where
 size : l.length ≤ 1125899906842624
 cells : ∀ j, j < l.length → ∃ ad Av cv, A = some ad ∧ w.cell? (ad.add (j * 5)) = some (.int .i64 (opAt l j).what) ∧ w.cell? ⟨(ad.add (j * 5)).block, (ad.add (j * 5)).off + 1, none⟩ = some (.string (opAt l j).nm) ∧ w.cell? ⟨(ad.add (j * 5)).block, (ad.add (j * 5)).off + 2, none⟩ = some (.slice Av (opAt l j).val.length cv) ∧
  w.cell? ⟨(ad.add (j * 5)).block, (ad.add (j * 5)).off + 3, none⟩ = some (.int .i64 (opAt l j).how) ∧ w.cell? ⟨(ad.add (j * 5)).block, (ad.add (j * 5)).off + 4, none⟩ = some (.int .i64 (opAt l j).goal) ∧ (opAt l j).val.length ≤ cv ∧ Kd.C (Kd.int .u8) w Av (opAt l j).val.length (opAt l j).val ∧ (Av = none → cv = 0)
 good : ∀ j, j < l.length → allB (opAt l j).val ∧ -9223372036854775808 ≤ (opAt l j).goal ∧ (opAt l j).goal < 9223372036854775808
section
variable {H : Type} {enc : TypeId × Value → H} {w : World}
theorem wf_i64 {x : Int} (h : (Lit.int .i64 x).wf = true) : -9223372036854775808 ≤ x ∧ x < 9223372036854775808 := by
 simp [Lit.wf, IntKind.min, IntKind.max, IntKind.bits, IntKind.signed] at h
 omega
theorem open_opc {t e1 : TypeId} {f0 f1 f2 f3 f4 : Field} {fuel : Nat} {cs : List Value} {x : DataW H × List MemPlace} (he : Tryz.prog.underlying t = some (.struct #[f0, f1, f2, f3, f4]))
  (hone : oneCellFields Tryz.prog #[f0, f1, f2, f3, f4] = true) (h0 : Tryz.prog.underlying f0.type = some (.int .i64)) (h1 : Tryz.prog.underlying f1.type = some .string) (h2 : Tryz.prog.underlying f2.type = some (.slice e1)) (h3 : Tryz.prog.underlying f3.type = some (.int .i64)) (h4 : Tryz.prog.underlying f4.type = some (.int .i64)) (h5 : Tryz.prog.underlying e1 = some (.int .u8)) (h6 : Tryz.prog.cellsOf e1 = 1)
  (h : DataW.trod enc Tryz.prog w 0 (fun _ => true) true fuel t cs = some x) : ∃ (e : OpV) (Av : Option Addr) (cv : Nat), cs[0]? = some (.int .i64 e.what) ∧ cs[1]? = some (.string e.nm) ∧ cs[2]? = some (.slice Av e.val.length cv) ∧ cs[3]? = some (.int .i64 e.how) ∧ cs[4]? = some (.int .i64 e.goal) ∧ e.val.length ≤ cv ∧ Kd.C (Kd.int .u8) w Av e.val.length e.val ∧ (Av = none → cv = 0) ∧ allB e.val ∧ -9223372036854775808 ≤ e.goal ∧ e.goal < 9223372036854775808 := by
 obtain ⟨ys, n, _, hxx, _, hyl, hf⟩ := DataW.trod_struct he h
 have hl : ys.length = 5 := hyl
 have g0 := hf 0 f0 rfl
 have g1 := hf 1 f1 rfl
 have g2 := hf 2 f2 rfl
 have g3 := hf 3 f3 rfl
 have g4 := hf 4 f4 rfl
 obtain ⟨o0, k0⟩ := hone_of hone 0 f0 rfl
 obtain ⟨o1, k1⟩ := hone_of hone 1 f1 rfl
 obtain ⟨o2, k2⟩ := hone_of hone 2 f2 rfl
 obtain ⟨o3, k3⟩ := hone_of hone 3 f3 rfl
 obtain ⟨o4, k4⟩ := hone_of hone 4 f4 rfl
 rw [o0, k0, List.getElem?_eq_getElem (by omega)] at g0
 rw [o1, k1, List.getElem?_eq_getElem (by omega)] at g1
 rw [o2, k2, List.getElem?_eq_getElem (by omega)] at g2
 rw [o3, k3, List.getElem?_eq_getElem (by omega)] at g3
 rw [o4, k4, List.getElem?_eq_getElem (by omega)] at g4
 obtain ⟨a0, e0, _, _⟩ := DataW.trod_int h0 g0
 obtain ⟨s, e1', _, _⟩ := DataW.trod_string h1 g1
 obtain ⟨a3, e3, _, _⟩ := DataW.trod_int h3 g3
 obtain ⟨a4, e4, _, hw4⟩ := DataW.trod_int h4 g4
 have hg := wf_i64 hw4
 have hat : ∀ (j : Nat) (v : Value), (cs.drop j).take 1 = [v] → cs[j]? = some v := fun j v hv => by
  have : ((cs.drop j).take 1)[0]? = some v := by rw [hv]; rfl
  simpa [List.getElem?_take, List.getElem?_drop] using this
 rcases open_ints h2 h5 h6 g2 with ⟨hcs, _⟩ | ⟨a, l, c, zs, hcs, _, hl, hm, hz, _, hcell, hwz⟩
 ·exact ⟨⟨a0, s, [], a3, a4⟩, none, 0, hat 0 _ e0, hat 1 _ e1', hat 2 _ hcs, hat 3 _ e3, hat 4 _ e4, Nat.le_refl _, C_int_nil _ _ _, fun _ => rfl, (fun x hx => nomatch hx), hg.1, hg.2⟩
 ·obtain ⟨l', hl', hr, hm', hw, hc'⟩ := ReadsInt.ofRowC (w := w) (k := .u8) (.inr ⟨a, rfl, hl, hm, by simpa using hz, hcell, hwz⟩)
  subst hl'
  refine ⟨⟨a0, s, l', a3, a4⟩, some a, c, hat 0 _ e0, hat 1 _ e1', hat 2 _ hcs, hat 3 _ e3, hat 4 _ e4, hl, Kd.C_of_reads (d := (0 : Int)) (h1 := fun _ => rfl) hr, (fun e => nomatch e), fun z hz => ?_, hg.1, hg.2⟩
  have := hw z hz
  simp [Lit.wf, IntKind.min, IntKind.max, IntKind.bits, IntKind.signed] at this
  omega
theorem cells_opv : Tryz.prog.cellsOf 41 = 5 := by kernel_rfl
theorem open_ops {fuel : Nat} {cs : List Value} {x : DataW H × List MemPlace} (h : DataW.trod enc Tryz.prog w 0 (fun _ => true) true fuel 54 cs = some x) :
  ∃ (A : Option Addr) (cap : Nat) (l : List OpV), cs = [.slice A l.length cap] ∧ l.length ≤ cap ∧ (l = [] ∨ ∃ elems sp : List (DataW H), x.1 = .slice elems sp ∧ elems.length = l.length) ∧ (l.length ≤ 1125899906842624 → Ops w A l) := by
 rcases open_slice Tryz.underlying54 h with ⟨h0, _⟩ | ⟨a, len, cap, m, n, D, Pl, hcs, hb, hl, hm, hmm, hx, hi⟩
 ·exact ⟨none, 0, [], h0, Nat.le_refl _, .inl rfl, fun _ => ⟨by simp, fun j hj => by simp at hj, fun j hj => by simp at hj⟩⟩
 ·have hle : len ≤ m := by rw [hmm]; split <;> omega
  have hall : ∀ i : Nat, ∃ e : OpV, i < len → (allB e.val ∧ -9223372036854775808 ≤ e.goal ∧ e.goal < 9223372036854775808) ∧ ∃ (Av : Option Addr) (cv : Nat), w.cell? (a.add (i * 5)) = some (.int .i64 e.what) ∧ w.cell? (a.add (i * 5 + 1)) = some (.string e.nm) ∧ w.cell? (a.add (i * 5 + 2)) = some (.slice Av e.val.length cv) ∧ w.cell? (a.add (i * 5 + 3)) = some (.int .i64 e.how) ∧ w.cell? (a.add (i * 5 + 4)) = some (.int .i64 e.goal) ∧ e.val.length ≤ cv ∧ Kd.C (Kd.int .u8) w Av e.val.length e.val ∧ (Av = none → cv = 0) := fun i => by
   by_cases hlt : i < len
   ·obtain ⟨cs', hc, ht⟩ := hi i (by omega)
    obtain ⟨e, Av, cv, e0, e1, e2, e3, e4, e5, e6, e7, e8⟩ := open_opc Tryz.underlying41 (by kernel_rfl) Tryz.underlying3 Tryz.underlying9 Tryz.underlying23 Tryz.underlying3 Tryz.underlying3 Tryz.underlying5 (by kernel_rfl) ht
    rw [cells_opv] at hc
    obtain ⟨_, hcl, hat⟩ := World.cells?_some hc
    have hcell : ∀ j, j < 5 → ∀ v, cs'[j]? = some v → w.cell? (a.add (i * 5 + j)) = some v := fun j hj v hv => by
     have := hat j hj
     rw [Go.Deep.add_add, hv] at this
     exact this
    exact ⟨e, fun _ => ⟨e8, Av, cv, hcell 0 (by omega) _ e0, hcell 1 (by omega) _ e1, hcell 2 (by omega) _ e2, hcell 3 (by omega) _ e3, hcell 4 (by omega) _ e4, e5, e6, e7⟩⟩
   ·exact ⟨⟨0, ⟨#[]⟩, [], 0, 0⟩, fun h => absurd h hlt⟩
  obtain ⟨F, hF⟩ := Classical.axiomOfChoice hall
  have hlen : ((List.range len).map F).length = len := by simp
  have hat : ∀ j, j < len → opAt ((List.range len).map F) j = F j := fun j hj => by
   unfold opAt
   simp [List.getD_eq_getElem?_getD, hj]
  refine ⟨some a, cap, (List.range len).map F, by rw [hlen]; exact hcs, by rw [hlen]; exact hl, .inr ⟨_, _, by rw [hx], by simp⟩, fun hs => ⟨hs, fun j hj => ?_, fun j hj => ?_⟩⟩
  ·rw [hlen] at hj
   rw [hat j hj]
   obtain ⟨_, Av, cv, q0, q1, q2, q3, q4, q5, q6, q7⟩ := hF j hj
   rw [← Go.Deep.add_add] at q1 q2 q3 q4
   exact ⟨a, Av, cv, rfl, q0, q1, q2, q3, q4, q5, q6, q7⟩
  ·rw [hlen] at hj
   rw [hat j hj]
   exact (hF j hj).1
end
end Go.Proofs.YtkmhilhfmfmckaaGreatDoor.Hand
namespace Go.Proofs.YtkmhilhfmfmckaaGreatDoor.Hand
set_option linter.unusedSimpArgs false
set_option linter.unusedVariables false
open Go.Shelf Go.RowKit Go.Proofs.YtkmhilhfmfmckaaGreatDoorW.PrintWords Go.Proofs.YtkmhilhfmfmckaaGreatDoorW.PrintLast Go.Proofs.YtkmhilhfmfmckaaGreatDoorW.PrintMore
theorem perm_small {s : St} {r : Ino} {W L : List Att} (hp : W.Perm L) (hk : Kept s r L) : L.length ≤ 83 ∧ W.length ≤ 83 ∧ attsOk L := ⟨xpack_small hk.good, by rw [hp.length_eq]; exact xpack_small hk.good, (xpackI_good hk.good).1⟩
theorem names_ne2 {a b : ByteArray} (h : a ≠ b) : (a.toList == b.toList) = false := by
 rw [beq_eq_false_iff_ne]
 intro e
 refine h ?_
 rw [← baData, ← baData] at e
 obtain ⟨⟨a⟩⟩ := a
 obtain ⟨⟨b⟩⟩ := b
 simp at e
 rw [e]
set_option maxHeartbeats 16000000 in
set_option maxRecDepth 100000 in
theorem xis_calls (A : Option Addr) (c : Nat) (l : List OpV) (w : World) (hl : Ops w A l) (hc : l.length ≤ c) (hT : Tab w) :
  Calls Tryz.prog 8 #[.slice A l.length c] w fun e w' => e = .returned (.bool true) ∧ Below w.heap.size w w' := by
 have h2w : 2 < w.heap.size := World.block_lt_of_cell? w _ (hT 0 (by omega))
 have HT := Aside0.mk (And.intro hT h2w)
 have HL := Aside0.mk hl
 have hsz := hl.size
 obtain ⟨n, hnn⟩ : ∃ n, l.length = n := ⟨_, rfl⟩
 have HN := Aside0.mk hnn
 rw [hnn] at hc hsz ⊢
 clear hT h2w hl hnn
 go_enter Tryz.func8, Tryz.ntmps8
 go_wp2_with fail
 refine (awake_calls w HT.out.1).mono ?_
 rintro e w1 ⟨rfl, hb1⟩
 have HB1 := Aside0.mk hb1
 clear hb1
 dsimp only
 go_wp2_with fail
 refine (both_calls w1).mono ?_
 rintro e w2 ⟨s0, q, D, rfl, hst, hD, hb⟩
 have HM2 := Aside0.mk (show IsM w s0 exS [] (.slice none 0 0) [] w2 from ⟨D, hst, fun k hk => Nat.le_trans HB1.out.size (hD k hk), below_then HB1.out HB1.out.size hb, (fun p hp => nomatch hp), [], rfl, own_nil _ _ _ _, (fun g hg => nomatch hg), fun j hj => nomatch hj⟩)
 clear hst hD hb
 dsimp only
 have HLF := Aside0.mk (HM2.out.left (a := 182) (b := 32) (c := 0) kept_ex.left)
 go_wp2_with fail
 refine HLF.out.mono ?_
 rintro e w3 ⟨rfl, hm3⟩
 have HM3 := Aside0.mk hm3
 clear hm3 HLF HM2
 dsimp only
 go_upto_region 4 with fail
 refine wp_region_lit ?_
 refine wpList_plain rfl fun K hK => ?_
 unfold Oper.wp execOp
 go_simp
 with_reducible refine (fresh_calls w3).mono ?_
 rintro e w4 ⟨g1, rfl, hb4⟩
 have HM4 := Aside0.mk (HM3.out.below hb4)
 clear hb4 HM3
 dsimp only
 refine hK _ _ ?_
 clear hK K
 obtain ⟨cr, hcr⟩ : ∃ cr : Value, cr = .slice (some ⟨g1, 0, none⟩) 48 48 := ⟨_, rfl⟩
 have hfr : frC g1 = exR.cells cr := by rw [hcr]; rfl
 have HCR := Aside0.mk (show ∀ r : Ino, (r.cells cr).length = 15 ∧ (r.cells cr).toArray.all (·.oneCell') = true from fun r => ⟨rfl, by have := Ino_one r (some ⟨g1, 0, none⟩) 48 48; rw [hcr]; simpa using this⟩)
 have HCQ := Aside0.mk hcr
 rw [hfr]
 clear hfr hcr
 obtain ⟨r0, hr0⟩ : ∃ r0, exR = r0 := ⟨_, rfl⟩
 rw [hr0]
 refine wpList_plain rfl fun K hK => ?_
 unfold Oper.wp execOp
 go_simp
 refine hK _ _ ?_
 clear hK K
 change wpList _ _ _ _ _ (w4.alloc (.cells inoZ.toArray 47))
 have hsx : Strc (w4.alloc (.cells inoZ.toArray 47)) w4.heap.size 47 inoZ := alloc_last w4 _
 have hax := HM4.out.box 47 (by decide) inoZ (r0.cells cr)
 refine wpList_store_row rfl 47 _ _ rfl w4.heap.size (r0.cells cr).toArray rfl rfl 47 _ hsx (infIno (HCR.out r0).1) (by rw [List.size_toArray, List.size_toArray, (HCR.out r0).1]; rfl) (HCR.out r0).2 ?_
 generalize World.setRow (w4.alloc (.cells inoZ.toArray 47)) w4.heap.size (r0.cells cr).toArray = w5 at hax ⊢
 obtain ⟨qr, hqr⟩ : ∃ q, w4.heap.size = q := ⟨_, rfl⟩
 rw [hqr] at hax ⊢
 have HM5 := Aside0.mk hax
 have HR0 := Aside0.mk hr0
 clear hax hsx hqr hr0 HM4
 obtain ⟨N, hNN⟩ : ∃ N, min n 100 = N := ⟨_, rfl⟩
 have hN1 : N ≤ 100 := by omega
 have hN2 : N ≤ n := by omega
 have hN3 : N = n ∨ N = 100 := by omega
 clear hNN
 go_wp2
 go_loopg [10, 11] N (fun g v10 v11 wr => ∃ (i : Nat) (s : St) (r : Ino) (W L : List Att), i + g = N ∧ v11 = .int .i64 i ∧ Aside0 (IsM w s0 s [(qr, 47, r.cells cr)] v10 W wr) ∧ Aside0 (Kept s r L) ∧ Aside0 (W.Perm L) ∧ Aside0 (s.hist.length ≤ 4 * i))
 case atStart => exact ⟨0, exS, r0, [], [], by omega, rfl, HM5, ⟨HR0.out ▸ kept_ex⟩, ⟨List.Perm.refl _⟩, ⟨Nat.zero_le _⟩⟩
 case round =>
  obtain ⟨i, s, r, W, L, hi, rfl, HM, HK, HP, HH⟩ := hrel
  cases gk with
  | zero =>
   have hiN : i = N := by omega
   subst hiN
   rcases hN3 with e | e
   ·have i1 : ¬ (i : Int) < (n : Int) := by omega
    go_wp2
    go_ret
    exact ⟨rfl, HM.out.bel⟩
   ·have i1 : ¬ (i : Int) < 100 := by omega
    clear e
    by_cases i0 : (i : Int) < (n : Int)
    ·go_wp2
     go_ret
     exact ⟨rfl, HM.out.bel⟩
    ·go_wp2
     go_ret
     exact ⟨rfl, HM.out.bel⟩
  | succ g =>
   have i1 : (i : Int) < (n : Int) := by omega
   have i1n : i < n := by omega
   have i2 : (i : Int) < 100 := by omega
   obtain ⟨ad, Av, cv, rfl, h1, h2, h3, h4, h5, h6, h7, h8⟩ := HL.out.cells i (by rw [HN.out]; exact i1n)
   have hgd := HL.out.good i (by rw [HN.out]; exact i1n)
   replace h1 := pw_cell_below HM.out.bel h1
   replace h2 := pw_cell_below HM.out.bel h2
   replace h3 := pw_cell_below HM.out.bel h3
   replace h4 := pw_cell_below HM.out.bel h4
   replace h5 := pw_cell_below HM.out.bel h5
   have hgv : goodV w ⟨(opAt l i).nm, (opAt l i).val⟩ (.slice Av (opAt l i).val.length cv) := ⟨Av, cv, rfl, h6, h7, h8⟩
   obtain ⟨o, ho⟩ : ∃ o, opAt l i = o := ⟨_, rfl⟩
   rw [ho] at h1 h2 h3 h4 h5 h6 h7 hgd hgv
   obtain ⟨what, nm, val, how, goal⟩ := o
   dsimp only at h1 h2 h3 h4 h5 h6 h7 hgd hgv
   have HV := Aside0.mk (And.intro h7 (And.intro h8 (And.intro hgd hgv)))
   obtain ⟨m, hm⟩ : ∃ m, val.length = m := ⟨_, rfl⟩
   rw [hm] at h3
   have HVM := Aside0.mk hm
   clear h6 h7 h8 hgd hgv ho hm hN3
   go_upto_region 10 with fail
   have hmk := HM.out.made 41 (by decide) [.int .i64 what, .string nm, .slice Av m cv, .int .i64 how, .int .i64 goal]
   change Code.wp _ _ _ _ (wr.alloc (.cells [.int .i64 what, .string nm, .slice Av m cv, .int .i64 how, .int .i64 goal].toArray 41))
   generalize wr.alloc (.cells [.int .i64 what, .string nm, .slice Av m cv, .int .i64 how, .int .i64 goal].toArray 41) = wa at hmk ⊢
   obtain ⟨qo, hqo⟩ : ∃ q, wr.heap.size = q := ⟨_, rfl⟩
   rw [hqo] at hmk ⊢
   obtain ⟨ocs, hocs⟩ : ∃ l : List Value, [.int .i64 what, .string nm, .slice Av m cv, .int .i64 how, .int .i64 goal] = l := ⟨_, rfl⟩
   rw [hocs] at hmk
   have HMA := Aside0.mk hmk
   have HQN := Aside0.mk (show qo ≠ qr by have := HM.out.lt (p := (qr, 47, r.cells cr)) (by simp); dsimp only at this; omega)
   have HOC := Aside0.mk hocs
   obtain ⟨hL83, hW83, hok⟩ := perm_small HP.out HK.out
   have HSM := Aside0.mk (And.intro hL83 (And.intro hW83 hok))
   obtain ⟨A', c', rfl, hcc, hAt⟩ := hmk.want (by omega)
   have HAT := Aside0.mk hAt
   obtain ⟨nW, hnW⟩ : ∃ nW, W.length = nW := ⟨_, rfl⟩
   have HNW := Aside0.mk hnW
   rw [hnW] at hcc hW83 ⊢
   clear hmk hocs hqo hok hAt hnW hL83 h1 h2 h3 h4 h5 HM
   go_wp2
   go_loopg [13, 14] nW (fun g2 v13 v14 wr => ∃ k : Nat, k + g2 = nW ∧ v14 = .int .i64 k ∧ v13 = .int .i64 (atGo W nm k) ∧ Aside0 (Below wa.heap.size wa wr))
   case atStart => exact ⟨0, by omega, rfl, rfl, ⟨Below.refl _ _⟩⟩
   case round =>
    obtain ⟨k, hk, rfl, rfl, HBA⟩ := hrel
    cases gk with
    | zero =>
     have hkW : k = nW := by omega
     subst hkW
     obtain ⟨wb, rfl⟩ : ∃ wb, wb = wr := ⟨_, rfl⟩
     have HMB := Aside0.mk (HMA.out.below HBA.out)
     have hwat := want_at HP.out HSM.out.2.2 nm
     rw [HNW.out] at hwat
     have HWAT := Aside0.mk hwat
     obtain ⟨at_, hat⟩ : ∃ at_, atGo W nm k = at_ := ⟨_, rfl⟩
     rw [hat] at hwat ⊢
     have HATG := Aside0.mk hat
     have c0 := (HMB.out.get (p := (qo, 41, ocs)) (by simp)).cell 0 (.int .i64 what) (by rw [← HOC.out]; rfl)
     dsimp only at c0
     clear hat hwat
     go_upto_if 71 with fail
     go_cut [10, 11] (fun v10 v11 wx => v11 = .int .i64 i ∧ ∃ (s' : St) (r' : Ino) (W' L' : List Att), Aside0 (IsM w s0 s' [(qr, 47, r'.cells cr)] v10 W' wx) ∧ Aside0 (Kept s' r' L') ∧ Aside0 (W'.Perm L') ∧ Aside0 (s'.hist.length ≤ 4 * i + 4))
     case first =>
      by_cases hb : Go.bits .and .i64 what 3 < 2
      ·clear c0
       go_upto_region 17 with fail
       refine wp_region_lit ?_
       refine wpList_plain rfl fun K hK => ?_
       unfold Oper.wp execOp
       go_simp
       refine hK _ _ ?_
       clear hK K
       refine wpList_load_row rfl 47 _ rfl qr rfl 47 (r.cells cr).toArray (0, 0) _ (HMB.out.get (p := (qr, 47, r.cells cr)) (by simp)) Tryz.underlying47 rfl (infIno (HCR.out r).1) ?_
       have hop := HMB.out.get (p := (qo, 41, ocs)) (by simp)
       have f1 := hop.cell 1 (.string nm) (by rw [← HOC.out]; rfl)
       have f2 := hop.cell 2 (.slice Av m cv) (by rw [← HOC.out]; rfl)
       have f3 := hop.cell 3 (.int .i64 how) (by rw [← HOC.out]; rfl)
       have f4 := hop.cell 4 (.int .i64 goal) (by rw [← HOC.out]; rfl)
       dsimp only at f1 f2 f3 f4
       refine wpList_plain rfl fun K hK => ?_
       unfold Oper.wp execOp
       go_simp
       refine hK _ _ ?_
       clear hK K
       refine wpList_plain rfl fun K hK => ?_
       unfold Oper.wp execOp
       go_simp
       refine hK _ _ ?_
       clear hK K
       refine wpList_plain rfl fun K hK => ?_
       unfold Oper.wp execOp
       go_simp
       refine hK _ _ ?_
       clear hK K
       refine wpList_plain rfl fun K hK => ?_
       unfold Oper.wp execOp
       go_simp
       refine hK _ _ ?_
       clear hK K
       refine wpList_plain rfl fun K hK => ?_
       unfold Oper.wp execOp
       go_simp
       refine hK _ _ ?_
       clear hK K
       refine wpList_plain rfl fun K hK => ?_
       unfold Oper.wp execOp
       go_simp
       refine hK _ _ ?_
       clear hK K
       refine wpList_plain rfl fun K hK => ?_
       unfold Oper.wp execOp
       go_simp
       refine hK _ _ ?_
       clear hK K
       refine wpList_plain rfl fun K hK => ?_
       unfold Oper.wp execOp
       go_simp
       refine hK _ _ ?_
       clear hK K
       clear f1 f2 f3 f4 hop
       have hs := HMB.out.set (r := r) (some ⟨g1, 0, none⟩) 48 48 nm Av cv val how goal HT.out.1 HT.out.2 HV.out.1 HV.out.2.1 HV.out.2.2.1.1 (by have := HH.out; omega) HV.out.2.2.1.2.1 HV.out.2.2.1.2.2
       have hks := HK.out.set nm val how goal
       obtain ⟨R, hR⟩ : ∃ R, xsetR s r 48 nm val how goal = R := ⟨_, rfl⟩
       rw [← HCQ.out, hR, HVM.out] at hs
       rw [hR] at hks
       obtain ⟨s1, r1, code⟩ := R
       dsimp only at hs hks
       have HS := Aside0.mk hs
       have HKS := Aside0.mk hks
       have hcl : (resC r1 cr code).length = 15 ∧ (resC r1 cr code).toArray.all (·.oneCell') = true := by rw [HCQ.out]; exact resC_ok r1 _ _ _ _
       obtain ⟨cs1, hcs1⟩ : ∃ cs, resC r1 cr code = cs := ⟨_, rfl⟩
       rw [hcs1] at hcl
       have HCL := Aside0.mk (And.intro hcs1 hcl)
       clear hs hks hR hcl hcs1
       refine wpList_plain rfl fun K hK => ?_
       unfold Oper.wp execOp
       go_simp
       rw [HCL.out.1] at HS
       with_reducible refine HS.out.mono ?_
       rintro e w5 ⟨rfl, hax⟩
       have HM5' := Aside0.mk hax
       clear hax HS
       dsimp only
       refine hK _ _ ?_
       clear hK K
       refine wpList_plain rfl fun K hK => ?_
       unfold Oper.wp execOp
       go_simp
       refine hK _ _ ?_
       clear hK K
       refine wpList_plain rfl fun K hK => ?_
       unfold Oper.wp execOp
       go_simp
       refine hK _ _ ?_
       clear hK K
       refine wpList_plain rfl fun K hK => ?_
       unfold Oper.wp execOp
       go_simp
       refine hK _ _ ?_
       clear hK K
       refine wpList_plain rfl fun K hK => ?_
       unfold Oper.wp execOp
       go_simp
       refine hK _ _ ?_
       clear hK K
       change wpList _ _ _ _ _ (w5.alloc (.cells inoZ.toArray 47))
       have hsx : Strc (w5.alloc (.cells inoZ.toArray 47)) w5.heap.size 47 inoZ := alloc_last w5 _
       have hax := HM5'.out.box 47 (by decide) inoZ cs1
       have hne : w5.heap.size ≠ qr := by have := HM5'.out.lt (p := (qr, 47, r.cells cr)) (by simp); dsimp only at this; omega
       refine wpList_store_row rfl 47 _ _ rfl w5.heap.size cs1.toArray rfl rfl 47 _ hsx (infIno HCL.out.2.1) (by rw [List.size_toArray, List.size_toArray, HCL.out.2.1]; rfl) HCL.out.2.2 ?_
       generalize World.setRow (w5.alloc (.cells inoZ.toArray 47)) w5.heap.size cs1.toArray = w6 at hax ⊢
       obtain ⟨qt, hqt⟩ : ∃ q, w5.heap.size = q := ⟨_, rfl⟩
       rw [hqt] at hax hne ⊢
       have HM6 := Aside0.mk hax
       have HNE := Aside0.mk hne
       clear hax hsx hqt hne HM5'
       rcases HKS.out with ⟨hc1, hs1⟩ | ⟨hc0, hk1, hh1, hp1⟩
       ·subst hs1
        have hcb : (code == 0) = false := by simpa using hc1
        have hM := HM6.out.sub (by_ := [(qr, 47, r.cells cr)]) (fun p hp => by simp only [List.mem_cons, List.not_mem_nil, or_false] at hp ⊢; subst hp; simp)
        rw [HNW.out] at hM
        have HMF := Aside0.mk hM
        have HHF := Aside0.mk (show s1.hist.length ≤ 4 * i + 4 by have := HH.out; omega)
        clear hM hc1
        go_wp2
        go_meet
        exact ⟨rfl, s1, r, W, L, HMF, HK, HP, HHF⟩
       ·subst hc0
        have hce : cs1 = r1.cells cr := by rw [← HCL.out.1]; rfl
        subst hce
        have HK1 := Aside0.mk hk1
        have HHF := Aside0.mk (show s1.hist.length ≤ 4 * i + 4 by have := HH.out; omega)
        have HPS := Aside0.mk (want_set (val := val) HP.out HSM.out.2.2 nm)
        clear hk1 hh1 hp1
        go_upto_region 19 with fail
        refine wp_region_lit ?_
        refine wpList_load_row rfl 47 _ rfl qt rfl 47 (r1.cells cr).toArray (0, 0) _ (HM6.out.get (p := (qt, 47, r1.cells cr)) (by simp)) Tryz.underlying47 rfl (infIno HCL.out.2.1) ?_
        refine wpList_store_row rfl 47 _ _ rfl qr (r1.cells cr).toArray rfl rfl 47 _ (HM6.out.get (p := (qr, 47, r.cells cr)) (by simp)) (infIno HCL.out.2.1) (by rw [List.size_toArray, List.size_toArray, HCL.out.2.1, (HCR.out r).1]) HCL.out.2.2 ?_
        have hqor : qo ≠ qr := HQN.out
        have hM := (HM6.out.sub (by_ := [(qr, 47, r.cells cr), (qo, 41, ocs)]) (fun p hp => by simp only [List.mem_cons, List.not_mem_nil, or_false] at hp ⊢; rcases hp with rfl | rfl <;> simp)).put (r1.cells cr) (fun p hp => by simp only [List.mem_cons, List.not_mem_nil, or_false] at hp; subst hp; exact hqor)
        generalize w6.setRow qr (r1.cells cr).toArray = w7 at hM ⊢
        have HM7 := Aside0.mk hM
        clear hM hqor
        rcases HWAT.out with ⟨hs0, hat0⟩ | ⟨hs1, hsi, a, ha, hat1, han, hae, hdp⟩
        ·have e : at_ = -1 := HATG.out.symm.trans hat0
         subst e
         have hws : wantSet W nm val = W ++ [⟨nm, val⟩] := by unfold wantSet; rw [HNW.out, hat0, if_pos (by omega)]
         have HPF := Aside0.mk (hws ▸ HPS.out)
         clear hs0 hat0 hws
         go_upto_region 22 with fail
         have hop := HM7.out.get (p := (qo, 41, ocs)) (by simp)
         have f1 := hop.cell 1 (.string nm) (by rw [← HOC.out]; rfl)
         have f2 := hop.cell 2 (.slice Av m cv) (by rw [← HOC.out]; rfl)
         dsimp only at f1 f2
         refine wp_region_lit ?_
         refine wpList_plain rfl fun K hK => ?_
         unfold Oper.wp execOp
         go_simp
         refine hK _ _ ?_
         clear hK K
         refine wpList_plain rfl fun K hK => ?_
         unfold Oper.wp execOp
         go_simp
         refine hK _ _ ?_
         clear hK K
         refine wpList_plain rfl fun K hK => ?_
         unfold Oper.wp execOp
         go_simp
         refine hK _ _ ?_
         clear hK K
         refine wpList_plain rfl fun K hK => ?_
         unfold Oper.wp execOp
         go_simp
         refine hK _ _ ?_
         clear hK K
         refine wpList_plain rfl fun K hK => ?_
         unfold Oper.wp execOp
         go_simp
         refine hK _ _ ?_
         clear hK K
         refine wpList_plain rfl fun K hK => ?_
         unfold Oper.wp execOp
         go_simp
         refine hK _ _ ?_
         clear hK K
         refine wpList_plain rfl fun K hK => ?_
         unfold Oper.wp execOp
         go_simp
         refine hK _ _ ?_
         clear hK K
         have hb8 := below_alloc (Below.refl w7.heap.size w7) (.cells #[.string nm, .slice Av m cv] 72)
         have hM8 := (HM7.out.below hb8).sub (by_ := [(qr, 47, r1.cells cr)]) (fun p hp => by simp only [List.mem_cons, List.not_mem_nil, or_false] at hp ⊢; subst hp; simp)
         obtain ⟨vs, hvs, hrow, _, hmore, _⟩ := hM8.opened
         have hmore' := fun w' v' q1 q2 q3 => hmore w' v' (.slice Av m cv) ⟨nm, val⟩ (by have := HV.out.2.2.2; rw [HVM.out] at this; exact this) q1 q2 q3
         rw [HNW.out] at hrow hmore'
         have HMO := Aside0.mk hmore'
         obtain ⟨e0, he, hz0, hz1, hz2⟩ := info_parts infoAtt
         refine wpList_plain rfl fun K hK => ?_
         refine wp_append_where (.tmp 97) (.tmp 103) 29 rfl w.heap.size 72 e0 (.agg #[.string ⟨#[]⟩, .slice none 0 0]) 2 40 Tryz.underlying29 he hz0 hz1 hz2 rfl (by decide) _ k (acells W vs) rfl hrow ⟨w7.heap.size, 0, none⟩ 1 1 [.string nm, .slice Av m cv] rfl rfl ?c1 ?c2 (by simp only [maxLen]; omega) (by omega) hM8.ge ?_
         case c1 =>
          intro j u hj
          rw [add_plain]
          exact cell_alloc w7 _ _ j u (by simpa using hj)
         case c2 => simp [Value.oneCell']
         intro v9 w9 q1 q2 q3
         have HM9 := Aside0.mk (HMO.out w9 v9 q1 q2 q3)
         refine hK _ _ ?_
         clear hK K q1 q2 q3 hrow hmore hmore' hvs f1 f2 hop hM8 hb8
         go_wp2
         go_meet
         exact ⟨rfl, s1, r1, _, _, HM9, HK1, HPF, HHF⟩
        ·have e : at_ = a := HATG.out.symm.trans hat1
         subst e
         have hws : wantSet W nm val = W.set a ⟨nm, val⟩ := by unfold wantSet; rw [HNW.out, hat1, if_neg (by omega), Int.toNat_natCast]
         have HPF := Aside0.mk (hws ▸ HPS.out)
         obtain ⟨gw, rfl, ⟨zz, hz1⟩, hz2, hz3⟩ := HM7.out.vset (x := ⟨nm, val⟩) (u := .slice Av m cv) (by rw [HNW.out]; exact ha) han.symm (by have := HV.out.2.2.2; rw [HVM.out] at this; exact this)
         rw [HNW.out] at hz3
         have HZ3 := Aside0.mk (hz3.sub (by_ := [(qr, 47, r1.cells cr)]) (fun p hp => by simp only [List.mem_cons, List.not_mem_nil, or_false] at hp ⊢; subst hp; simp))
         have f2 := (HM7.out.get (p := (qo, 41, ocs)) (by simp)).cell 2 (.slice Av m cv) (by rw [← HOC.out]; rfl)
         dsimp only at f2
         have i5 : (a : Int) < (k : Int) := by omega
         have i6 : (0 : Int) ≤ (a : Int) := by omega
         clear hs1 hsi hat1 han hae hdp hws hz3
         go_wp2
         go_meet
         exact ⟨rfl, s1, r1, _, _, HZ3, HK1, HPF, HHF⟩
      ·clear c0
       go_upto_region 23 with fail
       refine wp_region_lit ?_
       refine wpList_plain rfl fun K hK => ?_
       unfold Oper.wp execOp
       go_simp
       refine hK _ _ ?_
       clear hK K
       refine wpList_load_row rfl 47 _ rfl qr rfl 47 (r.cells cr).toArray (0, 0) _ (HMB.out.get (p := (qr, 47, r.cells cr)) (by simp)) Tryz.underlying47 rfl (infIno (HCR.out r).1) ?_
       have hop := HMB.out.get (p := (qo, 41, ocs)) (by simp)
       have f1 := hop.cell 1 (.string nm) (by rw [← HOC.out]; rfl)
       dsimp only at f1
       refine wpList_plain rfl fun K hK => ?_
       unfold Oper.wp execOp
       go_simp
       refine hK _ _ ?_
       clear hK K
       refine wpList_plain rfl fun K hK => ?_
       unfold Oper.wp execOp
       go_simp
       refine hK _ _ ?_
       clear hK K
       clear f1 hop
       have hs := HMB.out.rem (r := r) (some ⟨g1, 0, none⟩) 48 48 nm (by have := HH.out; omega)
       have hks := HK.out.rem nm
       obtain ⟨R, hR⟩ : ∃ R, xremR s r 48 nm = R := ⟨_, rfl⟩
       rw [← HCQ.out, hR] at hs
       rw [hR] at hks
       obtain ⟨s1, r1, code⟩ := R
       dsimp only at hs hks
       have HS := Aside0.mk hs
       have HKS := Aside0.mk hks
       have hcl : (resC r1 cr code).length = 15 ∧ (resC r1 cr code).toArray.all (·.oneCell') = true := by rw [HCQ.out]; exact resC_ok r1 _ _ _ _
       obtain ⟨cs1, hcs1⟩ : ∃ cs, resC r1 cr code = cs := ⟨_, rfl⟩
       rw [hcs1] at hcl
       have HCL := Aside0.mk (And.intro hcs1 hcl)
       clear hs hks hR hcl hcs1
       refine wpList_plain rfl fun K hK => ?_
       unfold Oper.wp execOp
       go_simp
       rw [HCL.out.1] at HS
       with_reducible refine HS.out.mono ?_
       rintro e w5 ⟨rfl, hax⟩
       have HM5' := Aside0.mk hax
       clear hax HS
       dsimp only
       refine hK _ _ ?_
       clear hK K
       refine wpList_plain rfl fun K hK => ?_
       unfold Oper.wp execOp
       go_simp
       refine hK _ _ ?_
       clear hK K
       refine wpList_plain rfl fun K hK => ?_
       unfold Oper.wp execOp
       go_simp
       refine hK _ _ ?_
       clear hK K
       refine wpList_plain rfl fun K hK => ?_
       unfold Oper.wp execOp
       go_simp
       refine hK _ _ ?_
       clear hK K
       refine wpList_plain rfl fun K hK => ?_
       unfold Oper.wp execOp
       go_simp
       refine hK _ _ ?_
       clear hK K
       change wpList _ _ _ _ _ (w5.alloc (.cells inoZ.toArray 47))
       have hsx : Strc (w5.alloc (.cells inoZ.toArray 47)) w5.heap.size 47 inoZ := alloc_last w5 _
       have hax := HM5'.out.box 47 (by decide) inoZ cs1
       refine wpList_store_row rfl 47 _ _ rfl w5.heap.size cs1.toArray rfl rfl 47 _ hsx (infIno HCL.out.2.1) (by rw [List.size_toArray, List.size_toArray, HCL.out.2.1]; rfl) HCL.out.2.2 ?_
       generalize World.setRow (w5.alloc (.cells inoZ.toArray 47)) w5.heap.size cs1.toArray = w6 at hax ⊢
       obtain ⟨qt, hqt⟩ : ∃ q, w5.heap.size = q := ⟨_, rfl⟩
       rw [hqt] at hax ⊢
       have HM6 := Aside0.mk hax
       clear hax hsx hqt HM5'
       rcases HWAT.out with ⟨hs0, hat0⟩ | ⟨hs1, hsi, a, ha, hat1, han, hae, hdp⟩
       ·rcases HKS.out with ⟨hx0, hc1, hss⟩ | ⟨hx0, _⟩
        ·subst hss
         have e : at_ = -1 := HATG.out.symm.trans hat0
         subst e
         have hcb : (code == 0) = false := by simpa using hc1
         have hM := HM6.out.sub (by_ := [(qr, 47, r.cells cr)]) (fun p hp => by simp only [List.mem_cons, List.not_mem_nil, or_false] at hp ⊢; subst hp; simp)
         rw [HNW.out] at hM
         have HMF := Aside0.mk hM
         have HHF := Aside0.mk (show s1.hist.length ≤ 4 * i + 4 by have := HH.out; omega)
         clear hM hc1 hs0 hat0 hx0
         go_wp2
         go_meet
         exact ⟨rfl, s1, r, W, L, HMF, HK, HP, HHF⟩
        ·rw [hs0] at hx0; cases hx0
       ·rcases HKS.out with ⟨hx0, _⟩ | ⟨hx0, hc0, hk1, hh1⟩
        ·rw [hs1] at hx0; cases hx0
        ·subst hc0
         have hce : cs1 = r1.cells cr := by rw [← HCL.out.1]; rfl
         subst hce
         have e : at_ = a := HATG.out.symm.trans hat1
         subst e
         have HK1 := Aside0.mk hk1
         have HHF := Aside0.mk (show s1.hist.length ≤ 4 * i + 4 by have := HH.out; omega)
         have HDP := Aside0.mk hdp
         have i6 : (0 : Int) ≤ (a : Int) := by omega
         clear hk1 hh1 hdp hs1 hsi hat1 han hae hx0
         go_upto_region 27 with fail
         refine wp_region_lit ?_
         refine wpList_load_row rfl 47 _ rfl qt rfl 47 (r1.cells cr).toArray (0, 0) _ (HM6.out.get (p := (qt, 47, r1.cells cr)) (by simp)) Tryz.underlying47 rfl (infIno HCL.out.2.1) ?_
         refine wpList_store_row rfl 47 _ _ rfl qr (r1.cells cr).toArray rfl rfl 47 _ (HM6.out.get (p := (qr, 47, r.cells cr)) (by simp)) (infIno HCL.out.2.1) (by rw [List.size_toArray, List.size_toArray, HCL.out.2.1, (HCR.out r).1]) HCL.out.2.2 ?_
         have hM := (HM6.out.sub (by_ := [(qr, 47, r.cells cr)]) (fun p hp => by simp only [List.mem_cons, List.not_mem_nil, or_false] at hp ⊢; subst hp; simp)).put (r1.cells cr) (fun p hp => by simp at hp)
         generalize w6.setRow qr (r1.cells cr).toArray = w7 at hM ⊢
         have HM7 := Aside0.mk hM
         clear hM
         obtain ⟨vs, hvs, hrow, hone, _, hset⟩ := HM7.out.opened
         obtain ⟨A3, c3, ev, hc3, _, hA3, hcell⟩ := own_shape hrow
         obtain ⟨ad3, rfl⟩ := hA3 (by rw [HNW.out]; omega)
         cases ev
         have hcl := acells_length W vs hvs
         rw [HNW.out] at hcl
         have hac := acells_cut hvs (show a < W.length by rw [HNW.out]; exact ha)
         have hdl := delL_length W a (by rw [HNW.out]; exact ha)
         have hdv := delL_length vs a (by rw [hvs, HNW.out]; exact ha)
         rw [HNW.out] at hdl
         rw [hvs, HNW.out] at hdv
         have hset' := fun w' v' q0 q1 => hset w' v' (delL W a) (delL vs a) q0 (by omega) q1 (fun j hj => by
          rw [hdl] at hj
          by_cases hja : j < a
          ·exact ⟨j, by rw [HNW.out]; omega, by rw [attAt_del W a j (by rw [HNW.out]; exact ha), if_pos hja], by rw [delL_get vs a undef j (by rw [hvs, HNW.out]; exact ha), if_pos hja]⟩
          ·exact ⟨j + 1, by rw [HNW.out]; omega, by rw [attAt_del W a j (by rw [HNW.out]; exact ha), if_neg hja], by rw [delL_get vs a undef j (by rw [hvs, HNW.out]; exact ha), if_neg hja]⟩)
         rw [hac, hdl] at hset'
         obtain ⟨CS, hCS⟩ : ∃ l, acells W vs = l := ⟨_, rfl⟩
         rw [hCS] at hset' hcl
         have hcell' := hcell ad3 rfl
         rw [hCS] at hcell'
         rw [hCS] at hone
         obtain ⟨ad4, had4⟩ : ∃ ad4, (if c' = a + 1 then some ad3 else some (ad3.add ((a + 1) * 2))) = some ad4 := by split <;> exact ⟨_, rfl⟩
         have hcell4 : ∀ j u, (CS.drop ((a + 1) * 2))[j]? = some u → w7.cell? (ad4.add j) = some u := fun j u hj => by
          rw [List.getElem?_drop] at hj
          split at had4
          ·have := (List.getElem?_eq_some_iff.1 hj).1
           omega
          ·cases had4
           rw [Go.Deep.add_add]
           exact hcell' _ _ hj
         have hcut1 : ∀ W : World, (Instr.slice 29 (.slice (some ad3) k c') none (some (.int .i64 (a : Int))) none).run Tryz.prog W = .ok (.slice (some ad3) a c') W := by
          obtain ⟨j0, hj, hj0, hj1, hj2⟩ := info_parts infoAtt
          intro W
          have := cut_to (P := Tryz.prog) 29 72 .i64 (i := j0) rfl hj (some ad3) k c' (a : Int) (by omega) (by omega) (by omega) W
          rw [this, Int.toNat_natCast]
         obtain ⟨b1, hb1⟩ : ∃ b1 : Nat, a + 1 = b1 := ⟨_, rfl⟩
         have hb1i : (a : Int) + 1 = (b1 : Int) := by omega
         have HWB := Aside0.mk (show wrap64 (b1 : Int) = (b1 : Int) by unfold wrap64; omega)
         have hcut2 : ∀ W : World, (Instr.slice 29 (.slice (some ad3) k c') (some (.int .i64 (b1 : Int))) none none).run Tryz.prog W = .ok (.slice (some ad4) (k - b1) (c' - b1)) W := by
          obtain ⟨j0, hj, hj0, hj1, hj2⟩ := info_parts infoAtt
          intro W
          have := cut_from (P := Tryz.prog) 29 72 .i64 (i := j0) rfl hj 2 hj1 (some ad3) k c' (b1 : Int) (by omega) (by omega) W
          rw [Int.toNat_natCast] at this
          rw [hb1] at had4
          rw [this, ← had4]
          rfl
         have HSET := Aside0.mk hset'
         have HCC := Aside0.mk (And.intro hcell' (And.intro hcell4 (And.intro hone hcl)))
         have HCD := Aside0.mk (show delL W a = delL W a from rfl)
         clear hset hset' hcell hcell' hcell4 hone hcl hac hdl hdv hrow had4 hCS hA3
         go_upto_region 28 with fail
         refine wp_region_ord [1, 2, 3, 5, 6, 7, 8, 0, 4, 9, 10] [0, 0, 0, 0, 0, 0, 0, 2, 2, 2, 0] (fun _ => True) (by kernel_rfl) rfl (by kernel_rfl) (fun _ _ _ _ h => h) trivial ?_
         have hwb := HWB.out
         iterate 7 (first
          | (refine inQ_off0 (by rfl) (by rfl) ?_; simp only [Act.put, stA, stZ, stS, i64_w, i32_w])
          | (refine inQ_off1 (by rfl) (by rfl) ?_; simp only [Act.put, stA, stZ, stS, i64_w, i32_w])
          | (refine inQ_0 (v := ?_) (by rfl) (by rfl) rfl ?_ (a' := ?_) ?_ ?_; rotate_left; (intro w'; go_simp; with_reducible rfl); rotate_left; (simp only [Act.put, stA, stZ, stS, i64_w, i32_w]; rfl))
          | (refine inQ_1 (v := ?_) (by rfl) (by rfl) rfl ?_ (a' := ?_) ?_ ?_; rotate_left; (rintro w' hs; go_split_ands; go_simp; with_reducible rfl); rotate_left; (simp only [Act.put, stA, stZ, stS, i64_w, i32_w]; rfl)))
         clear hwb
         refine inQ_2 (by rfl) (by rfl) (fun K hK => ?_)
         go_simp
         refine hK _ _ trivial ?_
         clear hK K
         try simp only [Act.put, stA, stZ, stS, i64_w, i32_w]
         have hbw : Below w7.heap.size w7 (w7.drew.alloc (.cells #[] 72)) := below_alloc (Below.refl _ _).drew _
         have hown0 : (w7.drew.alloc (.cells #[] 72)).ownsRow w7.heap.size 72 2 (.slice (some ⟨w7.heap.size, 0, none⟩) 0 0) 0 [] := ⟨rfl, .inr ⟨w7.heap.size, 0, #[], rfl, Nat.le_refl _, alloc_last w7.drew _, Nat.le_refl _, by simp [maxLen], rfl, rfl⟩⟩
         obtain ⟨e0, he, hz0, hz1, hz2⟩ := info_parts infoAtt
         refine inQ_2 (by rfl) (by rfl) (fun K hK => ?_)
         refine wp_append_where (.tmp 121) (.tmp 124) 29 rfl w7.heap.size 72 e0 (.agg #[.string ⟨#[]⟩, .slice none 0 0]) 2 40 Tryz.underlying29 he hz0 hz1 hz2 rfl (by decide) _ 0 [] rfl hown0 ad3 a c' (CS.take (a * 2)) rfl (by rw [List.length_take, HCC.out.2.2.2]; omega) ?c1 ?c2 (by simp only [maxLen]; omega) (by omega) hbw.size ?_
         case c1 =>
          intro j u hj
          rw [List.getElem?_take] at hj
          split at hj
          ·exact pw_cell_below hbw (HCC.out.1 j u hj)
          ·cases hj
         case c2 => exact fun u hu => HCC.out.2.2.1 u (List.mem_of_mem_take hu)
         intro v8 w8 q1 q2 _
         have hbw8 := pw_below_grown hbw _ hbw.size q2 (own_base hown0)
         refine hK _ _ trivial ?_
         clear hK K q2
         try simp only [Act.put, stA, stZ, stS, i64_w, i32_w]
         refine inQ_2 (by rfl) (by rfl) (fun K hK => ?_)
         refine wp_append_where (.tmp 125) (.tmp 129) 29 rfl w7.heap.size 72 e0 (.agg #[.string ⟨#[]⟩, .slice none 0 0]) 2 40 Tryz.underlying29 he hz0 hz1 hz2 rfl (by decide) v8 (0 + a) ([] ++ CS.take (a * 2)) rfl q1 ad4 (k - b1) (c' - b1) (CS.drop ((a + 1) * 2)) rfl (by rw [List.length_drop, HCC.out.2.2.2]; omega) ?c3 ?c4 (by simp only [maxLen]; omega) (by omega) hbw8.size ?_
         case c3 => exact fun j u hj => pw_cell_below hbw8 (HCC.out.2.1 j u hj)
         case c4 => exact fun u hu => HCC.out.2.2.1 u (List.mem_of_mem_drop hu)
         intro v9 w9 p1 p2 _
         have hbw9 := pw_below_grown hbw8 _ hbw8.size p2 (own_base q1)
         have HM9 := Aside0.mk (HSET.out w9 v9 hbw9 (by
          have e : 0 + a + (k - b1) = k - 1 := by omega
          rw [e, List.nil_append] at p1
          exact p1))
         refine hK _ _ trivial ?_
         clear hK K p1 p2 q1 hbw hbw8 hbw9 hown0
         try simp only [Act.put, stA, stZ, stS, i64_w, i32_w]
         iterate 1 (first
          | (refine inQ_off0 (by rfl) (by rfl) ?_; simp only [Act.put, stA, stZ, stS, i64_w, i32_w])
          | (refine inQ_off1 (by rfl) (by rfl) ?_; simp only [Act.put, stA, stZ, stS, i64_w, i32_w])
          | (refine inQ_0 (v := ?_) (by rfl) (by rfl) rfl ?_ (a' := ?_) ?_ ?_; rotate_left; (intro w'; go_simp; with_reducible rfl); rotate_left; (simp only [Act.put, stA, stZ, stS, i64_w, i32_w]; rfl))
          | (refine inQ_1 (v := ?_) (by rfl) (by rfl) rfl ?_ (a' := ?_) ?_ ?_; rotate_left; (rintro w' hs; go_split_ands; go_simp; with_reducible rfl); rotate_left; (simp only [Act.put, stA, stZ, stS, i64_w, i32_w]; rfl)))
         refine inP_nil ?_
         clear hcut1 hcut2
         go_wp2
         go_meet
         exact ⟨rfl, s1, r1, _, _, HM9, HK1, HDP, HHF⟩
     case rest =>
      obtain ⟨rfl, s', r', W', L', HM', HK', HP', HH'⟩ := hcut
      obtain ⟨hL83', hW83', hok'⟩ := perm_small HP'.out HK'.out
      have HOK' := Aside0.mk hok'
      have hpl := HP'.out.length_eq
      have hkl := HK'.out.left
      have hkz := HK'.out.zero
      have hkb := HK'.out.blk
      have HXL := Aside0.mk (And.intro HK'.out.list (show L'.length ≤ 100000 by omega))
      obtain ⟨nL, hnL⟩ : ∃ nL, L'.length = nL := ⟨_, rfl⟩
      have HNL := Aside0.mk (And.intro hnL hpl)
      have hs := HM'.out.list (r := r') (some ⟨g1, 0, none⟩) 48 48 HK'.out.list (by omega)
      rw [← HCQ.out, hnL] at hs
      rw [hnL] at hkz hL83'
      have HS := Aside0.mk hs
      have HLF := Aside0.mk hkl
      clear hs hkl hok' hpl hnL hW83' hW83 hcc i1 i1n i2 c0 HMA HMB HWAT HATG HAT HNW HSM HOC HQN HVM HV HH HK HP HBA
      go_upto_region 29 with fail
      refine wp_region_lit ?_
      refine wpList_plain rfl fun K hK => ?_
      unfold Oper.wp execOp
      go_simp
      refine hK _ _ ?_
      clear hK K
      refine wpList_load_row rfl 47 _ rfl qr rfl 47 (r'.cells cr).toArray (0, 0) _ (HM'.out.get (p := (qr, 47, r'.cells cr)) (by simp)) Tryz.underlying47 rfl (infIno (HCR.out r').1) ?_
      refine wpList_plain rfl fun K hK => ?_
      unfold Oper.wp execOp
      go_simp
      with_reducible refine HS.out.mono ?_
      rintro e w5 ⟨A5, c5, rfl, hm5⟩
      have HM5' := Aside0.mk hm5
      have HLL := Aside0.mk (hm5.left HLF.out)
      clear hm5 HS HM'
      dsimp only
      refine hK _ _ ?_
      clear hK K
      go_wp2_with fail
      refine HLL.out.mono ?_
      rintro e w6 ⟨rfl, hm6⟩
      obtain ⟨A6, c6, ev6, hc6, hA6⟩ := hm6.want (by rw [HNL.out.2, HNL.out.1]; omega)
      rw [HNL.out.2, HNL.out.1] at ev6 hc6
      subst ev6
      have HM6 := Aside0.mk hm6
      have hst := hm6.get (p := (qr, 47, r'.cells cr)) (by simp)
      have c12 := hst.cell 12 (.int .i64 r'.xattr) rfl
      have c6' := hst.cell 6 (.int .i64 r'.blocks) rfl
      dsimp only at c12 c6'
      obtain ⟨xa, hxa⟩ : ∃ x, r'.xattr = x := ⟨_, rfl⟩
      obtain ⟨bk, hbk⟩ : ∃ x, r'.blocks = x := ⟨_, rfl⟩
      rw [hxa] at c12 hkz hkb
      rw [hbk] at c6' hkb
      rw [hbk]
      have HBK := Aside0.mk hbk
      clear hm6 hst HLL HM5' hA6 hxa hbk
      obtain ⟨hk0, hk1, hk2, hk3⟩ := hkb
      dsimp only
      have HOK6 := Aside0.mk (And.intro HOK'.out HNL.out)
      by_cases hpos : 0 < nL
      ·have hz1 : (xa != 0) = true := by rw [bne_iff_ne]; exact hkz.2 hpos
       have hz2 : ¬ xa = 0 := hkz.2 hpos
       have i7 : (0 : Int) < (nL : Int) := by omega
       clear hkz
       go_upto_if 168 with fail
       go_wp2
       go_loopg [24] nL (fun g3 v24 wr => ∃ k : Nat, k + g3 = nL ∧ v24 = .int .i64 k ∧ Aside0 (IsM w s0 s' [(qr, 47, r'.cells cr)] (.slice A6 nL c6) W' wr))
       case atStart => exact ⟨0, by omega, rfl, HM6⟩
       case round =>
        obtain ⟨kk, hkk, rfl, HMR⟩ := hrel
        cases gk with
        | zero =>
         have hkn : kk = nL := by omega
         subst hkn
         go_wp2
         go_roundg g
         case measure => omega
         case rel => exact ⟨i + 1, s', r', W', L', by omega, by go_num, HMR, HK', HP', ⟨by have := HH'.out; omega⟩⟩
        | succ g3 =>
         have hkn : kk < nL := by omega
         have i8 : (kk : Int) < (nL : Int) := by omega
         have hbd : Below wr.heap.size wr wr.drew := (Below.refl _ _).drew
         have hmd := HMR.out.below hbd
         have hkW : kk < W'.length := by rw [HOK6.out.2.2, HOK6.out.2.1]; exact hkn
         obtain ⟨hw1, hw2⟩ := want_get HP'.out HOK6.out.1 hkW
         have hgt := hmd.got (r := r') (some ⟨g1, 0, none⟩) 48 48 (attAt W' kk).name _ HXL.out.1 HXL.out.2 hw1 (seek_true (by rw [hw1])).1
         rw [hw2, ← HCQ.out] at hgt
         obtain ⟨A7, c7, ev7, _, hA7⟩ := hmd.want (by have := hkW; rw [HOK6.out.2.2, HOK6.out.2.1]; omega)
         cases ev7
         obtain ⟨ad5, Av5, cv5, rfl, k1, _⟩ := hA7.cells kk hkW
         have hst := hmd.get (p := (qr, 47, r'.cells cr)) (by simp)
         obtain ⟨x, hx⟩ : ∃ x, attAt W' kk = x := ⟨_, rfl⟩
         rw [hx] at hgt k1
         obtain ⟨nmk, vlk⟩ := x
         dsimp only at hgt k1 hst
         have HGT := Aside0.mk hgt
         have HX5 := Aside0.mk (And.intro hx hkW)
         obtain ⟨mk, hmk⟩ : ∃ mk, vlk.length = mk := ⟨_, rfl⟩
         have HMK := Aside0.mk hmk
         have hS := And.intro hst k1
         clear hgt hw1 hw2 hkW hA7 k1 hst hx hmd hbd hmk
         go_upto_region 36 with fail
         refine wp_region_in [0, 1, 0, 0, 0, 0, 1, 2, 0, 0, 0, 0, 0] [] (fun W => Strc W qr 47 (r'.cells cr) ∧ W.cell? (ad5.add (kk * 2)) = some (.string nmk)) (by kernel_rfl) rfl (by kernel_rfl) (fun _ _ _ _ h => h) hS ?_
         iterate 1 (first
          | (refine in_off0 (by rfl) ?_; simp only [Act.put, stA, stZ, stS, i64_w, i32_w])
          | (refine in_off1 (by rfl) ?_; simp only [Act.put, stA, stZ, stS, i64_w, i32_w])
          | (refine in_0 (v := ?_) (by rfl) rfl ?_ (a' := ?_) ?_ ?_; rotate_left; (intro w'; go_simp; with_reducible rfl); rotate_left; (simp only [Act.put, stA, stZ, stS, i64_w, i32_w]; rfl))
          | (refine in_1 (v := ?_) (by rfl) rfl ?_ (a' := ?_) ?_ ?_; rotate_left; (rintro w' hs; go_split_ands; go_simp; with_reducible rfl); rotate_left; (simp only [Act.put, stA, stZ, stS, i64_w, i32_w]; rfl)))
         refine in_1 (by rfl) rfl (fun W hW => run_load_row 47 _ rfl qr rfl 47 (r'.cells cr).toArray (0, 0) _ hW.1 Tryz.underlying47 rfl (infIno (HCR.out r').1)) rfl ?_
         simp only [Act.put, stA, stZ, stS, i64_w, i32_w]
         iterate 5 (first
          | (refine in_off0 (by rfl) ?_; simp only [Act.put, stA, stZ, stS, i64_w, i32_w])
          | (refine in_off1 (by rfl) ?_; simp only [Act.put, stA, stZ, stS, i64_w, i32_w])
          | (refine in_0 (v := ?_) (by rfl) rfl ?_ (a' := ?_) ?_ ?_; rotate_left; (intro w'; go_simp; with_reducible rfl); rotate_left; (simp only [Act.put, stA, stZ, stS, i64_w, i32_w]; rfl))
          | (refine in_1 (v := ?_) (by rfl) rfl ?_ (a' := ?_) ?_ ?_; rotate_left; (rintro w' hs; go_split_ands; go_simp; with_reducible rfl); rotate_left; (simp only [Act.put, stA, stZ, stS, i64_w, i32_w]; rfl)))
         refine in_2 (by rfl) (fun K hK => ?_)
         go_simp
         with_reducible refine HGT.out.mono ?_
         rintro e w7 ⟨Av7, cv7, rfl, hc7, hm7⟩
         obtain ⟨A8, c8, ev8, _, hA8⟩ := hm7.want (by have := HX5.out.2; rw [HOK6.out.2.2, HOK6.out.2.1]; omega)
         cases ev8
         obtain ⟨ad6, Av6, cv6, e6, j1, j2, j3, j4, j5⟩ := hA8.cells kk HX5.out.2
         cases e6
         rw [HX5.out.1] at j1 j2 j3 j4
         dsimp only at j1 j2 j3 j4
         have hsm := same_calls Av7 Av6 cv7 cv6 vlk vlk w7 hc7 j4
         rw [beq_self_eq_true, HMK.out] at hsm
         rw [HMK.out] at j2
         have HSA := Aside0.mk hsm
         have HM7' := Aside0.mk hm7
         have hst7 := hm7.get (p := (qr, 47, r'.cells cr)) (by simp)
         dsimp only at hst7 ⊢
         rw [HMK.out]
         refine hK _ _ ⟨hst7, j1⟩ ?_
         clear hK K j1 j3 j4 j5 hsm hc7 hm7 hA8 hst7
         try simp only [Act.put, stA, stZ, stS, i64_w, i32_w]
         iterate 5 (first
          | (refine in_off0 (by rfl) ?_; simp only [Act.put, stA, stZ, stS, i64_w, i32_w])
          | (refine in_off1 (by rfl) ?_; simp only [Act.put, stA, stZ, stS, i64_w, i32_w])
          | (refine in_0 (v := ?_) (by rfl) rfl ?_ (a' := ?_) ?_ ?_; rotate_left; (intro w'; go_simp; with_reducible rfl); rotate_left; (simp only [Act.put, stA, stZ, stS, i64_w, i32_w]; rfl))
          | (refine in_1 (v := ?_) (by rfl) rfl ?_ (a' := ?_) ?_ ?_; rotate_left; (rintro w' hs; go_split_ands; go_simp; with_reducible rfl); rotate_left; (simp only [Act.put, stA, stZ, stS, i64_w, i32_w]; rfl)))
         refine in_nil ?_
         go_wp2_with fail
         refine HSA.out.mono ?_
         rintro e w8 ⟨rfl, hb8⟩
         have HM8 := Aside0.mk (HM7'.out.below hb8)
         clear hb8 j2
         dsimp only
         go_wp2
         go_roundg g3
         case measure => omega
         case rel => exact ⟨kk + 1, by omega, by go_num, HM8⟩
      ·have hz1 : (xa != 0) = false := by
        by_cases h : xa = 0
        ·rw [h]; rfl
        ·exact absurd (hkz.1 h) hpos
       have hz2 : xa = 0 := by
        by_cases h : xa = 0
        ·exact h
        ·exact absurd (hkz.1 h) hpos
       have i7 : ¬ (0 : Int) < (nL : Int) := by omega
       clear hkz hz2
       go_upto_if 168 with fail
       go_wp2
       go_loopg [24] nL (fun g3 v24 wr => ∃ k : Nat, k + g3 = nL ∧ v24 = .int .i64 k ∧ Aside0 (IsM w s0 s' [(qr, 47, r'.cells cr)] (.slice A6 nL c6) W' wr))
       case atStart => exact ⟨0, by omega, rfl, HM6⟩
       case round =>
        obtain ⟨kk, hkk, rfl, HMR⟩ := hrel
        cases gk with
        | zero =>
         have hkn : kk = nL := by omega
         subst hkn
         go_wp2
         go_roundg g
         case measure => omega
         case rel => exact ⟨i + 1, s', r', W', L', by omega, by go_num, HMR, HK', HP', ⟨by have := HH'.out; omega⟩⟩
        | succ g3 =>
         have hkn : kk < nL := by omega
         exact absurd hkn (by omega)
    | succ g2 =>
     have hkn : k < nW := by omega
     have i3 : (k : Int) < (nW : Int) := by omega
     obtain ⟨ad2, Av2, cv2, rfl, k1, _⟩ := (HAT.out.below HBA.out).cells k (by rw [HNW.out]; exact hkn)
     have k2 := ((HMA.out.below HBA.out).get (p := (qo, 41, ocs)) (by simp)).cell 1 (.string nm) (by rw [← HOC.out]; rfl)
     dsimp only at k2
     have hat : atGo W nm (k + 1) = if (attAt W k).name = nm then (k : Int) else atGo W nm k := rfl
     obtain ⟨z, hz⟩ : ∃ z, (attAt W k).name = z := ⟨_, rfl⟩
     rw [hz] at k1 hat
     have HBD := Aside0.mk (HBA.out.drew)
     have hbd : Below wr.heap.size wr wr.drew := (Below.refl _ _).drew
     have hS := And.intro (pw_cell_below hbd k1) (pw_cell_below hbd k2)
     clear k1 k2 hz hbd
     go_upto_region 14 with fail
     by_cases hzn : z = nm
     ·subst hzn
      rw [if_pos rfl] at hat
      have HA1 := Aside0.mk hat
      have hq : (z.toList == z.toList) = true := beq_self_eq_true _
      clear hat
      refine wp_region_in [0, 0, 0, 0, 1, 0, 1, 0] [] (fun w' => w'.cell? (ad2.add (k * 2)) = some (.string z) ∧ w'.cell? ⟨qo, 1, none⟩ = some (.string z)) (by kernel_rfl) rfl (by kernel_rfl) (fun _ _ _ _ h => h) hS ?_
      iterate 8 (first
       | (refine in_off0 (by rfl) ?_; simp only [Act.put, stA, stZ, stS, i64_w, i32_w])
       | (refine in_off1 (by rfl) ?_; simp only [Act.put, stA, stZ, stS, i64_w, i32_w])
       | (refine in_0 (v := ?_) (by rfl) rfl ?_ (a' := ?_) ?_ ?_; rotate_left; (intro w'; go_simp; with_reducible rfl); rotate_left; (simp only [Act.put, stA, stZ, stS, i64_w, i32_w]; rfl))
       | (refine in_1 (v := ?_) (by rfl) rfl ?_ (a' := ?_) ?_ ?_; rotate_left; (rintro w' hs; go_split_ands; go_simp; with_reducible rfl); rotate_left; (simp only [Act.put, stA, stZ, stS, i64_w, i32_w]; rfl)))
      refine in_nil ?_
      go_wp2
      go_roundg g2
      case measure => omega
      case rel => exact ⟨k + 1, by omega, by go_num, by rw [HA1.out], HBD⟩
     ·rw [if_neg hzn] at hat
      have HA1 := Aside0.mk hat
      have hq : (z.toList == nm.toList) = false := names_ne2 hzn
      clear hat
      refine wp_region_in [0, 0, 0, 0, 1, 0, 1, 0] [] (fun w' => w'.cell? (ad2.add (k * 2)) = some (.string z) ∧ w'.cell? ⟨qo, 1, none⟩ = some (.string nm)) (by kernel_rfl) rfl (by kernel_rfl) (fun _ _ _ _ h => h) hS ?_
      iterate 8 (first
       | (refine in_off0 (by rfl) ?_; simp only [Act.put, stA, stZ, stS, i64_w, i32_w])
       | (refine in_off1 (by rfl) ?_; simp only [Act.put, stA, stZ, stS, i64_w, i32_w])
       | (refine in_0 (v := ?_) (by rfl) rfl ?_ (a' := ?_) ?_ ?_; rotate_left; (intro w'; go_simp; with_reducible rfl); rotate_left; (simp only [Act.put, stA, stZ, stS, i64_w, i32_w]; rfl))
       | (refine in_1 (v := ?_) (by rfl) rfl ?_ (a' := ?_) ?_ ?_; rotate_left; (rintro w' hs; go_split_ands; go_simp; with_reducible rfl); rotate_left; (simp only [Act.put, stA, stZ, stS, i64_w, i32_w]; rfl)))
      refine in_nil ?_
      go_wp2
      go_roundg g2
      case measure => omega
      case rel => exact ⟨k + 1, by omega, by go_num, by rw [HA1.out], HBD⟩
end Go.Proofs.YtkmhilhfmfmckaaGreatDoor.Hand
namespace Go.Proofs.YtkmhilhfmfmckaaGreatDoor.Hand
set_option maxRecDepth 100000
open Go Go.RowKit
def laidL : List (String × DataW Unit) := [("math/bits.deBruijn32tab", Rows.laid_math_bits_deBruijn32tab), ("math/bits.deBruijn64tab", Rows.laid_math_bits_deBruijn64tab)]
theorem g64 : Tryz.prog.globalNamed "math/bits.deBruijn64tab" = some 2 := by kernel_rfl
theorem t64 : (Tryz.prog.globals[2]?).map (·.type) = some 236 := by kernel_rfl
theorem e64 : ∃ e, Tryz.prog.underlying 236 = some (.array 64 e) ∧ Tryz.prog.underlying e = some (.int .u8) ∧ Tryz.prog.cellsOf e = 1 := ⟨5, by kernel_rfl, by kernel_rfl, by kernel_rfl⟩
theorem tab_data {H : Type} : (Rows.laid_math_bits_deBruijn64tab : DataW H) = Go.Lib.tabData .u8 (List.map (fun (n : Nat) => (n : Int)) Go.Lib.deBruijn64tab) := rfl
theorem tab_of_laid {W : World} (h : laidMetH Tryz.prog laidL W) : Tab W := by
 rw [MakeChecks.laidMetH_plain _ _ _ (by kernel_rfl)] at h
 have h2 := laidMet.tail (show laidMet Tryz.prog (("math/bits.deBruijn32tab", Rows.laid_math_bits_deBruijn32tab) :: [("math/bits.deBruijn64tab", Rows.laid_math_bits_deBruijn64tab)]) W from h)
 rw [tab_data] at h2
 obtain ⟨e, he, he1, he2⟩ := e64
 have ht := Go.Lib.tabIs_of_head g64 t64 he he1 he2 (by kernel_rfl) h2
 intro i hi
 have := ht.cell g64 i (by simpa [Go.Lib.deBruijn64tab] using hi)
 rw [this]
 congr 1
 simp only [List.getD_eq_getElem?_getD, List.getElem?_map]
 cases Go.Lib.deBruijn64tab[i]? <;> rfl
theorem door_met (os : Os) (args : Array Value) : laidMetH Tryz.prog laidL ((World.doorLaid Tryz.prog 19 os).forCall (fun _ _ => 0) ⟨#[], args, []⟩).memory :=
 laidMetH_of_parts3 (fuel := 8) (laidMet_of_run' 65 (by kernel_rfl) (by kernel_rfl)) (by kernel_rfl) (by kernel_rfl)
end Go.Proofs.YtkmhilhfmfmckaaGreatDoor.Hand
