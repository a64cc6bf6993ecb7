/- Own texts and printed words of the kit, put together and trimmed by a program of mine (merge.py). -/
import Derived.Test.YtkmhilhfmfmckaaGreatDoorP17
import Derived.Laws.ResultCell
import Derived.Sort.Walk0
namespace Go.Proofs.YtkmhilhfmfmckaaGreatDoor.Hand
set_option linter.unusedSimpArgs false
set_option linter.unusedVariables false
open Go.Shelf Go.RowKit Go.Proofs.YtkmhilhfmfmckaaGreatDoorW.PrintWords Go.Proofs.YtkmhilhfmfmckaaGreatDoorW.PrintLast Go.Proofs.YtkmhilhfmfmckaaGreatDoorW.PrintMore
def InoPost (D : Nat → Prop) (s0 : Nat) (s : St) (cs : List Value) (c : Int) (w : World) (e : Ending) (w' : World) : Prop :=
  ∃ D', e = .returned (.tuple #[.agg cs.toArray, .int .i64 c]) ∧ StIs w' D' s0 s ∧ (∀ k, D' k → D k ∨ w.heap.size ≤ k) ∧ Mod w w' D
theorem results_ino {fn : Func} {p u : Tmp} (h : fn.results = #[.cell p 47, .tmp u]) (tmps : Array Value) (w : World) (q : Nat) (cs : Array Value) (c : Int) (hp : tmps.getD p undef = .pointer (some ⟨q, 0, none⟩)) (hu : tmps.getD u undef = .int .i64 c)
    (hres : w.heap[q]? = some (.cells cs 47 (0, 0))) (hinf : (Tryz.prog.info? 47).map (·.size) = some cs.size) : (results fn tmps).run Tryz.prog w = .ok (.tuple #[.agg cs, .int .i64 c]) w := by
  have hlv : (loadVar 47 ⟨q, 0, none⟩).run Tryz.prog w = .ok (.agg cs) w := run_loadVar_row w q 47 47 cs (0, 0) _ hres Tryz.underlying47 rfl hinf
  have ha : (asAddr (.pointer (some ⟨q, 0, none⟩))).run Tryz.prog w = .ok ⟨q, 0, none⟩ w := by simp [asAddr]
  rw [results_cell_tmp h, hp, hu, ha]
  simp only [Result.andThen]
  rw [hlv]
theorem infIno {cs : List Value} (h : cs.length = 15) : (Tryz.prog.info? 47).map (·.size) = some cs.toArray.size := by rw [List.size_toArray, h]; kernel_rfl
theorem mod_setRow (w : World) (g : Nat) (cs : Array Value) : Mod w (w.setRow g cs) (· = g) :=
  ⟨rfl, rfl, rfl, by simp [World.setRow], fun k hk hn => by simp [World.setRow, Array.getElem?_modify, Ne.symm hn]⟩
set_option maxHeartbeats 4000000 in
set_option maxRecDepth 100000 in
theorem lay_calls {D : Nat → Prop} {s0 : Nat} {s : St} (cs : List Value) (x : Nat) (A : Option Addr) (c : Nat) (l : List Att) (w : World) (h : StIs w D s0 s) (hcl : cs.length = 15) (h1 : ∀ v ∈ cs, v.oneCell' = true) (hx : cs[12]? = some (.int .i64 x)) (hxn : x < s.now.length) (hx2 : x < 65536)
    (hE : Atts w A l) (hc : l.length ≤ c) (hl : l.length ≤ 1000) (hp : (xpackI l x).2 = 0) (hall : ∀ y ∈ l, allB y.val) (hh : s.hist.length ≤ 1000000) :
    Calls Tryz.prog 53 #[.pointer (some ⟨s0, 0, none⟩), .agg cs.toArray, .slice A l.length c] w (InoPost D s0 (s.write x (xpackI l x).1) cs 0 w) := by
  have HE := Aside0.mk hE
  have HH := Aside0.mk h
  have HBLK := Aside0.mk h.sub
  obtain ⟨p, hpp⟩ : ∃ p, xpackI l x = p := ⟨_, rfl⟩
  have hpl := xpackI_len hp
  have hpa := allB_xpack hall (x : Int)
  have HPK := Aside0.mk (fun (W : World) (hW : Below w.heap.size w W) => xpack_calls A c (x : Int) l W (hE.below hW) hc (by omega) (by omega) (by omega))
  rw [hpp] at hp hpl hpa HPK ⊢
  obtain ⟨p1, p2⟩ := p
  dsimp only at hp hpl hpa HPK ⊢
  subst hp
  have HPL := Aside0.mk (And.intro hpl hpa)
  have HX := Aside0.mk (And.intro hx (And.intro h1 hcl))
  clear h hE hpp hpl hpa hall
  go_enter Tryz.func53, Tryz.ntmps53
  go_upto_region 1 with fail
  have hb0 := below_alloc (below_alloc (Below.refl w.heap.size w) (.cells cs.toArray 47)) (.cells #[.int .i64 0, .int .i64 0, .int .i64 0, .int .i64 0, .int .i64 0, .int .i64 0, .int .i64 0, .int .i64 0, .int .i64 0, .int .i64 0, .int .i64 0, .int .i64 0, .int .i64 0, .bool false, .slice none 0 0] 47)
  have hs1 : Strc ((w.alloc (.cells cs.toArray 47)).alloc (.cells #[.int .i64 0, .int .i64 0, .int .i64 0, .int .i64 0, .int .i64 0, .int .i64 0, .int .i64 0, .int .i64 0, .int .i64 0, .int .i64 0, .int .i64 0, .int .i64 0, .int .i64 0, .bool false, .slice none 0 0] 47)) w.heap.size 47 cs := by
    have := alloc_last w (.cells cs.toArray 47)
    unfold Strc
    rw [alloc_old _ _ _ (lt_of_obj this)]
    exact this
  have hs2 : Strc ((w.alloc (.cells cs.toArray 47)).alloc (.cells #[.int .i64 0, .int .i64 0, .int .i64 0, .int .i64 0, .int .i64 0, .int .i64 0, .int .i64 0, .int .i64 0, .int .i64 0, .int .i64 0, .int .i64 0, .int .i64 0, .int .i64 0, .bool false, .slice none 0 0] 47)) (w.heap.size + 1) 47 [.int .i64 0, .int .i64 0, .int .i64 0, .int .i64 0, .int .i64 0, .int .i64 0, .int .i64 0, .int .i64 0, .int .i64 0, .int .i64 0, .int .i64 0, .int .i64 0, .int .i64 0, .bool false, .slice none 0 0] := by
    have := alloc_last (w.alloc (.cells cs.toArray 47)) (.cells #[.int .i64 0, .int .i64 0, .int .i64 0, .int .i64 0, .int .i64 0, .int .i64 0, .int .i64 0, .int .i64 0, .int .i64 0, .int .i64 0, .int .i64 0, .int .i64 0, .int .i64 0, .bool false, .slice none 0 0] 47)
    rw [show ∀ o, (w.alloc o).heap.size = w.heap.size + 1 from fun o => by simp] at this
    exact this
  generalize (w.alloc (.cells cs.toArray 47)).alloc (.cells #[.int .i64 0, .int .i64 0, .int .i64 0, .int .i64 0, .int .i64 0, .int .i64 0, .int .i64 0, .int .i64 0, .int .i64 0, .int .i64 0, .int .i64 0, .int .i64 0, .int .i64 0, .bool false, .slice none 0 0] 47) = w1 at hb0 hs1 hs2 ⊢
  obtain ⟨q, hq⟩ : ∃ q, w.heap.size = q := ⟨_, rfl⟩
  have HB0 := Aside0.mk hb0
  rw [hq] at hs1 hs2 ⊢
  have HQ := Aside0.mk hq
  clear hq hb0
  have HS1 := Aside0.mk hs1
  have HS2 := Aside0.mk hs2
  have c12 := hs1.cell 12 _ hx
  have hwx : IntKind.u32.wrap (x : Int) = (x : Int) := by rw [IntKind.wrap_u32]; omega
  have hxi : (x : Int) < 4294967296 := by omega
  clear hs1 hs2 hx
  go_wp2_with fail
  refine (HPK.out w1 HB0.out).mono ?_
  rintro e w2 ⟨v2, rfl, hb2, hv2, _⟩
  obtain ⟨g2, c2, rfl, hg2, hc2, hr2⟩ := hv2 rfl
  have HB2 := Aside0.mk (below_then HB0.out HB0.out.size hb2)
  have hs1 := HS1.out.below hb2
  have HS1 := Aside0.mk hs1
  have HS2 := Aside0.mk (HS2.out.below hb2)
  have c12' := hs1.cell 12 _ HX.out.1
  have hsw := swrite_calls x ⟨g2, 0, none⟩ c2 p1 w2 (HH.out.below HB2.out) hxn (hr2.reads (by rw [HPL.out.1]; omega)) HPL.out.1 HPL.out.2 hh (fun hd => by have := HBLK.out _ hd; have := HB0.out.size; simp at *; omega)
  have HSW := Aside0.mk hsw
  rw [HPL.out.1]
  have HG2 := Aside0.mk (And.intro hg2 hr2)
  clear hsw hs1 hv2 hb2 c12 hwx hg2 hr2
  dsimp only
  go_wp2_with fail
  refine HSW.out.mono ?_
  rintro e w3 ⟨D3, rfl, h3, hD3, hm3⟩
  have hnq : ¬ D q := fun hd => by have := HBLK.out _ hd; have := HQ.out; omega
  have hnq1 : ¬ D (q + 1) := fun hd => by have := HBLK.out _ hd; have := HQ.out; omega
  have hs1 := HS1.out.mod hm3 hnq
  have hs2 := HS2.out.mod hm3 hnq1
  have hcl := HX.out.2.2
  have h1 := HX.out.2.1
  have hinf : (Tryz.prog.info? 47).map (·.size) = some cs.toArray.size := by rw [List.size_toArray, hcl]; kernel_rfl
  have hone : cs.toArray.all (·.oneCell') = true := by simpa using h1
  have hz15 : (#[Value.int .i64 0, .int .i64 0, .int .i64 0, .int .i64 0, .int .i64 0, .int .i64 0, .int .i64 0, .int .i64 0, .int .i64 0, .int .i64 0, .int .i64 0, .int .i64 0, .int .i64 0, .bool false, .slice none 0 0] : Array Value).size = cs.toArray.size := by rw [List.size_toArray]; exact hcl.symm
  have H3 := Aside0.mk (And.intro h3 (And.intro hD3 hm3))
  have HH1 := Aside0.mk (And.intro hs1 hs2)
  clear h3 hD3 hm3 hs1 hs2 hcl h1
  dsimp only
  go_upto_region 5 with fail
  refine wp_region_lit ?_
  refine wpList_load_row rfl 47 _ rfl q rfl 47 cs.toArray (0, 0) _ HH1.out.1 Tryz.underlying47 rfl hinf ?_
  refine wpList_store_row rfl 47 _ _ rfl (q + 1) cs.toArray rfl rfl 47 _ HH1.out.2 hinf hz15 hone ?_
  have hres := setRow_heap w3 (q + 1) _ cs.toArray 47 (0, 0) HH1.out.2
  have hmr : Mod w w3 D := Mod.trans (Mod.of_below HB2.out _) H3.out.2.2 (fun _ _ h => h)
  have hms : Mod w3 (w3.setRow (q + 1) cs.toArray) (· = q + 1) := mod_setRow _ _ _
  have HM := Aside0.mk (And.intro hmr hms)
  generalize w3.setRow (q + 1) cs.toArray = w4 at hres HM ⊢
  have HRES := Aside0.mk hres
  clear hinf hone hz15 hmr hms hres
  go_wp2
  refine bodyPost_ret (v := .tuple #[.agg cs.toArray, .int .i64 0]) ?_ rfl ?_
  · exact results_ino rfl _ _ (q + 1) cs.toArray 0 rfl rfl HRES.out (infIno HX.out.2.2)
  · have hq2 := HS2.out.lt
    have hqw := HQ.out
    have hnd : ∀ k, D3 k → k ≠ q + 1 := fun k hk e => (H3.out.2.1 k hk).elim (fun hd => by have := HBLK.out _ hd; omega) (fun hd => by omega)
    exact ⟨D3, rfl, H3.out.1.mod HM.out.2 hnd, fun k hk => (H3.out.2.1 k hk).imp id (fun hd => by have := HB2.out.size; omega), HM.out.1.trans HM.out.2 (fun k hk e => by have : k = q + 1 := e; omega)⟩
section
variable {P : Program} {w : World} {o : Oper} {a : Act} {K : Act → World → Prop} {Q : Exit → Act → World → Prop}
theorem wp_append_roomE (s x : Operand) (t e : TypeId) (ho : o.op = .call { callee := .builtin .append, args := #[s, x], argTypes := #[t, t] }) (i : TypeInfo) (sz : Nat) (ht : P.underlying t = some (.slice e)) (hi : P.info? e = some i) (hs1 : i.size = sz)
    (b n cap : Nat) (hs : a.eval s = .slice (some ⟨b, 0, none⟩) n cap) (ad : Addr) (m c : Nat) (L news : List Value) (te : TypeId) (hx : a.eval x = .slice (some ad) m c)
    (hL : w.heap[b]? = some (.cells L.toArray te (0, 0))) (hn : news.length = m * sz) (hsrc : ∀ j u, news[j]? = some u → w.cell? (ad.add j) = some u) (h1 : ∀ u ∈ news, u.oneCell' = true) (hroom : n + m ≤ cap) (hfit : n * sz + news.length ≤ L.length)
    (h : ∀ w1, w1.heap[b]? = some (.cells (putC L (n * sz) news).toArray te (0, 0)) → Mod w w1 (· = b) → w1.heap.size = w.heap.size → K (a.put o.dst (.slice (some ⟨b, 0, none⟩) (n + m) cap)) w1) : o.wp P a w K Q := by
  have hcl : ∀ j, j < news.length → (w.cell? ⟨b, 0 + n * i.size + j, none⟩).isSome = true := fun j hj => by rw [cell_of_obj hL, List.getElem?_eq_getElem (by rw [hs1]; omega)]; rfl
  have hrun := run_append_room_cells (P := P) w t o.type e i ht hi b 0 n cap ad m c news (by rw [hs1]; exact hn) hsrc h1 hroom hcl (fun j _ => free_of_obj hL _)
  rw [hs1, Nat.zero_add] at hrun
  unfold Oper.wp execOp
  simp only [ho, resolve, invoke, builtin, Sem.run_bind, Sem.run_pure, Result.andThen_ok, List.map_toArray, List.map_cons, List.map_nil, hs, hx, hrun]
  exact h _ (setCells_obj b te news _ L w hL hfit) (setCells_mod b news _ w w (Mod.refl _ _)) (setCells_size b news _ w)
theorem run_clearE (t e ty : TypeId) (z : Value) (sz : Nat) (ht : P.underlying t = some (.slice e)) (hv : ∀ w, (zeroValue e).run P w = .ok z w) (hz : z.cells.size = sz) (h1 : ∀ q ∈ z.cells.toList, q.oneCell' = true) (b o n c : Nat) (L : List Value) (te : TypeId) (hn : 0 < n) (hsz : 0 < sz)
    (hL : w.heap[b]? = some (.cells L.toArray te (0, 0))) (hfit : o + n * sz ≤ L.length) :
    ∃ w1 Z, (Builtin.clear_ #[t] ty #[.slice (some ⟨b, o, none⟩) n c]).run P w = .ok (.tuple #[]) w1 ∧ Z.length = n * sz ∧ w1.heap[b]? = some (.cells (putC L o Z).toArray te (0, 0)) ∧ Mod w w1 (· = b) ∧ w1.heap.size = w.heap.size := by
  have hzl : (Builtin.zeroCells z.cells n).toList.length = n * sz := by rw [← hz]; simp [Builtin.zeroCells]
  have hone : ∀ q ∈ (Builtin.zeroCells z.cells n).toList, q.oneCell' = true := by
    intro q hq
    rw [Array.mem_toList_iff] at hq
    unfold Builtin.zeroCells at hq
    obtain ⟨k, _, rfl⟩ := Array.mem_map.1 hq
    refine h1 _ ?_
    have : k % z.cells.size < z.cells.size := Nat.mod_lt _ (by omega)
    rw [getElem!_pos z.cells _ this]
    exact Array.getElem_mem_toList this
  have hst := run_storeCells_cells (P := P) b o (Builtin.zeroCells z.cells n).toList 0 w (fun j hj => by rw [cell_of_obj hL, List.getElem?_eq_getElem (by omega)]; rfl) (fun j _ => free_of_obj hL _) hone
  simp only [Nat.add_zero] at hst
  obtain ⟨m, rfl⟩ : ∃ m, n = m + 1 := ⟨n - 1, by omega⟩
  exact ⟨_, _, by simp [Builtin.clear_, run_underlying ht, hv, hst], hzl, setCells_obj b te _ o L w hL (by omega), setCells_mod b _ o w w (Mod.refl _ _), setCells_size b _ o w⟩
end
def delL {α : Type} (l : List α) (i : Nat) : List α := l.take i ++ l.drop (i + 1)
theorem delL_length {α : Type} (l : List α) (i : Nat) (h : i < l.length) : (delL l i).length = l.length - 1 := by
  unfold delL
  simp only [List.length_append, List.length_take, List.length_drop]
  omega
theorem delL_get {α : Type} (l : List α) (i : Nat) (d : α) (j : Nat) (hi : i < l.length) : (delL l i).getD j d = if j < i then l.getD j d else l.getD (j + 1) d := by
  unfold delL
  have hk : (l.take i).length = i := by rw [List.length_take]; omega
  simp only [List.getD_eq_getElem?_getD]
  by_cases h1 : j < i
  · rw [if_pos h1, List.getElem?_append_left (by omega), List.getElem?_take, if_pos h1]
  · rw [if_neg h1, List.getElem?_append_right (by omega), hk, List.getElem?_drop]
    congr 2
    omega
theorem acells_del (l : List Att) (vs : List Value) (i : Nat) (h : vs.length = l.length) : acells (delL l i) (delL vs i) = acells (l.take i) (vs.take i) ++ acells (l.drop (i + 1)) (vs.drop (i + 1)) := by
  unfold delL
  rw [acells_append _ _ _ _ (by rw [List.length_take, List.length_take, h])]
theorem acells_mid (l : List Att) (vs : List Value) (i : Nat) (h : vs.length = l.length) (hi : i < l.length) : ∃ N : List Value, acells l vs = acells (l.take i) (vs.take i) ++ N ++ acells (l.drop (i + 1)) (vs.drop (i + 1)) ∧ (acells (l.take i) (vs.take i)).length = i * 2 ∧ N.length = 2 ∧ (acells (l.drop (i + 1)) (vs.drop (i + 1))).length = (l.length - (i + 1)) * 2 := by
  obtain ⟨a1, a2, a3⟩ := acells_take l vs i h (by omega)
  obtain ⟨b1, b2, b3⟩ := acells_take (l.drop i) (vs.drop i) 1 (by rw [List.length_drop, List.length_drop, h]) (by rw [List.length_drop]; omega)
  rw [List.drop_drop, List.drop_drop] at b1 b3
  refine ⟨_, by rw [a1, b1, List.append_assoc], a2, b2, ?_⟩
  rw [b3, List.length_drop]
  omega
theorem put_del (A N D R Z : List Value) (hZ : Z.length = N.length) : (putC (putC (A ++ N ++ D ++ R) A.length D) (A.length + D.length) Z).take (A.length + D.length) = A ++ D := by
  have h1 : A.length + D.length ≤ (A ++ N ++ D ++ R).length := by simp only [List.length_append]; omega
  have h2 : A.length + D.length + Z.length ≤ (putC (A ++ N ++ D ++ R) A.length D).length := by rw [putC_length h1]; simp only [List.length_append]; omega
  apply List.ext_getElem?
  intro j
  rw [List.getElem?_take]
  by_cases hj : j < A.length + D.length
  · rw [if_pos hj, putC_get h2, if_pos hj, putC_get h1]
    by_cases a1 : j < A.length
    · rw [if_pos a1, List.append_assoc, List.append_assoc, List.getElem?_append_left a1, List.getElem?_append_left a1]
    · rw [if_neg a1, if_pos hj, List.getElem?_append_right (by omega)]
  · rw [if_neg hj, List.getElem?_eq_none (by simp only [List.length_append]; omega)]
theorem del_row {w3 : World} {t : TypeId} {b0 g n i c : Nat} {A N D R Z : List Value} (hb0 : b0 ≤ g) (hA : A.length = i * 2) (hN : N.length = 2) (hD : D.length = (n - (i + 1)) * 2) (hi : i < n) (hc : n ≤ c) (hcm : c ≤ maxLen) (hl : (A ++ N ++ D ++ R).length = c * 2) (hZ : Z.length = 2)
    (hobj : w3.heap[g]? = some (.cells (putC (putC (A ++ N ++ D ++ R) (i * 2) D) ((n - 1) * 2) Z).toArray t (0, 0))) : w3.ownsRow b0 t 2 (.slice (some ⟨g, 0, none⟩) (n - 1) c) (n - 1) (A ++ D) := by
  have hl' := hl
  simp only [List.length_append, hA, hD, hN] at hl'
  have hp1 : (putC (A ++ N ++ D ++ R) (i * 2) D).length = c * 2 := by rw [putC_length (by rw [hl, hD]; omega), hl]
  have hp2 : (putC (putC (A ++ N ++ D ++ R) (i * 2) D) ((n - 1) * 2) Z).length = c * 2 := by rw [putC_length (by rw [hp1, hZ]; omega), hp1]
  refine ⟨?_, .inr ⟨g, c, _, rfl, hb0, hobj, by omega, hcm, by rw [List.size_toArray, hp2], ?_⟩⟩
  · rw [List.length_append, hA, hD]
    omega
  · have := put_del A N D R Z (by rw [hZ, hN])
    rw [hA, hD] at this
    rw [show (n - 1) * 2 = i * 2 + (n - (i + 1)) * 2 by omega]
    exact this
theorem del_own {w w1 : World} {b0 : Nat} {v v1 : Value} {l : List Att} {vs : List Value} {i : Nat} (hv : vs.length = l.length) (hrow : w.ownsRow b0 72 2 v l.length (acells l vs)) (hvals : ∀ j, j < l.length → Own w b0 5 .u8 (vs.getD j undef) (attAt l j).val ∧ allB (attAt l j).val)
    (hi : i < l.length) (hm : Mod w w1 (fun k => v.ownBlock = some k)) (h1 : w1.ownsRow b0 72 2 v1 (l.length - 1) (acells (delL l i) (delL vs i))) : OwnA w1 b0 v1 (delL l i) := by
  have hne : (72 : TypeId) ≠ 5 := by decide
  have hk : ∀ {u : Value} {z : List Int}, Own w b0 5 .u8 u z → Own w1 b0 5 .u8 u z := fun hu => own_mod hu hm (fun g hg' e => own_ne hrow hu hne g e hg')
  refine ⟨delL vs i, by rw [delL_length _ _ hi, delL_length _ _ (by omega), hv], by rw [delL_length _ _ hi]; exact h1, fun j hj => ?_⟩
  rw [delL_length _ _ hi] at hj
  have e2 : attAt (delL l i) j = if j < i then attAt l j else attAt l (j + 1) := delL_get l i _ j hi
  rw [delL_get vs i _ j (by omega), e2]
  by_cases a1 : j < i
  · rw [if_pos a1, if_pos a1]
    exact ⟨hk (hvals j (by omega)).1, (hvals j (by omega)).2⟩
  · rw [if_neg a1, if_neg a1]
    exact ⟨hk (hvals (j + 1) (by omega)).1, (hvals (j + 1) (by omega)).2⟩
theorem set_own {w w1 : World} {b0 : Nat} {v vx : Value} {l : List Att} {vs : List Value} {x : Att} {i : Nat} (hv : vs.length = l.length) (hrow : w.ownsRow b0 72 2 v l.length (acells l vs)) (hvals : ∀ j, j < l.length → Own w b0 5 .u8 (vs.getD j undef) (attAt l j).val ∧ allB (attAt l j).val)
    (hx : Own w b0 5 .u8 vx x.val) (hxb : allB x.val) (hi : i < l.length) (hm : Mod w w1 (fun k => v.ownBlock = some k)) (h1 : w1.ownsRow b0 72 2 v l.length (acells (l.set i x) (vs.set i vx))) : OwnA w1 b0 v (l.set i x) := by
  have hne : (72 : TypeId) ≠ 5 := by decide
  have hk : ∀ {u : Value} {z : List Int}, Own w b0 5 .u8 u z → Own w1 b0 5 .u8 u z := fun hu => own_mod hu hm (fun g hg' e => own_ne hrow hu hne g e hg')
  refine ⟨vs.set i vx, by rw [List.length_set, List.length_set, hv], by rw [List.length_set]; exact h1, fun j hj => ?_⟩
  rw [List.length_set] at hj
  by_cases a : j = i
  · subst a
    have e1 : (vs.set j vx).getD j undef = vx := by simp [List.getD_eq_getElem?_getD, hv, hj]
    have e2 : attAt (l.set j x) j = x := by simp [attAt, List.getD_eq_getElem?_getD, hj]
    rw [e1, e2]
    exact ⟨hk hx, hxb⟩
  · have e1 : (vs.set i vx).getD j undef = vs.getD j undef := by simp [List.getD_eq_getElem?_getD, List.getElem?_set_ne (Ne.symm a)]
    have e2 : attAt (l.set i x) j = attAt l j := by simp [attAt, List.getD_eq_getElem?_getD, List.getElem?_set_ne (Ne.symm a)]
    rw [e1, e2]
    exact ⟨hk (hvals j hj).1, (hvals j hj).2⟩
theorem acells_set (l : List Att) (vs : List Value) (i : Nat) (x : Att) (u : Value) (h : vs.length = l.length) (hi : i < l.length) : acells (l.set i x) (vs.set i u) = ((acells l vs).set (i * 2) (.string x.name)).set (i * 2 + 1) u := by
  apply List.ext_getElem?
  intro j
  have hl1 : (acells (l.set i x) (vs.set i u)).length = l.length * 2 := by rw [acells_length _ _ (by simpa using h)]; simp
  have hl2 := acells_length l vs h
  by_cases hj : j < l.length * 2
  · obtain ⟨k, hk⟩ : ∃ k, k = j / 2 := ⟨_, rfl⟩
    have a1 := acells_at (l.set i x) (vs.set i u) k (by rw [List.length_set]; omega) (by simpa using h)
    have a2 := acells_at l vs k (by omega) h
    by_cases hki : k = i
    · subst hki
      have e1 : (vs.set k u).getD k undef = u := by simp [List.getD_eq_getElem?_getD, h, hi]
      have e2 : attAt (l.set k x) k = x := by simp [attAt, List.getD_eq_getElem?_getD, hi]
      rw [e1, e2] at a1
      by_cases hp : j = k * 2
      · subst hp
        rw [a1.1, List.getElem?_set_ne (by omega), List.getElem?_set_self (by omega)]
      · obtain rfl : j = k * 2 + 1 := by omega
        rw [a1.2, List.getElem?_set_self (by rw [List.length_set]; omega)]
    · have e1 : (vs.set i u).getD k undef = vs.getD k undef := by simp [List.getD_eq_getElem?_getD, List.getElem?_set_ne (Ne.symm hki)]
      have e2 : attAt (l.set i x) k = attAt l k := by simp [attAt, List.getD_eq_getElem?_getD, List.getElem?_set_ne (Ne.symm hki)]
      rw [e1, e2, ] at a1
      rw [List.getElem?_set_ne (by omega), List.getElem?_set_ne (by omega)]
      by_cases hp : j = k * 2
      · subst hp
        rw [a1.1, a2.1]
      · obtain rfl : j = k * 2 + 1 := by omega
        rw [a1.2, a2.2]
  · rw [List.getElem?_eq_none (by omega), List.getElem?_eq_none (by simp only [List.length_set]; omega)]
theorem own_setv {w : World} {base e sz g n c : Nat} {cs : List Value} (h : w.ownsRow base e sz (.slice (some ⟨g, 0, none⟩) n c) n cs) (j : Nat) (x : Value) : (w.setCell ⟨g, j, none⟩ x).ownsRow base e sz (.slice (some ⟨g, 0, none⟩) n c) n (cs.set j x) := by
  refine ⟨by rw [List.length_set]; exact h.1, ?_⟩
  rcases h.2 with ⟨h0, _⟩ | ⟨g', cap, cur, hv, hb, hh, h1, h2, h3, h4⟩
  · cases h0
  · cases hv
    refine .inr ⟨g, c, cur.setIfInBounds j x, rfl, hb, ?_, h1, h2, by simpa using h3, ?_⟩
    · unfold World.setCell
      simp only [Array.getElem?_modify, if_true, hh, Option.map_some]
      simp
    · rw [Array.toList_setIfInBounds, List.take_set, h4]
theorem cell_setCell_ne {w : World} {g j k : Nat} {x : Value} (h : j ≠ k) : (w.setCell ⟨g, j, none⟩ x).cell? ⟨g, k, none⟩ = w.cell? ⟨g, k, none⟩ := by
  simp only [World.cell?, World.setCell, Array.getElem?_modify, if_true]
  cases w.heap[g]? with
  | none => rfl
  | some o =>
    cases o <;> simp [Array.getElem?_setIfInBounds_ne h]
theorem frozen_setCell_ne {w : World} {g j k : Nat} {x : Value} : (w.setCell ⟨g, j, none⟩ x).frozen? ⟨g, k, none⟩ = w.frozen? ⟨g, k, none⟩ := by
  simp only [World.frozen?, World.setCell, Array.getElem?_modify, if_true]
  cases w.heap[g]? with
  | none => rfl
  | some o => cases o <;> rfl
theorem ownA_put {w : World} {b0 n c i : Nat} {A : Option Addr} {l : List Att} {x : Att} {vx : Value} (h : OwnA w b0 (.slice A n c) l) (hn : l.length = n) (hx : Own w b0 5 .u8 vx x.val) (hxb : allB x.val) (hi : i < l.length) :
    ∃ g, A = some ⟨g, 0, none⟩ ∧ (∃ z, w.cell? ⟨g, i * 2, none⟩ = some z) ∧ (∃ z, w.cell? ⟨g, i * 2 + 1, none⟩ = some z ∧ (w.setCell ⟨g, i * 2, none⟩ (.string x.name)).cell? ⟨g, i * 2 + 1, none⟩ = some z) ∧ w.frozen? ⟨g, i * 2, none⟩ = false ∧ (w.frozen? ⟨g, i * 2 + 1, none⟩ = false ∧ (w.setCell ⟨g, i * 2, none⟩ (.string x.name)).frozen? ⟨g, i * 2 + 1, none⟩ = false) ∧
      OwnA ((w.setCell ⟨g, i * 2, none⟩ (.string x.name)).setCell ⟨g, i * 2 + 1, none⟩ vx) b0 (.slice A n c) (l.set i x) ∧ Mod w ((w.setCell ⟨g, i * 2, none⟩ (.string x.name)).setCell ⟨g, i * 2 + 1, none⟩ vx) (fun k => g = k) := by
  obtain ⟨vs, hv, hrow, hvals⟩ := h
  have hrow0 := hrow
  rcases hrow.2 with ⟨e, h0⟩ | ⟨g, cap, cur, e, hb, hh, hc, hcm, hsz, htk⟩
  · cases e
    omega
  · cases e
    have hcell : ∀ j, w.cell? ⟨g, j, none⟩ = cur[j]? := fun j => by simp [World.cell?, hh]
    have hfz : ∀ j, w.frozen? ⟨g, j, none⟩ = false := fun j => by simp [World.frozen?, hh]
    have h1 : ∃ z, w.cell? ⟨g, i * 2, none⟩ = some z := ⟨_, by rw [hcell, Array.getElem?_eq_getElem (by omega)]⟩
    obtain ⟨z, h2⟩ : ∃ z, w.cell? ⟨g, i * 2 + 1, none⟩ = some z := ⟨_, by rw [hcell, Array.getElem?_eq_getElem (by omega)]⟩
    have hm : Mod w ((w.setCell ⟨g, i * 2, none⟩ (.string x.name)).setCell ⟨g, i * 2 + 1, none⟩ vx) (· = g) := ((Mod.refl w (· = g)).set_own _ _).set_own _ _
    refine ⟨g, rfl, h1, ⟨z, h2, by rw [cell_setCell_ne (by omega)]; exact h2⟩, hfz _, ⟨hfz _, by rw [frozen_setCell_ne]; exact hfz _⟩, ?_, hm.mono (fun k _ e => e.symm)⟩
    refine set_own hv hrow0 hvals hx hxb hi (hm.mono (fun k _ e => by rw [e]; rfl)) ?_
    rw [acells_set l vs i x vx hv hi]
    exact own_setv (own_setv hrow0 _ _) _ _
theorem seekI_lt {l : List Att} {nm : ByteArray} {i : Nat} (h : seekI l nm = (i, true)) : i < l.length := by
  unfold seekI at h
  simp only [Prod.mk.injEq, Bool.and_eq_true, decide_eq_true_eq] at h
  omega
theorem zeroAtt : ∀ w : World, (zeroValue 72).run Tryz.prog w = .ok (.agg #[.string ⟨#[]⟩, .slice none 0 0]) w := fun w => by kernel_rfl
set_option maxRecDepth 100000 in
theorem cut_mid (g n1 n c : Nat) (h : n1 + 1 = n) (hc : n ≤ c) (W : World) : (Instr.slice 29 (.slice (some ⟨g, 0, none⟩) n1 c) (some (.int .i64 (n1 : Int))) (some (.int .i64 (n : Int))) none).run Tryz.prog W = .ok (.slice (some ⟨g, n1 * 2, none⟩) 1 (c - n1)) W := by
  have hel : Tryz.prog.elem 29 = 72 := by kernel_rfl
  have hu : Tryz.prog.underlying 29 = some (.slice (Tryz.prog.elem 29)) := by kernel_rfl
  obtain ⟨e0, he, hz0, hz1, hz2⟩ := info_parts infoAtt
  rw [run_slice_lh W 29 (some ⟨g, 0, none⟩) n1 c hu .i64 .i64 (n1 : Int) (n : Int) (by omega) (by omega) (by omega), hel]
  simp [sizeOf, typeInfo, he, hz1, sliced, Result.andThen]
  rw [if_neg (by omega)]
  refine ⟨by rw [add_plain], by omega⟩
def DelPost (b0 : Nat) (v : Value) (n : Nat) (cs : List Value) (w : World) (e : Ending) (w' : World) : Prop :=
  ∃ v', e = .returned v' ∧ w'.ownsRow b0 72 2 v' n cs ∧ Mod w w' (fun k => v.ownBlock = some k)
set_option maxHeartbeats 4000000 in
set_option maxRecDepth 100000 in
theorem del_calls (b0 g : Nat) (n n1 i j c : Nat) (A N D R : List Value) (w : World) (hb0 : b0 ≤ g) (hA : A.length = i * 2) (hN : N.length = 2) (hD : D.length = (n - (i + 1)) * 2) (hi : i < n) (hij : i + 1 = j) (hn1 : n1 + 1 = n) (hc : n ≤ c) (hcm : c ≤ maxLen) (hl : (A ++ N ++ D ++ R).length = c * 2)
    (hL : w.heap[g]? = some (.cells (A ++ N ++ D ++ R).toArray 72 (0, 0))) (h1 : ∀ q ∈ D, q.oneCell' = true) (hn : n ≤ 1000) :
    Calls Tryz.prog 60 #[.slice (some ⟨g, 0, none⟩) n c, .int .i64 i, .int .i64 j] w (DelPost b0 (.slice (some ⟨g, 0, none⟩) n c) n1 (A ++ D) w) := by
  obtain ⟨e0, he, hz0, hz1, hz2⟩ := info_parts infoAtt
  have HP := Aside0.mk (And.intro hb0 (And.intro hA (And.intro hN (And.intro hD (And.intro hi (And.intro hc (And.intro hcm hl)))))))
  simp only [maxLen] at hcm
  have hcut1 := cut_up (some ⟨g, 0, none⟩) n c i (by omega)
  have hcut3 := cut_mid g n1 n c hn1 hc
  obtain ⟨Aj, hcut2, hsrc⟩ : ∃ Aj : Addr, (∀ W : World, (Instr.slice 29 (.slice (some ⟨g, 0, none⟩) n c) (some (.int .i64 (j : Int))) none none).run Tryz.prog W = .ok (.slice (some Aj) (n - j) (c - j)) W) ∧ (∀ k q, D[k]? = some q → w.cell? (Aj.add k) = some q) := by
    by_cases hcj : c = j
    · refine ⟨⟨g, 0, none⟩, fun W => ?_, fun k q hk => ?_⟩
      · rw [cut_at (some ⟨g, 0, none⟩) n c j (by omega) W, if_pos hcj]
      · have : D = [] := List.eq_nil_of_length_eq_zero (by rw [hD]; omega)
        rw [this] at hk
        cases hk
    · refine ⟨⟨g, j * 2, none⟩, fun W => ?_, fun k q hk => ?_⟩
      · rw [cut_at (some ⟨g, 0, none⟩) n c j (by omega) W, if_neg hcj, Option.map_some, add_plain]
      · rw [show (⟨g, j * 2, none⟩ : Addr).add k = ⟨g, j * 2 + k, none⟩ by unfold Addr.add; split <;> simp_all, cell_of_obj hL, List.append_assoc, List.getElem?_append_right (by rw [List.length_append]; omega), List.length_append, hA, hN, show j * 2 + k - (i * 2 + 2) = k by omega, List.getElem?_append_left (List.getElem?_eq_some_iff.1 hk).1]
        exact hk
  have HS := Aside0.mk hsrc
  have HL := Aside0.mk hL
  have H1 := Aside0.mk h1
  have hij2 : ¬ ((i : Int) = (j : Int)) := by omega
  have hij3 : (i : Int) ≤ (j : Int) := by omega
  have hjn : (j : Int) ≤ (n : Int) := by omega
  have hnc : (n : Int) ≤ (c : Int) := by omega
  have hsum : i + (n - j) = n1 := by omega
  have hroom : i + (n - j) ≤ c := by omega
  have HD := Aside0.mk (show D.length = (n - j) * 2 by rw [hD, hij])
  have HF := Aside0.mk (show i * 2 + D.length ≤ (A ++ N ++ D ++ R).length by rw [hD, hl]; omega)
  clear hL hl hA hN hD hsrc h1 hb0
  go_enter Tryz.func60, Tryz.ntmps60
  go_upto_region 5 with fail
  refine wp_region_in [0, 0, 0, 0, 0, 0, 2, 0] [] (fun _ => True) (by kernel_rfl) rfl (by kernel_rfl) (fun _ _ _ _ h => h) trivial ?_
  iterate 6 (first
    | (refine in_off0 (by rfl) ?_; simp only [Act.put, stA, stZ, stS, i64_w, i32_w])
    | (refine in_off1 (by rfl) ?_; simp only [Act.put, stA, stZ, stS, i64_w, i32_w])
    | (refine in_0 (v := ?_) (by rfl) rfl ?_ (a' := ?_) ?_ ?_; rotate_left; (intro w'; go_simp; with_reducible rfl); rotate_left; (simp only [Act.put, stA, stZ, stS, i64_w, i32_w]; rfl))
    | (refine in_1 (v := ?_) (by rfl) rfl ?_ (a' := ?_) ?_ ?_; rotate_left; (rintro w' hs; go_split_ands; go_simp; with_reducible rfl); rotate_left; (simp only [Act.put, stA, stZ, stS, i64_w, i32_w]; rfl)))
  refine in_2 (by rfl) (fun K hK => ?_)
  refine wp_append_roomE (.tmp 22) (.tmp 25) 29 72 rfl e0 2 Tryz.underlying29 he hz1 g i c rfl Aj (n - j) (c - j) (A ++ N ++ D ++ R) D 72 rfl HL.out HD.out HS.out H1.out hroom HF.out ?_
  intro w1 a1 a2 a3
  rw [hsum]
  refine hK _ _ trivial ?_
  clear hK K
  have HW := Aside0.mk (And.intro a1 (And.intro a2 a3))
  clear a1 a2 a3
  try simp only [Act.put, stA, stZ, stS, i64_w, i32_w]
  iterate 1 (first
    | (refine in_off0 (by rfl) ?_; simp only [Act.put, stA, stZ, stS, i64_w, i32_w])
    | (refine in_off1 (by rfl) ?_; simp only [Act.put, stA, stZ, stS, i64_w, i32_w])
    | (refine in_0 (v := ?_) (by rfl) rfl ?_ (a' := ?_) ?_ ?_; rotate_left; (intro w'; go_simp; with_reducible rfl); rotate_left; (simp only [Act.put, stA, stZ, stS, i64_w, i32_w]; rfl))
    | (refine in_1 (v := ?_) (by rfl) rfl ?_ (a' := ?_) ?_ ?_; rotate_left; (rintro w' hs; go_split_ands; go_simp; with_reducible rfl); rotate_left; (simp only [Act.put, stA, stZ, stS, i64_w, i32_w]; rfl)))
  refine in_nil ?_
  obtain ⟨w2, Z, hr2, hz, d1, d2, d3⟩ := run_clearE (P := Tryz.prog) (w := w1) 29 72 0 (.agg #[.string ⟨#[]⟩, .slice none 0 0]) 2 Tryz.underlying29 zeroAtt rfl (by decide) g (n1 * 2) 1 (c - n1) _ 72 (by omega) (by omega) HW.out.1 (by rw [putC_length HF.out, HP.out.2.2.2.2.2.2.2]; have := HP.out.2.2.2.2.2.1; omega)
  have HC := Aside0.mk (And.intro hz (And.intro d1 d2))
  clear hz d1 d2 d3
  go_wp2
  go_ret
  have hn1' : n - 1 = n1 := by omega
  have hd := del_row HP.out.1 HP.out.2.1 HP.out.2.2.1 HP.out.2.2.2.1 HP.out.2.2.2.2.1 HP.out.2.2.2.2.2.1 HP.out.2.2.2.2.2.2.1 HP.out.2.2.2.2.2.2.2 (Z := Z) (by rw [HC.out.1]) (by rw [hn1']; exact HC.out.2.1)
  rw [hn1'] at hd
  exact ⟨_, rfl, hd, Mod.trans ((Mod.refl _ _).drew) (Mod.trans HW.out.2.1 HC.out.2.2 (fun k _ h => h)) (fun k _ h => by rw [h]; rfl)⟩
theorem delete_calls {w : World} {b0 i j : Nat} {v : Value} {l : List Att} (h : OwnA w b0 v l) (hi : i < l.length) (hij : i + 1 = j) (hl : l.length ≤ 1000) :
    Calls Tryz.prog 60 #[v, .int .i64 i, .int .i64 j] w (InsertPost b0 v (delL l i) w) := by
  obtain ⟨vs, hv, hrow, hvals⟩ := h
  obtain ⟨N, t1, t2, t3, t4⟩ := acells_mid l vs i hv hi
  have hone : ∀ q ∈ acells (l.drop (i + 1)) (vs.drop (i + 1)), q.oneCell' = true := acells_one _ _ (fun v hm => vals_one hv hvals v (List.mem_of_mem_drop hm))
  have hrow0 := hrow
  rcases hrow.2 with ⟨rfl, h0⟩ | ⟨g, c, cur, rfl, hb, hh, hc, hcm, hsz, htk⟩
  · omega
  · have hcur : cur = (acells (l.take i) (vs.take i) ++ N ++ acells (l.drop (i + 1)) (vs.drop (i + 1)) ++ cur.toList.drop (l.length * 2)).toArray := by
      apply Array.ext'
      rw [← t1, ← htk]
      simp
    have hL : w.heap[g]? = some (.cells (acells (l.take i) (vs.take i) ++ N ++ acells (l.drop (i + 1)) (vs.drop (i + 1)) ++ cur.toList.drop (l.length * 2)).toArray 72 (0, 0)) := by rw [← hcur]; exact hh
    refine (del_calls b0 g l.length (l.length - 1) i j c _ N _ _ w hb t2 t3 t4 hi hij (by omega) hc hcm ?_ hL hone hl).mono ?_
    · rw [← hsz]
      conv => rhs; rw [hcur]
      rw [List.size_toArray]
    · rintro e w1 ⟨v1, he, h1, hm⟩
      refine ⟨v1, he, del_own hv hrow0 hvals hi hm ?_, hm⟩
      rw [acells_del l vs i hv]
      exact h1
end Go.Proofs.YtkmhilhfmfmckaaGreatDoor.Hand
namespace Go.Proofs.YtkmhilhfmfmckaaGreatDoor.Hand
set_option linter.unusedSimpArgs false
set_option linter.unusedVariables false
theorem dturnI_in {s : St} {n m : Nat} {fr ct : Int} {on : Bool} (h : (dturnI s n m fr ct on).2 = 0) : 1 ≤ ct ∧ 0 ≤ fr ∧ fr + ct ≤ m := by
  unfold dturnI at h
  by_cases h0 : (turnI (s.now.getD n []) m fr ct on n).2 = 0
  · unfold turnI at h0
    by_cases h1 : chkB (s.now.getD n []) m n ≠ 0
    · rw [if_pos h1] at h0; exact absurd h0 h1
    · rw [if_neg h1] at h0
      by_cases h2 : ct < 1 ∨ fr < 0 ∨ (m : Int) < fr ∨ (m : Int) - fr < ct
      · rw [if_pos h2] at h0; cases h0
      · omega
  · rw [if_neg h0] at h; exact absurd h h0
theorem leaveI_code {s : St} {mark : Nat} {x : Sup} {l : List Grp} {e : Int} (h : (leaveI s mark x l e).2 = 0) : e = 0 := by
  unfold leaveI at h
  by_cases h0 : e ≠ 0
  · rw [if_pos h0] at h; exact absurd h h0
  · exact Classical.not_not.1 h0
theorem blkAt_ok {s b : St} {x : Sup} {l : List Grp} {i fr zz bm : Nat} {goal want bn bw : Int} (h : blkAt s x l i fr zz bm goal want = some (b, bn, bw, 0)) (hz : fr < zz) :
    ∃ n : Nat, bn = n ∧ fr ≤ n ∧ 1 ≤ bw ∧ (n : Int) + bw ≤ zz ∧ b.now.length = s.now.length ∧ b.hist.length ≤ s.hist.length + 3 := by
  unfold blkAt at h
  split at h
  · cases h
  · split at h
    · rename_i f1 f2 hf
      have h := Option.some.inj h
      unfold tookAt at h
      split at h
      · rename_i h1
        simp only [Prod.mk.injEq] at h
        exact absurd h.2.2.2 h1
      · rename_i h1
        have h1 := Classical.not_not.1 h1
        simp only [Prod.mk.injEq] at h
        obtain ⟨hb, hn, hw, _⟩ := h
        unfold takeAt at h1 hb
        have h2 := leaveI_len _ _ _ _ _ h1
        have h3 := dturnI_in (leaveI_code h1)
        have h4 := dturnI_len s bm (zz - fr) f1 f2 true
        rw [hb] at h2
        refine ⟨fr + f1.toNat, by omega, by omega, by omega, by omega, by omega, by omega⟩
    · cases h
theorem blkGo_ok {s b : St} {x : Sup} {l : List Grp} {own : Nat} {goal want bn bw : Int} (hs : Sat s.now x l) : ∀ (g k : Nat), blkGo s x l own goal want g k = (b, bn, bw, 0) →
    ∃ n : Nat, bn = n ∧ 1 ≤ bw ∧ (n : Int) + bw ≤ s.now.length ∧ b.now.length = s.now.length ∧ b.hist.length ≤ s.hist.length + 3
  | 0, k, h => by simp [blkGo] at h
  | g + 1, k, h => by
    rw [blkGo] at h
    have hl := hs.l0
    have hi := Nat.mod_lt (own + k) (show l.length > 0 by omega)
    generalize (own + k) % l.length = i at h hi
    obtain ⟨fr, zz, bm, e1, e2, _, _, e5, _, e7⟩ := geo_grp hs.geo (i := i) (by have := hs.len; omega)
    rw [e1, e2] at h
    simp only [Int.toNat_natCast] at h
    split at h
    · rename_i r hr
      subst h
      obtain ⟨n, h1, h2, h3, h4, h5, h6⟩ := blkAt_ok hr e7
      exact ⟨n, h1, h3, by have := hs.bl; omega, h5, h6⟩
    · exact blkGo_ok hs g (k + 1) h
theorem geo_small {g : Geo} (h : geoI g = 0) : g.blocks < 65536 := by
  have hz := geoI_zero h
  omega
theorem blocksI_in {s b : St} {goal want bn bw : Int} (h : blocksI s goal want = (b, bn, bw, 0)) :
    ∃ n : Nat, bn = n ∧ 1 ≤ bw ∧ (n : Int) + bw ≤ s.now.length ∧ b.now.length = s.now.length ∧ b.hist.length ≤ s.hist.length + 3 ∧ s.now.length < 65536 := by
  unfold blocksI at h
  split at h
  · cases h
  · rename_i x l hs
    split at h
    · cases h
    · have hs := sitI_sat hs
      obtain ⟨n, h1, h2, h3, h4, h5⟩ := blkGo_ok hs _ _ h
      exact ⟨n, h1, h2, h3, h4, h5, by have := geo_small hs.geo; have := hs.bl; omega⟩
theorem blocksI_ok {s b : St} {goal bn bw : Int} (h : blocksI s goal 1 = (b, bn, bw, 0)) (hh : s.hist.length ≤ 900000) : ∃ n : Nat, bn = n ∧ n < b.now.length ∧ n < 65536 ∧ b.hist.length ≤ 1000000 := by
  obtain ⟨n, h1, h2, h3, h4, h5, h6⟩ := blocksI_in h
  exact ⟨n, h1, by omega, by omega, by omega⟩
end Go.Proofs.YtkmhilhfmfmckaaGreatDoor.Hand
namespace Go.Proofs.YtkmhilhfmfmckaaGreatDoor.Hand
set_option linter.unusedSimpArgs false
set_option linter.unusedVariables false
open Go.Shelf Go.RowKit Go.Proofs.YtkmhilhfmfmckaaGreatDoorW.PrintWords Go.Proofs.YtkmhilhfmfmckaaGreatDoorW.PrintLast Go.Proofs.YtkmhilhfmfmckaaGreatDoorW.PrintMore
def inoZ : List Value := [.int .i64 0, .int .i64 0, .int .i64 0, .int .i64 0, .int .i64 0, .int .i64 0, .int .i64 0, .int .i64 0, .int .i64 0, .int .i64 0, .int .i64 0, .int .i64 0, .int .i64 0, .bool false, .slice none 0 0]
def xsetL (l : List Att) (k : Nat × Bool) (x : Att) : List Att := if k.2 then l.set k.1 x else insL l k.1 x
def xsetI (s : St) (r : Ino) (rl : Nat) (rv : Value) (nm : ByteArray) (val : List Int) (how goal : Int) : St × List Value × Int :=
  if (xlistI s.now r rl).2 ≠ 0 then (s, inoZ, (xlistI s.now r rl).2) else
  if 64 < val.length then (s, inoZ, 34) else
  if namedB nm = false ∨ how < 0 ∨ 2 < how then (s, inoZ, 22) else
  if how = 1 ∧ (seekI (xlistI s.now r rl).1 nm).2 = true then (s, inoZ, 17) else
  if how = 2 ∧ (seekI (xlistI s.now r rl).1 nm).2 = false then (s, inoZ, 61) else
  if (xpackI (xsetL (xlistI s.now r rl).1 (seekI (xlistI s.now r rl).1 nm) ⟨nm, val⟩) 0).2 ≠ 0 then (s, inoZ, (xpackI (xsetL (xlistI s.now r rl).1 (seekI (xlistI s.now r rl).1 nm) ⟨nm, val⟩) 0).2) else
  if r.xattr ≠ 0 then (s.write r.xattr.toNat (xpackI (xsetL (xlistI s.now r rl).1 (seekI (xlistI s.now r rl).1 nm) ⟨nm, val⟩) r.xattr).1, r.cells rv, 0) else
  if (blocksI s goal 1).2.2.2 ≠ 0 then ((blocksI s goal 1).1, inoZ, (blocksI s goal 1).2.2.2) else
  ((blocksI s goal 1).1.write (blocksI s goal 1).2.1.toNat (xpackI (xsetL (xlistI s.now r rl).1 (seekI (xlistI s.now r rl).1 nm) ⟨nm, val⟩) (blocksI s goal 1).2.1).1, ({ r with xattr := (blocksI s goal 1).2.1, blocks := r.blocks + 1 } : Ino).cells rv, 0)
theorem xlistI_len {now : List (List Int)} {r : Ino} {rl : Nat} (h : ∀ b ∈ now, allB b) : (xlistI now r rl).1.length ≤ 255 := by
  unfold xlistI
  split
  · simp
  · split
    · simp
    · split
      · simp
      · refine xunpI_len _ ?_
        rw [List.getD_eq_getElem?_getD]
        cases hq : now[r.xattr.toNat]? with
        | none => intro y hy; cases hy
        | some b => exact h b (List.mem_of_getElem? hq)
theorem zeroIno : ∀ w : World, (zeroValue 47).run Tryz.prog w = .ok (.agg inoZ.toArray) w := fun w => by kernel_rfl
theorem inoZ_one : inoZ.toArray.all (·.oneCell') = true := by kernel_rfl
theorem infZ : (Tryz.prog.info? 47).map (·.size) = some inoZ.toArray.size := infIno rfl
section
variable {w : World} {ops : Array Oper} {rest : List Oper} {o : Oper} {a : Act} {Q : Exit → Act → World → Prop}
theorem wpList_buildZ (hgd : o.guard = none) (ho : o.op = .build 47 #[]) (h : wpList Tryz.prog ops Q rest (a.put o.dst (.agg inoZ.toArray)) w) : wpList Tryz.prog ops Q (o :: rest) a w := by
  refine wpList_plain hgd fun K hK => ?_
  have hz := zeroIno w
  unfold Oper.wp
  simp [execOp, ho, Instr.build, hz, Result.andThen]
  exact hK _ _ h
end
theorem ino_fin {w W : World} {D D' : Nat → Prop} {s0 : Nat} {s : St} {q : Nat} (cs : List Value) (c : Int) (hq : w.heap.size ≤ q) (h : StIs W D' s0 s) (hgD : ∀ k, D' k → D k ∨ w.heap.size ≤ k) (hnd : ¬ D' q) (hm : Mod w W D) :
    InoPost D s0 s cs c w (.returned (.tuple #[.agg cs.toArray, .int .i64 c])) (W.setRow q cs.toArray) :=
  ⟨D', rfl, h.mod (mod_setRow _ _ _) (fun k hk e => hnd (e ▸ hk)), hgD, hm.trans (mod_setRow _ _ _) (fun k hk e => by have : k = q := e; omega)⟩
theorem ownA_base {w : World} {b n : Nat} {v : Value} {l : List Att} {D : Nat → Prop} (h : OwnA w b v l) (hD : ∀ k, D k → k < b) (hw : ∀ k, D k → k < w.heap.size) (hn : n ≤ b) (hn2 : n ≤ w.heap.size) : ∃ b1, OwnA w b1 v l ∧ (∀ k, D k → k < b1) ∧ n ≤ b1 ∧ b1 ≤ w.heap.size := by
  obtain ⟨vs, hv, hrow, hvals⟩ := h
  rcases hrow.2 with ⟨rfl, h0⟩ | ⟨g, c, cur, rfl, hb, hh, _⟩
  · obtain rfl := List.eq_nil_of_length_eq_zero h0
    exact ⟨w.heap.size, OwnA.nil _ _, hw, hn2, Nat.le_refl _⟩
  · exact ⟨b, ⟨vs, hv, hrow, hvals⟩, hD, hn, Nat.le_of_lt (Nat.lt_of_le_of_lt hb (lt_of_obj hh))⟩
theorem own_low {w : World} {b b1 e : Nat} {k : IntKind} {v : Value} {l : List Int} (h : Own w b1 e k v l) (hb : b ≤ b1) : Own w b e k v l := by
  refine ⟨h.1, ?_⟩
  rcases h.2 with h0 | ⟨g, c, cur, e, h1, h2⟩
  · exact .inl h0
  · exact .inr ⟨g, c, cur, e, Nat.le_trans hb h1, h2⟩
theorem seekI_le {l : List Att} {nm : ByteArray} {i : Nat} {is : Bool} (h : seekI l nm = (i, is)) : i ≤ l.length := by
  have := (bsGo_le l nm l.length 0 l.length (Nat.zero_le _)).2
  unfold seekI at h
  cases h
  exact this
theorem ownA_lt {w : World} {b : Nat} {v : Value} {l : List Att} (h : OwnA w b v l) (g : Nat) (hg : v.ownBlock = some g) : g < w.heap.size := by
  obtain ⟨vs, hv, hrow, _⟩ := h
  exact own_lt hrow g hg
theorem ownA_ge {w : World} {b : Nat} {v : Value} {l : List Att} (h : OwnA w b v l) (g : Nat) (hg : v.ownBlock = some g) : b ≤ g := by
  obtain ⟨vs, hv, hrow, _⟩ := h
  exact Go.Proofs.YtkmhilhfmfmckaaGreatDoor.Hand.own_base hrow g hg
theorem xpackI_code {l : List Att} {a b : Int} (h : (xpackI l a).2 = 0) : (xpackI l b).2 = 0 := by
  unfold xpackI at h ⊢
  split at h
  · split at h
    · cases h
    · rename_i h1 h2
      rw [if_pos h1, if_neg h2]
  · cases h
theorem xlistI_in {now : List (List Int)} {r : Ino} {n : Nat} {l : List Att} (h : xlistI now r n = (l, 0)) (hx : r.xattr ≠ 0) : 0 ≤ r.xattr ∧ r.xattr ≤ 65535 ∧ r.xattr.toNat < now.length := by
  unfold xlistI at h
  by_cases h1 : inoI r n ≠ 0
  · rw [if_pos h1] at h; cases h
  · rw [if_neg h1, if_neg hx] at h
    have h1' : inoI r n = 0 := by simpa using h1
    have hz := inoI_zero h1'
    refine ⟨hz.1, hz.2.1, ?_⟩
    by_cases hlt : r.xattr.toNat < now.length
    · exact hlt
    · exfalso
      have hd : now.getD r.xattr.toNat [] = [] := by rw [List.getD_eq_getElem?_getD, List.getElem?_eq_none (by omega)]; rfl
      have hu : xunpI [] r.xattr = ([], 117) := by unfold xunpI; rw [if_pos (by simp)]
      rw [hd, hu, if_pos (.inr rfl)] at h
      cases h
theorem inoI_blocks {r : Ino} {n : Nat} (h : inoI r n = 0) : 0 ≤ r.blocks ∧ r.blocks ≤ 4096 := by
  unfold inoI at h
  split at h
  · rename_i hh
    have h7 := List.all_eq_true.1 hh.1 7 (by simp)
    have e1 : (mostL r.kind).getD 7 0 = 4096 := rfl
    have e2 : r.nums.getD 7 0 = r.blocks := rfl
    unfold numOk at h7
    rw [e1, e2] at h7
    simp at h7
    exact h7
  · cases h
theorem xlistI_ino {now : List (List Int)} {r : Ino} {n : Nat} {l : List Att} (h : xlistI now r n = (l, 0)) : inoI r n = 0 := by
  unfold xlistI at h
  by_cases h1 : inoI r n ≠ 0
  · rw [if_pos h1] at h; cases h
  · simpa using h1
theorem Ino_one (r : Ino) (A : Option Addr) (n c : Nat) : ∀ v ∈ r.cells (.slice A n c), v.oneCell' = true := by
  intro v hv
  simp only [Ino.cells, List.mem_cons, List.not_mem_nil, or_false] at hv
  rcases hv with rfl | rfl | rfl | rfl | rfl | rfl | rfl | rfl | rfl | rfl | rfl | rfl | rfl | rfl | rfl <;> rfl
set_option maxHeartbeats 1000000 in
set_option maxRecDepth 100000 in
theorem clonenil_calls (w : World) : Calls Tryz.prog 42 #[.slice none 0 0] w fun e w' => e = .returned (.slice none 0 0) ∧ w = w' := by
  have hnil := nil_eql
  go_enter Tryz.func42, Tryz.ntmps42
  go_wp2
  go_ret
  exact ⟨rfl, rfl⟩
theorem cloneany_calls {w : World} {Av : Option Addr} {cv : Nat} {val : List Int} (hv : Kd.C (Kd.int .u8) w Av val.length val) (hvn : Av = none → cv = 0) (hm : val.length ≤ 140737488351232) :
    Calls Tryz.prog 42 #[.slice Av val.length cv] w fun e w' => ∃ v, e = .returned v ∧ Own w' w.heap.size 5 .u8 v val ∧ Below w.heap.size w w' := by
  cases Av with
  | some ad => exact clone_calls ad cv val w hv hm
  | none =>
    have hy : val = [] := by
      by_cases hz : 0 < val.length
      · obtain ⟨ad, e, _⟩ := C_int_at hv 0 hz
        cases e
      · exact List.eq_nil_of_length_eq_zero (by omega)
    subst hy
    rw [hvn rfl]
    refine (clonenil_calls w).mono ?_
    rintro e w1 ⟨rfl, rfl⟩
    exact ⟨_, rfl, own_of_nil _ _ _ _, Below.refl _ _⟩
def resC (r : Ino) (rv : Value) (c : Int) : List Value := if c = 0 then r.cells rv else inoZ
def xdropR (s : St) (r : Ino) (n : Nat) : St × Ino × Int :=
  if (xlistI s.now r n).2 ≠ 0 then (s, r, (xlistI s.now r n).2) else
  if r.xattr = 0 then (s, r, 0) else
  if (freeI s r.xattr 1).2 ≠ 0 then ((freeI s r.xattr 1).1, r, (freeI s r.xattr 1).2) else
  ((freeI s r.xattr 1).1, { r with xattr := 0, blocks := r.blocks - 1 }, 0)
set_option maxHeartbeats 8000000 in
set_option maxRecDepth 100000 in
theorem xdrop_calls {D : Nat → Prop} {s0 : Nat} {s : St} (r : Ino) (A : Option Addr) (n c : Nat) (w : World) (h : StIs w D s0 s) (hh : s.hist.length ≤ 900000) :
    Calls Tryz.prog 28 #[.pointer (some ⟨s0, 0, none⟩), .agg (r.cells (.slice A n c)).toArray] w (InoPost D s0 (xdropR s r n).1 (resC (xdropR s r n).2.1 (.slice A n c) (xdropR s r n).2.2) (xdropR s r n).2.2 w) := by
  have HLIST := Aside0.mk (fun (W : World) (hW : Below w.heap.size w W) => xlist_calls r A n c W (h.below hW))
  obtain ⟨res, hres⟩ : ∃ res, xdropR s r n = res := ⟨_, rfl⟩
  have HRES := Aside0.mk hres
  obtain ⟨cs, hcs⟩ : ∃ cs, r.cells (.slice A n c) = cs := ⟨_, rfl⟩
  have hcl : cs.length = 15 := by rw [← hcs]; rfl
  have hinf := infIno hcl
  obtain ⟨L, hL⟩ : ∃ L, xlistI s.now r n = L := ⟨_, rfl⟩
  rw [hL] at HLIST
  rw [hcs] at HLIST ⊢
  rw [hres]
  have HCS := Aside0.mk (And.intro hcs (And.intro hcl hL))
  have HH := Aside0.mk h
  clear hres hcs h hL
  obtain ⟨l, e0⟩ := L
  try dsimp only at HLIST
  obtain ⟨rs, rr, re⟩ := res
  dsimp only
  obtain ⟨rc, hrc⟩ : ∃ rc, resC rr (.slice A n c) re = rc := ⟨_, rfl⟩
  rw [hrc]
  have HRC := Aside0.mk hrc
  clear hrc
  go_enter Tryz.func28, Tryz.ntmps28
  go_upto_region 1 with fail
  have hb0 := below_alloc (below_alloc (Below.refl w.heap.size w) (.cells cs.toArray 47)) (.cells inoZ.toArray 47)
  have hs1 : Strc ((w.alloc (.cells cs.toArray 47)).alloc (.cells inoZ.toArray 47)) w.heap.size 47 cs := by
    have := alloc_last w (.cells cs.toArray 47)
    unfold Strc
    rw [alloc_old _ _ _ (lt_of_obj this)]
    exact this
  have hs2 : Strc ((w.alloc (.cells cs.toArray 47)).alloc (.cells inoZ.toArray 47)) (w.heap.size + 1) 47 inoZ := by
    have := alloc_last (w.alloc (.cells cs.toArray 47)) (.cells inoZ.toArray 47)
    rw [show ∀ o, (w.alloc o).heap.size = w.heap.size + 1 from fun o => by simp] at this
    exact this
  change Code.wp _ _ _ _ ((w.alloc (.cells cs.toArray 47)).alloc (.cells inoZ.toArray 47))
  generalize (w.alloc (.cells cs.toArray 47)).alloc (.cells inoZ.toArray 47) = w1 at hb0 hs1 hs2 ⊢
  obtain ⟨q, hq⟩ : ∃ q, w.heap.size = q := ⟨_, rfl⟩
  have HB0 := Aside0.mk hb0
  rw [hq] at hs1 hs2 ⊢
  have HQ := Aside0.mk hq
  clear hq hb0
  have HQ1 := Aside0.mk hs2.lt
  have HS1 := Aside0.mk hs1
  have HS2 := Aside0.mk hs2
  clear hs1 hs2
  refine wp_region_lit ?_
  refine wpList_plain rfl fun K hK => ?_
  unfold Oper.wp execOp
  go_simp
  refine hK _ _ ?_
  clear hK K
  refine wpList_load_row rfl 47 _ rfl q rfl 47 cs.toArray (0, 0) _ HS1.out Tryz.underlying47 rfl hinf ?_
  go_wp2_with fail
  refine (HLIST.out w1 HB0.out).mono ?_
  rintro e w2 ⟨D2, v2, b2, rfl, _, _, _, hst2, hgD2, hm2⟩
  dsimp only
  have hs1 := HS1.out.mod hm2 (fun hd => by have := HH.out.sub _ hd; have := HQ.out; omega)
  have hs2 := HS2.out.mod hm2 (fun hd => by have := HH.out.sub _ hd; have := HQ.out; omega)
  have hst3 : StIs w2 D2 s0 s ∧ (∀ k, D2 k → D k ∨ w.heap.size ≤ k) ∧ ¬ D2 (q + 1) ∧ ¬ D2 q ∧ Mod w w2 D := by
    have hn : ∀ x, x < w1.heap.size → q ≤ x → ¬ D2 x := fun x hx hqx hd => by
      rcases hgD2 _ hd with h | h
      · have := HH.out.sub _ h
        have := HQ.out
        omega
      · omega
    exact ⟨hst2, fun k hk => (hgD2 k hk).imp id (fun h => Nat.le_trans HB0.out.size h), hn _ HQ1.out (by omega), hn _ (by have := HQ1.out; omega) (by omega), Mod.trans (Mod.of_below HB0.out D) hm2 (fun _ _ h => h)⟩
  have HST := Aside0.mk hst3
  have c12 := hs1.cell 12 (.int .i64 r.xattr) (by rw [← HCS.out.1]; rfl)
  have HS1 := Aside0.mk hs1
  have HS2 := Aside0.mk hs2
  clear hs1 hs2 hst3 hst2 hgD2 hm2
  by_cases he0 : e0 = 0
  · subst he0
    go_upto_region 4 with fail
    by_cases hx0 : r.xattr = 0
    · have HX0 := Aside0.mk hx0
      rw [hx0] at c12
      clear hx0
      go_upto_region 5 with fail
      refine wp_region_lit ?_
      refine wpList_load_row rfl 47 _ rfl q rfl 47 cs.toArray (0, 0) _ HS1.out Tryz.underlying47 rfl hinf ?_
      refine wpList_store_row rfl 47 _ _ rfl (q + 1) cs.toArray rfl rfl 47 _ HS2.out hinf (by rw [List.size_toArray, List.size_toArray, HCS.out.2.1]; rfl) (by have := Ino_one r A n c; rw [HCS.out.1] at this; simpa using this) ?_
      have hfin := ino_fin cs 0 (q := q + 1) (by have := HQ.out; omega) HST.out.1 HST.out.2.1 HST.out.2.2.1 HST.out.2.2.2.2
      have hres := setRow_heap w2 (q + 1) _ cs.toArray 47 (0, 0) HS2.out
      generalize World.setRow w2 (q + 1) cs.toArray = w9 at hfin hres ⊢
      have HFIN := Aside0.mk hfin
      have HRS := Aside0.mk hres
      clear hfin hres
      go_wp2
      refine bodyPost_ret (results_ino rfl _ _ (q + 1) cs.toArray 0 rfl rfl HRS.out hinf) rfl ?_
      have hr : (rs, rr, re) = (s, r, 0) := by
        rw [← HRES.out]
        unfold xdropR
        rw [HCS.out.2.2]
        rw [if_neg (by simp), if_pos HX0.out]
      cases hr
      have hc := HRC.out
      unfold resC at hc
      rw [if_pos rfl, HCS.out.1] at hc
      rw [← hc]
      exact HFIN.out
    · have HX := Aside0.mk (And.intro hx0 (xlistI_in HCS.out.2.2 hx0))
      have hfr := free_calls r.xattr 1 w2 HST.out.1 hh (by have := HX.out; omega) (by have := HX.out; omega) (by omega) (by omega)
      obtain ⟨fi, hfi⟩ : ∃ fi, freeI s r.xattr 1 = fi := ⟨_, rfl⟩
      rw [hfi] at hfr
      have HFI := Aside0.mk hfi
      have HFR := Aside0.mk hfr
      obtain ⟨fs, fe⟩ := fi
      clear hfr hfi
      go_upto_region 6 with fail
      go_wp2_with fail
      refine HFR.out.mono ?_
      rintro e w3 ⟨D3, rfl, h3, hD3, hm3⟩
      dsimp only
      have hn1 : ¬ D3 q := fun hd => (hD3 _ hd).elim HST.out.2.2.2.1 (fun h => by have := HS1.out.lt; omega)
      have hn2 : ¬ D3 (q + 1) := fun hd => (hD3 _ hd).elim HST.out.2.2.1 (fun h => by have := HS2.out.lt; omega)
      have hs1 := HS1.out.mod hm3 HST.out.2.2.2.1
      have hs2 := HS2.out.mod hm3 HST.out.2.2.1
      have hst3 : StIs w3 D3 s0 fs ∧ (∀ k, D3 k → D k ∨ w.heap.size ≤ k) ∧ ¬ D3 (q + 1) ∧ ¬ D3 q ∧ Mod w w3 D := ⟨h3, fun k hk => (hD3 k hk).elim (HST.out.2.1 k) (fun h => .inr (by have := HST.out.2.2.2.2.size; omega)), hn2, hn1, Mod.trans HST.out.2.2.2.2 hm3 (fun k hk hd => (HST.out.2.1 k hd).elim id (fun h => by omega))⟩
      have HST := Aside0.mk hst3
      have HS1 := Aside0.mk hs1
      have HS2 := Aside0.mk hs2
      clear hs1 hs2 hst3 h3 hD3 hm3 hn1 hn2 c12
      by_cases hfe : fe ≠ 0
      · go_upto_region 8 with fail
        refine wp_region_lit ?_
        refine wpList_buildZ rfl rfl ?_
        refine wpList_plain rfl fun K hK => ?_
        unfold Oper.wp execOp
        go_simp
        refine hK _ _ ?_
        clear hK K
        refine wpList_store_row rfl 47 _ _ rfl (q + 1) inoZ.toArray rfl rfl 47 _ HS2.out infZ rfl inoZ_one ?_
        have hfin := ino_fin inoZ fe (q := q + 1) (by have := HQ.out; omega) HST.out.1 HST.out.2.1 HST.out.2.2.1 HST.out.2.2.2.2
        have hres := setRow_heap w3 (q + 1) _ inoZ.toArray 47 (0, 0) HS2.out
        generalize World.setRow w3 (q + 1) inoZ.toArray = w9 at hfin hres ⊢
        have HFIN := Aside0.mk hfin
        have HRS := Aside0.mk hres
        clear hfin hres
        go_wp2
        refine bodyPost_ret (results_ino rfl _ _ (q + 1) inoZ.toArray fe rfl rfl HRS.out infZ) rfl ?_
        have hr : (rs, rr, re) = (fs, r, fe) := by
          rw [← HRES.out]
          unfold xdropR
          rw [HCS.out.2.2, HFI.out]
          rw [if_neg (by simp), if_neg HX.out.1, if_pos hfe]
        cases hr
        have hc := HRC.out
        unfold resC at hc
        rw [if_neg hfe] at hc
        rw [← hc]
        exact HFIN.out
      · obtain rfl : fe = 0 := by simpa using hfe
        clear hfe
        have c12 := HS1.out.cell 12 (.int .i64 r.xattr) (by rw [← HCS.out.1]; rfl)
        have f12 := HS1.out.free 12
        go_upto_region 10 with fail
        have hs10 := HS1.out.set 12 (.int .i64 0)
        have hm10 : Mod w3 (w3.setCell ⟨q, 12, none⟩ (.int .i64 0)) (· = q) := (Mod.refl w3 _).set_own 12 _
        generalize w3.setCell ⟨q, 12, none⟩ (.int .i64 0) = w10 at hs10 hm10 ⊢
        obtain ⟨hbl0, hbl1⟩ := inoI_blocks (xlistI_ino HCS.out.2.2)
        have c6' := hs10.cell 6 (.int .i64 r.blocks) (by rw [← HCS.out.1]; rfl)
        have f6' := hs10.free 6
        have HS10 := Aside0.mk (And.intro hs10 hm10)
        clear c12 f12 hs10 hm10
        go_upto_region 11 with fail
        have hs11 := HS10.out.1.set 6 (.int .i64 (r.blocks - 1))
        have hm11 : Mod w3 (w10.setCell ⟨q, 6, none⟩ (.int .i64 (r.blocks - 1))) (· = q) := HS10.out.2.set_own 6 _
        generalize w10.setCell ⟨q, 6, none⟩ (.int .i64 (r.blocks - 1)) = w11 at hs11 hm11 ⊢
        obtain ⟨cs2, hcs2⟩ : ∃ cs2, ({ r with xattr := 0, blocks := r.blocks - 1 } : Ino).cells (.slice A n c) = cs2 := ⟨_, rfl⟩
        have hcs3 : (cs.set 12 (.int .i64 0)).set 6 (.int .i64 (r.blocks - 1)) = cs2 := by rw [← hcs2, ← HCS.out.1]; rfl
        rw [hcs3] at hs11
        have hcl2 : cs2.length = 15 := by rw [← hcs2]; rfl
        have hinf2 := infIno hcl2
        have hone2 : cs2.toArray.all (·.oneCell') = true := by have := Ino_one { r with xattr := 0, blocks := r.blocks - 1 } A n c; rw [hcs2] at this; simpa using this
        have hz2 := HS2.out.mod hm11 (by omega)
        have h11 : StIs w11 D3 s0 fs := HST.out.1.mod hm11 (fun k hk e => HST.out.2.2.2.1 (by have : k = q := e; rw [← this]; exact hk))
        have hm111 : Mod w w11 D := HST.out.2.2.2.2.trans hm11 (fun k hk e => by have : k = q := e; have := HQ.out; omega)
        refine wp_region_lit ?_
        refine wpList_load_row rfl 47 _ rfl q rfl 47 cs2.toArray (0, 0) _ hs11 Tryz.underlying47 rfl hinf2 ?_
        refine wpList_store_row rfl 47 _ _ rfl (q + 1) cs2.toArray rfl rfl 47 _ hz2 hinf2 (by rw [List.size_toArray, List.size_toArray, hcl2]; rfl) hone2 ?_
        have hfin := ino_fin cs2 0 (q := q + 1) (by have := HQ.out; omega) h11 HST.out.2.1 HST.out.2.2.1 hm111
        have hres := setRow_heap w11 (q + 1) _ cs2.toArray 47 (0, 0) hz2
        generalize World.setRow w11 (q + 1) cs2.toArray = w13 at hfin hres ⊢
        have HFIN := Aside0.mk hfin
        have HRS := Aside0.mk hres
        have HC2 := Aside0.mk hcs2
        clear hfin hres hs11 hz2 h11 hm111 hcs2 hcs3 hm11 hone2 hcl2
        go_wp2
        refine bodyPost_ret (results_ino rfl _ _ (q + 1) cs2.toArray 0 rfl rfl HRS.out hinf2) rfl ?_
        have hr : (rs, rr, re) = (fs, { r with xattr := 0, blocks := r.blocks - 1 }, 0) := by
          rw [← HRES.out]
          unfold xdropR
          rw [HCS.out.2.2, HFI.out]
          rw [if_neg (by simp), if_neg HX.out.1, if_neg (by simp)]
        cases hr
        have hc := HRC.out
        unfold resC at hc
        rw [if_pos rfl, HC2.out] at hc
        rw [← hc]
        exact HFIN.out
  · have hne0 : ¬ (e0 = 0) := he0
    go_upto_region 3 with fail
    refine wp_region_lit ?_
    refine wpList_buildZ rfl rfl ?_
    refine wpList_plain rfl fun K hK => ?_
    unfold Oper.wp execOp
    go_simp
    refine hK _ _ ?_
    clear hK K
    refine wpList_store_row rfl 47 _ _ rfl (q + 1) inoZ.toArray rfl rfl 47 _ HS2.out infZ rfl inoZ_one ?_
    have hfin := ino_fin inoZ e0 (q := q + 1) (by have := HQ.out; omega) HST.out.1 HST.out.2.1 HST.out.2.2.1 HST.out.2.2.2.2
    have hres := setRow_heap w2 (q + 1) _ inoZ.toArray 47 (0, 0) HS2.out
    generalize World.setRow w2 (q + 1) inoZ.toArray = w9 at hfin hres ⊢
    have HFIN := Aside0.mk hfin
    have HRS := Aside0.mk hres
    clear hfin hres
    go_wp2
    refine bodyPost_ret (results_ino rfl _ _ (q + 1) inoZ.toArray e0 rfl rfl HRS.out infZ) rfl ?_
    have hr : (rs, rr, re) = (s, r, e0) := by
      rw [← HRES.out]
      unfold xdropR
      rw [HCS.out.2.2]
      exact if_pos he0
    cases hr
    have hc := HRC.out
    unfold resC at hc
    rw [if_neg he0] at hc
    rw [← hc]
    exact HFIN.out
end Go.Proofs.YtkmhilhfmfmckaaGreatDoor.Hand
namespace Go.Proofs.YtkmhilhfmfmckaaGreatDoor.Hand
set_option linter.unusedSimpArgs false
set_option linter.unusedVariables false
open Go.RowKit Go.Proofs.YtkmhilhfmfmckaaGreatDoorW.PrintWords Go.Proofs.YtkmhilhfmfmckaaGreatDoorW.PrintLast Go.Proofs.YtkmhilhfmfmckaaGreatDoorW.PrintMore
theorem sealL_eq {L : List Int} (h : L.length = 256) (s : Int) : sealL L s = L.take 252 ++ [leB (crcI s (L.take 252)) 0, leB (crcI s (L.take 252)) 1, leB (crcI s (L.take 252)) 2, leB (crcI s (L.take 252)) 3] := by
  unfold sealL
  rw [h]
  generalize crcI s (L.take (256 - 4)) = c
  obtain ⟨a, b, d, e, h4⟩ := list4 (L := L.drop 252) (by rw [List.length_drop, h])
  have hL : L = L.take 252 ++ [a, b, d, e] := by rw [← h4, List.take_append_drop]
  have hl : (L.take 252).length = 252 := by rw [List.length_take, h]; rfl
  generalize L.take 252 = M at hL hl
  subst hL
  have e0 : ∀ (N : List Int) (i : Nat) (x : Int), (M ++ N).set (256 - 4 + i) x = M ++ N.set i x := fun N i x => by
    rw [List.set_append_right _ _ (by omega), show 256 - 4 + i - M.length = i by omega]
  show ((((M ++ [a, b, d, e]).set (256 - 4 + 0) (leB c 0)).set (256 - 4 + 1) (leB c 1)).set (256 - 4 + 2) (leB c 2)).set (256 - 4 + 3) (leB c 3) = _
  rw [e0, e0, e0, e0]
  rfl
theorem strOf_bytesOf (s : ByteArray) : strOfNums (bytesOf s) = s := by
  have h : (strOfNums (bytesOf s)).data.toList = s.data.toList := by
    rw [strOfNums_data]
    unfold Go.Proofs.YtkmhilhfmfmckaaGreatDoorW.PrintWords.bytesOf
    rw [List.map_map]
    conv => rhs; rw [← List.map_id s.data.toList]
    refine List.map_congr_left fun x _ => ?_
    simp
  have h2 : (strOfNums (bytesOf s)).data = s.data := by rw [← Array.toList_inj]; exact h
  cases hs : strOfNums (bytesOf s)
  cases s
  rw [hs] at h2
  simp only at h2
  rw [h2]
theorem take_seal {L : List Int} (h : L.length = 256) (s : Int) : (sealL L s).take 252 = L.take 252 := by
  rw [sealL_eq h, List.take_append_of_le_length (by rw [List.length_take, h]; exact Nat.le_refl _), List.take_take, Nat.min_self]
theorem getD_take {l : List Int} {k j : Nat} (h : j < k) : (l.take k).getD j 0 = l.getD j 0 := by
  simp [List.getD_eq_getElem?_getD, List.getElem?_take, h]
theorem xpackI_good {l : List Att} {s : Int} (h : (xpackI l s).2 = 0) : attsOk l ∧ attN l ≤ 250 ∧ (xpackI l s).1 = sealL (pad (attsB l)) s := by
  unfold xpackI at h ⊢
  by_cases h1 : attsOk l
  · rw [if_pos h1] at h ⊢
    by_cases h2 : 250 < attN l
    · rw [if_pos h2] at h; cases h
    · rw [if_neg h2]
      exact ⟨h1, by omega, rfl⟩
  · rw [if_neg h1] at h; cases h
theorem attB_three (x : Att) (h : namedB x.name = true) : 3 ≤ (attB x).length := by
  have := named_size h
  rw [attB_length]
  omega
theorem attN_len (l : List Att) (h : ∀ x ∈ l, namedB x.name = true) : 3 * l.length ≤ attN l := by
  induction l with
  | nil => simp [attN]
  | cons x l ih =>
    have := ih (fun y hy => h y (by simp [hy]))
    have hx := attB_three x (h x (by simp))
    unfold attN at this ⊢
    rw [List.flatMap_cons, List.length_append, List.length_cons]
    omega
theorem attsOk_mem {l : List Att} (h : attsOk l) {x : Att} (hx : x ∈ l) : namedB x.name = true ∧ ¬ 64 < x.val.length := by
  obtain ⟨j, hj, e⟩ := List.getElem_of_mem hx
  have := h j hj
  unfold attOk attAt at this
  rw [List.getD_eq_getElem?_getD, List.getElem?_eq_getElem hj, Option.getD_some, e] at this
  exact ⟨this.1, this.2.1⟩
theorem xpack_small {l : List Att} {s : Int} (h : (xpackI l s).2 = 0) : l.length ≤ 83 := by
  obtain ⟨h1, h2, _⟩ := xpackI_good h
  have := attN_len l (fun x hx => (attsOk_mem h1 hx).1)
  omega
theorem xread_back (l : List Att) (hok : ∀ x ∈ l, x.name.size ≤ 32 ∧ x.val.length ≤ 64) (z : List Int) (out : List Att) : xreadI l.length (l.flatMap attB ++ z) out = some (out ++ l) := by
  induction l generalizing out with
  | nil => simp [xreadI]
  | cons x l ih =>
    obtain ⟨h1, h2⟩ := hok x (by simp)
    have hb : attB x = [(x.name.size : Int) % 256, (x.val.length : Int) % 256] ++ bytesOf x.name ++ x.val := rfl
    rw [List.flatMap_cons, List.append_assoc, List.length_cons]
    generalize hr : l.flatMap attB ++ z = rest
    have e0 : (attB x ++ rest).getD 0 0 = x.name.size := by rw [hb, show (x.name.size : Int) % 256 = x.name.size by omega]; rfl
    have e1 : (attB x ++ rest).getD 1 0 = x.val.length := by rw [hb, show (x.val.length : Int) % 256 = x.val.length by omega]; rfl
    have hlen : (attB x ++ rest).length = 2 + x.name.size + x.val.length + rest.length := by rw [List.length_append, attB_length]
    rw [xreadI, if_neg (by rw [e0, e1, hlen]; omega), e0, e1, Int.toNat_natCast, Int.toNat_natCast]
    have hd : (attB x ++ rest).drop (2 + x.name.size + x.val.length) = rest := by
      rw [List.drop_append_of_le_length (by rw [attB_length]; omega), List.drop_of_length_le (by rw [attB_length]; omega), List.nil_append]
    have he : xattI (attB x ++ rest) = x := by
      unfold xattI
      rw [e0, e1, Int.toNat_natCast, Int.toNat_natCast]
      have ht : ((attB x ++ rest).drop 2).take x.name.size = bytesOf x.name := by
        rw [hb]
        show ((bytesOf x.name ++ x.val) ++ rest).take x.name.size = _
        rw [List.append_assoc, List.take_append_of_le_length (by rw [bytesOf_length]; exact Nat.le_refl _), List.take_of_length_le (by rw [bytesOf_length]; exact Nat.le_refl _)]
      have hv : ((attB x ++ rest).drop (2 + x.name.size)).take x.val.length = x.val := by
        rw [hb, ← List.drop_drop]
        show (((bytesOf x.name ++ x.val) ++ rest).drop x.name.size).take x.val.length = _
        rw [List.append_assoc, List.drop_append_of_le_length (by rw [bytesOf_length]; exact Nat.le_refl _), List.drop_of_length_le (by rw [bytesOf_length]; exact Nat.le_refl _), List.nil_append, List.take_append_of_le_length (Nat.le_refl _), List.take_of_length_le (Nat.le_refl _)]
      rw [ht, hv, strOf_bytesOf]
    rw [hd, he, ← hr, ih (fun y hy => hok y (by simp [hy])), List.append_assoc]
    rfl
theorem attsB_len {l : List Att} (h : attN l ≤ 250) : (attsB l).length ≤ 252 := by
  unfold attN at h
  unfold attsB
  simp only [List.length_append, List.length_cons, List.length_nil]
  omega
theorem xback {l : List Att} {s : Int} (h : (xpackI l s).2 = 0) : xunpI (xpackI l s).1 s = (l, 0) := by
  obtain ⟨hok, hsz, hp⟩ := xpackI_good h
  have h62 := xpack_small h
  have hal := attsB_len hsz
  have hpl : (pad (attsB l)).length = 256 := pad_length _ (by omega)
  rw [hp]
  have hlen : (sealL (pad (attsB l)) s).length = 256 := by unfold sealL; rw [layL_length]; exact hpl
  have htk := take_seal hpl s
  have hcut : ((sealL (pad (attsB l)) s).drop 2).take 250 = l.flatMap attB ++ List.replicate (250 - (l.flatMap attB).length) 0 := by
    have e : ((sealL (pad (attsB l)) s).drop 2).take 250 = ((sealL (pad (attsB l)) s).take 252).drop 2 := by rw [List.drop_take]
    rw [e, htk]
    unfold pad
    rw [List.take_append, List.take_of_length_le hal, List.take_replicate]
    have e2 : min (252 - (attsB l).length) (256 - (attsB l).length) = 252 - (attsB l).length := by omega
    rw [e2]
    have e3 : (attsB l).length = 2 + (l.flatMap attB).length := by unfold attsB; simp only [List.length_append, List.length_cons, List.length_nil]
    rw [e3, show 252 - (2 + (l.flatMap attB).length) = 250 - (l.flatMap attB).length by omega]
    rfl
  have h1 : (sealL (pad (attsB l)) s).getD 1 0 = l.length := by
    rw [← getD_take (k := 252) (by omega), htk, getD_take (by omega)]
    show (l.length : Int) % 256 = _
    omega
  have hrd : xreadI l.length (((sealL (pad (attsB l)) s).drop 2).take 250) [] = some l := by
    rw [hcut]
    refine xread_back l (fun x hx => ?_) _ []
    have := attsOk_mem hok hx
    have := named_size this.1
    omega
  unfold xunpI
  rw [if_neg (fun h => h hlen), h1, Int.toNat_natCast, hrd]
  show (if _ then _ else _) = _
  rw [if_pos ⟨h, hp⟩]
theorem xunpI_pack {b : List Int} {s : Int} (h : (xunpI b s).2 = 0) : xpackI (xunpI b s).1 s = (b, 0) := by
  unfold xunpI at h ⊢
  split at h
  · cases h
  · rename_i h0
    rw [if_neg h0]
    split at h
    · cases h
    · rename_i out hr
      split at h
      · rename_i h1
        rw [if_pos h1]
        exact Prod.ext h1.2 h1.1
      · cases h
theorem leS_false {a b : ByteArray} : leS a b = false ↔ b.toList < a.toList := by
  unfold leS
  rw [Go.Proofs.bytesLess_eq, Bool.or_eq_false_iff]
  constructor
  · rintro ⟨h1, h2⟩
    have h1 : ¬ a.toList < b.toList := by simpa using h1
    have h2 : ¬ a.toList = b.toList := by simpa using h2
    exact Classical.byContradiction fun h => h2 (List.le_antisymm (List.not_lt.1 h) (List.not_lt.1 h1))
  · intro h
    refine ⟨by simpa using List.lt_asymm h, ?_⟩
    cases hq : (a.toList == b.toList) with
    | false => rfl
    | true =>
      have : a.toList = b.toList := by simpa using hq
      rw [this] at h
      exact absurd h (List.lt_irrefl _)
theorem attsOk_lt {l : List Att} (h : attsOk l) : ∀ {i j : Nat}, i < j → j < l.length → (attAt l i).name.toList < (attAt l j).name.toList := by
  intro i j hij hj
  induction j with
  | zero => omega
  | succ j ih =>
    have h1 := leS_false.1 ((h (j + 1) hj).2.2 (by omega))
    rw [show j + 1 - 1 = j by omega] at h1
    by_cases e : i = j
    · rw [e]; exact h1
    · exact List.lt_trans (ih (by omega) (by omega)) h1
theorem attsOk_of {l : List Att} (h1 : ∀ k, k < l.length → namedB (attAt l k).name = true ∧ ¬ 64 < (attAt l k).val.length) (h2 : ∀ k, k + 1 < l.length → (attAt l k).name.toList < (attAt l (k + 1)).name.toList) : attsOk l := fun k hk =>
  ⟨(h1 k hk).1, (h1 k hk).2, fun h0 => leS_false.2 (by have := h2 (k - 1) (by omega); rw [show k - 1 + 1 = k by omega] at this; exact this)⟩
theorem attAt_del (l : List Att) (i j : Nat) (hi : i < l.length) : attAt (delL l i) j = if j < i then attAt l j else attAt l (j + 1) := delL_get l i _ j hi
theorem attsOk_del {l : List Att} (h : attsOk l) {i : Nat} (hi : i < l.length) : attsOk (delL l i) := by
  refine attsOk_of (fun k hk => ?_) (fun k hk => ?_)
  · rw [delL_length _ _ hi] at hk
    rw [attAt_del l i k hi]
    split
    · exact ⟨(h k (by omega)).1, (h k (by omega)).2.1⟩
    · exact ⟨(h (k + 1) (by omega)).1, (h (k + 1) (by omega)).2.1⟩
  · rw [delL_length _ _ hi] at hk
    rw [attAt_del l i k hi, attAt_del l i (k + 1) hi]
    split
    · split
      · exact attsOk_lt h (by omega) (by omega)
      · exact attsOk_lt h (by omega) (by omega)
    · rw [if_neg (by omega)]
      exact attsOk_lt h (by omega) (by omega)
theorem attN_split (l : List Att) (i : Nat) : attN l = attN (l.take i) + attN (l.drop i) := by
  unfold attN
  rw [← List.length_append, ← List.flatMap_append, List.take_append_drop]
theorem attN_del (l : List Att) (i : Nat) : attN (delL l i) ≤ attN l := by
  have h1 := attN_split l i
  have h2 := attN_split (l.drop i) 1
  rw [List.drop_drop] at h2
  have h3 : attN (delL l i) = attN (l.take i) + attN (l.drop (i + 1)) := by
    unfold attN delL
    rw [List.flatMap_append, List.length_append]
  omega
theorem xpack_del {l : List Att} {s t : Int} (h : (xpackI l s).2 = 0) {i : Nat} (hi : i < l.length) : (xpackI (delL l i) t).2 = 0 := by
  obtain ⟨h1, h2, _⟩ := xpackI_good h
  unfold xpackI
  rw [if_pos (attsOk_del h1 hi), if_neg (by have := attN_del l i; omega)]
end Go.Proofs.YtkmhilhfmfmckaaGreatDoor.Hand
namespace Go.Proofs.YtkmhilhfmfmckaaGreatDoor.Hand
set_option linter.unusedSimpArgs false
set_option linter.unusedVariables false
open Go.Shelf Go.RowKit Go.Proofs.YtkmhilhfmfmckaaGreatDoorW.PrintWords Go.Proofs.YtkmhilhfmfmckaaGreatDoorW.PrintLast Go.Proofs.YtkmhilhfmfmckaaGreatDoorW.PrintMore
theorem xlistI_pack {now : List (List Int)} {r : Ino} {n : Nat} {l : List Att} (h : xlistI now r n = (l, 0)) (hl : l ≠ []) : (xpackI l r.xattr).2 = 0 ∧ r.xattr ≠ 0 := by
  unfold xlistI at h
  by_cases h1 : inoI r n ≠ 0
  · rw [if_pos h1] at h; cases h
  · rw [if_neg h1] at h
    by_cases h2 : r.xattr = 0
    · rw [if_pos h2] at h
      cases h
      exact absurd rfl hl
    · rw [if_neg h2] at h
      split at h
      · cases h
      · rename_i h3
        simp only [Prod.mk.injEq, and_true] at h
        have h4 : (xunpI (now.getD r.xattr.toNat []) r.xattr).2 = 0 := Classical.byContradiction fun e => h3 (.inl e)
        have := xunpI_pack h4
        rw [h] at this
        rw [this]
        exact ⟨rfl, h2⟩
def xremR (s : St) (r : Ino) (n : Nat) (nm : ByteArray) : St × Ino × Int :=
  if (xlistI s.now r n).2 ≠ 0 then (s, r, (xlistI s.now r n).2) else
  if (seekI (xlistI s.now r n).1 nm).2 = false then (s, r, 61) else
  if (xlistI s.now r n).1.length = 1 then xdropR s r n else
  (s.write r.xattr.toNat (xpackI (delL (xlistI s.now r n).1 (seekI (xlistI s.now r n).1 nm).1) r.xattr).1, r, 0)
theorem run_load_row {P : Program} {o : Oper} {a : Act} {w : World} (ty : TypeId) (x : Operand) (ho : o.op = .load ty x)
    (g : Nat) (hx : a.eval x = .pointer (some ⟨g, 0, none⟩)) (t : TypeId) (cs : Array Value) (fr : Nat × Nat) (d : TypeDesc) (hg : w.heap[g]? = some (.cells cs t fr))
    (hu : P.underlying ty = some d) (hd : (match d with | .struct _ | .array _ _ => true | _ => false) = true) (hi : (P.info? ty).map (·.size) = some cs.size) : (execOp a.eval o).run P w = .ok (.value (.agg cs)) w := by
  unfold execOp
  simp only [ho, hx, Instr.loadAt, Instr.sureAddr, Sem.run_bind, Sem.run_pure, Result.andThen_ok, run_loadVar_row w g t ty cs fr d hg hu hd hi]
set_option maxHeartbeats 8000000 in
set_option maxRecDepth 100000 in
theorem xrem_calls {D : Nat → Prop} {s0 : Nat} {s : St} (r : Ino) (A : Option Addr) (n c : Nat) (nm : ByteArray) (w : World) (h : StIs w D s0 s) (hsb : ∀ b ∈ s.now, allB b) (hh : s.hist.length ≤ 900000) :
    Calls Tryz.prog 22 #[.pointer (some ⟨s0, 0, none⟩), .agg (r.cells (.slice A n c)).toArray, .string nm] w (InoPost D s0 (xremR s r n nm).1 (resC (xremR s r n nm).2.1 (.slice A n c) (xremR s r n nm).2.2) (xremR s r n nm).2.2 w) := by
  have HLIST := Aside0.mk (fun (W : World) (hW : Below w.heap.size w W) => xlist_calls r A n c W (h.below hW))
  obtain ⟨res, hres⟩ : ∃ res, xremR s r n nm = res := ⟨_, rfl⟩
  have HRES := Aside0.mk hres
  obtain ⟨cs, hcs⟩ : ∃ cs, r.cells (.slice A n c) = cs := ⟨_, rfl⟩
  have hcl : cs.length = 15 := by rw [← hcs]; rfl
  have hinf := infIno hcl
  have hll := xlistI_len (r := r) (rl := n) hsb
  have hlp := fun l h => xlistI_pack (now := s.now) (r := r) (n := n) (l := l) h
  obtain ⟨L, hL⟩ : ∃ L, xlistI s.now r n = L := ⟨_, rfl⟩
  rw [hL] at HLIST hll hlp
  have HLP := Aside0.mk hlp
  have HDRP := Aside0.mk (fun (D : Nat → Prop) (W : World) (hW : StIs W D s0 s) => xdrop_calls r A n c W hW hh)
  rw [hcs] at HLIST HDRP ⊢
  rw [hres]
  have HCS := Aside0.mk (And.intro hcs (And.intro hcl hL))
  have HH := Aside0.mk h
  clear hres hcs h hL hlp
  obtain ⟨l, e0⟩ := L
  try dsimp only at HLIST hll
  obtain ⟨rs, rr, re⟩ := res
  dsimp only
  obtain ⟨rc, hrc⟩ : ∃ rc, resC rr (.slice A n c) re = rc := ⟨_, rfl⟩
  rw [hrc]
  have HRC := Aside0.mk hrc
  clear hrc
  obtain ⟨dr, hdr⟩ : ∃ dr, xdropR s r n = dr := ⟨_, rfl⟩
  rw [hdr] at HDRP
  have HDR := Aside0.mk hdr
  obtain ⟨ds, drr, de⟩ := dr
  try dsimp only at HDRP
  obtain ⟨dc, hdc⟩ : ∃ dc, resC drr (.slice A n c) de = dc := ⟨_, rfl⟩
  rw [hdc] at HDRP
  have HDC := Aside0.mk (And.intro hdc (show dc.length = 15 ∧ dc.toArray.all (·.oneCell') = true by
    rw [← hdc]
    unfold resC
    split
    · exact ⟨rfl, by have := Ino_one drr A n c; simpa using this⟩
    · exact ⟨rfl, inoZ_one⟩))
  clear hdr hdc
  go_enter Tryz.func22, Tryz.ntmps22
  go_upto_region 1 with fail
  have hb0 := below_alloc (below_alloc (Below.refl w.heap.size w) (.cells cs.toArray 47)) (.cells inoZ.toArray 47)
  have hs1 : Strc ((w.alloc (.cells cs.toArray 47)).alloc (.cells inoZ.toArray 47)) w.heap.size 47 cs := by
    have := alloc_last w (.cells cs.toArray 47)
    unfold Strc
    rw [alloc_old _ _ _ (lt_of_obj this)]
    exact this
  have hs2 : Strc ((w.alloc (.cells cs.toArray 47)).alloc (.cells inoZ.toArray 47)) (w.heap.size + 1) 47 inoZ := by
    have := alloc_last (w.alloc (.cells cs.toArray 47)) (.cells inoZ.toArray 47)
    rw [show ∀ o, (w.alloc o).heap.size = w.heap.size + 1 from fun o => by simp] at this
    exact this
  change Code.wp _ _ _ _ ((w.alloc (.cells cs.toArray 47)).alloc (.cells inoZ.toArray 47))
  generalize (w.alloc (.cells cs.toArray 47)).alloc (.cells inoZ.toArray 47) = w1 at hb0 hs1 hs2 ⊢
  obtain ⟨q, hq⟩ : ∃ q, w.heap.size = q := ⟨_, rfl⟩
  have HB0 := Aside0.mk hb0
  rw [hq] at hs1 hs2 ⊢
  have HQ := Aside0.mk hq
  clear hq hb0
  have HQ1 := Aside0.mk hs2.lt
  have HS1 := Aside0.mk hs1
  have HS2 := Aside0.mk hs2
  clear hs1 hs2
  refine wp_region_lit ?_
  refine wpList_plain rfl fun K hK => ?_
  unfold Oper.wp execOp
  go_simp
  refine hK _ _ ?_
  clear hK K
  refine wpList_load_row rfl 47 _ rfl q rfl 47 cs.toArray (0, 0) _ HS1.out Tryz.underlying47 rfl hinf ?_
  go_wp2_with fail
  refine (HLIST.out w1 HB0.out).mono ?_
  rintro e w2 ⟨D2, v2, b2', rfl, ho2, hD2, hb2, hst2, hgD2, hm2⟩
  obtain ⟨b2, ho2, hD2, hb2, hbs2⟩ := ownA_base ho2 hD2 hst2.sub hb2 hm2.size
  have HBS := Aside0.mk hbs2
  have HLL := Aside0.mk hll
  clear hbs2
  dsimp only
  have hs1 := HS1.out.mod hm2 (fun hd => by have := HH.out.sub _ hd; have := HQ.out; omega)
  have hs2 := HS2.out.mod hm2 (fun hd => by have := HH.out.sub _ hd; have := HQ.out; omega)
  have HS1 := Aside0.mk hs1
  have HS2 := Aside0.mk hs2
  obtain ⟨A2, c2, rfl, hc2, hE2⟩ := ho2.reads (by dsimp only; omega)
  have HSK := Aside0.mk (seek_calls A2 c2 l nm w2 hE2 (by dsimp only at *; omega))
  obtain ⟨k, hk⟩ : ∃ k, seekI l nm = k := ⟨_, rfl⟩
  rw [hk] at HSK
  obtain ⟨i, is⟩ := k
  dsimp only at HSK
  obtain ⟨ln, hln⟩ : ∃ ln, l.length = ln := ⟨_, rfl⟩
  rw [hln] at HSK hc2 ⊢
  have HK := Aside0.mk (And.intro hk hln)
  have HM2 := Aside0.mk (And.intro ho2 (And.intro hD2 (And.intro hb2 (And.intro hst2 (And.intro hgD2 (And.intro hE2 (Mod.trans (Mod.of_below HB0.out D) hm2 (fun _ _ h => h))))))))
  clear hk hln ho2 hD2 hb2 hst2 hgD2 hE2 hm2 hs1 hs2
  go_wp2_with fail
  refine HSK.out.mono ?_
  rintro e w3 ⟨rfl, hb3⟩
  have hs2 := HS2.out.below hb3
  have HS1 := Aside0.mk (HS1.out.below hb3)
  have HS2 := Aside0.mk hs2
  have HB3 := Aside0.mk hb3
  clear hs2 hb3
  dsimp only
  have hst3 : StIs w3 D2 s0 s ∧ (∀ k, D2 k → D k ∨ w.heap.size ≤ k) ∧ ¬ D2 (q + 1) ∧ Mod w w3 D := by
    refine ⟨HM2.out.2.2.2.1.below HB3.out, fun k hk => (HM2.out.2.2.2.2.1 k hk).imp id (fun h => Nat.le_trans HB0.out.size h), fun hd => ?_, HM2.out.2.2.2.2.2.2.below HB3.out⟩
    rcases HM2.out.2.2.2.2.1 _ hd with h | h
    · have := HH.out.sub _ h
      have := HQ.out
      omega
    · have := HQ1.out
      omega
  have HST := Aside0.mk hst3
  clear hst3
  by_cases he0 : e0 = 0
  · subst he0
    cases is
    · go_upto_region 6 with fail
      refine wp_region_lit ?_
      refine wpList_buildZ rfl rfl ?_
      refine wpList_store_row rfl 47 _ _ rfl (q + 1) inoZ.toArray rfl rfl 47 _ HS2.out infZ rfl inoZ_one ?_
      have hfin := ino_fin inoZ (61) (q := q + 1) (by have := HQ.out; omega) HST.out.1 HST.out.2.1 HST.out.2.2.1 HST.out.2.2.2
      have hres := setRow_heap w3 (q + 1) _ inoZ.toArray 47 (0, 0) HS2.out
      generalize World.setRow w3 (q + 1) inoZ.toArray = w9 at hfin hres ⊢
      have HFIN := Aside0.mk hfin
      have HRS := Aside0.mk hres
      clear hfin hres
      go_wp2
      refine bodyPost_ret (results_ino rfl _ _ (q + 1) inoZ.toArray (61) rfl rfl HRS.out infZ) rfl ?_
      have hr : (rs, rr, re) = (s, r, (61)) := by
        rw [← HRES.out]
        unfold xremR
        rw [HCS.out.2.2, HK.out.1]
        rw [if_neg (by simp), if_pos rfl]
      cases hr
      have hc := HRC.out
      unfold resC at hc
      rw [if_neg (by decide)] at hc
      rw [← hc]
      exact HFIN.out
    · have HIL := Aside0.mk (seekI_lt HK.out.1)
      by_cases hl1 : ln = 1
      · have HL1 := Aside0.mk hl1
        subst hl1
        go_upto_region 8 with fail
        refine wp_region_lit ?_
        refine wpList_plain rfl fun K hK => ?_
        unfold Oper.wp execOp
        go_simp
        refine hK _ _ ?_
        clear hK K
        refine wpList_load_row rfl 47 _ rfl q rfl 47 cs.toArray (0, 0) _ HS1.out Tryz.underlying47 rfl hinf ?_
        refine wpList_plain rfl fun K hK => ?_
        unfold Oper.wp execOp
        go_simp
        refine (HDRP.out D2 w3 HST.out.1).mono ?_
        rintro e w9 ⟨D9, rfl, h9, hD9, hm9⟩
        have hs2' := HS2.out.mod hm9 HST.out.2.2.1
        have hq9 := HS2.out.lt
        have hm19 : Mod w w9 D := Mod.trans HST.out.2.2.2 hm9 (fun k hk hd => (HST.out.2.1 k hd).elim id (fun h => by omega))
        have hg9 : ∀ k, D9 k → D k ∨ w.heap.size ≤ k := fun k hk => (hD9 k hk).elim (HST.out.2.1 k) (fun h => .inr (by have := HST.out.2.2.2.size; omega))
        have hn9 : ¬ D9 (q + 1) := fun hd => (hD9 _ hd).elim HST.out.2.2.1 (fun h => by omega)
        have H9 := Aside0.mk (And.intro h9 (And.intro hg9 (And.intro hn9 (And.intro hm19 hs2'))))
        clear h9 hD9 hm9 hs2' hq9 hm19 hg9 hn9
        dsimp only
        refine hK _ _ ?_
        clear hK K
        refine wpList_plain rfl fun K hK => ?_
        unfold Oper.wp execOp
        go_simp
        refine hK _ _ ?_
        clear hK K
        refine wpList_plain rfl fun K hK => ?_
        unfold Oper.wp execOp
        go_simp
        refine hK _ _ ?_
        clear hK K
        have hinf2 := infIno HDC.out.2.1
        refine wpList_store_row rfl 47 _ _ rfl (q + 1) dc.toArray rfl rfl 47 _ H9.out.2.2.2.2 hinf2 (by rw [List.size_toArray, List.size_toArray, HDC.out.2.1]; rfl) HDC.out.2.2 ?_
        have hfin := ino_fin dc de (q := q + 1) (by have := HQ.out; omega) H9.out.1 H9.out.2.1 H9.out.2.2.1 H9.out.2.2.2.1
        have hres := setRow_heap w9 (q + 1) _ dc.toArray 47 (0, 0) H9.out.2.2.2.2
        generalize World.setRow w9 (q + 1) dc.toArray = w10 at hfin hres ⊢
        have HFIN := Aside0.mk hfin
        have HRS := Aside0.mk hres
        clear hfin hres
        go_wp2
        refine bodyPost_ret (results_ino rfl _ _ (q + 1) dc.toArray de rfl rfl HRS.out hinf2) rfl ?_
        have hr : (rs, rr, re) = (ds, drr, de) := by
          rw [← HRES.out]
          unfold xremR
          rw [HCS.out.2.2, HK.out.1, HDR.out]
          rw [if_neg (by simp), if_neg (by simp), if_pos HK.out.2]
        cases hr
        rw [← HRC.out, HDC.out.1]
        exact HFIN.out
      · have HL1 := Aside0.mk hl1
        have hl1i : ¬ ((ln : Int) = 1) := by omega
        have hlp := HLP.out l rfl (fun e => by have := HIL.out; rw [e] at this; simp at this)
        obtain ⟨hx1, hx2, hx3⟩ := xlistI_in HCS.out.2.2 hlp.2
        obtain ⟨x, hxx⟩ : ∃ x : Nat, r.xattr = x := ⟨r.xattr.toNat, by omega⟩
        have hxn : x < s.now.length := by rw [hxx] at hx3; simpa using hx3
        have HX := Aside0.mk (And.intro hxx (And.intro hxn (And.intro (show x < 65536 by omega) hlp)))
        have ho3 : OwnA w3.drew b2 (.slice A2 ln c2) l := by have := (HM2.out.1.below HB3.out).below ((Below.refl _ _).drew); rw [HK.out.2] at this; exact this
        have HO3 := Aside0.mk ho3
        have HDEL := Aside0.mk (fun (W : World) (hW : OwnA W b2 (.slice A2 ln c2) l) => delete_calls (i := i) (j := i + 1) hW HIL.out rfl (by have := HLL.out; omega))
        obtain ⟨l2, hl2⟩ : ∃ l2, delL l i = l2 := ⟨_, rfl⟩
        rw [hl2] at HDEL
        have HL2 := Aside0.mk hl2
        have hi1 : ((i + 1 : Nat) : Int) = (i : Int) + 1 := by omega
        have hib : i ≤ 255 := by have := HIL.out; have := HLL.out; omega
        rw [hi1] at HDEL
        clear hlp hx1 hx2 hx3 hxx hxn ho3 hl2 hi1
        go_upto_region 9 with fail
        refine wp_region_in [0, 1, 0, 0, 0, 0, 2, 2, 0, 0, 2, 0] [] (fun W => Strc W q 47 cs) (by kernel_rfl) rfl (by kernel_rfl) (fun _ _ _ _ h => h) HS1.out ?_
        iterate 1 (first
          | (refine in_off0 (by rfl) ?_; simp only [Act.put, stA, stZ, stS, i64_w, i32_w])
          | (refine in_off1 (by rfl) ?_; simp only [Act.put, stA, stZ, stS, i64_w, i32_w])
          | (refine in_0 (v := ?_) (by rfl) rfl ?_ (a' := ?_) ?_ ?_; rotate_left; (intro w'; go_simp; with_reducible rfl); rotate_left; (simp only [Act.put, stA, stZ, stS, i64_w, i32_w]; rfl))
          | (refine in_1 (v := ?_) (by rfl) rfl ?_ (a' := ?_) ?_ ?_; rotate_left; (rintro w' hs; go_split_ands; go_simp; with_reducible rfl); rotate_left; (simp only [Act.put, stA, stZ, stS, i64_w, i32_w]; rfl)))
        refine in_1 (by rfl) rfl (fun W hW => run_load_row 47 _ rfl q rfl 47 cs.toArray (0, 0) _ hW Tryz.underlying47 rfl hinf) rfl ?_
        simp only [Act.put, stA, stZ, stS, i64_w, i32_w]
        have hw1 : wrap64 ((i : Int) + 1) = (i : Int) + 1 := by unfold wrap64; omega
        iterate 4 (first
          | (refine in_off0 (by rfl) ?_; simp only [Act.put, stA, stZ, stS, i64_w, i32_w])
          | (refine in_off1 (by rfl) ?_; simp only [Act.put, stA, stZ, stS, i64_w, i32_w])
          | (refine in_0 (v := ?_) (by rfl) rfl ?_ (a' := ?_) ?_ ?_; rotate_left; (intro w'; go_simp; with_reducible rfl); rotate_left; (simp only [Act.put, stA, stZ, stS, i64_w, i32_w]; rfl))
          | (refine in_1 (v := ?_) (by rfl) rfl ?_ (a' := ?_) ?_ ?_; rotate_left; (rintro w' hs; go_split_ands; go_simp; with_reducible rfl); rotate_left; (simp only [Act.put, stA, stZ, stS, i64_w, i32_w]; rfl)))
        rw [hw1]
        clear hw1
        refine in_2 (by rfl) (fun K hK => ?_)
        go_simp
        with_reducible refine (HDEL.out _ HO3.out).mono ?_
        rintro e w4 ⟨v4, rfl, ho4, hm4⟩
        dsimp only
        have hbA : ∀ k, (Value.slice A2 ln c2).ownBlock = some k → b2 ≤ k := fun k hk => ownA_ge HM2.out.1 k (by rw [HK.out.2]; exact hk)
        have hq2 : q + 1 < b2 := by have := HQ1.out; have := HM2.out.2.2.1; omega
        have hm34 : Mod w3 w4 (fun k => b2 ≤ k) := Mod.trans (Mod.of_below ((Below.refl _ _).drew) _) (hm4.mono (fun k _ e => hbA k e)) (fun _ _ h => h)
        have hs1 := HS1.out.mod hm34 (fun e => by have : b2 ≤ q := e; omega)
        have hs2 := HS2.out.mod hm34 (fun e => by have : b2 ≤ q + 1 := e; omega)
        have hst4 : StIs w4 D2 s0 s ∧ (∀ k, D2 k → D k ∨ w.heap.size ≤ k) ∧ ¬ D2 (q + 1) ∧ Mod w w4 D := ⟨HST.out.1.mod hm34 (fun k hk e => by have : b2 ≤ k := e; have := HM2.out.2.1 k hk; omega), HST.out.2.1, HST.out.2.2.1, Mod.trans HST.out.2.2.2 hm34 (fun k hk e => by have : b2 ≤ k := e; have := HM2.out.2.2.1; have := HB0.out.size; omega)⟩
        refine hK _ _ hs1 ?_
        clear hK K
        try simp only [Act.put, stA, stZ, stS, i64_w, i32_w]
        have hln2 : l2.length ≤ 255 := by rw [← HL2.out, delL_length _ _ HIL.out]; have := HLL.out; omega
        obtain ⟨A4, c4, rfl, hc4, hE4⟩ := ho4.reads (by omega)
        have hall4 : ∀ y ∈ l2, allB y.val := fun y hy => by
          obtain ⟨vs, _, _, h3⟩ := ho4
          obtain ⟨j, hj, rfl⟩ := List.getElem_of_mem hy
          have := (h3 j hj).2
          simpa [attAt, List.getD_eq_getElem?_getD, hj] using this
        have hlay := lay_calls cs x A4 c4 l2 w4 hst4.1 HCS.out.2.1 (by rw [← HCS.out.1]; exact Ino_one r A n c) (by rw [← HCS.out.1, ← HX.out.1]; rfl) HX.out.2.1 HX.out.2.2.1 hE4 hc4 (by omega) (by rw [← HL2.out]; exact xpack_del HX.out.2.2.2.1 HIL.out) hall4 (by omega)
        have hnq : ¬ D2 q := fun hd => (HST.out.2.1 _ hd).elim (fun hd => by have := HH.out.sub _ hd; have := HQ.out; omega) (fun h => by have := (HM2.out.2.2.2.2.1 _ hd); exact this.elim (fun hd => by have := HH.out.sub _ hd; have := HQ.out; omega) (fun h => by have := HQ1.out; omega))
        refine in_2 (by rfl) (fun K hK => ?_)
        go_simp
        with_reducible refine hlay.mono ?_
        rintro e w5 ⟨D5, rfl, h5, hD5, hm5⟩
        dsimp only
        have hs15 := hs1.mod hm5 hnq
        have hs25 := hs2.mod hm5 hst4.2.2.1
        refine hK _ _ hs15 ?_
        clear hK K
        try simp only [Act.put, stA, stZ, stS, i64_w, i32_w]
        iterate 2 (first
          | (refine in_off0 (by rfl) ?_; simp only [Act.put, stA, stZ, stS, i64_w, i32_w])
          | (refine in_off1 (by rfl) ?_; simp only [Act.put, stA, stZ, stS, i64_w, i32_w])
          | (refine in_0 (v := ?_) (by rfl) rfl ?_ (a' := ?_) ?_ ?_; rotate_left; (intro w'; go_simp; with_reducible rfl); rotate_left; (simp only [Act.put, stA, stZ, stS, i64_w, i32_w]; rfl))
          | (refine in_1 (v := ?_) (by rfl) rfl ?_ (a' := ?_) ?_ ?_; rotate_left; (rintro w' hs; go_split_ands; go_simp; with_reducible rfl); rotate_left; (simp only [Act.put, stA, stZ, stS, i64_w, i32_w]; rfl)))
        have hn5 : ¬ D5 (q + 1) := fun hd => (hD5 _ hd).elim hst4.2.2.1 (fun h => by have := hs2.lt; omega)
        have hg5 : ∀ k, D5 k → D k ∨ w.heap.size ≤ k := fun k hk => (hD5 k hk).elim (hst4.2.1 k) (fun h => .inr (by have := hst4.2.2.2.size; omega))
        have hm05 : Mod w w5 D := Mod.trans hst4.2.2.2 hm5 (fun k hk hd => (hst4.2.1 k hd).elim id (fun h => by omega))
        refine in_2 (by rfl) (fun K hK => ?_)
        refine wp_store_row 47 _ _ rfl (q + 1) cs.toArray rfl rfl 47 _ hs25 hinf (by rw [List.size_toArray, List.size_toArray, HCS.out.2.1]; rfl) (by have := Ino_one r A n c; rw [HCS.out.1] at this; simpa using this) ?_
        have hfin := ino_fin cs 0 (q := q + 1) (by have := HQ.out; omega) h5 hg5 hn5 hm05
        have hres := setRow_heap w5 (q + 1) _ cs.toArray 47 (0, 0) hs25
        have hss := hs15.mod (mod_setRow w5 (q + 1) cs.toArray) (by omega)
        refine hK _ _ hss ?_
        clear hK K
        generalize World.setRow w5 (q + 1) cs.toArray = w9 at hfin hres ⊢
        have HFIN := Aside0.mk hfin
        have HRS := Aside0.mk hres
        clear hfin hres hss hs15 hs25 hn5 hg5 hm05 h5 hD5 hm5 hlay hnq hs1 hs2 hst4 hall4 hE4 hc4 hln2 hm34 hq2 hbA ho4 hm4
        try simp only [Act.put, stA, stZ, stS, i64_w, i32_w]
        iterate 1 (first
          | (refine in_off0 (by rfl) ?_; simp only [Act.put, stA, stZ, stS, i64_w, i32_w])
          | (refine in_off1 (by rfl) ?_; simp only [Act.put, stA, stZ, stS, i64_w, i32_w])
          | (refine in_0 (v := ?_) (by rfl) rfl ?_ (a' := ?_) ?_ ?_; rotate_left; (intro w'; go_simp; with_reducible rfl); rotate_left; (simp only [Act.put, stA, stZ, stS, i64_w, i32_w]; rfl))
          | (refine in_1 (v := ?_) (by rfl) rfl ?_ (a' := ?_) ?_ ?_; rotate_left; (rintro w' hs; go_split_ands; go_simp; with_reducible rfl); rotate_left; (simp only [Act.put, stA, stZ, stS, i64_w, i32_w]; rfl)))
        refine in_nil ?_
        go_wp2
        refine bodyPost_ret (results_ino rfl _ _ (q + 1) cs.toArray 0 rfl rfl HRS.out hinf) rfl ?_
        have hr : (rs, rr, re) = (s.write x (xpackI l2 x).1, r, 0) := by
          rw [← HRES.out]
          unfold xremR
          rw [HCS.out.2.2, HK.out.1]
          dsimp only
          rw [HK.out.2, HL2.out]
          rw [if_neg (by simp), if_neg (by simp), if_neg HL1.out, HX.out.1, Int.toNat_natCast]
        cases hr
        have hc := HRC.out
        unfold resC at hc
        rw [if_pos rfl, HCS.out.1] at hc
        rw [← hc]
        exact HFIN.out
  · have hne0 : ¬ (e0 = 0) := he0
    go_upto_region 4 with fail
    refine wp_region_lit ?_
    refine wpList_buildZ rfl rfl ?_
    refine wpList_plain rfl fun K hK => ?_
    unfold Oper.wp execOp
    go_simp
    refine hK _ _ ?_
    clear hK K
    refine wpList_store_row rfl 47 _ _ rfl (q + 1) inoZ.toArray rfl rfl 47 _ HS2.out infZ rfl inoZ_one ?_
    have hfin := ino_fin inoZ e0 (q := q + 1) (by have := HQ.out; omega) HST.out.1 HST.out.2.1 HST.out.2.2.1 HST.out.2.2.2
    have hres := setRow_heap w3 (q + 1) _ inoZ.toArray 47 (0, 0) HS2.out
    generalize World.setRow w3 (q + 1) inoZ.toArray = w9 at hfin hres ⊢
    have HFIN := Aside0.mk hfin
    have HRS := Aside0.mk hres
    clear hfin hres
    go_wp2
    refine bodyPost_ret (results_ino rfl _ _ (q + 1) inoZ.toArray e0 rfl rfl HRS.out infZ) rfl ?_
    have hr : (rs, rr, re) = (s, r, e0) := by
      rw [← HRES.out]
      unfold xremR
      rw [HCS.out.2.2]
      exact if_pos he0
    cases hr
    have hc := HRC.out
    unfold resC at hc
    rw [if_neg he0] at hc
    rw [← hc]
    exact HFIN.out
def xsetR (s : St) (r : Ino) (rl : Nat) (nm : ByteArray) (val : List Int) (how goal : Int) : St × Ino × Int :=
  if (xlistI s.now r rl).2 ≠ 0 then (s, r, (xlistI s.now r rl).2) else
  if 64 < val.length then (s, r, 34) else
  if namedB nm = false ∨ how < 0 ∨ 2 < how then (s, r, 22) else
  if how = 1 ∧ (seekI (xlistI s.now r rl).1 nm).2 = true then (s, r, 17) else
  if how = 2 ∧ (seekI (xlistI s.now r rl).1 nm).2 = false then (s, r, 61) else
  if (xpackI (xsetL (xlistI s.now r rl).1 (seekI (xlistI s.now r rl).1 nm) ⟨nm, val⟩) 0).2 ≠ 0 then (s, r, (xpackI (xsetL (xlistI s.now r rl).1 (seekI (xlistI s.now r rl).1 nm) ⟨nm, val⟩) 0).2) else
  if r.xattr ≠ 0 then (s.write r.xattr.toNat (xpackI (xsetL (xlistI s.now r rl).1 (seekI (xlistI s.now r rl).1 nm) ⟨nm, val⟩) r.xattr).1, r, 0) else
  if (blocksI s goal 1).2.2.2 ≠ 0 then ((blocksI s goal 1).1, r, (blocksI s goal 1).2.2.2) else
  ((blocksI s goal 1).1.write (blocksI s goal 1).2.1.toNat (xpackI (xsetL (xlistI s.now r rl).1 (seekI (xlistI s.now r rl).1 nm) ⟨nm, val⟩) (blocksI s goal 1).2.1).1, { r with xattr := (blocksI s goal 1).2.1, blocks := r.blocks + 1 }, 0)
theorem xsetI_eq (s : St) (r : Ino) (rl : Nat) (rv : Value) (nm : ByteArray) (val : List Int) (how goal : Int) : xsetI s r rl rv nm val how goal = ((xsetR s r rl nm val how goal).1, resC (xsetR s r rl nm val how goal).2.1 rv (xsetR s r rl nm val how goal).2.2, (xsetR s r rl nm val how goal).2.2) := by
  unfold xsetI xsetR resC
  by_cases h1 : (xlistI s.now r rl).2 ≠ 0
  · rw [if_pos h1, if_pos h1, if_neg h1]
  · rw [if_neg h1, if_neg h1]
    by_cases h2 : 64 < val.length
    · rw [if_pos h2, if_pos h2]; rfl
    · rw [if_neg h2, if_neg h2]
      by_cases h3 : namedB nm = false ∨ how < 0 ∨ 2 < how
      · rw [if_pos h3, if_pos h3]; rfl
      · rw [if_neg h3, if_neg h3]
        by_cases h4 : how = 1 ∧ (seekI (xlistI s.now r rl).1 nm).2 = true
        · rw [if_pos h4, if_pos h4]; rfl
        · rw [if_neg h4, if_neg h4]
          by_cases h5 : how = 2 ∧ (seekI (xlistI s.now r rl).1 nm).2 = false
          · rw [if_pos h5, if_pos h5]; rfl
          · rw [if_neg h5, if_neg h5]
            by_cases h6 : (xpackI (xsetL (xlistI s.now r rl).1 (seekI (xlistI s.now r rl).1 nm) ⟨nm, val⟩) 0).2 ≠ 0
            · rw [if_pos h6, if_pos h6, if_neg h6]
            · rw [if_neg h6, if_neg h6]
              by_cases h7 : r.xattr ≠ 0
              · rw [if_pos h7, if_pos h7]; rfl
              · rw [if_neg h7, if_neg h7]
                by_cases h8 : (blocksI s goal 1).2.2.2 ≠ 0
                · rw [if_pos h8, if_pos h8, if_neg h8]
                · rw [if_neg h8, if_neg h8]; rfl
def exG : Geo := ⟨300, 200, 16, 96⟩
def exL : List (List Int) := List.replicate 300 (List.replicate 256 0)
def exS : St := new0 (mkI exG exL)
def exR : Ino := ⟨1, 0, 0, 0, 0, 0, 0, 0, 0, 0, 0, 0, 0, false⟩
def exA : ByteArray := ⟨#[97]⟩
def exB : ByteArray := ⟨#[98]⟩
def exC : ByteArray := ⟨#[99]⟩
end Go.Proofs.YtkmhilhfmfmckaaGreatDoor.Hand
