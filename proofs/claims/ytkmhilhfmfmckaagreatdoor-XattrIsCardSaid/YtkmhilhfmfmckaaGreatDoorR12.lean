/- Own texts and printed words of the kit, put together and trimmed by a program of mine (merge.py). -/
import Derived.Test.YtkmhilhfmfmckaaGreatDoorR11
import Derived.Lib.AppendZerosOnto
import Derived.Lib.Overlaps
import Derived.Laws.IdiomCopy
import Derived.Sort.Walk0
import Derived.Laws.ResultCell
namespace Go.Proofs.YtkmhilhfmfmckaaGreatDoor.Hand
set_option linter.unusedSimpArgs false
set_option linter.unusedVariables false
open Go.Shelf Go.RowKit Go.Proofs.YtkmhilhfmfmckaaGreatDoorW.PrintWords Go.Proofs.YtkmhilhfmfmckaaGreatDoorW.PrintLast Go.Proofs.YtkmhilhfmfmckaaGreatDoorW.PrintMore
def putC (L : List Value) (k : Nat) (cs : List Value) : List Value := L.take k ++ cs ++ L.drop (k + cs.length)
theorem putC_length {L cs : List Value} {k : Nat} (h : k + cs.length ≤ L.length) : (putC L k cs).length = L.length := by
 unfold putC
 simp only [List.length_append, List.length_take, List.length_drop]
 omega
theorem putC_get {L cs : List Value} {k : Nat} (h : k + cs.length ≤ L.length) (j : Nat) : (putC L k cs)[j]? = if j < k then L[j]? else if j < k + cs.length then cs[j - k]? else L[j]? := by
 unfold putC
 have hk : (L.take k).length = k := by rw [List.length_take]; omega
 by_cases h1 : j < k
 ·rw [if_pos h1, List.append_assoc, List.getElem?_append_left (by omega), List.getElem?_take, if_pos h1]
 ·rw [if_neg h1]
  by_cases h2 : j < k + cs.length
  ·rw [if_pos h2, List.append_assoc, List.getElem?_append_right (by omega), List.getElem?_append_left (by omega), hk]
  ·rw [if_neg h2, List.getElem?_append_right (by rw [List.length_append]; omega), List.getElem?_drop, List.length_append, hk]
   congr 1
   omega
theorem setCells_obj (b : Nat) (t : TypeId) : ∀ (vs : List Value) (k : Nat) (L : List Value) (w : World), w.heap[b]? = some (.cells L.toArray t (0, 0)) → k + vs.length ≤ L.length → (w.setCells b k vs).heap[b]? = some (.cells (putC L k vs).toArray t (0, 0))
 | [], k, L, w, h, _ => by rw [World.setCells]; simpa [putC] using h
 | v :: r, k, L, w, h, hl => by
  rw [World.setCells]
  have hl' : k + 1 + r.length ≤ (L.set k v).length := by simp only [List.length_cons] at hl; rw [List.length_set]; omega
  have h1 : (w.setCell ⟨b, k, none⟩ v).heap[b]? = some (.cells (L.set k v).toArray t (0, 0)) := by
   unfold World.setCell
   simp only [Array.getElem?_modify, if_true, h, Option.map_some]
   simp
  rw [setCells_obj b t r (k + 1) (L.set k v) _ h1 hl']
  congr 3
  apply List.ext_getElem?
  intro j
  rw [putC_get hl', putC_get hl]
  simp only [List.length_cons] at hl ⊢
  by_cases a1 : j < k
  ·rw [if_pos a1, if_pos (by omega), List.getElem?_set_ne (by omega)]
  ·rw [if_neg a1]
   by_cases a2 : j = k
   ·subst a2
    rw [if_pos (by omega), if_pos (by omega), List.getElem?_set_self (by omega), Nat.sub_self]
    rfl
   ·rw [if_neg (by omega)]
    by_cases a3 : j < k + 1 + r.length
    ·rw [if_pos a3, if_pos (by omega), show j - k = (j - (k + 1)) + 1 by omega, List.getElem?_cons_succ]
    ·rw [if_neg a3, if_neg (by omega), List.getElem?_set_ne (by omega)]
theorem setCells_mod (b : Nat) : ∀ (vs : List Value) (k : Nat) (w w1 : World), Mod w w1 (· = b) → Mod w (w1.setCells b k vs) (· = b)
 | [], _, _, _, h => h
 | v :: r, k, w, w1, h => setCells_mod b r (k + 1) w _ (h.set_own k v)
theorem setCells_size (b : Nat) : ∀ (vs : List Value) (k : Nat) (w : World), (w.setCells b k vs).heap.size = w.heap.size
 | [], _, _ => rfl
 | v :: r, k, w => by rw [World.setCells, setCells_size b r]; simp [World.setCell]
theorem cell_of_obj {w : World} {b : Nat} {t : TypeId} {L : List Value} (h : w.heap[b]? = some (.cells L.toArray t (0, 0))) (j : Nat) : w.cell? ⟨b, j, none⟩ = L[j]? := by
 simp [World.cell?, h]
theorem free_of_obj {w : World} {b : Nat} {t : TypeId} {L : List Value} (h : w.heap[b]? = some (.cells L.toArray t (0, 0))) (j : Nat) : w.frozen? ⟨b, j, none⟩ = false := by
 simp [World.frozen?, h]
section
variable {P : Program} {w : World} {o : Oper} {a : Act} {K : Act → World → Prop} {Q : Exit → Act → World → Prop}
theorem run_copyE (t e ty : TypeId) (sz : Nat) (ht : P.underlying t = some (.slice e)) (hsz : (P.info? e).map (·.size) = some sz)
  (b k dLen dCap : Nat) (ad : Addr) (sLen sCap : Nat) (L cs : List Value) (te : TypeId)
  (hL : w.heap[b]? = some (.cells L.toArray te (0, 0))) (m : Nat) (hm : Nat.min sLen dLen = m) (hn : cs.length = m * sz) (hsrc : ∀ j u, cs[j]? = some u → w.cell? (ad.add j) = some u) (hfit : k + cs.length ≤ L.length) (h1 : ∀ u ∈ cs, u.oneCell' = true) :
  ∃ w1, (Builtin.copy_ #[t, t] ty #[.slice (some ⟨b, k, none⟩) dLen dCap, .slice (some ad) sLen sCap]).run P w = .ok (goInt m) w1 ∧ w1.heap[b]? = some (.cells (putC L k cs).toArray te (0, 0)) ∧ Mod w w1 (· = b) ∧ w1.heap.size = w.heap.size := by
 have hcl : ∀ j, j < cs.length → (w.cell? ⟨b, k + 0 + j, none⟩).isSome = true := fun j hj => by rw [cell_of_obj hL, List.getElem?_eq_getElem (by omega)]; rfl
 have hst := run_storeCells_cells (P := P) b k cs 0 w hcl (fun j hj => free_of_obj hL _) h1
 have hld := run_firstCells_some (P := P) (w := w) sz (Nat.min sLen dLen) ad sLen sCap cs (by rw [hm]; exact hn) hsrc
 cases hq : P.info? e with
 | none => simp [hq] at hsz
 | some i =>
  have hi : i.size = sz := by simpa [hq] using hsz
  have hr : (Builtin.copy_ #[t, t] ty #[.slice (some ⟨b, k, none⟩) dLen dCap, .slice (some ad) sLen sCap]).run P w = .ok (goInt (Nat.min sLen dLen)) (w.setCells b k cs) := by
   simp [Builtin.copy_, run_underlying ht, Builtin.lenOf, sizeOf, typeInfo, hq, hi, hld, hst]
  exact ⟨_, by rw [hr, hm], setCells_obj b te cs k L w hL hfit, setCells_mod b cs k w w (Mod.refl _ _), setCells_size b cs k w⟩
theorem wp_append_zerosE (s x : Operand) (t tn e : TypeId) (ho : o.op = .call { callee := .builtin .append, args := #[s, x], argTypes := #[t, tn] }) (i : TypeInfo) (z : Value) (kn : IntKind) (ht : P.underlying t = some (.slice e)) (htn : P.underlying tn = some (.int kn)) (hi : P.info? e = some i) (hz : i.zero = some z) (sz bt : Nat) (hs1 : i.size = sz) (hs2 : i.bytes = bt) (hs3 : z.cells.size = sz) (hs0 : 0 < sz)
  (g n c k : Nat) (xs : List Value) (hs : a.eval s = .slice (some ⟨g, 0, none⟩) n c) (hx : a.eval x = .int .i64 k) (hxs : xs.length = n * sz) (hc : ∀ j u, xs[j]? = some u → w.cell? ⟨g, j, none⟩ = some u) (h0 : 0 < k) (hg : c < n + k) (hbig : (n + k) * bt ≤ 140737488355328) (hbt : 0 < bt) (hnk : n + k ≤ 1000000)
  (h : ∀ w1 G zs, w1.heap[w.heap.size]? = some (.cells (xs ++ zs).toArray e (0, 0)) → (xs ++ zs).length = G * sz → n + k ≤ G → G ≤ maxLen → Below w.heap.size w w1 → w1.heap.size = w.heap.size + 1 → K (a.put o.dst (.slice (some ⟨w.heap.size, 0, none⟩) (n + k) G)) w1) : o.wp P a w K Q := by
 have hold : (Builtin.firstCells i.size n (.slice (some ⟨g, 0, none⟩) n c)).run P w.drew = .ok xs.toArray w.drew := by
  rw [hs1]
  exact run_firstCells_some (w := w.drew) sz n ⟨g, 0, none⟩ n c xs hxs (fun j u hj => by
   rw [show (⟨g, 0, none⟩ : Addr).add j = ⟨g, j, none⟩ by unfold Addr.add; split <;> simp_all]
   exact hc j u hj)
 have hkb : k * bt ≤ (n + k) * bt := Nat.mul_le_mul_right _ (by omega)
 have hrun := Lib.run_append_grow_zeros w t tn o.type e i z .i64 kn ht htn hi hz (some ⟨g, 0, none⟩) n c xs hold k h0 (by omega) hg (by omega) (by rw [hs2]; omega) (by rw [hs2]; exact growslice_fits hg hbig)
 unfold Oper.wp execOp
 simp only [ho, resolve, invoke, builtin, Sem.run_bind, Sem.run_pure, Result.andThen_ok, List.map_toArray, List.map_cons, List.map_nil, hs, hx, hrun]
 have hGn := grownCap_ge w (n + k) c e
 have hGm := grownCap_le_maxLen w (n + k) c e (by unfold maxLen; omega)
 generalize grownCap w (n + k) c e = G at hGn hGm ⊢
 have hzl : ∀ m, (Builtin.zeroCells z.cells m).size = m * sz := fun m => by rw [← hs3]; simp [Builtin.zeroCells]
 refine h _ G ((Builtin.zeroCells z.cells k).toList ++ (Builtin.zeroCells z.cells (G - (n + k))).toList) ?_ ?_ hGn hGm ?_ ?_
 ·have : (xs ++ ((Builtin.zeroCells z.cells k).toList ++ (Builtin.zeroCells z.cells (G - (n + k))).toList)).toArray = xs.toArray ++ Builtin.zeroCells z.cells k ++ Builtin.zeroCells z.cells (G - (n + k)) := by
   apply Array.ext'
   simp
  rw [this]
  exact alloc_last w.drew _
 ·simp only [List.length_append, Array.length_toList, hzl, hxs]
  rw [← Nat.add_mul, ← Nat.add_mul]
  congr 1
  omega
 ·exact below_alloc (Below.refl _ _).drew _
 ·show (w.heap.push _).size = _
  exact Array.size_push _
end
def insL {α : Type} (l : List α) (i : Nat) (x : α) : List α := l.take i ++ x :: l.drop i
theorem insL_length {α : Type} (l : List α) (i : Nat) (x : α) : (insL l i x).length = l.length + 1 := by
 unfold insL
 simp only [List.length_append, List.length_take, List.length_cons, List.length_drop]
 omega
theorem acells_append (l m : List Att) (vs us : List Value) (h : vs.length = l.length) : acells (l ++ m) (vs ++ us) = acells l vs ++ acells m us := by
 unfold acells
 rw [List.zip_append h.symm, List.flatMap_append]
theorem acells_take (l : List Att) (vs : List Value) (i : Nat) (h : vs.length = l.length) (hi : i ≤ l.length) : acells l vs = acells (l.take i) (vs.take i) ++ acells (l.drop i) (vs.drop i) ∧ (acells (l.take i) (vs.take i)).length = i * 2 ∧ (acells (l.drop i) (vs.drop i)).length = (l.length - i) * 2 := by
 refine ⟨?_, ?_, ?_⟩
 ·rw [← acells_append _ _ _ _ (by rw [List.length_take, List.length_take, h]), List.take_append_drop, List.take_append_drop]
 ·rw [acells_length _ _ (by rw [List.length_take, List.length_take, h]), List.length_take]
  congr 1
  omega
 ·rw [acells_length _ _ (by rw [List.length_drop, List.length_drop, h]), List.length_drop]
theorem acells_ins (l : List Att) (vs : List Value) (i : Nat) (x : Att) (u : Value) (h : vs.length = l.length) : acells (insL l i x) (insL vs i u) = acells (l.take i) (vs.take i) ++ [.string x.name, u] ++ acells (l.drop i) (vs.drop i) := by
 unfold insL
 rw [acells_append _ _ _ _ (by rw [List.length_take, List.length_take, h])]
 simp [acells]
theorem put_shift (A D N R : List Value) (hN : N.length ≤ R.length) : (putC (putC (A ++ D ++ R) (A.length + N.length) D) A.length N).take (A.length + N.length + D.length) = A ++ N ++ D := by
 have h1 : A.length + N.length + D.length ≤ (A ++ D ++ R).length := by simp only [List.length_append]; omega
 have h2 : A.length + N.length ≤ (putC (A ++ D ++ R) (A.length + N.length) D).length := by rw [putC_length h1]; omega
 apply List.ext_getElem?
 intro j
 rw [List.getElem?_take]
 by_cases hj : j < A.length + N.length + D.length
 ·rw [if_pos hj, putC_get h2]
  by_cases a1 : j < A.length
  ·rw [if_pos a1, putC_get h1, if_pos (by omega), List.append_assoc, List.append_assoc, List.getElem?_append_left a1, List.getElem?_append_left a1]
  ·rw [if_neg a1]
   by_cases a2 : j < A.length + N.length
   ·rw [if_pos a2, List.append_assoc, List.getElem?_append_right (by omega), List.getElem?_append_left (by omega)]
   ·rw [if_neg a2, putC_get h1, if_neg a2, if_pos hj, List.getElem?_append_right (by rw [List.length_append]; omega), List.length_append]
 ·rw [if_neg hj, List.getElem?_eq_none (by simp only [List.length_append]; omega)]
theorem put_grow (A D N Z : List Value) (hZ : N.length + D.length ≤ Z.length) : (putC (putC (A ++ Z) A.length N) (A.length + N.length) D).take (A.length + N.length + D.length) = A ++ N ++ D := by
 have h2 : A.length + N.length ≤ (A ++ Z).length := by simp only [List.length_append]; omega
 have h1 : A.length + N.length + D.length ≤ (putC (A ++ Z) A.length N).length := by rw [putC_length h2]; simp only [List.length_append]; omega
 apply List.ext_getElem?
 intro j
 rw [List.getElem?_take]
 by_cases hj : j < A.length + N.length + D.length
 ·rw [if_pos hj, putC_get h1]
  by_cases a1 : j < A.length + N.length
  ·rw [if_pos a1, putC_get h2]
   by_cases a2 : j < A.length
   ·rw [if_pos a2, List.append_assoc, List.getElem?_append_left a2, List.getElem?_append_left a2]
   ·rw [if_neg a2, if_pos a1, List.append_assoc, List.getElem?_append_right (by omega), List.getElem?_append_left (by omega)]
  ·rw [if_neg a1, if_pos hj, List.getElem?_append_right (by rw [List.length_append]; omega), List.length_append]
 ·rw [if_neg hj, List.getElem?_eq_none (by simp only [List.length_append]; omega)]
def InsPost (b0 : Nat) (v : Value) (n : Nat) (cs : List Value) (w : World) (e : Ending) (w' : World) : Prop :=
 ∃ v', e = .returned v' ∧ w'.ownsRow b0 72 2 v' (n + 1) cs ∧ Mod w w' (fun k => v.ownBlock = some k)
set_option maxRecDepth 100000 in
theorem szAtt : ∀ w : World, (sizeOf 72).run Tryz.prog w = .ok 2 w := fun w => by
 obtain ⟨e0, he, hz0, hz1, hz2⟩ := info_parts infoAtt
 simp [sizeOf, typeInfo, he, hz1]
set_option maxRecDepth 100000 in
theorem cut_at (A : Option Addr) (n c j : Nat) (h : j ≤ n) (W : World) : (Instr.slice 29 (.slice A n c) (some (.int .i64 (j : Int))) none none).run Tryz.prog W = .ok (.slice (if c = j then A else A.map (·.add (j * 2))) (n - j) (c - j)) W := by
 obtain ⟨e0, he, hz0, hz1, hz2⟩ := info_parts infoAtt
 have := cut_from (P := Tryz.prog) 29 72 .i64 (i := e0) rfl he 2 hz1 A n c (j : Int) (by omega) (by omega) W
 simpa using this
set_option maxRecDepth 100000 in
theorem cut_up (A : Option Addr) (n c j : Nat) (h : j ≤ c) (W : World) : (Instr.slice 29 (.slice A n c) none (some (.int .i64 (j : Int))) none).run Tryz.prog W = .ok (.slice A j c) W := by
 have hel : Tryz.prog.elem 29 = 72 := by kernel_rfl
 have hu : Tryz.prog.underlying 29 = some (.slice (Tryz.prog.elem 29)) := by kernel_rfl
 have ha : (A.map fun x => x.add 0) = A := by cases A <;> simp [Addr.add]
 obtain ⟨e0, he, hz0, hz1, hz2⟩ := info_parts infoAtt
 rw [run_slice_h W 29 A n c hu .i64 (j : Int) (by omega) (by omega), hel]
 simp [sizeOf, typeInfo, he, hz1, sliced, Result.andThen, ha]
theorem two_one (x : Att) {u : Value} (hu : u.oneCell' = true) : ∀ q ∈ [Value.string x.name, u], q.oneCell' = true := by
 intro q hq
 simp only [List.mem_cons, List.not_mem_nil, or_false] at hq
 rcases hq with rfl | rfl
 ·rfl
 ·exact hu
theorem two_at {w : World} {vb : Nat} {t : TypeId} {x : Att} {u : Value} (h : w.heap[vb]? = some (.cells #[.string x.name, u] t)) (j : Nat) (q : Value) (hj : [Value.string x.name, u][j]? = some q) : w.cell? ((⟨vb, 0, none⟩ : Addr).add j) = some q := by
 rw [add_plain]
 simpa [World.cell?, h] using hj
set_option maxHeartbeats 4000000 in
set_option maxRecDepth 100000 in
theorem ins_end (b0 : Nat) (v : Value) (n : Nat) (cs : List Value) (x : Att) (u : Value) (vb : Nat) (w : World) (hrow : w.ownsRow b0 72 2 v n cs) (hn : n ≤ 1000) (hvb : w.heap[vb]? = some (.cells #[.string x.name, u] 72)) (hu : u.oneCell' = true) (hb0 : b0 ≤ w.heap.size) :
  Calls Tryz.prog 52 #[v, .int .i64 n, .slice (some ⟨vb, 0, none⟩) 1 1] w (InsPost b0 v n (cs ++ [.string x.name, u]) w) := by
 obtain ⟨A, c, rfl, hc, _⟩ := own_shape hrow
 have HROW := Aside0.mk hrow
 obtain ⟨V, hcut⟩ : ∃ V, ∀ W : World, (Instr.slice 29 (.slice A n c) (some (.int .i64 (n : Int))) none none).run Tryz.prog W = .ok V W := ⟨_, cut_at A n c n (Nat.le_refl _)⟩
 obtain ⟨e0, he, hz0, hz1, hz2⟩ := info_parts infoAtt
 clear hrow
 go_enter Tryz.func52, Tryz.ntmps52
 have hc1 := two_at hvb
 have hc2 := two_one x hu
 go_wp2_with (at_builtin; go_loud (refine wpList_append_own _ rfl (.tmp 23) (.tmp 24) 29 rfl b0 72 e0 (.agg #[.string ⟨#[]⟩, .slice none 0 0]) 2 40 Tryz.underlying29 he hz0 hz1 hz2 rfl (by decide) _ n cs rfl HROW.out ⟨vb, 0, none⟩ 1 1 [.string x.name, u] rfl rfl hc1 hc2 (by simp only [maxLen]; omega) (by omega) hb0 ?_; intro v' w' h2 h3 _; have H2 := Aside0.mk (And.intro h2 h3); clear h2 h3))
 go_ret
 exact ⟨v', rfl, H2.out.1, (mod_grown H2.out.2)⟩
theorem insgrow_row {w3 : World} {t : TypeId} {b0 N n i i1 k G : Nat} {A D zs N2 : List Value} (hb0 : b0 ≤ N) (hA : A.length = i * 2) (hD : D.length = (n - i) * 2) (hi : i < n) (hi1 : i + 1 = i1) (hik : i + k = n + 1) (hkG : i + k ≤ G) (hGm : G ≤ maxLen) (hl : (A ++ zs).length = G * 2) (h2 : N2.length = 2)
  (hobj : w3.heap[N]? = some (.cells (putC (putC (A ++ zs) (i * 2) N2) (i1 * 2) D).toArray t (0, 0))) : w3.ownsRow b0 t 2 (.slice (some ⟨N, 0, none⟩) (n + 1) G) (n + 1) (A ++ N2 ++ D) := by
 have hl' := hl
 rw [List.length_append, hA] at hl'
 have hp1 : (putC (A ++ zs) (i * 2) N2).length = G * 2 := by rw [putC_length (by rw [hl, h2]; omega), hl]
 have hp2 : (putC (putC (A ++ zs) (i * 2) N2) (i1 * 2) D).length = G * 2 := by rw [putC_length (by rw [hp1, hD]; omega), hp1]
 refine ⟨?_, .inr ⟨N, G, _, rfl, hb0, hobj, by omega, hGm, by rw [List.size_toArray, hp2], ?_⟩⟩
 ·rw [List.length_append, List.length_append, hA, hD, h2]
  omega
 ·have := put_grow A D N2 zs (by rw [hD, h2]; omega)
  rw [hA, hD, h2] at this
  rw [show i1 * 2 = i * 2 + 2 by omega, show (n + 1) * 2 = i * 2 + 2 + (n - i) * 2 by omega]
  exact this
theorem insshift_row {w3 : World} {t : TypeId} {b0 g n i i1 c : Nat} {A D R N2 : List Value} (hb0 : b0 ≤ g) (hA : A.length = i * 2) (hD : D.length = (n - i) * 2) (hi : i < n) (hi1 : i + 1 = i1) (hc : n + 1 ≤ c) (hcm : c ≤ maxLen) (hl : (A ++ D ++ R).length = c * 2) (h2 : N2.length = 2)
  (hobj : w3.heap[g]? = some (.cells (putC (putC (A ++ D ++ R) (i1 * 2) D) (i * 2) N2).toArray t (0, 0))) : w3.ownsRow b0 t 2 (.slice (some ⟨g, 0, none⟩) (n + 1) c) (n + 1) (A ++ N2 ++ D) := by
 have hl' := hl
 rw [List.length_append, List.length_append, hA, hD] at hl'
 have hp1 : (putC (A ++ D ++ R) (i1 * 2) D).length = c * 2 := by rw [putC_length (by rw [hl, hD]; omega), hl]
 have hp2 : (putC (putC (A ++ D ++ R) (i1 * 2) D) (i * 2) N2).length = c * 2 := by rw [putC_length (by rw [hp1, h2]; omega), hp1]
 refine ⟨?_, .inr ⟨g, c, _, rfl, hb0, hobj, hc, hcm, by rw [List.size_toArray, hp2], ?_⟩⟩
 ·rw [List.length_append, List.length_append, hA, hD, h2]
  omega
 ·have := put_shift A D N2 R (by rw [h2]; omega)
  rw [hA, hD, h2] at this
  rw [show i1 * 2 = i * 2 + 2 by omega, show (n + 1) * 2 = i * 2 + 2 + (n - i) * 2 by omega]
  exact this
set_option maxHeartbeats 4000000 in
set_option maxRecDepth 100000 in
theorem ins_grow (b0 g : Nat) (n i : Nat) (A D L : List Value) (x : Att) (u : Value) (vb : Nat) (w : World) (hb0 : b0 ≤ w.heap.size) (hA : A.length = i * 2) (hD : D.length = (n - i) * 2) (hi : i < n) (hL : w.heap[g]? = some (.cells (A ++ D ++ L).toArray 72 (0, 0)))
  (h1 : ∀ q ∈ D, q.oneCell' = true) (hn : n ≤ 1000) (hvb : w.heap[vb]? = some (.cells #[.string x.name, u] 72)) (hu : u.oneCell' = true) :
  Calls Tryz.prog 52 #[.slice (some ⟨g, 0, none⟩) n n, .int .i64 i, .slice (some ⟨vb, 0, none⟩) 1 1] w (InsPost b0 (.slice (some ⟨g, 0, none⟩) n n) n (A ++ [.string x.name, u] ++ D) w) := by
 obtain ⟨e0, he, hz0, hz1, hz2⟩ := info_parts infoAtt
 have HL := Aside0.mk hL
 have HV := Aside0.mk hvb
 have hgl := lt_of_obj hL
 have hvl := lt_of_obj hvb
 have hcut := cut_at (some ⟨g, 0, none⟩) n n i (by omega)
 rw [if_neg (by omega)] at hcut
 have hup := cut_up (some ⟨g, 0, none⟩) n n i (by omega)
 have hni : ¬ ((i : Int) = (n : Int)) := by omega
 have hnn : (n : Int) < (n : Int) + 1 := by omega
 have hk : (n : Int) + 1 - (i : Int) = ((n + 1 - i : Nat) : Int) := by omega
 have hkk : i + (n + 1 - i) = n + 1 := by omega
 obtain ⟨k, hk0⟩ : ∃ k, n + 1 - i = k := ⟨_, rfl⟩
 rw [hk0] at hk hkk
 have hk1 : 0 < k := by omega
 have HS := Aside0.mk (And.intro hb0 (And.intro hgl hvl))
 obtain ⟨i1, hi1e⟩ : ∃ i1, i + 1 = i1 := ⟨_, rfl⟩
 have HP := Aside0.mk (And.intro hA (And.intro hD (And.intro hi (And.intro hi1e hkk))))
 have hi1 : (i : Int) + 1 = (i1 : Int) := by omega
 have hi1n : i1 ≤ n := by omega
 have hi1w : (i1 : Int) ≤ (n : Int) + 1 := by omega
 clear hL hvb hgl hvl hb0
 go_enter Tryz.func52, Tryz.ntmps52
 have hc1 : ∀ j q, A[j]? = some q → w.cell? ⟨g, j, none⟩ = some q := by
  intro j q hj
  rw [cell_of_obj HL.out, List.append_assoc, List.getElem?_append_left (List.getElem?_eq_some_iff.1 hj).1]
  exact hj
 have hc2 := two_one x hu
 have hsz2 : (Tryz.prog.info? 72).map (·.size) = some 2 := by rw [he]; simp [hz1]
 have hmin : Nat.min 1 k = 1 := Nat.min_eq_left hk1
 go_upto_region 10 with (at_builtin; go_loud (refine wpList_plain rfl fun K hK => ?_; refine wp_append_zerosE (.tmp 34) (.tmp 39) 29 3 72 rfl e0 (.agg #[.string ⟨#[]⟩, .slice none 0 0]) .i64 Tryz.underlying29 Tryz.underlying3 he hz0 2 40 hz1 hz2 rfl (by decide) g i n k A rfl ?c2 hA hc1 hk1 (by omega) (by omega) (by decide) (by omega) ?_; (case c2 => (go_simp; done)); intro w1 G zs a1 a2 a3 a4 a5 a6; refine hK _ _ ?_; have HGM := Aside0.mk a4; have HG := Aside0.mk (And.intro a1 (And.intro a2 (And.intro a3 (And.intro a5 a6)))); clear a1 a2 a4 a5 a6 hK K))
 have hcut3 := cut_at (some ⟨w.heap.size, 0, none⟩) (n + 1) G i (by omega)
 rw [if_neg (by omega)] at hcut3
 have hcut4 := cut_at (some ⟨w.heap.size, 0, none⟩) (n + 1) G i1 (by omega)
 rw [if_neg (by omega)] at hcut4
 have hb1 := HG.out.2.2.2.1
 have hv1 : w1.heap[vb]? = some (.cells #[.string x.name, u] 72) := (hb1.block vb HS.out.2.2).trans HV.out
 have hg1 : w1.heap[g]? = some (.cells (A ++ D ++ L).toArray 72 (0, 0)) := (hb1.block g HS.out.2.1).trans HL.out
 have hnk : n + 1 - i = k := hk0
 obtain ⟨w2, hr2, a1, a2, a3⟩ := run_copyE (P := Tryz.prog) (w := w1) 29 72 3 2 Tryz.underlying29 hsz2 w.heap.size (i * 2) k (G - i) ⟨vb, 0, none⟩ 1 1 (A ++ zs) [.string x.name, u] 72 HG.out.1 1 hmin rfl (two_at hv1) (by rw [HG.out.2.1]; simp only [List.length_cons, List.length_nil]; omega) hc2
 have hg2 : w2.heap[g]? = some (.cells (A ++ D ++ L).toArray 72 (0, 0)) := a2.obj hg1 (Nat.ne_of_lt HS.out.2.1)
 have hpl : (putC (A ++ zs) (i * 2) [Value.string x.name, u]).length = G * 2 := by rw [putC_length (by rw [HG.out.2.1]; simp only [List.length_cons, List.length_nil]; omega), HG.out.2.1]
 have hD2 : ∀ (W : World), W.heap[g]? = some (.cells (A ++ D ++ L).toArray 72 (0, 0)) → ∀ j q, D[j]? = some q → W.cell? ((⟨g, i * 2, none⟩ : Addr).add j) = some q := fun W hW j q hj => by
  rw [show (⟨g, i * 2, none⟩ : Addr).add j = ⟨g, i * 2 + j, none⟩ by unfold Addr.add; split <;> simp_all, cell_of_obj hW, List.append_assoc, List.getElem?_append_right (by omega), hA, show i * 2 + j - i * 2 = j by omega, List.getElem?_append_left (List.getElem?_eq_some_iff.1 hj).1]
  exact hj
 obtain ⟨w3, hr3, d1, d2, d3⟩ := run_copyE (P := Tryz.prog) (w := w2.drew) 29 72 3 2 Tryz.underlying29 hsz2 w.heap.size (i1 * 2) (n + 1 - i1) (G - i1) ⟨g, i * 2, none⟩ (n - i) (n - i) (putC (A ++ zs) (i * 2) [Value.string x.name, u]) D 72 a1 (n - i) (by rw [show n + 1 - i1 = n - i by omega]; exact Nat.min_self _) hD (hD2 _ hg2) (by rw [hpl, hD]; omega) h1
 have HW := Aside0.mk (And.intro a2 (And.intro a3 (And.intro d1 (And.intro d2 d3))))
 clear a1 a2 a3 d1 d2 d3 hv1 hg1 hg2 hb1
 go_upto_region 11 with fail
 have hcut4' : ∀ W : World, (Instr.slice 29 (.slice (some ⟨w.heap.size, 0, none⟩) (n + 1) G) (some (.int .i64 ((i : Int) + 1))) none none).run Tryz.prog W = .ok (.slice (some ⟨w.heap.size, i1 * 2, none⟩) (n + 1 - i1) (G - i1)) W := fun W => by
  rw [hi1, hcut4]
  simp [add_plain]
 have hw1 : wrap64 ((i : Int) + 1) = (i : Int) + 1 := by unfold wrap64; omega
 clear hi1
 refine wp_region_in [0, 0, 0, 0, 0, 0, 0, 0, 2] [] (fun _ => True) (by kernel_rfl) rfl (by kernel_rfl) (fun _ _ _ _ h => h) trivial ?_
 iterate 8 (first
  | (refine in_off0 (by rfl) ?_; simp only [Act.put, stA, stZ, stS, i64_w, i32_w])
  | (refine in_off1 (by rfl) ?_; simp only [Act.put, stA, stZ, stS, i64_w, i32_w])
  | (refine in_0 (v := ?_) (by rfl) rfl ?_ (a' := ?_) ?_ ?_; rotate_left; (intro w'; go_simp; with_reducible rfl); rotate_left; (simp only [Act.put, stA, stZ, stS, i64_w, i32_w]; rfl))
  | (refine in_1 (v := ?_) (by rfl) rfl ?_ (a' := ?_) ?_ ?_; rotate_left; (rintro w' hs; go_split_ands; go_simp; with_reducible rfl); rotate_left; (simp only [Act.put, stA, stZ, stS, i64_w, i32_w]; rfl)))
 refine in_2 (by rfl) (fun K hK => ?_)
 unfold Oper.wp execOp
 go_simp
 refine hK _ _ trivial ?_
 clear hK K
 refine in_nil ?_
 go_wp2
 go_ret
 exact ⟨_, rfl, insgrow_row HS.out.1 HP.out.1 HP.out.2.1 HP.out.2.2.1 HP.out.2.2.2.1 HP.out.2.2.2.2 HG.out.2.2.1 HGM.out HG.out.2.1 rfl HW.out.2.2.1, Mod.trans (Mod.of_below HG.out.2.2.2.1 _) (Mod.trans HW.out.1 (Mod.trans ((Mod.refl _ _).drew) HW.out.2.2.2.1 (fun k _ h => h)) (fun k _ h => h)) (fun k hk h => absurd h (Nat.ne_of_lt hk))⟩
set_option maxHeartbeats 4000000 in
set_option maxRecDepth 100000 in
theorem ins_shift (b0 g : Nat) (n i c : Nat) (A D R : List Value) (x : Att) (u : Value) (vb : Nat) (w : World) (hb0 : b0 ≤ g) (hA : A.length = i * 2) (hD : D.length = (n - i) * 2) (hi : i < n) (hc : n + 1 ≤ c) (hcm : c ≤ maxLen) (hl : (A ++ D ++ R).length = c * 2) (hL : w.heap[g]? = some (.cells (A ++ D ++ R).toArray 72 (0, 0)))
  (h1 : ∀ q ∈ D, q.oneCell' = true) (hn : n ≤ 1000) (hvb : w.heap[vb]? = some (.cells #[.string x.name, u] 72)) (hne : vb ≠ g) (hu : u.oneCell' = true) :
  Calls Tryz.prog 52 #[.slice (some ⟨g, 0, none⟩) n c, .int .i64 i, .slice (some ⟨vb, 0, none⟩) 1 1] w (InsPost b0 (.slice (some ⟨g, 0, none⟩) n c) n (A ++ [.string x.name, u] ++ D) w) := by
 obtain ⟨e0, he, hz0, hz1, hz2⟩ := info_parts infoAtt
 have hsz2 : (Tryz.prog.info? 72).map (·.size) = some 2 := by rw [he]; simp [hz1]
 obtain ⟨i1, hi1e⟩ : ∃ i1, i + 1 = i1 := ⟨_, rfl⟩
 have HP := Aside0.mk (And.intro hA (And.intro hD (And.intro hi (And.intro hi1e (And.intro hc (And.intro hcm hl))))))
 simp only [maxLen] at hcm
 have hc2 := two_one x hu
 have hv0 := two_at hvb
 have hcut := cut_at (some ⟨g, 0, none⟩) n c i (by omega)
 rw [if_neg (by omega)] at hcut
 have hup := cut_up (some ⟨g, 0, none⟩) n c (n + 1) (by omega)
 have hcut3 := cut_at (some ⟨g, 0, none⟩) (n + 1) c i (by omega)
 rw [if_neg (by omega)] at hcut3
 have hcut4 : ∀ W : World, (Instr.slice 29 (.slice (some ⟨g, 0, none⟩) (n + 1) c) (some (.int .i64 ((i : Int) + 1))) none none).run Tryz.prog W = .ok (.slice (some ⟨g, i1 * 2, none⟩) (n + 1 - i1) (c - i1)) W := fun W => by
  have := cut_at (some ⟨g, 0, none⟩) (n + 1) c i1 (by omega) W
  rw [if_neg (by omega)] at this
  rw [show (i : Int) + 1 = (i1 : Int) by omega, this]
  simp [add_plain]
 have hup' : ∀ W : World, (Instr.slice 29 (.slice (some ⟨g, 0, none⟩) n c) none (some (.int .i64 ((n : Int) + 1))) none).run Tryz.prog W = .ok (.slice (some ⟨g, 0, none⟩) (n + 1) c) W := fun W => by
  rw [show (n : Int) + 1 = ((n + 1 : Nat) : Int) by omega, hup]
 have hov : ∀ lb cb, (callFunc 121 #[.slice (some ⟨vb, 0, none⟩) 1 1, .slice (some ⟨g, i1 * 2, none⟩) lb cb]).run Tryz.prog w = .ok (.value (.bool false)) w := fun lb cb => by
  rw [run_callFunc_extern Tryz.func121 (by kernel_rfl) (by kernel_rfl) (by kernel_rfl) (e := Extern.SlicesOverlaps.overlaps #[29, 29] #[4]) (by kernel_rfl),
   Lib.run_overlaps_apart w 29 4 72 Tryz.underlying29 2 szAtt ⟨vb, 0, none⟩ ⟨g, i1 * 2, none⟩ 1 1 lb cb hne 72 72 2 (c * 2) (by simp [World.shape?, hvb]) (by simp only [World.shape?, hL, ← hl]; simp) (by omega) (by simp [World.frozen?, hvb]) (by simp [World.frozen?, hvb])]
  rfl
 have hD2 : ∀ j q, D[j]? = some q → w.drew.cell? ((⟨g, i * 2, none⟩ : Addr).add j) = some q := fun j q hj => by
  rw [show (⟨g, i * 2, none⟩ : Addr).add j = ⟨g, i * 2 + j, none⟩ by unfold Addr.add; split <;> simp_all, cell_of_obj (w := w.drew) hL, List.append_assoc, List.getElem?_append_right (by omega), hA, show i * 2 + j - i * 2 = j by omega, List.getElem?_append_left (List.getElem?_eq_some_iff.1 hj).1]
  exact hj
 obtain ⟨w2, hr2, a1, a2, a3⟩ := run_copyE (P := Tryz.prog) (w := w.drew) 29 72 3 2 Tryz.underlying29 hsz2 g (i1 * 2) (n + 1 - i1) (c - i1) ⟨g, i * 2, none⟩ (n + 1 - i) (c - i) (A ++ D ++ R) D 72 hL (n - i) (by simp only [Nat.min_def]; split <;> omega) hD hD2 (by rw [hl, hD]; omega) h1
 have hpl : (putC (A ++ D ++ R) (i1 * 2) D).length = c * 2 := by rw [putC_length (by rw [hl, hD]; omega), hl]
 have hv2 : w2.heap[vb]? = some (.cells #[.string x.name, u] 72) := a2.obj (w := w.drew) hvb hne
 obtain ⟨w3, hr3, d1, d2, d3⟩ := run_copyE (P := Tryz.prog) (w := w2) 29 72 3 2 Tryz.underlying29 hsz2 g (i * 2) (n + 1 - i) (c - i) ⟨vb, 0, none⟩ 1 1 (putC (A ++ D ++ R) (i1 * 2) D) [.string x.name, u] 72 a1 1 (Nat.min_eq_left (by omega)) rfl (two_at hv2) (by rw [hpl]; simp only [List.length_cons, List.length_nil]; omega) hc2
 have HW := Aside0.mk (And.intro a2 (And.intro d1 (And.intro d2 hb0)))
 have hni : ¬ ((i : Int) = (n : Int)) := by omega
 have hroom : ¬ ((c : Int) < (n : Int) + 1) := by omega
 have hii : (i : Int) ≤ (n : Int) := by omega
 have hc63 : c ≤ 9223372036854775807 := by omega
 obtain ⟨cs, hcs⟩ : ∃ cs, A ++ [Value.string x.name, u] ++ D = cs := ⟨_, rfl⟩
 rw [hcs]
 have HC := Aside0.mk hcs
 clear hcs
 clear a1 a2 a3 d1 d2 d3 hL hvb hv2 hpl hl hD2 hv0 hc2 hup h1 hA hD hb0
 go_enter Tryz.func52, Tryz.ntmps52
 go_upto_region 14 with fail
 go_upto_region 15 with (simp only [hov])
 have hw1 : wrap64 ((i : Int) + 1) = (i : Int) + 1 := by unfold wrap64; omega
 refine wp_region_in [0, 0, 0, 0, 0, 0, 0, 0, 2] [] (fun _ => True) (by kernel_rfl) rfl (by kernel_rfl) (fun _ _ _ _ h => h) trivial ?_
 iterate 8 (first
  | (refine in_off0 (by rfl) ?_; simp only [Act.put, stA, stZ, stS, i64_w, i32_w])
  | (refine in_off1 (by rfl) ?_; simp only [Act.put, stA, stZ, stS, i64_w, i32_w])
  | (refine in_0 (v := ?_) (by rfl) rfl ?_ (a' := ?_) ?_ ?_; rotate_left; (intro w'; go_simp; with_reducible rfl); rotate_left; (simp only [Act.put, stA, stZ, stS, i64_w, i32_w]; rfl))
  | (refine in_1 (v := ?_) (by rfl) rfl ?_ (a' := ?_) ?_ ?_; rotate_left; (rintro w' hs; go_split_ands; go_simp; with_reducible rfl); rotate_left; (simp only [Act.put, stA, stZ, stS, i64_w, i32_w]; rfl)))
 refine in_2 (by rfl) (fun K hK => ?_)
 unfold Oper.wp execOp
 go_simp
 refine hK _ _ trivial ?_
 clear hK K hw1
 refine in_nil ?_
 go_wp2
 go_ret
 exact ⟨_, rfl, HC.out ▸ insshift_row HW.out.2.2.2 HP.out.1 HP.out.2.1 HP.out.2.2.1 HP.out.2.2.2.1 HP.out.2.2.2.2.1 HP.out.2.2.2.2.2.1 HP.out.2.2.2.2.2.2 rfl HW.out.2.1, Mod.trans ((Mod.refl _ _).drew) (Mod.trans HW.out.1 HW.out.2.2.1 (fun k _ h => h)) (fun k _ h => by rw [h]; rfl)⟩
theorem own_one {w : World} {b e : Nat} {k : IntKind} {v : Value} {l : List Int} (h : Own w b e k v l) : v.oneCell' = true := by
 obtain ⟨A, c, rfl, _⟩ := h.reads
 rfl
theorem acells_one : ∀ (l : List Att) (vs : List Value), (∀ v ∈ vs, v.oneCell' = true) → ∀ q ∈ acells l vs, q.oneCell' = true := by
 intro l vs h q hq
 unfold acells at hq
 obtain ⟨p, hp, hq⟩ := List.mem_flatMap.1 hq
 simp only [List.mem_cons, List.not_mem_nil, or_false] at hq
 rcases hq with rfl | rfl
 ·rfl
 ·exact h _ (List.of_mem_zip hp).2
theorem vals_one {w : World} {b : Nat} {l : List Att} {vs : List Value} (hv : vs.length = l.length) (h : ∀ j, j < l.length → Own w b 5 .u8 (vs.getD j undef) (attAt l j).val ∧ allB (attAt l j).val) : ∀ v ∈ vs, v.oneCell' = true := by
 intro v hm
 obtain ⟨j, hj, rfl⟩ := List.getElem_of_mem hm
 have := own_one (h j (by omega)).1
 simpa [List.getD_eq_getElem?_getD, hj] using this
theorem insL_get {α : Type} (l : List α) (i : Nat) (x d : α) (j : Nat) (hi : i ≤ l.length) : (insL l i x).getD j d = if j < i then l.getD j d else if j = i then x else l.getD (j - 1) d := by
 unfold insL
 have hk : (l.take i).length = i := by rw [List.length_take]; omega
 simp only [List.getD_eq_getElem?_getD]
 by_cases h1 : j < i
 ·rw [if_pos h1, List.getElem?_append_left (by omega), List.getElem?_take, if_pos h1]
 ·rw [if_neg h1, List.getElem?_append_right (by omega), hk]
  by_cases h2 : j = i
  ·rw [if_pos h2, h2, Nat.sub_self]
   rfl
  ·rw [if_neg h2, show j - i = (j - 1 - i) + 1 by omega, List.getElem?_cons_succ, List.getElem?_drop]
   congr 2
   omega
theorem ins_own {w w1 : World} {b0 : Nat} {v v1 vx : Value} {l : List Att} {vs : List Value} {x : Att} {i : Nat} (hv : vs.length = l.length) (hrow : w.ownsRow b0 72 2 v l.length (acells l vs)) (hvals : ∀ j, j < l.length → Own w b0 5 .u8 (vs.getD j undef) (attAt l j).val ∧ allB (attAt l j).val)
  (hx : Own w b0 5 .u8 vx x.val) (hxb : allB x.val) (hi : i ≤ l.length) (hm : Mod w w1 (fun k => v.ownBlock = some k)) (h1 : w1.ownsRow b0 72 2 v1 (l.length + 1) (acells (insL l i x) (insL vs i vx))) : OwnA w1 b0 v1 (insL l i x) := by
 have hne : (72 : TypeId) ≠ 5 := by decide
 have hk : ∀ {u : Value} {z : List Int}, Own w b0 5 .u8 u z → Own w1 b0 5 .u8 u z := fun hu => own_mod hu hm (fun g hg' e => own_ne hrow hu hne g e hg')
 refine ⟨insL vs i vx, by rw [insL_length, insL_length, hv], by rw [insL_length]; exact h1, fun j hj => ?_⟩
 rw [insL_length] at hj
 have e2 : attAt (insL l i x) j = if j < i then attAt l j else if j = i then x else attAt l (j - 1) := insL_get l i x _ j hi
 rw [insL_get vs i vx _ j (by omega), e2]
 by_cases a1 : j < i
 ·rw [if_pos a1, if_pos a1]
  exact ⟨hk (hvals j (by omega)).1, (hvals j (by omega)).2⟩
 ·rw [if_neg a1, if_neg a1]
  by_cases a2 : j = i
  ·rw [if_pos a2, if_pos a2]
   exact ⟨hk hx, hxb⟩
  ·rw [if_neg a2, if_neg a2]
   exact ⟨hk (hvals (j - 1) (by omega)).1, (hvals (j - 1) (by omega)).2⟩
def InsertPost (b0 : Nat) (v : Value) (l : List Att) (w : World) (e : Ending) (w' : World) : Prop :=
 ∃ v', e = .returned v' ∧ OwnA w' b0 v' l ∧ Mod w w' (fun k => v.ownBlock = some k)
theorem insert_calls {w : World} {b0 : Nat} {v vx : Value} {l : List Att} {x : Att} {i vb : Nat} (h : OwnA w b0 v l) (hx : Own w b0 5 .u8 vx x.val) (hxb : allB x.val) (hi : i ≤ l.length) (hl : l.length ≤ 1000) (hvb : w.heap[vb]? = some (.cells #[.string x.name, vx] 72)) (hvn : v.ownBlock ≠ some vb) (hb0 : b0 ≤ w.heap.size) :
  Calls Tryz.prog 52 #[v, .int .i64 i, .slice (some ⟨vb, 0, none⟩) 1 1] w (InsertPost b0 v (insL l i x) w) := by
 obtain ⟨vs, hv, hrow, hvals⟩ := h
 obtain ⟨n, hn⟩ : ∃ n, l.length = n := ⟨_, rfl⟩
 have hu := own_one hx
 obtain ⟨t1, t2, t3⟩ := acells_take l vs i hv hi
 have ti := acells_ins l vs i x vx hv
 have hfin : ∀ (e : Ending) (w1 : World), InsPost b0 v l.length (acells (insL l i x) (insL vs i vx)) w e w1 → InsertPost b0 v (insL l i x) w e w1 := by
  rintro e w1 ⟨v1, he, h1, hm⟩
  exact ⟨v1, he, ins_own hv hrow hvals hx hxb hi hm h1, hm⟩
 by_cases hin : i = l.length
 ·have hc := ins_end b0 v l.length (acells l vs) x vx vb w hrow hl hvb hu hb0
  rw [hin]
  refine hc.mono ?_
  intro e w1 h1
  rw [← hin]
  refine hfin e w1 ?_
  have e0 : acells (insL l i x) (insL vs i vx) = acells l vs ++ [.string x.name, vx] := by
   rw [ti, hin, List.take_length, List.drop_length, ← hv, List.take_length, List.drop_length]
   simp [acells]
  rw [e0]
  exact h1
 ·have hone : ∀ q ∈ acells (l.drop i) (vs.drop i), q.oneCell' = true := acells_one _ _ (fun v hm => vals_one hv hvals v (List.mem_of_mem_drop hm))
  rcases hrow.2 with ⟨rfl, h0⟩ | ⟨g, c, cur, rfl, hb, hh, hc, hcm, hsz, htk⟩
  ·omega
  ·have hcur : cur = (acells (l.take i) (vs.take i) ++ acells (l.drop i) (vs.drop i) ++ cur.toList.drop (l.length * 2)).toArray := by
    apply Array.ext'
    rw [← t1, ← htk]
    simp
   have hL : w.heap[g]? = some (.cells (acells (l.take i) (vs.take i) ++ acells (l.drop i) (vs.drop i) ++ cur.toList.drop (l.length * 2)).toArray 72 (0, 0)) := by rw [← hcur]; exact hh
   have hne : vb ≠ g := fun e => hvn (by rw [e]; rfl)
   by_cases hcn : c = l.length
   ·subst hcn
    refine (ins_grow b0 g l.length i _ _ _ x vx vb w hb0 t2 t3 (by omega) hL hone hl hvb hu).mono ?_
    intro e w1 h1
    refine hfin e w1 ?_
    rw [ti]
    exact h1
   ·refine (ins_shift b0 g l.length i c _ _ _ x vx vb w hb t2 t3 (by omega) (by omega) hcm ?_ hL hone hl hvb hne hu).mono ?_
    ·rw [← hsz]
     conv => rhs; rw [hcur]
     rw [List.size_toArray]
    ·intro e w1 h1
     refine hfin e w1 ?_
     rw [ti]
     exact h1
section
variable {P : Program} {w : World} {o : Oper} {a : Act} {K : Act → World → Prop} {Q : Exit → Act → World → Prop}
theorem wp_append_roomE (s x : Operand) (t e : TypeId) (ho : o.op = .call { callee := .builtin .append, args := #[s, x], argTypes := #[t, t] }) (i : TypeInfo) (sz : Nat) (ht : P.underlying t = some (.slice e)) (hi : P.info? e = some i) (hs1 : i.size = sz)
  (b n cap : Nat) (hs : a.eval s = .slice (some ⟨b, 0, none⟩) n cap) (ad : Addr) (m c : Nat) (L news : List Value) (te : TypeId) (hx : a.eval x = .slice (some ad) m c)
  (hL : w.heap[b]? = some (.cells L.toArray te (0, 0))) (hn : news.length = m * sz) (hsrc : ∀ j u, news[j]? = some u → w.cell? (ad.add j) = some u) (h1 : ∀ u ∈ news, u.oneCell' = true) (hroom : n + m ≤ cap) (hfit : n * sz + news.length ≤ L.length)
  (h : ∀ w1, w1.heap[b]? = some (.cells (putC L (n * sz) news).toArray te (0, 0)) → Mod w w1 (· = b) → w1.heap.size = w.heap.size → K (a.put o.dst (.slice (some ⟨b, 0, none⟩) (n + m) cap)) w1) : o.wp P a w K Q := by
 have hcl : ∀ j, j < news.length → (w.cell? ⟨b, 0 + n * i.size + j, none⟩).isSome = true := fun j hj => by rw [cell_of_obj hL, List.getElem?_eq_getElem (by rw [hs1]; omega)]; rfl
 have hrun := run_append_room_cells (P := P) w t o.type e i ht hi b 0 n cap ad m c news (by rw [hs1]; exact hn) hsrc h1 hroom hcl (fun j _ => free_of_obj hL _)
 rw [hs1, Nat.zero_add] at hrun
 unfold Oper.wp execOp
 simp only [ho, resolve, invoke, builtin, Sem.run_bind, Sem.run_pure, Result.andThen_ok, List.map_toArray, List.map_cons, List.map_nil, hs, hx, hrun]
 exact h _ (setCells_obj b te news _ L w hL hfit) (setCells_mod b news _ w w (Mod.refl _ _)) (setCells_size b news _ w)
theorem run_clearE (t e ty : TypeId) (z : Value) (sz : Nat) (ht : P.underlying t = some (.slice e)) (hv : ∀ w, (zeroValue e).run P w = .ok z w) (hz : z.cells.size = sz) (h1 : ∀ q ∈ z.cells.toList, q.oneCell' = true) (b o n c : Nat) (L : List Value) (te : TypeId) (hn : 0 < n) (hsz : 0 < sz)
  (hL : w.heap[b]? = some (.cells L.toArray te (0, 0))) (hfit : o + n * sz ≤ L.length) :
  ∃ w1 Z, (Builtin.clear_ #[t] ty #[.slice (some ⟨b, o, none⟩) n c]).run P w = .ok (.tuple #[]) w1 ∧ Z.length = n * sz ∧ w1.heap[b]? = some (.cells (putC L o Z).toArray te (0, 0)) ∧ Mod w w1 (· = b) ∧ w1.heap.size = w.heap.size := by
 have hzl : (Builtin.zeroCells z.cells n).toList.length = n * sz := by rw [← hz]; simp [Builtin.zeroCells]
 have hone : ∀ q ∈ (Builtin.zeroCells z.cells n).toList, q.oneCell' = true := by
  intro q hq
  rw [Array.mem_toList_iff] at hq
  unfold Builtin.zeroCells at hq
  obtain ⟨k, _, rfl⟩ := Array.mem_map.1 hq
  refine h1 _ ?_
  have : k % z.cells.size < z.cells.size := Nat.mod_lt _ (by omega)
  rw [getElem!_pos z.cells _ this]
  exact Array.getElem_mem_toList this
 have hst := run_storeCells_cells (P := P) b o (Builtin.zeroCells z.cells n).toList 0 w (fun j hj => by rw [cell_of_obj hL, List.getElem?_eq_getElem (by omega)]; rfl) (fun j _ => free_of_obj hL _) hone
 simp only [Nat.add_zero] at hst
 obtain ⟨m, rfl⟩ : ∃ m, n = m + 1 := ⟨n - 1, by omega⟩
 exact ⟨_, _, by simp [Builtin.clear_, run_underlying ht, hv, hst], hzl, setCells_obj b te _ o L w hL (by omega), setCells_mod b _ o w w (Mod.refl _ _), setCells_size b _ o w⟩
end
def delL {α : Type} (l : List α) (i : Nat) : List α := l.take i ++ l.drop (i + 1)
theorem delL_length {α : Type} (l : List α) (i : Nat) (h : i < l.length) : (delL l i).length = l.length - 1 := by
 unfold delL
 simp only [List.length_append, List.length_take, List.length_drop]
 omega
theorem delL_get {α : Type} (l : List α) (i : Nat) (d : α) (j : Nat) (hi : i < l.length) : (delL l i).getD j d = if j < i then l.getD j d else l.getD (j + 1) d := by
 unfold delL
 have hk : (l.take i).length = i := by rw [List.length_take]; omega
 simp only [List.getD_eq_getElem?_getD]
 by_cases h1 : j < i
 ·rw [if_pos h1, List.getElem?_append_left (by omega), List.getElem?_take, if_pos h1]
 ·rw [if_neg h1, List.getElem?_append_right (by omega), hk, List.getElem?_drop]
  congr 2
  omega
theorem acells_del (l : List Att) (vs : List Value) (i : Nat) (h : vs.length = l.length) : acells (delL l i) (delL vs i) = acells (l.take i) (vs.take i) ++ acells (l.drop (i + 1)) (vs.drop (i + 1)) := by
 unfold delL
 rw [acells_append _ _ _ _ (by rw [List.length_take, List.length_take, h])]
theorem acells_mid (l : List Att) (vs : List Value) (i : Nat) (h : vs.length = l.length) (hi : i < l.length) : ∃ N : List Value, acells l vs = acells (l.take i) (vs.take i) ++ N ++ acells (l.drop (i + 1)) (vs.drop (i + 1)) ∧ (acells (l.take i) (vs.take i)).length = i * 2 ∧ N.length = 2 ∧ (acells (l.drop (i + 1)) (vs.drop (i + 1))).length = (l.length - (i + 1)) * 2 := by
 obtain ⟨a1, a2, a3⟩ := acells_take l vs i h (by omega)
 obtain ⟨b1, b2, b3⟩ := acells_take (l.drop i) (vs.drop i) 1 (by rw [List.length_drop, List.length_drop, h]) (by rw [List.length_drop]; omega)
 rw [List.drop_drop, List.drop_drop] at b1 b3
 refine ⟨_, by rw [a1, b1, List.append_assoc], a2, b2, ?_⟩
 rw [b3, List.length_drop]
 omega
theorem put_del (A N D R Z : List Value) (hZ : Z.length = N.length) : (putC (putC (A ++ N ++ D ++ R) A.length D) (A.length + D.length) Z).take (A.length + D.length) = A ++ D := by
 have h1 : A.length + D.length ≤ (A ++ N ++ D ++ R).length := by simp only [List.length_append]; omega
 have h2 : A.length + D.length + Z.length ≤ (putC (A ++ N ++ D ++ R) A.length D).length := by rw [putC_length h1]; simp only [List.length_append]; omega
 apply List.ext_getElem?
 intro j
 rw [List.getElem?_take]
 by_cases hj : j < A.length + D.length
 ·rw [if_pos hj, putC_get h2, if_pos hj, putC_get h1]
  by_cases a1 : j < A.length
  ·rw [if_pos a1, List.append_assoc, List.append_assoc, List.getElem?_append_left a1, List.getElem?_append_left a1]
  ·rw [if_neg a1, if_pos hj, List.getElem?_append_right (by omega)]
 ·rw [if_neg hj, List.getElem?_eq_none (by simp only [List.length_append]; omega)]
theorem del_row {w3 : World} {t : TypeId} {b0 g n i c : Nat} {A N D R Z : List Value} (hb0 : b0 ≤ g) (hA : A.length = i * 2) (hN : N.length = 2) (hD : D.length = (n - (i + 1)) * 2) (hi : i < n) (hc : n ≤ c) (hcm : c ≤ maxLen) (hl : (A ++ N ++ D ++ R).length = c * 2) (hZ : Z.length = 2)
  (hobj : w3.heap[g]? = some (.cells (putC (putC (A ++ N ++ D ++ R) (i * 2) D) ((n - 1) * 2) Z).toArray t (0, 0))) : w3.ownsRow b0 t 2 (.slice (some ⟨g, 0, none⟩) (n - 1) c) (n - 1) (A ++ D) := by
 have hl' := hl
 simp only [List.length_append, hA, hD, hN] at hl'
 have hp1 : (putC (A ++ N ++ D ++ R) (i * 2) D).length = c * 2 := by rw [putC_length (by rw [hl, hD]; omega), hl]
 have hp2 : (putC (putC (A ++ N ++ D ++ R) (i * 2) D) ((n - 1) * 2) Z).length = c * 2 := by rw [putC_length (by rw [hp1, hZ]; omega), hp1]
 refine ⟨?_, .inr ⟨g, c, _, rfl, hb0, hobj, by omega, hcm, by rw [List.size_toArray, hp2], ?_⟩⟩
 ·rw [List.length_append, hA, hD]
  omega
 ·have := put_del A N D R Z (by rw [hZ, hN])
  rw [hA, hD] at this
  rw [show (n - 1) * 2 = i * 2 + (n - (i + 1)) * 2 by omega]
  exact this
theorem del_own {w w1 : World} {b0 : Nat} {v v1 : Value} {l : List Att} {vs : List Value} {i : Nat} (hv : vs.length = l.length) (hrow : w.ownsRow b0 72 2 v l.length (acells l vs)) (hvals : ∀ j, j < l.length → Own w b0 5 .u8 (vs.getD j undef) (attAt l j).val ∧ allB (attAt l j).val)
  (hi : i < l.length) (hm : Mod w w1 (fun k => v.ownBlock = some k)) (h1 : w1.ownsRow b0 72 2 v1 (l.length - 1) (acells (delL l i) (delL vs i))) : OwnA w1 b0 v1 (delL l i) := by
 have hne : (72 : TypeId) ≠ 5 := by decide
 have hk : ∀ {u : Value} {z : List Int}, Own w b0 5 .u8 u z → Own w1 b0 5 .u8 u z := fun hu => own_mod hu hm (fun g hg' e => own_ne hrow hu hne g e hg')
 refine ⟨delL vs i, by rw [delL_length _ _ hi, delL_length _ _ (by omega), hv], by rw [delL_length _ _ hi]; exact h1, fun j hj => ?_⟩
 rw [delL_length _ _ hi] at hj
 have e2 : attAt (delL l i) j = if j < i then attAt l j else attAt l (j + 1) := delL_get l i _ j hi
 rw [delL_get vs i _ j (by omega), e2]
 by_cases a1 : j < i
 ·rw [if_pos a1, if_pos a1]
  exact ⟨hk (hvals j (by omega)).1, (hvals j (by omega)).2⟩
 ·rw [if_neg a1, if_neg a1]
  exact ⟨hk (hvals (j + 1) (by omega)).1, (hvals (j + 1) (by omega)).2⟩
theorem set_own {w w1 : World} {b0 : Nat} {v vx : Value} {l : List Att} {vs : List Value} {x : Att} {i : Nat} (hv : vs.length = l.length) (hrow : w.ownsRow b0 72 2 v l.length (acells l vs)) (hvals : ∀ j, j < l.length → Own w b0 5 .u8 (vs.getD j undef) (attAt l j).val ∧ allB (attAt l j).val)
  (hx : Own w b0 5 .u8 vx x.val) (hxb : allB x.val) (hi : i < l.length) (hm : Mod w w1 (fun k => v.ownBlock = some k)) (h1 : w1.ownsRow b0 72 2 v l.length (acells (l.set i x) (vs.set i vx))) : OwnA w1 b0 v (l.set i x) := by
 have hne : (72 : TypeId) ≠ 5 := by decide
 have hk : ∀ {u : Value} {z : List Int}, Own w b0 5 .u8 u z → Own w1 b0 5 .u8 u z := fun hu => own_mod hu hm (fun g hg' e => own_ne hrow hu hne g e hg')
 refine ⟨vs.set i vx, by rw [List.length_set, List.length_set, hv], by rw [List.length_set]; exact h1, fun j hj => ?_⟩
 rw [List.length_set] at hj
 by_cases a : j = i
 ·subst a
  have e1 : (vs.set j vx).getD j undef = vx := by simp [List.getD_eq_getElem?_getD, hv, hj]
  have e2 : attAt (l.set j x) j = x := by simp [attAt, List.getD_eq_getElem?_getD, hj]
  rw [e1, e2]
  exact ⟨hk hx, hxb⟩
 ·have e1 : (vs.set i vx).getD j undef = vs.getD j undef := by simp [List.getD_eq_getElem?_getD, List.getElem?_set_ne (Ne.symm a)]
  have e2 : attAt (l.set i x) j = attAt l j := by simp [attAt, List.getD_eq_getElem?_getD, List.getElem?_set_ne (Ne.symm a)]
  rw [e1, e2]
  exact ⟨hk (hvals j hj).1, (hvals j hj).2⟩
theorem acells_set (l : List Att) (vs : List Value) (i : Nat) (x : Att) (u : Value) (h : vs.length = l.length) (hi : i < l.length) : acells (l.set i x) (vs.set i u) = ((acells l vs).set (i * 2) (.string x.name)).set (i * 2 + 1) u := by
 apply List.ext_getElem?
 intro j
 have hl1 : (acells (l.set i x) (vs.set i u)).length = l.length * 2 := by rw [acells_length _ _ (by simpa using h)]; simp
 have hl2 := acells_length l vs h
 by_cases hj : j < l.length * 2
 ·obtain ⟨k, hk⟩ : ∃ k, k = j / 2 := ⟨_, rfl⟩
  have a1 := acells_at (l.set i x) (vs.set i u) k (by rw [List.length_set]; omega) (by simpa using h)
  have a2 := acells_at l vs k (by omega) h
  by_cases hki : k = i
  ·subst hki
   have e1 : (vs.set k u).getD k undef = u := by simp [List.getD_eq_getElem?_getD, h, hi]
   have e2 : attAt (l.set k x) k = x := by simp [attAt, List.getD_eq_getElem?_getD, hi]
   rw [e1, e2] at a1
   by_cases hp : j = k * 2
   ·subst hp
    rw [a1.1, List.getElem?_set_ne (by omega), List.getElem?_set_self (by omega)]
   ·obtain rfl : j = k * 2 + 1 := by omega
    rw [a1.2, List.getElem?_set_self (by rw [List.length_set]; omega)]
  ·have e1 : (vs.set i u).getD k undef = vs.getD k undef := by simp [List.getD_eq_getElem?_getD, List.getElem?_set_ne (Ne.symm hki)]
   have e2 : attAt (l.set i x) k = attAt l k := by simp [attAt, List.getD_eq_getElem?_getD, List.getElem?_set_ne (Ne.symm hki)]
   rw [e1, e2, ] at a1
   rw [List.getElem?_set_ne (by omega), List.getElem?_set_ne (by omega)]
   by_cases hp : j = k * 2
   ·subst hp
    rw [a1.1, a2.1]
   ·obtain rfl : j = k * 2 + 1 := by omega
    rw [a1.2, a2.2]
 ·rw [List.getElem?_eq_none (by omega), List.getElem?_eq_none (by simp only [List.length_set]; omega)]
theorem own_setv {w : World} {base e sz g n c : Nat} {cs : List Value} (h : w.ownsRow base e sz (.slice (some ⟨g, 0, none⟩) n c) n cs) (j : Nat) (x : Value) : (w.setCell ⟨g, j, none⟩ x).ownsRow base e sz (.slice (some ⟨g, 0, none⟩) n c) n (cs.set j x) := by
 refine ⟨by rw [List.length_set]; exact h.1, ?_⟩
 rcases h.2 with ⟨h0, _⟩ | ⟨g', cap, cur, hv, hb, hh, h1, h2, h3, h4⟩
 ·cases h0
 ·cases hv
  refine .inr ⟨g, c, cur.setIfInBounds j x, rfl, hb, ?_, h1, h2, by simpa using h3, ?_⟩
  ·unfold World.setCell
   simp only [Array.getElem?_modify, if_true, hh, Option.map_some]
   simp
  ·rw [Array.toList_setIfInBounds, List.take_set, h4]
theorem cell_setCell_ne {w : World} {g j k : Nat} {x : Value} (h : j ≠ k) : (w.setCell ⟨g, j, none⟩ x).cell? ⟨g, k, none⟩ = w.cell? ⟨g, k, none⟩ := by
 simp only [World.cell?, World.setCell, Array.getElem?_modify, if_true]
 cases w.heap[g]? with
 | none => rfl
 | some o =>
  cases o <;> simp [Array.getElem?_setIfInBounds_ne h]
theorem frozen_setCell_ne {w : World} {g j k : Nat} {x : Value} : (w.setCell ⟨g, j, none⟩ x).frozen? ⟨g, k, none⟩ = w.frozen? ⟨g, k, none⟩ := by
 simp only [World.frozen?, World.setCell, Array.getElem?_modify, if_true]
 cases w.heap[g]? with
 | none => rfl
 | some o => cases o <;> rfl
theorem ownA_put {w : World} {b0 n c i : Nat} {A : Option Addr} {l : List Att} {x : Att} {vx : Value} (h : OwnA w b0 (.slice A n c) l) (hn : l.length = n) (hx : Own w b0 5 .u8 vx x.val) (hxb : allB x.val) (hi : i < l.length) :
  ∃ g, A = some ⟨g, 0, none⟩ ∧ (∃ z, w.cell? ⟨g, i * 2, none⟩ = some z) ∧ (∃ z, w.cell? ⟨g, i * 2 + 1, none⟩ = some z ∧ (w.setCell ⟨g, i * 2, none⟩ (.string x.name)).cell? ⟨g, i * 2 + 1, none⟩ = some z) ∧ w.frozen? ⟨g, i * 2, none⟩ = false ∧ (w.frozen? ⟨g, i * 2 + 1, none⟩ = false ∧ (w.setCell ⟨g, i * 2, none⟩ (.string x.name)).frozen? ⟨g, i * 2 + 1, none⟩ = false) ∧
   OwnA ((w.setCell ⟨g, i * 2, none⟩ (.string x.name)).setCell ⟨g, i * 2 + 1, none⟩ vx) b0 (.slice A n c) (l.set i x) ∧ Mod w ((w.setCell ⟨g, i * 2, none⟩ (.string x.name)).setCell ⟨g, i * 2 + 1, none⟩ vx) (fun k => g = k) := by
 obtain ⟨vs, hv, hrow, hvals⟩ := h
 have hrow0 := hrow
 rcases hrow.2 with ⟨e, h0⟩ | ⟨g, cap, cur, e, hb, hh, hc, hcm, hsz, htk⟩
 ·cases e
  omega
 ·cases e
  have hcell : ∀ j, w.cell? ⟨g, j, none⟩ = cur[j]? := fun j => by simp [World.cell?, hh]
  have hfz : ∀ j, w.frozen? ⟨g, j, none⟩ = false := fun j => by simp [World.frozen?, hh]
  have h1 : ∃ z, w.cell? ⟨g, i * 2, none⟩ = some z := ⟨_, by rw [hcell, Array.getElem?_eq_getElem (by omega)]⟩
  obtain ⟨z, h2⟩ : ∃ z, w.cell? ⟨g, i * 2 + 1, none⟩ = some z := ⟨_, by rw [hcell, Array.getElem?_eq_getElem (by omega)]⟩
  have hm : Mod w ((w.setCell ⟨g, i * 2, none⟩ (.string x.name)).setCell ⟨g, i * 2 + 1, none⟩ vx) (· = g) := ((Mod.refl w (· = g)).set_own _ _).set_own _ _
  refine ⟨g, rfl, h1, ⟨z, h2, by rw [cell_setCell_ne (by omega)]; exact h2⟩, hfz _, ⟨hfz _, by rw [frozen_setCell_ne]; exact hfz _⟩, ?_, hm.mono (fun k _ e => e.symm)⟩
  refine set_own hv hrow0 hvals hx hxb hi (hm.mono (fun k _ e => by rw [e]; rfl)) ?_
  rw [acells_set l vs i x vx hv hi]
  exact own_setv (own_setv hrow0 _ _) _ _
theorem seekI_lt {l : List Att} {nm : ByteArray} {i : Nat} (h : seekI l nm = (i, true)) : i < l.length := by
 unfold seekI at h
 simp only [Prod.mk.injEq, Bool.and_eq_true, decide_eq_true_eq] at h
 omega
end Go.Proofs.YtkmhilhfmfmckaaGreatDoor.Hand
namespace Go.Proofs.YtkmhilhfmfmckaaGreatDoor.Hand
set_option linter.unusedSimpArgs false
set_option linter.unusedVariables false
open Go.RowKit Go.Proofs.YtkmhilhfmfmckaaGreatDoorW.PrintWords Go.Proofs.YtkmhilhfmfmckaaGreatDoorW.PrintLast Go.Proofs.YtkmhilhfmfmckaaGreatDoorW.PrintMore
theorem sealL_eq {L : List Int} (h : L.length = 256) (s : Int) : sealL L s = L.take 252 ++ [leB (crcI s (L.take 252)) 0, leB (crcI s (L.take 252)) 1, leB (crcI s (L.take 252)) 2, leB (crcI s (L.take 252)) 3] := by
 unfold sealL
 rw [h]
 generalize crcI s (L.take (256 - 4)) = c
 obtain ⟨a, b, d, e, h4⟩ := list4 (L := L.drop 252) (by rw [List.length_drop, h])
 have hL : L = L.take 252 ++ [a, b, d, e] := by rw [← h4, List.take_append_drop]
 have hl : (L.take 252).length = 252 := by rw [List.length_take, h]; rfl
 generalize L.take 252 = M at hL hl
 subst hL
 have e0 : ∀ (N : List Int) (i : Nat) (x : Int), (M ++ N).set (256 - 4 + i) x = M ++ N.set i x := fun N i x => by
  rw [List.set_append_right _ _ (by omega), show 256 - 4 + i - M.length = i by omega]
 show ((((M ++ [a, b, d, e]).set (256 - 4 + 0) (leB c 0)).set (256 - 4 + 1) (leB c 1)).set (256 - 4 + 2) (leB c 2)).set (256 - 4 + 3) (leB c 3) = _
 rw [e0, e0, e0, e0]
 rfl
theorem strOf_bytesOf (s : ByteArray) : strOfNums (bytesOf s) = s := by
 have h : (strOfNums (bytesOf s)).data.toList = s.data.toList := by
  rw [strOfNums_data]
  unfold Go.Proofs.YtkmhilhfmfmckaaGreatDoorW.PrintWords.bytesOf
  rw [List.map_map]
  conv => rhs; rw [← List.map_id s.data.toList]
  refine List.map_congr_left fun x _ => ?_
  simp
 have h2 : (strOfNums (bytesOf s)).data = s.data := by rw [← Array.toList_inj]; exact h
 cases hs : strOfNums (bytesOf s)
 cases s
 rw [hs] at h2
 simp only at h2
 rw [h2]
theorem take_seal {L : List Int} (h : L.length = 256) (s : Int) : (sealL L s).take 252 = L.take 252 := by
 rw [sealL_eq h, List.take_append_of_le_length (by rw [List.length_take, h]; exact Nat.le_refl _), List.take_take, Nat.min_self]
theorem getD_take {l : List Int} {k j : Nat} (h : j < k) : (l.take k).getD j 0 = l.getD j 0 := by
 simp [List.getD_eq_getElem?_getD, List.getElem?_take, h]
theorem xpackI_good {l : List Att} {s : Int} (h : (xpackI l s).2 = 0) : attsOk l ∧ attN l ≤ 250 ∧ (xpackI l s).1 = sealL (pad (attsB l)) s := by
 unfold xpackI at h ⊢
 by_cases h1 : attsOk l
 ·rw [if_pos h1] at h ⊢
  by_cases h2 : 250 < attN l
  ·rw [if_pos h2] at h; cases h
  ·rw [if_neg h2]
   exact ⟨h1, by omega, rfl⟩
 ·rw [if_neg h1] at h; cases h
theorem attB_three (x : Att) (h : namedB x.name = true) : 3 ≤ (attB x).length := by
 have := named_size h
 rw [attB_length]
 omega
theorem attN_len (l : List Att) (h : ∀ x ∈ l, namedB x.name = true) : 3 * l.length ≤ attN l := by
 induction l with
 | nil => simp [attN]
 | cons x l ih =>
  have := ih (fun y hy => h y (by simp [hy]))
  have hx := attB_three x (h x (by simp))
  unfold attN at this ⊢
  rw [List.flatMap_cons, List.length_append, List.length_cons]
  omega
theorem attsOk_mem {l : List Att} (h : attsOk l) {x : Att} (hx : x ∈ l) : namedB x.name = true ∧ ¬ 64 < x.val.length := by
 obtain ⟨j, hj, e⟩ := List.getElem_of_mem hx
 have := h j hj
 unfold attOk attAt at this
 rw [List.getD_eq_getElem?_getD, List.getElem?_eq_getElem hj, Option.getD_some, e] at this
 exact ⟨this.1, this.2.1⟩
theorem xpack_small {l : List Att} {s : Int} (h : (xpackI l s).2 = 0) : l.length ≤ 83 := by
 obtain ⟨h1, h2, _⟩ := xpackI_good h
 have := attN_len l (fun x hx => (attsOk_mem h1 hx).1)
 omega
theorem xread_back (l : List Att) (hok : ∀ x ∈ l, x.name.size ≤ 32 ∧ x.val.length ≤ 64) (z : List Int) (out : List Att) : xreadI l.length (l.flatMap attB ++ z) out = some (out ++ l) := by
 induction l generalizing out with
 | nil => simp [xreadI]
 | cons x l ih =>
  obtain ⟨h1, h2⟩ := hok x (by simp)
  have hb : attB x = [(x.name.size : Int) % 256, (x.val.length : Int) % 256] ++ bytesOf x.name ++ x.val := rfl
  rw [List.flatMap_cons, List.append_assoc, List.length_cons]
  generalize hr : l.flatMap attB ++ z = rest
  have e0 : (attB x ++ rest).getD 0 0 = x.name.size := by rw [hb, show (x.name.size : Int) % 256 = x.name.size by omega]; rfl
  have e1 : (attB x ++ rest).getD 1 0 = x.val.length := by rw [hb, show (x.val.length : Int) % 256 = x.val.length by omega]; rfl
  have hlen : (attB x ++ rest).length = 2 + x.name.size + x.val.length + rest.length := by rw [List.length_append, attB_length]
  rw [xreadI, if_neg (by rw [e0, e1, hlen]; omega), e0, e1, Int.toNat_natCast, Int.toNat_natCast]
  have hd : (attB x ++ rest).drop (2 + x.name.size + x.val.length) = rest := by
   rw [List.drop_append_of_le_length (by rw [attB_length]; omega), List.drop_of_length_le (by rw [attB_length]; omega), List.nil_append]
  have he : xattI (attB x ++ rest) = x := by
   unfold xattI
   rw [e0, e1, Int.toNat_natCast, Int.toNat_natCast]
   have ht : ((attB x ++ rest).drop 2).take x.name.size = bytesOf x.name := by
    rw [hb]
    show ((bytesOf x.name ++ x.val) ++ rest).take x.name.size = _
    rw [List.append_assoc, List.take_append_of_le_length (by rw [bytesOf_length]; exact Nat.le_refl _), List.take_of_length_le (by rw [bytesOf_length]; exact Nat.le_refl _)]
   have hv : ((attB x ++ rest).drop (2 + x.name.size)).take x.val.length = x.val := by
    rw [hb, ← List.drop_drop]
    show (((bytesOf x.name ++ x.val) ++ rest).drop x.name.size).take x.val.length = _
    rw [List.append_assoc, List.drop_append_of_le_length (by rw [bytesOf_length]; exact Nat.le_refl _), List.drop_of_length_le (by rw [bytesOf_length]; exact Nat.le_refl _), List.nil_append, List.take_append_of_le_length (Nat.le_refl _), List.take_of_length_le (Nat.le_refl _)]
   rw [ht, hv, strOf_bytesOf]
  rw [hd, he, ← hr, ih (fun y hy => hok y (by simp [hy])), List.append_assoc]
  rfl
theorem attsB_len {l : List Att} (h : attN l ≤ 250) : (attsB l).length ≤ 252 := by
 unfold attN at h
 unfold attsB
 simp only [List.length_append, List.length_cons, List.length_nil]
 omega
theorem xback {l : List Att} {s : Int} (h : (xpackI l s).2 = 0) : xunpI (xpackI l s).1 s = (l, 0) := by
 obtain ⟨hok, hsz, hp⟩ := xpackI_good h
 have h62 := xpack_small h
 have hal := attsB_len hsz
 have hpl : (pad (attsB l)).length = 256 := pad_length _ (by omega)
 rw [hp]
 have hlen : (sealL (pad (attsB l)) s).length = 256 := by unfold sealL; rw [layL_length]; exact hpl
 have htk := take_seal hpl s
 have hcut : ((sealL (pad (attsB l)) s).drop 2).take 250 = l.flatMap attB ++ List.replicate (250 - (l.flatMap attB).length) 0 := by
  have e : ((sealL (pad (attsB l)) s).drop 2).take 250 = ((sealL (pad (attsB l)) s).take 252).drop 2 := by rw [List.drop_take]
  rw [e, htk]
  unfold pad
  rw [List.take_append, List.take_of_length_le hal, List.take_replicate]
  have e2 : min (252 - (attsB l).length) (256 - (attsB l).length) = 252 - (attsB l).length := by omega
  rw [e2]
  have e3 : (attsB l).length = 2 + (l.flatMap attB).length := by unfold attsB; simp only [List.length_append, List.length_cons, List.length_nil]
  rw [e3, show 252 - (2 + (l.flatMap attB).length) = 250 - (l.flatMap attB).length by omega]
  rfl
 have h1 : (sealL (pad (attsB l)) s).getD 1 0 = l.length := by
  rw [← getD_take (k := 252) (by omega), htk, getD_take (by omega)]
  show (l.length : Int) % 256 = _
  omega
 have hrd : xreadI l.length (((sealL (pad (attsB l)) s).drop 2).take 250) [] = some l := by
  rw [hcut]
  refine xread_back l (fun x hx => ?_) _ []
  have := attsOk_mem hok hx
  have := named_size this.1
  omega
 unfold xunpI
 rw [if_neg (fun h => h hlen), h1, Int.toNat_natCast, hrd]
 show (if _ then _ else _) = _
 rw [if_pos ⟨h, hp⟩]
theorem xunpI_pack {b : List Int} {s : Int} (h : (xunpI b s).2 = 0) : xpackI (xunpI b s).1 s = (b, 0) := by
 unfold xunpI at h ⊢
 split at h
 ·cases h
 ·rename_i h0
  rw [if_neg h0]
  split at h
  ·cases h
  ·rename_i out hr
   split at h
   ·rename_i h1
    rw [if_pos h1]
    exact Prod.ext h1.2 h1.1
   ·cases h
theorem leS_false {a b : ByteArray} : leS a b = false ↔ b.toList < a.toList := by
 unfold leS
 rw [Go.Proofs.bytesLess_eq, Bool.or_eq_false_iff]
 constructor
 ·rintro ⟨h1, h2⟩
  have h1 : ¬ a.toList < b.toList := by simpa using h1
  have h2 : ¬ a.toList = b.toList := by simpa using h2
  exact Classical.byContradiction fun h => h2 (List.le_antisymm (List.not_lt.1 h) (List.not_lt.1 h1))
 ·intro h
  refine ⟨by simpa using List.lt_asymm h, ?_⟩
  cases hq : (a.toList == b.toList) with
  | false => rfl
  | true =>
   have : a.toList = b.toList := by simpa using hq
   rw [this] at h
   exact absurd h (List.lt_irrefl _)
theorem attsOk_lt {l : List Att} (h : attsOk l) : ∀ {i j : Nat}, i < j → j < l.length → (attAt l i).name.toList < (attAt l j).name.toList := by
 intro i j hij hj
 induction j with
 | zero => omega
 | succ j ih =>
  have h1 := leS_false.1 ((h (j + 1) hj).2.2 (by omega))
  rw [show j + 1 - 1 = j by omega] at h1
  by_cases e : i = j
  ·rw [e]; exact h1
  ·exact List.lt_trans (ih (by omega) (by omega)) h1
theorem attsOk_of {l : List Att} (h1 : ∀ k, k < l.length → namedB (attAt l k).name = true ∧ ¬ 64 < (attAt l k).val.length) (h2 : ∀ k, k + 1 < l.length → (attAt l k).name.toList < (attAt l (k + 1)).name.toList) : attsOk l := fun k hk =>
 ⟨(h1 k hk).1, (h1 k hk).2, fun h0 => leS_false.2 (by have := h2 (k - 1) (by omega); rw [show k - 1 + 1 = k by omega] at this; exact this)⟩
theorem attAt_del (l : List Att) (i j : Nat) (hi : i < l.length) : attAt (delL l i) j = if j < i then attAt l j else attAt l (j + 1) := delL_get l i _ j hi
theorem attsOk_del {l : List Att} (h : attsOk l) {i : Nat} (hi : i < l.length) : attsOk (delL l i) := by
 refine attsOk_of (fun k hk => ?_) (fun k hk => ?_)
 ·rw [delL_length _ _ hi] at hk
  rw [attAt_del l i k hi]
  split
  ·exact ⟨(h k (by omega)).1, (h k (by omega)).2.1⟩
  ·exact ⟨(h (k + 1) (by omega)).1, (h (k + 1) (by omega)).2.1⟩
 ·rw [delL_length _ _ hi] at hk
  rw [attAt_del l i k hi, attAt_del l i (k + 1) hi]
  split
  ·split
   ·exact attsOk_lt h (by omega) (by omega)
   ·exact attsOk_lt h (by omega) (by omega)
  ·rw [if_neg (by omega)]
   exact attsOk_lt h (by omega) (by omega)
theorem attN_split (l : List Att) (i : Nat) : attN l = attN (l.take i) + attN (l.drop i) := by
 unfold attN
 rw [← List.length_append, ← List.flatMap_append, List.take_append_drop]
theorem attN_del (l : List Att) (i : Nat) : attN (delL l i) ≤ attN l := by
 have h1 := attN_split l i
 have h2 := attN_split (l.drop i) 1
 rw [List.drop_drop] at h2
 have h3 : attN (delL l i) = attN (l.take i) + attN (l.drop (i + 1)) := by
  unfold attN delL
  rw [List.flatMap_append, List.length_append]
 omega
theorem xpack_del {l : List Att} {s t : Int} (h : (xpackI l s).2 = 0) {i : Nat} (hi : i < l.length) : (xpackI (delL l i) t).2 = 0 := by
 obtain ⟨h1, h2, _⟩ := xpackI_good h
 unfold xpackI
 rw [if_pos (attsOk_del h1 hi), if_neg (by have := attN_del l i; omega)]
end Go.Proofs.YtkmhilhfmfmckaaGreatDoor.Hand
namespace Go.Proofs.YtkmhilhfmfmckaaGreatDoor.Hand
set_option linter.unusedSimpArgs false
set_option linter.unusedVariables false
theorem dturnI_in {s : St} {n m : Nat} {fr ct : Int} {on : Bool} (h : (dturnI s n m fr ct on).2 = 0) : 1 ≤ ct ∧ 0 ≤ fr ∧ fr + ct ≤ m := by
 unfold dturnI at h
 by_cases h0 : (turnI (s.now.getD n []) m fr ct on n).2 = 0
 ·unfold turnI at h0
  by_cases h1 : chkB (s.now.getD n []) m n ≠ 0
  ·rw [if_pos h1] at h0; exact absurd h0 h1
  ·rw [if_neg h1] at h0
   by_cases h2 : ct < 1 ∨ fr < 0 ∨ (m : Int) < fr ∨ (m : Int) - fr < ct
   ·rw [if_pos h2] at h0; cases h0
   ·omega
 ·rw [if_neg h0] at h; exact absurd h h0
theorem leaveI_code {s : St} {mark : Nat} {x : Sup} {l : List Grp} {e : Int} (h : (leaveI s mark x l e).2 = 0) : e = 0 := by
 unfold leaveI at h
 by_cases h0 : e ≠ 0
 ·rw [if_pos h0] at h; exact absurd h h0
 ·exact Classical.not_not.1 h0
theorem blkAt_ok {s b : St} {x : Sup} {l : List Grp} {i fr zz bm : Nat} {goal want bn bw : Int} (h : blkAt s x l i fr zz bm goal want = some (b, bn, bw, 0)) (hz : fr < zz) :
  ∃ n : Nat, bn = n ∧ fr ≤ n ∧ 1 ≤ bw ∧ (n : Int) + bw ≤ zz ∧ b.now.length = s.now.length ∧ b.hist.length ≤ s.hist.length + 3 := by
 unfold blkAt at h
 split at h
 ·cases h
 ·split at h
  ·rename_i f1 f2 hf
   have h := Option.some.inj h
   unfold tookAt at h
   split at h
   ·rename_i h1
    simp only [Prod.mk.injEq] at h
    exact absurd h.2.2.2 h1
   ·rename_i h1
    have h1 := Classical.not_not.1 h1
    simp only [Prod.mk.injEq] at h
    obtain ⟨hb, hn, hw, _⟩ := h
    unfold takeAt at h1 hb
    have h2 := leaveI_len _ _ _ _ _ h1
    have h3 := dturnI_in (leaveI_code h1)
    have h4 := dturnI_len s bm (zz - fr) f1 f2 true
    rw [hb] at h2
    refine ⟨fr + f1.toNat, by omega, by omega, by omega, by omega, by omega, by omega⟩
  ·cases h
theorem blkGo_ok {s b : St} {x : Sup} {l : List Grp} {own : Nat} {goal want bn bw : Int} (hs : Sat s.now x l) : ∀ (g k : Nat), blkGo s x l own goal want g k = (b, bn, bw, 0) →
  ∃ n : Nat, bn = n ∧ 1 ≤ bw ∧ (n : Int) + bw ≤ s.now.length ∧ b.now.length = s.now.length ∧ b.hist.length ≤ s.hist.length + 3
 | 0, k, h => by simp [blkGo] at h
 | g + 1, k, h => by
  rw [blkGo] at h
  have hl := hs.l0
  have hi := Nat.mod_lt (own + k) (show l.length > 0 by omega)
  generalize (own + k) % l.length = i at h hi
  obtain ⟨fr, zz, bm, e1, e2, _, _, e5, _, e7⟩ := geo_grp hs.geo (i := i) (by have := hs.len; omega)
  rw [e1, e2] at h
  simp only [Int.toNat_natCast] at h
  split at h
  ·rename_i r hr
   subst h
   obtain ⟨n, h1, h2, h3, h4, h5, h6⟩ := blkAt_ok hr e7
   exact ⟨n, h1, h3, by have := hs.bl; omega, h5, h6⟩
  ·exact blkGo_ok hs g (k + 1) h
theorem geo_small {g : Geo} (h : geoI g = 0) : g.blocks < 65536 := by
 have hz := geoI_zero h
 omega
theorem blocksI_in {s b : St} {goal want bn bw : Int} (h : blocksI s goal want = (b, bn, bw, 0)) :
  ∃ n : Nat, bn = n ∧ 1 ≤ bw ∧ (n : Int) + bw ≤ s.now.length ∧ b.now.length = s.now.length ∧ b.hist.length ≤ s.hist.length + 3 ∧ s.now.length < 65536 := by
 unfold blocksI at h
 split at h
 ·cases h
 ·rename_i x l hs
  split at h
  ·cases h
  ·have hs := sitI_sat hs
   obtain ⟨n, h1, h2, h3, h4, h5⟩ := blkGo_ok hs _ _ h
   exact ⟨n, h1, h2, h3, h4, h5, by have := geo_small hs.geo; have := hs.bl; omega⟩
theorem blocksI_ok {s b : St} {goal bn bw : Int} (h : blocksI s goal 1 = (b, bn, bw, 0)) (hh : s.hist.length ≤ 900000) : ∃ n : Nat, bn = n ∧ n < b.now.length ∧ n < 65536 ∧ b.hist.length ≤ 1000000 := by
 obtain ⟨n, h1, h2, h3, h4, h5, h6⟩ := blocksI_in h
 exact ⟨n, h1, by omega, by omega, by omega⟩
end Go.Proofs.YtkmhilhfmfmckaaGreatDoor.Hand
namespace Go.Proofs.YtkmhilhfmfmckaaGreatDoor.Hand
set_option linter.unusedSimpArgs false
set_option linter.unusedVariables false
set_option maxRecDepth 100000
open Go.RowKit Go.Proofs.YtkmhilhfmfmckaaGreatDoorW.PrintWords Go.Proofs.YtkmhilhfmfmckaaGreatDoorW.PrintLast Go.Proofs.YtkmhilhfmfmckaaGreatDoorW.PrintMore
theorem xorF : ∀ (x : Fin 256) (k : Fin 8), Go.bits .xor .u8 (Go.bits .xor .u8 (x.val : Int) (2 ^ k.val)) (2 ^ k.val) = (x.val : Int) := by decide +kernel
theorem xorG : ∀ (x : Fin 256) (k j : Fin 8), ((Go.bits .xor .u8 (x.val : Int) (2 ^ k.val) / 2 ^ j.val) % 2 == 1) = if j = k then !(((x.val : Int) / 2 ^ j.val) % 2 == 1) else (((x.val : Int) / 2 ^ j.val) % 2 == 1) := by decide +kernel
theorem xor_back {x : Int} (h : 0 ≤ x ∧ x < 256) (k : Nat) (hk : k < 8) : Go.bits .xor .u8 (Go.bits .xor .u8 x (2 ^ k)) (2 ^ k) = x := by
 have := xorF ⟨x.toNat, by omega⟩ ⟨k, hk⟩
 rwa [show ((⟨x.toNat, by omega⟩ : Fin 256).val : Int) = x from Int.toNat_of_nonneg h.1] at this
theorem xor_bit {x : Int} (h : 0 ≤ x ∧ x < 256) (k j : Nat) (hk : k < 8) (hj : j < 8) : ((Go.bits .xor .u8 x (2 ^ k) / 2 ^ j) % 2 == 1) = if j = k then !((x / 2 ^ j) % 2 == 1) else ((x / 2 ^ j) % 2 == 1) := by
 have := xorG ⟨x.toNat, by omega⟩ ⟨k, hk⟩ ⟨j, hj⟩
 rw [show ((⟨x.toNat, by omega⟩ : Fin 256).val : Int) = x from Int.toNat_of_nonneg h.1] at this
 rw [this]
 simp only [Fin.mk.injEq]
theorem flipB_back {b : List Int} (h : allB b) (i : Nat) (hi : i / 8 < b.length) : flipB (flipB b i) i = b := by
 unfold flipB
 have e : (b.set (i / 8) (Go.bits .xor .u8 (b.getD (i / 8) 0) (2 ^ (i % 8)))).getD (i / 8) 0 = Go.bits .xor .u8 (b.getD (i / 8) 0) (2 ^ (i % 8)) := by simp [List.getD_eq_getElem?_getD, hi]
 rw [e, xor_back (allB_get h _) _ (by omega), List.set_set]
 apply List.ext_getElem (by simp)
 intro j h1 h2
 rw [List.getElem_set]
 split
 ·rename_i hj; subst hj; simp [List.getD_eq_getElem?_getD, hi]
 ·rfl
theorem bitB_flip {b : List Int} (h : allB b) (i j : Nat) (hi : i / 8 < b.length) : bitB (flipB b i) j = if j = i then !bitB b i else bitB b j := by
 unfold bitB flipB
 by_cases hq : j / 8 = i / 8
 ·rw [hq]
  have e : (b.set (i / 8) (Go.bits .xor .u8 (b.getD (i / 8) 0) (2 ^ (i % 8)))).getD (i / 8) 0 = Go.bits .xor .u8 (b.getD (i / 8) 0) (2 ^ (i % 8)) := by simp [List.getD_eq_getElem?_getD, hi]
  rw [e, xor_bit (allB_get h _) _ _ (by omega) (by omega)]
  by_cases hm : j % 8 = i % 8
  ·rw [if_pos hm, if_pos (by omega), hm]
  ·rw [if_neg hm, if_neg (by omega)]
 ·have e : (b.set (i / 8) (Go.bits .xor .u8 (b.getD (i / 8) 0) (2 ^ (i % 8)))).getD (j / 8) 0 = b.getD (j / 8) 0 := by simp only [List.getD_eq_getElem?_getD]; rw [List.getElem?_set_ne (by omega)]
  rw [e, if_neg (by rintro rfl; exact hq rfl)]
theorem seal_get {L : List Int} (h : L.length = 256) (s : Int) (j : Nat) (hj : j < 252) : (sealL L s).getD j 0 = L.getD j 0 := by
 rw [← getD_take hj, take_seal h, getD_take hj]
theorem seal_len {L : List Int} (h : L.length = 256) (s : Int) : (sealL L s).length = 256 := by unfold sealL; rw [layL_length]; exact h
theorem bit_seal {L : List Int} (h : L.length = 256) (s : Int) (i : Nat) (hi : i < 2016) : bitB (sealL L s) i = bitB L i := by unfold bitB; rw [seal_get h s _ (by omega)]
theorem set_bit {b : List Int} (h : b.length = 256) (i : Nat) : setI b (i : Int) = if 2016 ≤ i then true else bitB b i := by
 unfold setI
 by_cases hi : 2016 ≤ i
 ·rw [if_pos (.inr (.inl (by omega))), if_pos hi]
 ·rw [if_neg (by omega), if_neg hi, Int.toNat_natCast]
theorem seal_sealed {L : List Int} (h : L.length = 256) (s : Int) : sealedI (sealL L s) s = true := by
 unfold sealedI
 rw [take_seal h, sealL_eq h, List.drop_append_of_le_length (by rw [List.length_take, h]; exact Nat.le_refl _), List.drop_of_length_le (by rw [List.length_take, h]; exact Nat.le_refl _), List.nil_append]
 obtain ⟨h0, h1⟩ := crcI_range s (L.take 252)
 generalize crcI s (L.take 252) = c at h0 h1
 simp only [beq_iff_eq, val, leB]
 show c / 1 % 256 + 256 * (c / 256 % 256 + 256 * (c / 65536 % 256 + 256 * (c / 16777216 % 256 + 256 * 0))) = c
 omega
theorem seal_take {L M : List Int} (hL : L.length = 256) (hM : M.length = 256) (h : L.take 252 = M.take 252) (s : Int) : sealL L s = sealL M s := by rw [sealL_eq hL, sealL_eq hM, h]
theorem flip_take {L M : List Int} (hL : L.length = 256) (hM : M.length = 256) (h : L.take 252 = M.take 252) (i : Nat) (hi : i < 2016) : (flipB L i).take 252 = (flipB M i).take 252 := by
 unfold flipB
 have e : L.getD (i / 8) 0 = M.getD (i / 8) 0 := by rw [← getD_take (show i / 8 < 252 by omega), h, getD_take (by omega)]
 rw [e, List.take_set, List.take_set, h]
theorem chk_seal {L : List Int} {n : Nat} (s : Int) (h : L.length = 256) (hb : ∀ i, n ≤ i → i < 2016 → bitB L i = true) (hn : n ≤ 2016) : chkB (sealL L s) n s = 0 := by
 unfold chkB
 rw [if_neg (by rw [seal_len h, seal_sealed h]; simp), if_pos]
 unfold tailB
 rw [List.all_eq_true]
 intro k hk
 have := List.mem_range.1 hk
 rw [set_bit (seal_len h s), if_neg (by omega), bit_seal h s _ (by omega)]
 exact hb _ (by omega) (by omega)
theorem chk_tail {b : List Int} {n : Nat} {s : Int} (h : chkB b n s = 0) : ∀ i, n ≤ i → i < 2016 → bitB b i = true := by
 have hl := chkB_len h
 unfold chkB at h
 split at h
 ·cases h
 ·split at h
  ·rename_i ht
   intro i h1 h2
   unfold tailB at ht
   have := List.all_eq_true.1 ht (i - n) (List.mem_range.2 (by omega))
   rw [show n + (i - n) = i by omega, set_bit hl, if_neg (by omega)] at this
   exact this
  ·cases h
theorem turn_one {b : List Int} {n : Nat} {s : Int} (hc : chkB b n s = 0) (f : Nat) (on : Bool) : turnI b n f 1 on s = if n ≤ f then ([], 22) else if setI b f = on then ([], 117) else (sealL (flipB b f) s, 0) := by
 unfold turnI
 rw [hc, if_neg (by simp)]
 by_cases h : n ≤ f
 ·rw [if_pos h, if_pos (by omega)]
 ·rw [if_neg h, if_neg (by omega), show (1 : Int).toNat = 1 from rfl, Int.toNat_natCast, turnGo, turnGo]
  by_cases h1 : setI b f = on
  ·rw [if_pos h1, if_pos (by simpa using h1)]
  ·rw [if_neg h1, if_neg (by simpa using h1)]
theorem turn_back {D b : List Int} {n : Nat} {s : Int} (hD : D.length = 256) (hb : b = sealL D s) (hab : allB b) (hc : chkB b n s = 0) (hn : n ≤ 2016) {f : Nat} {m : List Int} (h : turnI b n f 1 true s = (m, 0)) : turnI m n f 1 false s = (b, 0) ∧ f < n ∧ setI b f = false ∧ m = sealL (flipB b f) s := by
 have hl : b.length = 256 := by rw [hb]; exact seal_len hD s
 rw [turn_one hc] at h
 split at h
 ·cases h
 ·rename_i hf
  split at h
  ·cases h
  ·rename_i hs
   have hm : m = sealL (flipB b f) s := by cases h; rfl
   have hs' : setI b f = false := by cases h1 : setI b f <;> simp_all
   have hbit : bitB b f = false := by rw [set_bit hl, if_neg (by omega)] at hs'; exact hs'
   have hfl : (flipB b f).length = 256 := by rw [flipB_length]; exact hl
   have hcm : chkB m n s = 0 := by
    rw [hm]
    refine chk_seal s hfl (fun i h1 h2 => ?_) hn
    rw [bitB_flip hab _ _ (by omega), if_neg (by omega)]
    exact chk_tail hc i h1 h2
   have hsm : setI m f = true := by
    rw [hm, set_bit (seal_len hfl s), if_neg (by omega), bit_seal hfl s _ (by omega), bitB_flip hab _ _ (by omega), if_pos rfl, hbit]
    rfl
   refine ⟨?_, by omega, hs', hm⟩
   rw [turn_one hcm, if_neg (by omega), if_neg (by rw [hsm]; simp), hm]
   have e : sealL (flipB (sealL (flipB b f) s) f) s = sealL b s := by
    refine seal_take (by rw [flipB_length]; exact seal_len hfl s) hl ?_ s
    rw [flip_take (M := flipB b f) (seal_len hfl s) hfl (take_seal hfl s) f (by omega), flipB_back hab f (by omega)]
   rw [e]
   have e2 : sealL b s = b := by
    conv => rhs; rw [hb]
    exact seal_take hl hD (by rw [hb, take_seal hD]) s
   rw [e2]
theorem findI_one {b : List Int} {goal f1 f2 : Int} (h : findI b goal 1 = (f1, f2, true)) : f2 = 1 ∧ 0 ≤ f1 ∧ f1 ≤ 2017 := by
 have hr := findI_range h
 refine ⟨?_, hr.1, hr.2.1⟩
 unfold findI at h
 rw [if_neg (by omega)] at h
 split at h
 ·have e : runGo b goal 1 2017 0 ≤ 1 := by
   rw [runGo]
   split
   ·rw [runGo, if_neg (by omega)]; exact Nat.le_refl _
   ·omega
  simp only [Prod.mk.injEq, and_true] at h
  omega
 ·unfold pickI at h
  have e : (min (1 : Int) 1024).toNat = 1 := rfl
  rw [e] at h
  split at h
  ·simp only [Prod.mk.injEq, and_true] at h
   omega
  ·rw [show Go.Lib.bitLen (1 - 1) = 0 from by decide +kernel] at h
   simp [dnGo] at h
end Go.Proofs.YtkmhilhfmfmckaaGreatDoor.Hand
namespace Go.Proofs.YtkmhilhfmfmckaaGreatDoor.Hand
set_option linter.unusedSimpArgs false
set_option linter.unusedVariables false
open Go.Shelf Go.RowKit Go.Proofs.YtkmhilhfmfmckaaGreatDoorW.PrintWords Go.Proofs.YtkmhilhfmfmckaaGreatDoorW.PrintLast Go.Proofs.YtkmhilhfmfmckaaGreatDoorW.PrintMore
def InoPost (D : Nat → Prop) (s0 : Nat) (s : St) (cs : List Value) (c : Int) (w : World) (e : Ending) (w' : World) : Prop :=
 ∃ D', e = .returned (.tuple #[.agg cs.toArray, .int .i64 c]) ∧ StIs w' D' s0 s ∧ (∀ k, D' k → D k ∨ w.heap.size ≤ k) ∧ Mod w w' D
theorem results_ino {fn : Func} {p u : Tmp} (h : fn.results = #[.cell p 47, .tmp u]) (tmps : Array Value) (w : World) (q : Nat) (cs : Array Value) (c : Int) (hp : tmps.getD p undef = .pointer (some ⟨q, 0, none⟩)) (hu : tmps.getD u undef = .int .i64 c)
  (hres : w.heap[q]? = some (.cells cs 47 (0, 0))) (hinf : (Tryz.prog.info? 47).map (·.size) = some cs.size) : (results fn tmps).run Tryz.prog w = .ok (.tuple #[.agg cs, .int .i64 c]) w := by
 have hlv : (loadVar 47 ⟨q, 0, none⟩).run Tryz.prog w = .ok (.agg cs) w := run_loadVar_row w q 47 47 cs (0, 0) _ hres Tryz.underlying47 rfl hinf
 have ha : (asAddr (.pointer (some ⟨q, 0, none⟩))).run Tryz.prog w = .ok ⟨q, 0, none⟩ w := by simp [asAddr]
 rw [results_cell_tmp h, hp, hu, ha]
 simp only [Result.andThen]
 rw [hlv]
theorem infIno {cs : List Value} (h : cs.length = 15) : (Tryz.prog.info? 47).map (·.size) = some cs.toArray.size := by rw [List.size_toArray, h]; kernel_rfl
theorem mod_setRow (w : World) (g : Nat) (cs : Array Value) : Mod w (w.setRow g cs) (· = g) :=
 ⟨rfl, rfl, rfl, by simp [World.setRow], fun k hk hn => by simp [World.setRow, Array.getElem?_modify, Ne.symm hn]⟩
set_option maxHeartbeats 4000000 in
set_option maxRecDepth 100000 in
theorem lay_calls {D : Nat → Prop} {s0 : Nat} {s : St} (cs : List Value) (x : Nat) (A : Option Addr) (c : Nat) (l : List Att) (w : World) (h : StIs w D s0 s) (hcl : cs.length = 15) (h1 : ∀ v ∈ cs, v.oneCell' = true) (hx : cs[12]? = some (.int .i64 x)) (hxn : x < s.now.length) (hx2 : x < 65536)
  (hE : Atts w A l) (hc : l.length ≤ c) (hl : l.length ≤ 1000) (hp : (xpackI l x).2 = 0) (hall : ∀ y ∈ l, allB y.val) (hh : s.hist.length ≤ 1000000) :
  Calls Tryz.prog 53 #[.pointer (some ⟨s0, 0, none⟩), .agg cs.toArray, .slice A l.length c] w (InoPost D s0 (s.write x (xpackI l x).1) cs 0 w) := by
 have HE := Aside0.mk hE
 have HH := Aside0.mk h
 have HBLK := Aside0.mk h.sub
 obtain ⟨p, hpp⟩ : ∃ p, xpackI l x = p := ⟨_, rfl⟩
 have hpl := xpackI_len hp
 have hpa := allB_xpack hall (x : Int)
 have HPK := Aside0.mk (fun (W : World) (hW : Below w.heap.size w W) => xpack_calls A c (x : Int) l W (hE.below hW) hc (by omega) (by omega) (by omega))
 rw [hpp] at hp hpl hpa HPK ⊢
 obtain ⟨p1, p2⟩ := p
 dsimp only at hp hpl hpa HPK ⊢
 subst hp
 have HPL := Aside0.mk (And.intro hpl hpa)
 have HX := Aside0.mk (And.intro hx (And.intro h1 hcl))
 clear h hE hpp hpl hpa hall
 go_enter Tryz.func53, Tryz.ntmps53
 go_upto_region 1 with fail
 have hb0 := below_alloc (below_alloc (Below.refl w.heap.size w) (.cells cs.toArray 47)) (.cells #[.int .i64 0, .int .i64 0, .int .i64 0, .int .i64 0, .int .i64 0, .int .i64 0, .int .i64 0, .int .i64 0, .int .i64 0, .int .i64 0, .int .i64 0, .int .i64 0, .int .i64 0, .bool false, .slice none 0 0] 47)
 have hs1 : Strc ((w.alloc (.cells cs.toArray 47)).alloc (.cells #[.int .i64 0, .int .i64 0, .int .i64 0, .int .i64 0, .int .i64 0, .int .i64 0, .int .i64 0, .int .i64 0, .int .i64 0, .int .i64 0, .int .i64 0, .int .i64 0, .int .i64 0, .bool false, .slice none 0 0] 47)) w.heap.size 47 cs := by
  have := alloc_last w (.cells cs.toArray 47)
  unfold Strc
  rw [alloc_old _ _ _ (lt_of_obj this)]
  exact this
 have hs2 : Strc ((w.alloc (.cells cs.toArray 47)).alloc (.cells #[.int .i64 0, .int .i64 0, .int .i64 0, .int .i64 0, .int .i64 0, .int .i64 0, .int .i64 0, .int .i64 0, .int .i64 0, .int .i64 0, .int .i64 0, .int .i64 0, .int .i64 0, .bool false, .slice none 0 0] 47)) (w.heap.size + 1) 47 [.int .i64 0, .int .i64 0, .int .i64 0, .int .i64 0, .int .i64 0, .int .i64 0, .int .i64 0, .int .i64 0, .int .i64 0, .int .i64 0, .int .i64 0, .int .i64 0, .int .i64 0, .bool false, .slice none 0 0] := by
  have := alloc_last (w.alloc (.cells cs.toArray 47)) (.cells #[.int .i64 0, .int .i64 0, .int .i64 0, .int .i64 0, .int .i64 0, .int .i64 0, .int .i64 0, .int .i64 0, .int .i64 0, .int .i64 0, .int .i64 0, .int .i64 0, .int .i64 0, .bool false, .slice none 0 0] 47)
  rw [show ∀ o, (w.alloc o).heap.size = w.heap.size + 1 from fun o => by simp] at this
  exact this
 generalize (w.alloc (.cells cs.toArray 47)).alloc (.cells #[.int .i64 0, .int .i64 0, .int .i64 0, .int .i64 0, .int .i64 0, .int .i64 0, .int .i64 0, .int .i64 0, .int .i64 0, .int .i64 0, .int .i64 0, .int .i64 0, .int .i64 0, .bool false, .slice none 0 0] 47) = w1 at hb0 hs1 hs2 ⊢
 obtain ⟨q, hq⟩ : ∃ q, w.heap.size = q := ⟨_, rfl⟩
 have HB0 := Aside0.mk hb0
 rw [hq] at hs1 hs2 ⊢
 have HQ := Aside0.mk hq
 clear hq hb0
 have HS1 := Aside0.mk hs1
 have HS2 := Aside0.mk hs2
 have c12 := hs1.cell 12 _ hx
 have hwx : IntKind.u32.wrap (x : Int) = (x : Int) := by rw [IntKind.wrap_u32]; omega
 have hxi : (x : Int) < 4294967296 := by omega
 clear hs1 hs2 hx
 go_wp2_with fail
 refine (HPK.out w1 HB0.out).mono ?_
 rintro e w2 ⟨v2, rfl, hb2, hv2, _⟩
 obtain ⟨g2, c2, rfl, hg2, hc2, hr2⟩ := hv2 rfl
 have HB2 := Aside0.mk (below_then HB0.out HB0.out.size hb2)
 have hs1 := HS1.out.below hb2
 have HS1 := Aside0.mk hs1
 have HS2 := Aside0.mk (HS2.out.below hb2)
 have c12' := hs1.cell 12 _ HX.out.1
 have hsw := swrite_calls x ⟨g2, 0, none⟩ c2 p1 w2 (HH.out.below HB2.out) hxn (hr2.reads (by rw [HPL.out.1]; omega)) HPL.out.1 HPL.out.2 hh (fun hd => by have := HBLK.out _ hd; have := HB0.out.size; simp at *; omega)
 have HSW := Aside0.mk hsw
 rw [HPL.out.1]
 have HG2 := Aside0.mk (And.intro hg2 hr2)
 clear hsw hs1 hv2 hb2 c12 hwx hg2 hr2
 dsimp only
 go_wp2_with fail
 refine HSW.out.mono ?_
 rintro e w3 ⟨D3, rfl, h3, hD3, hm3⟩
 have hnq : ¬ D q := fun hd => by have := HBLK.out _ hd; have := HQ.out; omega
 have hnq1 : ¬ D (q + 1) := fun hd => by have := HBLK.out _ hd; have := HQ.out; omega
 have hs1 := HS1.out.mod hm3 hnq
 have hs2 := HS2.out.mod hm3 hnq1
 have hcl := HX.out.2.2
 have h1 := HX.out.2.1
 have hinf : (Tryz.prog.info? 47).map (·.size) = some cs.toArray.size := by rw [List.size_toArray, hcl]; kernel_rfl
 have hone : cs.toArray.all (·.oneCell') = true := by simpa using h1
 have hz15 : (#[Value.int .i64 0, .int .i64 0, .int .i64 0, .int .i64 0, .int .i64 0, .int .i64 0, .int .i64 0, .int .i64 0, .int .i64 0, .int .i64 0, .int .i64 0, .int .i64 0, .int .i64 0, .bool false, .slice none 0 0] : Array Value).size = cs.toArray.size := by rw [List.size_toArray]; exact hcl.symm
 have H3 := Aside0.mk (And.intro h3 (And.intro hD3 hm3))
 have HH1 := Aside0.mk (And.intro hs1 hs2)
 clear h3 hD3 hm3 hs1 hs2 hcl h1
 dsimp only
 go_upto_region 5 with fail
 refine wp_region_lit ?_
 refine wpList_load_row rfl 47 _ rfl q rfl 47 cs.toArray (0, 0) _ HH1.out.1 Tryz.underlying47 rfl hinf ?_
 refine wpList_store_row rfl 47 _ _ rfl (q + 1) cs.toArray rfl rfl 47 _ HH1.out.2 hinf hz15 hone ?_
 have hres := setRow_heap w3 (q + 1) _ cs.toArray 47 (0, 0) HH1.out.2
 have hmr : Mod w w3 D := Mod.trans (Mod.of_below HB2.out _) H3.out.2.2 (fun _ _ h => h)
 have hms : Mod w3 (w3.setRow (q + 1) cs.toArray) (· = q + 1) := mod_setRow _ _ _
 have HM := Aside0.mk (And.intro hmr hms)
 generalize w3.setRow (q + 1) cs.toArray = w4 at hres HM ⊢
 have HRES := Aside0.mk hres
 clear hinf hone hz15 hmr hms hres
 go_wp2
 refine bodyPost_ret (v := .tuple #[.agg cs.toArray, .int .i64 0]) ?_ rfl ?_
 ·exact results_ino rfl _ _ (q + 1) cs.toArray 0 rfl rfl HRES.out (infIno HX.out.2.2)
 ·have hq2 := HS2.out.lt
  have hqw := HQ.out
  have hnd : ∀ k, D3 k → k ≠ q + 1 := fun k hk e => (H3.out.2.1 k hk).elim (fun hd => by have := HBLK.out _ hd; omega) (fun hd => by omega)
  exact ⟨D3, rfl, H3.out.1.mod HM.out.2 hnd, fun k hk => (H3.out.2.1 k hk).imp id (fun hd => by have := HB2.out.size; omega), HM.out.1.trans HM.out.2 (fun k hk e => by have : k = q + 1 := e; omega)⟩
end Go.Proofs.YtkmhilhfmfmckaaGreatDoor.Hand
