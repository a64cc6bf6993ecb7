/- Own texts and printed words of the kit, put together and trimmed by a program of mine (merge.py). -/
import Derived.Test.YtkmhilhfmfmckaaGreatDoorK12
import Derived.Lib.AppendZerosOnto
import Derived.Lib.Overlaps
import Derived.Laws.IdiomCopy
import Derived.Deep.OwnRows
namespace Go.Proofs.YtkmhilhfmfmckaaGreatDoor.Hand
set_option linter.unusedSimpArgs false
set_option linter.unusedVariables false
open Go.Shelf Go.RowKit Go.Proofs.YtkmhilhfmfmckaaGreatDoorW.PrintWords Go.Proofs.YtkmhilhfmfmckaaGreatDoorW.PrintLast Go.Proofs.YtkmhilhfmfmckaaGreatDoorW.PrintMore
def putC (L : List Value) (k : Nat) (cs : List Value) : List Value := L.take k ++ cs ++ L.drop (k + cs.length)
theorem putC_length {L cs : List Value} {k : Nat} (h : k + cs.length ≤ L.length) : (putC L k cs).length = L.length := by
  unfold putC
  simp only [List.length_append, List.length_take, List.length_drop]
  omega
theorem putC_get {L cs : List Value} {k : Nat} (h : k + cs.length ≤ L.length) (j : Nat) : (putC L k cs)[j]? = if j < k then L[j]? else if j < k + cs.length then cs[j - k]? else L[j]? := by
  unfold putC
  have hk : (L.take k).length = k := by rw [List.length_take]; omega
  by_cases h1 : j < k
  · rw [if_pos h1, List.append_assoc, List.getElem?_append_left (by omega), List.getElem?_take, if_pos h1]
  · rw [if_neg h1]
    by_cases h2 : j < k + cs.length
    · rw [if_pos h2, List.append_assoc, List.getElem?_append_right (by omega), List.getElem?_append_left (by omega), hk]
    · rw [if_neg h2, List.getElem?_append_right (by rw [List.length_append]; omega), List.getElem?_drop, List.length_append, hk]
      congr 1
      omega
theorem setCells_obj (b : Nat) (t : TypeId) : ∀ (vs : List Value) (k : Nat) (L : List Value) (w : World), w.heap[b]? = some (.cells L.toArray t (0, 0)) → k + vs.length ≤ L.length → (w.setCells b k vs).heap[b]? = some (.cells (putC L k vs).toArray t (0, 0))
  | [], k, L, w, h, _ => by rw [World.setCells]; simpa [putC] using h
  | v :: r, k, L, w, h, hl => by
    rw [World.setCells]
    have hl' : k + 1 + r.length ≤ (L.set k v).length := by simp only [List.length_cons] at hl; rw [List.length_set]; omega
    have h1 : (w.setCell ⟨b, k, none⟩ v).heap[b]? = some (.cells (L.set k v).toArray t (0, 0)) := by
      unfold World.setCell
      simp only [Array.getElem?_modify, if_true, h, Option.map_some]
      simp
    rw [setCells_obj b t r (k + 1) (L.set k v) _ h1 hl']
    congr 3
    apply List.ext_getElem?
    intro j
    rw [putC_get hl', putC_get hl]
    simp only [List.length_cons] at hl ⊢
    by_cases a1 : j < k
    · rw [if_pos a1, if_pos (by omega), List.getElem?_set_ne (by omega)]
    · rw [if_neg a1]
      by_cases a2 : j = k
      · subst a2
        rw [if_pos (by omega), if_pos (by omega), List.getElem?_set_self (by omega), Nat.sub_self]
        rfl
      · rw [if_neg (by omega)]
        by_cases a3 : j < k + 1 + r.length
        · rw [if_pos a3, if_pos (by omega), show j - k = (j - (k + 1)) + 1 by omega, List.getElem?_cons_succ]
        · rw [if_neg a3, if_neg (by omega), List.getElem?_set_ne (by omega)]
theorem setCells_mod (b : Nat) : ∀ (vs : List Value) (k : Nat) (w w1 : World), Mod w w1 (· = b) → Mod w (w1.setCells b k vs) (· = b)
  | [], _, _, _, h => h
  | v :: r, k, w, w1, h => setCells_mod b r (k + 1) w _ (h.set_own k v)
theorem setCells_size (b : Nat) : ∀ (vs : List Value) (k : Nat) (w : World), (w.setCells b k vs).heap.size = w.heap.size
  | [], _, _ => rfl
  | v :: r, k, w => by rw [World.setCells, setCells_size b r]; simp [World.setCell]
theorem cell_of_obj {w : World} {b : Nat} {t : TypeId} {L : List Value} (h : w.heap[b]? = some (.cells L.toArray t (0, 0))) (j : Nat) : w.cell? ⟨b, j, none⟩ = L[j]? := by
  simp [World.cell?, h]
theorem free_of_obj {w : World} {b : Nat} {t : TypeId} {L : List Value} (h : w.heap[b]? = some (.cells L.toArray t (0, 0))) (j : Nat) : w.frozen? ⟨b, j, none⟩ = false := by
  simp [World.frozen?, h]
section
variable {P : Program} {w : World} {o : Oper} {a : Act} {K : Act → World → Prop} {Q : Exit → Act → World → Prop}
theorem run_copyE (t e ty : TypeId) (sz : Nat) (ht : P.underlying t = some (.slice e)) (hsz : (P.info? e).map (·.size) = some sz)
    (b k dLen dCap : Nat) (ad : Addr) (sLen sCap : Nat) (L cs : List Value) (te : TypeId)
    (hL : w.heap[b]? = some (.cells L.toArray te (0, 0))) (m : Nat) (hm : Nat.min sLen dLen = m) (hn : cs.length = m * sz) (hsrc : ∀ j u, cs[j]? = some u → w.cell? (ad.add j) = some u) (hfit : k + cs.length ≤ L.length) (h1 : ∀ u ∈ cs, u.oneCell' = true) :
    ∃ w1, (Builtin.copy_ #[t, t] ty #[.slice (some ⟨b, k, none⟩) dLen dCap, .slice (some ad) sLen sCap]).run P w = .ok (goInt m) w1 ∧ w1.heap[b]? = some (.cells (putC L k cs).toArray te (0, 0)) ∧ Mod w w1 (· = b) ∧ w1.heap.size = w.heap.size := by
  have hcl : ∀ j, j < cs.length → (w.cell? ⟨b, k + 0 + j, none⟩).isSome = true := fun j hj => by rw [cell_of_obj hL, List.getElem?_eq_getElem (by omega)]; rfl
  have hst := run_storeCells_cells (P := P) b k cs 0 w hcl (fun j hj => free_of_obj hL _) h1
  have hld := run_firstCells_some (P := P) (w := w) sz (Nat.min sLen dLen) ad sLen sCap cs (by rw [hm]; exact hn) hsrc
  cases hq : P.info? e with
  | none => simp [hq] at hsz
  | some i =>
    have hi : i.size = sz := by simpa [hq] using hsz
    have hr : (Builtin.copy_ #[t, t] ty #[.slice (some ⟨b, k, none⟩) dLen dCap, .slice (some ad) sLen sCap]).run P w = .ok (goInt (Nat.min sLen dLen)) (w.setCells b k cs) := by
      simp [Builtin.copy_, run_underlying ht, Builtin.lenOf, sizeOf, typeInfo, hq, hi, hld, hst]
    exact ⟨_, by rw [hr, hm], setCells_obj b te cs k L w hL hfit, setCells_mod b cs k w w (Mod.refl _ _), setCells_size b cs k w⟩
theorem wp_append_zerosE (s x : Operand) (t tn e : TypeId) (ho : o.op = .call { callee := .builtin .append, args := #[s, x], argTypes := #[t, tn] }) (i : TypeInfo) (z : Value) (kn : IntKind) (ht : P.underlying t = some (.slice e)) (htn : P.underlying tn = some (.int kn)) (hi : P.info? e = some i) (hz : i.zero = some z) (sz bt : Nat) (hs1 : i.size = sz) (hs2 : i.bytes = bt) (hs3 : z.cells.size = sz) (hs0 : 0 < sz)
    (g n c k : Nat) (xs : List Value) (hs : a.eval s = .slice (some ⟨g, 0, none⟩) n c) (hx : a.eval x = .int .i64 k) (hxs : xs.length = n * sz) (hc : ∀ j u, xs[j]? = some u → w.cell? ⟨g, j, none⟩ = some u) (h0 : 0 < k) (hg : c < n + k) (hbig : (n + k) * bt ≤ 140737488355328) (hbt : 0 < bt) (hnk : n + k ≤ 1000000)
    (h : ∀ w1 G zs, w1.heap[w.heap.size]? = some (.cells (xs ++ zs).toArray e (0, 0)) → (xs ++ zs).length = G * sz → n + k ≤ G → G ≤ maxLen → Below w.heap.size w w1 → w1.heap.size = w.heap.size + 1 → K (a.put o.dst (.slice (some ⟨w.heap.size, 0, none⟩) (n + k) G)) w1) : o.wp P a w K Q := by
  have hold : (Builtin.firstCells i.size n (.slice (some ⟨g, 0, none⟩) n c)).run P w.drew = .ok xs.toArray w.drew := by
    rw [hs1]
    exact run_firstCells_some (w := w.drew) sz n ⟨g, 0, none⟩ n c xs hxs (fun j u hj => by
      rw [show (⟨g, 0, none⟩ : Addr).add j = ⟨g, j, none⟩ by unfold Addr.add; split <;> simp_all]
      exact hc j u hj)
  have hkb : k * bt ≤ (n + k) * bt := Nat.mul_le_mul_right _ (by omega)
  have hrun := Lib.run_append_grow_zeros w t tn o.type e i z .i64 kn ht htn hi hz (some ⟨g, 0, none⟩) n c xs hold k h0 (by omega) hg (by omega) (by rw [hs2]; omega) (by rw [hs2]; exact growslice_fits hg hbig)
  unfold Oper.wp execOp
  simp only [ho, resolve, invoke, builtin, Sem.run_bind, Sem.run_pure, Result.andThen_ok, List.map_toArray, List.map_cons, List.map_nil, hs, hx, hrun]
  have hGn := grownCap_ge w (n + k) c e
  have hGm := grownCap_le_maxLen w (n + k) c e (by unfold maxLen; omega)
  generalize grownCap w (n + k) c e = G at hGn hGm ⊢
  have hzl : ∀ m, (Builtin.zeroCells z.cells m).size = m * sz := fun m => by rw [← hs3]; simp [Builtin.zeroCells]
  refine h _ G ((Builtin.zeroCells z.cells k).toList ++ (Builtin.zeroCells z.cells (G - (n + k))).toList) ?_ ?_ hGn hGm ?_ ?_
  · have : (xs ++ ((Builtin.zeroCells z.cells k).toList ++ (Builtin.zeroCells z.cells (G - (n + k))).toList)).toArray = xs.toArray ++ Builtin.zeroCells z.cells k ++ Builtin.zeroCells z.cells (G - (n + k)) := by
      apply Array.ext'
      simp
    rw [this]
    exact alloc_last w.drew _
  · simp only [List.length_append, Array.length_toList, hzl, hxs]
    rw [← Nat.add_mul, ← Nat.add_mul]
    congr 1
    omega
  · exact below_alloc (Below.refl _ _).drew _
  · show (w.heap.push _).size = _
    exact Array.size_push _
end
def insL {α : Type} (l : List α) (i : Nat) (x : α) : List α := l.take i ++ x :: l.drop i
theorem insL_length {α : Type} (l : List α) (i : Nat) (x : α) : (insL l i x).length = l.length + 1 := by
  unfold insL
  simp only [List.length_append, List.length_take, List.length_cons, List.length_drop]
  omega
theorem acells_append (l m : List Att) (vs us : List Value) (h : vs.length = l.length) : acells (l ++ m) (vs ++ us) = acells l vs ++ acells m us := by
  unfold acells
  rw [List.zip_append h.symm, List.flatMap_append]
theorem acells_take (l : List Att) (vs : List Value) (i : Nat) (h : vs.length = l.length) (hi : i ≤ l.length) : acells l vs = acells (l.take i) (vs.take i) ++ acells (l.drop i) (vs.drop i) ∧ (acells (l.take i) (vs.take i)).length = i * 2 ∧ (acells (l.drop i) (vs.drop i)).length = (l.length - i) * 2 := by
  refine ⟨?_, ?_, ?_⟩
  · rw [← acells_append _ _ _ _ (by rw [List.length_take, List.length_take, h]), List.take_append_drop, List.take_append_drop]
  · rw [acells_length _ _ (by rw [List.length_take, List.length_take, h]), List.length_take]
    congr 1
    omega
  · rw [acells_length _ _ (by rw [List.length_drop, List.length_drop, h]), List.length_drop]
theorem acells_ins (l : List Att) (vs : List Value) (i : Nat) (x : Att) (u : Value) (h : vs.length = l.length) : acells (insL l i x) (insL vs i u) = acells (l.take i) (vs.take i) ++ [.string x.name, u] ++ acells (l.drop i) (vs.drop i) := by
  unfold insL
  rw [acells_append _ _ _ _ (by rw [List.length_take, List.length_take, h])]
  simp [acells]
theorem put_shift (A D N R : List Value) (hN : N.length ≤ R.length) : (putC (putC (A ++ D ++ R) (A.length + N.length) D) A.length N).take (A.length + N.length + D.length) = A ++ N ++ D := by
  have h1 : A.length + N.length + D.length ≤ (A ++ D ++ R).length := by simp only [List.length_append]; omega
  have h2 : A.length + N.length ≤ (putC (A ++ D ++ R) (A.length + N.length) D).length := by rw [putC_length h1]; omega
  apply List.ext_getElem?
  intro j
  rw [List.getElem?_take]
  by_cases hj : j < A.length + N.length + D.length
  · rw [if_pos hj, putC_get h2]
    by_cases a1 : j < A.length
    · rw [if_pos a1, putC_get h1, if_pos (by omega), List.append_assoc, List.append_assoc, List.getElem?_append_left a1, List.getElem?_append_left a1]
    · rw [if_neg a1]
      by_cases a2 : j < A.length + N.length
      · rw [if_pos a2, List.append_assoc, List.getElem?_append_right (by omega), List.getElem?_append_left (by omega)]
      · rw [if_neg a2, putC_get h1, if_neg a2, if_pos hj, List.getElem?_append_right (by rw [List.length_append]; omega), List.length_append]
  · rw [if_neg hj, List.getElem?_eq_none (by simp only [List.length_append]; omega)]
theorem put_grow (A D N Z : List Value) (hZ : N.length + D.length ≤ Z.length) : (putC (putC (A ++ Z) A.length N) (A.length + N.length) D).take (A.length + N.length + D.length) = A ++ N ++ D := by
  have h2 : A.length + N.length ≤ (A ++ Z).length := by simp only [List.length_append]; omega
  have h1 : A.length + N.length + D.length ≤ (putC (A ++ Z) A.length N).length := by rw [putC_length h2]; simp only [List.length_append]; omega
  apply List.ext_getElem?
  intro j
  rw [List.getElem?_take]
  by_cases hj : j < A.length + N.length + D.length
  · rw [if_pos hj, putC_get h1]
    by_cases a1 : j < A.length + N.length
    · rw [if_pos a1, putC_get h2]
      by_cases a2 : j < A.length
      · rw [if_pos a2, List.append_assoc, List.getElem?_append_left a2, List.getElem?_append_left a2]
      · rw [if_neg a2, if_pos a1, List.append_assoc, List.getElem?_append_right (by omega), List.getElem?_append_left (by omega)]
    · rw [if_neg a1, if_pos hj, List.getElem?_append_right (by rw [List.length_append]; omega), List.length_append]
  · rw [if_neg hj, List.getElem?_eq_none (by simp only [List.length_append]; omega)]
def InsPost (b0 : Nat) (v : Value) (n : Nat) (cs : List Value) (w : World) (e : Ending) (w' : World) : Prop :=
  ∃ v', e = .returned v' ∧ w'.ownsRow b0 72 2 v' (n + 1) cs ∧ Mod w w' (fun k => v.ownBlock = some k)
set_option maxRecDepth 100000 in
theorem szAtt : ∀ w : World, (sizeOf 72).run Tryz.prog w = .ok 2 w := fun w => by
  obtain ⟨e0, he, hz0, hz1, hz2⟩ := info_parts infoAtt
  simp [sizeOf, typeInfo, he, hz1]
set_option maxRecDepth 100000 in
theorem cut_at (A : Option Addr) (n c j : Nat) (h : j ≤ n) (W : World) : (Instr.slice 29 (.slice A n c) (some (.int .i64 (j : Int))) none none).run Tryz.prog W = .ok (.slice (if c = j then A else A.map (·.add (j * 2))) (n - j) (c - j)) W := by
  obtain ⟨e0, he, hz0, hz1, hz2⟩ := info_parts infoAtt
  have := cut_from (P := Tryz.prog) 29 72 .i64 (i := e0) rfl he 2 hz1 A n c (j : Int) (by omega) (by omega) W
  simpa using this
set_option maxRecDepth 100000 in
theorem cut_up (A : Option Addr) (n c j : Nat) (h : j ≤ c) (W : World) : (Instr.slice 29 (.slice A n c) none (some (.int .i64 (j : Int))) none).run Tryz.prog W = .ok (.slice A j c) W := by
  have hel : Tryz.prog.elem 29 = 72 := by kernel_rfl
  have hu : Tryz.prog.underlying 29 = some (.slice (Tryz.prog.elem 29)) := by kernel_rfl
  have ha : (A.map fun x => x.add 0) = A := by cases A <;> simp [Addr.add]
  obtain ⟨e0, he, hz0, hz1, hz2⟩ := info_parts infoAtt
  rw [run_slice_h W 29 A n c hu .i64 (j : Int) (by omega) (by omega), hel]
  simp [sizeOf, typeInfo, he, hz1, sliced, Result.andThen, ha]
theorem two_one (x : Att) {u : Value} (hu : u.oneCell' = true) : ∀ q ∈ [Value.string x.name, u], q.oneCell' = true := by
  intro q hq
  simp only [List.mem_cons, List.not_mem_nil, or_false] at hq
  rcases hq with rfl | rfl
  · rfl
  · exact hu
theorem two_at {w : World} {vb : Nat} {t : TypeId} {x : Att} {u : Value} (h : w.heap[vb]? = some (.cells #[.string x.name, u] t)) (j : Nat) (q : Value) (hj : [Value.string x.name, u][j]? = some q) : w.cell? ((⟨vb, 0, none⟩ : Addr).add j) = some q := by
  rw [add_plain]
  simpa [World.cell?, h] using hj
set_option maxHeartbeats 4000000 in
set_option maxRecDepth 100000 in
theorem ins_end (b0 : Nat) (v : Value) (n : Nat) (cs : List Value) (x : Att) (u : Value) (vb : Nat) (w : World) (hrow : w.ownsRow b0 72 2 v n cs) (hn : n ≤ 1000) (hvb : w.heap[vb]? = some (.cells #[.string x.name, u] 72)) (hu : u.oneCell' = true) (hb0 : b0 ≤ w.heap.size) :
    Calls Tryz.prog 52 #[v, .int .i64 n, .slice (some ⟨vb, 0, none⟩) 1 1] w (InsPost b0 v n (cs ++ [.string x.name, u]) w) := by
  obtain ⟨A, c, rfl, hc, _⟩ := own_shape hrow
  have HROW := Aside0.mk hrow
  obtain ⟨V, hcut⟩ : ∃ V, ∀ W : World, (Instr.slice 29 (.slice A n c) (some (.int .i64 (n : Int))) none none).run Tryz.prog W = .ok V W := ⟨_, cut_at A n c n (Nat.le_refl _)⟩
  obtain ⟨e0, he, hz0, hz1, hz2⟩ := info_parts infoAtt
  clear hrow
  go_enter Tryz.func52, Tryz.ntmps52
  have hc1 := two_at hvb
  have hc2 := two_one x hu
  go_wp2_with (at_builtin; go_loud (refine wpList_append_own _ rfl (.tmp 23) (.tmp 24) 29 rfl b0 72 e0 (.agg #[.string ⟨#[]⟩, .slice none 0 0]) 2 40 Tryz.underlying29 he hz0 hz1 hz2 rfl (by decide) _ n cs rfl HROW.out ⟨vb, 0, none⟩ 1 1 [.string x.name, u] rfl rfl hc1 hc2 (by simp only [maxLen]; omega) (by omega) hb0 ?_; intro v' w' h2 h3 _; have H2 := Aside0.mk (And.intro h2 h3); clear h2 h3))
  go_ret
  exact ⟨v', rfl, H2.out.1, (mod_grown H2.out.2)⟩
theorem insgrow_row {w3 : World} {t : TypeId} {b0 N n i i1 k G : Nat} {A D zs N2 : List Value} (hb0 : b0 ≤ N) (hA : A.length = i * 2) (hD : D.length = (n - i) * 2) (hi : i < n) (hi1 : i + 1 = i1) (hik : i + k = n + 1) (hkG : i + k ≤ G) (hGm : G ≤ maxLen) (hl : (A ++ zs).length = G * 2) (h2 : N2.length = 2)
    (hobj : w3.heap[N]? = some (.cells (putC (putC (A ++ zs) (i * 2) N2) (i1 * 2) D).toArray t (0, 0))) : w3.ownsRow b0 t 2 (.slice (some ⟨N, 0, none⟩) (n + 1) G) (n + 1) (A ++ N2 ++ D) := by
  have hl' := hl
  rw [List.length_append, hA] at hl'
  have hp1 : (putC (A ++ zs) (i * 2) N2).length = G * 2 := by rw [putC_length (by rw [hl, h2]; omega), hl]
  have hp2 : (putC (putC (A ++ zs) (i * 2) N2) (i1 * 2) D).length = G * 2 := by rw [putC_length (by rw [hp1, hD]; omega), hp1]
  refine ⟨?_, .inr ⟨N, G, _, rfl, hb0, hobj, by omega, hGm, by rw [List.size_toArray, hp2], ?_⟩⟩
  · rw [List.length_append, List.length_append, hA, hD, h2]
    omega
  · have := put_grow A D N2 zs (by rw [hD, h2]; omega)
    rw [hA, hD, h2] at this
    rw [show i1 * 2 = i * 2 + 2 by omega, show (n + 1) * 2 = i * 2 + 2 + (n - i) * 2 by omega]
    exact this
theorem insshift_row {w3 : World} {t : TypeId} {b0 g n i i1 c : Nat} {A D R N2 : List Value} (hb0 : b0 ≤ g) (hA : A.length = i * 2) (hD : D.length = (n - i) * 2) (hi : i < n) (hi1 : i + 1 = i1) (hc : n + 1 ≤ c) (hcm : c ≤ maxLen) (hl : (A ++ D ++ R).length = c * 2) (h2 : N2.length = 2)
    (hobj : w3.heap[g]? = some (.cells (putC (putC (A ++ D ++ R) (i1 * 2) D) (i * 2) N2).toArray t (0, 0))) : w3.ownsRow b0 t 2 (.slice (some ⟨g, 0, none⟩) (n + 1) c) (n + 1) (A ++ N2 ++ D) := by
  have hl' := hl
  rw [List.length_append, List.length_append, hA, hD] at hl'
  have hp1 : (putC (A ++ D ++ R) (i1 * 2) D).length = c * 2 := by rw [putC_length (by rw [hl, hD]; omega), hl]
  have hp2 : (putC (putC (A ++ D ++ R) (i1 * 2) D) (i * 2) N2).length = c * 2 := by rw [putC_length (by rw [hp1, h2]; omega), hp1]
  refine ⟨?_, .inr ⟨g, c, _, rfl, hb0, hobj, hc, hcm, by rw [List.size_toArray, hp2], ?_⟩⟩
  · rw [List.length_append, List.length_append, hA, hD, h2]
    omega
  · have := put_shift A D N2 R (by rw [h2]; omega)
    rw [hA, hD, h2] at this
    rw [show i1 * 2 = i * 2 + 2 by omega, show (n + 1) * 2 = i * 2 + 2 + (n - i) * 2 by omega]
    exact this
set_option maxHeartbeats 4000000 in
set_option maxRecDepth 100000 in
theorem ins_grow (b0 g : Nat) (n i : Nat) (A D L : List Value) (x : Att) (u : Value) (vb : Nat) (w : World) (hb0 : b0 ≤ w.heap.size) (hA : A.length = i * 2) (hD : D.length = (n - i) * 2) (hi : i < n) (hL : w.heap[g]? = some (.cells (A ++ D ++ L).toArray 72 (0, 0)))
    (h1 : ∀ q ∈ D, q.oneCell' = true) (hn : n ≤ 1000) (hvb : w.heap[vb]? = some (.cells #[.string x.name, u] 72)) (hu : u.oneCell' = true) :
    Calls Tryz.prog 52 #[.slice (some ⟨g, 0, none⟩) n n, .int .i64 i, .slice (some ⟨vb, 0, none⟩) 1 1] w (InsPost b0 (.slice (some ⟨g, 0, none⟩) n n) n (A ++ [.string x.name, u] ++ D) w) := by
  obtain ⟨e0, he, hz0, hz1, hz2⟩ := info_parts infoAtt
  have HL := Aside0.mk hL
  have HV := Aside0.mk hvb
  have hgl := lt_of_obj hL
  have hvl := lt_of_obj hvb
  have hcut := cut_at (some ⟨g, 0, none⟩) n n i (by omega)
  rw [if_neg (by omega)] at hcut
  have hup := cut_up (some ⟨g, 0, none⟩) n n i (by omega)
  have hni : ¬ ((i : Int) = (n : Int)) := by omega
  have hnn : (n : Int) < (n : Int) + 1 := by omega
  have hk : (n : Int) + 1 - (i : Int) = ((n + 1 - i : Nat) : Int) := by omega
  have hkk : i + (n + 1 - i) = n + 1 := by omega
  obtain ⟨k, hk0⟩ : ∃ k, n + 1 - i = k := ⟨_, rfl⟩
  rw [hk0] at hk hkk
  have hk1 : 0 < k := by omega
  have HS := Aside0.mk (And.intro hb0 (And.intro hgl hvl))
  obtain ⟨i1, hi1e⟩ : ∃ i1, i + 1 = i1 := ⟨_, rfl⟩
  have HP := Aside0.mk (And.intro hA (And.intro hD (And.intro hi (And.intro hi1e hkk))))
  have hi1 : (i : Int) + 1 = (i1 : Int) := by omega
  have hi1n : i1 ≤ n := by omega
  have hi1w : (i1 : Int) ≤ (n : Int) + 1 := by omega
  clear hL hvb hgl hvl hb0
  go_enter Tryz.func52, Tryz.ntmps52
  have hc1 : ∀ j q, A[j]? = some q → w.cell? ⟨g, j, none⟩ = some q := by
    intro j q hj
    rw [cell_of_obj HL.out, List.append_assoc, List.getElem?_append_left (List.getElem?_eq_some_iff.1 hj).1]
    exact hj
  have hc2 := two_one x hu
  have hsz2 : (Tryz.prog.info? 72).map (·.size) = some 2 := by rw [he]; simp [hz1]
  have hmin : Nat.min 1 k = 1 := Nat.min_eq_left hk1
  go_upto_region 10 with (at_builtin; go_loud (refine wpList_plain rfl fun K hK => ?_; refine wp_append_zerosE (.tmp 34) (.tmp 39) 29 3 72 rfl e0 (.agg #[.string ⟨#[]⟩, .slice none 0 0]) .i64 Tryz.underlying29 Tryz.underlying3 he hz0 2 40 hz1 hz2 rfl (by decide) g i n k A rfl ?c2 hA hc1 hk1 (by omega) (by omega) (by decide) (by omega) ?_; (case c2 => (go_simp; done)); intro w1 G zs a1 a2 a3 a4 a5 a6; refine hK _ _ ?_; have HGM := Aside0.mk a4; have HG := Aside0.mk (And.intro a1 (And.intro a2 (And.intro a3 (And.intro a5 a6)))); clear a1 a2 a4 a5 a6 hK K))
  have hcut3 := cut_at (some ⟨w.heap.size, 0, none⟩) (n + 1) G i (by omega)
  rw [if_neg (by omega)] at hcut3
  have hcut4 := cut_at (some ⟨w.heap.size, 0, none⟩) (n + 1) G i1 (by omega)
  rw [if_neg (by omega)] at hcut4
  have hb1 := HG.out.2.2.2.1
  have hv1 : w1.heap[vb]? = some (.cells #[.string x.name, u] 72) := (hb1.block vb HS.out.2.2).trans HV.out
  have hg1 : w1.heap[g]? = some (.cells (A ++ D ++ L).toArray 72 (0, 0)) := (hb1.block g HS.out.2.1).trans HL.out
  have hnk : n + 1 - i = k := hk0
  obtain ⟨w2, hr2, a1, a2, a3⟩ := run_copyE (P := Tryz.prog) (w := w1) 29 72 3 2 Tryz.underlying29 hsz2 w.heap.size (i * 2) k (G - i) ⟨vb, 0, none⟩ 1 1 (A ++ zs) [.string x.name, u] 72 HG.out.1 1 hmin rfl (two_at hv1) (by rw [HG.out.2.1]; simp only [List.length_cons, List.length_nil]; omega) hc2
  have hg2 : w2.heap[g]? = some (.cells (A ++ D ++ L).toArray 72 (0, 0)) := a2.obj hg1 (Nat.ne_of_lt HS.out.2.1)
  have hpl : (putC (A ++ zs) (i * 2) [Value.string x.name, u]).length = G * 2 := by rw [putC_length (by rw [HG.out.2.1]; simp only [List.length_cons, List.length_nil]; omega), HG.out.2.1]
  have hD2 : ∀ (W : World), W.heap[g]? = some (.cells (A ++ D ++ L).toArray 72 (0, 0)) → ∀ j q, D[j]? = some q → W.cell? ((⟨g, i * 2, none⟩ : Addr).add j) = some q := fun W hW j q hj => by
    rw [show (⟨g, i * 2, none⟩ : Addr).add j = ⟨g, i * 2 + j, none⟩ by unfold Addr.add; split <;> simp_all, cell_of_obj hW, List.append_assoc, List.getElem?_append_right (by omega), hA, show i * 2 + j - i * 2 = j by omega, List.getElem?_append_left (List.getElem?_eq_some_iff.1 hj).1]
    exact hj
  obtain ⟨w3, hr3, d1, d2, d3⟩ := run_copyE (P := Tryz.prog) (w := w2.drew) 29 72 3 2 Tryz.underlying29 hsz2 w.heap.size (i1 * 2) (n + 1 - i1) (G - i1) ⟨g, i * 2, none⟩ (n - i) (n - i) (putC (A ++ zs) (i * 2) [Value.string x.name, u]) D 72 a1 (n - i) (by rw [show n + 1 - i1 = n - i by omega]; exact Nat.min_self _) hD (hD2 _ hg2) (by rw [hpl, hD]; omega) h1
  have HW := Aside0.mk (And.intro a2 (And.intro a3 (And.intro d1 (And.intro d2 d3))))
  clear a1 a2 a3 d1 d2 d3 hv1 hg1 hg2 hb1
  go_upto_region 11 with fail
  have hcut4' : ∀ W : World, (Instr.slice 29 (.slice (some ⟨w.heap.size, 0, none⟩) (n + 1) G) (some (.int .i64 ((i : Int) + 1))) none none).run Tryz.prog W = .ok (.slice (some ⟨w.heap.size, i1 * 2, none⟩) (n + 1 - i1) (G - i1)) W := fun W => by
    rw [hi1, hcut4]
    simp [add_plain]
  have hw1 : wrap64 ((i : Int) + 1) = (i : Int) + 1 := by unfold wrap64; omega
  clear hi1
  refine wp_region_in [0, 0, 0, 0, 0, 0, 0, 0, 2] [] (fun _ => True) (by kernel_rfl) rfl (by kernel_rfl) (fun _ _ _ _ h => h) trivial ?_
  iterate 8 (first
    | (refine in_off0 (by rfl) ?_; simp only [Act.put, stA, stZ, stS, i64_w, i32_w])
    | (refine in_off1 (by rfl) ?_; simp only [Act.put, stA, stZ, stS, i64_w, i32_w])
    | (refine in_0 (v := ?_) (by rfl) rfl ?_ (a' := ?_) ?_ ?_; rotate_left; (intro w'; go_simp; with_reducible rfl); rotate_left; (simp only [Act.put, stA, stZ, stS, i64_w, i32_w]; rfl))
    | (refine in_1 (v := ?_) (by rfl) rfl ?_ (a' := ?_) ?_ ?_; rotate_left; (rintro w' hs; go_split_ands; go_simp; with_reducible rfl); rotate_left; (simp only [Act.put, stA, stZ, stS, i64_w, i32_w]; rfl)))
  refine in_2 (by rfl) (fun K hK => ?_)
  unfold Oper.wp execOp
  go_simp
  refine hK _ _ trivial ?_
  clear hK K
  refine in_nil ?_
  go_wp2
  go_ret
  exact ⟨_, rfl, insgrow_row HS.out.1 HP.out.1 HP.out.2.1 HP.out.2.2.1 HP.out.2.2.2.1 HP.out.2.2.2.2 HG.out.2.2.1 HGM.out HG.out.2.1 rfl HW.out.2.2.1, Mod.trans (Mod.of_below HG.out.2.2.2.1 _) (Mod.trans HW.out.1 (Mod.trans ((Mod.refl _ _).drew) HW.out.2.2.2.1 (fun k _ h => h)) (fun k _ h => h)) (fun k hk h => absurd h (Nat.ne_of_lt hk))⟩
set_option maxHeartbeats 4000000 in
set_option maxRecDepth 100000 in
theorem ins_shift (b0 g : Nat) (n i c : Nat) (A D R : List Value) (x : Att) (u : Value) (vb : Nat) (w : World) (hb0 : b0 ≤ g) (hA : A.length = i * 2) (hD : D.length = (n - i) * 2) (hi : i < n) (hc : n + 1 ≤ c) (hcm : c ≤ maxLen) (hl : (A ++ D ++ R).length = c * 2) (hL : w.heap[g]? = some (.cells (A ++ D ++ R).toArray 72 (0, 0)))
    (h1 : ∀ q ∈ D, q.oneCell' = true) (hn : n ≤ 1000) (hvb : w.heap[vb]? = some (.cells #[.string x.name, u] 72)) (hne : vb ≠ g) (hu : u.oneCell' = true) :
    Calls Tryz.prog 52 #[.slice (some ⟨g, 0, none⟩) n c, .int .i64 i, .slice (some ⟨vb, 0, none⟩) 1 1] w (InsPost b0 (.slice (some ⟨g, 0, none⟩) n c) n (A ++ [.string x.name, u] ++ D) w) := by
  obtain ⟨e0, he, hz0, hz1, hz2⟩ := info_parts infoAtt
  have hsz2 : (Tryz.prog.info? 72).map (·.size) = some 2 := by rw [he]; simp [hz1]
  obtain ⟨i1, hi1e⟩ : ∃ i1, i + 1 = i1 := ⟨_, rfl⟩
  have HP := Aside0.mk (And.intro hA (And.intro hD (And.intro hi (And.intro hi1e (And.intro hc (And.intro hcm hl))))))
  simp only [maxLen] at hcm
  have hc2 := two_one x hu
  have hv0 := two_at hvb
  have hcut := cut_at (some ⟨g, 0, none⟩) n c i (by omega)
  rw [if_neg (by omega)] at hcut
  have hup := cut_up (some ⟨g, 0, none⟩) n c (n + 1) (by omega)
  have hcut3 := cut_at (some ⟨g, 0, none⟩) (n + 1) c i (by omega)
  rw [if_neg (by omega)] at hcut3
  have hcut4 : ∀ W : World, (Instr.slice 29 (.slice (some ⟨g, 0, none⟩) (n + 1) c) (some (.int .i64 ((i : Int) + 1))) none none).run Tryz.prog W = .ok (.slice (some ⟨g, i1 * 2, none⟩) (n + 1 - i1) (c - i1)) W := fun W => by
    have := cut_at (some ⟨g, 0, none⟩) (n + 1) c i1 (by omega) W
    rw [if_neg (by omega)] at this
    rw [show (i : Int) + 1 = (i1 : Int) by omega, this]
    simp [add_plain]
  have hup' : ∀ W : World, (Instr.slice 29 (.slice (some ⟨g, 0, none⟩) n c) none (some (.int .i64 ((n : Int) + 1))) none).run Tryz.prog W = .ok (.slice (some ⟨g, 0, none⟩) (n + 1) c) W := fun W => by
    rw [show (n : Int) + 1 = ((n + 1 : Nat) : Int) by omega, hup]
  have hov : ∀ lb cb, (callFunc 121 #[.slice (some ⟨vb, 0, none⟩) 1 1, .slice (some ⟨g, i1 * 2, none⟩) lb cb]).run Tryz.prog w = .ok (.value (.bool false)) w := fun lb cb => by
    rw [run_callFunc_extern Tryz.func121 (by kernel_rfl) (by kernel_rfl) (by kernel_rfl) (e := Extern.SlicesOverlaps.overlaps #[29, 29] #[4]) (by kernel_rfl),
      Lib.run_overlaps_apart w 29 4 72 Tryz.underlying29 2 szAtt ⟨vb, 0, none⟩ ⟨g, i1 * 2, none⟩ 1 1 lb cb hne 72 72 2 (c * 2) (by simp [World.shape?, hvb]) (by simp only [World.shape?, hL, ← hl]; simp) (by omega) (by simp [World.frozen?, hvb]) (by simp [World.frozen?, hvb])]
    rfl
  have hD2 : ∀ j q, D[j]? = some q → w.drew.cell? ((⟨g, i * 2, none⟩ : Addr).add j) = some q := fun j q hj => by
    rw [show (⟨g, i * 2, none⟩ : Addr).add j = ⟨g, i * 2 + j, none⟩ by unfold Addr.add; split <;> simp_all, cell_of_obj (w := w.drew) hL, List.append_assoc, List.getElem?_append_right (by omega), hA, show i * 2 + j - i * 2 = j by omega, List.getElem?_append_left (List.getElem?_eq_some_iff.1 hj).1]
    exact hj
  obtain ⟨w2, hr2, a1, a2, a3⟩ := run_copyE (P := Tryz.prog) (w := w.drew) 29 72 3 2 Tryz.underlying29 hsz2 g (i1 * 2) (n + 1 - i1) (c - i1) ⟨g, i * 2, none⟩ (n + 1 - i) (c - i) (A ++ D ++ R) D 72 hL (n - i) (by simp only [Nat.min_def]; split <;> omega) hD hD2 (by rw [hl, hD]; omega) h1
  have hpl : (putC (A ++ D ++ R) (i1 * 2) D).length = c * 2 := by rw [putC_length (by rw [hl, hD]; omega), hl]
  have hv2 : w2.heap[vb]? = some (.cells #[.string x.name, u] 72) := a2.obj (w := w.drew) hvb hne
  obtain ⟨w3, hr3, d1, d2, d3⟩ := run_copyE (P := Tryz.prog) (w := w2) 29 72 3 2 Tryz.underlying29 hsz2 g (i * 2) (n + 1 - i) (c - i) ⟨vb, 0, none⟩ 1 1 (putC (A ++ D ++ R) (i1 * 2) D) [.string x.name, u] 72 a1 1 (Nat.min_eq_left (by omega)) rfl (two_at hv2) (by rw [hpl]; simp only [List.length_cons, List.length_nil]; omega) hc2
  have HW := Aside0.mk (And.intro a2 (And.intro d1 (And.intro d2 hb0)))
  have hni : ¬ ((i : Int) = (n : Int)) := by omega
  have hroom : ¬ ((c : Int) < (n : Int) + 1) := by omega
  have hii : (i : Int) ≤ (n : Int) := by omega
  have hc63 : c ≤ 9223372036854775807 := by omega
  obtain ⟨cs, hcs⟩ : ∃ cs, A ++ [Value.string x.name, u] ++ D = cs := ⟨_, rfl⟩
  rw [hcs]
  have HC := Aside0.mk hcs
  clear hcs
  clear a1 a2 a3 d1 d2 d3 hL hvb hv2 hpl hl hD2 hv0 hc2 hup h1 hA hD hb0
  go_enter Tryz.func52, Tryz.ntmps52
  go_upto_region 14 with fail
  go_upto_region 15 with (simp only [hov])
  have hw1 : wrap64 ((i : Int) + 1) = (i : Int) + 1 := by unfold wrap64; omega
  refine wp_region_in [0, 0, 0, 0, 0, 0, 0, 0, 2] [] (fun _ => True) (by kernel_rfl) rfl (by kernel_rfl) (fun _ _ _ _ h => h) trivial ?_
  iterate 8 (first
    | (refine in_off0 (by rfl) ?_; simp only [Act.put, stA, stZ, stS, i64_w, i32_w])
    | (refine in_off1 (by rfl) ?_; simp only [Act.put, stA, stZ, stS, i64_w, i32_w])
    | (refine in_0 (v := ?_) (by rfl) rfl ?_ (a' := ?_) ?_ ?_; rotate_left; (intro w'; go_simp; with_reducible rfl); rotate_left; (simp only [Act.put, stA, stZ, stS, i64_w, i32_w]; rfl))
    | (refine in_1 (v := ?_) (by rfl) rfl ?_ (a' := ?_) ?_ ?_; rotate_left; (rintro w' hs; go_split_ands; go_simp; with_reducible rfl); rotate_left; (simp only [Act.put, stA, stZ, stS, i64_w, i32_w]; rfl)))
  refine in_2 (by rfl) (fun K hK => ?_)
  unfold Oper.wp execOp
  go_simp
  refine hK _ _ trivial ?_
  clear hK K hw1
  refine in_nil ?_
  go_wp2
  go_ret
  exact ⟨_, rfl, HC.out ▸ insshift_row HW.out.2.2.2 HP.out.1 HP.out.2.1 HP.out.2.2.1 HP.out.2.2.2.1 HP.out.2.2.2.2.1 HP.out.2.2.2.2.2.1 HP.out.2.2.2.2.2.2 rfl HW.out.2.1, Mod.trans ((Mod.refl _ _).drew) (Mod.trans HW.out.1 HW.out.2.2.1 (fun k _ h => h)) (fun k _ h => by rw [h]; rfl)⟩
theorem own_one {w : World} {b e : Nat} {k : IntKind} {v : Value} {l : List Int} (h : Own w b e k v l) : v.oneCell' = true := by
  obtain ⟨A, c, rfl, _⟩ := h.reads
  rfl
theorem acells_one : ∀ (l : List Att) (vs : List Value), (∀ v ∈ vs, v.oneCell' = true) → ∀ q ∈ acells l vs, q.oneCell' = true := by
  intro l vs h q hq
  unfold acells at hq
  obtain ⟨p, hp, hq⟩ := List.mem_flatMap.1 hq
  simp only [List.mem_cons, List.not_mem_nil, or_false] at hq
  rcases hq with rfl | rfl
  · rfl
  · exact h _ (List.of_mem_zip hp).2
theorem vals_one {w : World} {b : Nat} {l : List Att} {vs : List Value} (hv : vs.length = l.length) (h : ∀ j, j < l.length → Own w b 5 .u8 (vs.getD j undef) (attAt l j).val ∧ allB (attAt l j).val) : ∀ v ∈ vs, v.oneCell' = true := by
  intro v hm
  obtain ⟨j, hj, rfl⟩ := List.getElem_of_mem hm
  have := own_one (h j (by omega)).1
  simpa [List.getD_eq_getElem?_getD, hj] using this
theorem insL_get {α : Type} (l : List α) (i : Nat) (x d : α) (j : Nat) (hi : i ≤ l.length) : (insL l i x).getD j d = if j < i then l.getD j d else if j = i then x else l.getD (j - 1) d := by
  unfold insL
  have hk : (l.take i).length = i := by rw [List.length_take]; omega
  simp only [List.getD_eq_getElem?_getD]
  by_cases h1 : j < i
  · rw [if_pos h1, List.getElem?_append_left (by omega), List.getElem?_take, if_pos h1]
  · rw [if_neg h1, List.getElem?_append_right (by omega), hk]
    by_cases h2 : j = i
    · rw [if_pos h2, h2, Nat.sub_self]
      rfl
    · rw [if_neg h2, show j - i = (j - 1 - i) + 1 by omega, List.getElem?_cons_succ, List.getElem?_drop]
      congr 2
      omega
theorem ins_own {w w1 : World} {b0 : Nat} {v v1 vx : Value} {l : List Att} {vs : List Value} {x : Att} {i : Nat} (hv : vs.length = l.length) (hrow : w.ownsRow b0 72 2 v l.length (acells l vs)) (hvals : ∀ j, j < l.length → Own w b0 5 .u8 (vs.getD j undef) (attAt l j).val ∧ allB (attAt l j).val)
    (hx : Own w b0 5 .u8 vx x.val) (hxb : allB x.val) (hi : i ≤ l.length) (hm : Mod w w1 (fun k => v.ownBlock = some k)) (h1 : w1.ownsRow b0 72 2 v1 (l.length + 1) (acells (insL l i x) (insL vs i vx))) : OwnA w1 b0 v1 (insL l i x) := by
  have hne : (72 : TypeId) ≠ 5 := by decide
  have hk : ∀ {u : Value} {z : List Int}, Own w b0 5 .u8 u z → Own w1 b0 5 .u8 u z := fun hu => own_mod hu hm (fun g hg' e => own_ne hrow hu hne g e hg')
  refine ⟨insL vs i vx, by rw [insL_length, insL_length, hv], by rw [insL_length]; exact h1, fun j hj => ?_⟩
  rw [insL_length] at hj
  have e2 : attAt (insL l i x) j = if j < i then attAt l j else if j = i then x else attAt l (j - 1) := insL_get l i x _ j hi
  rw [insL_get vs i vx _ j (by omega), e2]
  by_cases a1 : j < i
  · rw [if_pos a1, if_pos a1]
    exact ⟨hk (hvals j (by omega)).1, (hvals j (by omega)).2⟩
  · rw [if_neg a1, if_neg a1]
    by_cases a2 : j = i
    · rw [if_pos a2, if_pos a2]
      exact ⟨hk hx, hxb⟩
    · rw [if_neg a2, if_neg a2]
      exact ⟨hk (hvals (j - 1) (by omega)).1, (hvals (j - 1) (by omega)).2⟩
def InsertPost (b0 : Nat) (v : Value) (l : List Att) (w : World) (e : Ending) (w' : World) : Prop :=
  ∃ v', e = .returned v' ∧ OwnA w' b0 v' l ∧ Mod w w' (fun k => v.ownBlock = some k)
theorem insert_calls {w : World} {b0 : Nat} {v vx : Value} {l : List Att} {x : Att} {i vb : Nat} (h : OwnA w b0 v l) (hx : Own w b0 5 .u8 vx x.val) (hxb : allB x.val) (hi : i ≤ l.length) (hl : l.length ≤ 1000) (hvb : w.heap[vb]? = some (.cells #[.string x.name, vx] 72)) (hvn : v.ownBlock ≠ some vb) (hb0 : b0 ≤ w.heap.size) :
    Calls Tryz.prog 52 #[v, .int .i64 i, .slice (some ⟨vb, 0, none⟩) 1 1] w (InsertPost b0 v (insL l i x) w) := by
  obtain ⟨vs, hv, hrow, hvals⟩ := h
  obtain ⟨n, hn⟩ : ∃ n, l.length = n := ⟨_, rfl⟩
  have hu := own_one hx
  obtain ⟨t1, t2, t3⟩ := acells_take l vs i hv hi
  have ti := acells_ins l vs i x vx hv
  have hfin : ∀ (e : Ending) (w1 : World), InsPost b0 v l.length (acells (insL l i x) (insL vs i vx)) w e w1 → InsertPost b0 v (insL l i x) w e w1 := by
    rintro e w1 ⟨v1, he, h1, hm⟩
    exact ⟨v1, he, ins_own hv hrow hvals hx hxb hi hm h1, hm⟩
  by_cases hin : i = l.length
  · have hc := ins_end b0 v l.length (acells l vs) x vx vb w hrow hl hvb hu hb0
    rw [hin]
    refine hc.mono ?_
    intro e w1 h1
    rw [← hin]
    refine hfin e w1 ?_
    have e0 : acells (insL l i x) (insL vs i vx) = acells l vs ++ [.string x.name, vx] := by
      rw [ti, hin, List.take_length, List.drop_length, ← hv, List.take_length, List.drop_length]
      simp [acells]
    rw [e0]
    exact h1
  · have hone : ∀ q ∈ acells (l.drop i) (vs.drop i), q.oneCell' = true := acells_one _ _ (fun v hm => vals_one hv hvals v (List.mem_of_mem_drop hm))
    rcases hrow.2 with ⟨rfl, h0⟩ | ⟨g, c, cur, rfl, hb, hh, hc, hcm, hsz, htk⟩
    · omega
    · have hcur : cur = (acells (l.take i) (vs.take i) ++ acells (l.drop i) (vs.drop i) ++ cur.toList.drop (l.length * 2)).toArray := by
        apply Array.ext'
        rw [← t1, ← htk]
        simp
      have hL : w.heap[g]? = some (.cells (acells (l.take i) (vs.take i) ++ acells (l.drop i) (vs.drop i) ++ cur.toList.drop (l.length * 2)).toArray 72 (0, 0)) := by rw [← hcur]; exact hh
      have hne : vb ≠ g := fun e => hvn (by rw [e]; rfl)
      by_cases hcn : c = l.length
      · subst hcn
        refine (ins_grow b0 g l.length i _ _ _ x vx vb w hb0 t2 t3 (by omega) hL hone hl hvb hu).mono ?_
        intro e w1 h1
        refine hfin e w1 ?_
        rw [ti]
        exact h1
      · refine (ins_shift b0 g l.length i c _ _ _ x vx vb w hb t2 t3 (by omega) (by omega) hcm ?_ hL hone hl hvb hne hu).mono ?_
        · rw [← hsz]
          conv => rhs; rw [hcur]
          rw [List.size_toArray]
        · intro e w1 h1
          refine hfin e w1 ?_
          rw [ti]
          exact h1
def BRow (w : World) (g : Nat) (bs : List Bool) : Prop := ∃ rest : List Value, w.heap[g]? = some (.cells (bs.map Value.bool ++ rest).toArray 4 (0, 0))
theorem BRow.lt {w : World} {g : Nat} {bs : List Bool} (h : BRow w g bs) : g < w.heap.size := h.elim fun _ h => lt_of_obj h
theorem BRow.below {w w1 : World} {g : Nat} {bs : List Bool} (h : BRow w g bs) (hb : Below w.heap.size w w1) : BRow w1 g bs := h.elim fun r h' => ⟨r, (hb.block g (lt_of_obj h')).trans h'⟩
theorem BRow.cell {w : World} {g : Nat} {bs : List Bool} (h : BRow w g bs) (j : Nat) (hj : j < bs.length) : w.cell? ⟨g, j, none⟩ = some (.bool (bs.getD j false)) := by
  obtain ⟨r, h⟩ := h
  rw [cell_of_obj h, List.getElem?_append_left (by simpa using hj), List.getElem?_map, List.getElem?_eq_getElem hj]
  simp [List.getD_eq_getElem?_getD, hj]
theorem BRow.free {w : World} {g : Nat} {bs : List Bool} (h : BRow w g bs) (j : Nat) : w.frozen? ⟨g, j, none⟩ = false := h.elim fun _ h => free_of_obj h j
theorem BRow.set {w : World} {g : Nat} {bs : List Bool} (h : BRow w g bs) (j : Nat) (x : Bool) (hj : j < bs.length) : BRow (w.setCell ⟨g, j, none⟩ (.bool x)) g (bs.set j x) := by
  obtain ⟨r, h⟩ := h
  refine ⟨r, ?_⟩
  unfold World.setCell
  simp only [Array.getElem?_modify, if_true, h, Option.map_some]
  simp [List.map_set, List.set_append, hj]
def boTo (z : List Int) (bs : List Bool) : Nat → List Int
  | 0 => z
  | k + 1 => if bs.getD k false = true then orBit (boTo z bs k) k else boTo z bs k
theorem boTo_length (z : List Int) (bs : List Bool) (k : Nat) : (boTo z bs k).length = z.length := by
  induction k with
  | zero => rfl
  | succ k ih =>
    rw [boTo]
    split
    · unfold orBit; rw [List.length_set, ih]
    · exact ih
theorem boTo_allB {z : List Int} (h : allB z) (bs : List Bool) (k : Nat) : allB (boTo z bs k) := by
  induction k with
  | zero => exact h
  | succ k ih =>
    rw [boTo]
    split
    · exact allB_set ih _ _ (bits_u8 _ _ _)
    · exact ih
def boB (bs : List Bool) (s : Int) : List Int := sealL (boTo (List.replicate 256 0) bs bs.length) s
theorem boB_ok (bs : List Bool) (s : Int) : (boB bs s).length = 256 ∧ allB (boB bs s) := by
  unfold boB
  refine ⟨?_, allB_seal (boTo_allB (fun x hx => by rw [List.eq_of_mem_replicate hx]; omega) _ _) s⟩
  unfold sealL
  rw [layL_length, boTo_length, List.length_replicate]
set_option maxHeartbeats 2000000 in
set_option maxRecDepth 100000 in
theorem rbytes_calls (gb c : Nat) (bs : List Bool) (s : Int) (w : World) (hb : BRow w gb bs) (hn : bs.length ≤ 2016) (hs0 : 0 ≤ s) (hs1 : s < 4294967296) :
    Calls Tryz.prog 179 #[.slice (some ⟨gb, 0, none⟩) bs.length c, .int .u32 s] w fun e w' => ∃ g, e = .returned (.slice (some ⟨g, 0, none⟩) 256 256) ∧ w.heap.size ≤ g ∧ Row w' .u8 g 5 (boB bs s) ∧ Below w.heap.size w w' := by
  have hmk : ∀ w : World, (Instr.makeSlice 23 (.int .i64 256) (.int .i64 256)).run Tryz.prog w = .ok (.slice (some ⟨w.heap.size, 0, none⟩) 256 256) (noughts w) := make256
  have HN := Aside0.mk (show Row (noughts w) .u8 w.heap.size 5 (List.replicate 256 0) from row_last _ _ _ _)
  have HB := Aside0.mk (show Below w.heap.size w (noughts w) from below_alloc (Below.refl _ _) _)
  have HBB := Aside0.mk hb
  have hab : allB (List.replicate 256 (0 : Int)) := fun x hx => by rw [List.eq_of_mem_replicate hx]; omega
  have hgb := hb.lt
  obtain ⟨m, hm⟩ : ∃ m, bs.length = m := ⟨_, rfl⟩
  have HM := Aside0.mk hm
  rw [hm] at hn ⊢
  clear hb hm
  go_enter Tryz.func179, Tryz.ntmps179
  go_wp2
  obtain ⟨g0, hg0⟩ : ∃ g, w.heap.size = g := ⟨_, rfl⟩
  have hgs : w.heap.size ≤ g0 := by omega
  rw [show (⟨w.heap.size, 0, none⟩ : Addr) = ⟨g0, 0, none⟩ by rw [hg0]]
  rw [hg0] at HN
  have HG0 := Aside0.mk hg0
  clear hg0
  generalize noughts w = w1 at HN HB ⊢
  obtain ⟨z, hz⟩ : ∃ z, List.replicate 256 (0 : Int) = z := ⟨_, rfl⟩
  have hzl : z.length = 256 := by rw [← hz]; simp
  rw [hz] at HN hab
  have HZ := Aside0.mk hz
  have HZL := Aside0.mk hzl
  have HAB := Aside0.mk hab
  clear hz hzl hab hmk
  go_loopg [6] m (fun g i wr => ∃ k : Nat, k + g = m ∧ i = .int .i64 (k : Nat) ∧ Aside0 (Row wr .u8 g0 5 (boTo z bs k)) ∧ Aside0 (Below w.heap.size w wr))
  case atStart => exact ⟨0, by omega, rfl, HN, HB⟩
  case round =>
    obtain ⟨k, hk, rfl, HR, HBr⟩ := hrel
    have hlen := boTo_length z bs k
    cases gk with
    | zero =>
      have hr := HR.out
      obtain rfl : k = m := by omega
      have hsc := rseal_calls g0 252 256 s wr _ hr (by rw [boTo_length, HZL.out]) (by omega) (by omega) hs0 hs1 (boTo_allB HAB.out _ _)
      have HSC := Aside0.mk hsc
      clear hr hsc hlen
      go_wp2_with fail
      refine HSC.out.mono ?_
      rintro e w2 ⟨rfl, hr2, hm2⟩
      dsimp only
      go_wp2
      go_ret
      refine ⟨g0, rfl, hgs, ?_, below_mod HBr.out hm2 hgs⟩
      unfold boB
      rw [HZ.out, HM.out]
      exact hr2
    | succ g =>
      have hlt : k < m := by omega
      have hki : (k : Int) < (m : Int) := by omega
      have hk2016 : k < 2016 := by omega
      have hcb := (HBB.out.below HBr.out).cell k (by rw [HM.out]; exact hlt)
      have hnext : boTo z bs (k + 1) = if bs.getD k false = true then orBit (boTo z bs k) k else boTo z bs k := rfl
      obtain ⟨bb, hbb⟩ : ∃ bb, bs.getD k false = bb := ⟨_, rfl⟩
      rw [hbb] at hcb hnext
      cases bb with
      | false =>
        rw [if_neg (by simp)] at hnext
        have HNX := Aside0.mk hnext
        clear hnext hbb hlen
        go_wp2
        go_roundg g
        case measure => omega
        case rel => exact ⟨k + 1, by omega, by go_num, ⟨by rw [HNX.out]; exact HR.out⟩, HBr⟩
      | true =>
        rw [if_pos rfl] at hnext
        unfold orBit at hnext
        obtain ⟨q, hq⟩ : ∃ q, k / 8 = q := ⟨_, rfl⟩
        obtain ⟨r, hrr⟩ : ∃ r, k % 8 = r := ⟨_, rfl⟩
        have hr8 : r < 8 := by omega
        have HW := Aside0.mk (And.intro (w64 (x := (k : Int) / 8) (n := q) (by omega) (by omega)) (show (k : Int).tmod 8 = (r : Int) by rw [Int.tmod_eq_emod_of_nonneg (by omega)]; omega))
        have hpw := pow_wrap r hr8
        have i2 : q < 256 := by omega
        have i1 : (q : Int) < 256 := by omega
        rw [hq, hrr] at hnext
        have hc := HR.out.cell q (by rw [hlen, HZL.out]; omega)
        have hz0 := HR.out.free q
        have hset := HR.out.set q (Go.bits .or .u8 ((boTo z bs k).getD q 0) (2 ^ r))
        rw [← hnext] at hset
        have hx1 := allB_get (boTo_allB HAB.out bs k) q
        generalize (boTo z bs k).getD q 0 = x at hc hset hx1
        have HSET := Aside0.mk hset
        have hbs := below_set_new HBr.out hgs q (.int .u8 (Go.bits .or .u8 x (2 ^ r)))
        have HBS := Aside0.mk hbs
        clear hset hnext hlen hbs hq hrr hbb
        go_wp2
        obtain ⟨hw1, hw3⟩ := HW.out
        refine wp_region_in [0, 0, 0, 0, 0, 0, 0, 1, 0, 0, 0, 0, 0, 3] [13] (fun w' => w'.cell? ⟨g0, q, none⟩ = some (.int .u8 x) ∧ w'.frozen? ⟨g0, q, none⟩ = false) (by kernel_rfl) rfl (by kernel_rfl) (fun _ _ _ _ h => h) ⟨hc, hz0⟩ ?_
        iterate 13 (first
          | (refine in_off0 (by rfl) ?_; simp only [Act.put, stA, stZ, stS, i64_w, i32_w])
          | (refine in_off1 (by rfl) ?_; simp only [Act.put, stA, stZ, stS, i64_w, i32_w])
          | (refine in_0 (v := ?_) (by rfl) rfl ?_ (a' := ?_) ?_ ?_; rotate_left; (intro w'; go_simp; with_reducible rfl); rotate_left; (simp only [Act.put, stA, stZ, stS, i64_w, i32_w]; rfl))
          | (refine in_1 (v := ?_) (by rfl) rfl ?_ (a' := ?_) ?_ ?_; rotate_left; (rintro w' hs; go_split_ands; go_simp; with_reducible rfl); rotate_left; (simp only [Act.put, stA, stZ, stS, i64_w, i32_w]; rfl)))
        refine in_3 (by rfl) (fun K hK => ?_)
        go_simp
        refine hK _ _ ?_
        clear hK K
        try simp only [Act.put, stA, stZ, stS, i64_w, i32_w]
        refine out_nil ?_
        clear hw1 hw3 hc hz0 hcb
        go_wp2
        go_roundg g
        case measure => omega
        case rel => exact ⟨k + 1, by omega, by go_num, ⟨HSET.out⟩, ⟨HBS.out.drew⟩⟩
set_option maxHeartbeats 1000000 in
set_option maxRecDepth 100000 in
theorem rset_calls (A : Option Addr) (c : Nat) (b : List Int) (i : Int) (w : World) (hb : Kd.C (Kd.int .u8) w A b.length b) (hab : allB b) (h0 : -9223372036854775808 ≤ i) (h1 : i ≤ 9223372036854775807) :
    Calls Tryz.prog 142 #[.slice A b.length c, .int .i64 i] w fun e w' => e = .returned (.bool (setI b i)) ∧ w = w' := by
  have hm := (C_int_len hb).2
  by_cases c0 : i < 0
  · have e : setI b i = true := by unfold setI; rw [if_pos (.inl c0)]
    rw [e]
    clear hb hab e
    go_enter Tryz.func142, Tryz.ntmps142
    go_wp2
    go_ret
    exact ⟨rfl, rfl⟩
  · by_cases c1 : 2016 ≤ i
    · have e : setI b i = true := by unfold setI; rw [if_pos (.inr (.inl c1))]
      rw [e]
      clear hb hab e
      go_enter Tryz.func142, Tryz.ntmps142
      go_wp2
      go_ret
      exact ⟨rfl, rfl⟩
    · obtain ⟨n, rfl⟩ : ∃ n : Nat, i = n := ⟨i.toNat, by omega⟩
      by_cases c2 : (b.length : Int) ≤ (n : Int) / (8 : Int)
      · have e : setI b n = true := by unfold setI; rw [if_pos (.inr (.inr c2))]
        rw [e]
        clear hb hab e
        go_enter Tryz.func142, Tryz.ntmps142
        go_wp2
        go_ret
        exact ⟨rfl, rfl⟩
      · have e : setI b n = bitB b n := by unfold setI; rw [if_neg (by rintro (h | h | h); exact c0 h; exact c1 h; exact c2 h), Int.toNat_natCast]
        rw [e]
        obtain ⟨ad, rfl, hx⟩ := C_int_at hb (n / 8) (by omega)
        have hx1 := allB_get hab (n / 8)
        have hbb : bitB b n = ((b.getD (n / 8) 0 / 2 ^ (n % 8)) % 2 == 1) := rfl
        rw [hbb]
        generalize b.getD (n / 8) 0 = x at hx hx1
        obtain ⟨r, hr⟩ : ∃ r, n % 8 = r := ⟨_, rfl⟩
        rw [hr]
        have hr8 : r < 8 := by omega
        have hrt : (n : Int).tmod 8 = (r : Int) := by rw [Int.tmod_eq_emod_of_nonneg (by omega)]; omega
        have hre : (n : Int) % 8 = (r : Int) := by omega
        have i1 : (n : Int) / 8 < (b.length : Int) := by omega
        have i2 : n / 8 < b.length := by omega
        have HR := Aside0.mk hr
        obtain ⟨hx0, hx2⟩ := hx1
        clear hb hab e hbb hr
        go_enter Tryz.func142, Tryz.ntmps142
        go_wp2
        go_loopg [5, 6] r (fun g y i wr => ∃ k : Nat, k + g = r ∧ y = .int .i64 (x / 2 ^ k) ∧ i = .int .i64 k ∧ w = wr)
        case atStart => exact ⟨0, by omega, by simp, rfl, rfl⟩
        case round =>
          obtain ⟨k, hk, rfl, rfl, rfl⟩ := hrel
          have hy0 : 0 ≤ x / 2 ^ k := Int.ediv_nonneg hx0 (Int.pow_nonneg (by omega))
          have hy1 : x / 2 ^ k ≤ x := Int.ediv_le_self _ hx0
          have hs : x / 2 ^ (k + 1) = x / 2 ^ k / 2 := by rw [Int.pow_succ, Int.ediv_ediv_of_nonneg (Int.pow_nonneg (by omega))]
          obtain ⟨y, hy⟩ : ∃ y, x / 2 ^ k = y := ⟨_, rfl⟩
          rw [hy] at hs hy0 hy1 ⊢
          have HS := Aside0.mk hs
          have HY := Aside0.mk hy
          clear hs hy
          cases gk with
          | zero =>
            obtain rfl : k = r := by omega
            go_wp2
            go_ret
            exact ⟨by rw [HY.out]; rfl, rfl⟩
          | succ g =>
            have i3 : (k : Int) < (r : Int) := by omega
            have i4 : k < r := by omega
            go_wp2
            go_roundg g
            case measure => omega
            case rel => exact ⟨k + 1, by omega, by rw [HS.out], by go_num, rfl⟩
set_option maxHeartbeats 1000000 in
set_option maxRecDepth 100000 in
theorem rsealedt_calls (A : Option Addr) (c : Nat) (b : List Int) (s : Int) (w : World) (hb : Kd.C (Kd.int .u8) w A b.length b) (hl : b.length = 256) (hc : b.length ≤ c) (hab : allB b) (hs0 : 0 ≤ s) (hs1 : s < 4294967296) :
    Calls Tryz.prog 141 #[.slice A b.length c, .int .u32 s] w fun e w' => e = .returned (.bool (sealedI b s)) ∧ Below w.heap.size w w' := by
  obtain ⟨ad, rfl, _⟩ := C_int_at hb 0 (by omega)
  have ht : (b.take 252).length = 252 := by simp [hl]
  have hp2 := C_int_pre hb 252 (by omega)
  have hg := rget_calls (some ad) c 252 4 w b hb (by omega) (by omega) (by omega) hab
  rw [List.take_of_length_le (by simp [hl])] at hg
  have hcr := rcrc_calls s (some ad) c (b.take 252) w (by rw [ht]; exact hp2) hs0 hs1 (allB_take hab 252)
  rw [ht] at hcr
  have hcb := crcI_range s (b.take 252)
  unfold sealedI
  obtain ⟨x, hx⟩ : ∃ x, val (b.drop 252) = x := ⟨_, rfl⟩
  obtain ⟨y, hy⟩ : ∃ y, crcI s (b.take 252) = y := ⟨_, rfl⟩
  rw [hx] at hg ⊢
  rw [hy] at hcr hcb ⊢
  rw [hl] at hg hc ⊢
  obtain ⟨hy0, hy1⟩ := hcb
  have hym : IntKind.u64.wrap y = y := by rw [wrap_u64]; omega
  have HG := Aside0.mk hg
  have HC := Aside0.mk hcr
  clear hb hab ht hp2 hg hcr hx hy hl
  go_enter Tryz.func141, Tryz.ntmps141
  go_wp2_with fail
  refine HG.out.mono ?_
  rintro e w1 ⟨rfl, rfl⟩
  dsimp only
  go_wp2_with fail
  refine HC.out.mono ?_
  rintro e w1 ⟨rfl, rfl⟩
  dsimp only
  go_wp2
  go_ret
  exact ⟨rfl, Below.refl _ _⟩
set_option maxHeartbeats 1000000 in
set_option maxRecDepth 100000 in
theorem rbchk_calls (A : Option Addr) (c : Nat) (b : List Int) (n : Nat) (s : Int) (w : World) (hb : Kd.C (Kd.int .u8) w A b.length b) (hc : b.length ≤ c) (hab : allB b) (hn : n ≤ 2016) (hs0 : 0 ≤ s) (hs1 : s < 4294967296) :
    Calls Tryz.prog 78 #[.slice A b.length c, .int .i64 n, .int .u32 s] w fun e w' => e = .returned (.int .i64 (chkB b n s)) ∧ Below w.heap.size w w' := by
  have hm := (C_int_len hb).2
  by_cases h256 : b.length = 256
  · have HS := Aside0.mk (fun (W : World) (hW : Below w.heap.size w W) => rsealedt_calls A c b s W (Kd.C_below hb hW) h256 hc hab hs0 hs1)
    have HT := Aside0.mk (fun (i : Int) (W : World) (hW : Below w.heap.size w W) (h0 : -9223372036854775808 ≤ i) (h1 : i ≤ 9223372036854775807) => rset_calls A c b i W (Kd.C_below hb hW) hab h0 h1)
    have hck : chkB b n s = if sealedI b s = false then 117 else if tailB b n (2016 - n) = true then 0 else 117 := by unfold chkB; simp [h256]
    rw [h256] at HS HT ⊢
    obtain ⟨q, hq⟩ : ∃ q, sealedI b s = q := ⟨_, rfl⟩
    rw [hq] at HS hck
    have HC0 : q = false → chkB b n s = 117 := fun h => by rw [hck, if_pos h]
    have HC1 : q = true → tailB b n (2016 - n) = true → chkB b n s = 0 := fun h h2 => by rw [hck, if_neg (by rw [h]; simp), if_pos h2]
    have HC2 : q = true → ¬ tailB b n (2016 - n) = true → chkB b n s = 117 := fun h h2 => by rw [hck, if_neg (by rw [h]; simp), if_neg h2]
    obtain ⟨r, hr⟩ : ∃ r, chkB b n s = r := ⟨_, rfl⟩
    rw [hr] at HC0 HC1 HC2 ⊢
    clear hb hab h256 hc hm hq hck hr
    cases q
    · have hr : r = 117 := HC0 rfl
      subst hr
      clear HC0 HC1 HC2
      go_enter Tryz.func78, Tryz.ntmps78
      go_wp2_with fail
      refine (HS.out w (Below.refl _ _)).mono ?_
      rintro e w1 ⟨rfl, hb1⟩
      dsimp only
      have HB1 := Aside0.mk hb1
      clear hb1
      go_wp2
      go_ret
      exact ⟨rfl, HB1.out⟩
    · have HK1 := Aside0.mk (HC1 rfl)
      have HK2 := Aside0.mk (HC2 rfl)
      clear HC0 HC1 HC2
      go_enter Tryz.func78, Tryz.ntmps78
      go_wp2_with fail
      refine (HS.out w (Below.refl _ _)).mono ?_
      rintro e w1 ⟨rfl, hb1⟩
      dsimp only
      have HB1 := Aside0.mk hb1
      clear hb1
      go_wp2
      go_loopg [7] (2016 - n) (fun g i wr => ∃ k : Nat, k + g = 2016 - n ∧ i = .int .i64 ((n + k : Nat) : Int) ∧ Aside0 (tailB b n k = true) ∧ Aside0 (Below w.heap.size w wr))
      case atStart => exact ⟨0, by omega, rfl, ⟨rfl⟩, HB1⟩
      case round =>
        obtain ⟨k, hk, rfl, HTB, HBr⟩ := hrel
        obtain ⟨i, hi⟩ : ∃ i, n + k = i := ⟨_, rfl⟩
        rw [hi]
        have HI := Aside0.mk hi
        cases gk with
        | zero =>
          have hk2 : k = 2016 - n := by omega
          have i1 : ¬ (i : Int) < 2016 := by omega
          have HKZ := Aside0.mk hk2
          clear hi hk2
          go_wp2
          go_ret
          refine ⟨?_, HBr.out⟩
          have := HTB.out
          rw [HKZ.out] at this
          rw [HK1.out this]
          rfl
        | succ g =>
          have hst := HT.out (i : Int) wr HBr.out (by omega) (by omega)
          have hsn := tailB_snoc b n k
          rw [hi, HTB.out, Bool.true_and] at hsn
          obtain ⟨q, hq⟩ : ∃ q, setI b (i : Int) = q := ⟨_, rfl⟩
          rw [hq] at hst hsn
          have HST := Aside0.mk hst
          have HSN := Aside0.mk hsn
          have i1 : (i : Int) < 2016 := by omega
          clear hst hsn hq hi
          go_wp2_with fail
          refine HST.out.mono ?_
          rintro e w2 ⟨rfl, rfl⟩
          dsimp only
          cases q
          · go_wp2
            go_ret
            have hf : ¬ tailB b n (2016 - n) = true := fun h => by
              have := tailB_le (g := k + 1) h (by omega)
              rw [HSN.out] at this
              cases this
            exact ⟨by rw [HK2.out hf]; rfl, HBr.out⟩
          · go_wp2
            go_roundg g
            case measure => omega
            case rel => exact ⟨k + 1, by omega, by have := HI.out; go_num, HSN, HBr⟩
  · have hck : chkB b n s = 117 := by unfold chkB; rw [if_pos (.inl h256)]
    rw [hck]
    have hne : ((b.length : Int) != 256) = true := by rw [bne_iff_ne]; omega
    clear hb hab hck
    go_enter Tryz.func78, Tryz.ntmps78
    go_wp2
    go_ret
    exact ⟨rfl, Below.refl _ _⟩
theorem infoBo : (Tryz.prog.info? 4).map (fun i => (i.zero, i.size, i.bytes)) = some (some (.bool false), 1, 1) := by kernel_rfl
theorem made_bools (n : Nat) : madeCells #[Value.bool false] n = ((List.replicate n false).map Value.bool).toArray := by
  apply Array.ext'
  rw [toList_madeCells_one]
  simp
def WkPost (w : World) (e : Ending) (w' : World) : Prop :=
  ∃ A c l x, e = .returned (.tuple #[.slice A (List.length l) c, .int .i64 x]) ∧ Kd.C (Kd.int .u8) w' A l.length l ∧ allB l ∧ l.length ≤ 256 ∧ l.length ≤ c ∧ (A = none → c = 0) ∧ (∀ ad, A = some ad → w.heap.size ≤ ad.block) ∧ Below w.heap.size w w'
theorem wk_bad {w w' : World} {e : Ending} (x : Int) (he : e = .returned (.tuple #[.slice none 0 0, .int .i64 x])) (hb : Below w.heap.size w w') : WkPost w e w' :=
  ⟨none, 0, [], x, he, C_int_nil _ _ _, (fun y hy => nomatch hy), by simp, by simp, (fun _ => rfl), (fun ad h => nomatch h), hb⟩
def newBits (n k : Nat) : List Bool := List.replicate n false ++ (List.replicate k true ++ List.replicate (2016 - n - k) false)
theorem newBits_len (n k : Nat) (h : n + k ≤ 2016) : (newBits n k).length = 2016 := by
  unfold newBits
  simp only [List.length_append, List.length_replicate]
  omega
theorem newBits_next (n k : Nat) (h : n + k < 2016) : (newBits n k).set (n + k) true = newBits n (k + 1) := by
  unfold newBits
  obtain ⟨m, hm⟩ : ∃ m, 2016 - n - k = m + 1 := ⟨2016 - n - k - 1, by omega⟩
  rw [hm, show 2016 - n - (k + 1) = m by omega, List.set_append_right _ _ (by rw [List.length_replicate]; omega), List.length_replicate, show n + k - n = k by omega, List.set_append_right _ _ (by rw [List.length_replicate]; omega), List.length_replicate, Nat.sub_self, List.replicate_succ' (n := k), List.append_assoc]
  rfl
theorem newBits_zero (n : Nat) (h : n ≤ 2016) : newBits n 0 = List.replicate 2016 false := by
  unfold newBits
  rw [List.replicate_zero, List.nil_append, List.replicate_append_replicate]
  congr 1
  omega
set_option maxHeartbeats 2000000 in
set_option maxRecDepth 100000 in
theorem rnewb_calls (n : Nat) (s : Int) (w : World) (hn : n ≤ 2016) (hs0 : 0 ≤ s) (hs1 : s < 4294967296) :
    Calls Tryz.prog 165 #[.int .i64 n, .int .u32 s] w (WkPost w) := by
  have hmk : ∀ w : World, (Instr.makeSlice 149 (.int .i64 2016) (.int .i64 2016)).run Tryz.prog w = .ok (.slice (some ⟨w.heap.size, 0, none⟩) 2016 2016) (w.alloc (.cells (madeCells #[Value.bool false] 2016) 4)) := fun w => run_make_row' 149 4 (.bool false) 1 Tryz.underlying149 infoBo rfl .i64 .i64 2016 (by omega) (by omega) w
  have hrow : BRow (w.alloc (.cells (madeCells #[Value.bool false] 2016) 4)) w.heap.size (newBits n 0) := ⟨[], by rw [made_bools, newBits_zero n hn, List.append_nil]; exact alloc_last _ _⟩
  have HB := Aside0.mk (show Below w.heap.size w (w.alloc (.cells (madeCells #[Value.bool false] 2016) 4)) from below_alloc (Below.refl _ _) _)
  have i1 : ¬ (n : Int) < 0 := by omega
  have i2 : ¬ (2016 : Int) < (n : Int) := by omega
  have HN := Aside0.mk hrow
  clear hrow
  go_enter Tryz.func165, Tryz.ntmps165
  go_wp2
  obtain ⟨g0, hg0⟩ : ∃ g, w.heap.size = g := ⟨_, rfl⟩
  have hgs : w.heap.size ≤ g0 := by omega
  rw [show (⟨w.heap.size, 0, none⟩ : Addr) = ⟨g0, 0, none⟩ by rw [hg0]]
  rw [hg0] at HN
  clear hg0 hmk
  generalize w.alloc (.cells (madeCells #[Value.bool false] 2016) 4) = w1 at HN HB ⊢
  go_loopg [7] (2016 - n) (fun g i wr => ∃ k : Nat, k + g = 2016 - n ∧ i = .int .i64 ((n + k : Nat) : Int) ∧ Aside0 (BRow wr g0 (newBits n k)) ∧ Aside0 (Below w.heap.size w wr))
  case atStart => exact ⟨0, by omega, rfl, HN, HB⟩
  case round =>
    obtain ⟨k, hk, rfl, HR, HBr⟩ := hrel
    obtain ⟨i, hi⟩ : ∃ i, n + k = i := ⟨_, rfl⟩
    rw [hi]
    cases gk with
    | zero =>
      have hlen := newBits_len n k (by omega)
      have hby := rbytes_calls g0 2016 (newBits n k) s wr HR.out (by omega) hs0 hs1
      rw [hlen] at hby
      have HBY := Aside0.mk hby
      have i3 : ¬ (i : Int) < 2016 := by omega
      clear hby hlen hi
      go_wp2_with fail
      refine HBY.out.mono ?_
      rintro e w2 ⟨g2, rfl, hg2, hr2, hb2⟩
      dsimp only
      have HF := Aside0.mk (And.intro hr2 hb2)
      have HG2 := Aside0.mk (Nat.le_trans HBr.out.size hg2)
      clear hr2 hb2
      go_wp2
      go_ret2
      have hok := boB_ok (newBits n k) s
      exact ⟨some ⟨g2, 0, none⟩, 256, boB (newBits n k) s, 0, by rw [hok.1]; rfl, HF.out.1.reads (by omega), hok.2, by omega, by omega, (fun h => nomatch h), (fun ad h => by cases h; exact HG2.out), below_then HBr.out HBr.out.size HF.out.2⟩
    | succ g =>
      have hlt : i < 2016 := by omega
      have hli : (i : Int) < 2016 := by omega
      have hlen := newBits_len n k (by omega)
      have hc := HR.out.cell i (by omega)
      have hf := HR.out.free i
      have hset := HR.out.set i true (by omega)
      rw [← hi, newBits_next n k (by omega), hi] at hset
      have HSET := Aside0.mk hset
      have HBS := Aside0.mk (below_set_new HBr.out hgs i (.bool true))
      have HI := Aside0.mk hi
      generalize (newBits n k).getD i false = x at hc
      clear hset hi hlen
      go_wp2
      go_roundg g
      case measure => omega
      case rel => exact ⟨k + 1, by omega, by have := HI.out; go_num, HSET, HBS⟩
theorem own_snocB {w : World} {base : Nat} {v : Value} {bs : List Bool} {x : Bool} (h : w.ownsRow base 4 1 v (bs.length + 1) (bs.map Value.bool ++ [.bool x])) : w.ownsRow base 4 1 v (bs ++ [x]).length ((bs ++ [x]).map Value.bool) := by
  rw [List.map_append, List.length_append]
  exact h
theorem brow_of_own {w : World} {base n : Nat} {v : Value} {bs : List Bool} (h : w.ownsRow base 4 1 v n (bs.map Value.bool)) (hp : 0 < n) : ∃ g c, v = .slice (some ⟨g, 0, none⟩) n c ∧ BRow w g bs ∧ bs.length = n := by
  have hl : bs.length = n := by have := h.1; simpa using this
  rcases h.2 with ⟨_, h0⟩ | ⟨g, c, cur, rfl, _, hh, _, _, _, ht⟩
  · omega
  · refine ⟨g, c, rfl, ⟨cur.toList.drop (n * 1), ?_⟩, hl⟩
    rw [← ht, List.take_append_drop]
    simpa using hh
set_option maxHeartbeats 4000000 in
set_option maxRecDepth 100000 in
theorem rturnb_calls (A : Option Addr) (c : Nat) (b : List Int) (n fr ct : Nat) (on : Bool) (s : Int) (w : World) (hb : Kd.C (Kd.int .u8) w A b.length b) (hc : b.length ≤ c) (hab : allB b) (hn : n ≤ 2016) (hs0 : 0 ≤ s) (hs1 : s < 4294967296) (hfr : fr ≤ 4096) (hct : ct ≤ 4096) :
    Calls Tryz.prog 146 #[.slice A b.length c, .int .i64 n, .int .i64 fr, .int .i64 ct, .bool on, .int .u32 s] w (WkPost w) := by
  obtain ⟨i0, hi, hz0, hz1, hz2⟩ := info_parts infoBo
  have HCK := Aside0.mk (rbchk_calls A c b n s w hb hc hab hn hs0 hs1)
  have HST := Aside0.mk (fun (W : World) (hW : Below w.heap.size w W) (i : Int) (h0 : -9223372036854775808 ≤ i) (h1 : i ≤ 9223372036854775807) => rset_calls A c b i W (Kd.C_below hb hW) hab h0 h1)
  obtain ⟨q, hq⟩ : ∃ q, chkB b n s = q := ⟨_, rfl⟩
  rw [hq] at HCK
  obtain ⟨bl, hbl⟩ : ∃ bl, b.length = bl := ⟨_, rfl⟩
  rw [hbl] at HCK HST hc ⊢
  clear hb hab hq hbl
  have hw1 : (fr : Int) + (ct : Int) ≤ 8192 := by omega
  go_enter Tryz.func146, Tryz.ntmps146
  go_wp2_with fail
  refine HCK.out.mono ?_
  rintro e w1 ⟨rfl, hb1⟩
  have HB1 := Aside0.mk hb1
  clear hb1
  dsimp only
  by_cases hq0 : q = 0
  · subst hq0
    go_upto_region 4 with fail
    by_cases hbad : (ct : Int) < 1 ∨ (2016 : Int) < (ct : Int) ∨ (n : Int) < (fr : Int) ∨ (n : Int) < (fr : Int) + (ct : Int)
    · by_cases h1 : (ct : Int) < 1
      · go_wp2
        go_ret2
        exact wk_bad 22 rfl HB1.out
      · by_cases h2 : (2016 : Int) < (ct : Int)
        · go_wp2
          go_ret2
          exact wk_bad 22 rfl HB1.out
        · by_cases h3 : (n : Int) < (fr : Int)
          · go_wp2
            go_ret2
            exact wk_bad 22 rfl HB1.out
          · have h4 : (n : Int) < (fr : Int) + (ct : Int) := by omega
            go_wp2
            go_ret2
            exact wk_bad 22 rfl HB1.out
    · have h1 : ¬ (ct : Int) < 1 := by omega
      have h2 : ¬ (2016 : Int) < (ct : Int) := by omega
      have h3 : ¬ (n : Int) < (fr : Int) := by omega
      have h4 : ¬ (n : Int) < (fr : Int) + (ct : Int) := by omega
      clear hbad
      go_wp2
      go_loopg [15, 16, 17] 2016 (fun g v i u wr => ∃ bs : List Bool, bs.length + g = 2016 ∧ i = .int .i64 (bs.length : Nat) ∧ Aside0 (wr.ownsRow w.heap.size 4 1 v bs.length (bs.map Value.bool)) ∧ Aside0 (Below w.heap.size w wr))
      case atStart => exact ⟨[], by simp, rfl, ⟨own_nil _ _ _ _⟩, HB1⟩
      case round =>
        obtain ⟨bs, hk, rfl, HO, HB⟩ := hrel
        cases gk with
        | zero =>
          obtain ⟨gb, cb, rfl, hrow, hbl⟩ := brow_of_own HO.out (by omega)
          have hby := rbytes_calls gb cb bs s wr hrow (by omega) hs0 hs1
          have h2016 : bs.length = 2016 := by omega
          rw [h2016] at hby ⊢
          have HBY := Aside0.mk hby
          clear hby hrow hbl hk h2016
          go_wp2_with fail
          refine HBY.out.mono ?_
          rintro e w2 ⟨g2, rfl, hg2, hr2, hb2⟩
          dsimp only
          have HF := Aside0.mk (And.intro hr2 hb2)
          have HG2 := Aside0.mk (Nat.le_trans HB.out.size hg2)
          clear hr2 hb2
          go_wp2
          go_ret2
          have hok := boB_ok bs s
          exact ⟨some ⟨g2, 0, none⟩, 256, boB bs s, 0, by rw [hok.1]; rfl, HF.out.1.reads (by omega), hok.2, by omega, by omega, (fun h => nomatch h), (fun ad h => by cases h; exact HG2.out), below_then HB.out HB.out.size HF.out.2⟩
        | succ g =>
          have hlt : (bs.length : Int) < 2016 := by omega
          have hltn : bs.length < 2016 := by omega
          have HS1 := Aside0.mk (HST.out wr HB.out (bs.length : Nat) (by omega) (by omega))
          obtain ⟨sb, hsb⟩ : ∃ sb, setI b ((bs.length : Nat) : Int) = sb := ⟨_, rfl⟩
          rw [hsb] at HS1
          have HOA := Aside0.mk (fun x : Bool => pw_own_below HO.out (below_alloc (Below.refl wr.heap.size wr) (.cells #[.bool x] 4)))
          have HBA := Aside0.mk (fun x : Bool => below_then HB.out HB.out.size (below_alloc (Below.refl wr.heap.size wr) (.cells #[.bool x] 4)))
          have HSZ := Aside0.mk (fun x : Bool => (HBA.out x).size)
          have HC1 := Aside0.mk (show ∀ (x : Bool) (j : Nat) (u : Value), [Value.bool x][j]? = some u → (wr.alloc (.cells #[.bool x] 4)).cell? ((⟨wr.heap.size, 0, none⟩ : Addr).add j) = some u from fun x j u hj => by
            rw [add_plain]
            exact (cell_of_obj (L := [.bool x]) (alloc_last wr (.cells #[.bool x] 4)) j).trans hj)
          have HC2 := Aside0.mk (show ∀ (x : Bool) (u : Value), u ∈ [Value.bool x] → u.oneCell' = true from fun x u hu => by
            simp only [List.mem_cons, List.not_mem_nil, or_false] at hu
            subst hu
            rfl)
          clear hsb
          go_wp2_with fail
          refine HS1.out.mono ?_
          rintro e w2 ⟨rfl, rfl⟩
          dsimp only
          by_cases c1 : (fr : Int) ≤ (bs.length : Int)
          · by_cases c2 : (bs.length : Int) < (fr : Int) + (ct : Int)
            · by_cases c3 : sb = on
              · subst c3
                go_wp2
                go_ret2
                exact wk_bad 117 rfl HB.out
              · have c4 : (sb == on) = false := by simpa using c3
                go_upto_region 9 with (at_builtin; go_loud (refine wpList_append_own _ rfl (.tmp 68) (.tmp 70) 149 rfl w.heap.size 4 i0 (.bool false) 1 1 Tryz.underlying149 hi hz0 hz1 hz2 rfl (by decide) _ bs.length (bs.map Value.bool) rfl (HOA.out on) ⟨wr.heap.size, 0, none⟩ 1 1 [.bool on] rfl rfl (HC1.out on) (HC2.out on) (by simp only [maxLen]; omega) (by omega) (HSZ.out on) ?_; intro v1 w3 h2 h3 _; have H2 := Aside0.mk (And.intro h2 h3); clear h2 h3))
                have HB3 := Aside0.mk (pw_below_grown (HBA.out on) _ (HSZ.out on) H2.out.2 (own_base (HOA.out on)))
                have HO3 := Aside0.mk (own_snocB H2.out.1)
                clear H2
                go_wp2
                go_roundg g
                case measure => omega
                case rel => exact ⟨bs ++ [on], by rw [List.length_append]; simp only [List.length_cons, List.length_nil]; omega, by rw [List.length_append]; go_num, HO3, HB3⟩
            · have c2' : ¬ (bs.length : Int) < (fr : Int) + (ct : Int) := c2
              go_upto_region 9 with (at_builtin; go_loud (refine wpList_append_own _ rfl (.tmp 68) (.tmp 70) 149 rfl w.heap.size 4 i0 (.bool false) 1 1 Tryz.underlying149 hi hz0 hz1 hz2 rfl (by decide) _ bs.length (bs.map Value.bool) rfl (HOA.out sb) ⟨wr.heap.size, 0, none⟩ 1 1 [.bool sb] rfl rfl (HC1.out sb) (HC2.out sb) (by simp only [maxLen]; omega) (by omega) (HSZ.out sb) ?_; intro v1 w3 h2 h3 _; have H2 := Aside0.mk (And.intro h2 h3); clear h2 h3))
              have HB3 := Aside0.mk (pw_below_grown (HBA.out sb) _ (HSZ.out sb) H2.out.2 (own_base (HOA.out sb)))
              have HO3 := Aside0.mk (own_snocB H2.out.1)
              clear H2
              go_wp2
              go_roundg g
              case measure => omega
              case rel => exact ⟨bs ++ [sb], by rw [List.length_append]; simp only [List.length_cons, List.length_nil]; omega, by rw [List.length_append]; go_num, HO3, HB3⟩
          · have c1' : ¬ (fr : Int) ≤ (bs.length : Int) := c1
            go_upto_region 9 with (at_builtin; go_loud (refine wpList_append_own _ rfl (.tmp 68) (.tmp 70) 149 rfl w.heap.size 4 i0 (.bool false) 1 1 Tryz.underlying149 hi hz0 hz1 hz2 rfl (by decide) _ bs.length (bs.map Value.bool) rfl (HOA.out sb) ⟨wr.heap.size, 0, none⟩ 1 1 [.bool sb] rfl rfl (HC1.out sb) (HC2.out sb) (by simp only [maxLen]; omega) (by omega) (HSZ.out sb) ?_; intro v1 w3 h2 h3 _; have H2 := Aside0.mk (And.intro h2 h3); clear h2 h3))
            have HB3 := Aside0.mk (pw_below_grown (HBA.out sb) _ (HSZ.out sb) H2.out.2 (own_base (HOA.out sb)))
            have HO3 := Aside0.mk (own_snocB H2.out.1)
            clear H2
            go_wp2
            go_roundg g
            case measure => omega
            case rel => exact ⟨bs ++ [sb], by rw [List.length_append]; simp only [List.length_cons, List.length_nil]; omega, by rw [List.length_append]; go_num, HO3, HB3⟩
  · go_wp2
    go_ret2
    exact wk_bad q rfl HB1.out
set_option maxHeartbeats 1000000 in
set_option maxRecDepth 100000 in
theorem rsum_calls (A : Option Addr) (c : Nat) (l : List Int) (w : World) (hr : Kd.C (Kd.int .i64) w A l.length l) (hl : l.length ≤ 1000000) (hw : widthsOk l) :
    Calls Tryz.prog 183 #[.slice A l.length c] w fun e w' => e = .returned (.tuple #[.int .i64 (sumI l), .bool true]) ∧ w = w' := by
  have HR := Aside0.mk hr
  have HW := Aside0.mk (fun k hk => widths_at hw k hk)
  have HS := Aside0.mk (fun k hk => sumI_range hw k hk)
  clear hr hw
  go_enter Tryz.func183, Tryz.ntmps183
  go_wp2
  go_loopg [4, 5] l.length (fun g x i wr => ∃ k : Nat, k + g = l.length ∧ x = .int .i64 (sumI (l.take k)) ∧ i = .int .i64 k ∧ w = wr)
  case atStart => exact ⟨0, by omega, rfl, rfl, rfl⟩
  case round =>
    obtain ⟨k, hk, rfl, rfl, rfl⟩ := hrel
    have hs := HS.out k (by omega)
    obtain ⟨y, hy⟩ : ∃ y, sumI (l.take k) = y := ⟨_, rfl⟩
    rw [hy] at hs ⊢
    have HY := Aside0.mk hy
    cases gk with
    | zero =>
      obtain rfl : k = l.length := by omega
      clear hy
      go_wp2
      go_ret2
      exact ⟨by rw [← HY.out, List.take_length]; rfl, rfl⟩
    | succ g =>
      have hsn := sumI_snoc l k (by omega)
      rw [hy] at hsn
      have hx := HW.out k (by omega)
      obtain ⟨ad, rfl, hc⟩ := C_int_at HR.out k (by omega)
      generalize l.getD k 0 = x at hsn hx hc
      have HSN := Aside0.mk hsn
      have i1 : (k : Int) < (l.length : Int) := by omega
      have i2 : ¬ x < 1 := by omega
      have i3 : ¬ (8 : Int) < x := by omega
      clear hy hsn
      go_wp2
      go_roundg g
      case measure => omega
      case rel => exact ⟨k + 1, by omega, by rw [HSN.out], by go_num, rfl⟩
set_option maxHeartbeats 4000000 in
set_option maxRecDepth 100000 in
theorem rpackw_calls (A B : Option Addr) (c d : Nat) (xs ws : List Int) (w : World) (hx : Kd.C (Kd.int .u64) w A xs.length xs) (hw : Kd.C (Kd.int .i64) w B ws.length ws) (hlen : xs.length = ws.length) (hl : ws.length ≤ 1000) (hok : widthsOk ws) (hs : sumI ws ≤ 256) (hgo : goesIn xs ws) :
    Calls Tryz.prog 166 #[.slice A xs.length c, .slice B ws.length d, .int .i64 256] w fun e w' => ∃ g, e = .returned (.tuple #[.slice (some ⟨g, 0, none⟩) 256 256, .int .i64 0]) ∧ w.heap.size ≤ g ∧ Row w' .u8 g 5 (packW xs ws 256) ∧ Below w.heap.size w w' := by
  have HX := Aside0.mk hx
  have HW := Aside0.mk hw
  have HWC := Aside0.mk (rsum_calls B d ws w hw (by omega) hok)
  have HGO := Aside0.mk hgo
  have HOK := Aside0.mk hok
  have HS0 := Aside0.mk (fun k hk => sumI_range hok k hk)
  have HS1 := Aside0.mk (fun k hk => sumI_all hok k hk)
  have hq0 := sumI_range hok ws.length (Nat.le_refl _)
  rw [List.take_length] at hq0
  obtain ⟨q, hq⟩ : ∃ q, sumI ws = q := ⟨_, rfl⟩
  rw [hq] at HWC hs hq0
  have HQ := Aside0.mk hq
  have HLEN := Aside0.mk hlen
  have hmk : ∀ w : World, (Instr.makeSlice 23 (.int .i64 256) (.int .i64 256)).run Tryz.prog w = .ok (.slice (some ⟨w.heap.size, 0, none⟩) 256 256) (noughts w) := make256
  have HN := Aside0.mk (show Row (noughts w) .u8 w.heap.size 5 (List.replicate 256 0) from row_last _ _ _ _)
  have HB := Aside0.mk (show Below w.heap.size w (noughts w) from below_alloc (Below.refl _ _) _)
  obtain ⟨m, hm⟩ : ∃ m, ws.length = m := ⟨_, rfl⟩
  rw [hlen, hm]
  rw [hm] at HWC hl
  have HM := Aside0.mk hm
  clear hx hw hgo hok hq hlen hm
  have hq256 : ¬ (256 : Int) < q := by omega
  go_enter Tryz.func166, Tryz.ntmps166
  go_wp2_with fail
  refine HWC.out.mono ?_
  rintro e w' ⟨rfl, rfl⟩
  dsimp only
  go_wp2
  obtain ⟨g0, hg0⟩ : ∃ g, w.heap.size = g := ⟨_, rfl⟩
  have hgs : w.heap.size ≤ g0 := by omega
  rw [show (⟨w.heap.size, 0, none⟩ : Addr) = ⟨g0, 0, none⟩ by rw [hg0]]
  rw [hg0] at HN
  clear hg0 hmk
  generalize noughts w = w2 at HN HB ⊢
  obtain ⟨z, hz⟩ : ∃ z, List.replicate 256 (0 : Int) = z := ⟨_, rfl⟩
  have hzl : z.length = 256 := by rw [← hz]; simp
  rw [hz] at HN
  have HZ := Aside0.mk hz
  have HZL := Aside0.mk hzl
  clear hz hzl
  go_loopg [11, 12, 13] m (fun g a i u wr => ∃ k : Nat, k + g = m ∧ a = .int .i64 (sumI (ws.take k)) ∧ i = .int .i64 k ∧ Aside0 (Row wr .u8 g0 5 (packGo xs ws z k)) ∧ Aside0 (Below w.heap.size w wr))
  case atStart => exact ⟨0, by omega, rfl, rfl, HN, HB⟩
  case round =>
    obtain ⟨k, hk, rfl, rfl, HR, HBr⟩ := hrel
    have hs0 := HS0.out k (by have := HM.out; omega)
    cases gk with
    | zero =>
      obtain rfl : k = m := by omega
      clear hs0
      go_wp2
      go_ret2
      refine ⟨g0, rfl, hgs, ?_, HBr.out⟩
      unfold packW
      rw [HZ.out, HM.out]
      exact HR.out
    | succ g =>
      have hkl : k < ws.length := by have := HM.out; omega
      have hw8 := widths_at HOK.out k hkl
      have hs1 := HS1.out k hkl
      obtain ⟨hg0, hg1⟩ := HGO.out k hkl
      have hsn := sumI_snoc ws k hkl
      have hpk : packGo xs ws z (k + 1) = layL (packGo xs ws z k) (sumI (ws.take k)).toNat (xs.getD k 0) (ws.getD k 0).toNat := rfl
      have hplen := (packGo_length xs ws z k).trans HZL.out
      rw [HQ.out] at hs1
      obtain ⟨ax, rfl, hcx⟩ := C_int_at (Kd.C_below HX.out HBr.out) k (by rw [HLEN.out]; exact hkl)
      obtain ⟨aw, rfl, hcw⟩ := C_int_at (Kd.C_below HW.out HBr.out) k hkl
      obtain ⟨n, hn⟩ : ∃ n : Nat, ws.getD k 0 = n := ⟨(ws.getD k 0).toNat, by omega⟩
      obtain ⟨a, ha⟩ : ∃ a : Nat, sumI (ws.take k) = a := ⟨(sumI (ws.take k)).toNat, by omega⟩
      obtain ⟨x, hx⟩ : ∃ x, xs.getD k 0 = x := ⟨_, rfl⟩
      have HNN := Aside0.mk hn
      rw [hn] at hw8 hs1 hg1 hsn hcw hpk
      rw [ha] at hs1 hsn hpk ⊢
      rw [hx] at hg0 hg1 hcx hpk
      rw [Int.toNat_natCast] at hg1 hpk
      rw [Int.toNat_natCast] at hpk
      have hn8 : n ≤ 8 := by omega
      have hn1 : 1 ≤ n := by omega
      have han : a + n ≤ 256 := by omega
      have HLAY := Aside0.mk (fun (W : World) (hW : Row W .u8 g0 5 (packGo xs ws z k)) => rput_calls g0 a n 256 x W _ hW (by omega) hn1 hn8 (by rw [hplen]; exact han) hg0 hg1)
      rw [← hpk, hplen] at HLAY
      have HPK := Aside0.mk hpk
      have HSN := Aside0.mk hsn
      have i1 : (k : Int) < (m : Int) := by omega
      have i2 : k < m := by omega
      clear hpk hsn hn ha hx hs1 hs0 hg1
      go_upto_region 9 with fail
      refine wp_region_in [0, 0, 0, 0, 0, 1, 0, 0, 0, 1, 3, 0] [10] (fun w' => w'.cell? (aw.add k) = some (.int .i64 n) ∧ w'.cell? (ax.add k) = some (.int .u64 x)) (by kernel_rfl) rfl (by kernel_rfl) (fun _ _ _ _ h => h) ⟨hcw, hcx⟩ ?_
      iterate 10 (first
        | (refine in_off0 (by rfl) ?_; simp only [Act.put, stA, stZ, stS, i64_w, i32_w])
        | (refine in_off1 (by rfl) ?_; simp only [Act.put, stA, stZ, stS, i64_w, i32_w])
        | (refine in_0 (v := ?_) (by rfl) rfl ?_ (a' := ?_) ?_ ?_; rotate_left; (intro w'; go_simp; with_reducible rfl); rotate_left; (simp only [Act.put, stA, stZ, stS, i64_w, i32_w]; rfl))
        | (refine in_1 (v := ?_) (by rfl) rfl ?_ (a' := ?_) ?_ ?_; rotate_left; (rintro w' hs; go_split_ands; go_simp; with_reducible rfl); rotate_left; (simp only [Act.put, stA, stZ, stS, i64_w, i32_w]; rfl)))
      refine in_3 (by rfl) (fun K hK => ?_)
      go_simp
      have hrd : Row wr.drew .u8 g0 5 (packGo xs ws z k) := HR.out
      with_reducible refine (HLAY.out wr.drew hrd).mono ?_
      rintro e w5 ⟨rfl, hr5, hm5⟩
      dsimp only
      refine hK _ _ ?_
      have HR5 := Aside0.mk hr5
      have HB5 := Aside0.mk (below_mod HBr.out.drew hm5 hgs)
      have hcw5 := Kd.C_below HW.out HB5.out
      obtain ⟨aw', e', hcw6⟩ := C_int_at hcw5 k hkl
      cases e'
      rw [HNN.out] at hcw6
      clear hK K hr5 hm5 hcx hcw hcw5 hrd
      try simp only [Act.put, stA, stZ, stS, i64_w, i32_w]
      iterate 1 (
        refine out_0 (v := ?_) (by rfl) rfl ?_ (a' := ?_) ?_ ?_
        rotate_left
        · intro w'; go_simp; with_reducible rfl
        rotate_left
        · simp only [Act.put, stA, stZ, stS, i64_w, i32_w]; rfl)
      refine out_nil ?_
      go_wp2
      go_roundg g
      case measure => omega
      case rel => exact ⟨k + 1, by omega, by rw [HSN.out], by go_num, HR5, HB5⟩
end Go.Proofs.YtkmhilhfmfmckaaGreatDoor.Hand
