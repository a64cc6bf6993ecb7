/- A statement whose order is open, walked in the text's order: one closed check says that this suffices, where what is read is held by S. -/
import Derived.Test.YtjggkaieagbjmaaLib
import Derived.Test.YtjggkaieagbjmaaWTab
namespace Go.Proofs.Ytjggkaieagbjmaa.Hand
set_option linter.unusedVariables false
set_option linter.unusedSimpArgs false
open Go.RowKit Go.Proofs.YtjggkaieagbjmaaW.PrintWords Go.Proofs.YtjggkaieagbjmaaW.PrintLast Go.Proofs.YtjggkaieagbjmaaW.PrintMore

section
variable {P : Program} {md : Region.Mode} {ops : Array Oper} {Q : Exit → Act → World → Prop} {S : World → Prop} {ds : List Nat}

/-- The first i are done. -/
def flg (n i : Nat) : Array Bool := (List.replicate i true ++ List.replicate (n - i) false).toArray
/-- Kinds: 0 yields in every world, 1 yields where S holds, 2 makes, writes or calls, 3 likewise, and S is not shown behind it. -/
def ordB (md : Region.Mode) (ops : Array Oper) (ds : List Nat) (n : Nat) : Nat → List Nat → Bool
  | i, [] => Region.ready md ops (flg n i) == []
  | i, k :: r => (match k with
      | 0 => anyB md ops (flg n i) (flg n (i + 1)) i
      | 1 => takeB md ops ds (flg n i) (flg n (i + 1)) i
      | 2 => readyB md ops (flg n i) (flg n (i + 1)) i && !(ds.contains i)
      | _ => readyB md ops (flg n i) (flg n (i + 1)) i && ds.contains i) && ordB md ops ds n (i + 1) r

/-- Behind the last one: nothing is read any more. -/
def wpOut (P : Program) (ops : Array Oper) (Q : Exit → Act → World → Prop) : List Nat → List Oper → Act → World → Prop
  | 0 :: ks, o :: r, a, w => ∃ v, Yields P ops o v a ∧ wpOut P ops Q ks r (a.put o.dst v) w
  | 1 :: _, _ :: _, _, _ => False
  | 2 :: _, _ :: _, _, _ => False
  | (_ + 3) :: ks, o :: r, a, w => ∀ K : Act → World → Prop, Shut (∀ a' w', wpOut P ops Q ks r a' w' → K a' w') → if Region.wanted o (yielded ops a.tmps) = true then Oper.wp P o a w K Q else K (a.put o.dst undef) w
  | _, _, a, w => Q .normal a w
def wpIn (P : Program) (ops : Array Oper) (Q : Exit → Act → World → Prop) (S : World → Prop) : List Nat → List Oper → Act → World → Prop
  | 0 :: ks, o :: r, a, w => ∃ v, Yields P ops o v a ∧ wpIn P ops Q S ks r (a.put o.dst v) w
  | 1 :: ks, o :: r, a, w => ∃ v, YieldsIf P ops S o v a ∧ wpIn P ops Q S ks r (a.put o.dst v) w
  | 2 :: ks, o :: r, a, w => ∀ K : Act → World → Prop, Shut (∀ a' w', S w' → wpIn P ops Q S ks r a' w' → K a' w') → if Region.wanted o (yielded ops a.tmps) = true then Oper.wp P o a w K Q else K (a.put o.dst undef) w
  | (_ + 3) :: ks, o :: r, a, w => ∀ K : Act → World → Prop, Shut (∀ a' w', wpOut P ops Q ks r a' w' → K a' w') → if Region.wanted o (yielded ops a.tmps) = true then Oper.wp P o a w K Q else K (a.put o.dst undef) w
  | _, _, a, w => Q .normal a w

theorem put_panic (hQ : ∀ c (a : Act) t w, Q (.panic c) { a with tmps := t } w → Q (.panic c) a w) (d : Option Tmp) (v : Value) : ∀ c a w, Q (.panic c) (a.put d v) w → Q (.panic c) a w := by
  intro c a w h
  cases d with
  | none => exact h
  | some d => exact hQ c a _ w h

theorem wpOut_sound (hQ : ∀ c (a : Act) t w, Q (.panic c) { a with tmps := t } w → Q (.panic c) a w) (ks : List Nat) :
    ∀ (i : Nat) (r : List Oper) (a : Act) (w : World), ks.length = r.length → i + r.length = ops.size → (∀ j, r[j]? = ops[i + j]?) → ordB md ops ds ops.size i ks = true → wpOut P ops Q ks r a w →
      wpAnyLast P md ops Q S ds r.length (flg ops.size i) a w := by
  induction ks with
  | nil =>
    intro i r a w hl _ _ ho h
    cases r with
    | cons => simp at hl
    | nil => exact done_ ho (by simpa [wpOut] using h)
  | cons k ks ih =>
    intro i r a w hl hn hr ho h
    cases r with
    | nil => simp at hl
    | cons o r =>
      have hi : ops[i]? = some o := by have := hr 0; simpa using this.symm
      have hr' : ∀ j, r[j]? = ops[i + 1 + j]? := fun j => by have := hr (j + 1); rw [show i + 1 + j = i + (j + 1) by omega]; simpa using this
      have hl' : ks.length = r.length := by simpa using hl
      have hn' : i + 1 + r.length = ops.size := by simp at hn; omega
      simp only [ordB, Bool.and_eq_true] at ho
      obtain ⟨h1, h2⟩ := ho
      match k with
      | 0 =>
        obtain ⟨v, hy, h⟩ := h
        exact pure_ _ hi rfl h1 (put_panic hQ _ _) hy rfl (ih (i + 1) r _ w hl' hn' hr' h2 h)
      | 1 => exact h.elim
      | 2 => exact h.elim
      | k + 3 =>
        simp only [Bool.and_eq_true, List.contains_eq_mem, decide_eq_true_eq] at h1
        obtain ⟨h1, h3⟩ := h1
        exact last_ _ hi rfl h1 h3 (fun K hK => h K (fun a' w' h' => hK a' w' (ih (i + 1) r a' w' hl' hn' hr' h2 h')))

theorem wpIn_sound (hQ : ∀ c (a : Act) t w, Q (.panic c) { a with tmps := t } w → Q (.panic c) a w) (ks : List Nat) :
    ∀ (i : Nat) (r : List Oper) (a : Act) (w : World), ks.length = r.length → i + r.length = ops.size → (∀ j, r[j]? = ops[i + j]?) → ordB md ops ds ops.size i ks = true → S w → wpIn P ops Q S ks r a w →
      wpAnyLast P md ops Q S ds r.length (flg ops.size i) a w := by
  induction ks with
  | nil =>
    intro i r a w hl _ _ ho _ h
    cases r with
    | cons => simp at hl
    | nil => exact done_ ho (by simpa [wpIn] using h)
  | cons k ks ih =>
    intro i r a w hl hn hr ho hS h
    cases r with
    | nil => simp at hl
    | cons o r =>
      have hi : ops[i]? = some o := by have := hr 0; simpa using this.symm
      have hr' : ∀ j, r[j]? = ops[i + 1 + j]? := fun j => by have := hr (j + 1); rw [show i + 1 + j = i + (j + 1) by omega]; simpa using this
      have hl' : ks.length = r.length := by simpa using hl
      have hn' : i + 1 + r.length = ops.size := by simp at hn; omega
      simp only [ordB, Bool.and_eq_true] at ho
      obtain ⟨h1, h2⟩ := ho
      match k with
      | 0 =>
        obtain ⟨v, hy, h⟩ := h
        exact pure_ _ hi rfl h1 (put_panic hQ _ _) hy rfl (ih (i + 1) r _ w hl' hn' hr' h2 hS h)
      | 1 =>
        obtain ⟨v, hy, h⟩ := h
        exact take_ _ hi rfl h1 (put_panic hQ _ _) hy hS rfl (ih (i + 1) r _ w hl' hn' hr' h2 hS h)
      | 2 =>
        simp only [Bool.and_eq_true, Bool.not_eq_true', List.contains_eq_mem, decide_eq_false_iff_not] at h1
        obtain ⟨h1, h3⟩ := h1
        exact one_ _ hi rfl h1 h3 (fun K hK => h K (fun a' w' hS' h' => hK a' w' hS' (fun hS'' => ih (i + 1) r a' w' hl' hn' hr' h2 hS' h')))
      | k + 3 =>
        simp only [Bool.and_eq_true, List.contains_eq_mem, decide_eq_true_eq] at h1
        obtain ⟨h1, h3⟩ := h1
        exact last_ _ hi rfl h1 h3 (fun K hK => h K (fun a' w' h' => hK a' w' (wpOut_sound hQ ks (i + 1) r a' w' hl' hn' hr' h2 h')))

/-- A statement whose order is open, in the text's order. ks: the operations' kinds. -/
theorem wp_region_in {id : Nat} {l : List Oper} {a : Act} {w : World} (ks : List Nat) (ds : List Nat) (S : World → Prop) (hm : P.follows .mixedOrders = true) (hl : ks.length = l.length) (ho : ordB .any l.toArray ds l.toArray.size 0 ks = true)
    (hQ : ∀ c (a : Act) t w, Q (.panic c) { a with tmps := t } w → Q (.panic c) a w) (hS : S w.drew) (h : wpIn P l.toArray Q S ks l a w.drew) : (Code.region id l.toArray true).wp P Q a w := by
  refine start_ (S := S) (ds := ds) _ hm rfl rfl hS (fun _ => ?_)
  have := wpIn_sound (P := P) (md := .any) (ops := l.toArray) (S := S) (ds := ds) hQ ks 0 l a w.drew hl (by simp) (fun j => by simp) ho hS h
  have e : flg l.toArray.size 0 = Array.replicate l.toArray.size false := by simp [flg]
  rw [e] at this
  exact this

variable {o : Oper} {r : List Oper} {ks : List Nat} {a : Act} {w : World}
theorem in_off0 (hw : Region.wanted o (yielded ops a.tmps) = false) (h : wpIn P ops Q S ks r (a.put o.dst undef) w) : wpIn P ops Q S (0 :: ks) (o :: r) a w := ⟨undef, .inr ⟨hw, rfl⟩, h⟩
theorem in_off1 (hw : Region.wanted o (yielded ops a.tmps) = false) (h : wpIn P ops Q S ks r (a.put o.dst undef) w) : wpIn P ops Q S (1 :: ks) (o :: r) a w := ⟨undef, .inr ⟨hw, rfl⟩, h⟩
theorem in_off2 (hS : S w) (hw : Region.wanted o (yielded ops a.tmps) = false) (h : wpIn P ops Q S ks r (a.put o.dst undef) w) : wpIn P ops Q S (2 :: ks) (o :: r) a w := by
  intro K hK
  rw [if_neg (by rw [hw]; simp)]
  exact hK _ _ hS h
theorem in_0 {v : Value} {N : Option Tmp} (hw : Region.wanted o (yielded ops a.tmps) = true) (hN : o.dst = N) (hy : ∀ w, (execOp a.eval o).run P w = .ok (.value v) w) {a' : Act} (ha : a.put N v = a') (h : wpIn P ops Q S ks r a' w) : wpIn P ops Q S (0 :: ks) (o :: r) a w :=
  ⟨v, .inl ⟨hw, hy⟩, by rw [hN, ha]; exact h⟩
theorem in_1 {v : Value} {N : Option Tmp} (hw : Region.wanted o (yielded ops a.tmps) = true) (hN : o.dst = N) (hy : ∀ w, S w → (execOp a.eval o).run P w = .ok (.value v) w) {a' : Act} (ha : a.put N v = a') (h : wpIn P ops Q S ks r a' w) : wpIn P ops Q S (1 :: ks) (o :: r) a w :=
  ⟨v, .inl ⟨hw, hy⟩, by rw [hN, ha]; exact h⟩
theorem in_2 (hw : Region.wanted o (yielded ops a.tmps) = true) (h : ∀ K : Act → World → Prop, Shut (∀ a' w', S w' → wpIn P ops Q S ks r a' w' → K a' w') → Oper.wp P o a w K Q) : wpIn P ops Q S (2 :: ks) (o :: r) a w := by
  intro K hK
  rw [if_pos hw]
  exact h K hK
theorem in_3 (hw : Region.wanted o (yielded ops a.tmps) = true) (h : ∀ K : Act → World → Prop, Shut (∀ a' w', wpOut P ops Q ks r a' w' → K a' w') → Oper.wp P o a w K Q) : wpIn P ops Q S (3 :: ks) (o :: r) a w := by
  intro K hK
  rw [if_pos hw]
  exact h K hK
theorem out_0 {v : Value} {N : Option Tmp} (hw : Region.wanted o (yielded ops a.tmps) = true) (hN : o.dst = N) (hy : ∀ w, (execOp a.eval o).run P w = .ok (.value v) w) {a' : Act} (ha : a.put N v = a') (h : wpOut P ops Q ks r a' w) : wpOut P ops Q (0 :: ks) (o :: r) a w :=
  ⟨v, .inl ⟨hw, hy⟩, by rw [hN, ha]; exact h⟩
theorem in_nil (h : Q .normal a w) : wpIn P ops Q S [] [] a w := h
theorem out_nil (h : Q .normal a w) : wpOut P ops Q [] [] a w := h
end
end Go.Proofs.Ytjggkaieagbjmaa.Hand
