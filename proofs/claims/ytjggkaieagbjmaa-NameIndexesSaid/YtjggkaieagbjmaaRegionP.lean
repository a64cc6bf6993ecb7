/- A statement whose order is open, walked in an order that is told (calls that wait for what else may come up): one closed check says that this suffices. -/
import Derived.Test.YtjggkaieagbjmaaRegion
namespace Go.Proofs.Ytjggkaieagbjmaa.Hand
set_option linter.unusedVariables false
set_option linter.unusedSimpArgs false
open Go.RowKit Go.Proofs.YtjggkaieagbjmaaW.PrintWords Go.Proofs.YtjggkaieagbjmaaW.PrintLast Go.Proofs.YtjggkaieagbjmaaW.PrintMore
section
variable {P : Program} {md : Region.Mode} {ops : Array Oper} {Q : Exit → Act → World → Prop} {S : World → Prop}

def ordP (md : Region.Mode) (ops : Array Oper) : Array Bool → List Nat → List Nat → Bool
  | l, i :: is, k :: ks => (match k with
      | 0 => anyB md ops l (l.setIfInBounds i true) i
      | 1 => takeB md ops [] l (l.setIfInBounds i true) i
      | _ => readyB md ops l (l.setIfInBounds i true) i) && ordP md ops (l.setIfInBounds i true) is ks
  | l, [], [] => Region.ready md ops l == []
  | _, _, _ => false
def wpInP (P : Program) (ops : Array Oper) (Q : Exit → Act → World → Prop) (S : World → Prop) : List Nat → List Nat → Act → World → Prop
  | i :: is, 0 :: ks, a, w => ∃ o, ops[i]? = some o ∧ ∃ v, Yields P ops o v a ∧ wpInP P ops Q S is ks (a.put o.dst v) w
  | i :: is, 1 :: ks, a, w => ∃ o, ops[i]? = some o ∧ ∃ v, YieldsIf P ops S o v a ∧ wpInP P ops Q S is ks (a.put o.dst v) w
  | i :: is, (_ + 2) :: ks, a, w => ∃ o, ops[i]? = some o ∧ ∀ K : Act → World → Prop, Shut (∀ a' w', S w' → wpInP P ops Q S is ks a' w' → K a' w') → if Region.wanted o (yielded ops a.tmps) = true then Oper.wp P o a w K Q else K (a.put o.dst undef) w
  | _, _, a, w => Q .normal a w
theorem wpInP_sound (hQ : ∀ c (a : Act) t w, Q (.panic c) { a with tmps := t } w → Q (.panic c) a w) (is : List Nat) :
    ∀ (ks : List Nat) (l : Array Bool) (a : Act) (w : World), ordP md ops l is ks = true → S w → wpInP P ops Q S is ks a w → wpAnyLast P md ops Q S [] is.length l a w := by
  induction is with
  | nil =>
    intro ks l a w ho _ h
    cases ks with
    | nil => exact done_ ho (by simpa [wpInP] using h)
    | cons => simp [ordP] at ho
  | cons i is ih =>
    intro ks l a w ho hS h
    cases ks with
    | nil => simp [ordP] at ho
    | cons k ks =>
      simp only [ordP, Bool.and_eq_true] at ho
      obtain ⟨h1, h2⟩ := ho
      match k with
      | 0 =>
        obtain ⟨o, hi, v, hy, h⟩ := h
        exact pure_ _ hi rfl h1 (put_panic hQ _ _) hy rfl (ih ks _ _ w h2 hS h)
      | 1 =>
        obtain ⟨o, hi, v, hy, h⟩ := h
        exact take_ _ hi rfl h1 (put_panic hQ _ _) hy hS rfl (ih ks _ _ w h2 hS h)
      | k + 2 =>
        obtain ⟨o, hi, h⟩ := h
        exact one_ _ hi rfl h1 (by simp) (fun K hK => h K (fun a' w' hS' h' => hK a' w' hS' (fun hS'' => ih ks _ a' w' h2 hS' h')))
/-- A statement whose order is open, in the order 'is'. ks: the operations' kinds, in that order. -/
theorem wp_region_ord {id : Nat} {l : List Oper} {a : Act} {w : World} (is ks : List Nat) (S : World → Prop) (hm : P.follows .mixedOrders = true) (hl : is.length = l.length) (ho : ordP .any l.toArray (Array.replicate l.length false) is ks = true)
    (hQ : ∀ c (a : Act) t w, Q (.panic c) { a with tmps := t } w → Q (.panic c) a w) (hS : S w.drew) (h : wpInP P l.toArray Q S is ks a w.drew) : (Code.region id l.toArray true).wp P Q a w := by
  refine start_ (S := S) (ds := []) _ hm rfl rfl hS (fun _ => ?_)
  have := wpInP_sound (P := P) (md := .any) (ops := l.toArray) (S := S) hQ is ks _ a w.drew ho hS h
  rw [hl] at this
  exact this

variable {o : Oper} {i : Nat} {is ks : List Nat} {a : Act} {w : World}
theorem inP_off0 (ho : ops[i]? = some o) (hw : Region.wanted o (yielded ops a.tmps) = false) (h : wpInP P ops Q S is ks (a.put o.dst undef) w) : wpInP P ops Q S (i :: is) (0 :: ks) a w := ⟨o, ho, undef, .inr ⟨hw, rfl⟩, h⟩
theorem inP_off1 (ho : ops[i]? = some o) (hw : Region.wanted o (yielded ops a.tmps) = false) (h : wpInP P ops Q S is ks (a.put o.dst undef) w) : wpInP P ops Q S (i :: is) (1 :: ks) a w := ⟨o, ho, undef, .inr ⟨hw, rfl⟩, h⟩
theorem inP_off2 (hS : S w) (ho : ops[i]? = some o) (hw : Region.wanted o (yielded ops a.tmps) = false) (h : wpInP P ops Q S is ks (a.put o.dst undef) w) : wpInP P ops Q S (i :: is) (2 :: ks) a w := by
  refine ⟨o, ho, fun K hK => ?_⟩
  rw [if_neg (by rw [hw]; simp)]
  exact hK _ _ hS h
theorem inP_0 {v : Value} {N : Option Tmp} (ho : ops[i]? = some o) (hw : Region.wanted o (yielded ops a.tmps) = true) (hN : o.dst = N) (hy : ∀ w, (execOp a.eval o).run P w = .ok (.value v) w) {a' : Act} (ha : a.put N v = a') (h : wpInP P ops Q S is ks a' w) : wpInP P ops Q S (i :: is) (0 :: ks) a w :=
  ⟨o, ho, v, .inl ⟨hw, hy⟩, by rw [hN, ha]; exact h⟩
theorem inP_1 {v : Value} {N : Option Tmp} (ho : ops[i]? = some o) (hw : Region.wanted o (yielded ops a.tmps) = true) (hN : o.dst = N) (hy : ∀ w, S w → (execOp a.eval o).run P w = .ok (.value v) w) {a' : Act} (ha : a.put N v = a') (h : wpInP P ops Q S is ks a' w) : wpInP P ops Q S (i :: is) (1 :: ks) a w :=
  ⟨o, ho, v, .inl ⟨hw, hy⟩, by rw [hN, ha]; exact h⟩
theorem inP_2 (ho : ops[i]? = some o) (hw : Region.wanted o (yielded ops a.tmps) = true) (h : ∀ K : Act → World → Prop, Shut (∀ a' w', S w' → wpInP P ops Q S is ks a' w' → K a' w') → Oper.wp P o a w K Q) : wpInP P ops Q S (i :: is) (2 :: ks) a w := by
  refine ⟨o, ho, fun K hK => ?_⟩
  rw [if_pos hw]
  exact h K hK
/-- The operation at a place, read off the list (so that it comes out written out). -/
def nth : List Oper → Nat → Option Oper
  | [], _ => none
  | o :: _, 0 => some o
  | _ :: r, n + 1 => nth r n
theorem nth_get (l : List Oper) (i : Nat) : nth l i = l[i]? := by
  induction l generalizing i with
  | nil => rfl
  | cons o r ih => cases i with
    | zero => rfl
    | succ n => exact ih n
theorem nth_ok (h : nth ops.toList i = some o) : ops[i]? = some o := by rw [nth_get] at h; rw [← Array.getElem?_toList]; exact h
theorem inQ_off0 (ho : nth ops.toList i = some o) (hw : Region.wanted o (yielded ops a.tmps) = false) (h : wpInP P ops Q S is ks (a.put o.dst undef) w) : wpInP P ops Q S (i :: is) (0 :: ks) a w := inP_off0 (nth_ok ho) hw h
theorem inQ_off1 (ho : nth ops.toList i = some o) (hw : Region.wanted o (yielded ops a.tmps) = false) (h : wpInP P ops Q S is ks (a.put o.dst undef) w) : wpInP P ops Q S (i :: is) (1 :: ks) a w := inP_off1 (nth_ok ho) hw h
theorem inQ_off2 (hS : S w) (ho : nth ops.toList i = some o) (hw : Region.wanted o (yielded ops a.tmps) = false) (h : wpInP P ops Q S is ks (a.put o.dst undef) w) : wpInP P ops Q S (i :: is) (2 :: ks) a w := inP_off2 hS (nth_ok ho) hw h
theorem inQ_0 {v : Value} {N : Option Tmp} (ho : nth ops.toList i = some o) (hw : Region.wanted o (yielded ops a.tmps) = true) (hN : o.dst = N) (hy : ∀ w, (execOp a.eval o).run P w = .ok (.value v) w) {a' : Act} (ha : a.put N v = a') (h : wpInP P ops Q S is ks a' w) : wpInP P ops Q S (i :: is) (0 :: ks) a w := inP_0 (nth_ok ho) hw hN hy ha h
theorem inQ_1 {v : Value} {N : Option Tmp} (ho : nth ops.toList i = some o) (hw : Region.wanted o (yielded ops a.tmps) = true) (hN : o.dst = N) (hy : ∀ w, S w → (execOp a.eval o).run P w = .ok (.value v) w) {a' : Act} (ha : a.put N v = a') (h : wpInP P ops Q S is ks a' w) : wpInP P ops Q S (i :: is) (1 :: ks) a w := inP_1 (nth_ok ho) hw hN hy ha h
theorem inQ_2 (ho : nth ops.toList i = some o) (hw : Region.wanted o (yielded ops a.tmps) = true) (h : ∀ K : Act → World → Prop, Shut (∀ a' w', S w' → wpInP P ops Q S is ks a' w' → K a' w') → Oper.wp P o a w K Q) : wpInP P ops Q S (i :: is) (2 :: ks) a w := inP_2 (nth_ok ho) hw h
theorem inP_nil (h : Q .normal a w) : wpInP P ops Q S [] [] a w := h
end
end Go.Proofs.Ytjggkaieagbjmaa.Hand
