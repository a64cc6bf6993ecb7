/- Package name: what a block of parts is, by plain functions. -/
import Derived.Test.YtjggkaieagbjmaaUnp1
namespace Go.Proofs.Ytjggkaieagbjmaa.Hand
set_option linter.unusedVariables false
set_option linter.unusedSimpArgs false
open Go.Shelf Go.RowKit Go.Proofs.YtjggkaieagbjmaaW.PrintWords Go.Proofs.YtjggkaieagbjmaaW.PrintLast Go.Proofs.YtjggkaieagbjmaaW.PrintMore

/-- A part: the hash that it begins with, its block. -/
structure Prt where
  hash : Int
  block : Int
def prtAt (l : List Prt) (j : Nat) : Prt := l.getD j ⟨0, 0⟩
/-- A slice of parts that is read. -/
structure Prts (w : World) (A : Option Addr) (l : List Prt) : Prop where
  size : l.length ≤ 1125899906842624
  cells : ∀ j, j < l.length → ∃ ad, A = some ad ∧ w.cell? (ad.add (j * 2)) = some (.int .u32 (prtAt l j).hash) ∧ w.cell? ⟨(ad.add (j * 2)).block, (ad.add (j * 2)).off + 1, none⟩ = some (.int .i64 (prtAt l j).block)
theorem Prts.below {w w1 : World} {A : Option Addr} {l : List Prt} (h : Prts w A l) (hb : Below w.heap.size w w1) : Prts w1 A l :=
  ⟨h.size, fun j hj => by
    obtain ⟨ad, e, h1, h2⟩ := h.cells j hj
    exact ⟨ad, e, pw_cell_below hb h1, pw_cell_below hb h2⟩⟩

/-- Is block j among the first k? -/
def seenB (l : List Prt) (k j : Nat) : Bool := (l.take k).any fun p => p.block == (j : Int)
theorem seenB_snoc (l : List Prt) (k j : Nat) (hk : k < l.length) : seenB l (k + 1) j = (seenB l k j || (prtAt l k).block == (j : Int)) := by
  unfold seenB prtAt
  rw [List.take_succ_eq_append_getElem hk, List.any_append]
  simp [List.getD_eq_getElem?_getD, hk]
/-- May part k of a list be? -/
def prtOk (l : List Prt) (k : Nat) : Prop :=
  ¬ (prtAt l k).block < 1 ∧ ¬ 255 < (prtAt l k).block ∧ seenB l k (prtAt l k).block.toNat = false ∧ (0 < k → (prtAt l (k - 1)).hash < (prtAt l k).hash)
instance (l : List Prt) (k : Nat) : Decidable (prtOk l k) := by unfold prtOk; infer_instance
def prtsOk (l : List Prt) : Prop := ∀ k, k < l.length → prtOk l k
instance (l : List Prt) : Decidable (prtsOk l) := by unfold prtsOk; infer_instance
def prtB (x : Prt) : List Int := [x.hash % 256, x.hash / 256 % 256, x.hash / 65536 % 256, x.hash / 16777216 % 256, x.block % 256, x.block / 256 % 256]
def pidxB (l : List Prt) : List Int := [2, (l.length : Int) % 256] ++ l.flatMap prtB
/-- What PackIndex answers. -/
def pidxI (l : List Prt) (s : Int) : List Int × Int :=
  if l.length < 1 ∨ 40 < l.length ∨ (prtAt l 0).hash ≠ 0 then ([], 22) else if prtsOk l then (sealL (pad (pidxB l)) s, 0) else ([], 22)
theorem prtB_length (x : Prt) : (prtB x).length = 6 := rfl
theorem prtsB_length (l : List Prt) : (l.flatMap prtB).length = 6 * l.length := by
  induction l with
  | nil => rfl
  | cons x l ih => rw [List.flatMap_cons, List.length_append, ih, prtB_length, List.length_cons]; omega
theorem prtB_snoc (l : List Prt) (k : Nat) (h : k < l.length) : (l.take (k + 1)).flatMap prtB = (l.take k).flatMap prtB ++ prtB (prtAt l k) := by
  unfold prtAt
  rw [List.take_succ_eq_append_getElem h, List.flatMap_append]
  simp [List.getD_eq_getElem?_getD, h]
theorem allB_pidx (l : List Prt) (s : Int) : allB (pidxI l s).1 := by
  unfold pidxI
  split
  · intro y hy; cases hy
  · split
    · refine allB_lay (allB_pad (allB_append (fun y hy => ?_) (fun y hy => ?_))) _ _ _
      · simp only [List.mem_cons, List.not_mem_nil, or_false] at hy
        rcases hy with rfl | rfl <;> omega
      · obtain ⟨x, _, hx⟩ := List.mem_flatMap.1 hy
        unfold prtB at hx
        simp only [List.mem_cons, List.not_mem_nil, or_false] at hx
        rcases hx with rfl | rfl | rfl | rfl | rfl | rfl <;> omega
    · intro y hy; cases hy
theorem prtOk_not {l : List Prt} {k : Nat} (hk : k < l.length) (h : ¬ prtOk l k) (s : Int) : pidxI l s = ([], 22) := by
  unfold pidxI
  split
  · rfl
  · rw [if_neg (fun hh => h (hh k hk))]

/-- The table of blocks that are taken. -/
def Seen (w : World) (g : Nat) (l : List Prt) (k : Nat) : Prop := ∃ cur : Array Value, w.heap[g]? = some (.cells cur 74 (0, 0)) ∧ cur.size = 256 ∧ ∀ j, j < 256 → cur[j]? = some (.bool (seenB l k j))
theorem Seen.cell {w : World} {g : Nat} {l : List Prt} {k : Nat} (h : Seen w g l k) (j : Nat) (hj : j < 256) : w.cell? ⟨g, j, none⟩ = some (.bool (seenB l k j)) := by
  obtain ⟨cur, h1, h2, h3⟩ := h
  rw [cell_of_row w g j _ _ _ h1, h3 j hj]
theorem Seen.free {w : World} {g : Nat} {l : List Prt} {k : Nat} (h : Seen w g l k) (j : Nat) : w.frozen? ⟨g, j, none⟩ = false := by
  obtain ⟨cur, h1, h2, h3⟩ := h
  simp [World.frozen?, h1]
theorem Seen.lt {w : World} {g : Nat} {l : List Prt} {k : Nat} (h : Seen w g l k) : g < w.heap.size := by
  obtain ⟨cur, h1, h2, h3⟩ := h
  exact lt_of_obj h1
theorem Seen.kept {w w1 : World} {g : Nat} {l : List Prt} {k : Nat} (h : Seen w g l k) (hb : w1.heap[g]? = w.heap[g]?) : Seen w1 g l k := by
  obtain ⟨cur, h1, h2, h3⟩ := h
  exact ⟨cur, hb.trans h1, h2, h3⟩
theorem Seen.set {w : World} {g : Nat} {l : List Prt} {k : Nat} (h : Seen w g l k) (b : Nat) (hk : k < l.length) (hb : (prtAt l k).block = b) (h256 : b < 256) : Seen (w.setCell ⟨g, b, none⟩ (.bool true)) g l (k + 1) := by
  obtain ⟨cur, h1, h2, h3⟩ := h
  refine ⟨cur.setIfInBounds b (.bool true), ?_, by simp [h2], fun j hj => ?_⟩
  · unfold World.setCell
    simp only [Array.getElem?_modify, if_true, h1, Option.map_some]
    rfl
  · rw [seenB_snoc l k j hk, hb, Array.getElem?_setIfInBounds]
    by_cases e : b = j
    · subst e
      simp [h2, h256]
    · rw [if_neg e, h3 j hj]
      have : ((b : Int) == (j : Int)) = false := by rw [beq_eq_false_iff_ne]; omega
      rw [this, Bool.or_false]
theorem Own.apart {w : World} {base g : Nat} {l : List Prt} {k : Nat} {v : Value} {q : List Int} (h : Own w base 5 .u8 v q) (hs : Seen w g l k) : v.ownBlock ≠ some g := by
  intro e
  obtain ⟨cur, h1, h2, h3⟩ := hs
  rcases h.2 with ⟨rfl, _⟩ | ⟨g', cap, cur', rfl, hb, hh, _⟩
  · simp [Value.ownBlock] at e
  · have : g' = g := by simpa [Value.ownBlock] using e
    subst this
    rw [hh] at h1
    injection h1 with h1
    injection h1 with _ ht
    exact absurd ht (by decide)
theorem Own.set_other {w : World} {base g b : Nat} {v : Value} {q : List Int} {u : Value} (h : Own w base 5 .u8 v q) (hne : v.ownBlock ≠ some g) : Own (w.setCell ⟨g, b, none⟩ u) base 5 .u8 v q := by
  refine World.ownsRow.kept h (w' := w.setCell ⟨g, b, none⟩ u) (row := some g) ⟨rfl, rfl, rfl, by simp [World.setCell], fun k hk hn => Below.heap_setCell w ⟨g, b, none⟩ u k (fun e => hn (by rw [e]))⟩ (.inr hne)
end Go.Proofs.Ytjggkaieagbjmaa.Hand
