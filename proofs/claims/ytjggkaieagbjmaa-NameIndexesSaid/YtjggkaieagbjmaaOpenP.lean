/- An argument that is a slice of parts, opened. -/
import Derived.Test.YtjggkaieagbjmaaUidx
import Derived.Deep.Slices
import Derived.Deep.Fields
import Derived.ChangeSame
import Derived.SizedLaws
namespace Go.Proofs.Ytjggkaieagbjmaa.Hand
set_option linter.unusedVariables false
set_option linter.unusedSimpArgs false
open Go.ChangeShapes Go.WideShapes Go.Deep Go.RowKit

section
variable {H : Type} {enc : TypeId × Value → H} {w : World} {base : Nat} {spare : Nat → Bool} {held : Bool}
theorem prts_nil (w : World) {A : Option Addr} : Prts w A [] := ⟨by simp, fun j hj => absurd hj (by simp)⟩
theorem open_prt {t : TypeId} {f0 f1 : Field} {fuel : Nat} {cs : List Value} {x : DataW H × List MemPlace} (he : Try.prog.underlying t = some (.struct #[f0, f1]))
    (hone : oneCellFields Try.prog #[f0, f1] = true) (h0 : Try.prog.underlying f0.type = some (.int .u32)) (h1 : Try.prog.underlying f1.type = some (.int .i64))
    (h : DataW.trod enc Try.prog w base spare held fuel t cs = some x) : ∃ e : Prt, cs[0]? = some (.int .u32 e.hash) ∧ cs[1]? = some (.int .i64 e.block) ∧ (Lit.int .u32 e.hash).wf = true := by
  obtain ⟨ys, n, _, hxx, _, hyl, hf⟩ := DataW.trod_struct he h
  have hl : ys.length = 2 := hyl
  have g0 := hf 0 f0 rfl
  have g1 := hf 1 f1 rfl
  obtain ⟨o0, k0⟩ := hone_of hone 0 f0 rfl
  obtain ⟨o1, k1⟩ := hone_of hone 1 f1 rfl
  rw [o0, k0, List.getElem?_eq_getElem (by omega)] at g0
  rw [o1, k1, List.getElem?_eq_getElem (by omega)] at g1
  obtain ⟨a, ea, h2, h3⟩ := DataW.trod_int h0 g0
  obtain ⟨b, eb, _, _⟩ := DataW.trod_int h1 g1
  have hat : ∀ (j : Nat) (v : Value), (cs.drop j).take 1 = [v] → cs[j]? = some v := fun j v hv => by
    have : ((cs.drop j).take 1)[0]? = some v := by rw [hv]; rfl
    simpa [List.getElem?_take, List.getElem?_drop] using this
  exact ⟨⟨a, b⟩, hat 0 _ ea, hat 1 _ eb, by first | exact h3 | exact h2 | exact h2.2 | exact h3.2⟩
theorem cells_prt : Try.prog.cellsOf 75 = 2 := by kernel_rfl
theorem wf_u32' {x : Int} (h : (Lit.int .u32 x).wf = true) : 0 ≤ x ∧ x < 4294967296 := by
  simp [Lit.wf, IntKind.min, IntKind.max, IntKind.bits, IntKind.signed] at h
  omega
theorem open_prts {fuel : Nat} {cs : List Value} {x : DataW H × List MemPlace} (h : DataW.trod enc Try.prog w base spare held fuel 46 cs = some x) :
    cs = [.slice none 0 0] ∨ ∃ (a : Addr) (cap : Nat) (l : List Prt) (elems sp : List (DataW H)), cs = [.slice (some a) l.length cap] ∧ l.length ≤ cap ∧ cap ≤ maxLen ∧ (∀ j, j < l.length → 0 ≤ (prtAt l j).hash ∧ (prtAt l j).hash < 4294967296) ∧ x.1 = .slice elems sp ∧ elems.length = l.length ∧
      ∀ j, j < l.length → w.cell? (a.add (j * 2)) = some (.int .u32 (prtAt l j).hash) ∧ w.cell? (a.add (j * 2 + 1)) = some (.int .i64 (prtAt l j).block) := by
  rcases open_slice Try.underlying46 h with ⟨h0, _⟩ | ⟨a, len, cap, m, n, D, Pl, hcs, hb, hl, hm, hmm, hx, hi⟩
  · exact .inl h0
  · have hle : len ≤ m := by rw [hmm]; split <;> omega
    have hall : ∀ i : Nat, ∃ e : Prt, i < len → w.cell? (a.add (i * 2)) = some (.int .u32 e.hash) ∧ w.cell? (a.add (i * 2 + 1)) = some (.int .i64 e.block) ∧ 0 ≤ e.hash ∧ e.hash < 4294967296 := fun i => by
      by_cases hlt : i < len
      · obtain ⟨cs', hc, ht⟩ := hi i (by omega)
        obtain ⟨e, e0, e1, e2⟩ := open_prt Try.underlying75 (by kernel_rfl) Try.underlying26 Try.underlying3 ht
        rw [cells_prt] at hc
        obtain ⟨_, hcl, hat⟩ := World.cells?_some hc
        refine ⟨e, fun _ => ⟨?_, ?_, wf_u32' e2⟩⟩
        · have := hat 0 (by omega)
          rw [Go.Deep.add_add, e0] at this
          exact this
        · have := hat 1 (by omega)
          rw [Go.Deep.add_add, e1] at this
          exact this
      · exact ⟨⟨0, 0⟩, fun h => absurd h hlt⟩
    obtain ⟨F, hF⟩ := Classical.axiomOfChoice hall
    have hlen : ((List.range len).map F).length = len := by simp
    have hat : ∀ j, j < len → prtAt ((List.range len).map F) j = F j := fun j hj => by
      unfold prtAt
      simp [List.getD_eq_getElem?_getD, hj]
    refine .inr ⟨a, cap, (List.range len).map F, _, _, by rw [hlen]; exact hcs, by rw [hlen]; exact hl, hm, fun j hj => ?_, by rw [hx], by simp, fun j hj => ?_⟩
    · rw [hlen] at hj
      rw [hat j hj]
      exact (hF j hj).2.2
    · rw [hlen] at hj
      rw [hat j hj]
      exact ⟨(hF j hj).1, (hF j hj).2.1⟩
theorem prts_open {a : Addr} {l : List Prt} (hs : l.length ≤ 1125899906842624) (h : ∀ j, j < l.length → w.cell? (a.add (j * 2)) = some (.int .u32 (prtAt l j).hash) ∧ w.cell? (a.add (j * 2 + 1)) = some (.int .i64 (prtAt l j).block)) : Prts w (some a) l :=
  ⟨hs, fun j hj => by
    obtain ⟨h0, h1⟩ := h j hj
    refine ⟨a, rfl, h0, ?_⟩
    rw [← Go.Deep.add_add] at h1
    exact h1⟩
end
end Go.Proofs.Ytjggkaieagbjmaa.Hand
