/- An argument that is a slice of entries, opened. -/
import Derived.Test.YtjggkaieagbjmaaHalves
import Derived.Deep.Slices
import Derived.Deep.Fields
import Derived.ChangeSame
import Derived.SizedLaws
namespace Go.Proofs.Ytjggkaieagbjmaa.Hand
set_option linter.unusedVariables false
set_option linter.unusedSimpArgs false
open Go.ChangeShapes Go.WideShapes Go.Deep Go.RowKit

section
variable {H : Type} {enc : TypeId × Value → H} {w : World} {base : Nat} {spare : Nat → Bool} {held : Bool}
theorem open_ent {t : TypeId} {f0 f1 f2 : Field} {fuel : Nat} {cs : List Value} {x : DataW H × List MemPlace} (he : Try.prog.underlying t = some (.struct #[f0, f1, f2]))
    (hone : oneCellFields Try.prog #[f0, f1, f2] = true) (h0 : Try.prog.underlying f0.type = some (.int .i64)) (h1 : Try.prog.underlying f1.type = some (.int .i64)) (h2 : Try.prog.underlying f2.type = some .string)
    (h : DataW.trod enc Try.prog w base spare held fuel t cs = some x) : ∃ e : Ent, cs[0]? = some (.int .i64 e.ino) ∧ cs[1]? = some (.int .i64 e.kind) ∧ cs[2]? = some (.string e.name) ∧ ∃ ds, x.1 = .agg ds ∧ ds[2]? = some (.lit (.string e.name.data.toList)) := by
  obtain ⟨ys, n, _, hxx, _, hyl, hf⟩ := DataW.trod_struct he h
  have hl : ys.length = 3 := hyl
  have g0 := hf 0 f0 rfl
  have g1 := hf 1 f1 rfl
  have g2 := hf 2 f2 rfl
  obtain ⟨o0, k0⟩ := hone_of hone 0 f0 rfl
  obtain ⟨o1, k1⟩ := hone_of hone 1 f1 rfl
  obtain ⟨o2, k2⟩ := hone_of hone 2 f2 rfl
  rw [o0, k0, List.getElem?_eq_getElem (by omega)] at g0
  rw [o1, k1, List.getElem?_eq_getElem (by omega)] at g1
  rw [o2, k2, List.getElem?_eq_getElem (by omega)] at g2
  obtain ⟨a, ea, _, _⟩ := DataW.trod_int h0 g0
  obtain ⟨b, eb, _, _⟩ := DataW.trod_int h1 g1
  obtain ⟨s, es, hy2, _⟩ := DataW.trod_string h2 g2
  have hat : ∀ (j : Nat) (v : Value), (cs.drop j).take 1 = [v] → cs[j]? = some v := fun j v hv => by
    have : ((cs.drop j).take 1)[0]? = some v := by rw [hv]; rfl
    simpa [List.getElem?_take, List.getElem?_drop] using this
  exact ⟨⟨a, b, s⟩, hat 0 _ ea, hat 1 _ eb, hat 2 _ es, ys.map (·.1), by rw [hxx], by rw [List.getElem?_map, List.getElem?_eq_getElem (by omega), hy2]; rfl⟩
theorem weightsAll_in {P : Program} {e : TypeId} : ∀ {l : List (DataW H)} {j : Nat} {d : DataW H}, l[j]? = some d → ∀ n ∈ d.weights P e, n ∈ DataW.weightsAll P e l
  | [], _, _, h, _, _ => by simp at h
  | d' :: r, 0, d, h, n, hn => by
    simp only [List.getElem?_cons_zero, Option.some.injEq] at h
    subst h
    simp only [DataW.weightsAll, List.mem_append]
    exact Or.inl hn
  | d' :: r, j + 1, d, h, n, hn => by
    simp only [List.getElem?_cons_succ] at h
    simp only [DataW.weightsAll, List.mem_append]
    exact Or.inr (weightsAll_in h n hn)
theorem ent_weight {ts : List TypeId} {ds : List (DataW H)} {elems sp fs : List (DataW H)} {i j : Nat} {bytes : List UInt8} (h : (DataW.weightsEach Try.prog ts ds).all (· ≤ reachBytes) = true) (ht : ts[i]? = some 29) (hd : ds[i]? = some (.slice elems sp)) (he : elems[j]? = some (.agg fs)) (hf : fs[2]? = some (.lit (.string bytes))) : bytes.length ≤ reachBytes := by
  refine of_decide_eq_true (List.all_eq_true.1 h _ (DataW.weights_mem_each ht hd _ ?_))
  simp only [DataW.weights, Try.underlying29, List.mem_cons, List.mem_append]
  refine Or.inr (Or.inl (weightsAll_in he _ ?_))
  simp only [DataW.weights, Try.underlying59]
  exact DataW.weights_mem_each (j := 2) (t := 9) rfl hf _ (by simp [DataW.weights])
theorem cells_ent : Try.prog.cellsOf 59 = 3 := by kernel_rfl
theorem open_ents {fuel : Nat} {cs : List Value} {x : DataW H × List MemPlace} (h : DataW.trod enc Try.prog w base spare held fuel 29 cs = some x) :
    cs = [.slice none 0 0] ∨ ∃ (a : Addr) (cap : Nat) (l : List Ent) (elems sp : List (DataW H)), cs = [.slice (some a) l.length cap] ∧ l.length ≤ cap ∧ cap ≤ maxLen ∧ (∀ j, j < l.length → ∃ ds, elems[j]? = some (.agg ds) ∧ ds[2]? = some (.lit (.string (entAt l j).name.data.toList))) ∧ x.1 = .slice elems sp ∧ elems.length = l.length ∧
      ∀ j, j < l.length → w.cell? (a.add (j * 3)) = some (.int .i64 (entAt l j).ino) ∧ w.cell? (a.add (j * 3 + 1)) = some (.int .i64 (entAt l j).kind) ∧ w.cell? (a.add (j * 3 + 2)) = some (.string (entAt l j).name) := by
  rcases open_slice Try.underlying29 h with ⟨h0, _⟩ | ⟨a, len, cap, m, n, D, Pl, hcs, hb, hl, hm, hmm, hx, hi⟩
  · exact .inl h0
  · have hle : len ≤ m := by rw [hmm]; split <;> omega
    have hall : ∀ i : Nat, ∃ e : Ent, i < len → w.cell? (a.add (i * 3)) = some (.int .i64 e.ino) ∧ w.cell? (a.add (i * 3 + 1)) = some (.int .i64 e.kind) ∧ w.cell? (a.add (i * 3 + 2)) = some (.string e.name) ∧ ∃ ds, D i = .agg ds ∧ ds[2]? = some (.lit (.string e.name.data.toList)) := fun i => by
      by_cases hlt : i < len
      · obtain ⟨cs', hc, ht⟩ := hi i (by omega)
        obtain ⟨e, e0, e1, e2, e3⟩ := open_ent Try.underlying59 (by kernel_rfl) Try.underlying3 Try.underlying3 Try.underlying9 ht
        rw [cells_ent] at hc
        obtain ⟨_, hcl, hat⟩ := World.cells?_some hc
        refine ⟨e, fun _ => ⟨?_, ?_, ?_, e3⟩⟩
        · have := hat 0 (by omega)
          rw [Go.Deep.add_add, e0] at this
          exact this
        · have := hat 1 (by omega)
          rw [Go.Deep.add_add, e1] at this
          exact this
        · have := hat 2 (by omega)
          rw [Go.Deep.add_add, e2] at this
          exact this
      · exact ⟨⟨0, 0, ⟨#[]⟩⟩, fun h => absurd h hlt⟩
    obtain ⟨F, hF⟩ := Classical.axiomOfChoice hall
    have hlen : ((List.range len).map F).length = len := by simp
    have hat : ∀ j, j < len → entAt ((List.range len).map F) j = F j := fun j hj => by
      unfold entAt
      simp [List.getD_eq_getElem?_getD, hj]
    refine .inr ⟨a, cap, (List.range len).map F, _, _, by rw [hlen]; exact hcs, by rw [hlen]; exact hl, hm, fun j hj => ?_, by rw [hx], by simp, fun j hj => ?_⟩
    · rw [hlen] at hj
      rw [hat j hj]
      obtain ⟨ds, h1, h2⟩ := (hF j hj).2.2.2
      exact ⟨ds, by simp [hj, h1], h2⟩
    · rw [hlen] at hj
      rw [hat j hj]
      exact ⟨(hF j hj).1, (hF j hj).2.1, (hF j hj).2.2.1⟩
theorem ents_open {a : Addr} {l : List Ent} (hs : l.length ≤ 1125899906842624) (h : ∀ j, j < l.length → w.cell? (a.add (j * 3)) = some (.int .i64 (entAt l j).ino) ∧ w.cell? (a.add (j * 3 + 1)) = some (.int .i64 (entAt l j).kind) ∧ w.cell? (a.add (j * 3 + 2)) = some (.string (entAt l j).name)) : Ents w (some a) l :=
  ⟨hs, fun j hj => by
    obtain ⟨h0, h1, h2⟩ := h j hj
    refine ⟨a, rfl, h0, ?_, ?_⟩
    · rw [← Go.Deep.add_add] at h1
      exact h1
    · rw [← Go.Deep.add_add] at h2
      exact h2⟩
end
end Go.Proofs.Ytjggkaieagbjmaa.Hand
