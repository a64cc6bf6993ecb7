/- The law NameLeaves, walked, over its arguments as the row gives them. -/
import Derived.Test.YtjggkaieagbjmaaLeaves
import Derived.Test.YtjggkaieagbjmaaOpenE
import Derived.Test.YtjggkaieagbjmaaOnly
namespace Go.Proofs.Ytjggkaieagbjmaa.Hand
set_option linter.unusedVariables false
open Go.Shelf Go.RowKit Go.Proofs.YtjggkaieagbjmaaW.PrintWords Go.Proofs.YtjggkaieagbjmaaW.PrintLast Go.Proofs.YtjggkaieagbjmaaW.PrintMore

theorem leaves_walk (a0 : Option Addr) (c0 : Nat) (l0 : List Ent) (a1 : Option Addr) (len1 cap1 : Nat) (z1 : List Int) (a2 : Int) (w : World) (he : Ents w a0 l0) (hc : l0.length ≤ c0) (hn : l0.length * 32 ≤ 140737488351232) (h47 : ∀ j, j < l0.length → (entAt l0 j).name.size ≤ 1152921504606846976)
    (w1 : (a1 = none ∧ len1 = 0 ∧ cap1 = 0 ∧ z1 = []) ∨ ∃ x, a1 = some x ∧ len1 ≤ cap1 ∧ cap1 ≤ maxLen ∧ z1.length = cap1 ∧ (∀ i, i < z1.length → w.cell? (x.add i) = some (.int .u8 (z1.getD i 0))) ∧ ∀ n ∈ z1, (Lit.int .u8 n).wf = true)
    (w2 : (Lit.int .u32 a2).wf = true) :
    Calls Try.prog 4 #[.slice a0 l0.length c0, .slice a1 len1 cap1, .int .u32 a2] w fun e w' => e = .returned (.bool true) ∧ Below w.heap.size w w' := by
  obtain ⟨l, rfl, hr, hm, hw, hcb⟩ := ReadsInt.ofRowC w1
  exact leaves_calls a0 c0 l0 a1 cap1 l a2 w he hc hn h47 (Kd.C_of_reads (d := (0 : Int)) (h1 := fun _ => rfl) hr) hcb (allB_wf hw) (wf_u32 w2).1 (wf_u32 w2).2
end Go.Proofs.Ytjggkaieagbjmaa.Hand
