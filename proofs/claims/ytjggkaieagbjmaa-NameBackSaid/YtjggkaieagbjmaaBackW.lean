/- The law NameBack, walked, over its arguments as the row gives them. -/
import Derived.Test.YtjggkaieagbjmaaBack
import Derived.Test.YtjggkaieagbjmaaOpenE
import Derived.Test.YtjggkaieagbjmaaOpenP
namespace Go.Proofs.Ytjggkaieagbjmaa.Hand
set_option linter.unusedVariables false
open Go.Shelf Go.RowKit Go.Proofs.YtjggkaieagbjmaaW.PrintWords Go.Proofs.YtjggkaieagbjmaaW.PrintLast Go.Proofs.YtjggkaieagbjmaaW.PrintMore

theorem back_walk (A0 : Option Addr) (c0 : Nat) (l : List Ent) (A1 : Option Addr) (c1 : Nat) (k : List Prt) (s t : Int) (w : World) (hl : Ents w A0 l) (hc : l.length ≤ c0) (hn : l.length * 32 ≤ 140737488351232) (h47 : ∀ j, j < l.length → (entAt l j).name.size ≤ 1152921504606846976)
    (hk : Prts w A1 k) (hck : k.length ≤ c1) (hnk : k.length * 16 ≤ 140737488351232) (hwf : ∀ j, j < k.length → 0 ≤ (prtAt k j).hash ∧ (prtAt k j).hash < 4294967296) (w2 : (Lit.int .u32 s).wf = true) (w3 : (Lit.int .u32 t).wf = true) :
    Calls Try.prog 8 #[.slice A0 l.length c0, .slice A1 k.length c1, .int .u32 s, .int .u32 t] w fun e w' => e = .returned (.bool true) ∧ Below w.heap.size w w' :=
  back_calls A0 c0 l A1 c1 k s t w hl hc hn h47 hk hck hnk hwf (wf_u32 w2) (wf_u32 w3)
end Go.Proofs.Ytjggkaieagbjmaa.Hand
