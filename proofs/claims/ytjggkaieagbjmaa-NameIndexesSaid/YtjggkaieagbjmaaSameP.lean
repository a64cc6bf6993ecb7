/- The law's comparison of parts: the same list is the same. -/
import Derived.Test.YtjggkaieagbjmaaUidx
namespace Go.Proofs.Ytjggkaieagbjmaa.Hand
set_option linter.unusedVariables false
set_option linter.unusedSimpArgs false
open Go.Shelf Go.RowKit Go.Proofs.YtjggkaieagbjmaaW.PrintWords Go.Proofs.YtjggkaieagbjmaaW.PrintLast Go.Proofs.YtjggkaieagbjmaaW.PrintMore

set_option maxHeartbeats 1000000 in
set_option maxRecDepth 100000 in
theorem same_prts_calls (A B : Option Addr) (c d : Nat) (l : List Prt) (w : World) (hl : Prts w A l) (hm : Prts w B l) :
    Calls Try.prog 31 #[.slice A l.length c, .slice B l.length d] w fun e w' => e = .returned (.bool true) ∧ Below w.heap.size w w' := by
  have HL := Aside0.mk hl
  have HM := Aside0.mk hm
  have hsz := hl.size
  clear hl hm
  go_enter Try.func31, Try.ntmps31
  go_wp2
  go_loopg [5] l.length (fun g i wr => ∃ k : Nat, k + g = l.length ∧ i = .int .i64 k ∧ Aside0 (Below w.heap.size w wr))
  case atStart => exact ⟨0, by omega, rfl, ⟨Below.refl _ _⟩⟩
  case round =>
    obtain ⟨k, hk, rfl, HB⟩ := hrel
    cases gk with
    | zero =>
      obtain rfl : k = l.length := by omega
      go_wp2
      go_ret
      exact ⟨rfl, HB.out⟩
    | succ g =>
      obtain ⟨ad, rfl, h1, h2⟩ := (HL.out.below HB.out).cells k (by omega)
      obtain ⟨bd, rfl, g1, g2⟩ := (HM.out.below HB.out).cells k (by omega)
      generalize prtAt l k = x at h1 h2 g1 g2
      have i1 : (k : Int) < (l.length : Int) := by omega
      have i2 : k < l.length := by omega
      go_wp2
      go_quiet (fail)
      go_wp2
      go_roundg g
      case measure => omega
      case rel => exact ⟨k + 1, by omega, by go_num, ⟨pw_below_drewN HB.out _⟩⟩
end Go.Proofs.Ytjggkaieagbjmaa.Hand
