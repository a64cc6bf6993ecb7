/- Own texts and printed words of the kit, put together and trimmed by a program of mine (merge.py). -/
import Derived.Test.YtkmhilhfmfmckaaGreatDoorR13
namespace Go.Proofs.YtkmhilhfmfmckaaGreatDoor.Hand
set_option linter.unusedSimpArgs false
set_option linter.unusedVariables false
set_option maxRecDepth 1000000
open Go.Shelf Go.RowKit Go.Proofs.YtkmhilhfmfmckaaGreatDoorW.PrintWords Go.Proofs.YtkmhilhfmfmckaaGreatDoorW.PrintLast Go.Proofs.YtkmhilhfmfmckaaGreatDoorW.PrintMore
def digB : Nat → Nat → List Int
  | 0, _ => []
  | n + 1, V => ((V % 256 : Nat) : Int) :: digB n (V / 256)
theorem orTo_add (b : List Int) (n k : Nat) : ∀ m, orTo b n (k + m) = orTo (orTo b n k) (n + k) m
  | 0 => rfl
  | m + 1 => by
    rw [show k + (m + 1) = (k + m) + 1 by omega, orTo, orTo, orTo_add b n k m, show n + (k + m) = n + k + m by omega]
theorem dig0 : List.replicate 256 (0 : Int) = digB 256 0 := by decide +kernel
theorem chunkA : ∀ k : Fin 18, orTo (digB 256 (2 ^ (200 + 100 * k.val) - 2 ^ 200)) (200 + 100 * k.val) 100 = digB 256 (2 ^ (200 + 100 * (k.val + 1)) - 2 ^ 200) := by decide +kernel
theorem chunkB : ∀ k : Fin 19, orTo (digB 256 (2 ^ (100 + 100 * k.val) - 2 ^ 100)) (100 + 100 * k.val) 100 = digB 256 (2 ^ (100 + 100 * (k.val + 1)) - 2 ^ 100) := by decide +kernel
theorem rowA (k : Nat) (h : k ≤ 18) : orTo (digB 256 0) 200 (100 * k) = digB 256 (2 ^ (200 + 100 * k) - 2 ^ 200) := by
  induction k with
  | zero => rw [Nat.mul_zero, Nat.add_zero, Nat.sub_self]; rfl
  | succ k ih => rw [show 100 * (k + 1) = 100 * k + 100 by omega, orTo_add, ih (by omega)]; exact chunkA ⟨k, by omega⟩
theorem rowB (k : Nat) (h : k ≤ 19) : orTo (digB 256 0) 100 (100 * k) = digB 256 (2 ^ (100 + 100 * k) - 2 ^ 100) := by
  induction k with
  | zero => rw [Nat.mul_zero, Nat.add_zero, Nat.sub_self]; rfl
  | succ k ih => rw [show 100 * (k + 1) = 100 * k + 100 by omega, orTo_add, ih (by omega)]; exact chunkB ⟨k, by omega⟩
theorem lastA : orTo (digB 256 (2 ^ (200 + 100 * 18) - 2 ^ 200)) 2000 16 = digB 256 (2 ^ 2016 - 2 ^ 200) := by decide +kernel
theorem lastB : orTo (digB 256 (2 ^ (100 + 100 * 19) - 2 ^ 100)) 2000 16 = digB 256 (2 ^ 2016 - 2 ^ 100) := by decide +kernel
theorem new200 (s : Int) : newB 200 s = sealL (digB 256 (2 ^ 2016 - 2 ^ 200)) s := by
  unfold newB
  rw [dig0, show 2016 - 200 = 100 * 18 + 16 by rfl, orTo_add, rowA 18 (by omega), ← lastA]
theorem new100 (s : Int) : newB 100 s = sealL (digB 256 (2 ^ 2016 - 2 ^ 100)) s := by
  unfold newB
  rw [dig0, show 2016 - 100 = 100 * 19 + 16 by rfl, orTo_add, rowB 19 (by omega), ← lastB]
def exM0 : List Int := sealL (digB 256 (2 ^ 2016 - 2 ^ 200 + 2 ^ 108 - 1)) 98
def exM1 : List Int := sealL (digB 256 (2 ^ 2016 - 2 ^ 200 + 2 ^ 109 - 1)) 98
theorem turn0 : turnI (sealL (digB 256 (2 ^ 2016 - 2 ^ 200)) 98) 200 0 108 true 98 = (exM0, 0) := by decide +kernel
theorem turn0b : (turnI (sealL (digB 256 (2 ^ 2016 - 2 ^ 100)) 200) 100 0 10 true 200).2 = 0 := by decide +kernel
theorem turn1 : turnI exM0 200 108 1 true 98 = (exM1, 0) := by decide +kernel
theorem turn2 : turnI exM1 200 108 1 false 98 = (exM0, 0) := by decide +kernel
theorem chk0 : chkB exM0 200 98 = 0 := by decide +kernel
theorem find0 : findI (maskI (List.replicate 300 false) 0 200 0 exM0) 0 1 = (108, 1, true) := by decide +kernel
theorem exGeo : geoI exG = 0 ∧ groupsI exG = 2 ∧ spanI exG 0 = (0, 200, 0) ∧ spanI exG 1 = (200, 300, 0) ∧ placeI exG 0 = (98, 99, 100, 108, 0) ∧ placeI exG 1 = (200, 201, 202, 210, 0) := by decide +kernel
def exX0 : Sup := ⟨exG, 182, 32, 0, 0, false⟩
def exX1 : Sup := ⟨exG, 181, 32, 0, 0, false⟩
def exG0 : List Grp := [⟨92, 16, 0⟩, ⟨90, 16, 0⟩]
def exG1 : List Grp := [⟨91, 16, 0⟩, ⟨90, 16, 0⟩]
theorem exSup : mkSup exG = exX0 ∧ mkGrps exG 2 = exG0 := by decide +kernel
theorem exUn : unsuperI (psuperI exX0).1 = (exX0, 0) ∧ unsuperI (psuperI exX1).1 = (exX1, 0) ∧ ungroupsI (pgroupsI exG0).1 2 = (exG0, 0) ∧ ungroupsI (pgroupsI exG1).1 2 = (exG1, 0) := by decide +kernel
theorem exPk : (psuperI exX0).2 = 0 ∧ (psuperI exX1).2 = 0 ∧ (pgroupsI exG0).2 = 0 ∧ (pgroupsI exG1).2 = 0 := by decide +kernel
end Go.Proofs.YtkmhilhfmfmckaaGreatDoor.Hand
