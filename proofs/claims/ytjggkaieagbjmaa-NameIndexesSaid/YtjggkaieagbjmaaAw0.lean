/- The document's examples, as plain functions answer them. -/
import Derived.Test.YtjggkaieagbjmaaOrd0
namespace Go.Proofs.Ytjggkaieagbjmaa.Hand
set_option linter.unusedVariables false
set_option linter.unusedSimpArgs false
open Go.Shelf Go.RowKit Go.Proofs.YtjggkaieagbjmaaW.PrintWords Go.Proofs.YtjggkaieagbjmaaW.PrintLast Go.Proofs.YtjggkaieagbjmaaW.PrintMore

def entA : Ent := ⟨1, 1, ⟨#[97]⟩⟩
def entBb : Ent := ⟨2, 1, ⟨#[98]⟩⟩
set_option maxRecDepth 100000 in
theorem aw_hash0 : hashI ⟨#[]⟩ = 2166136261 := by decide +kernel
set_option maxRecDepth 100000 in
theorem aw_hash1 : hashI ⟨#[97]⟩ = 3826002220 := by decide +kernel
set_option maxRecDepth 100000 in
theorem aw_less : lessB ⟨#[97]⟩ ⟨#[98]⟩ = true := by decide +kernel
set_option maxRecDepth 100000 in
theorem aw_check : chkI ⟨#[97, 47, 98]⟩ = 22 := by decide +kernel
set_option maxRecDepth 100000 in
theorem aw_p0 : (packI [] 1).2 = 0 := by decide +kernel
set_option maxRecDepth 100000 in
theorem aw_p1 : (packI [entA, entBb] 1).2 = 0 := by decide +kernel
set_option maxRecDepth 100000 in
theorem aw_p2 : (packI [entBb, entA] 1).2 = 22 := by decide +kernel
set_option maxRecDepth 100000 in
theorem aw_u0 : (unpackI (packI [entA, entBb] 1).1 1).2 = 0 := by decide +kernel
set_option maxRecDepth 100000 in
theorem aw_u1 : (unpackI (packI [entA, entBb] 1).1 1).1.length = 2 := by decide +kernel
def longN : ByteArray := ⟨#[48, 49, 50, 51, 52, 53, 54, 55, 56, 57, 48, 49, 50, 51, 52, 53, 54, 55, 56, 57, 48, 49, 50, 51, 52, 53, 54, 55, 56, 57, 48, 49, 50, 51, 52, 53, 54, 55, 56, 57, 48, 49, 50, 51, 52, 53, 54, 55, 56, 57, 48, 49, 50, 51, 52, 53, 54, 55, 56, 57, 48]⟩
set_option maxRecDepth 100000 in
theorem aw_long : chkI longN = 36 := by decide +kernel
end Go.Proofs.Ytjggkaieagbjmaa.Hand
