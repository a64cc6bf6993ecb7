/- What was packed is unpacked as it was and is unclean by another seed, a leaf is no index and an index no leaf, and entries are parted between two hashes: for all entries, parts and seeds. -/
import Derived.Test.YtjggkaieagbjmaaRows
import Derived.Test.YtjggkaieagbjmaaBackW
import Derived.WalkKit
import Derived.ProofKit
import Derived.OpenShut
import Derived.ShutString
import Derived.ChangeOld
import Derived.Below
import Derived.SizedLaws
import Derived.Test.YtjggkaieagbjmaaWSized
namespace Go.Proofs.Ytjggkaieagbjmaa.nameBack
open Go.ChangeShapes Go.WideShapes Go.ChangeAt Go.RowKit
open Go.ChangeMaps (open_string shut_string)
set_option linter.unusedVariables false
theorem own : ownKnob Try.prog.godebug = none := by kernel_rfl
theorem laidOut : laidOutB Try.prog = true := by kernel_rfl
def IsRow (k : IntKind) (w : World) (a : Option Addr) (len cap : Nat) (zs : List Int) : Prop :=
  (a = none ∧ len = 0 ∧ cap = 0 ∧ zs = []) ∨
  ∃ x, a = some x ∧ len ≤ cap ∧ cap ≤ maxLen ∧ zs.length = cap ∧ (∀ i, i < zs.length → w.cell? (x.add i) = some (.int k (zs.getD i 0))) ∧ ∀ n ∈ zs, (Lit.int k n).wf = true
set_option maxRecDepth 100000 in
theorem lifted (os : Os) (started : os.Started) (H : Type) (enc : TypeId × Value → H) :
    ReturnsInHanded {} Try.checked os 8 .any (Rows.nameBackSpec.pre6 enc Try.prog Try.f8 Rows.nameBackRow.domain false) (Rows.nameBackSpec.post enc Try.prog Try.f8 false true false false) := by
  refine returnsInHanded_of_change_sized (C := Try.checked) own started (by kernel_rfl) Try.func8
    (ChangeSpec.witness6 (enc := enc) (C := Try.checked) false ⟨#[], #[.slice none 0 0, .slice none 0 0, .int .u32 0, .int .u32 0], []⟩ 8 (by kernel_rfl) (by kernel_rfl) (by kernel_rfl) (by kernel_rfl)) ?_
  intro W base args ds gs before hval0 hW hcnd hsz0 _
  have hsz : (DataW.weightsEach Try.prog (Try.f8.params.toList ++ Rows.nameBackSpec.plain.varTypes Try.prog) (ds ++ gs)).all (· ≤ reachBytes) = true := hsz0
  have hval : ∀ (j : Nat) t v, Try.f8.params[j]? = some t → args[j]? = some v → Value.okWide Try.prog W .any base t v := hval0
  have hW' := hW
  obtain ⟨p, q, hA0, hV, rfl, hfz, hnd⟩ := hW
  have hA : DataW.TrodAll enc Try.prog W 0 (fun _ => true) true Try.f8.params.toList args.toList ds p := hA0
  rw [Try.params8] at hA hval hsz
  obtain ⟨v0, vs0, d0, ds0, p0, q0, hargs, rfl, rfl, h0, r0⟩ := trodAll_cons hA
  obtain ⟨v1, vs1, d1, ds1, p1, q1, rfl, rfl, rfl, h1, r1⟩ := trodAll_cons r0
  obtain ⟨v2, vs2, d2, ds2, p2, q2, rfl, rfl, rfl, h2, r2⟩ := trodAll_cons r1
  obtain ⟨v3, vs3, d3, ds3, p3, q3, rfl, rfl, rfl, h3, r3⟩ := trodAll_cons r2
  obtain ⟨rfl, rfl, rfl⟩ := trodAll_nil r3
  obtain rfl : args = #[v0, v1, v2, v3] := by cases args; simp_all
  obtain ⟨rfl, rfl⟩ := trodVars_none hV
  obtain ⟨a0, len0, cap0, rfl⟩ := okWide_slice Try.underlying29 (hval 0 29 v0 rfl rfl)
  have k0 := h0
  have lt0 : ∀ x ∈ p0, x.block < W.heap.size := by obtain ⟨m, hm⟩ := k0; exact DataW.trod_lt m _ _ _ hm
  obtain ⟨l0, rfl, hc0, hn0, he0, h470⟩ : ∃ l : List Hand.Ent, len0 = l.length ∧ l.length ≤ cap0 ∧ l.length * 32 ≤ 140737488351232 ∧ Hand.Ents W a0 l ∧ ∀ j, j < l.length → (Hand.entAt l j).name.size ≤ 1152921504606846976 := by
    obtain ⟨fuel, hf⟩ := h0
    rcases Hand.open_ents hf with hcs | ⟨x, cap, l, elems, sp, hcs, hl, hm, h47, hd, hel, hcell⟩
    · simp [Value.cells] at hcs
      obtain ⟨rfl, rfl, rfl⟩ := hcs
      exact ⟨[], rfl, by simp, by simp, Hand.ents_nil W, by simp⟩
    · simp [Value.cells] at hcs
      obtain ⟨rfl, rfl, rfl⟩ := hcs
      have hd' : d0 = .slice elems sp := hd
      subst hd'
      have hb := sized_slice hsz (j := 0) (t := 29) rfl rfl Try.underlying29
      have hb2 : Try.prog.bytesOf 59 = 32 := by kernel_rfl
      rw [hb2, hel] at hb
      have hr : reachBytes = 140737488351232 := rfl
      rw [hr] at hb
      refine ⟨l, rfl, hl, by omega, Hand.ents_open (by omega) hcell, fun j hj => ?_⟩
      obtain ⟨fs, e1, e2⟩ := h47 j hj
      have := Hand.ent_weight hsz (i := 0) rfl rfl e1 e2
      rw [hr, Array.length_toList] at this
      exact Nat.le_trans this (by omega)
  obtain ⟨a1, len1, cap1, rfl⟩ := okWide_slice Try.underlying46 (hval 1 46 v1 rfl rfl)
  have k1 := h1
  have lt1 : ∀ x ∈ p1, x.block < W.heap.size := by obtain ⟨m, hm⟩ := k1; exact DataW.trod_lt m _ _ _ hm
  obtain ⟨l1, rfl, hc1, hn1, he1, hw1⟩ : ∃ l : List Hand.Prt, len1 = l.length ∧ l.length ≤ cap1 ∧ l.length * 16 ≤ 140737488351232 ∧ Hand.Prts W a1 l ∧ ∀ j, j < l.length → 0 ≤ (Hand.prtAt l j).hash ∧ (Hand.prtAt l j).hash < 4294967296 := by
    obtain ⟨fuel, hf⟩ := h1
    rcases Hand.open_prts hf with hcs | ⟨x, cap, l, elems, sp, hcs, hl, hm, hwf, hd, hel, hcell⟩
    · simp [Value.cells] at hcs
      obtain ⟨rfl, rfl, rfl⟩ := hcs
      exact ⟨[], rfl, by simp, by simp, Hand.prts_nil W, by simp⟩
    · simp [Value.cells] at hcs
      obtain ⟨rfl, rfl, rfl⟩ := hcs
      have hd' : d1 = .slice elems sp := hd
      subst hd'
      have hb := sized_slice hsz (j := 1) (t := 46) rfl rfl Try.underlying46
      have hb2 : Try.prog.bytesOf 75 = 16 := by kernel_rfl
      rw [hb2, hel] at hb
      have hr : reachBytes = 140737488351232 := rfl
      rw [hr] at hb
      exact ⟨l, rfl, hl, by omega, Hand.prts_open (by omega) hcell, hwf⟩
  obtain ⟨a2, rfl, rfl, rfl, w2⟩ := open_int Try.underlying26 (hval 2 26 v2 rfl rfl) h2
  obtain ⟨a3, rfl, rfl, rfl, w3⟩ := open_int Try.underlying26 (hval 3 26 v3 rfl rfl) h3
  clear hA0 hval0 hsz0 hsz
  refine (Hand.back_walk a0 cap0 l0 a1 cap1 l1 a2 a3 W he0 hc0 hn0 h470 he1 hc1 hn1 hw1 w2 w3).mono fun e W' ⟨he, bel⟩ => ?_
  subst he
  exact ⟨_, rfl, _, _, _, [], _, [], hW', trodAll_mk1 (shut_bool Try.underlying4 _), (trodAll_cons_mk (Below.trod laidOut (by kernel_rfl) (of_decide_eq_true (by kernel_rfl)) k0 bel lt0) (trodAll_cons_mk (Below.trod laidOut (by kernel_rfl) (of_decide_eq_true (by kernel_rfl)) k1 bel lt1) (trodAll_cons_mk (shut_int Try.underlying26 w2) (trodAll_cons_mk (shut_int Try.underlying26 w3) trodAll_mk0)))), rfl, bel.frame _, fun h => by cases h⟩
theorem over : Rows.nameBackRow.holds Try.pinned (OpenSpec.ofChange Rows.nameBackSpec) :=
  OpenClaim.holds_of_wide 8 Try.f8 rfl rfl rfl rfl rfl rfl rfl ⟨rfl, rfl, rfl, rfl, rfl⟩ rfl rfl rfl rfl rfl (by kernel_rfl) Try.func8 (by kernel_rfl)
    (of_decide_eq_true (by kernel_rfl)) (by unfold Func.isWrapper; first | (rw [if_pos (by decide +kernel)]; kernel_rfl) | (rw [if_neg (by decide +kernel)]; exact ⟨rfl, rfl⟩))
    (fun os started H enc _ => lifted os started H enc)
theorem proved : Rows.NameBackSaid := over
#print axioms proved
end Go.Proofs.Ytjggkaieagbjmaa.nameBack
namespace Go.Proofs.Ytjggkaieagbjmaa
/-- The row, under a short name, for the claim. -/
theorem nameBack_holds : Rows.NameBackSaid := nameBack.proved
end Go.Proofs.Ytjggkaieagbjmaa
