/- The law XattrIs: whatever the script, the call returns true, and the script reads behind it as before. No condition but the row's own. -/
import Derived.Test.YtkmhilhfmfmckaaGreatDoorR20
import Derived.Test.YtkmhilhfmfmckaaGreatDoorRows
import Derived.Test.YtkmhilhfmfmckaaGreatDoorCards
import Derived.Test.YtkmhilhfmfmckaaGreatDoorTie
import Derived.SevenTiedAt
import Derived.LaidMore
import Derived.LaidHandle
import Derived.Stop.Joined
import Derived.WalkKit
import Derived.ProofKit
import Derived.OpenShut
import Derived.ShutString
import Derived.ChangeOld
import Derived.Below
import Derived.SizedLaws
namespace Go.Proofs.YtkmhilhfmfmckaaGreatDoor.xattrIs
open Go.ChangeShapes Go.WideShapes Go.ChangeAt Go.RowKit
open Go.ChangeMaps (open_string shut_string)
set_option linter.unusedVariables false
theorem own : ownKnob Tryz.prog.godebug = none := by kernel_rfl
theorem laidOut : laidOutB Tryz.prog = true := by kernel_rfl
set_option maxRecDepth 100000 in
theorem lifted (os : Os) (started : os.Started) (H : Type) (enc : TypeId × Value → H) :
    ReturnsInHanded {} Tryz.checked os 8 .any (fun w args => (Rows.xattrIsSpec.pre enc Tryz.prog Tryz.f8 [] false w args ∧ laidMetH Tryz.prog Hand.laidL w) ∧ sizedMet enc Tryz.prog Tryz.f8 (OpenSpec.ofChange Rows.xattrIsSpec) false w args) (Rows.xattrIsSpec.post enc Tryz.prog Tryz.f8 false true false false) := by
  refine returnsInHanded_of_change_and (C := Tryz.checked) (X := fun w _ => laidMetH Tryz.prog Hand.laidL w) (fun _ _ _ hh h => h.of_heap hh) own started (by kernel_rfl) Tryz.func8
    (ChangeSpec.witness_shaped (enc := enc) (C := Tryz.checked) (os := os) (X := fun w _ => laidMetH Tryz.prog Hand.laidL w) false (World.doorLaid Tryz.prog 19 os) #[.slice none 0 0] 8 rfl (World.shaped_of_RefB (by kernel_rfl) (by kernel_rfl)) (by kernel_rfl) (by kernel_rfl) (by kernel_rfl) (Hand.door_met os _)) ?_
  intro W base args ds gs before hval0 hW hcnd hsz0 hL _
  have hsz : (DataW.weightsEach Tryz.prog (Tryz.f8.params.toList ++ Rows.xattrIsSpec.plain.varTypes Tryz.prog) (ds ++ gs)).all (· ≤ reachBytes) = true := hsz0
  have hval : ∀ (j : Nat) t v, Tryz.f8.params[j]? = some t → args[j]? = some v → Value.okWide Tryz.prog W .any base t v := hval0
  have hW' := hW
  obtain ⟨p, q, hA0, hV, rfl, hfz, hnd⟩ := hW
  have hA : DataW.TrodAll enc Tryz.prog W 0 (fun _ => true) true Tryz.f8.params.toList args.toList ds p := hA0
  rw [Tryz.params8] at hA hval hsz
  obtain ⟨v0, vs0, d0, ds0, p0, q0, hargs, rfl, rfl, h0, r0⟩ := trodAll_cons hA
  obtain ⟨rfl, rfl, rfl⟩ := trodAll_nil r0
  obtain rfl : args = #[v0] := by cases args; simp_all
  obtain ⟨rfl, rfl⟩ := trodVars_none hV
  obtain ⟨a0, len0, cap0, rfl⟩ := okWide_slice Tryz.underlying54 (hval 0 54 v0 rfl rfl)
  have k0 := h0
  have lt0 : ∀ x ∈ p0, x.block < W.heap.size := by obtain ⟨m, hm⟩ := k0; exact DataW.trod_lt m _ _ _ hm
  obtain ⟨l0, rfl, hc0, he0⟩ : ∃ l : List Hand.OpV, len0 = l.length ∧ l.length ≤ cap0 ∧ Hand.Ops W a0 l := by
    obtain ⟨fuel, hf⟩ := h0
    obtain ⟨x, cap, l, hcs, hl, hd, hat⟩ := Hand.open_ops hf
    simp [Value.cells] at hcs
    obtain ⟨rfl, rfl, rfl⟩ := hcs
    have hn : l.length ≤ 1125899906842624 := by
      rcases hd with rfl | ⟨elems, sp, hd, hel⟩
      · simp
      · have hd' : d0 = .slice elems sp := hd
        subst hd'
        have hb := sized_slice hsz (j := 0) (t := 54) rfl rfl Tryz.underlying54
        have hb2 : Tryz.prog.bytesOf 41 = 64 := by kernel_rfl
        rw [hb2, hel] at hb
        have hr : reachBytes = 140737488351232 := rfl
        rw [hr] at hb
        omega
    exact ⟨l, rfl, hl, hat hn⟩
  clear hA0 hval0 hsz0 hsz
  refine (Hand.xis_calls a0 cap0 l0 W he0 hc0 (Hand.tab_of_laid hL)).mono fun e W' ⟨he, bel⟩ => ?_
  subst he
  exact ⟨_, rfl, _, _, _, [], _, [], hW', trodAll_mk1 (shut_bool Tryz.underlying4 _), (trodAll_cons_mk (Below.trod laidOut (by kernel_rfl) (of_decide_eq_true (by kernel_rfl)) k0 bel lt0) trodAll_mk0), rfl, bel.frame _, fun h => by cases h⟩
theorem over : Rows.xattrIsRow.holds Tryz.pinned (OpenSpec.ofChange Rows.xattrIsSpec) :=
  OpenClaim.holds_of_wide 8 Tryz.f8 rfl rfl rfl rfl rfl rfl rfl ⟨rfl, rfl, rfl, rfl, rfl⟩ rfl rfl rfl rfl rfl (by kernel_rfl) Tryz.func8 (by kernel_rfl)
    (of_decide_eq_true (by kernel_rfl)) (by unfold Func.isWrapper; first | (rw [if_pos (by decide +kernel)]; kernel_rfl) | (rw [if_neg (by decide +kernel)]; exact ⟨rfl, rfl⟩))
    (fun os started H enc _ => lifted os started H enc)
theorem proved : Rows.XattrIsSaid := over
end Go.Proofs.YtkmhilhfmfmckaaGreatDoor.xattrIs
namespace Go.Proofs.YtkmhilhfmfmckaaGreatDoor
set_option maxRecDepth 100000 in
/-- THE TIED CARD. -/
theorem xattrIs_holds : Rows.XattrIsCardSaid :=
  Claim7.holds_tied_plain_at .later [] [.data, .data] true (true, "6a08d02a27ae3eb5e16161bc3121c970ff768c6be46768fbeb2cbe1db61277e1") true
    xattrIs.proved (fun _ h => by cases h) (by kernel_rfl) (fun _ h => by cases h) xattrIs_row_tie rfl ⟨rfl, rfl⟩ (by kernel_rfl) rfl
    (fun f fn hf hfn => by
      obtain rfl : f = 8 := Option.some.inj ((show Tryz.prog.funcNamed "hayrick/hayricklaw17.XattrIs" = some 8 by kernel_rfl).symm.trans hf) |>.symm
      obtain rfl : fn = Tryz.f8 := (Option.some.inj (Tryz.func8.symm.trans hfn)).symm
      exact ⟨by kernel_rfl, fun j t ht => by
        rw [Tryz.params8] at ht
        have hm : t ∈ [54] := by simpa using Array.mem_of_getElem? ht
        have hall : ([54].all fun u => !Tryz.prog.wantsStandIn u) = true := by kernel_rfl
        exact (show Tryz.prog.wantsStandIn t = false by simpa using List.all_eq_true.1 hall t hm)⟩)
    (by kernel_rfl)
#print axioms xattrIs_holds
end Go.Proofs.YtkmhilhfmfmckaaGreatDoor
