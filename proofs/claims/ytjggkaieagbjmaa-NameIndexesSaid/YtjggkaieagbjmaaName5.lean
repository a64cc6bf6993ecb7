/- Package name: which names may be, for every text. -/
import Derived.Test.YtjggkaieagbjmaaName4
namespace Go.Proofs.Ytjggkaieagbjmaa.Hand
set_option linter.unusedVariables false
set_option linter.unusedSimpArgs false
open Go.Shelf Go.RowKit Go.Proofs.YtjggkaieagbjmaaW.PrintWords Go.Proofs.YtjggkaieagbjmaaW.PrintLast Go.Proofs.YtjggkaieagbjmaaW.PrintMore

theorem indexAny_bar (l : List UInt8) : 0 ≤ Lib.indexAny l [47, 0] ↔ barB l = true := by
  induction l with
  | nil => simp [Lib.indexAny, barB]
  | cons b l ih =>
    have hge := Lib.indexAny_ge [47, 0] l
    simp only [Lib.indexAny]
    by_cases hb : b = 47 ∨ b = 0
    · have h1 : [47, 0].contains b = true := by rcases hb with rfl | rfl <;> rfl
      have h2 : barB (b :: l) = true := by unfold barB; simp; left; exact hb
      rw [h1, h2]; simp
    · have h1 : [47, 0].contains b = false := by
        simp only [List.contains_cons, List.contains_nil, Bool.or_false, Bool.or_eq_false_iff, beq_eq_false_iff_ne]
        exact ⟨fun h => hb (.inl h), fun h => hb (.inr h)⟩
      have h2 : barB (b :: l) = barB l := by
        unfold barB
        simp only [List.any_cons]
        have : (b == 47 || b == 0) = false := by
          simp only [Bool.or_eq_false_iff, beq_eq_false_iff_ne]
          exact ⟨fun h => hb (.inl h), fun h => hb (.inr h)⟩
        rw [this]; rfl
      rw [h1, h2, if_neg (by simp), ← ih]
      split
      · rename_i h3
        have : Lib.indexAny l [47, 0] = -1 := by simpa using h3
        omega
      · rename_i h3
        have : Lib.indexAny l [47, 0] ≠ -1 := by simpa using h3
        omega

theorem zero256 : ∀ w, (zeroValue 87).run Try.prog w = .ok (.agg (Array.replicate 256 (.bool false))) w := fun _ => by kernel_rfl

theorem any_calls (s : ByteArray) (w : World) (hs : s.size ≤ 60) :
    Calls Try.prog 45 #[.string s, .string ⟨#[47, 0]⟩] w fun e w' => Tells s.data.toList e ∧ Below w.heap.size w w' := by
  by_cases h8 : s.size ≤ 8
  · exact any_short s w h8
  · refine (Try.strings_IndexAny_long zero256 s ⟨#[47, 0]⟩ w (by decide) (by omega) (by omega) (by decide) (by
      intro j b hj
      rcases j with _ | _ | j
      · simp at hj; subst hj; decide
      · simp at hj; subst hj; decide
      · simp at hj)).mono ?_
    rintro e w' ⟨rfl, rfl⟩
    exact ⟨⟨_, rfl, indexAny_bar _⟩, below_alloc (below_alloc (Below.refl _ _) _) _⟩

set_option maxHeartbeats 1000000 in
theorem contains_calls (s : ByteArray) (w : World) (hs : s.size ≤ 60) :
    Calls Try.prog 35 #[.string s, .string ⟨#[47, 0]⟩] w fun e w' => e = .returned (.bool (barB s.data.toList)) ∧ Below w.heap.size w w' := by
  go_enter Try.func35, Try.ntmps35
  go_wp2_with fail
  refine (any_calls s w hs).mono ?_
  rintro e w1 ⟨⟨r, rfl, hr⟩, hb⟩
  dsimp only
  have e1 : decide (0 ≤ r) = barB s.data.toList := by
    rw [Bool.eq_iff_iff, decide_eq_true_iff]; exact hr
  have E1 := Aside0.mk e1
  have HB := Aside0.mk hb
  clear e1 hb hr
  go_wp2
  go_ret
  exact ⟨by rw [← E1.out]; rfl, HB.out⟩

/-- What Check answers. -/
def chkI (s : ByteArray) : Int := if 60 < s.size then 36 else if s.toList = [] ∨ s.toList = [46] ∨ s.toList = [46, 46] ∨ barB s.data.toList = true then 22 else 0

set_option maxHeartbeats 4000000 in
set_option maxRecDepth 100000 in
theorem check_calls (s : ByteArray) (w : World) :
    Calls Try.prog 11 #[.string s] w fun e w' => e = .returned (.int .i64 (chkI s)) ∧ Below w.heap.size w w' := by
  unfold chkI
  by_cases h60 : 60 < s.size
  · rw [if_pos h60]
    go_enter Try.func11, Try.ntmps11
    go_wp2
    go_ret
    exact ⟨rfl, Below.refl _ _⟩
  · rw [if_neg h60]
    by_cases h0 : s.toList = []
    · rw [if_pos (.inl h0)]
      have h0b : (s.toList == []) = true := by rw [h0]; rfl
      have h0c : s.toList.isEmpty = true := by rw [h0]; rfl
      go_enter Try.func11, Try.ntmps11
      go_wp2
      go_ret
      exact ⟨rfl, Below.refl _ _⟩
    · have h0b : (s.toList == []) = false := by simpa using h0
      have h0c : s.toList.isEmpty = false := by simpa using h0
      by_cases h1 : s.toList = [46]
      · rw [if_pos (.inr (.inl h1))]
        have h1b : (s.toList == [46]) = true := by rw [h1]; rfl
        clear h0 h1
        go_enter Try.func11, Try.ntmps11
        go_wp2
        go_ret
        exact ⟨rfl, Below.refl _ _⟩
      · have h1b : (s.toList == [46]) = false := by simpa using h1
        by_cases h2 : s.toList = [46, 46]
        · rw [if_pos (.inr (.inr (.inl h2)))]
          have h2b : (s.toList == [46, 46]) = true := by rw [h2]; rfl
          clear h0 h1 h2
          go_enter Try.func11, Try.ntmps11
          go_wp2
          go_ret
          exact ⟨rfl, Below.refl _ _⟩
        · have h2b : (s.toList == [46, 46]) = false := by simpa using h2
          cases hb : barB s.data.toList
          · rw [if_neg (by simp [h0, h1, h2])]
            have HB := Aside0.mk hb
            clear h0 h1 h2 hb
            go_enter Try.func11, Try.ntmps11
            go_wp2_with (go_at_call 35; refine (contains_calls s _ (by omega)).mono ?_; rintro e w1 ⟨rfl, hb1⟩; rw [HB.out])
            go_ret
            exact ⟨rfl, hb1⟩
          · rw [if_pos (.inr (.inr (.inr rfl)))]
            have HB := Aside0.mk hb
            clear h0 h1 h2 hb
            go_enter Try.func11, Try.ntmps11
            go_wp2_with (go_at_call 35; refine (contains_calls s _ (by omega)).mono ?_; rintro e w1 ⟨rfl, hb1⟩; rw [HB.out])
            go_ret
            exact ⟨rfl, hb1⟩
end Go.Proofs.Ytjggkaieagbjmaa.Hand
