/- Package name: the order of names, for all texts. -/
import Derived.Test.YtjggkaieagbjmaaName1
import Derived.WalkLawsBesides
namespace Go.Proofs.Ytjggkaieagbjmaa.Hand
set_option linter.unusedVariables false
set_option linter.unusedSimpArgs false
open Go.Shelf Go.RowKit Go.Proofs.YtjggkaieagbjmaaW.PrintWords Go.Proofs.YtjggkaieagbjmaaW.PrintLast Go.Proofs.YtjggkaieagbjmaaW.PrintMore

def cmpI (x y : Int) : Int := if x < y then -1 else if y < x then 1 else 0
set_option maxHeartbeats 1000000 in
set_option maxRecDepth 100000 in
theorem cmpu_calls (x y : Int) (w : World) : Calls Try.prog 33 #[.int .u32 x, .int .u32 y] w fun e w' => e = .returned (.int .i64 (cmpI x y)) ∧ w = w' := by
  unfold cmpI
  by_cases h1 : x < y
  · rw [if_pos h1]
    go_enter Try.func33, Try.ntmps33
    go_wp2
    go_ret
    exact ⟨rfl, rfl⟩
  · by_cases h2 : y < x
    · rw [if_neg h1, if_pos h2]
      go_enter Try.func33, Try.ntmps33
      go_wp2
      go_ret
      exact ⟨rfl, rfl⟩
    · rw [if_neg h1, if_neg h2]
      go_enter Try.func33, Try.ntmps33
      go_wp2
      go_ret
      exact ⟨rfl, rfl⟩

def cmpS (a b : ByteArray) : Int := if Op.bytesLess a.toList b.toList = true then -1 else if (a.toList == b.toList) = true then 0 else 1
set_option maxHeartbeats 1000000 in
set_option maxRecDepth 100000 in
theorem cmps_calls (a b : ByteArray) (w : World) : Calls Try.prog 34 #[.string a, .string b] w fun e w' => e = .returned (.int .i64 (cmpS a b)) ∧ w = w' := by
  unfold cmpS
  cases h1 : Op.bytesLess a.toList b.toList
  · cases h2 : (a.toList == b.toList)
    · have h3 : (!a.toList == b.toList) = true := by rw [h2]; rfl
      go_enter Try.func34, Try.ntmps34
      go_wp2
      all_goals (go_ret; exact ⟨rfl, rfl⟩)
    · have h3 : (!a.toList == b.toList) = false := by rw [h2]; rfl
      go_enter Try.func34, Try.ntmps34
      go_wp2
      all_goals (go_ret; exact ⟨rfl, rfl⟩)
  · go_enter Try.func34, Try.ntmps34
    go_wp2
    all_goals (go_ret; exact ⟨rfl, rfl⟩)

def orI (x y : Int) : Int := if x = 0 then y else x
set_option maxHeartbeats 1000000 in
set_option maxRecDepth 100000 in
theorem or_calls (g c : Nat) (x y : Int) (w : World) (h : Row w .i64 g 3 [x, y]) : Calls Try.prog 32 #[.slice (some ⟨g, 0, none⟩) 2 c] w fun e w' => e = .returned (.int .i64 (orI x y)) ∧ w = w' := by
  have h0 := h.cell 0 (by simp)
  have h1 := h.cell 1 (by simp)
  simp only [List.getD_cons_zero, List.getD_cons_succ] at h0 h1
  have H := Aside0.mk h
  clear h
  unfold orI
  by_cases hx : x = 0
  · by_cases hy : y = 0
    · subst hx hy
      go_enter Try.func32, Try.ntmps32
      go_wp2
      refine wp_loop_rounds 3 ?_
      rw [rounds_succ]
      go_wp2
      rw [rounds_succ]
      go_wp2
      rw [rounds_succ]
      go_wp2
      go_ret
      exact ⟨rfl, rfl⟩
    · subst hx
      have hy1 : (y != 0) = true := by simpa using hy
      clear hy
      go_enter Try.func32, Try.ntmps32
      go_wp2
      refine wp_loop_rounds 3 ?_
      rw [rounds_succ]
      go_wp2
      rw [rounds_succ]
      go_wp2
      go_ret
      exact ⟨rfl, rfl⟩
  · rw [if_neg hx]
    have hx1 : (x != 0) = true := by simpa using hx
    clear hx
    go_enter Try.func32, Try.ntmps32
    go_wp2
    refine wp_loop_rounds 3 ?_
    rw [rounds_succ]
    go_wp2
    go_ret
    exact ⟨rfl, rfl⟩

def lessB (a b : ByteArray) : Bool := decide (orI (cmpI (hashI a) (hashI b)) (cmpS a b) < 0)
set_option maxHeartbeats 2000000 in
set_option maxRecDepth 100000 in
theorem less_calls (a b : ByteArray) (w : World) (ha : a.size ≤ 4611686018427387904) (hb : b.size ≤ 4611686018427387904) :
    Calls Try.prog 10 #[.string a, .string b] w fun e w' => e = .returned (.bool (lessB a b)) ∧ Below w.heap.size w w' := by
  unfold lessB
  obtain ⟨x, hx⟩ : ∃ x, cmpI (hashI a) (hashI b) = x := ⟨_, rfl⟩
  obtain ⟨y, hy⟩ : ∃ y, cmpS a b = y := ⟨_, rfl⟩
  obtain ⟨p, hp⟩ : ∃ p, hashI a = p := ⟨_, rfl⟩
  obtain ⟨q, hq⟩ : ∃ q, hashI b = q := ⟨_, rfl⟩
  rw [hx, hy]
  rw [hp, hq] at hx
  have HX := Aside0.mk hx
  have HY := Aside0.mk hy
  have HP := Aside0.mk hp
  have HQ := Aside0.mk hq
  clear hx hy hp hq
  go_enter Try.func10, Try.ntmps10
  go_wp2_with fail
  refine (hash_calls a w ha).mono ?_
  rintro e w1 ⟨rfl, hb1⟩
  rw [HP.out]
  have HB1 := Aside0.mk hb1
  clear hb1
  go_wp2_with fail
  refine (hash_calls b w1 hb).mono ?_
  rintro e w2 ⟨rfl, hb2⟩
  rw [HQ.out]
  have HB2 := Aside0.mk (below_then HB1.out HB1.out.size hb2)
  clear hb2 HB1
  go_wp2_with (first | (go_at_call 33; refine (cmpu_calls _ _ _).mono ?_; rintro e w' ⟨rfl, rfl⟩; rw [HX.out]) | (go_at_call 34; refine (cmps_calls _ _ _).mono ?_; rintro e w' ⟨rfl, rfl⟩; rw [HY.out]) | (go_at_call 32; refine (or_calls _ _ x y _ (alloc_last _ _)).mono ?_; rintro e w' ⟨rfl, rfl⟩))
  go_ret
  exact ⟨rfl, below_alloc HB2.out _⟩
end Go.Proofs.Ytjggkaieagbjmaa.Hand
