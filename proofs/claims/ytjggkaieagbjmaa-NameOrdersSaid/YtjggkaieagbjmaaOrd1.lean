/- The order of names is an order of all texts; and the law NameOrders, walked. -/
import Derived.Test.YtjggkaieagbjmaaAw1
namespace Go.Proofs.Ytjggkaieagbjmaa.Hand
set_option linter.unusedVariables false
set_option linter.unusedSimpArgs false
open Go.Lib (toList_data)
open Go.Shelf Go.RowKit Go.Proofs.YtjggkaieagbjmaaW.PrintWords Go.Proofs.YtjggkaieagbjmaaW.PrintLast Go.Proofs.YtjggkaieagbjmaaW.PrintMore

theorem bl_irrefl (l : List UInt8) : Op.bytesLess l l = false := by
  induction l with
  | nil => rfl
  | cons x l ih => simp [Op.bytesLess, ih]
theorem bl_trans (l m n : List UInt8) : Op.bytesLess l m = true → Op.bytesLess m n = true → Op.bytesLess l n = true := by
  induction l generalizing m n with
  | nil => intro h1 h2; cases m <;> cases n <;> simp_all [Op.bytesLess]
  | cons x l ih =>
    intro h1 h2
    rcases m with _ | ⟨y, m⟩
    · simp [Op.bytesLess] at h1
    · rcases n with _ | ⟨z, n⟩
      · simp [Op.bytesLess] at h2
      · simp only [Op.bytesLess, Bool.or_eq_true, Bool.and_eq_true, decide_eq_true_eq, beq_iff_eq] at h1 h2 ⊢
        rcases h1 with h1 | ⟨rfl, h1⟩
        · rcases h2 with h2 | ⟨rfl, h2⟩
          · exact .inl (UInt8.lt_trans h1 h2)
          · exact .inl h1
        · rcases h2 with h2 | ⟨rfl, h2⟩
          · exact .inl h2
          · exact .inr ⟨rfl, ih m n h1 h2⟩
theorem bl_total (l m : List UInt8) : Op.bytesLess l m = true ∨ Op.bytesLess m l = true ∨ l = m := by
  induction l generalizing m with
  | nil => cases m <;> simp [Op.bytesLess]
  | cons x l ih =>
    rcases m with _ | ⟨y, m⟩
    · simp [Op.bytesLess]
    · simp only [Op.bytesLess, Bool.or_eq_true, Bool.and_eq_true, decide_eq_true_eq, beq_iff_eq]
      rcases (show x < y ∨ x = y ∨ y < x by
        rw [UInt8.lt_iff_toNat_lt, UInt8.lt_iff_toNat_lt]
        rcases Nat.lt_trichotomy x.toNat y.toNat with h | h | h
        · exact .inl h
        · exact .inr (.inl (UInt8.toNat_inj.1 h))
        · exact .inr (.inr h)) with h | h | h
      · exact .inl (.inl h)
      · subst h
        rcases ih m with h | h | h
        · exact .inl (.inr ⟨rfl, h⟩)
        · exact .inr (.inl (.inr ⟨rfl, h⟩))
        · exact .inr (.inr (by rw [h]))
      · exact .inr (.inl (.inl h))
theorem less_irrefl (a : ByteArray) : lessB a a = false := by rw [less_hash_eq a a rfl]; exact bl_irrefl _
theorem less_iff (a b : ByteArray) : lessB a b = true ↔ hashI a < hashI b ∨ hashI a = hashI b ∧ Op.bytesLess a.data.toList b.data.toList = true := by
  by_cases h : hashI a = hashI b
  · rw [less_hash_eq a b h]
    constructor
    · intro h'; exact .inr ⟨h, h'⟩
    · rintro (h' | ⟨_, h'⟩)
      · omega
      · exact h'
  · rw [less_hash_ne a b h, decide_eq_true_eq]
    constructor
    · exact .inl
    · rintro (h' | ⟨h', _⟩)
      · exact h'
      · exact absurd h' h
theorem less_trans {a b c : ByteArray} (h1 : lessB a b = true) (h2 : lessB b c = true) : lessB a c = true := by
  rw [less_iff] at h1 h2 ⊢
  rcases h1 with h1 | ⟨e1, h1⟩
  · rcases h2 with h2 | ⟨e2, h2⟩ <;> exact .inl (by omega)
  · rcases h2 with h2 | ⟨e2, h2⟩
    · exact .inl (by omega)
    · exact .inr ⟨by omega, bl_trans _ _ _ h1 h2⟩
theorem less_asymm {a b : ByteArray} (h1 : lessB a b = true) (h2 : lessB b a = true) : False := by
  have := less_trans h1 h2
  rw [less_irrefl] at this
  cases this
theorem less_total (a b : ByteArray) (h1 : lessB a b = false) (h2 : lessB b a = false) : (a.toList == b.toList) = true := by
  rw [beq_iff_eq, toList_data, toList_data]
  have n1 := mt (less_iff a b).2 (by rw [h1]; simp)
  have n2 := mt (less_iff b a).2 (by rw [h2]; simp)
  have he : hashI a = hashI b := by
    have := fun h => n1 (.inl h)
    have := fun h => n2 (.inl h)
    omega
  rcases bl_total a.data.toList b.data.toList with h | h | h
  · exact absurd (.inr ⟨he, h⟩) n1
  · exact absurd (.inr ⟨he.symm, h⟩) n2
  · exact h

set_option maxHeartbeats 4000000 in
set_option maxRecDepth 100000 in
theorem orders_calls (a b c : ByteArray) (w : World) (ha : a.size ≤ 140737488351232) (hb : b.size ≤ 140737488351232) (hc : c.size ≤ 140737488351232) :
    Calls Try.prog 3 #[.string a, .string b, .string c] w fun e w' => e = .returned (.bool true) ∧ Below w.heap.size w w' := by
  have h1 := @less_trans a b c
  have h2 := @less_asymm a b
  have h3 := less_total a b
  have LAB := fun W => less_calls a b W (by omega) (by omega)
  have LBA := fun W => less_calls b a W (by omega) (by omega)
  have LBC := fun W => less_calls b c W (by omega) (by omega)
  have LAC := fun W => less_calls a c W (by omega) (by omega)
  have LAA := fun W => less_calls a a W (by omega) (by omega)
  have RAB := fun W => rless_calls a b W (by omega) (by omega)
  have HA := fun W => hash_calls a W (by omega)
  have GA := fun W => rhash_calls a W (by omega)
  have CA := fun W => check_calls a W
  have DA := fun W => rcheck_calls a W
  rw [less_irrefl] at LAA
  obtain ⟨x, hx⟩ : ∃ x, lessB a b = x := ⟨_, rfl⟩
  obtain ⟨y, hy⟩ : ∃ x, lessB b a = x := ⟨_, rfl⟩
  obtain ⟨z, hz⟩ : ∃ x, lessB b c = x := ⟨_, rfl⟩
  obtain ⟨t, ht⟩ : ∃ x, lessB a c = x := ⟨_, rfl⟩
  obtain ⟨h, hh⟩ : ∃ x, hashI a = x := ⟨_, rfl⟩
  obtain ⟨k, hk⟩ : ∃ x, chkI a = x := ⟨_, rfl⟩
  rw [hx] at h1 h2 h3 LAB RAB
  rw [hy] at h2 h3 LBA
  rw [hz] at h1 LBC
  rw [ht] at h1 LAC
  rw [hh] at HA GA
  rw [hk] at CA DA
  have h4 : x = false → y = false → (a.toList == b.toList) = true := h3
  clear h3 hx hy hz ht hh hk ha hb hc
  replace LAB := Aside0.mk LAB
  replace LBA := Aside0.mk LBA
  replace LBC := Aside0.mk LBC
  replace LAC := Aside0.mk LAC
  replace LAA := Aside0.mk LAA
  replace RAB := Aside0.mk RAB
  replace HA := Aside0.mk HA
  replace GA := Aside0.mk GA
  replace CA := Aside0.mk CA
  replace DA := Aside0.mk DA
  have main : (x = true → z = true → t = true) ∧ (x = true → y = true → False) := ⟨h1, h2⟩
  clear h1 h2
  obtain ⟨h1, h2⟩ := main
  cases x
  · cases y
    · have heq := h4 rfl rfl
      clear h1 h2 h4
      go_enter Try.func3, Try.ntmps3
      go_wp2_with fail
      refine (awake_calls w).mono ?_
      rintro e w1 ⟨rfl, hb1⟩
      have HB := Aside0.mk hb1
      clear hb1
      go_wp2_with (first
        | (go_at_call 10; (first | with_reducible refine (LAB.out _).mono ?_ | with_reducible refine (LBA.out _).mono ?_ | with_reducible refine (LBC.out _).mono ?_ | with_reducible refine (LAC.out _).mono ?_ | with_reducible refine (LAA.out _).mono ?_); rintro e w2 ⟨rfl, hb2⟩; have HB2 := Aside0.mk (below_then HB.out HB.out.size hb2); clear hb2 HB; have HB := HB2; clear HB2)
        | (go_at_call 15; with_reducible refine (RAB.out _).mono ?_; rintro e w2 ⟨rfl, hb2⟩; have HB2 := Aside0.mk (below_then HB.out HB.out.size hb2); clear hb2 HB; have HB := HB2; clear HB2)
        | (go_at_call 13; with_reducible refine (HA.out _).mono ?_; rintro e w2 ⟨rfl, hb2⟩; have HB2 := Aside0.mk (below_then HB.out HB.out.size hb2); clear hb2 HB; have HB := HB2; clear HB2)
        | (go_at_call 14; with_reducible refine (GA.out _).mono ?_; rintro e w2 ⟨rfl, rfl⟩)
        | (go_at_call 11; with_reducible refine (CA.out _).mono ?_; rintro e w2 ⟨rfl, hb2⟩; have HB2 := Aside0.mk (below_then HB.out HB.out.size hb2); clear hb2 HB; have HB := HB2; clear HB2)
        | (go_at_call 12; with_reducible refine (DA.out _).mono ?_; rintro e w2 ⟨rfl, rfl⟩))
      go_ret
      exact ⟨rfl, HB.out⟩
    · clear h1 h2 h4
      go_enter Try.func3, Try.ntmps3
      go_wp2_with fail
      refine (awake_calls w).mono ?_
      rintro e w1 ⟨rfl, hb1⟩
      have HB := Aside0.mk hb1
      clear hb1
      go_wp2_with (first
        | (go_at_call 10; (first | with_reducible refine (LAB.out _).mono ?_ | with_reducible refine (LBA.out _).mono ?_ | with_reducible refine (LBC.out _).mono ?_ | with_reducible refine (LAC.out _).mono ?_ | with_reducible refine (LAA.out _).mono ?_); rintro e w2 ⟨rfl, hb2⟩; have HB2 := Aside0.mk (below_then HB.out HB.out.size hb2); clear hb2 HB; have HB := HB2; clear HB2)
        | (go_at_call 15; with_reducible refine (RAB.out _).mono ?_; rintro e w2 ⟨rfl, hb2⟩; have HB2 := Aside0.mk (below_then HB.out HB.out.size hb2); clear hb2 HB; have HB := HB2; clear HB2)
        | (go_at_call 13; with_reducible refine (HA.out _).mono ?_; rintro e w2 ⟨rfl, hb2⟩; have HB2 := Aside0.mk (below_then HB.out HB.out.size hb2); clear hb2 HB; have HB := HB2; clear HB2)
        | (go_at_call 14; with_reducible refine (GA.out _).mono ?_; rintro e w2 ⟨rfl, rfl⟩)
        | (go_at_call 11; with_reducible refine (CA.out _).mono ?_; rintro e w2 ⟨rfl, hb2⟩; have HB2 := Aside0.mk (below_then HB.out HB.out.size hb2); clear hb2 HB; have HB := HB2; clear HB2)
        | (go_at_call 12; with_reducible refine (DA.out _).mono ?_; rintro e w2 ⟨rfl, rfl⟩))
      go_ret
      exact ⟨rfl, HB.out⟩
  · cases y
    · cases z
      · clear h1 h2 h4
        go_enter Try.func3, Try.ntmps3
        go_wp2_with fail
        refine (awake_calls w).mono ?_
        rintro e w1 ⟨rfl, hb1⟩
        have HB := Aside0.mk hb1
        clear hb1
        go_wp2_with (first
          | (go_at_call 10; (first | with_reducible refine (LAB.out _).mono ?_ | with_reducible refine (LBA.out _).mono ?_ | with_reducible refine (LBC.out _).mono ?_ | with_reducible refine (LAC.out _).mono ?_ | with_reducible refine (LAA.out _).mono ?_); rintro e w2 ⟨rfl, hb2⟩; have HB2 := Aside0.mk (below_then HB.out HB.out.size hb2); clear hb2 HB; have HB := HB2; clear HB2)
          | (go_at_call 15; with_reducible refine (RAB.out _).mono ?_; rintro e w2 ⟨rfl, hb2⟩; have HB2 := Aside0.mk (below_then HB.out HB.out.size hb2); clear hb2 HB; have HB := HB2; clear HB2)
          | (go_at_call 13; with_reducible refine (HA.out _).mono ?_; rintro e w2 ⟨rfl, hb2⟩; have HB2 := Aside0.mk (below_then HB.out HB.out.size hb2); clear hb2 HB; have HB := HB2; clear HB2)
          | (go_at_call 14; with_reducible refine (GA.out _).mono ?_; rintro e w2 ⟨rfl, rfl⟩)
          | (go_at_call 11; with_reducible refine (CA.out _).mono ?_; rintro e w2 ⟨rfl, hb2⟩; have HB2 := Aside0.mk (below_then HB.out HB.out.size hb2); clear hb2 HB; have HB := HB2; clear HB2)
          | (go_at_call 12; with_reducible refine (DA.out _).mono ?_; rintro e w2 ⟨rfl, rfl⟩))
        go_ret
        exact ⟨rfl, HB.out⟩
      · cases t
        · exact absurd (h1 rfl rfl) (by simp)
        · clear h1 h2 h4
          go_enter Try.func3, Try.ntmps3
          go_wp2_with fail
          refine (awake_calls w).mono ?_
          rintro e w1 ⟨rfl, hb1⟩
          have HB := Aside0.mk hb1
          clear hb1
          go_wp2_with (first
            | (go_at_call 10; (first | with_reducible refine (LAB.out _).mono ?_ | with_reducible refine (LBA.out _).mono ?_ | with_reducible refine (LBC.out _).mono ?_ | with_reducible refine (LAC.out _).mono ?_ | with_reducible refine (LAA.out _).mono ?_); rintro e w2 ⟨rfl, hb2⟩; have HB2 := Aside0.mk (below_then HB.out HB.out.size hb2); clear hb2 HB; have HB := HB2; clear HB2)
            | (go_at_call 15; with_reducible refine (RAB.out _).mono ?_; rintro e w2 ⟨rfl, hb2⟩; have HB2 := Aside0.mk (below_then HB.out HB.out.size hb2); clear hb2 HB; have HB := HB2; clear HB2)
            | (go_at_call 13; with_reducible refine (HA.out _).mono ?_; rintro e w2 ⟨rfl, hb2⟩; have HB2 := Aside0.mk (below_then HB.out HB.out.size hb2); clear hb2 HB; have HB := HB2; clear HB2)
            | (go_at_call 14; with_reducible refine (GA.out _).mono ?_; rintro e w2 ⟨rfl, rfl⟩)
            | (go_at_call 11; with_reducible refine (CA.out _).mono ?_; rintro e w2 ⟨rfl, hb2⟩; have HB2 := Aside0.mk (below_then HB.out HB.out.size hb2); clear hb2 HB; have HB := HB2; clear HB2)
            | (go_at_call 12; with_reducible refine (DA.out _).mono ?_; rintro e w2 ⟨rfl, rfl⟩))
          go_ret
          exact ⟨rfl, HB.out⟩
    · exact (h2 rfl rfl).elim
end Go.Proofs.Ytjggkaieagbjmaa.Hand
