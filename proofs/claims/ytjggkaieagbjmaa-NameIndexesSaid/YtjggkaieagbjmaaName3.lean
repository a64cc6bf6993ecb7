/- Package name: which names may be: no "/" and no byte 0, for every text. -/
import Derived.Test.YtjggkaieagbjmaaName2
import Derived.Test.YtjggkaieagbjmaaShelf
import Derived.Laws.RangeAny
import Derived.Lib.IndexAny
import Derived.WalkMore
namespace Go.Proofs.Ytjggkaieagbjmaa.Hand
set_option linter.unusedVariables false
set_option linter.unusedSimpArgs false
open Go.Shelf Go.RowKit Go.Proofs.YtjggkaieagbjmaaW.PrintWords Go.Proofs.YtjggkaieagbjmaaW.PrintLast Go.Proofs.YtjggkaieagbjmaaW.PrintMore

def barS : ByteArray := ⟨#[47, 0]⟩

set_option maxHeartbeats 2000000 in
set_option maxRecDepth 100000 in
theorem rune_err (w : World) : Calls Try.prog 54 #[.string ⟨#[47, 0]⟩, .int .i32 65533] w fun e w' => e = .returned (.int .i64 (-1)) ∧ Below w.heap.size w w' := by
  have n0 := fun ty => run_next_ascii (P := Try.prog) w ⟨#[47, 0]⟩ 0 ty (by decide) (by decide)
  have n1 := fun ty => run_next_ascii (P := Try.prog) w ⟨#[47, 0]⟩ 1 ty (by decide) (by decide)
  have n2 := fun ty => run_next_end (P := Try.prog) w ⟨#[47, 0]⟩ 2 ty (by decide)
  go_enter Try.func54, Try.ntmps54
  go_wp2
  refine wp_loop_rounds 3 ?_
  rw [rounds_succ]
  go_wp2
  rw [rounds_succ]
  go_wp2
  rw [rounds_succ]
  go_wp2
  go_ret
  exact ⟨rfl, below_alloc (Below.refl _ _) _⟩

set_option maxHeartbeats 2000000 in
set_option maxRecDepth 100000 in
theorem rune_not (r : Int) (w : World) (h1 : 128 ≤ r) (h2 : r ≠ 65533) (h3 : r ≤ 1114111) (hv : Lib.validRune r = false) : Calls Try.prog 54 #[.string ⟨#[47, 0]⟩, .int .i32 r] w fun e w' => e = .returned (.int .i64 (-1)) ∧ Below w.heap.size w w' := by
  have h2' : (r == 65533) = false := by simpa using h2
  have HV := Aside0.mk hv
  clear h2 hv
  go_enter Try.func54, Try.ntmps54
  go_wp2_with (go_at_call 63; refine (Try.utf8_ValidRune r _).mono ?_; rintro e w' ⟨rfl, rfl⟩; rw [HV.out])
  go_ret
  exact ⟨rfl, Below.refl _ _⟩

theorem enc_two (r : Int) (h1 : 128 ≤ r) (h2 : r < 2048) : ∃ x y : UInt8, Utf8.encode r = ⟨#[x, y]⟩ ∧ 128 ≤ y.toNat := by
  have hv : Utf8.valid r = true := by simp [Utf8.valid]; omega
  unfold Utf8.encode
  simp only [hv, if_true]
  rw [if_neg (by omega), if_pos (by omega)]
  refine ⟨_, _, rfl, ?_⟩
  simp only [UInt8.toNat_ofNat']
  omega
theorem enc_three (r : Int) (h1 : 2048 ≤ r) (hr : r ≤ 1114111) : 3 ≤ (Utf8.encode r).size ∧ (Utf8.encode r).size ≤ 4 := by
  unfold Utf8.encode
  have hb : 2048 ≤ (if Utf8.valid r then r.toNat else Utf8.runeError) := by
    split
    · omega
    · simp [Utf8.runeError]
  obtain ⟨c, hc⟩ : ∃ c, (if Utf8.valid r then r.toNat else Utf8.runeError) = c := ⟨_, rfl⟩
  rw [hc] at hb
  simp only [hc]
  rw [if_neg (by omega), if_neg (by omega)]
  split <;> simp [ByteArray.size]

set_option maxHeartbeats 2000000 in
set_option maxRecDepth 100000 in
theorem rune_valid (r : Int) (w : World) (h1 : 128 ≤ r) (h2 : r ≠ 65533) (h3 : r ≤ 1114111) (hv : Lib.validRune r = true) : Calls Try.prog 54 #[.string ⟨#[47, 0]⟩, .int .i32 r] w fun e w' => e = .returned (.int .i64 (-1)) ∧ Below w.heap.size w w' := by
  have h2' : (r == 65533) = false := by simpa using h2
  have HV := Aside0.mk hv
  clear h2 hv
  by_cases h4 : r < 2048
  · obtain ⟨x, y, he, hy⟩ := enc_two r h1 h4
    have HE := Aside0.mk he
    clear he
    go_enter Try.func54, Try.ntmps54
    go_wp2_with (go_at_call 63; refine (Try.utf8_ValidRune r _).mono ?_; rintro e w' ⟨rfl, hw⟩; rw [HV.out, hw])
    go_step3
    go_wp2
    have ez : ((⟨#[x, y]⟩ : ByteArray).size : Int) = 2 := rfl
    have e1 : wrap64 (2 - 1) = 1 := by simp [wrap64]
    have hne : ((((⟨#[47, 0]⟩ : ByteArray)[1]'(by decide)).toNat : Int) != (((⟨#[x, y]⟩ : ByteArray)[1]'(by show 1 < 2; omega)).toNat : Int)) = true := by
      show ((0 : Int) != (y.toNat : Int)) = true
      simp; omega
    rw [HE.out, ez, e1]
    clear ez e1
    refine wp_loop_rounds 1 ?_
    rw [rounds_succ]
    go_wp2
    go_step3
    go_wp2
    go_quiet (fail)
    have HQ := Aside0.mk (pw_below_drewN (Below.refl w.heap.size w) nq)
    generalize w.drewN nq = w2 at HQ ⊢
    go_wp2
    go_quiet ((go_at_call 62; exact Calls.quiet_of_same (Try.strings_IndexByte _ _ _)))
    have hQ2 := fun n => pw_below_drewN HQ.out n
    go_wp2
    rw [Exit.noGoto_ret]
    simp only [Exit.inBlock, Exit.then]
    try rw [Exit.noGoto_ret]
    go_ret
    exact ⟨rfl, hQ2 _⟩
  · obtain ⟨he3, he4⟩ := enc_three r (by omega) h3
    go_enter Try.func54, Try.ntmps54
    go_wp2_with (go_at_call 63; refine (Try.utf8_ValidRune r _).mono ?_; rintro e w' ⟨rfl, hw⟩; rw [HV.out, hw])
    go_step3
    go_wp2
    obtain ⟨q, hq⟩ : ∃ q, Utf8.encode r = q := ⟨_, rfl⟩
    rw [hq] at he3 he4 ⊢
    clear hq
    have hd : decide (wrap64 ((q.size : Int) - 1) < 2) = false := by unfold wrap64; simp; omega
    refine wp_loop_rounds 1 ?_
    rw [rounds_succ]
    go_wp2
    rw [Exit.noGoto_ret]
    go_ret
    exact ⟨rfl, Below.refl _ _⟩
end Go.Proofs.Ytjggkaieagbjmaa.Hand
