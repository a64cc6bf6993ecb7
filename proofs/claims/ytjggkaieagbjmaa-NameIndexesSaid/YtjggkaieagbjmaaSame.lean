/- The document's comparison of two rows of bytes. -/
import Derived.Test.YtjggkaieagbjmaaUnp1
namespace Go.Proofs.Ytjggkaieagbjmaa.Hand
set_option linter.unusedVariables false
set_option linter.unusedSimpArgs false
open Go.Shelf Go.RowKit Go.Proofs.YtjggkaieagbjmaaW.PrintWords Go.Proofs.YtjggkaieagbjmaaW.PrintLast Go.Proofs.YtjggkaieagbjmaaW.PrintMore

theorem take_succ_ne {l m : List Int} (k : Nat) (h1 : k < l.length) (h2 : k < m.length) (h : l.getD k 0 ≠ m.getD k 0) : (l == m) = false := by
  rw [beq_eq_false_iff_ne]
  rintro rfl
  exact h rfl
theorem take_succ_eq {l m : List Int} (k : Nat) (h1 : k < l.length) (h2 : k < m.length) (ht : l.take k = m.take k) (h : l.getD k 0 = m.getD k 0) : l.take (k + 1) = m.take (k + 1) := by
  rw [List.take_succ_eq_append_getElem h1, List.take_succ_eq_append_getElem h2, ht]
  have : l[k] = m[k] := by simpa [List.getD_eq_getElem?_getD, h1, h2] using h
  rw [this]

set_option maxHeartbeats 1000000 in
set_option maxRecDepth 100000 in
theorem same_calls (A B : Option Addr) (c d : Nat) (l m : List Int) (w : World) (hl : Kd.C (Kd.int .u8) w A l.length l) (hm : Kd.C (Kd.int .u8) w B m.length m) :
    Calls Try.prog 21 #[.slice A l.length c, .slice B m.length d] w fun e w' => e = .returned (.bool (l == m)) ∧ Below w.heap.size w w' := by
  have hll := (C_int_len hl).2
  have HL := Aside0.mk hl
  have HM := Aside0.mk hm
  clear hl hm
  obtain ⟨b, hb⟩ : ∃ b, (l == m) = b := ⟨_, rfl⟩
  rw [hb]
  by_cases hlen : l.length = m.length
  · have HBB := Aside0.mk hb
    have HLEN := Aside0.mk hlen
    rw [← hlen]
    clear hb hlen
    go_enter Try.func21, Try.ntmps21
    go_wp2
    go_loopg [5] l.length (fun g i wr => ∃ k : Nat, k + g = l.length ∧ i = .int .i64 k ∧ Aside0 (Below w.heap.size w wr) ∧ Aside0 (l.take k = m.take k))
    case atStart => exact ⟨0, by omega, rfl, ⟨Below.refl _ _⟩, ⟨rfl⟩⟩
    case round =>
      obtain ⟨k, hk, rfl, HB, HT⟩ := hrel
      cases gk with
      | zero =>
        obtain rfl : k = l.length := by omega
        go_wp2
        go_ret
        have : l = m := by
          have h := HT.out
          rw [List.take_length, List.take_of_length_le (by rw [HLEN.out]; exact Nat.le_refl _)] at h
          exact h
        exact ⟨by rw [← HBB.out, this]; simp, HB.out⟩
      | succ g =>
        have hkm : k < m.length := by have := HLEN.out; omega
        obtain ⟨ad, rfl, h1⟩ := C_int_at (Kd.C_below HL.out HB.out) k (by omega)
        obtain ⟨bd, rfl, h2⟩ := C_int_at (Kd.C_below HM.out HB.out) k hkm
        have hne := take_succ_ne (l := l) (m := m) k (by omega) hkm
        have heq := take_succ_eq (l := l) (m := m) k (by omega) hkm HT.out
        generalize l.getD k 0 = x at h1 hne heq
        generalize m.getD k 0 = y at h2 hne heq
        have i1 : (k : Int) < (l.length : Int) := by omega
        have i2 : k < l.length := by omega
        by_cases hxy : x = y
        · have HQ := Aside0.mk (heq hxy)
          subst hxy
          clear hne heq
          go_wp2
          go_quiet (fail)
          go_wp2
          go_roundg g
          case measure => omega
          case rel => exact ⟨k + 1, by omega, by go_num, ⟨pw_below_drewN HB.out _⟩, ⟨HQ.out⟩⟩
        · have hb0 := hne hxy
          rw [HBB.out] at hb0
          have hxy1 : (x != y) = true := by simpa using hxy
          subst hb0
          clear hne heq hxy
          go_wp2
          go_quiet (fail)
          go_wp2
          go_ret
          exact ⟨rfl, pw_below_drewN HB.out _⟩
  · have hb0 : b = false := by
      rw [← hb, beq_eq_false_iff_ne]
      rintro rfl
      exact hlen rfl
    have hl1 : ((l.length : Int) != (m.length : Int)) = true := by rw [bne_iff_ne]; omega
    subst hb0
    clear hb hlen
    go_enter Try.func21, Try.ntmps21
    go_wp2
    go_ret
    exact ⟨rfl, Below.refl _ _⟩
end Go.Proofs.Ytjggkaieagbjmaa.Hand
