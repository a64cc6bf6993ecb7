/- Package name: has a text a "/" or a byte 0: what the library's search tells of any text. -/
import Derived.Test.YtjggkaieagbjmaaName3
import Derived.Lib.OthersKept
namespace Go.Proofs.Ytjggkaieagbjmaa.Hand
set_option linter.unusedVariables false
set_option linter.unusedSimpArgs false
open Go.Shelf Go.RowKit Go.Proofs.YtjggkaieagbjmaaW.PrintWords Go.Proofs.YtjggkaieagbjmaaW.PrintLast Go.Proofs.YtjggkaieagbjmaaW.PrintMore

/-- Is there a "/" or a byte 0? -/
def barB (l : List UInt8) : Bool := l.any fun c => c == 47 || c == 0
theorem get!_at (s : ByteArray) (j : Nat) (h : j < s.size) : s.get! j = s.data.toList.getD j 0 := by
  have h' : j < s.data.size := h
  simp [ByteArray.get!, getElem!_pos, h, List.getD_eq_getElem?_getD, h']

theorem decode_wide (s : ByteArray) (pos : Nat) (h : pos < s.size) (hw : 128 ≤ (s.get! pos).toNat) :
    128 ≤ (Utf8.decode s pos).1 ∧ (Utf8.decode s pos).1 ≤ 1114111 ∧ 1 ≤ (Utf8.decode s pos).2 ∧ pos + (Utf8.decode s pos).2 ≤ s.size ∧ ∀ j, j < (Utf8.decode s pos).2 → 128 ≤ (s.get! (pos + j)).toNat := by
  have hb : ∀ k, (s.get! (pos + k)).toNat < 256 := fun k => (s.get! (pos + k)).toNat_lt
  have h0 := hb 0; have h1 := hb 1; have h2 := hb 2; have h3 := hb 3
  have hp : s.get! (pos + 0) = s.get! pos := rfl
  obtain ⟨b0, e0⟩ : ∃ b0, (s.get! (pos + 0)).toNat = b0 := ⟨_, rfl⟩
  obtain ⟨b1, e1⟩ : ∃ b1, (s.get! (pos + 1)).toNat = b1 := ⟨_, rfl⟩
  obtain ⟨b2, e2⟩ : ∃ b2, (s.get! (pos + 2)).toNat = b2 := ⟨_, rfl⟩
  obtain ⟨b3, e3⟩ : ∃ b3, (s.get! (pos + 3)).toNat = b3 := ⟨_, rfl⟩
  rw [← hp, e0] at hw
  have one : ∀ j, j < 1 → 128 ≤ (s.get! (pos + j)).toNat := fun j hj => by
    obtain rfl : j = 0 := by omega
    rw [e0]; exact hw
  have two : 128 ≤ b1 → ∀ j, j < 2 → 128 ≤ (s.get! (pos + j)).toNat := fun h1 j hj => by
    rcases (by omega : j = 0 ∨ j = 1) with rfl | rfl
    · rw [e0]; exact hw
    · rw [e1]; exact h1
  have three : 128 ≤ b1 → 128 ≤ b2 → ∀ j, j < 3 → 128 ≤ (s.get! (pos + j)).toNat := fun h1 h2 j hj => by
    rcases (by omega : j = 0 ∨ j = 1 ∨ j = 2) with rfl | rfl | rfl
    · rw [e0]; exact hw
    · rw [e1]; exact h1
    · rw [e2]; exact h2
  have four : 128 ≤ b1 → 128 ≤ b2 → 128 ≤ b3 → ∀ j, j < 4 → 128 ≤ (s.get! (pos + j)).toNat := fun h1 h2 h3 j hj => by
    rcases (by omega : j = 0 ∨ j = 1 ∨ j = 2 ∨ j = 3) with rfl | rfl | rfl | rfl
    · rw [e0]; exact hw
    · rw [e1]; exact h1
    · rw [e2]; exact h2
    · rw [e3]; exact h3
  simp only [Utf8.decode, e0, e1, e2, e3, Utf8.runeError]
  rw [e0] at h0; rw [e1] at h1; rw [e2] at h2; rw [e3] at h3
  clear e0 e1 e2 e3 hp hb
  rw [if_neg (by omega)]
  split
  · rename_i hc
    simp only [Bool.and_eq_true, beq_iff_eq, decide_eq_true_eq] at hc
    split
    · exact ⟨by omega, by omega, by omega, by omega, two (by omega)⟩
    · exact ⟨by omega, by omega, by omega, by omega, one⟩
  · split
    · rename_i hc
      simp only [Bool.and_eq_true, beq_iff_eq, decide_eq_true_eq] at hc
      split
      · rename_i hv
        simp only [Bool.and_eq_true, decide_eq_true_eq] at hv
        exact ⟨by omega, by omega, by omega, by omega, three (by omega) (by omega)⟩
      · exact ⟨by omega, by omega, by omega, by omega, one⟩
    · split
      · rename_i hc
        simp only [Bool.and_eq_true, beq_iff_eq, decide_eq_true_eq] at hc
        split
        · rename_i hv
          simp only [Bool.and_eq_true, decide_eq_true_eq, Utf8.valid, Bool.or_eq_true] at hv
          exact ⟨by omega, by omega, by omega, by omega, four (by omega) (by omega) (by omega)⟩
        · exact ⟨by omega, by omega, by omega, by omega, one⟩
      · exact ⟨by omega, by omega, by omega, by omega, one⟩

theorem rune_wide (r : Int) (w : World) (h1 : 128 ≤ r) (h3 : r ≤ 1114111) : Calls Try.prog 54 #[.string ⟨#[47, 0]⟩, .int .i32 r] w fun e w' => e = .returned (.int .i64 (-1)) ∧ Below w.heap.size w w' := by
  by_cases h2 : r = 65533
  · subst h2; exact rune_err w
  · cases hv : Lib.validRune r
    · exact rune_not r w h1 h2 h3 hv
    · exact rune_valid r w h1 h2 h3 hv

def NoBar (l : List UInt8) (i : Nat) : Prop := ∀ j, j < i → l.getD j 0 ≠ 47 ∧ l.getD j 0 ≠ 0
theorem barB_of (l : List UInt8) (h : NoBar l l.length) : barB l = false := by
  unfold barB
  rw [List.any_eq_false]
  intro c hc
  obtain ⟨j, hj, rfl⟩ := List.getElem_of_mem hc
  have := h j hj
  simp [List.getD_eq_getElem?_getD, hj] at this
  simp [this]
theorem barB_at (l : List UInt8) (j : Nat) (hj : j < l.length) (h : l.getD j 0 = 47 ∨ l.getD j 0 = 0) : barB l = true := by
  unfold barB
  rw [List.any_eq_true]
  refine ⟨l.getD j 0, ?_, by rcases h with h | h <;> rw [h] <;> rfl⟩
  simp [List.getD_eq_getElem?_getD, hj]

/-- What IndexAny's answer tells. -/
def Tells (l : List UInt8) (e : Ending) : Prop := ∃ r : Int, e = .returned (.int .i64 r) ∧ (0 ≤ r ↔ barB l = true)

set_option maxHeartbeats 4000000 in
set_option maxRecDepth 100000 in
theorem any_short (s : ByteArray) (w : World) (h8 : s.size ≤ 8) :
    Calls Try.prog 45 #[.string s, .string ⟨#[47, 0]⟩] w fun e w' => Tells s.data.toList e ∧ Below w.heap.size w w' := by
  have h8z : decide ((8 : Int) < (s.size : Int)) = false := decide_eq_false (by omega)
  go_enter Try.func45, Try.ntmps45
  go_wp2_with (go_at_call 55; refine (Try.strings_shouldUseASCIISet _ _).mono ?_; rintro e w' ⟨rfl, hw⟩; rw [hw, h8z])
  go_loopg [] s.size (fun g wx => ∃ i : Nat, i ≤ s.size ∧ s.size - i ≤ g ∧ Aside0 (wx.heap[w.heap.size]? = some (.stringIter s i)) ∧ Aside0 (Below w.heap.size w wx) ∧ Aside0 (NoBar s.data.toList i))
  case atStart => exact ⟨0, by omega, by omega, ⟨World.iter_heap w s 0⟩, ⟨below_alloc (Below.refl _ _) _⟩, ⟨fun j hj => absurd hj (by omega)⟩⟩
  case round =>
    obtain ⟨i, his, hg, HI, HB, HN⟩ := hrel
    have HW := Aside0.mk hg
    clear hg
    by_cases hi : i < s.size
    · cases gk with
      | zero => exact absurd HW.out (by omega)
      | succ g =>
      have hnx := fun ty => Lib.run_next_any_at (P := Try.prog) wr w.heap.size s i ty HI.out hi
      by_cases hx : (s.get! i).toNat < 128
      · have hd : Utf8.decode s i = ((s.get! i).toNat, 1) := by
          have := decode_ascii s i hi (by have := get!_at s i hi; simp [ByteArray.get!, getElem!_pos, hi] at hx; exact hx)
          rw [this]
          simp [ByteArray.get!, getElem!_pos, hi]
          rfl
        rw [hd] at hnx
        have hgc := get!_at s i hi
        obtain ⟨x, hxx⟩ : ∃ x : UInt8, s.get! i = x := ⟨_, rfl⟩
        rw [hxx] at hnx hx hgc
        have HG := Aside0.mk hgc
        clear hgc hd hxx
        have hit := Lib.iterAt_heap wr w.heap.size s i (i + 1) HI.out
        have hbe : Below w.heap.size w (wr.iterAt w.heap.size s (i + 1)) := ⟨HB.out.os, HB.out.tape, HB.out.output, by simpa [World.iterAt] using HB.out.size, fun k hk => by
          have := HB.out.block k hk
          simp only [World.iterAt]
          rw [Array.getElem?_setIfInBounds, if_neg (by omega)]
          exact this⟩
        have HIT := Aside0.mk hit
        have HBE := Aside0.mk hbe
        clear hit hbe
        by_cases hbar : x = 47 ∨ x = 0
        · have hge : (0 : Int) ≤ Lib.indexByte [47, 0] x := by
            rcases hbar with rfl | rfl <;> decide
          go_wp2_with (go_at_call 54; refine (Try.strings_IndexRune_ascii _ _ _ (by omega) (by omega)).mono ?_; rintro e w' ⟨rfl, hw⟩; rw [hw])
          go_ret
          refine ⟨⟨i, rfl, ?_⟩, HBE.out⟩
          have e := HG.out
          rw [barB_at s.data.toList i (by have := Lib.size_eq s; omega) (by rw [← e]; exact hbar)]
          simp
        · have hlt : Lib.indexByte [47, 0] x < 0 := by
            have h1 : ¬ (47 : UInt8) = x := fun h => hbar (.inl h.symm)
            have h2 : ¬ (0 : UInt8) = x := fun h => hbar (.inr h.symm)
            simp [Lib.indexByte, h1, h2]
          go_wp2_with (go_at_call 54; refine (Try.strings_IndexRune_ascii _ _ _ (by omega) (by omega)).mono ?_; rintro e w' ⟨rfl, hw⟩; rw [hw])
          go_roundg g
          case measure => omega
          case rel =>
            refine ⟨i + 1, by omega, by have := HW.out; omega, HIT, HBE, ⟨fun j hj => ?_⟩⟩
            by_cases e : j = i
            · subst e
              rw [← HG.out]
              exact ⟨fun h => hbar (.inl h), fun h => hbar (.inr h)⟩
            · exact HN.out j (by omega)
      · obtain ⟨d1, d2, d3, d4, d5⟩ := decode_wide s i hi (by omega)
        obtain ⟨c, hcc⟩ : ∃ c, (Utf8.decode s i).1 = c := ⟨_, rfl⟩
        obtain ⟨n, hnn⟩ : ∃ n, (Utf8.decode s i).2 = n := ⟨_, rfl⟩
        rw [hcc] at d1 d2
        rw [hnn] at d3 d4 d5
        rw [hcc, hnn] at hnx
        have D5 := Aside0.mk d5
        clear hcc hnn d5
        have hit := Lib.iterAt_heap wr w.heap.size s i (i + n) HI.out
        have hbe : Below w.heap.size w (wr.iterAt w.heap.size s (i + n)) := ⟨HB.out.os, HB.out.tape, HB.out.output, by simpa [World.iterAt] using HB.out.size, fun k hk => by
          have := HB.out.block k hk
          simp only [World.iterAt]
          rw [Array.getElem?_setIfInBounds, if_neg (by omega)]
          exact this⟩
        have HIT := Aside0.mk hit
        have HBE := Aside0.mk hbe
        clear hit hbe hx
        go_wp2_with (go_at_call 54; refine (rune_wide _ _ (by omega) (by omega)).mono ?_; rintro e w2 ⟨rfl, hb2⟩)
        have HB2 := Aside0.mk (below_then HBE.out HBE.out.size hb2)
        have HI2 := Aside0.mk ((hb2.block _ (lt_of_obj HIT.out)).trans HIT.out)
        clear hb2
        go_roundg g
        case measure => omega
        case rel =>
          refine ⟨i + n, by omega, by have := HW.out; omega, HI2, HB2, ⟨fun j hj => ?_⟩⟩
          by_cases e : j < i
          · exact HN.out j e
          · have := D5.out (j - i) (by omega)
            rw [show i + (j - i) = j by omega, get!_at s j (by omega)] at this
            exact ⟨fun h => by rw [h] at this; exact absurd this (by decide), fun h => by rw [h] at this; exact absurd this (by decide)⟩
    · have hnx := fun ty => Lib.run_next_end_at (P := Try.prog) wr w.heap.size s i ty HI.out hi
      go_wp2
      go_ret
      refine ⟨⟨-1, rfl, ?_⟩, HB.out⟩
      rw [barB_of _ (by have : i = s.data.toList.length := by (have := Lib.size_eq s; omega)
                        rw [← this]; exact HN.out)]
      simp
end Go.Proofs.Ytjggkaieagbjmaa.Hand
