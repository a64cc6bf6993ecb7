/- The sums of package wire by plain functions, and what one byte's part and the sum of a row of bytes answer: for every word and every row that can be read. -/
import Derived.Test.YtjggkaieagbjmaaProg
import Derived.Below
import Derived.OwnWalk
import Derived.WalkKit
import Derived.KernelRfl
import Derived.RowKit3
import Derived.Deep.LoopGhost
import Derived.Deep.QuietTactic
import Derived.BigQuiet
import Derived.Outline
import Derived.Laws.BitsLemmas
import Derived.RowKit
import Derived.Test.YtjggkaieagbjmaaWWords
import Derived.Test.YtjggkaieagbjmaaWLast
import Derived.Test.YtjggkaieagbjmaaWMore
namespace Go.Proofs.Ytjggkaieagbjmaa.Hand
set_option linter.unusedVariables false
set_option linter.unusedSimpArgs false
open Go.RowKit Go.Proofs.YtjggkaieagbjmaaW.PrintWords Go.Proofs.YtjggkaieagbjmaaW.PrintLast Go.Proofs.YtjggkaieagbjmaaW.PrintMore

def st1 (c : Int) : Int := if (Go.bits .and .u32 c 1 != 0) = true then Go.bits .xor .u32 (c / 2) 2197175160 else c / 2
def stN : Nat → Int → Int
  | 0, c => c
  | n + 1, c => st1 (stN n c)
def crc1 (c x : Int) : Int := Go.bits .xor .u32 (stN 8 (Go.bits .and .u32 (Go.bits .xor .u32 c (x % 4294967296)) 255)) (c / 256)
def crcF (c : Int) (l : List Int) : Int := l.foldl crc1 c
def crcI (s : Int) (l : List Int) : Int := Go.bits .xor .u32 4294967295 (crcF (Go.bits .xor .u32 4294967295 s) l)

theorem bits_u32 (o : BinOp) (a b : Int) : 0 ≤ Go.bits o .u32 a b ∧ Go.bits o .u32 a b < 4294967296 := by
  have h : ∀ n : Int, 0 ≤ IntKind.u32.wrap n ∧ IntKind.u32.wrap n < 4294967296 := fun n => by rw [IntKind.wrap_u32]; omega
  cases o <;> simp only [Go.bits] <;> exact h _
theorem st1_range (c : Int) (h0 : 0 ≤ c) (h1 : c < 4294967296) : 0 ≤ st1 c ∧ st1 c < 4294967296 := by
  unfold st1
  split
  · exact bits_u32 _ _ _
  · omega
theorem stN_range (n : Nat) (c : Int) (h0 : 0 ≤ c) (h1 : c < 4294967296) : 0 ≤ stN n c ∧ stN n c < 4294967296 := by
  induction n with
  | zero => exact ⟨h0, h1⟩
  | succ n ih => exact st1_range _ ih.1 ih.2
theorem crc1_range (c x : Int) : 0 ≤ crc1 c x ∧ crc1 c x < 4294967296 := bits_u32 _ _ _
theorem crcF_range (c : Int) (l : List Int) (h0 : 0 ≤ c) (h1 : c < 4294967296) : 0 ≤ crcF c l ∧ crcF c l < 4294967296 := by
  unfold crcF
  induction l generalizing c with
  | nil => exact ⟨h0, h1⟩
  | cons x l ih => exact ih _ (crc1_range _ _).1 (crc1_range _ _).2
theorem crcF_snoc (c : Int) (l : List Int) (k : Nat) (h : k < l.length) : crcF c (l.take (k + 1)) = crc1 (crcF c (l.take k)) (rd l k) := by
  unfold crcF rd
  rw [List.take_succ_eq_append_getElem h, List.foldl_append]
  simp [List.getD_eq_getElem?_getD, h]

theorem crcI_range (s : Int) (l : List Int) : 0 ≤ crcI s l ∧ crcI s l < 4294967296 := bits_u32 _ _ _

set_option maxHeartbeats 400000 in
theorem step_calls (c : Int) (w : World) (h0 : 0 ≤ c) (h1 : c < 4294967296) :
    Calls Try.prog 66 #[.int .u32 c] w fun e w' => e = .returned (.int .u32 (stN 8 c)) ∧ w = w' := by
  go_enter Try.func66, Try.ntmps66
  go_wp2
  go_loop [0, 4] (fun x i => ∃ k : Nat, k ≤ 8 ∧ x = .int .u32 (stN k c) ∧ i = .int .i64 k) (fun _ i => 8 - (intOf i).toNat)
  case atStart => exact ⟨0, by omega, rfl, rfl⟩
  case round =>
    obtain ⟨k, hk, rfl, rfl⟩ := hrel
    have hr := stN_range k c h0 h1
    obtain ⟨y, hy⟩ : ∃ y, stN k c = y := ⟨_, rfl⟩
    have hs : stN (k + 1) c = st1 y := by rw [← hy]; rfl
    rw [hy] at hr ⊢
    have HY := Aside0.mk hy
    have HS := Aside0.mk hs
    clear hy hs
    obtain ⟨hr0, hr1⟩ := hr
    by_cases hlt : k < 8
    · cases hb : (Go.bits .and .u32 y 1 != 0)
      · have e1 : st1 y = y / 2 := by unfold st1; rw [if_neg (by rw [hb]; simp)]
        have E1 := Aside0.mk e1
        clear e1
        go_wp2
        go_round
        case rel => exact ⟨k + 1, by omega, by rw [HS.out, E1.out], by go_num⟩
        case measure => simp [intOf]; omega
      · have e1 : st1 y = Go.bits .xor .u32 (y / 2) 2197175160 := by unfold st1; rw [if_pos hb]
        have E1 := Aside0.mk e1
        clear e1
        go_wp2
        go_round
        case rel => exact ⟨k + 1, by omega, by rw [HS.out, E1.out], by go_num⟩
        case measure => simp [intOf]; omega
    · go_wp2
      go_ret
      obtain rfl : k = 8 := by omega
      exact ⟨by rw [HY.out]; rfl, rfl⟩

set_option maxHeartbeats 1000000 in
set_option maxRecDepth 100000 in
theorem crc_calls (s : Int) (A1 : Option Addr) (c1 : Nat) (l1 : List Int) (w : World) (hr1 : Kd.C (Kd.int .u8) w A1 l1.length l1) (hs0 : 0 ≤ s) (hs1 : s < 4294967296) :
    Calls Try.prog 60 #[.int .u32 s, .slice A1 l1.length c1] w fun e w' => e = .returned (.int .u32 (crcI s l1)) ∧ w = w' := by
  have HR1 := Aside0.mk hr1
  have hn : l1.length ≤ 9223372036854775807 := hr1.2.1
  clear hr1
  obtain ⟨s0, hs0'⟩ : ∃ s0, Go.bits .xor .u32 4294967295 s = s0 := ⟨_, rfl⟩
  have hs := bits_u32 .xor 4294967295 s
  rw [hs0'] at hs
  obtain ⟨p0, p1⟩ := hs
  go_enter Try.func60, Try.ntmps60
  go_wp2
  go_loop [5, 12] (fun x i => ∃ k : Nat, k ≤ l1.length ∧ x = .int .u32 (crcF s0 (l1.take k)) ∧ i = .int .i64 k) (fun _ i => l1.length - (intOf i).toNat)
  case atStart => exact ⟨0, by omega, by show Value.int .u32 (Go.bits .xor .u32 4294967295 s) = _; rw [hs0']; rfl, rfl⟩
  case round =>
    obtain ⟨k, hk, rfl, rfl⟩ := hrel
    have hr := crcF_range s0 (l1.take k) p0 p1
    obtain ⟨y, hy⟩ : ∃ y, crcF s0 (l1.take k) = y := ⟨_, rfl⟩
    rw [hy] at hr ⊢
    obtain ⟨hr0, hr1⟩ := hr
    by_cases hlt : k < l1.length
    · have hsn := crcF_snoc s0 l1 k hlt
      rw [hy] at hsn
      have HS := Aside0.mk hsn
      obtain ⟨ad, e, hx⟩ := Kd.at_int HR1.out (k : Int) (by omega) (by omega)
      cases e
      rw [Int.toNat_natCast] at hx
      have HS0 := Aside0.mk hs0'
      have HY := Aside0.mk hy
      clear hsn hs0' hy
      go_wp2_with (go_at_call 66; refine (step_calls _ _ (bits_u32 _ _ _).1 (bits_u32 _ _ _).2).mono ?_; rintro e w' ⟨rfl, rfl⟩)
      go_round
      case rel => exact ⟨k + 1, by omega, by rw [HS.out]; rfl, by go_num⟩
      case measure => simp [intOf]; omega
    · have HS0 := Aside0.mk hs0'
      have HY := Aside0.mk hy
      clear hs0' hy
      go_wp2
      go_ret
      exact ⟨by unfold crcI; rw [HS0.out, ← HY.out, List.take_of_length_le (by omega)]; rfl, rfl⟩
end Go.Proofs.Ytjggkaieagbjmaa.Hand
