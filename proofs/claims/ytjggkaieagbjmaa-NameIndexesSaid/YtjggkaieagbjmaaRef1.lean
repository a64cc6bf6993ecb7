/- The document's package of layer 1, walked: its sum, its numbers in bytes, its seal: as the plain functions of the program's own. -/
import Derived.Test.YtjggkaieagbjmaaCrc
namespace Go.Proofs.Ytjggkaieagbjmaa.Hand
set_option linter.unusedVariables false
set_option linter.unusedSimpArgs false
open Go.Shelf Go.RowKit Go.Proofs.YtjggkaieagbjmaaW.PrintWords Go.Proofs.YtjggkaieagbjmaaW.PrintLast Go.Proofs.YtjggkaieagbjmaaW.PrintMore

theorem st1_odd (c : Int) (h0 : 0 ≤ c) (h1 : c < 4294967296) : st1 c = if c % 2 = 1 then Go.bits .xor .u32 (c / 2) 2197175160 else c / 2 := by
  unfold st1
  obtain ⟨v, rfl⟩ := bv_get c h0 h1
  rw [and_one_nz]
  have : v.getLsbD 0 = decide ((v.toNat : Int) % 2 = 1) := by
    have e : v.getLsbD 0 = v.toNat.testBit 0 := rfl
    rw [e, Nat.testBit_zero, decide_eq_decide]
    omega
  rw [this]
  simp

set_option maxHeartbeats 1000000 in
set_option maxRecDepth 100000 in
theorem rcrc_calls (s : Int) (A1 : Option Addr) (c1 : Nat) (l1 : List Int) (w : World) (hr1 : Kd.C (Kd.int .u8) w A1 l1.length l1) (hs0 : 0 ≤ s) (hs1 : s < 4294967296) (hb : allB l1) :
    Calls Try.prog 49 #[.int .u32 s, .slice A1 l1.length c1] w fun e w' => e = .returned (.int .u32 (crcI s l1)) ∧ w = w' := by
  have HR1 := Aside0.mk hr1
  have HAB := Aside0.mk hb
  have hn : l1.length ≤ 9223372036854775807 := hr1.2.1
  clear hr1 hb
  obtain ⟨s0, hs0'⟩ : ∃ s0, Go.bits .xor .u32 4294967295 s = s0 := ⟨_, rfl⟩
  have hs := bits_u32 .xor 4294967295 s
  rw [hs0'] at hs
  obtain ⟨p0, p1⟩ := hs
  go_enter Try.func49, Try.ntmps49
  go_wp2
  go_loop [5, 6] (fun x i => ∃ k : Nat, k ≤ l1.length ∧ x = .int .u32 (crcF s0 (l1.take k)) ∧ i = .int .i64 k) (fun _ i => l1.length - (intOf i).toNat)
  case atStart => exact ⟨0, by omega, by show Value.int .u32 (Go.bits .xor .u32 4294967295 s) = _; rw [hs0']; rfl, rfl⟩
  case round =>
    obtain ⟨k, hk, rfl, rfl⟩ := hrel
    have hr := crcF_range s0 (l1.take k) p0 p1
    obtain ⟨y, hy⟩ : ∃ y, crcF s0 (l1.take k) = y := ⟨_, rfl⟩
    rw [hy] at hr ⊢
    obtain ⟨hr0, hr1⟩ := hr
    by_cases hlt : k < l1.length
    · have hsn := crcF_bit s0 l1 k hlt HAB.out p0 p1
      have hx1 := allB_get HAB.out k
      rw [hy] at hsn
      obtain ⟨ad, e, hx⟩ := C_int_at HR1.out k hlt
      cases e
      generalize l1.getD k 0 = x at hx hx1 hsn
      obtain ⟨z, hz⟩ : ∃ z, Go.bits .xor .u32 y x = z := ⟨_, rfl⟩
      have hz1 := bits_u32 .xor y x
      rw [hz] at hz1 hsn
      have HS := Aside0.mk hsn
      have HZ := Aside0.mk hz
      have HS0 := Aside0.mk hs0'
      have HY := Aside0.mk hy
      clear hsn hs0' hy hz
      obtain ⟨hz0, hz2⟩ := hz1
      have e1 : x % 4294967296 = x := by omega
      go_wp2
      have HE1 := Aside0.mk e1
      clear e1
      go_loop [5, 7] (fun x i => ∃ j : Nat, j ≤ 8 ∧ x = .int .u32 (stN j z) ∧ i = .int .i64 j) (fun _ i => 8 - (intOf i).toNat)
      case atStart => exact ⟨0, by omega, by rw [← HZ.out]; rfl, rfl⟩
      case round =>
        obtain ⟨j, hj, rfl, rfl⟩ := hrel
        have hr := stN_range j z hz0 hz2
        obtain ⟨u, hu⟩ : ∃ u, stN j z = u := ⟨_, rfl⟩
        have hs : stN (j + 1) z = st1 u := by rw [← hu]; rfl
        rw [hu] at hr ⊢
        obtain ⟨hu0, hu1⟩ := hr
        have ho := st1_odd u hu0 hu1
        have HU := Aside0.mk hu
        have HSS := Aside0.mk hs
        clear hu hs
        by_cases hj8 : j < 8
        · by_cases hodd : u % 2 = 1
          · rw [if_pos hodd] at ho
            have HO := Aside0.mk ho
            clear ho
            have hb : (u % 2 == 1) = true := by simpa using hodd
            go_wp2
            go_round
            case rel => exact ⟨j + 1, by omega, by rw [HSS.out, HO.out], by go_num⟩
            case measure => simp [intOf]; omega
          · rw [if_neg hodd] at ho
            have HO := Aside0.mk ho
            clear ho
            have hb : (u % 2 == 1) = false := by simpa using hodd
            go_wp2
            go_round
            case rel => exact ⟨j + 1, by omega, by rw [HSS.out, HO.out], by go_num⟩
            case measure => simp [intOf]; omega
        · clear ho
          obtain rfl : j = 8 := by omega
          go_wp2
          go_round
          case rel => exact ⟨k + 1, by omega, by rw [HS.out, HU.out], by go_num⟩
          case measure => simp [intOf]; omega
    · have HS0 := Aside0.mk hs0'
      have HY := Aside0.mk hy
      clear hs0' hy
      go_wp2
      go_ret
      exact ⟨by unfold crcI; rw [HS0.out, ← HY.out, List.take_of_length_le (by omega)]; rfl, rfl⟩

set_option maxHeartbeats 1000000 in
set_option maxRecDepth 100000 in
theorem rfits_calls (A : Option Addr) (n c : Nat) (a k : Int) (w : World) (hn : n ≤ 9223372036854775807) (h0 : -9223372036854775808 ≤ a) (h1 : a ≤ 9223372036854775807) :
    Calls Try.prog 47 #[.slice A n c, .int .i64 a, .int .i64 k] w fun e w' => e = .returned (.bool (fitsB n a k)) ∧ w = w' := by
  obtain ⟨b, hb⟩ : ∃ b, fitsB n a k = b := ⟨_, rfl⟩
  rw [hb]
  by_cases g1 : 1 ≤ k
  · by_cases g8 : k ≤ 8
    · by_cases g0 : 0 ≤ a
      · by_cases gle : a ≤ n
        · by_cases gsub : k ≤ n - a
          · simp [fitsB, g1, g8, g0, gle, gsub] at hb
            subst hb
            go_enter Try.func47, Try.ntmps47
            go_wp2
            go_ret
            exact ⟨rfl, rfl⟩
          · simp [fitsB, g1, g8, g0, gle, gsub] at hb
            subst hb
            go_enter Try.func47, Try.ntmps47
            go_wp2
            go_ret
            exact ⟨rfl, rfl⟩
        · simp [fitsB, g1, g8, g0, gle] at hb
          subst hb
          go_enter Try.func47, Try.ntmps47
          go_wp2
          go_ret
          exact ⟨rfl, rfl⟩
      · simp [fitsB, g1, g8, g0] at hb
        subst hb
        go_enter Try.func47, Try.ntmps47
        go_wp2
        go_ret
        exact ⟨rfl, rfl⟩
    · simp [fitsB, g1, g8] at hb
      subst hb
      go_enter Try.func47, Try.ntmps47
      go_wp2
      go_ret
      exact ⟨rfl, rfl⟩
  · simp [fitsB, g1] at hb
    subst hb
    go_enter Try.func47, Try.ntmps47
    go_wp2
    go_ret
    exact ⟨rfl, rfl⟩

set_option maxHeartbeats 1000000 in
set_option maxRecDepth 100000 in
theorem small_calls (x : Int) (n : Nat) (w : World) (h0 : 0 ≤ x) (h1 : x < 256 ^ n) (h64 : x < 18446744073709551616) (h8 : n ≤ 8) :
    Calls Try.prog 48 #[.int .u64 x, .int .i64 n] w fun e w' => e = .returned (.bool true) ∧ w = w' := by
  have H1 := Aside0.mk h1
  clear h1
  go_enter Try.func48, Try.ntmps48
  go_wp2
  go_loop [0, 5] (fun y i => ∃ k : Nat, k ≤ n ∧ y = .int .u64 (x / 256 ^ k) ∧ i = .int .i64 k) (fun _ i => n - (intOf i).toNat)
  case atStart => exact ⟨0, by omega, by simp, rfl⟩
  case round =>
    obtain ⟨k, hk, rfl, rfl⟩ := hrel
    have hy0 : 0 ≤ x / 256 ^ k := Int.ediv_nonneg h0 (Int.pow_nonneg (by omega))
    have hy1 : x / 256 ^ k ≤ x := Int.ediv_le_self _ h0
    have hs : x / 256 ^ (k + 1) = x / 256 ^ k / 256 := by rw [Int.pow_succ, Int.ediv_ediv_of_nonneg (Int.pow_nonneg (by omega))]
    have hz : k = n → x / 256 ^ k = 0 := fun e => by rw [e]; exact Int.ediv_eq_zero_of_lt h0 H1.out
    obtain ⟨y, hy⟩ : ∃ y, x / 256 ^ k = y := ⟨_, rfl⟩
    rw [hy] at hs hy0 hy1 hz ⊢
    have HS := Aside0.mk hs
    clear hs hy
    by_cases hlt : k < n
    · clear hz
      go_wp2
      go_round
      case rel => exact ⟨k + 1, by omega, by rw [HS.out], by go_num⟩
      case measure => simp [intOf]; omega
    · obtain rfl : y = 0 := hz (by omega)
      clear hz
      go_wp2
      go_ret
      exact ⟨rfl, rfl⟩

theorem pow_le_u64 (n : Nat) (h8 : n ≤ 8) : (256 : Int) ^ n ≤ 18446744073709551616 := by
  have h : (256 : Nat) ^ n ≤ 256 ^ 8 := Nat.pow_le_pow_right (by omega) h8
  have e : ((256 ^ n : Nat) : Int) = (256 : Int) ^ n := by simp
  rw [← e]
  omega
theorem leB_div (x : Int) (k : Nat) : leB x k = x / 256 ^ k % 256 := by
  unfold leB
  rw [show (2 : Int) ^ (8 * k) = 256 ^ k by rw [Int.pow_mul]; rfl]

set_option maxHeartbeats 2000000 in
set_option maxRecDepth 100000 in
theorem rput_calls (b off n c : Nat) (x : Int) (w : World) (l : List Int) (hb : Row w .u8 b 5 l) (hm : l.length ≤ 9223372036854775807) (h1 : 1 ≤ n) (h8 : n ≤ 8) (hoff : off + n ≤ l.length) (h0 : 0 ≤ x) (hx : x < 256 ^ n) :
    Calls Try.prog 38 #[.slice (some ⟨b, 0, none⟩) l.length c, .int .i64 off, .int .i64 n, .int .u64 x] w fun e w' => e = .returned (.int .i64 0) ∧ Row w' .u8 b 5 (layL l off x n) ∧ Mod w w' (· = b) := by
  have HB := Aside0.mk hb
  have h64 : x < 18446744073709551616 := Int.lt_of_lt_of_le hx (pow_le_u64 n h8)
  have HF := Aside0.mk (rfits_calls (some ⟨b, 0, none⟩) l.length c off n w hm (by omega) (by omega))
  have hfit : fitsB l.length off n = true := by simp only [fitsB, Bool.and_eq_true, decide_eq_true_eq]; omega
  rw [hfit] at HF
  have HSM := Aside0.mk (small_calls x n w h0 hx h64 h8)
  clear hb hx hfit
  go_enter Try.func38, Try.ntmps38
  go_wp2_with fail
  refine HF.out.mono ?_
  rintro e w' ⟨rfl, rfl⟩
  go_wp2_with fail
  refine HSM.out.mono ?_
  rintro e w' ⟨rfl, rfl⟩
  go_wp2
  go_loopg [3, 9] n (fun g y i wr => ∃ k : Nat, k + g = n ∧ y = .int .u64 (x / 256 ^ k) ∧ i = .int .i64 k ∧ Aside0 (Row wr .u8 b 5 (layL l off x k)) ∧ Aside0 (Mod w wr (· = b)))
  case atStart => exact ⟨0, by omega, by simp, rfl, HB, ⟨Mod.refl _ _⟩⟩
  case round =>
    obtain ⟨k, hk, rfl, rfl, HW, HM⟩ := hrel
    have hy0 : 0 ≤ x / 256 ^ k := Int.ediv_nonneg h0 (Int.pow_nonneg (by omega))
    have hy1 : x / 256 ^ k ≤ x := Int.ediv_le_self _ h0
    have hs : x / 256 ^ (k + 1) = x / 256 ^ k / 256 := by rw [Int.pow_succ, Int.ediv_ediv_of_nonneg (Int.pow_nonneg (by omega))]
    have hle := leB_div x k
    obtain ⟨y, hy⟩ : ∃ y, x / 256 ^ k = y := ⟨_, rfl⟩
    rw [hy] at hs hy0 hy1 hle ⊢
    have HS := Aside0.mk hs
    have HLE := Aside0.mk hle
    clear hs hy hle
    cases gk with
    | zero =>
      obtain rfl : k = n := by omega
      go_wp2
      go_ret
      exact ⟨rfl, HW.out, HM.out⟩
    | succ g =>
      have hlen := layL_length l off x k
      have hc := HW.out.cell (off + k) (by omega)
      have hz := HW.out.free (off + k)
      have HL := Aside0.mk hlen
      clear hlen
      go_wp2
      go_roundg g
      case measure => omega
      case rel => exact ⟨k + 1, by omega, by rw [HS.out], by go_num, ⟨by have := HW.out.set (off + k) (leB x k); rw [HLE.out] at this; unfold layL; rw [HLE.out]; exact this⟩, ⟨HM.out.set_own _ _⟩⟩
end Go.Proofs.Ytjggkaieagbjmaa.Hand
