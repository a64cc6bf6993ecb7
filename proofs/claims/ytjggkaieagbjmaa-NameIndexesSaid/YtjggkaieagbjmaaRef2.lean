/- The document's seal and its number at a place, walked: as the plain functions of the program's own. -/
import Derived.Test.YtjggkaieagbjmaaRef1
namespace Go.Proofs.Ytjggkaieagbjmaa.Hand
set_option linter.unusedVariables false
set_option linter.unusedSimpArgs false
open Go.Shelf Go.RowKit Go.Proofs.YtjggkaieagbjmaaW.PrintWords Go.Proofs.YtjggkaieagbjmaaW.PrintLast Go.Proofs.YtjggkaieagbjmaaW.PrintMore

set_option maxHeartbeats 2000000 in
set_option maxRecDepth 100000 in
theorem rseal_calls (b n c : Nat) (s : Int) (w : World) (l : List Int) (hb : Row w .u8 b 5 l) (hl : l.length = n + 4) (hc : n + 4 ≤ c) (hm : n + 4 ≤ 9223372036854775807) (hs0 : 0 ≤ s) (hs1 : s < 4294967296) (hab : allB l) :
    Calls Try.prog 39 #[.slice (some ⟨b, 0, none⟩) (n + 4) c, .int .u32 s] w fun e w' => e = .returned (.int .i64 0) ∧ Row w' .u8 b 5 (sealL l s) ∧ Mod w w' (· = b) := by
  have HB := Aside0.mk hb
  have HR := Aside0.mk (C_int_pre (hb.reads (by omega)) n (by omega))
  have hlt : (l.take n).length = n := by simp; omega
  have hcr := rcrc_calls s (some ⟨b, 0, none⟩) c (l.take n) w (by rw [hlt]; exact HR.out) hs0 hs1 (allB_take hab n)
  rw [hlt] at hcr
  obtain ⟨hcb0, hcb1⟩ := crcI_range s (l.take n)
  have hsl : sealL l s = layL l n (crcI s (l.take n)) 4 := by unfold sealL; rw [hl]; rfl
  rw [hsl]
  obtain ⟨q, hq⟩ : ∃ q, crcI s (l.take n) = q := ⟨_, rfl⟩
  rw [hq] at hcb0 hcb1 hcr ⊢
  have HCR := Aside0.mk hcr
  have hpt := rput_calls b n 4 c q w l hb (by omega) (by omega) (by omega) (by omega) hcb0 (by omega)
  rw [hl] at hpt
  have HPT := Aside0.mk hpt
  have HL := Aside0.mk hl
  clear hb hl hab hlt hcr hq hsl hpt
  go_enter Try.func39, Try.ntmps39
  go_wp2_with fail
  refine HCR.out.mono ?_
  rintro e w' ⟨rfl, rfl⟩
  dsimp only
  go_wp2_with fail
  refine HPT.out.mono ?_
  rintro e w' ⟨rfl, hr, hmm⟩
  dsimp only
  go_wp2
  go_ret
  exact ⟨rfl, hr, hmm⟩

set_option maxHeartbeats 2000000 in
set_option maxRecDepth 100000 in
theorem rget_calls (A : Option Addr) (c a k : Nat) (w : World) (l : List Int) (hr : Kd.C (Kd.int .u8) w A l.length l) (h1 : 1 ≤ k) (h8 : k ≤ 8) (hsub : a + k ≤ l.length) (hab : allB l) :
    Calls Try.prog 41 #[.slice A l.length c, .int .i64 a, .int .i64 k] w fun e w' => e = .returned (.tuple #[.int .u64 (val ((l.drop a).take k)), .int .i64 0]) ∧ w = w' := by
  have HR := Aside0.mk hr
  have hm := (C_int_len hr).2
  have HF := Aside0.mk (rfits_calls A l.length c a k w hm (by omega) (by omega))
  have hfit : fitsB l.length a k = true := by simp only [fitsB, Bool.and_eq_true, decide_eq_true_eq]; omega
  rw [hfit] at HF
  have hsl : ((l.drop a).take k).length = k := by simp; omega
  have hsb : allB ((l.drop a).take k) := allB_take (allB_drop hab a) k
  have HAT := Aside0.mk (fun (j : Nat) (hj : j < k) => show ((l.drop a).take k).getD j 0 = l.getD (a + j) 0 by simp [List.getD_eq_getElem?_getD, List.getElem?_take, List.getElem?_drop, hj])
  obtain ⟨seg, hseg⟩ : ∃ seg, (l.drop a).take k = seg := ⟨_, rfl⟩
  rw [hseg] at hsl hsb HAT ⊢
  have HSL := Aside0.mk hsl
  have HSB := Aside0.mk hsb
  have HAB := Aside0.mk hab
  clear hr hfit hsl hsb hseg hab
  go_enter Try.func41, Try.ntmps41
  go_wp2_with fail
  refine HF.out.mono ?_
  rintro e w' ⟨rfl, rfl⟩
  go_wp2
  go_loopg [8, 9] k (fun g x i wr => g ≤ k ∧ x = .int .u64 (val (seg.drop g)) ∧ i = .int .i64 ((g : Int) - 1) ∧ w = wr)
  case atStart => exact ⟨by omega, by rw [List.drop_of_length_le (by rw [HSL.out]; omega)]; rfl, by go_num, rfl⟩
  case round =>
    obtain ⟨hg, rfl, rfl, rfl⟩ := hrel
    cases gk with
    | zero =>
      go_wp2
      go_ret2
      exact ⟨rfl, rfl⟩
    | succ g =>
      have hd := val_drop seg g (by rw [HSL.out]; omega)
      have hr1 := (val_range (allB_drop HSB.out (g + 1))).1
      have hr2 := val_range (allB_drop HSB.out g)
      have hr3 := pow_le_u64 (seg.drop g).length (by rw [List.length_drop, HSL.out]; omega)
      have hr4 := Int.lt_of_lt_of_le hr2.2 hr3
      rw [HAT.out g (by omega)] at hd
      obtain ⟨ad, rfl, hx⟩ := C_int_at HR.out (a + g) (by omega)
      have hx1 := allB_get HAB.out (a + g)
      rw [hd] at hr4
      generalize l.getD (a + g) 0 = x at hx hx1 hd hr4
      obtain ⟨y, hy⟩ : ∃ y, val (seg.drop (g + 1)) = y := ⟨_, rfl⟩
      rw [hy] at hd hr1 hr4 ⊢
      have HD := Aside0.mk hd
      clear hd hr2 hr3 hy
      have e1 : ((a : Int) + (((g + 1 : Nat) : Int) - 1)).toNat = a + g := by omega
      have e2 : ((g + 1 : Nat) : Int) - 1 = g := by omega
      rw [e2] at e1 ⊢
      go_wp2
      go_roundg g
      case measure => omega
      case rel => exact ⟨by omega, by rw [HD.out]; go_num, by go_num, rfl⟩
end Go.Proofs.Ytjggkaieagbjmaa.Hand
