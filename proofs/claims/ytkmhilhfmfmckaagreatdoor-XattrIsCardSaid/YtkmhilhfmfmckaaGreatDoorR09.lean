/- Own texts and printed words of the kit, put together and trimmed by a program of mine (merge.py). -/
import Derived.Test.YtkmhilhfmfmckaaGreatDoorR08
import Derived.Lib.BitFns
import Derived.Deep.DeepCutAuto
import Derived.Deep.CutBlock
import Derived.Deep.WholeRow
namespace Go.Proofs.YtkmhilhfmfmckaaGreatDoor.Hand
set_option linter.unusedSimpArgs false
set_option linter.unusedVariables false
open Go.Shelf Go.RowKit Go.Proofs.YtkmhilhfmfmckaaGreatDoorW.PrintWords Go.Proofs.YtkmhilhfmfmckaaGreatDoorW.PrintLast Go.Proofs.YtkmhilhfmfmckaaGreatDoorW.PrintMore
def downK : Nat → Nat → Nat → Nat
  | 0, _, _ => 0
  | k + 1, a, z => if z < a + 2 ^ (k + 1) then downK k a z else k + 1
def topK (a : Nat) : Nat := if 0 < a then min 10 (tzI a) else 10
def splitGo : Nat → List Int → Nat → Nat → List Int
  | 0, t, _, _ => t
  | g + 1, t, a, z => if a < z then splitGo g (putL t (a : Int) (downK (topK a) a z)) (a + 2 ^ downK (topK a) a z) z else t
theorem downK_spec : ∀ (k a z : Nat), a < z → downK k a z ≤ k ∧ a + 2 ^ downK k a z ≤ z
  | 0, a, z, h => by simp [downK]; omega
  | k + 1, a, z, h => by
    rw [downK]
    split
    · have := downK_spec k a z h; omega
    · omega
theorem topK_le (a : Nat) : topK a ≤ 10 := by unfold topK; split <;> omega
theorem splitGo_end {g : Nat} {t : List Int} {a z : Nat} (h : ¬ a < z) : splitGo g t a z = t := by
  cases g
  · rfl
  · rw [splitGo, if_neg h]
theorem pow_small (k : Nat) (h : k ≤ 10) : (1 : Int) ≤ 2 ^ k ∧ (2 : Int) ^ k ≤ 1024 ∧ (2 : Int) ^ k = ((2 ^ k : Nat) : Int) := by
  have : k = 0 ∨ k = 1 ∨ k = 2 ∨ k = 3 ∨ k = 4 ∨ k = 5 ∨ k = 6 ∨ k = 7 ∨ k = 8 ∨ k = 9 ∨ k = 10 := by omega
  rcases this with h | h | h | h | h | h | h | h | h | h | h <;> subst h <;> decide
set_option maxHeartbeats 2000000 in
set_option maxRecDepth 100000 in
theorem split_calls (tb : Nat) (t : List Int) (a0 z : Nat) (w : World) (h : Strc w tb 199 (nums .i64 t)) (hc : CB t a0) (hz : z ≤ 2016) (haz : a0 ≤ z) (hT : Tab w) (ht2 : tb ≠ 2) :
    Calls Tryz.prog 173 #[.pointer (some ⟨tb, 0, none⟩), .int .i64 a0, .int .i64 z] w fun e w' => e = .returned (.tuple #[]) ∧ Strc w' tb 199 (nums .i64 (splitGo (z - a0) t a0 z)) ∧ CB (splitGo (z - a0) t a0 z) z ∧ Mod w w' (fun g => g = tb) := by
  have HS := Aside0.mk h
  have HC := Aside0.mk hc
  have HT := Aside0.mk hT
  clear h hc hT
  go_enter Tryz.func173, Tryz.ntmps173
  go_wp2
  go_loopg [1] (z - a0) (fun g i wr => ∃ (a : Nat) (t' : List Int), i = .int .i64 (a : Int) ∧ a ≤ z ∧ z - a ≤ g ∧ Aside0 (CB t' a) ∧ Aside0 (splitGo (z - a0) t a0 z = splitGo g t' a z) ∧ Aside0 (Strc wr tb 199 (nums .i64 t')) ∧ Aside0 (Mod w wr (fun g => g = tb)))
  case atStart => exact ⟨a0, t, rfl, haz, Nat.le_refl _, HC, ⟨rfl⟩, HS, ⟨Mod.refl _ _⟩⟩
  case round =>
    obtain ⟨a, t', rfl, hle, hg, HC1, HE, HS1, HM⟩ := hrel
    by_cases hlt : a < z
    · obtain ⟨g, rfl⟩ : ∃ g, gk = g + 1 := ⟨gk - 1, by omega⟩
      have hdk := downK_spec (topK a) a z hlt
      have htk := topK_le a
      have hsg : splitGo (g + 1) t' a z = splitGo g (putL t' (a : Int) (downK (topK a) a z)) (a + 2 ^ downK (topK a) a z) z := by rw [splitGo, if_pos hlt]
      have HSG := Aside0.mk (HE.out.trans hsg)
      have htc : 0 < a → Calls Tryz.prog 188 #[.int .u64 a] wr fun e w' => e = .returned (.int .i64 (tzI a)) ∧ wr = w' := fun h0 => tz_calls a wr h0 (by omega) (HT.out.mod HM.out (fun e => ht2 e.symm))
      obtain ⟨k0, hk0⟩ : ∃ k, topK a = k := ⟨_, rfl⟩
      rw [hk0] at HSG hdk htk
      have HTC := Aside0.mk htc
      clear htc hsg
      by_cases ha0 : 0 < a
      · have hk1 : min 10 (tzI a) = k0 := by rw [← hk0]; unfold topK; rw [if_pos ha0]
        have HTC1 := Aside0.mk (HTC.out ha0)
        obtain ⟨tz, htz⟩ : ∃ tz, tzI a = tz := ⟨_, rfl⟩
        rw [htz] at HTC1 hk1
        have hmin : ∀ W : World, (Builtin.min_ #[3, 3] 3 #[.int .i64 10, .int .i64 (tz : Nat)]).run Tryz.prog W = .ok (.int .i64 (k0 : Nat)) W := fun W => by
          have e : (k0 : Int) = if (tz : Int) < 10 then (tz : Int) else 10 := by rw [← hk1]; split <;> omega
          rw [e]
          rfl
        clear htz hk0 HTC
        have ha1 : (0 : Int) < (a : Int) := by omega
        go_wp2_with fail
        refine HTC1.out.mono ?_
        rintro e w1 ⟨rfl, rfl⟩
        dsimp only
        go_wp2
        go_loopg [6] k0 (fun g i wx => i = .int .i64 (g : Nat) ∧ g ≤ 10 ∧ Aside0 (downK k0 a z = downK g a z) ∧ wx = wr)
        case atStart => exact ⟨rfl, htk, ⟨rfl⟩, rfl⟩
        case round =>
          obtain ⟨rfl, hg10, HD, rfl⟩ := hrel
          have hp := pow_small gk hg10
          by_cases hcz : z < a + 2 ^ gk
          · obtain ⟨k, rfl⟩ : ∃ k, gk = k + 1 := by
              cases gk with
              | zero => exact absurd hcz (by simp; omega)
              | succ k => exact ⟨k, rfl⟩
            have HD1 := Aside0.mk (HD.out.trans (by rw [downK, if_pos hcz] : downK (k + 1) a z = downK k a z))
            obtain ⟨hp0, hp1, hp2⟩ := hp
            have hci : (z : Int) < (a : Int) + 2 ^ (k + 1) := by rw [hp2]; exact_mod_cast hcz
            clear hcz hp2 hdk hk1
            go_wp2
            go_roundg k
            case measure => omega
            case rel => exact ⟨by go_num, by omega, HD1, rfl⟩
          · have hdg : downK gk a z = gk := by
              cases gk with
              | zero => rfl
              | succ k => rw [downK, if_neg hcz]
            have HDG := Aside0.mk (HD.out.trans hdg)
            rw [HDG.out] at HSG hdk
            have hput := put_calls tb t' a gk wr HS1.out HC1.out (by omega) hg10 (by omega)
            have HPUT := Aside0.mk hput
            have hcb := HC1.out.put (k := gk) (2 ^ gk) (Nat.one_le_two_pow)
            have HCB := Aside0.mk hcb
            obtain ⟨hp0, hp1, hp2⟩ := hp
            have hci : ¬ (z : Int) < (a : Int) + 2 ^ gk := by rw [hp2]; exact_mod_cast hcz
            have HP2 := Aside0.mk hp2
            have HDK := Aside0.mk hdk.2
            clear hcz hdg hp2 hdk hk1 hput hcb
            go_wp2_with fail
            refine HPUT.out.mono ?_
            rintro e w1 ⟨rfl, hs1, hm1⟩
            have HS2 := Aside0.mk hs1
            have HM2 := Aside0.mk (HM.out.trans hm1 (fun _ _ e => e))
            clear hs1 hm1
            dsimp only
            go_wp2
            have hdk := HDK.out
            have h1p := Nat.one_le_two_pow (n := gk)
            go_roundg g
            case measure => omega
            case rel =>
              refine ⟨a + 2 ^ gk, putL t' (a : Int) gk, ?_, by omega, by omega, HCB, HSG, HS2, HM2⟩
              rw [HP2.out]
              go_num
      · have hk1 : k0 = 10 := by rw [← hk0]; unfold topK; rw [if_neg ha0]
        have ha1 : ¬ (0 : Int) < (a : Int) := by omega
        clear hk0 HTC
        subst hk1
        go_wp2_with fail
        go_loopg [6] 10 (fun g i wx => i = .int .i64 (g : Nat) ∧ g ≤ 10 ∧ Aside0 (downK 10 a z = downK g a z) ∧ wx = wr)
        case atStart => exact ⟨by go_num, by omega, ⟨rfl⟩, rfl⟩
        case round =>
          obtain ⟨rfl, hg10, HD, rfl⟩ := hrel
          have hp := pow_small gk hg10
          by_cases hcz : z < a + 2 ^ gk
          · obtain ⟨k, rfl⟩ : ∃ k, gk = k + 1 := by
              cases gk with
              | zero => exact absurd hcz (by simp; omega)
              | succ k => exact ⟨k, rfl⟩
            have HD1 := Aside0.mk (HD.out.trans (by rw [downK, if_pos hcz] : downK (k + 1) a z = downK k a z))
            obtain ⟨hp0, hp1, hp2⟩ := hp
            have hci : (z : Int) < (a : Int) + 2 ^ (k + 1) := by rw [hp2]; exact_mod_cast hcz
            clear hcz hp2 hdk
            go_wp2
            go_roundg k
            case measure => omega
            case rel => exact ⟨by go_num, by omega, HD1, rfl⟩
          · have hdg : downK gk a z = gk := by
              cases gk with
              | zero => rfl
              | succ k => rw [downK, if_neg hcz]
            have HDG := Aside0.mk (HD.out.trans hdg)
            rw [HDG.out] at HSG hdk
            have hput := put_calls tb t' a gk wr HS1.out HC1.out (by omega) hg10 (by omega)
            have HPUT := Aside0.mk hput
            have hcb := HC1.out.put (k := gk) (2 ^ gk) (Nat.one_le_two_pow)
            have HCB := Aside0.mk hcb
            obtain ⟨hp0, hp1, hp2⟩ := hp
            have hci : ¬ (z : Int) < (a : Int) + 2 ^ gk := by rw [hp2]; exact_mod_cast hcz
            have HP2 := Aside0.mk hp2
            have HDK := Aside0.mk hdk.2
            clear hcz hdg hp2 hdk hput hcb
            go_wp2_with fail
            refine HPUT.out.mono ?_
            rintro e w1 ⟨rfl, hs1, hm1⟩
            have HS2 := Aside0.mk hs1
            have HM2 := Aside0.mk (HM.out.trans hm1 (fun _ _ e => e))
            clear hs1 hm1
            dsimp only
            go_wp2
            have hdk := HDK.out
            have h1p := Nat.one_le_two_pow (n := gk)
            go_roundg g
            case measure => omega
            case rel =>
              refine ⟨a + 2 ^ gk, putL t' (a : Int) gk, ?_, by omega, by omega, HCB, HSG, HS2, HM2⟩
              rw [HP2.out]
              go_num
    · have hend : splitGo gk t' a z = t' := splitGo_end hlt
      have HEN := Aside0.mk (HE.out.trans hend)
      have haz' : a = z := by omega
      subst haz'
      clear hend
      go_wp2
      go_end0
      rw [HEN.out]
      exact ⟨rfl, HS1.out, HC1.out, HM.out⟩
def budGo (b : List Int) : Nat → Nat → List Int → Int → List Int
  | 0, _, t, _ => t
  | g + 1, i, t, fr => if setI b (i : Int) = true then (if 0 ≤ fr then budGo b g (i + 1) (splitGo (i - fr.toNat) t fr.toNat i) (-1) else budGo b g (i + 1) t fr) else if fr < 0 then budGo b g (i + 1) t (i : Int) else budGo b g (i + 1) t fr
def budI (b : List Int) : List Int := budGo b 2017 0 (List.replicate 22 0) (-1)
theorem CB.mono {t : List Int} {m n : Nat} (h : CB t m) (hmn : m ≤ n) : CB t n := ⟨h.1, fun x hx => by have := h.2 x hx; omega⟩
theorem Tab.lt {w : World} (h : Tab w) : 2 < w.heap.size := World.block_lt_of_cell? w _ (h 0 (by omega))
theorem CB.zero : CB (List.replicate 22 0) 0 := ⟨by simp, fun x hx => by rw [List.eq_of_mem_replicate hx]; omega⟩
theorem setI_out (b : List Int) {i : Int} (h : 2016 ≤ i) : setI b i = true := by unfold setI; rw [if_pos (.inr (.inl h))]
set_option maxHeartbeats 4000000 in
set_option maxRecDepth 100000 in
theorem buds_calls (A : Option Addr) (c : Nat) (b : List Int) (w : World) (hb : Kd.C (Kd.int .u8) w A b.length b) (hab : allB b) (hT : Tab w) :
    Calls Tryz.prog 136 #[.slice A b.length c] w fun e w' => e = .returned (.agg (nums .i64 (budI b)).toArray) ∧ CB (budI b) 2017 ∧ Below w.heap.size w w' := by
  have HBC := Aside0.mk hb
  have HAB := Aside0.mk hab
  have HT := Aside0.mk hT
  obtain ⟨N, hN⟩ : ∃ N, b.length = N := ⟨_, rfl⟩
  rw [hN]
  have hlt2 := hT.lt
  obtain ⟨W1, hW1⟩ : ∃ W1, (w.alloc (.cells #[.int .i64 0, .int .i64 0, .int .i64 0, .int .i64 0, .int .i64 0, .int .i64 0, .int .i64 0, .int .i64 0, .int .i64 0, .int .i64 0, .int .i64 0, .int .i64 0, .int .i64 0, .int .i64 0, .int .i64 0, .int .i64 0, .int .i64 0, .int .i64 0, .int .i64 0, .int .i64 0, .int .i64 0, .int .i64 0] 199)).alloc (.cells #[.int .i64 0, .int .i64 0, .int .i64 0, .int .i64 0, .int .i64 0, .int .i64 0, .int .i64 0, .int .i64 0, .int .i64 0, .int .i64 0, .int .i64 0, .int .i64 0, .int .i64 0, .int .i64 0, .int .i64 0, .int .i64 0, .int .i64 0, .int .i64 0, .int .i64 0, .int .i64 0, .int .i64 0, .int .i64 0] 199) = W1 := ⟨_, rfl⟩
  have hb1 : Below w.heap.size w W1 := by rw [← hW1]; exact below_alloc (below_alloc (Below.refl _ _) _) _
  have hsz : W1.heap.size = w.heap.size + 2 := by rw [← hW1]; simp
  have hs1 : Strc W1 w.heap.size 199 (nums .i64 (List.replicate 22 0)) := by
    rw [← hW1]
    exact (Strc.below (w := w.alloc _) (alloc_last _ _) (below_alloc (Below.refl _ _) _))
  have hs2 : Strc W1 (w.heap.size + 1) 199 (nums .i64 (List.replicate 22 0)) := by
    rw [← hW1]
    have := alloc_last (w.alloc (.cells #[.int .i64 0, .int .i64 0, .int .i64 0, .int .i64 0, .int .i64 0, .int .i64 0, .int .i64 0, .int .i64 0, .int .i64 0, .int .i64 0, .int .i64 0, .int .i64 0, .int .i64 0, .int .i64 0, .int .i64 0, .int .i64 0, .int .i64 0, .int .i64 0, .int .i64 0, .int .i64 0, .int .i64 0, .int .i64 0] 199)) (.cells #[.int .i64 0, .int .i64 0, .int .i64 0, .int .i64 0, .int .i64 0, .int .i64 0, .int .i64 0, .int .i64 0, .int .i64 0, .int .i64 0, .int .i64 0, .int .i64 0, .int .i64 0, .int .i64 0, .int .i64 0, .int .i64 0, .int .i64 0, .int .i64 0, .int .i64 0, .int .i64 0, .int .i64 0, .int .i64 0] 199)
    rw [show ∀ o, (w.alloc o).heap.size = w.heap.size + 1 from fun o => by simp] at this
    exact this
  have HB1 := Aside0.mk hb1
  have HS1 := Aside0.mk hs1
  have HS2 := Aside0.mk hs2
  clear hb hab hT hb1 hs1 hs2
  go_enter Tryz.func136, Tryz.ntmps136
  go_wp2
  go_loopg [4, 7] 2017 (fun g x y wr => ∃ (i m : Nat) (t' : List Int) (fr : Int), x = .int .i64 fr ∧ y = .int .i64 (i : Nat) ∧ i + g = 2017 ∧ (fr = -1 ∨ (0 ≤ fr ∧ fr < i)) ∧ m ≤ i ∧ (0 ≤ fr → (m : Int) ≤ fr) ∧ Aside0 (CB t' m) ∧ Aside0 (budI b = budGo b g i t' fr) ∧ Aside0 (Strc wr (w.heap.size + 1) 199 (nums .i64 t')) ∧ Aside0 (Strc wr w.heap.size 199 (nums .i64 (List.replicate 22 0))) ∧ Aside0 (Below w.heap.size w wr))
  case atStart => exact ⟨0, 0, List.replicate 22 0, -1, rfl, rfl, rfl, .inl rfl, Nat.le_refl _, fun h => absurd h (by omega), ⟨CB.zero⟩, ⟨rfl⟩, HS2, HS1, HB1⟩
  case round =>
    obtain ⟨i, m, t', fr, rfl, rfl, hi, hfr, hmi, hmf, HC1, HE, HS3, HS4, HB2⟩ := hrel
    cases gk with
    | zero =>
      have i1 : i = 2017 := by omega
      subst i1
      have HEN := Aside0.mk (show budI b = t' from HE.out)
      have HCE := Aside0.mk (HC1.out.mono hmi)
      clear hmf hfr hmi hi
      have hcs : (nums .i64 t').toArray.size = 22 := by simp [nums, HC1.out.1]
      have hinf : (Tryz.prog.info? 199).map (·.size) = some (nums .i64 t').toArray.size := by rw [hcs]; kernel_rfl
      have hone : (nums .i64 t').toArray.all (·.oneCell') = true := by simp [nums, Value.oneCell']
      go_upto_region 13 with fail
      refine wp_region_lit ?_
      refine wpList_load_row rfl 199 _ rfl (w.heap.size + 1) rfl 199 (nums .i64 t').toArray (0, 0) _ HS3.out Tryz.underlying199 rfl hinf ?_
      refine wpList_store_row rfl 199 _ _ rfl w.heap.size (nums .i64 t').toArray rfl rfl 199 _ HS4.out hinf (by rw [hcs]; simp [nums]) hone ?_
      refine wpList_nil ?_
      go_wp2
      have hres := setRow_heap wr w.heap.size _ (nums .i64 t').toArray 199 (0, 0) HS4.out
      refine bodyPost_ret (results_cell_row rfl _ _ w.heap.size 199 (nums .i64 t').toArray (0, 0) _ rfl hres Tryz.underlying199 rfl hinf) rfl ?_
      rw [HEN.out]
      exact ⟨rfl, HCE.out, below_setRow HB2.out (Nat.le_refl _) _⟩
    | succ g =>
      have HST := Aside0.mk (set_calls A c b (i : Int) wr (Kd.C_below HBC.out HB2.out) HAB.out (by omega) (by omega))
      rw [hN] at HST
      have hi1 : i ≤ 2016 := by omega
      have hi2 : i < 2017 := by omega
      have hi3 : (i : Int) < 2017 := by omega
      have hbg : budGo b (g + 1) i t' fr = if setI b (i : Int) = true then (if 0 ≤ fr then budGo b g (i + 1) (splitGo (i - fr.toNat) t' fr.toNat i) (-1) else budGo b g (i + 1) t' fr) else if fr < 0 then budGo b g (i + 1) t' (i : Int) else budGo b g (i + 1) t' fr := rfl
      have he1 := HE.out.trans hbg
      obtain ⟨s, hs⟩ : ∃ s, setI b (i : Int) = s := ⟨_, rfl⟩
      rw [hs] at HST he1
      clear hbg HE hs
      cases s with
      | true =>
        rw [if_pos rfl] at he1
        by_cases hf0 : 0 ≤ fr
        · rw [if_pos hf0] at he1
          obtain ⟨f, rfl⟩ : ∃ f : Nat, fr = f := ⟨fr.toNat, by omega⟩
          rw [Int.toNat_natCast] at he1
          have HE1 := Aside0.mk he1
          have hsp := split_calls (w.heap.size + 1) t' f i wr HS3.out (HC1.out.mono (by omega)) hi1 (by omega) (HT.out.below HB2.out) (by omega)
          have HSP := Aside0.mk hsp
          clear he1 hsp hmf hmi hfr
          go_wp2_with fail
          refine HST.out.mono ?_
          rintro e w1 ⟨rfl, rfl⟩
          dsimp only
          go_wp2_with fail
          refine HSP.out.mono ?_
          rintro e w1 ⟨rfl, hs5, hc5, hm5⟩
          have HS5 := Aside0.mk hs5
          have HS6 := Aside0.mk (HS4.out.mod hm5 (by omega))
          have HB5 := Aside0.mk (below_mod HB2.out hm5 (by omega))
          have HC5 := Aside0.mk hc5
          clear hs5 hm5 hc5
          dsimp only
          go_wp2
          go_roundg g
          case measure => omega
          case rel => exact ⟨i + 1, i, _, -1, rfl, by go_num, by omega, .inl rfl, by omega, fun h => absurd h (by omega), HC5, HE1, HS5, HS6, HB5⟩
        · rw [if_neg hf0] at he1
          have HE1 := Aside0.mk he1
          have hf1 : fr = -1 := by omega
          subst hf1
          clear he1 hf0 hfr hmf
          go_wp2_with fail
          refine HST.out.mono ?_
          rintro e w1 ⟨rfl, rfl⟩
          dsimp only
          go_wp2
          go_roundg g
          case measure => omega
          case rel => exact ⟨i + 1, m, t', -1, rfl, by go_num, by omega, .inl rfl, by omega, fun h => absurd h (by omega), HC1, HE1, HS3, HS4, HB2⟩
      | false =>
        rw [if_neg (by simp)] at he1
        by_cases hf0 : 0 ≤ fr
        · have hf1 : ¬ fr < 0 := by omega
          rw [if_neg hf1] at he1
          have HE1 := Aside0.mk he1
          have hf2 : fr < (i : Int) := by omega
          clear he1 hfr
          go_wp2_with fail
          refine HST.out.mono ?_
          rintro e w1 ⟨rfl, rfl⟩
          dsimp only
          go_wp2
          go_roundg g
          case measure => omega
          case rel => exact ⟨i + 1, m, t', fr, rfl, by go_num, by omega, .inr ⟨hf0, by omega⟩, by omega, hmf, HC1, HE1, HS3, HS4, HB2⟩
        · have hf1 : fr = -1 := by omega
          subst hf1
          rw [if_pos (by omega)] at he1
          have HE1 := Aside0.mk he1
          clear he1 hfr hmf hf0
          go_wp2_with fail
          refine HST.out.mono ?_
          rintro e w1 ⟨rfl, rfl⟩
          dsimp only
          go_wp2
          go_roundg g
          case measure => omega
          case rel => exact ⟨i + 1, m, t', (i : Int), rfl, by go_num, by omega, .inr ⟨by omega, by omega⟩, by omega, fun _ => by omega, HC1, HE1, HS3, HS4, HB2⟩
set_option maxHeartbeats 1000000 in
set_option maxRecDepth 100000 in
theorem len64_calls (x : Nat) (w : World) (h1 : x < 65536) : Calls Tryz.prog 175 #[.int .u64 x] w fun e w' => e = .returned (.int .i64 (Go.Lib.bitLen x)) ∧ w = w' := by
  have i1 : ¬ (x : Int) ≥ 4294967296 := by omega
  have i2 : ¬ (x : Int) ≥ 65536 := by omega
  by_cases h2 : x < 256
  · have i3 : ¬ (x : Int) ≥ 256 := by omega
    have i0 : (x : Int) ≤ 255 := by omega
    have hz := Go.Lib.len8_of (x : Int) (by omega) i0
    rw [Int.toNat_natCast] at hz
    have hb : Go.Lib.bitLen x ≤ 8 := Go.Lib.bitLen_le x 8 (by omega) h2
    have hz0 : 0 ≤ Go.Lib.len8 (x : Int) ∧ Go.Lib.len8 (x : Int) ≤ 8 := by omega
    have HZ := Aside0.mk hz
    clear hz hb
    go_enter Tryz.func175, Tryz.ntmps175
    go_wp2
    go_ret
    exact ⟨by rw [HZ.out]; rfl, rfl⟩
  · obtain ⟨y, hy⟩ : ∃ y, x / 256 = y := ⟨_, rfl⟩
    have i3 : (x : Int) ≥ 256 := by omega
    have i4 : (y : Int) ≤ 255 := by omega
    have hz := Go.Lib.len8_of (y : Int) (by omega) i4
    rw [Int.toNat_natCast] at hz
    have hs := Go.Lib.bitLen_shift8 x (by omega) (by omega)
    rw [hy] at hs
    have hb : Go.Lib.bitLen y ≤ 8 := Go.Lib.bitLen_le y 8 (by omega) (by omega)
    have hz0 : 0 ≤ Go.Lib.len8 (y : Int) ∧ Go.Lib.len8 (y : Int) ≤ 8 := by omega
    have HZ := Aside0.mk (show ((Go.Lib.bitLen x : Nat) : Int) = 8 + Go.Lib.len8 (y : Int) by omega)
    have hq : (x : Int) / 256 = (y : Int) := by omega
    clear hz hb hs hy
    go_enter Tryz.func175, Tryz.ntmps175
    go_wp2
    go_ret
    exact ⟨by rw [HZ.out]; rfl, rfl⟩
theorem len_calls (x : Nat) (w : World) (h1 : x < 65536) : Calls Tryz.prog 137 #[.int .u64 x] w fun e w' => e = .returned (.int .i64 (Go.Lib.bitLen x)) ∧ w = w' := by
  have HL := Aside0.mk (len64_calls x w h1)
  go_enter Tryz.func137, Tryz.ntmps137
  go_wp2_with fail
  refine HL.out.mono ?_
  rintro e w' ⟨rfl, rfl⟩
  dsimp only
  go_wp2
  go_ret
  exact ⟨rfl, rfl⟩
def runGo (b : List Int) (goal want : Int) : Nat → Nat → Nat
  | 0, n => n
  | g + 1, n => if (n : Int) < want ∧ 0 ≤ goal ∧ setI b (goal + n) = false then runGo b goal want g (n + 1) else n
def upGo (t : List Int) : Nat → Nat → Option Nat
  | 0, _ => none
  | g + 1, k => if 0 < t.getD (11 + k) 0 then some k else upGo t g (k + 1)
def dnGo (t : List Int) : Nat → Option Nat
  | 0 => none
  | k + 1 => if 0 < t.getD (11 + k) 0 then some k else dnGo t k
def pickI (t : List Int) (want : Nat) : Int × Int × Bool :=
  match upGo t (11 - Go.Lib.bitLen (want - 1)) (Go.Lib.bitLen (want - 1)) with
  | some k => (t.getD k 0, (want : Int), true)
  | none =>
    match dnGo t (Go.Lib.bitLen (want - 1)) with
    | some k => (t.getD k 0, ((2 ^ k : Nat) : Int), true)
    | none => (0, 0, false)
def findI (b : List Int) (goal want : Int) : Int × Int × Bool :=
  if want < 1 then (0, 0, false) else
  if 0 < runGo b goal want 2017 0 then (goal, (runGo b goal want 2017 0 : Nat), true) else
  pickI (budI b) (min want 1024).toNat
def FindPost (r : Int × Int × Bool) (w : World) (e : Ending) (w' : World) : Prop := e = .returned (.tuple #[.int .i64 r.1, .int .i64 r.2.1, .bool r.2.2]) ∧ Below w.heap.size w w'
theorem setI_lt {b : List Int} {i : Int} (h : setI b i = false) : i < 2016 := by
  by_cases h1 : i < 2016
  · exact h1
  · rw [setI_out b (by omega)] at h; cases h
set_option maxHeartbeats 4000000 in
set_option maxRecDepth 100000 in
theorem find_calls (A : Option Addr) (c : Nat) (b : List Int) (goal want : Int) (w : World) (hb : Kd.C (Kd.int .u8) w A b.length b) (hab : allB b) (hT : Tab w)
    (hg0 : -9223372036854775808 ≤ goal) (hg1 : goal < 9223372036854775808) (hw0 : -9223372036854775808 ≤ want) (hw1 : want < 9223372036854775808) :
    Calls Tryz.prog 71 #[.slice A b.length c, .int .i64 goal, .int .i64 want] w (FindPost (findI b goal want) w) := by
  have HBC := Aside0.mk hb
  have HAB := Aside0.mk hab
  have HT := Aside0.mk hT
  have hl2 := hT.lt
  obtain ⟨N, hN⟩ : ∃ N, b.length = N := ⟨_, rfl⟩
  rw [hN]
  have HLN := Aside0.mk hN
  clear hb hab hT hN
  by_cases hwt : want < 1
  · have hf : findI b goal want = (0, 0, false) := by unfold findI; rw [if_pos hwt]
    rw [hf]
    clear hf
    go_enter Tryz.func71, Tryz.ntmps71
    go_wp2
    refine bodyPost_ret (results_tmp3 rfl _ _ _) rfl ?_
    exact ⟨rfl, Below.refl _ _⟩
  · obtain ⟨wn, rfl⟩ : ∃ wn : Nat, want = wn := ⟨want.toNat, by omega⟩
    have hf : findI b goal wn = if 0 < runGo b goal wn 2017 0 then (goal, ((runGo b goal wn 2017 0 : Nat) : Int), true) else pickI (budI b) (min (wn : Int) 1024).toNat := by unfold findI; rw [if_neg hwt]
    rw [hf]
    obtain ⟨n0, hn0⟩ : ∃ n0, runGo b goal wn 2017 0 = n0 := ⟨_, rfl⟩
    rw [hn0]
    obtain ⟨F, hF⟩ : ∃ F, F = 2017 := ⟨_, rfl⟩
    rw [← hF] at hn0
    have HN0 := Aside0.mk hn0
    obtain ⟨r, hr⟩ : ∃ r, (if 0 < n0 then (goal, ((n0 : Nat) : Int), true) else pickI (budI b) (min (wn : Int) 1024).toNat) = r := ⟨_, rfl⟩
    rw [hr]
    have HRR := Aside0.mk hr
    clear hf hn0 hr
    go_enter Tryz.func71, Tryz.ntmps71
    go_upto_block 0 with fail
    go_cut [9] (fun v wx => v = .int .i64 (n0 : Nat) ∧ wx = w)
    case first =>
      go_wp2_with fail
      go_loopg [9] F (fun g v wr => ∃ n : Nat, v = .int .i64 (n : Nat) ∧ n + g = F ∧ (n = 0 ∨ (0 ≤ goal ∧ goal + n ≤ 2016)) ∧ Aside0 (runGo b goal wn g n = n0) ∧ wr = w)
      case atStart => exact ⟨0, rfl, by omega, .inl rfl, HN0, rfl⟩
      case round =>
        obtain ⟨n, rfl, hng, hnb, HR, rfl⟩ := hrel
        obtain ⟨g, rfl⟩ : ∃ g, gk = g + 1 := ⟨gk - 1, by omega⟩
        have hru : runGo b goal wn (g + 1) n = if (n : Int) < (wn : Int) ∧ 0 ≤ goal ∧ setI b (goal + n) = false then runGo b goal wn g (n + 1) else n := rfl
        have hr1 := hru.symm.trans HR.out
        clear hru HR
        by_cases c1 : (n : Int) < (wn : Int)
        · have c1' : n < wn := by omega
          by_cases c2 : 0 ≤ goal
          · have hst := set_calls A c b (goal + n) wr HBC.out HAB.out (by omega) (by omega)
            rw [HLN.out] at hst
            have hbd : goal + n < 9223372036854775808 := by omega
            have hlt := setI_lt (b := b) (i := goal + n)
            obtain ⟨s, hs⟩ : ∃ s, setI b (goal + n) = s := ⟨_, rfl⟩
            rw [hs] at hst hr1 hlt
            have HST := Aside0.mk hst
            clear hst hs hnb
            cases s with
            | true =>
              rw [if_neg (by simp)] at hr1
              subst hr1
              clear hlt
              go_wp2_with fail
              refine HST.out.mono ?_
              rintro e w1 ⟨rfl, rfl⟩
              dsimp only
              go_wp2
              go_meet
              exact ⟨rfl, rfl⟩
            | false =>
              have hlt2 := hlt rfl
              rw [if_pos ⟨c1, c2, rfl⟩] at hr1
              have HR1 := Aside0.mk hr1
              clear hr1 hlt
              go_wp2_with fail
              refine HST.out.mono ?_
              rintro e w1 ⟨rfl, rfl⟩
              dsimp only
              go_wp2
              go_roundg g
              case measure => omega
              case rel => exact ⟨n + 1, by go_num, by omega, .inr ⟨c2, by omega⟩, HR1, rfl⟩
          · rw [if_neg (fun h => c2 h.2.1)] at hr1
            subst hr1
            go_wp2
            go_meet
            exact ⟨rfl, rfl⟩
        · rw [if_neg (fun h => c1 h.1)] at hr1
          subst hr1
          have c1' : ¬ n < wn := by omega
          go_wp2
          go_meet
          exact ⟨rfl, rfl⟩
    case rest =>
      obtain ⟨rfl, rfl⟩ := hcut
      clear hw0 hg0 hg1 HN0 hF
      by_cases hn0 : 0 < n0
      · have hr := HRR.out
        rw [if_pos hn0] at hr
        have hni : (0 : Int) < (n0 : Int) := by omega
        subst hr
        clear HRR
        go_wp2
        go_ret3
        exact ⟨rfl, Below.refl _ _⟩
      · have hr := HRR.out
        rw [if_neg hn0] at hr
        have hz : n0 = 0 := by omega
        subst hz
        clear HRR hn0
        have hbu := buds_calls A c b wc HBC.out HAB.out HT.out
        rw [HLN.out] at hbu
        obtain ⟨t, ht⟩ : ∃ t, budI b = t := ⟨_, rfl⟩
        rw [ht] at hbu hr
        have HBU := Aside0.mk hbu
        have HR := Aside0.mk hr
        clear hbu hr ht
        go_wp2_with fail
        refine HBU.out.mono ?_
        rintro e w1 ⟨rfl, hc1, hb1⟩
        have HC1 := Aside0.mk hc1
        have HB1 := Aside0.mk hb1
        clear hb1
        have hl22 : (nums .i64 t).length = 22 := by simp [nums, hc1.1]
        have hsto : (storeCells ⟨w1.heap.size, 0, none⟩ (nums .i64 t) 0).run Tryz.prog (w1.alloc (.cells #[.int .i64 0, .int .i64 0, .int .i64 0, .int .i64 0, .int .i64 0, .int .i64 0, .int .i64 0, .int .i64 0, .int .i64 0, .int .i64 0, .int .i64 0, .int .i64 0, .int .i64 0, .int .i64 0, .int .i64 0, .int .i64 0, .int .i64 0, .int .i64 0, .int .i64 0, .int .i64 0, .int .i64 0, .int .i64 0] 199)) = .ok () (w1.alloc (.cells (nums .i64 t).toArray 199)) := by
          have := run_storeCells_new (P := Tryz.prog) w1 199 #[.int .i64 0, .int .i64 0, .int .i64 0, .int .i64 0, .int .i64 0, .int .i64 0, .int .i64 0, .int .i64 0, .int .i64 0, .int .i64 0, .int .i64 0, .int .i64 0, .int .i64 0, .int .i64 0, .int .i64 0, .int .i64 0, .int .i64 0, .int .i64 0, .int .i64 0, .int .i64 0, .int .i64 0, .int .i64 0] (nums .i64 t).toArray (by rw [List.size_toArray, hl22]; kernel_rfl) (by rw [List.size_toArray, List.size_toArray, hl22]; rfl) (by simp [nums, Value.oneCell'])
          simpa using this
        obtain ⟨W2, hW2⟩ : ∃ W2, w1.alloc (.cells (nums .i64 t).toArray 199) = W2 := ⟨_, rfl⟩
        have hst2 : Strc W2 w1.heap.size 199 (nums .i64 t) := by rw [← hW2]; exact alloc_last _ _
        have HB2 := Aside0.mk (show Below wc.heap.size wc W2 by rw [← hW2]; exact HB1.out.alloc HB1.out.size _)
        rw [hW2] at hsto
        have HS2 := Aside0.mk hst2
        obtain ⟨wp, hwp, hwp1, hwp2⟩ : ∃ wp : Nat, (min (wn : Int) 1024).toNat = wp + 1 ∧ wp < 1024 ∧ (((wp + 1 : Nat) : Int) = if (1024 : Int) < (wn : Int) then 1024 else (wn : Int)) := ⟨(min (wn : Int) 1024).toNat - 1, by omega, by omega, by split <;> omega⟩
        have hmin : ∀ W : World, (Builtin.min_ #[3, 3] 3 #[.int .i64 wn, .int .i64 1024]).run Tryz.prog W = .ok (.int .i64 ((wp + 1 : Nat) : Int)) W := fun W => by
          rw [hwp2]
          rfl
        have HLN2 := Aside0.mk (len_calls wp W2 (by omega))
        have hls := Go.Lib.bitLen_le wp 10 (by omega) (by omega)
        have hpk : pickI t (wp + 1) = match upGo t (11 - Go.Lib.bitLen wp) (Go.Lib.bitLen wp) with
          | some k => (t.getD k 0, ((wp + 1 : Nat) : Int), true)
          | none => match dnGo t (Go.Lib.bitLen wp) with
            | some k => (t.getD k 0, ((2 ^ k : Nat) : Int), true)
            | none => (0, 0, false) := rfl
        have hr2 := HR.out
        rw [hwp] at hr2
        have hr3 := hpk.symm.trans hr2
        obtain ⟨ls, hls0⟩ : ∃ ls, Go.Lib.bitLen wp = ls := ⟨_, rfl⟩
        rw [hls0] at HLN2 hls hr3
        have HR3 := Aside0.mk hr3
        have HL22 := Aside0.mk hc1.1
        clear hst2 hc1 hwp hwp2 hpk hr2 hr3 hls0 HR HB1 HBU hW2
        dsimp only
        go_wp2_with fail
        refine HLN2.out.mono ?_
        rintro e w3 ⟨rfl, rfl⟩
        dsimp only
        clear hmin hsto
        go_wp2
        go_loopg [12] (11 - ls) (fun g v wx => ∃ k : Nat, v = .int .i64 (k : Nat) ∧ k + g = 11 ∧ Aside0 (upGo t (11 - ls) ls = upGo t g k) ∧ wx = W2)
        case atStart => exact ⟨ls, rfl, by omega, ⟨rfl⟩, rfl⟩
        case round =>
          obtain ⟨k, rfl, hkg, HU, rfl⟩ := hrel
          cases gk with
          | zero =>
            have hk : k = 11 := by omega
            subst hk
            have hun : upGo t (11 - ls) ls = none := HU.out
            have hr4 := HR3.out
            rw [hun] at hr4
            have HR4 := Aside0.mk hr4
            clear hun hr4 HR3
            go_wp2
            go_loopg [13] ls (fun g v wy => ∃ x : Int, v = .int .i64 x ∧ x = (g : Int) - 1 ∧ g ≤ 10 ∧ Aside0 (dnGo t ls = dnGo t g) ∧ wy = wr)
            case atStart => exact ⟨_, rfl, rfl, hls, ⟨rfl⟩, rfl⟩
            case round =>
              obtain ⟨x, rfl, hx, hg10, HD, rfl⟩ := hrel
              cases gk with
              | zero =>
                have hx1 : x = -1 := by omega
                subst hx1
                have hdn : dnGo t ls = none := HD.out
                have hr5 := HR4.out
                rw [hdn] at hr5
                have HR5 := Aside0.mk (show (0, 0, false) = r from hr5)
                clear hdn hr5 HR4 hx
                go_wp2
                go_ret3
                rw [← HR5.out]
                exact ⟨rfl, HB2.out⟩
              | succ k =>
                have hx1 : x = (k : Int) := by omega
                subst hx1
                have hud : dnGo t (k + 1) = if 0 < t.getD (11 + k) 0 then some k else dnGo t k := rfl
                have hu1 := HD.out.trans hud
                have c1 := HS2.out.cell (11 + k) _ (nums_at _ _ _ (by rw [HL22.out]; omega))
                have c2 := HS2.out.cell k _ (nums_at _ _ _ (by rw [HL22.out]; omega))
                have i1 : k < 11 := by omega
                have i2 : (k : Int) < 11 := by omega
                have i5 : (0 : Int) ≤ (k : Int) := by omega
                obtain ⟨y, hy⟩ : ∃ y, t.getD (11 + k) 0 = y := ⟨_, rfl⟩
                obtain ⟨z, hz⟩ : ∃ z, t.getD k 0 = z := ⟨_, rfl⟩
                rw [hy] at c1 hu1
                rw [hz] at c2
                have HZ := Aside0.mk hz
                obtain ⟨hp0, hp1, hp2⟩ := pow_small k (by omega)
                have HP2 := Aside0.mk hp2
                have HWP := Aside0.mk (show wrap64 ((2 : Int) ^ k) = 2 ^ k by unfold wrap64; omega)
                clear hud HD hy hz hx hp2
                by_cases hy0 : 0 < y
                · rw [if_pos hy0] at hu1
                  have hr5 := HR4.out
                  rw [hu1] at hr5
                  have HR5 := Aside0.mk (show (t.getD k 0, ((2 ^ k : Nat) : Int), true) = r from hr5)
                  clear hu1 hr5 HR4
                  go_upto_region 20 with fail
                  refine wp_region_in [0, 0, 0, 1, 0, 0, 0, 0, 0] [] (fun w' => w'.cell? ⟨w1.heap.size, k, none⟩ = some (.int .i64 z)) (by kernel_rfl) rfl (by kernel_rfl) (fun _ _ _ _ h => h) c2 ?_
                  iterate 9 (first
                    | (refine in_off0 (by rfl) ?_; simp only [Act.put, stA, stZ, stS, i64_w, i32_w])
                    | (refine in_off1 (by rfl) ?_; simp only [Act.put, stA, stZ, stS, i64_w, i32_w])
                    | (refine in_0 (v := ?_) (by rfl) rfl ?_ (a' := ?_) ?_ ?_; rotate_left; (intro w'; go_simp; with_reducible rfl); rotate_left; (simp only [Act.put, stA, stZ, stS, i64_w, i32_w]; rfl))
                    | (refine in_1 (v := ?_) (by rfl) rfl ?_ (a' := ?_) ?_ ?_; rotate_left; (rintro w' hs; go_split_ands; go_simp; with_reducible rfl); rotate_left; (simp only [Act.put, stA, stZ, stS, i64_w, i32_w]; rfl)))
                  refine in_nil ?_
                  go_wp2
                  go_ret3
                  rw [← HR5.out, HZ.out, ← HP2.out, HWP.out]
                  exact ⟨rfl, HB2.out.drew⟩
                · rw [if_neg hy0] at hu1
                  have HU1 := Aside0.mk hu1
                  clear hu1
                  go_wp2
                  go_roundg k
                  case measure => omega
                  case rel => exact ⟨_, rfl, by omega, by omega, HU1, rfl⟩
          | succ g =>
            have hud : upGo t (g + 1) k = if 0 < t.getD (11 + k) 0 then some k else upGo t g (k + 1) := rfl
            have hu1 := HU.out.trans hud
            have c1 := HS2.out.cell (11 + k) _ (nums_at _ _ _ (by rw [HL22.out]; omega))
            have c2 := HS2.out.cell k _ (nums_at _ _ _ (by rw [HL22.out]; omega))
            have i1 : k < 11 := by omega
            have i2 : (k : Int) < 11 := by omega
            have i3 : k ≤ 10 := by omega
            have i4 : (k : Int) ≤ 10 := by omega
            obtain ⟨y, hy⟩ : ∃ y, t.getD (11 + k) 0 = y := ⟨_, rfl⟩
            obtain ⟨z, hz⟩ : ∃ z, t.getD k 0 = z := ⟨_, rfl⟩
            rw [hy] at c1 hu1
            rw [hz] at c2
            have HZ := Aside0.mk hz
            clear hud HU hy hz
            by_cases hy0 : 0 < y
            · rw [if_pos hy0] at hu1
              have hr5 := HR3.out
              rw [hu1] at hr5
              have HR5 := Aside0.mk (show (t.getD k 0, ((wp + 1 : Nat) : Int), true) = r from hr5)
              clear hu1 hr5 HR3
              go_wp2
              go_ret3
              rw [← HR5.out, HZ.out]
              exact ⟨rfl, HB2.out⟩
            · rw [if_neg hy0] at hu1
              have HU1 := Aside0.mk hu1
              clear hu1
              go_wp2
              go_roundg g
              case measure => omega
              case rel => exact ⟨k + 1, by go_num, by omega, HU1, rfl⟩
def grpB (b : List Int) (i : Nat) : Grp := ⟨numAt b (12 * i) 4, numAt b (12 * i + 4) 4, numAt b (12 * i + 8) 4⟩
def grpsB (b : List Int) : Nat → List Grp
  | 0 => []
  | k + 1 => grpsB b k ++ [grpB b k]
theorem grpsB_len (b : List Int) (k : Nat) : (grpsB b k).length = k := by
  induction k with
  | zero => rfl
  | succ k ih => simp [grpsB, ih]
def ungroupsI (b : List Int) (n : Int) : List Grp × Int :=
  if inI n 1 14 = false then ([], 22) else if (pgroupsI (grpsB b n.toNat)).2 = 0 ∧ (pgroupsI (grpsB b n.toNat)).1 = b then (grpsB b n.toNat, 0) else ([], 117)
theorem groupW_take (n k : Nat) (h : k ≤ 3 * n) : sumI ((groupW n).take k) = 4 * k := by
  unfold groupW
  rw [List.take_replicate, Nat.min_eq_left h]
  induction k with
  | zero => rfl
  | succ k ih =>
    rw [List.replicate_succ']
    unfold sumI at ih ⊢
    rw [List.foldl_append, ih (by omega)]
    simp
    omega
theorem rec_grp (b : List Int) (n k j : Nat) (hk : k < n) (hj : j < 3) : (recI b (groupW n) (3 * n)).getD (3 * k + j) 0 = numAt b (12 * k + 4 * j) 4 := by
  rw [recI_get _ _ _ _ (by omega), groupW_take n _ (by omega), groupW_get n _ (by omega)]
  unfold numAt
  rw [show (4 : Int) * ((3 * k + j : Nat) : Int) = 12 * k + 4 * j by omega]
theorem rec_grp0 (b : List Int) (n k : Nat) (hk : k < n) : (recI b (groupW n) (3 * n)).getD (3 * k) 0 = (grpB b k).fb := by
  have := rec_grp b n k 0 hk (by omega)
  simpa [grpB] using this
theorem rec_grp1 (b : List Int) (n k : Nat) (hk : k < n) : (recI b (groupW n) (3 * n)).getD (3 * k + 1) 0 = (grpB b k).fi := by
  have := rec_grp b n k 1 hk (by omega)
  simpa [grpB] using this
theorem rec_grp2 (b : List Int) (n k : Nat) (hk : k < n) : (recI b (groupW n) (3 * n)).getD (3 * k + 2) 0 = (grpB b k).dirs := by
  have := rec_grp b n k 2 hk (by omega)
  simpa [grpB] using this
def UngPost (r : List Grp × Int) (w : World) (e : Ending) (w' : World) : Prop := ∃ v, e = .returned (.tuple #[v, .int .i64 r.2]) ∧ OwnG w' w.heap.size v r.1 ∧ Below w.heap.size w w'
theorem ungPost_bad {r : List Grp × Int} {w w' : World} {e : Ending} {c : Int} (hr : r = ([], c)) (he : e = .returned (.tuple #[.slice none 0 0, .int .i64 c])) (hb : Below w.heap.size w w') : UngPost r w e w' := by
  subst hr
  exact ⟨_, he, own_nil _ _ _ _, hb⟩
set_option maxHeartbeats 4000000 in
set_option maxRecDepth 100000 in
theorem ungroups_calls (A : Option Addr) (c : Nat) (b : List Int) (n : Int) (w : World) (hb : Kd.C (Kd.int .u8) w A b.length b) (hbc : b.length ≤ c) (hba : allB b) :
    Calls Tryz.prog 131 #[.slice A b.length c, .int .i64 n] w (UngPost (ungroupsI b n) w) := by
  have hbad0 : inI n 1 14 = false → ungroupsI b n = ([], 22) := fun h => by unfold ungroupsI; rw [if_pos h]
  have hin : inI n 1 14 = true → ungroupsI b n = if (pgroupsI (grpsB b n.toNat)).2 = 0 ∧ (pgroupsI (grpsB b n.toNat)).1 = b then (grpsB b n.toNat, 0) else ([], 117) := fun h => by unfold ungroupsI; rw [h]; rfl
  obtain ⟨r, hr⟩ : ∃ r, ungroupsI b n = r := ⟨_, rfl⟩
  rw [hr] at hbad0 hin ⊢
  clear hr
  have HB := Aside0.mk hb
  have HBA := Aside0.mk hba
  clear hb hba
  cases hin0 : inI n 1 14
  · have HR := Aside0.mk (hbad0 hin0)
    clear hbad0 hin
    go_enter Tryz.func131, Tryz.ntmps131
    go_wp2_with (go_at_call 155; refine (ranged_calls _ _ _ _).mono ?_; rintro e w' ⟨rfl, rfl⟩; rw [hin0])
    go_ret2
    exact ungPost_bad HR.out rfl (Below.refl _ _)
  · have hrg := inI_iff.1 hin0
    obtain ⟨m, rfl⟩ : ∃ m : Nat, n = m := ⟨n.toNat, by omega⟩
    have hi := hin hin0
    rw [Int.toNat_natCast] at hi
    have HR := Aside0.mk hi
    have hm14 : m ≤ 14 := by omega
    clear hbad0 hin hi
    have HC := Aside0.mk (fun k (hk : k < m) => And.intro (rec_grp0 b m k hk) (And.intro (rec_grp1 b m k hk) (rec_grp2 b m k hk)))
    have hql : (recI b (groupW m) (3 * m)).length = 3 * m := recI_len _ _ _
    obtain ⟨q, hq⟩ : ∃ q, recI b (groupW m) (3 * m) = q := ⟨_, rfl⟩
    rw [hq] at hql HC
    have HQ := Aside0.mk hq
    have HQL := Aside0.mk hql
    have hGW := groupW_len m
    have HGW := Aside0.mk hGW
    have HGO := Aside0.mk (groupW_ok m)
    clear hq hql hGW
    go_enter Tryz.func131, Tryz.ntmps131
    go_wp2_with (first
      | (go_at_call 155; refine (ranged_calls _ _ _ _).mono ?_; rintro e w' ⟨rfl, rfl⟩; rw [hin0])
      | (go_at_call 158; (refine (groupw_calls m w (by omega)).mono ?_; rintro e w1 ⟨v1, rfl, ho1, hb1⟩; obtain ⟨A1, c1, rfl, hc1, hk1⟩ := ho1.reads; have HREC := Aside0.mk (record_calls A A1 c c1 b (groupW m) w1 (Kd.C_below HB.out hb1) hbc hk1 (by rw [HGW.out]; omega) HGO.out); have HB1 := Aside0.mk hb1; clear ho1 hb1 hk1))
      | (go_at_call 171; (refine HREC.out.mono ?_; rintro e w2 ⟨v2, rfl, ho2, hb2⟩; rw [HGW.out, HQ.out] at ho2; obtain ⟨A2, c2, rfl, hc2, hk2⟩ := ho2.reads; obtain ⟨ad, rfl, _⟩ := C_int_at hk2 0 (by rw [HQL.out]; omega); have HK2 := Aside0.mk hk2; have HB2 := Aside0.mk (below_then HB1.out HB1.out.size hb2); rw [HQL.out]; clear ho2 hb2 hk2)))
    go_loopg [6, 8, 19] m (fun g v u i wr => ∃ k : Nat, k + g = m ∧ i = .int .i64 k ∧ Aside0 (OwnG wr w2.heap.size v (grpsB b k)) ∧ Aside0 (Below w2.heap.size w2 wr))
    case atStart => exact ⟨0, by omega, rfl, ⟨own_nil _ _ _ _⟩, ⟨Below.refl _ _⟩⟩
    case round =>
      obtain ⟨k, hk, rfl, HO, HBr⟩ := hrel
      cases gk with
      | zero =>
        obtain rfl : k = m := by omega
        obtain ⟨A3, c3, rfl, hc3, hg3⟩ := HO.out.reads
        have HG3 := Aside0.mk hg3
        have HOW := Aside0.mk (own_any HO.out (base' := w.heap.size) (fun g hg => Nat.le_trans HB2.out.size (own_base HO.out g hg)))
        have HLEN := Aside0.mk (grpsB_len b k)
        have hpa := pgroups_allB (grpsB b k)
        have hpl := pgroups_len (grpsB b k)
        have HPG := Aside0.mk (pgroups_calls A3 c3 (grpsB b k) wr hg3 (by rw [HLEN.out]; omega))
        obtain ⟨l, hl⟩ : ∃ l, grpsB b k = l := ⟨_, rfl⟩
        obtain ⟨⟨p1, p2⟩, hp⟩ : ∃ p, pgroupsI (grpsB b k) = p := ⟨_, rfl⟩
        rw [hp] at HPG hpa hpl HR
        rw [hl] at HOW HPG HR ⊢
        dsimp only at hpa hpl HR
        have HPA := Aside0.mk hpa
        have HPL := Aside0.mk hpl
        have HBB := Aside0.mk (below_then HB2.out HB2.out.size HBr.out)
        clear hp hl hg3 hc3 hpa hpl HC HO
        by_cases hp0 : p2 = 0
        · subst hp0
          go_wp2_with fail
          refine HPG.out.mono ?_
          rintro e w4 ⟨v4, rfl, hb4, hv4, _⟩
          obtain ⟨g4, c4, rfl, hg4, hc4, hr4⟩ := hv4 rfl
          have HB4 := Aside0.mk (below_then HBB.out HBB.out.size hb4)
          have heq := equal_calls A (some ⟨g4, 0, none⟩) c c4 b p1 w4 (Kd.C_below HB.out HB4.out) (hr4.reads (Nat.le_trans HPL.out (by omega)))
          rw [strOf_eq HBA.out HPA.out] at heq
          have HEQ := Aside0.mk heq
          have HOW4 := Aside0.mk (pw_own_below HOW.out hb4)
          obtain ⟨t, ht⟩ : ∃ t, (b == p1) = t := ⟨_, rfl⟩
          rw [ht] at HEQ
          clear hv4 heq hb4 hr4
          dsimp only
          cases t
          · have hne : p1 ≠ b := by rintro rfl; simp at ht
            have HRR := Aside0.mk (show r = ([], 117) by rw [HR.out, if_neg (fun h => hne h.2)])
            clear ht hne
            go_wp2_with (go_at_call 43; refine HEQ.out.mono ?_; rintro e w2 ⟨rfl, rfl⟩)
            go_ret2
            exact ungPost_bad HRR.out rfl HB4.out
          · have he : p1 = b := by simp at ht; exact ht.symm
            have HRR := Aside0.mk (show r = (l, 0) by rw [HR.out, if_pos (by simp [he])])
            clear ht he
            go_wp2_with (go_at_call 43; refine HEQ.out.mono ?_; rintro e w2 ⟨rfl, rfl⟩)
            go_ret2
            exact ⟨_, by rw [HRR.out]; rfl, by rw [HRR.out]; exact HOW4.out, HB4.out⟩
        · have HRR := Aside0.mk (show r = ([], 117) by rw [HR.out, if_neg (fun h => hp0 h.1)])
          go_wp2_with fail
          refine HPG.out.mono ?_
          rintro e w4 ⟨v4, rfl, hb4, _, hv4⟩
          obtain rfl := hv4 hp0
          have HB4 := Aside0.mk (below_then HBB.out HBB.out.size hb4)
          clear hv4 hb4
          dsimp only
          go_wp2
          go_ret2
          exact ungPost_bad HRR.out rfl HB4.out
      | succ g =>
        obtain ⟨hc0, hc1', hc2'⟩ := HC.out k (by omega)
        have hcell : ∀ w', Below w2.heap.size w2 w' → (w'.cell? (ad.add (3 * k)) = some (.int .i64 (grpB b k).fb) ∧ w'.cell? (ad.add (3 * k + 1)) = some (.int .i64 (grpB b k).fi) ∧ w'.cell? (ad.add (3 * k + 2)) = some (.int .i64 (grpB b k).dirs)) := fun w' hbw => by
          have hx : ∀ j, j < q.length → w'.cell? (ad.add j) = some (.int .i64 (q.getD j 0)) := fun j hj => by
            obtain ⟨ad', e, hc⟩ := C_int_at (Kd.C_below HK2.out hbw) j hj
            cases e
            exact hc
          exact ⟨by rw [← hc0]; exact hx _ (by rw [HQL.out]; omega), by rw [← hc1']; exact hx _ (by rw [HQL.out]; omega), by rw [← hc2']; exact hx _ (by rw [HQL.out]; omega)⟩
        obtain ⟨⟨fb, fi, dirs⟩, hx⟩ : ∃ x, grpB b k = x := ⟨_, rfl⟩
        rw [hx] at hcell
        dsimp only at hcell
        obtain ⟨j0, hj0⟩ : ∃ j0, 3 * k = j0 := ⟨_, rfl⟩
        obtain ⟨j1, hj1⟩ : ∃ j1, j0 + 1 = j1 := ⟨_, rfl⟩
        obtain ⟨j2, hj2⟩ : ∃ j2, j0 + 2 = j2 := ⟨_, rfl⟩
        rw [hj0, hj1, hj2] at hcell
        have HCELL := Aside0.mk hcell
        have HX := Aside0.mk hx
        have e0 : 3 * (k : Int) = (j0 : Int) := by omega
        have e1 : (j0 : Int) + 1 = (j1 : Int) := by omega
        have e2 : (j0 : Int) + 2 = (j2 : Int) := by omega
        have l0 : j0 < 3 * m := by omega
        have l1 : j1 < 3 * m := by omega
        have l2 : j2 < 3 * m := by omega
        have l3 : (j0 : Int) < 3 * (m : Int) := by omega
        have l4 : (j1 : Int) < 3 * (m : Int) := by omega
        have l5 : (j2 : Int) < 3 * (m : Int) := by omega
        have i1 : (k : Int) < (m : Int) := by omega
        have HLN := Aside0.mk (grpsB_len b k)
        clear hcell hx hc0 hc1' hc2' hj0
        have HW := Aside0.mk (And.intro (show wrap64 (j0 : Int) = j0 by unfold wrap64; omega) (And.intro (show wrap64 (j1 : Int) = j1 by unfold wrap64; omega) (show wrap64 (j2 : Int) = j2 by unfold wrap64; omega)))
        go_wp2
        obtain ⟨hw0, hw1, hw2⟩ := HW.out
        refine wp_region_in [0, 0, 0, 0, 0, 1, 0, 0, 0, 0, 0, 1, 0, 0, 0, 0, 0, 1, 0, 2, 3, 0] [20] (fun w' => w'.cell? (ad.add j0) = some (.int .i64 fb) ∧ w'.cell? (ad.add j1) = some (.int .i64 fi) ∧ w'.cell? (ad.add j2) = some (.int .i64 dirs)) (by kernel_rfl) rfl (by kernel_rfl) (fun _ _ _ _ h => h) (HCELL.out _ HBr.out.drew) ?_
        iterate 19 (first
          | (refine in_off0 (by rfl) ?_; simp only [Act.put, stA, stZ, stS, i64_w, i32_w])
          | (refine in_off1 (by rfl) ?_; simp only [Act.put, stA, stZ, stS, i64_w, i32_w])
          | (refine in_0 (v := ?_) (by rfl) rfl ?_ (a' := ?_) ?_ ?_; rotate_left; (intro w'; go_simp; with_reducible rfl); rotate_left; (simp only [Act.put, stA, stZ, stS, i64_w, i32_w]; rfl))
          | (refine in_1 (v := ?_) (by rfl) rfl ?_ (a' := ?_) ?_ ?_; rotate_left; (rintro w' hs; go_split_ands; go_simp; with_reducible rfl); rotate_left; (simp only [Act.put, stA, stZ, stS, i64_w, i32_w]; rfl)))
        refine in_2 (by rfl) (fun K hK => ?_)
        go_simp
        have hb3 : Below w2.heap.size w2 (wr.alloc (.cells #[.int .i64 fb, .int .i64 fi, .int .i64 dirs] 144)).drew := (below_alloc HBr.out _).drew
        refine hK _ _ (HCELL.out _ hb3) ?_
        clear hK K
        try simp only [Act.put, stA, stZ, stS, i64_w, i32_w]
        refine in_3 (by rfl) (fun K hK => ?_)
        obtain ⟨z0, he, hz0, hz1, hz2⟩ := info_parts infoGrp
        have hown := HO.out.below (below_alloc (Below.refl _ _) (.cells #[.int .i64 fb, .int .i64 fi, .int .i64 dirs] 144)).drew
        clear hw0 hw1 hw2
        refine wp_append_own _ (.tmp 22) (.tmp 41) 122 rfl w2.heap.size 144 z0 (.agg #[.int .i64 0, .int .i64 0, .int .i64 0]) 3 24 Tryz.underlying122 he hz0 hz1 hz2 rfl (by decide) u6 (grpsB b k).length ((grpsB b k).flatMap gcells) rfl hown ⟨wr.heap.size, 0, none⟩ 1 1 [.int .i64 fb, .int .i64 fi, .int .i64 dirs] rfl rfl ?c1 ?c2 (by rw [HLN.out]; simp only [maxLen]; omega) (by rw [HLN.out]; omega) hb3.size ?_
        case c1 =>
          intro j u hj
          rw [add_plain]
          exact cell_alloc wr _ _ j u (by simpa using hj)
        case c2 => simp [Value.oneCell']
        intro v' w' h2 h3 _
        have hown2 := ownG_snoc (x := ⟨fb, fi, dirs⟩) h2 rfl
        have hbl2 := pw_below_grown hb3 _ hb3.size h3 (own_base hown)
        have HO2 := Aside0.mk hown2
        have HBr2 := Aside0.mk hbl2
        refine hK _ _ ?_
        clear hK K h2 h3 hown2 hbl2 hown hb3
        try simp only [Act.put, stA, stZ, stS, i64_w, i32_w]
        refine out_0 (v := ?_) (by rfl) rfl ?_ (a' := ?_) ?_ ?_
        rotate_left
        · intro w'
          go_simp
          with_reducible rfl
        rotate_left
        · simp only [Act.put, stA, stZ, stS, i64_w, i32_w]
          rfl
        refine out_nil ?_
        go_wp2
        go_roundg g
        case measure => omega
        case rel => exact ⟨k + 1, by omega, by go_num, ⟨by rw [show grpsB b (k + 1) = grpsB b k ++ [grpB b k] from rfl, HX.out]; exact HO2.out⟩, HBr2⟩
theorem zeros_ok : zeros.length = 256 ∧ allB zeros := by
  refine ⟨List.length_replicate, fun x hx => ?_⟩
  rw [List.eq_of_mem_replicate hx]
  omega
theorem StIs.blk {w : World} {D : Nat → Prop} {s0 : Nat} {s : St} (h : StIs w D s0 s) (n : Nat) (hn : n < s.now.length) : (s.now.getD n []).length = 256 ∧ allB (s.now.getD n []) := by
  obtain ⟨Dd, M, Mc, R, p0, L, m, room, ns, gs, cap, bc, bw, bh, uv, found, asked, fc, fh, us, h, rfl⟩ := h
  have hn' : n < L.length := by rw [← h.view.1]; exact hn
  have hv := h.view.2.2 n hn'
  cases hf : fc n with
  | some v =>
    rw [hf] at hv
    obtain ⟨g, c, _, _, _, _, h1, h2⟩ := hv
    exact ⟨h1, h2⟩
  | none =>
    rw [hf] at hv
    obtain ⟨bd, bn, pv, ops, fd, fn, pend, hd⟩ := h.disk
    have hc := hd.cont n hn'
    rw [← hv] at hc
    cases ho : (fn n).or (fd n) with
    | none =>
      rw [ho] at hc
      rw [show s.now.getD n [] = zeros from hc]
      exact zeros_ok
    | some v =>
      rw [ho] at hc
      obtain ⟨g, c, _, _, _, _, h1, h2⟩ := hc
      exact ⟨h1, h2⟩
theorem StIs.len {w : World} {D : Nat → Prop} {s0 : Nat} {s : St} (h : StIs w D s0 s) : 128 ≤ s.now.length ∧ s.now.length ≤ 4096 ∧ s.held.length = s.now.length := by
  obtain ⟨Dd, M, Mc, R, p0, L, m, room, ns, gs, cap, bc, bw, bh, uv, found, asked, fc, fh, us, h, rfl⟩ := h
  obtain ⟨hd0, hd1, hd2, hdp, hdl⟩ := h.disk.n
  rw [h.view.1]
  obtain ⟨bd, bn, pv, ops, fd, fn, pend, hd⟩ := h.disk
  exact ⟨hd.lo, hd.hi, h.held.1⟩
theorem StIs.size_calls {w : World} {D : Nat → Prop} {s0 : Nat} {s : St} (h : StIs w D s0 s) : Calls Tryz.prog 123 #[.pointer (some ⟨s0, 0, none⟩)] w fun e w' => e = .returned (.int .i64 s.now.length) ∧ w = w' := by
  obtain ⟨Dd, M, Mc, R, p0, L, m, room, ns, gs, cap, bc, bw, bh, uv, found, asked, fc, fh, us, h, rfl⟩ := h
  rw [h.view.1]
  exact sblocks_calls (h.st.cell 0 _ rfl) h.disk.n.1
def deskC (s0 : Nat) (x : Sup) (gv : Value) (mark : Nat) : List Value := .pointer (some ⟨s0, 0, none⟩) :: (x.cells ++ [gv, .int .i64 mark])
structure DeskAt (w : World) (D : Nat → Prop) (k0 s0 : Nat) (x : Sup) (gv : Value) (l : List Grp) (mark : Nat) : Prop where
  st : Strc w k0 124 (deskC s0 x gv mark)
  gr : OwnG w 0 gv l
  nk : ¬ D k0
  ng : ∀ g, gv.ownBlock = some g → ¬ D g ∧ g ≠ k0
theorem DeskAt.mod {w w1 : World} {D D1 : Nat → Prop} {k0 s0 : Nat} {x : Sup} {gv : Value} {l : List Grp} {mark : Nat} (h : DeskAt w D k0 s0 x gv l mark) (hm : Mod w w1 D) (hd : ∀ k, D1 k → D k ∨ w.heap.size ≤ k) : DeskAt w1 D1 k0 s0 x gv l mark := by
  refine ⟨h.st.mod hm h.nk, own_mod h.gr hm (fun g hg => (h.ng g hg).1), fun hk => ?_, fun g hg => ⟨fun hk => ?_, (h.ng g hg).2⟩⟩
  · rcases hd _ hk with h1 | h1
    · exact h.nk h1
    · have := h.st.lt; omega
  · rcases hd _ hk with h1 | h1
    · exact (h.ng g hg).1 h1
    · have := own_lt h.gr g hg; omega
theorem DeskAt.below {w w1 : World} {D : Nat → Prop} {k0 s0 : Nat} {x : Sup} {gv : Value} {l : List Grp} {mark : Nat} (h : DeskAt w D k0 s0 x gv l mark) (hm : Below w.heap.size w w1) : DeskAt w1 D k0 s0 x gv l mark :=
  h.mod (Mod.of_below hm _) (fun _ => .inl)
def sitI (now : List (List Int)) : Option (Sup × List Grp) :=
  if (unsuperI (now.getD 0 [])).2 ≠ 0 ∨ (unsuperI (now.getD 0 [])).1.geo.blocks ≠ now.length then none else
  if (ungroupsI (now.getD 1 []) (groupsI (unsuperI (now.getD 0 [])).1.geo)).2 ≠ 0 then none else
  some ((unsuperI (now.getD 0 [])).1, (ungroupsI (now.getD 1 []) (groupsI (unsuperI (now.getD 0 [])).1.geo)).1)
def SitPost (D : Nat → Prop) (s0 : Nat) (s : St) (w : World) (e : Ending) (w' : World) : Prop :=
  ∃ D', StIs w' D' s0 s ∧ (∀ k, D' k → D k ∨ w.heap.size ≤ k) ∧ Mod w w' D ∧
    match sitI s.now with
    | none => e = .returned (.tuple #[.pointer none, .int .i64 117])
    | some (x, l) => ∃ k0 gv, e = .returned (.tuple #[.pointer (some ⟨k0, 0, none⟩), .int .i64 0]) ∧ DeskAt w' D' k0 s0 x gv l s.hist.length ∧ w.heap.size ≤ k0 ∧ ∀ g, gv.ownBlock = some g → w.heap.size ≤ g
theorem sitPost_none {D D' : Nat → Prop} {s0 : Nat} {s : St} {w w' : World} {e : Ending} (h : sitI s.now = none) (h1 : StIs w' D' s0 s) (h2 : ∀ k, D' k → D k ∨ w.heap.size ≤ k) (h3 : Mod w w' D) (he : e = .returned (.tuple #[.pointer none, .int .i64 117])) : SitPost D s0 s w e w' := by
  refine ⟨D', h1, h2, h3, ?_⟩
  rw [h]
  exact he
theorem sitPost_some {D D' : Nat → Prop} {s0 k0 : Nat} {s : St} {w w' : World} {e : Ending} {x : Sup} {l : List Grp} {gv : Value} (h : sitI s.now = some (x, l)) (h1 : StIs w' D' s0 s) (h2 : ∀ k, D' k → D k ∨ w.heap.size ≤ k) (h3 : Mod w w' D)
    (he : e = .returned (.tuple #[.pointer (some ⟨k0, 0, none⟩), .int .i64 0])) (h4 : DeskAt w' D' k0 s0 x gv l s.hist.length) (h5 : w.heap.size ≤ k0) (h6 : ∀ g, gv.ownBlock = some g → w.heap.size ≤ g) : SitPost D s0 s w e w' := by
  refine ⟨D', h1, h2, h3, ?_⟩
  rw [h]
  exact ⟨k0, gv, he, h4, h5, h6⟩
theorem own_base {w : World} {base e size n : Nat} {v : Value} {cs : List Value} (h : w.ownsRow base e size v n cs) : ∀ g, v.ownBlock = some g → base ≤ g := by
  intro g hg
  rcases h.2 with ⟨rfl, _⟩ | ⟨g', cap, cur, rfl, hb, _⟩
  · simp [Value.ownBlock] at hg
  · have : g' = g := by simpa [Value.ownBlock] using hg
    omega
set_option maxHeartbeats 4000000 in
set_option maxRecDepth 100000 in
theorem sit_calls {D : Nat → Prop} {s0 : Nat} {s : St} (w : World) (h : StIs w D s0 s) :
    Calls Tryz.prog 65 #[.pointer (some ⟨s0, 0, none⟩)] w (SitPost D s0 s w) := by
  obtain ⟨hl0, hl1, hl2⟩ := h.len
  obtain ⟨hb0, hb1⟩ := h.blk 0 (by omega)
  obtain ⟨hc0, hc1⟩ := h.blk 1 (by omega)
  have hr0 := sread_calls 0 w h (by omega)
  rw [show ((0 : Nat) : Int) = 0 from rfl] at hr0
  have HR0 := Aside0.mk hr0
  obtain ⟨r, hr⟩ : ∃ r, sitI s.now = r := ⟨_, rfl⟩
  have hs1 : (unsuperI (s.now.getD 0 [])).2 ≠ 0 → r = none := fun h => by rw [← hr]; unfold sitI; rw [if_pos (.inl h)]
  have hs2 : (unsuperI (s.now.getD 0 [])).1.geo.blocks ≠ s.now.length → r = none := fun h => by rw [← hr]; unfold sitI; rw [if_pos (.inr h)]
  have hs3 : (unsuperI (s.now.getD 0 [])).2 = 0 → (unsuperI (s.now.getD 0 [])).1.geo.blocks = s.now.length → r = if (ungroupsI (s.now.getD 1 []) (groupsI (unsuperI (s.now.getD 0 [])).1.geo)).2 ≠ 0 then none else
      some ((unsuperI (s.now.getD 0 [])).1, (ungroupsI (s.now.getD 1 []) (groupsI (unsuperI (s.now.getD 0 [])).1.geo)).1) := fun h h2 => by rw [← hr]; unfold sitI; rw [if_neg (by rintro (h' | h'); exact h' h; exact h' h2)]
  have HUS := Aside0.mk (unsuper_calls (b := s.now.getD 0 []))
  obtain ⟨⟨⟨⟨bl, pr, ino, jo⟩, fb, fi, orp, mnt, cl⟩, q⟩, hx⟩ : ∃ u, unsuperI (s.now.getD 0 []) = u := ⟨_, rfl⟩
  rw [hx] at hs1 hs2 hs3 HUS
  have HRR := Aside0.mk hr
  have HS1 := Aside0.mk hs1
  have HS2 := Aside0.mk hs2
  have HS3 := Aside0.mk hs3
  have HB := Aside0.mk (And.intro (And.intro hb0 hb1) (And.intro hc0 hc1))
  obtain ⟨N, hN⟩ : ∃ N, s.now.length = N := ⟨_, rfl⟩
  rw [hN] at HS2 HS3 hl0 hl1
  clear hr hs1 hs2 hs3 hb0 hb1 hc0 hc1 hx hr0 hl2
  have HH := Aside0.mk h
  clear h
  go_enter Tryz.func65, Tryz.ntmps65
  go_wp2_with fail
  refine HR0.out.mono ?_
  rintro e w1 ⟨D1, g1, c1, rfl, h1, hD1, hm1, hg1, hgd1, hcc1, hrow1⟩
  have husc := HUS.out (some ⟨g1, 0, none⟩) c1 w1 (hrow1.reads (by rw [HB.out.1.1]; omega)) (by rw [HB.out.1.1]; exact hcc1) HB.out.1.2
  rw [HB.out.1.1] at husc
  have HUSC := Aside0.mk husc
  have H1 := Aside0.mk h1
  have HD1 := Aside0.mk hD1
  have HM1 := Aside0.mk hm1
  clear husc h1 hD1 hm1 hrow1
  dsimp only
  go_wp2_with fail
  refine HUSC.out.mono ?_
  rintro e w2 ⟨rfl, hb2⟩
  have HB2 := Aside0.mk hb2
  clear hb2
  dsimp only [Sup.v]
  go_upto_region 3 with fail
  have hcell : ∀ (cs : Array Value) (j : Nat) (v : Value), cs[j]? = some v → (w2.alloc (.cells cs 121)).cell? ⟨w2.heap.size, j, none⟩ = some v := fun cs j v h => cell_alloc w2 cs _ j v h
  have hb3 : ∀ o, Below w2.heap.size w2 (w2.alloc o) := fun o => below_alloc (Below.refl _ _) o
  have hsc := alloc_last w2 (.cells #[.int .i64 bl, .int .i64 pr, .int .i64 ino, .int .i64 jo, .int .i64 fb, .int .i64 fi, .int .i64 orp, .int .i64 mnt, .bool cl] 121)
  have hb3 := below_alloc (Below.refl w2.heap.size w2) (.cells #[.int .i64 bl, .int .i64 pr, .int .i64 ino, .int .i64 jo, .int .i64 fb, .int .i64 fi, .int .i64 orp, .int .i64 mnt, .bool cl] 121)
  generalize w2.alloc (.cells #[.int .i64 bl, .int .i64 pr, .int .i64 ino, .int .i64 jo, .int .i64 fb, .int .i64 fi, .int .i64 orp, .int .i64 mnt, .bool cl] 121) = W3 at hsc hb3 ⊢
  have hst3 : Strc W3 w2.heap.size 121 (Sup.cells ⟨⟨bl, pr, ino, jo⟩, fb, fi, orp, mnt, cl⟩) := hsc
  have hb13 : Below w1.heap.size w1 W3 := below_then HB2.out HB2.out.size hb3
  have HST3 := Aside0.mk hst3
  have HB13 := Aside0.mk hb13
  have H3 := Aside0.mk (H1.out.below hb13)
  have HM3 := Aside0.mk (HM1.out.below hb13)
  have hsb : w1.heap.size ≤ w2.heap.size := HB2.out.size
  obtain ⟨sb, hsb0⟩ : ∃ sb, w2.heap.size = sb := ⟨_, rfl⟩
  rw [hsb0] at hst3 HST3 hsb ⊢
  have k0 := hst3.cell 0 _ rfl
  clear hcell hsc hst3 hb3 hb13 hsb0 HUSC HR0
  by_cases hq : q = 0
  · subst hq
    have HSZ := Aside0.mk ((H3.out.below (below_drew (Below.refl _ _))).size_calls)
    rw [hN] at HSZ
    have k0d : W3.drew.cell? ⟨sb, 0, none⟩ = some (.int .i64 bl) := k0
    refine wp_region_in [0, 0, 0, 0, 0, 1, 0, 2, 0, 0] [] (fun w' => w'.cell? ⟨sb, 0, none⟩ = some (.int .i64 bl)) (by kernel_rfl) rfl (by kernel_rfl) (fun _ _ _ _ h => h) k0 ?_
    iterate 7 (first
      | (refine in_off0 (by rfl) ?_; simp only [Act.put, stA, stZ, stS, i64_w, i32_w])
      | (refine in_off1 (by rfl) ?_; simp only [Act.put, stA, stZ, stS, i64_w, i32_w])
      | (refine in_0 (v := ?_) (by rfl) rfl ?_ (a' := ?_) ?_ ?_; rotate_left; (intro w'; go_simp; with_reducible rfl); rotate_left; (simp only [Act.put, stA, stZ, stS, i64_w, i32_w]; rfl))
      | (refine in_1 (v := ?_) (by rfl) rfl ?_ (a' := ?_) ?_ ?_; rotate_left; (rintro w' hs; go_split_ands; go_simp; with_reducible rfl); rotate_left; (simp only [Act.put, stA, stZ, stS, i64_w, i32_w]; rfl)))
    refine in_2 (by rfl) (fun K hK => ?_)
    go_simp
    refine (HSZ.out).mono ?_
    rintro e _w ⟨rfl, rfl⟩
    dsimp only
    refine hK _ _ k0d ?_
    clear hK K
    try simp only [Act.put, stA, stZ, stS, i64_w, i32_w]
    iterate 2 (first
      | (refine in_off0 (by rfl) ?_; simp only [Act.put, stA, stZ, stS, i64_w, i32_w])
      | (refine in_off1 (by rfl) ?_; simp only [Act.put, stA, stZ, stS, i64_w, i32_w])
      | (refine in_0 (v := ?_) (by rfl) rfl ?_ (a' := ?_) ?_ ?_; rotate_left; (intro w'; go_simp; with_reducible rfl); rotate_left; (simp only [Act.put, stA, stZ, stS, i64_w, i32_w]; rfl))
      | (refine in_1 (v := ?_) (by rfl) rfl ?_ (a' := ?_) ?_ ?_; rotate_left; (rintro w' hs; go_split_ands; go_simp; with_reducible rfl); rotate_left; (simp only [Act.put, stA, stZ, stS, i64_w, i32_w]; rfl)))
    refine in_nil ?_
    have H4 := Aside0.mk (H3.out.below (below_drew (Below.refl _ _)))
    have HM4 := Aside0.mk HM3.out.drew
    have HB14 := Aside0.mk (below_drew HB13.out)
    have HST4 := Aside0.mk (HST3.out.below (below_drew (Below.refl _ _)))
    generalize W3.drew = W4 at H4 HM4 HB14 HST4 k0d ⊢
    clear k0 HST3 HB13 H3 HM3 HSZ
    by_cases hbl : bl = (N : Int)
    · have h3 := HS3.out rfl hbl
      subst hbl
      have HR3 := Aside0.mk h3
      have hr1 := sread_calls 1 W4 H4.out (by omega)
      rw [show ((1 : Nat) : Int) = 1 from rfl] at hr1
      have HR1 := Aside0.mk hr1
      have hsbD : ¬ D1 sb := fun hk => by have := H1.out.sub _ hk; omega
      clear h3 hr1 k0d
      go_wp2_with fail
      refine HR1.out.mono ?_
      rintro e w5 ⟨D5, g5, c5, rfl, h5, hD5, hm5, hg5, hgd5, hcc5, hrow5⟩
      have hst5 := HST4.out.mod hm5 hsbD
      have hk0 := hst5.cell 0 _ rfl
      have hk1 := hst5.cell 1 _ rfl
      have hk2 := hst5.cell 2 _ rfl
      have hk3 := hst5.cell 3 _ rfl
      have HST5 := Aside0.mk hst5
      have H5 := Aside0.mk h5
      have HD5 := Aside0.mk hD5
      have HM5 := Aside0.mk (HM4.out.trans hm5 (fun i hi hd => (HD1.out i hd).elim id (fun h => absurd h (by omega))))
      have HROW5 := Aside0.mk hrow5
      have HGR := Aside0.mk (groups_calls ⟨(N : Int), pr, ino, jo⟩ w5)
      obtain ⟨gn, hgn⟩ : ∃ gn, groupsI ⟨(N : Int), pr, ino, jo⟩ = gn := ⟨_, rfl⟩
      rw [hgn] at HGR HR3
      have HNG := Aside0.mk (fun (W : World) (hW : Below w5.heap.size w5 W) => ungroups_calls (some ⟨g5, 0, none⟩) c5 (s.now.getD 1 []) gn W ((hrow5.below hW).reads (by rw [HB.out.2.1]; omega)) (by rw [HB.out.2.1]; exact hcc5) HB.out.2.2)
      rw [HB.out.2.1] at HNG
      obtain ⟨⟨l, q2⟩, hu⟩ : ∃ u, ungroupsI (s.now.getD 1 []) gn = u := ⟨_, rfl⟩
      rw [hu] at HNG HR3
      clear hst5 h5 hD5 hm5 hrow5 hgn hu
      dsimp only
      go_wp2_with fail
      refine HGR.out.mono ?_
      rintro e w6 ⟨rfl, hb6⟩
      have HB6 := Aside0.mk hb6
      clear hb6
      dsimp only
      go_wp2_with fail
      refine (HNG.out w6 HB6.out).mono ?_
      rintro e w7 ⟨v7, rfl, ho7, hb7⟩
      obtain ⟨A7, c7, rfl, _⟩ := ho7.reads
      have HB7 := Aside0.mk (below_then HB6.out HB6.out.size hb7)
      have HO7 := Aside0.mk ho7
      have hs57 := HB6.out.size
      clear ho7 hb7 hk0 hk1 hk2 hk3
      dsimp only
      by_cases hq2 : q2 = 0
      · subst hq2
        have hrn := HR3.out
        rw [if_neg (by simp)] at hrn
        subst hrn
        have H7 := Aside0.mk (H5.out.below HB7.out)
        have HST7 := Aside0.mk (HST5.out.below HB7.out)
        have HMK := Aside0.mk (smark_calls w7.drew (H7.out.below (below_drew (Below.refl _ _))))
        have hS : (fun w' : World => w'.cell? ⟨sb, 0, none⟩ = some (.int .i64 (N : Nat)) ∧ w'.cell? ⟨sb, 1, none⟩ = some (.int .i64 pr) ∧ w'.cell? ⟨sb, 2, none⟩ = some (.int .i64 ino) ∧ w'.cell? ⟨sb, 3, none⟩ = some (.int .i64 jo) ∧ w'.cell? ⟨sb, 4, none⟩ = some (.int .i64 fb) ∧ w'.cell? ⟨sb, 5, none⟩ = some (.int .i64 fi) ∧ w'.cell? ⟨sb, 6, none⟩ = some (.int .i64 orp) ∧ w'.cell? ⟨sb, 7, none⟩ = some (.int .i64 mnt) ∧ w'.cell? ⟨sb, 8, none⟩ = some (.bool cl)) w7.drew := ⟨HST7.out.cell 0 _ rfl, HST7.out.cell 1 _ rfl, HST7.out.cell 2 _ rfl, HST7.out.cell 3 _ rfl, HST7.out.cell 4 _ rfl, HST7.out.cell 5 _ rfl, HST7.out.cell 6 _ rfl, HST7.out.cell 7 _ rfl, HST7.out.cell 8 _ rfl⟩
        have HSS := Aside0.mk hS
        clear hS
        go_upto_region 9 with fail
        refine wp_region_in [0, 1, 0, 0, 2, 0, 3, 0, 0] [6] (fun w' => w'.cell? ⟨sb, 0, none⟩ = some (.int .i64 (N : Nat)) ∧ w'.cell? ⟨sb, 1, none⟩ = some (.int .i64 pr) ∧ w'.cell? ⟨sb, 2, none⟩ = some (.int .i64 ino) ∧ w'.cell? ⟨sb, 3, none⟩ = some (.int .i64 jo) ∧ w'.cell? ⟨sb, 4, none⟩ = some (.int .i64 fb) ∧ w'.cell? ⟨sb, 5, none⟩ = some (.int .i64 fi) ∧ w'.cell? ⟨sb, 6, none⟩ = some (.int .i64 orp) ∧ w'.cell? ⟨sb, 7, none⟩ = some (.int .i64 mnt) ∧ w'.cell? ⟨sb, 8, none⟩ = some (.bool cl)) (by kernel_rfl) rfl (by kernel_rfl) (fun _ _ _ _ h => h) HSS.out ?_
        iterate 4 (first
          | (refine in_off0 (by rfl) ?_; simp only [Act.put, stA, stZ, stS, i64_w, i32_w])
          | (refine in_off1 (by rfl) ?_; simp only [Act.put, stA, stZ, stS, i64_w, i32_w])
          | (refine in_0 (v := ?_) (by rfl) rfl ?_ (a' := ?_) ?_ ?_; rotate_left; (intro w'; go_simp; with_reducible rfl); rotate_left; (simp only [Act.put, stA, stZ, stS, i64_w, i32_w]; rfl))
          | (refine in_1 (v := ?_) (by rfl) rfl ?_ (a' := ?_) ?_ ?_; rotate_left; (rintro w' hs; go_split_ands; go_simp; with_reducible rfl); rotate_left; (simp only [Act.put, stA, stZ, stS, i64_w, i32_w]; rfl)))
        have hSS := HSS.out
        refine in_2 (by rfl) (fun K hK => ?_)
        go_simp
        refine (HMK.out).mono ?_
        rintro e _w ⟨rfl, rfl⟩
        dsimp only
        refine hK _ _ hSS ?_
        clear hK K
        try simp only [Act.put, stA, stZ, stS, i64_w, i32_w]
        iterate 1 (first
          | (refine in_off0 (by rfl) ?_; simp only [Act.put, stA, stZ, stS, i64_w, i32_w])
          | (refine in_off1 (by rfl) ?_; simp only [Act.put, stA, stZ, stS, i64_w, i32_w])
          | (refine in_0 (v := ?_) (by rfl) rfl ?_ (a' := ?_) ?_ ?_; rotate_left; (intro w'; go_simp; with_reducible rfl); rotate_left; (simp only [Act.put, stA, stZ, stS, i64_w, i32_w]; rfl))
          | (refine in_1 (v := ?_) (by rfl) rfl ?_ (a' := ?_) ?_ ?_; rotate_left; (rintro w' hs; go_split_ands; go_simp; with_reducible rfl); rotate_left; (simp only [Act.put, stA, stZ, stS, i64_w, i32_w]; rfl)))
        refine in_3 (by rfl) (fun K hK => ?_)
        go_simp
        refine hK _ _ ?_
        clear hK K
        try simp only [Act.put, stA, stZ, stS, i64_w, i32_w]
        iterate 2 (
          refine out_0 (v := ?_) (by rfl) rfl ?_ (a' := ?_) ?_ ?_
          rotate_left
          · intro w'; go_simp; with_reducible rfl
          rotate_left
          · simp only [Act.put, stA, stZ, stS, i64_w, i32_w]; rfl)
        refine out_nil ?_
        go_wp2
        go_ret2
        have hlast := alloc_last w7 (.cells #[.pointer (some ⟨s0, 0, none⟩), .int .i64 (N : Nat), .int .i64 pr, .int .i64 ino, .int .i64 jo, .int .i64 fb, .int .i64 fi, .int .i64 orp, .int .i64 mnt, .bool cl, .slice A7 l.length c7, .int .i64 s.hist.length] 124)
        have hal := below_drew (below_alloc (Below.refl w7.heap.size w7) (.cells #[.pointer (some ⟨s0, 0, none⟩), .int .i64 (N : Nat), .int .i64 pr, .int .i64 ino, .int .i64 jo, .int .i64 fb, .int .i64 fi, .int .i64 orp, .int .i64 mnt, .bool cl, .slice A7 l.length c7, .int .i64 s.hist.length] 124))
        have hsz1 := HM4.out.size
        have hsz2 := HM5.out.size
        have hD0 : ∀ k, D5 k → D k ∨ w.heap.size ≤ k := fun k hk => (HD5.out k hk).elim (HD1.out k) (fun h => .inr (by omega))
        have hob := own_base HO7.out
        refine sitPost_some (k0 := w7.heap.size) (gv := .slice A7 l.length c7) HRR.out (H7.out.below hal) hD0 (HM5.out.below (below_then HB7.out HB7.out.size hal)) rfl ⟨hlast, own_any (pw_own_below HO7.out hal) (fun _ _ => Nat.zero_le _), ?_, ?_⟩ (by have := HB7.out.size; omega) (fun g hg => by have := hob g hg; omega)
        · intro hk
          have := H7.out.sub _ hk
          omega
        · intro g hg
          have h1 := hob g hg
          have h2 := own_lt HO7.out g hg
          exact ⟨fun hk => by have := H5.out.sub _ hk; omega, by omega⟩
      · have hrn := HR3.out
        rw [if_pos hq2] at hrn
        subst hrn
        have hqb : (q2 != 0) = true := by simpa using hq2
        go_wp2
        go_ret2
        exact sitPost_none HRR.out (H5.out.below HB7.out) (fun k hk => (HD5.out k hk).elim (HD1.out k) (fun h => .inr (by have := HM4.out.size; omega))) (HM5.out.below HB7.out) rfl
    · have hrn := HS2.out hbl
      subst hrn
      have hbb : (bl != (N : Int)) = true := by simpa using hbl
      go_wp2
      go_ret2
      exact sitPost_none HRR.out H4.out HD1.out HM4.out rfl
  · have hrn := HS1.out hq
    subst hrn
    have hqb : (q != 0) = true := by simpa using hq
    have HQB := Aside0.mk hqb
    refine wp_region_in [0, 0, 0, 0, 0, 0, 0, 0, 0, 0] [] (fun w' => True) (by kernel_rfl) rfl (by kernel_rfl) (fun _ _ _ _ h => h) trivial ?_
    iterate 10 (first
      | (refine in_off0 (by rfl) ?_; simp only [Act.put, stA, stZ, stS, i64_w, i32_w])
      | (refine in_off1 (by rfl) ?_; simp only [Act.put, stA, stZ, stS, i64_w, i32_w])
      | (refine in_0 (v := ?_) (by rfl) rfl ?_ (a' := ?_) ?_ ?_; rotate_left; (intro w'; go_simp; with_reducible rfl); rotate_left; (simp only [Act.put, stA, stZ, stS, i64_w, i32_w]; rfl))
      | (refine in_1 (v := ?_) (by rfl) rfl ?_ (a' := ?_) ?_ ?_; rotate_left; (rintro w' hs; go_split_ands; go_simp; with_reducible rfl); rotate_left; (simp only [Act.put, stA, stZ, stS, i64_w, i32_w]; rfl)))
    refine in_nil ?_
    go_wp2
    go_ret2
    exact sitPost_none HRR.out (H3.out.below ((Below.refl _ _).drew)) HD1.out HM3.out.drew rfl
def leftI (now : List (List Int)) : Int × Int × Int :=
  match sitI now with
  | none => (0, 0, 117)
  | some (x, _) => (x.fb, x.fi, 0)
def LeftPost (D : Nat → Prop) (s0 : Nat) (s : St) (w : World) (e : Ending) (w' : World) : Prop :=
  ∃ D', StIs w' D' s0 s ∧ (∀ k, D' k → D k ∨ w.heap.size ≤ k) ∧ Mod w w' D ∧ e = .returned (.tuple #[.int .i64 (leftI s.now).1, .int .i64 (leftI s.now).2.1, .int .i64 (leftI s.now).2.2])
theorem hd_then {D D1 D2 : Nat → Prop} {w w1 : World} (hm : Mod w w1 D) (h1 : ∀ k, D1 k → D k ∨ w.heap.size ≤ k) (h2 : ∀ k, D2 k → D1 k ∨ w1.heap.size ≤ k) : ∀ k, D2 k → D k ∨ w.heap.size ≤ k := fun k hk => (h2 k hk).elim (h1 k) (fun h => .inr (Nat.le_trans hm.size h))
theorem mod_then {D D1 : Nat → Prop} {w w1 w2 : World} (hm : Mod w w1 D) (h1 : ∀ k, D1 k → D k ∨ w.heap.size ≤ k) (hm2 : Mod w1 w2 D1) : Mod w w2 D := hm.trans hm2 (fun i hi hd => (h1 i hd).elim id (fun h => absurd h (by omega)))
set_option maxHeartbeats 4000000 in
set_option maxRecDepth 100000 in
theorem left_calls {D : Nat → Prop} {s0 : Nat} {s : St} (w : World) (h : StIs w D s0 s) :
    Calls Tryz.prog 36 #[.pointer (some ⟨s0, 0, none⟩)] w (LeftPost D s0 s w) := by
  have HSIT := Aside0.mk (sit_calls w h)
  obtain ⟨r, hr⟩ : ∃ r, leftI s.now = r := ⟨_, rfl⟩
  have HR := Aside0.mk hr
  clear h hr
  go_enter Tryz.func36, Tryz.ntmps36
  go_wp2_with fail
  refine HSIT.out.mono ?_
  rintro e w1 ⟨D1, h1, hd1, hm1, hrest⟩
  have HX := Aside0.mk (And.intro h1 (And.intro hd1 hm1))
  clear h1 hd1 hm1
  cases hsi : sitI s.now with
  | none =>
    rw [hsi] at hrest
    have hl : leftI s.now = (0, 0, 117) := by unfold leftI; rw [hsi]
    have HL := Aside0.mk hl
    subst hrest
    clear hl hsi
    dsimp only
    go_wp2
    go_ret3
    refine ⟨D1, HX.out.1, HX.out.2.1, HX.out.2.2, ?_⟩
    rw [HL.out]
    rfl
  | some q =>
    obtain ⟨x, l⟩ := q
    rw [hsi] at hrest
    obtain ⟨k0, gv, rfl, hk, _, _⟩ := hrest
    have hl : leftI s.now = (x.fb, x.fi, 0) := by unfold leftI; rw [hsi]
    have HL := Aside0.mk hl
    have c1 := hk.st.cell 5 _ rfl
    have c2 := hk.st.cell 6 _ rfl
    clear hl hsi hk
    dsimp only
    go_wp2
    refine wp_region_in [0, 0, 0, 0, 1, 0, 0, 0, 0, 1, 0, 0, 0] [] (fun w' => w'.cell? ⟨k0, 5, none⟩ = some (.int .i64 x.fb) ∧ w'.cell? ⟨k0, 6, none⟩ = some (.int .i64 x.fi)) (by kernel_rfl) rfl (by kernel_rfl) (fun _ _ _ _ h => h) ⟨c1, c2⟩ ?_
    iterate 13 (first
      | (refine in_off0 (by rfl) ?_; simp only [Act.put, stA, stZ, stS, i64_w, i32_w])
      | (refine in_off1 (by rfl) ?_; simp only [Act.put, stA, stZ, stS, i64_w, i32_w])
      | (refine in_0 (v := ?_) (by rfl) rfl ?_ (a' := ?_) ?_ ?_; rotate_left; (intro w'; go_simp; with_reducible rfl); rotate_left; (simp only [Act.put, stA, stZ, stS, i64_w, i32_w]; rfl))
      | (refine in_1 (v := ?_) (by rfl) rfl ?_ (a' := ?_) ?_ ?_; rotate_left; (rintro w' hs; go_split_ands; go_simp; with_reducible rfl); rotate_left; (simp only [Act.put, stA, stZ, stS, i64_w, i32_w]; rfl)))
    refine in_nil ?_
    go_wp2
    go_ret3
    refine ⟨D1, HX.out.1.below (below_drew (Below.refl _ _)), HX.out.2.1, HX.out.2.2.drew, ?_⟩
    rw [HL.out]
    rfl
def BitmapPost (D : Nat → Prop) (s0 : Nat) (s : St) (n m : Nat) (w : World) (e : Ending) (w' : World) : Prop :=
  ∃ D', StIs w' D' s0 s ∧ (∀ k, D' k → D k ∨ w.heap.size ≤ k) ∧ Mod w w' D ∧
    ((chkB (s.now.getD n []) m n ≠ 0 ∧ e = .returned (.tuple #[.slice none 0 0, .int .i64 117])) ∨
     (chkB (s.now.getD n []) m n = 0 ∧ ∃ g c, e = .returned (.tuple #[.slice (some ⟨g, 0, none⟩) 256 c, .int .i64 0]) ∧ w.heap.size ≤ g ∧ ¬ D' g ∧ 256 ≤ c ∧ Row w' .u8 g 5 (s.now.getD n [])))
set_option maxHeartbeats 4000000 in
set_option maxRecDepth 100000 in
theorem bitmap_calls {D : Nat → Prop} {s0 k0 : Nat} {s : St} (n m : Nat) (w : World) (h : StIs w D s0 s) (hk : w.cell? ⟨k0, 0, none⟩ = some (.pointer (some ⟨s0, 0, none⟩))) (hn : n < s.now.length) (hm : m ≤ 2016) :
    Calls Tryz.prog 69 #[.pointer (some ⟨k0, 0, none⟩), .int .i64 n, .int .i64 m] w (BitmapPost D s0 s n m w) := by
  have HRD := Aside0.mk (sread_calls n w h hn)
  have HB := Aside0.mk (h.blk n hn)
  have hl := h.len
  have hn2 : n < 4096 := by omega
  clear h hn hl
  go_enter Tryz.func69, Tryz.ntmps69
  go_wp2_with fail
  refine HRD.out.mono ?_
  rintro e w1 ⟨D1, g1, c1, rfl, h1, hD1, hm1, hg1, hgd1, hcc1, hrow1⟩
  have hck := bchk_calls (some ⟨g1, 0, none⟩) c1 (s.now.getD n []) m n w1 (hrow1.reads (by rw [HB.out.1]; omega)) (by rw [HB.out.1]; exact hcc1) HB.out.2 hm (by omega) (by omega)
  rw [HB.out.1] at hck
  have HCK := Aside0.mk hck
  have HX := Aside0.mk (And.intro h1 (And.intro hD1 hm1))
  have HROW := Aside0.mk hrow1
  clear hck h1 hD1 hm1 hrow1
  obtain ⟨q, hq⟩ : ∃ q, chkB (s.now.getD n []) m n = q := ⟨_, rfl⟩
  rw [hq] at HCK
  have HQ := Aside0.mk hq
  clear hq
  dsimp only
  by_cases hq0 : q = 0
  · subst hq0
    go_wp2_with fail
    refine HCK.out.mono ?_
    rintro e w2 ⟨rfl, hb2⟩
    have HB2 := Aside0.mk hb2
    clear hb2
    dsimp only
    go_wp2
    go_ret2
    exact ⟨D1, HX.out.1.below HB2.out, HX.out.2.1, HX.out.2.2.below HB2.out, .inr ⟨HQ.out, g1, c1, rfl, hg1, hgd1, hcc1, HROW.out.below HB2.out⟩⟩
  · have hqb : (q != 0) = true := by simpa using hq0
    have HQ0 := Aside0.mk hq0
    go_wp2_with fail
    refine HCK.out.mono ?_
    rintro e w2 ⟨rfl, hb2⟩
    have HB2 := Aside0.mk hb2
    clear hb2
    dsimp only
    go_wp2
    go_ret2
    exact ⟨D1, HX.out.1.below HB2.out, HX.out.2.1, HX.out.2.2.below HB2.out, .inl ⟨by rw [HQ.out]; exact HQ0.out, rfl⟩⟩
theorem turnI_ok {b : List Int} {n : Nat} {fr ct : Int} {on : Bool} {s : Int} (hb : allB b) (h : (turnI b n fr ct on s).2 = 0) : (turnI b n fr ct on s).1.length = 256 ∧ allB (turnI b n fr ct on s).1 := by
  unfold turnI at h ⊢
  by_cases h1 : chkB b n s ≠ 0
  · rw [if_pos h1] at h; exact absurd h h1
  · rw [if_neg h1] at h ⊢
    have hl := chkB_len (Classical.not_not.1 h1)
    by_cases h2 : ct < 1 ∨ fr < 0 ∨ (n : Int) < fr ∨ (n : Int) - fr < ct
    · rw [if_pos h2] at h; cases h
    · rw [if_neg h2] at h ⊢
      cases ht : turnGo on ct.toNat fr.toNat b with
      | none => rw [ht] at h; cases h
      | some out =>
        refine ⟨?_, allB_seal (turnGo_allB on _ _ b out hb ht) s⟩
        show (sealL out s).length = 256
        unfold sealL
        rw [layL_length, turnGo_len on _ _ b out ht]
        exact hl
def DoPost (D : Nat → Prop) (s0 : Nat) (r : St × Int) (w : World) (e : Ending) (w' : World) : Prop :=
  ∃ D', e = .returned (.int .i64 r.2) ∧ StIs w' D' s0 r.1 ∧ (∀ k, D' k → D k ∨ w.heap.size ≤ k) ∧ Mod w w' D
def dturnI (s : St) (n m : Nat) (fr ct : Int) (on : Bool) : St × Int :=
  if (turnI (s.now.getD n []) m fr ct on n).2 = 0 then (s.write n (turnI (s.now.getD n []) m fr ct on n).1, 0) else (s, (turnI (s.now.getD n []) m fr ct on n).2)
set_option maxHeartbeats 4000000 in
set_option maxRecDepth 100000 in
theorem dturn_calls {D : Nat → Prop} {s0 k0 : Nat} {s : St} (n m : Nat) (fr ct : Int) (on : Bool) (w : World) (h : StIs w D s0 s) (hk : w.cell? ⟨k0, 0, none⟩ = some (.pointer (some ⟨s0, 0, none⟩))) (hkD : ¬ D k0) (hn : n < s.now.length) (hm : m ≤ 2016) (hh : s.hist.length ≤ 1000000)
    (hf0 : -9223372036854775808 ≤ fr) (hf1 : fr < 9223372036854775808) (hc0 : -9223372036854775808 ≤ ct) (hc1 : ct < 9223372036854775808) :
    Calls Tryz.prog 74 #[.pointer (some ⟨k0, 0, none⟩), .int .i64 n, .int .i64 m, .int .i64 fr, .int .i64 ct, .bool on] w (DoPost D s0 (dturnI s n m fr ct on) w) := by
  have HRD := Aside0.mk (sread_calls n w h hn)
  have HB := Aside0.mk (h.blk n hn)
  have hl := h.len
  have hn2 : n < 4096 := by omega
  have HK := Aside0.mk hk
  have HN := Aside0.mk hn
  have HH := Aside0.mk hh
  obtain ⟨r, hr⟩ : ∃ r, dturnI s n m fr ct on = r := ⟨_, rfl⟩
  have hr0 : (turnI (s.now.getD n []) m fr ct on n).2 = 0 → r = (s.write n (turnI (s.now.getD n []) m fr ct on n).1, 0) := fun h => by rw [← hr]; unfold dturnI; rw [if_pos h]
  have hr1 : (turnI (s.now.getD n []) m fr ct on n).2 ≠ 0 → r = (s, (turnI (s.now.getD n []) m fr ct on n).2) := fun h => by rw [← hr]; unfold dturnI; rw [if_neg h]
  have hok := turnI_ok (b := s.now.getD n []) (n := m) (fr := fr) (ct := ct) (on := on) (s := n) HB.out.2
  rw [hr]
  have HTC := Aside0.mk (fun (g c : Nat) (W : World) (hrow : Row W .u8 g 5 (s.now.getD n [])) (hc : 256 ≤ c) => turn_calls (some ⟨g, 0, none⟩) c (s.now.getD n []) m fr ct on n W (hrow.reads (by rw [HB.out.1]; omega)) (by rw [HB.out.1]; exact hc) HB.out.2 hm (by omega) (by omega) hf0 hf1 hc0 hc1)
  rw [HB.out.1] at HTC
  obtain ⟨⟨t1, t2⟩, ht⟩ : ∃ t, turnI (s.now.getD n []) m fr ct on n = t := ⟨_, rfl⟩
  rw [ht] at HTC hr0 hr1 hok
  have HR0 := Aside0.mk hr0
  have HR1 := Aside0.mk hr1
  have HOK := Aside0.mk hok
  clear h hn hl hh hr hr0 hr1 hok ht hf0 hf1 hc0 hc1
  go_enter Tryz.func74, Tryz.ntmps74
  go_wp2_with fail
  refine HRD.out.mono ?_
  rintro e w1 ⟨D1, g1, c1, rfl, h1, hD1, hm1, hg1, hgd1, hcc1, hrow1⟩
  have HTC1 := Aside0.mk (HTC.out g1 c1 w1 hrow1 hcc1)
  have HX := Aside0.mk (And.intro h1 (And.intro hD1 hm1))
  have hk1 := hm1.cell hk hkD
  clear h1 hD1 hm1 hrow1 hk
  dsimp only
  go_wp2_with fail
  refine HTC1.out.mono ?_
  rintro e w2 ⟨v, rfl, hb2, hgood, hbad⟩
  have HB2 := Aside0.mk hb2
  have hk2 := pw_cell_below hb2 hk1
  have hkD1 : ¬ D1 k0 := fun h => (HX.out.2.1 k0 h).elim hkD (fun h => by have := World.block_lt_of_cell? w _ HK.out; simp at this; omega)
  clear hb2 hk1
  by_cases ht0 : t2 = 0
  · subst ht0
    obtain ⟨g2, c2, rfl, hg2, hc2, hrow2⟩ := hgood rfl
    have hrn := HR0.out rfl
    subst hrn
    have hlen := HOK.out rfl
    have h2 := HX.out.1.below HB2.out
    have hsw := swrite_calls n ⟨g2, 0, none⟩ c2 t1 w2 h2 HN.out (hrow2.reads (by rw [hlen.1]; omega)) hlen.1 hlen.2 HH.out (fun hd => by have := HX.out.1.sub _ hd; simp at this; omega)
    have HSW := Aside0.mk hsw
    rw [hlen.1]
    clear hgood hbad hrow2 hlen h2 hsw hc2
    dsimp only
    go_wp2_with fail
    refine HSW.out.mono ?_
    rintro e w3 ⟨D3, rfl, h3, hD3, hm3⟩
    have HY := Aside0.mk (And.intro h3 (And.intro hD3 hm3))
    clear h3 hD3 hm3
    dsimp only
    go_wp2
    go_ret
    have hm2 : Mod w w2 D := HX.out.2.2.below HB2.out
    exact ⟨D3, rfl, HY.out.1, hd_then hm2 HX.out.2.1 HY.out.2.1, mod_then hm2 HX.out.2.1 HY.out.2.2⟩
  · have hv := hbad ht0
    subst hv
    have hrn := HR1.out ht0
    subst hrn
    have hqb : (t2 != 0) = true := by simpa using ht0
    clear hgood hbad
    dsimp only
    go_wp2
    go_ret
    exact ⟨D1, rfl, HX.out.1.below HB2.out, HX.out.2.1, HX.out.2.2.below HB2.out⟩
theorem own_setC {w : World} {base e size g n c : Nat} {cs : List Value} (h : w.ownsRow base e size (.slice (some ⟨g, 0, none⟩) n c) n cs) (j : Nat) (v : Value) : (w.setCell ⟨g, j, none⟩ v).ownsRow base e size (.slice (some ⟨g, 0, none⟩) n c) n (cs.set j v) := by
  refine ⟨by rw [List.length_set]; exact h.1, ?_⟩
  rcases h.2 with ⟨h0, _⟩ | ⟨g', cap, cur, hv, hb, hh, h1, h2, h3, h4⟩
  · cases h0
  · cases hv
    refine .inr ⟨g, c, cur.setIfInBounds j v, rfl, hb, ?_, h1, h2, by simpa using h3, ?_⟩
    · unfold World.setCell
      simp only [Array.getElem?_modify, if_true, hh, Option.map_some]
      simp
    · rw [Array.toList_setIfInBounds, List.take_set, h4]
theorem own_free {w : World} {base e size n : Nat} {v : Value} {cs : List Value} (h : w.ownsRow base e size v n cs) {g : Nat} (hg : v.ownBlock = some g) (j : Nat) : w.frozen? ⟨g, j, none⟩ = false := by
  rcases h.2 with ⟨rfl, _⟩ | ⟨g', cap, cur, rfl, hb, hh, _⟩
  · simp [Value.ownBlock] at hg
  · have e : g' = g := by simpa [Value.ownBlock] using hg
    subst e
    simp [World.frozen?, hh]
def setFb (l : List Grp) (i : Nat) (z : Int) : List Grp := l.set i ⟨z, (grpAt l i).fi, (grpAt l i).dirs⟩
theorem setFb_length (l : List Grp) (i : Nat) (z : Int) : (setFb l i z).length = l.length := by simp [setFb]
theorem gcells_set (z : Int) : ∀ (l : List Grp) (i : Nat), i < l.length → (l.flatMap gcells).set (i * 3) (.int .i64 z) = (setFb l i z).flatMap gcells
  | x :: l, 0, _ => by simp [setFb, gcells, grpAt]
  | x :: l, i + 1, h => by
    have ih := gcells_set z l i (by simpa using h)
    have e : setFb (x :: l) (i + 1) z = x :: setFb l i z := by simp [setFb, grpAt]
    rw [e, List.flatMap_cons, List.flatMap_cons, ← ih, List.set_append_right _ _ (by simp [gcells]; omega)]
    congr 1
    congr 1
    simp [gcells]
    omega
def addFb (x : Sup) (n : Int) : Sup := ⟨x.geo, x.fb + n, x.fi, x.orp, x.mnt, x.clean⟩
set_option maxHeartbeats 4000000 in
set_option maxRecDepth 100000 in
theorem counted_calls {D : Nat → Prop} {s0 k0 mark : Nat} {x : Sup} {gv : Value} {l : List Grp} (i : Nat) (n : Int) (w : World) (h : DeskAt w D k0 s0 x gv l mark) (hi : i < l.length)
    (hb0 : -1000000 ≤ (grpAt l i).fb) (hb1 : (grpAt l i).fb ≤ 1000000) (hx0 : -1000000 ≤ x.fb) (hx1 : x.fb ≤ 1000000) (hn0 : -1000000 ≤ n) (hn1 : n ≤ 1000000) :
    Calls Tryz.prog 72 #[.pointer (some ⟨k0, 0, none⟩), .int .i64 i, .int .i64 n] w fun e w' => e = .returned (.tuple #[]) ∧ DeskAt w' D k0 s0 (addFb x n) gv (setFb l i ((grpAt l i).fb + n)) mark ∧ Mod w w' (fun k => k = k0 ∨ gv.ownBlock = some k) := by
  obtain ⟨A, c, rfl, hlc, hA, hA2, hA3⟩ := own_shape h.gr
  obtain ⟨ad, rfl⟩ := hA2 (by omega)
  have hob : ∃ g, ad = ⟨g, 0, none⟩ ∧ (Value.slice (some ad) l.length c).ownBlock = some g := by
    rcases h.gr.2 with ⟨h0, _⟩ | ⟨g', cap, cur, hv, _⟩
    · cases h0
    · cases hv
      exact ⟨g', rfl, rfl⟩
  obtain ⟨g, rfl, hgo⟩ := hob
  have hne := (h.ng g hgo).2
  have c10 := h.st.cell 10 _ rfl
  have c5 := h.st.cell 5 _ rfl
  have f5 := h.st.free 5
  have hgc := hA3 _ rfl (i * 3) _ ((gcells_at l i hi 0 (by omega)))
  rw [add_plain] at hgc
  have hgf : w.frozen? ⟨g, i * 3, none⟩ = false := own_free h.gr hgo (i * 3)
  have hi2 : (i : Int) < (l.length : Int) := by omega
  obtain ⟨y, hy⟩ : ∃ y, (grpAt l i).fb = y := ⟨_, rfl⟩
  have hgc' : w.cell? ⟨g, i * 3, none⟩ = some (.int .i64 y) := by rw [← hy]; exact hgc
  rw [hy] at hb0 hb1 ⊢
  have hst2 := h.st.set 5 (.int .i64 (x.fb + n))
  have hgr2 := own_setC h.gr (i * 3) (.int .i64 (y + n))
  rw [gcells_set _ _ _ hi] at hgr2
  have HD := Aside0.mk h
  have HST := Aside0.mk h.st
  have HGR := Aside0.mk (show OwnG (w.setCell ⟨g, i * 3, none⟩ (.int .i64 (y + n))) 0 (.slice (some ⟨g, 0, none⟩) l.length c) (setFb l i (y + n)) by
    unfold OwnG; rw [setFb_length]; exact hgr2)
  have HLT := Aside0.mk (And.intro h.st.lt (own_lt h.gr g hgo))
  have HGO := Aside0.mk hgo
  clear hA hA2 hA3 hgc hst2 hgr2 h hgo
  obtain ⟨m, hm⟩ : ∃ m, l.length = m := ⟨_, rfl⟩
  rw [hm] at c10 hi2 HGO HGR hlc ⊢
  have hne2 : k0 ≠ g := fun e => hne e.symm
  go_enter Tryz.func72, Tryz.ntmps72
  go_wp2
  go_end0
  have hm1 := (Mod.refl w (fun k => k = g)).set_own (i * 3) (.int .i64 (y + n))
  have hst1 := HST.out.mod hm1 (fun e => hne e.symm)
  have hst2 := hst1.set 5 (.int .i64 (x.fb + n))
  have hm2 := (Mod.refl (w.setCell ⟨g, i * 3, none⟩ (.int .i64 (y + n))) (fun k => k = k0)).set_own 5 (.int .i64 (x.fb + n))
  have hD := HD.out
  rw [hm] at hst2 hD
  refine ⟨rfl, ⟨hst2, own_mod HGR.out hm2 (fun g' hg' e => ?_), hD.nk, hD.ng⟩, (hm1.mono (fun k _ e => .inr (by rw [e]; exact HGO.out))).trans (hm2.mono (fun k _ e => .inl e)) (fun _ _ e => e)⟩
  rw [HGO.out] at hg'
  cases hg'
  exact hne e
end Go.Proofs.YtkmhilhfmfmckaaGreatDoor.Hand
