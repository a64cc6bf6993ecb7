/- Own texts and printed words of the kit, put together and trimmed by a program of mine (merge.py). -/
import Derived.Test.YtkmhilhfmfmckaaGreatDoorR01
import Derived.WalkSmall
import Derived.Recover
import Derived.Defers
import Derived.Laws.Pointers
import Derived.StillTailTactics
import Derived.Shelf.Abstract
import Derived.Laws.CopyOwn
import Derived.Laws.IdiomCopy
import Derived.Laws.MakeOwn
import Derived.Lib.ConvBytes
import Derived.Lib.Strings
import Derived.Lib.Bytealg
import Derived.Laws.StandIn
import Derived.Laws.AppendOwnNone
import Derived.Lib.AppendStr
namespace Go.Proofs.YtkmhilhfmfmckaaGreatDoor.Hand
set_option linter.unusedSimpArgs false
set_option linter.unusedVariables false
open Go.RowKit Go.Proofs.YtkmhilhfmfmckaaGreatDoorW.PrintWords Go.Proofs.YtkmhilhfmfmckaaGreatDoorW.PrintLast Go.Proofs.YtkmhilhfmfmckaaGreatDoorW.PrintMore
def num1 (y : Int) (x : Int) (k : Nat) : Int := Go.bits .or .u64 y (IntKind.u64.wrap (IntKind.u64.wrap x * 2 ^ (8 * k)))
def numK (l : List Int) : Nat → Int
 | 0 => 0
 | k + 1 => num1 (numK l k) (l.getD k 0) k
def numI (l : List Int) : Int := numK l l.length
theorem bits_u64 (o : BinOp) (a b : Int) : 0 ≤ Go.bits o .u64 a b ∧ Go.bits o .u64 a b < 18446744073709551616 := by
 have h : ∀ n : Int, 0 ≤ IntKind.u64.wrap n ∧ IntKind.u64.wrap n < 18446744073709551616 := fun n => by simp only [IntKind.wrap, IntKind.bits, IntKind.signed]; simp; omega
 cases o <;> simp only [Go.bits] <;> exact h _
theorem numK_range (l : List Int) (k : Nat) : 0 ≤ numK l k ∧ numK l k < 18446744073709551616 := by
 cases k with
 | zero => exact ⟨by simp [numK], by simp [numK]⟩
 | succ k =>
  simp only [numK, num1]
  exact bits_u64 _ _ _
set_option maxHeartbeats 1000000 in
set_option maxRecDepth 100000 in
theorem number_calls (A1 : Option Addr) (c1 : Nat) (l1 : List Int) (w : World) (hr1 : Kd.C (Kd.int .u8) w A1 l1.length l1) (h8 : l1.length ≤ 8) :
  Calls Tryz.prog 187 #[.slice A1 l1.length c1] w fun e w' => e = .returned (.int .u64 (numI l1)) ∧ w = w' := by
 have HR1 := Aside0.mk hr1
 clear hr1
 go_enter Tryz.func187, Tryz.ntmps187
 go_wp2
 go_loop [3, 8] (fun x i => ∃ (k : Nat), k ≤ l1.length ∧ x = .int .u64 (numK l1 k) ∧ i = .int .i64 k) (fun _ i => l1.length - (intOf i).toNat)
 case atStart => exact ⟨0, by omega, rfl, rfl⟩
 case round =>
  obtain ⟨k, hk, rfl, rfl⟩ := hrel
  obtain ⟨hr0, hr1⟩ := numK_range l1 k
  obtain ⟨y, hy⟩ : ∃ y, numK l1 k = y := ⟨_, rfl⟩
  rw [hy] at hr0 hr1 ⊢
  have HY := Aside0.mk hy
  clear hy
  by_cases hlt : k < l1.length
  ·obtain ⟨ad, e, hx⟩ := C_int_at HR1.out k hlt
   cases e
   go_wp2
   go_round
   case rel => exact ⟨k + 1, by omega, by rw [numK, HY.out]; simp [num1, List.getD_eq_getElem?_getD, hlt], by go_num⟩
   case measure => simp [intOf]; omega
  ·go_wp2
   go_ret
   obtain rfl : k = l1.length := by omega
   exact ⟨by unfold numI; rw [HY.out]; rfl, rfl⟩
def wrongV (c : Int) : Value := .iface 209 (.agg #[.int .i64 c])
def given (c : Int) : Ending := .panicked [{ v := wrongV c, recovered := false }]
def fitsB (n : Nat) (a k : Int) : Bool := decide (1 ≤ k) && decide (k ≤ 8) && decide (0 ≤ a) && decide (a ≤ n) && decide (k ≤ n - a)
set_option maxHeartbeats 1000000 in
set_option maxRecDepth 100000 in
theorem part_fits (A : Option Addr) (n c : Nat) (a k : Int) (w : World) (hc : n ≤ c) (h1 : 1 ≤ k) (h8 : k ≤ 8) (h0 : 0 ≤ a) (hle : a ≤ n) (hsub : k ≤ n - a) (hn : n ≤ 9223372036854775807) :
  Calls Tryz.prog 96 #[.slice A n c, .int .i64 a, .int .i64 k] w fun e w' => e = .returned (.slice (A.map (fun x => x.add a.toNat)) k.toNat (c - a.toNat)) ∧ w = w' := by
 have e1 : (a + k).toNat - a.toNat = k.toNat := by omega
 have E1 := Aside0.mk e1
 clear e1
 go_enter Tryz.func96, Tryz.ntmps96
 go_wp2
 go_ret
 exact ⟨by rw [← E1.out]; rfl, rfl⟩
set_option maxHeartbeats 2000000 in
set_option maxRecDepth 100000 in
theorem part_not (A : Option Addr) (n c : Nat) (a k : Int) (w : World) (_hn : n ≤ 9223372036854775807) (hf : fitsB n a k = false) :
  Calls Tryz.prog 96 #[.slice A n c, .int .i64 a, .int .i64 k] w fun e w' => e = given 22 ∧ w = w' := by
 unfold given wrongV
 by_cases h1 : 1 ≤ k
 ·by_cases h8 : k ≤ 8
  ·by_cases h0 : 0 ≤ a
   ·by_cases hle : a ≤ n
    ·by_cases hsub : k ≤ n - a
     ·simp [fitsB, h1, h8, h0, hle, hsub] at hf
     ·clear hf
      go_enter Tryz.func96, Tryz.ntmps96
      go_wp2
      exact ⟨rfl, rfl, rfl⟩
    ·clear hf
     go_enter Tryz.func96, Tryz.ntmps96
     go_wp2
     exact ⟨rfl, rfl, rfl⟩
   ·clear hf
    go_enter Tryz.func96, Tryz.ntmps96
    go_wp2
    exact ⟨rfl, rfl, rfl⟩
  ·clear hf
   go_enter Tryz.func96, Tryz.ntmps96
   go_wp2
   exact ⟨rfl, rfl, rfl⟩
 ·clear hf
  go_enter Tryz.func96, Tryz.ntmps96
  go_wp2
  exact ⟨rfl, rfl, rfl⟩
def leB (x : Int) (k : Nat) : Int := (x / 2 ^ (8 * k)) % 256
def layL (l : List Int) (off : Nat) (x : Int) : Nat → List Int
 | 0 => l
 | k + 1 => (layL l off x k).set (off + k) (leB x k)
theorem layL_length (l : List Int) (off : Nat) (x : Int) (k : Nat) : (layL l off x k).length = l.length := by
 induction k with
 | zero => rfl
 | succ k ih => simp [layL, ih]
set_option maxHeartbeats 2000000 in
set_option maxRecDepth 100000 in
theorem lay_fits (b off n c : Nat) (x : Int) (w : World) (l : List Int) (hb : Row w .u8 b 5 l) (h8 : n ≤ 8) (hoff : off + n ≤ l.length) (hf : n = 8 ∨ (x / 2 ^ (8 * n) != 0) = false) :
  Calls Tryz.prog 97 #[.slice (some ⟨b, off, none⟩) n c, .int .u64 x] w fun e w' => e = .returned (.tuple #[]) ∧ Row w' .u8 b 5 (layL l off x n) ∧ Mod w w' (· = b) := by
 have HB := Aside0.mk hb
 clear hb
 have hf' : (n < 8 ∧ (x / 2 ^ (8 * n) != 0) = false) ∨ n = 8 := by
  rcases hf with h | h
  ·exact .inr h
  ·by_cases h' : n < 8
   ·exact .inl ⟨h', h⟩
   ·exact .inr (by omega)
 clear hf
 obtain ⟨N_, hN⟩ : ∃ N_, N_ = n := ⟨_, rfl⟩
 have HNN := Aside0.mk hN
 clear hN
 rcases hf' with ⟨hlt, hf⟩ | rfl
 all_goals
  go_enter Tryz.func97, Tryz.ntmps97
  go_wp2
  try clear hf
  go_loopw [20] (fun i wr => ∃ (k : Nat), i = .int .i64 k ∧ Aside0 (Row wr .u8 b 5 (layL l off x k)) ∧ Aside0 (Mod w wr (· = b)) ∧ Aside0 (off + k ≤ l.length) ∧ Aside0 (k ≤ N_)) (fun i _ => 8 - (intOf i).toNat)
  case atStart => exact ⟨0, rfl, HB, ⟨Mod.refl _ _⟩, ⟨by omega⟩, ⟨Nat.zero_le _⟩⟩
  case round =>
   obtain ⟨k, rfl, HW, HM, HK, HN⟩ := hrel
   have hlen := layL_length l off x k
   have HL := Aside0.mk hlen
   clear hlen
   first | by_cases hk : k < n | by_cases hk : k < 8
   ·have hc := HW.out.cell (off + k) (by have := HK.out; have := HL.out; omega)
    have hz := HW.out.free (off + k)
    go_wp2
    refine ⟨⟨k + 1, by go_num, ⟨HW.out.set (off + k) (leB x k)⟩, ⟨HM.out.setCell (fun _ => rfl) _⟩, ⟨by omega⟩, ⟨by have := HNN.out; omega⟩⟩, by simp [intOf]; omega⟩
   ·go_wp2
    go_end0
    have e : k = N_ := Nat.le_antisymm HN.out (by have := HNN.out; omega)
    have e2 := HNN.out
    subst e
    subst e2
    exact ⟨rfl, HW.out, HM.out⟩
set_option maxHeartbeats 1000000 in
set_option maxRecDepth 100000 in
theorem try1_idle (p : Addr) (w : World) :
  CallsD Tryz.prog 151 #[.pointer (some p)] .returning w fun e u' w' => e = .returned (.tuple #[]) ∧ u' = .returning ∧ w' = w := by
 refine callsD_of_wpS Tryz.func151 rfl fun c₀ cs hu => ?_
 simp only [Tryz.ntmps151, List.size_toArray, List.length_cons, List.length_nil, Nat.reduceAdd, Nat.reduceSub, Array.replicate_succ, Array.replicate_zero, List.push_toArray, List.append_toArray, List.nil_append, List.cons_append]
 apply wpS_seq
 apply wpS_region
 simp [wpOpsS, go_sem, recoverD, hu, Exit.thenS]
 refine wpS_of_wp ?_
 go_wp2
 cases c₀
 simp_all [bodyPostS, results, Tryz.results151]
set_option maxHeartbeats 1000000 in
set_option maxRecDepth 100000 in
theorem try1_given (b : Nat) (c x : Int) (w : World) (hb : b < w.heap.size) (hc : w.cell? ⟨b, 0, none⟩ = some (.int .i64 x)) (hz : w.frozen? ⟨b, 0, none⟩ = false) :
  CallsD Tryz.prog 151 #[.pointer (some ⟨b, 0, none⟩)] (.panicking [{ v := wrongV c, recovered := false }]) w fun e u' w' =>
   e = .returned (.tuple #[]) ∧ u' = .panicking [{ v := wrongV c, recovered := true }] ∧ w' = (w.setCell ⟨b, 0, none⟩ (.int .i64 c)).alloc (.cells #[.int .i64 c] 209) := by
 unfold wrongV
 have hta : ∀ w : World, (Instr.typeAssert (.iface 209 (.agg #[.int .i64 c])) 20 209 true).run Tryz.prog w = .ok (.tuple #[.agg #[.int .i64 c], .bool true]) w := fun _ => by kernel_rfl
 refine callsD_of_wpS Tryz.func151 rfl fun c₀ cs hu => ?_
 simp only [Tryz.ntmps151, List.size_toArray, List.length_cons, List.length_nil, Nat.reduceAdd, Nat.reduceSub, Array.replicate_succ, Array.replicate_zero, List.push_toArray, List.append_toArray, List.nil_append, List.cons_append]
 apply wpS_seq
 apply wpS_region
 simp [wpOpsS, go_sem, recoverD, hu, Exit.thenS]
 refine wpS_of_wp ?_
 go_wp2
 cases c₀
 simp_all [bodyPostS, results, Tryz.results151]
set_option maxHeartbeats 1000000 in
set_option maxRecDepth 100000 in
theorem try_calls (g : FuncId) (caps : Array Value) (w : World) (R : Int → World → Prop) (hE : ∀ (args : Array Value) (w : World), (callFunc g args).run Tryz.prog w = .ok (.enter g args) w)
  (h : Calls Tryz.prog g caps (w.alloc (.cells #[.int .i64 0] 26)) fun e w1 => ∃ c, (c = 0 ∧ e = .returned (.tuple #[]) ∨ e = given c) ∧ R c w1 ∧ w1.heap[w.heap.size]? = some (.cells #[.int .i64 0] 26 (0, 0))) :
  Calls Tryz.prog 94 #[.func (.func g) #[] caps] w fun e w' => ∃ c w1, e = .returned (.int .i64 c) ∧ R c w1 ∧ Mod w1 w' (· = w.heap.size) := by
 have hmf : ∀ (fn : Fn) (first cap : Array Value) (w : World), (Instr.makeFunc fn first cap).run Tryz.prog w = .ok (.func fn first cap) w := fun _ _ _ _ => rfl
 go_enter_defers Tryz.func94, Tryz.ntmps94
 go_wp2_with fail
 refine h.mono ?_
 rintro e w1 ⟨c, (⟨rfl, rfl⟩ | rfl), hR, hb⟩
 ·dsimp only
  have hb0 := lt_of_obj hb
  have hc0 := cell_of_one hb
  have hz0 : w1.frozen? ⟨w.heap.size, 0, none⟩ = false := by simp [World.frozen?, hb]
  go_wp2
  refine leaves_cons (f := 151) (args := #[.pointer (some ⟨w.heap.size, 0, none⟩)]) (by simp) (by simp [go_sem]) ?_
  refine (try1_idle ⟨w.heap.size, 0, none⟩ _).mono ?_
  rintro e u' w'' ⟨rfl, rfl, hw⟩
  have hx : w''.cell? ⟨w.heap.size, 0, none⟩ = some (.int .i64 0) := by rw [hw]; exact World.cell?_setCell_same _ _ _ hc0
  have hM : Mod w1 w'' (· = w.heap.size) := by rw [hw]; exact (Mod.refl _ _).set_own _ _
  clear hw
  simp [Leaves, settle, results, Tryz.results94, go_sem, hx]
  exact ⟨_, hR, hM⟩
 ·unfold given
  dsimp only
  have hb0 := lt_of_obj hb
  have hc0 := cell_of_one hb
  have hz0 : w1.frozen? ⟨w.heap.size, 0, none⟩ = false := by simp [World.frozen?, hb]
  go_wp2
  refine leaves_cons (f := 151) (args := #[.pointer (some ⟨w.heap.size, 0, none⟩)]) (by simp) (by simp [go_sem]) ?_
  refine (try1_given w.heap.size c 0 _ hb0 hc0 hz0).mono ?_
  rintro e u' w'' ⟨rfl, rfl, hw⟩
  have hx : w''.cell? ⟨w.heap.size, 0, none⟩ = some (.int .i64 c) := by
   rw [hw, World.cell?_alloc_past (hn := by simpa using hb0)]
   exact World.cell?_setCell_same _ _ _ hc0
  have hM : Mod w1 w'' (· = w.heap.size) := by rw [hw]; exact ((Mod.refl _ _).set_own _ _).alloc _
  clear hw
  simp [Leaves, settle, results, Tryz.results94, go_sem, hx]
  exact ⟨_, hR, hM⟩
end Go.Proofs.YtkmhilhfmfmckaaGreatDoor.Hand
namespace Go.Proofs.YtkmhilhfmfmckaaGreatDoor.Hand
set_option linter.unusedSimpArgs false
set_option linter.unusedVariables false
open Go.Shelf Go.RowKit Go.Proofs.YtkmhilhfmfmckaaGreatDoorW.PrintWords Go.Proofs.YtkmhilhfmfmckaaGreatDoorW.PrintLast Go.Proofs.YtkmhilhfmfmckaaGreatDoorW.PrintMore
set_option maxHeartbeats 2000000 in
set_option maxRecDepth 100000 in
theorem seal1_fits (pb pn ps b n c : Nat) (s : Int) (w : World) (l : List Int) (hpb : w.cell? ⟨pb, 0, none⟩ = some (.slice (some ⟨b, 0, none⟩) (n + 4) c)) (hpn : w.cell? ⟨pn, 0, none⟩ = some (.int .i64 n)) (hps : w.cell? ⟨ps, 0, none⟩ = some (.int .u32 s))
  (hb : Row w .u8 b 5 l) (hl : n + 4 ≤ l.length) (hlm : l.length ≤ 9223372036854775807) (hc : n + 4 ≤ c) (hm : n + 4 ≤ 9223372036854775807) (hs0 : 0 ≤ s) (hs1 : s < 4294967296) :
  Calls Tryz.prog 95 #[.pointer (some ⟨pb, 0, none⟩), .pointer (some ⟨pn, 0, none⟩), .pointer (some ⟨ps, 0, none⟩)] w fun e w' => e = .returned (.tuple #[]) ∧ Row w' .u8 b 5 (layL l n (crcI s (l.take n)) 4) ∧ Mod w w' (· = b) := by
 have HB := Aside0.mk hb
 have hR := C_int_pre (hb.reads (by omega)) n (by omega)
 have HR := Aside0.mk hR
 clear hb hR
 have hcr : Calls Tryz.prog 98 #[.int .u32 s, .slice (some ⟨b, 0, none⟩) n c] w.drew fun e w' => e = .returned (.int .u32 (crcI s (l.take n))) ∧ w' = w.drew := by
  have hr := HR.out.heap_eq (w1 := w.drew) rfl
  have hn : (l.take n).length = n := by simp; omega
  have := crc_calls s (some ⟨b, 0, none⟩) c (l.take n) w.drew (by rw [hn]; exact hr) hs0 hs1
  rw [hn] at this
  exact this.mono fun e w' h => ⟨h.1, h.2.symm⟩
 have hnc : n ≤ c := by omega
 obtain ⟨hcb0, hcb1⟩ := crcI_range s (l.take n)
 obtain ⟨q, hq⟩ : ∃ q, crcI s (l.take n) = q := ⟨_, rfl⟩
 rw [hq] at hcb0 hcb1 hcr ⊢
 clear hq
 have hq0 : (q / 2 ^ (8 * 4) != 0) = false := by
  have : q / 2 ^ (8 * 4) = 0 := by omega
  rw [this]; rfl
 have HQ := Aside0.mk hq0
 clear hq0
 go_enter Tryz.func95, Tryz.ntmps95
 go_wp2_with (go_at_call 96; refine (part_fits _ _ _ _ _ _ hc (by omega) (by omega) (by omega) (by omega) (by omega) (by omega)).mono ?_; rintro e w' ⟨rfl, rfl⟩)
 go_still_tail 7, (by kernel_rfl)
 still_call hcr
 clear hcr hpb hpn hps
 repeat still_step
 refine wpStill_nil ?_
 have HB2 : Aside0 (Row w.drew .u8 b 5 l) := HB
 have HM2 : Aside0 (Mod w w.drew (· = b)) := ⟨(Mod.refl _ _).drew⟩
 change wpList _ _ _ _ _ w.drew
 generalize w.drew = w2 at HB2 HM2
 go_wp2_with (go_at_call 97; refine (lay_fits b n 4 (c - n) _ w2 l HB2.out (by omega) (by omega) (.inr HQ.out)).mono ?_; rintro e w' ⟨rfl, hr, hm⟩)
 go_end0
 exact ⟨rfl, hr, HM2.out.trans hm (fun _ _ h => h)⟩
theorem enters_seal1 : ∀ (args : Array Value) (w : World), (callFunc 95 args).run Tryz.prog w = .ok (.enter 95 args) w := enters_of Tryz.func95 (by kernel_rfl) rfl
theorem mkfunc (fn : Fn) (first cap : Array Value) (w : World) : (Instr.makeFunc fn first cap).run Tryz.prog w = .ok (.func fn first cap) w := rfl
def sealL (l : List Int) (s : Int) : List Int := layL l (l.length - 4) (crcI s (l.take (l.length - 4))) 4
set_option maxHeartbeats 2000000 in
set_option maxRecDepth 100000 in
theorem sealp_calls (b n c : Nat) (s : Int) (w : World) (l : List Int) (hb : Row w .u8 b 5 l) (hl : n + 4 ≤ l.length) (hlm : l.length ≤ 9223372036854775807) (hc : n + 4 ≤ c) (hm : n + 4 ≤ 9223372036854775807) (hs0 : 0 ≤ s) (hs1 : s < 4294967296) :
  Calls Tryz.prog 38 #[.slice (some ⟨b, 0, none⟩) (n + 4) c, .int .u32 s] w fun e w' => e = .returned (.int .i64 0) ∧ Row w' .u8 b 5 (layL l n (crcI s (l.take n)) 4) ∧ Mod w w' (· = b) := by
 have HB := Aside0.mk hb
 have hblt := hb.lt
 have HL := Aside0.mk hl
 have HLM := Aside0.mk hlm
 clear hb hl hlm
 have hmf := mkfunc
 go_enter Tryz.func38, Tryz.ntmps38
 go_wp2_with fail
 refine (try_calls 95 _ _ (fun c w1 => c = 0 ∧ Row w1 .u8 b 5 (layL l n (crcI s (l.take n)) 4) ∧ Mod w w1 (· = b)) enters_seal1 ?_).mono ?_
 ·refine (seal1_fits w.heap.size (w.heap.size + 1 + 1) (w.heap.size + 1) b n c s _ l (by simp [go_sem]) (by simp [go_sem]) (by simp [go_sem]) ?_ HL.out HLM.out hc hm hs0 hs1).mono ?_
  ·exact HB.out.mod (((((Mod.refl w (fun _ => False)).alloc _).alloc _).alloc _).alloc _) (fun h => h)
  ·rintro e w1 ⟨rfl, hr, hm⟩
   refine ⟨0, .inl ⟨rfl, rfl⟩, ⟨rfl, hr, (((((Mod.refl w (· = b)).alloc _).alloc _).alloc _).alloc _).trans hm (fun _ _ h => h)⟩, ?_⟩
   exact hm.obj (alloc_last _ _) (by simp; omega)
 ·rintro e w' ⟨cc, w1, rfl, ⟨rfl, hr, hm⟩, hm2⟩
  dsimp only
  go_wp2
  go_ret
  simp only [World.size_alloc] at hm2
  exact ⟨rfl, hr.mod hm2 (by omega), hm.trans hm2 (fun i hi h => by omega)⟩
theorem seal_calls (b n c : Nat) (s : Int) (w : World) (l : List Int) (hb : Row w .u8 b 5 l) (hl : l.length = n + 4) (hc : n + 4 ≤ c) (hm : n + 4 ≤ 9223372036854775807) (hs0 : 0 ≤ s) (hs1 : s < 4294967296) :
  Calls Tryz.prog 38 #[.slice (some ⟨b, 0, none⟩) (n + 4) c, .int .u32 s] w fun e w' => e = .returned (.int .i64 0) ∧ Row w' .u8 b 5 (sealL l s) ∧ Mod w w' (· = b) := by
 have := sealp_calls b n c s w l hb (by omega) (by omega) hc hm hs0 hs1
 have hn : l.length - 4 = n := by omega
 unfold sealL
 rw [hn]
 exact this
def getI (l : List Int) (a k : Int) : Int × Int := if fitsB l.length a k = true then (numI ((l.drop a.toNat).take k.toNat), 0) else (0, 22)
theorem enters_get1 : ∀ (args : Array Value) (w : World), (callFunc 193 args).run Tryz.prog w = .ok (.enter 193 args) w := enters_of Tryz.func193 (by kernel_rfl) rfl
set_option maxHeartbeats 2000000 in
set_option maxRecDepth 100000 in
theorem get1_fits (pb pa pn px c : Nat) (A : Option Addr) (a k : Int) (w : World) (l : List Int) (hpb : w.cell? ⟨pb, 0, none⟩ = some (.slice A l.length c)) (hpa : w.cell? ⟨pa, 0, none⟩ = some (.int .i64 a)) (hpn : w.cell? ⟨pn, 0, none⟩ = some (.int .i64 k)) (hpx : Row w .u64 px 163 [0])
  (hr : Kd.C (Kd.int .u8) w A l.length l) (hc : l.length ≤ c) (h1 : 1 ≤ k) (h8 : k ≤ 8) (h0 : 0 ≤ a) (hle : a ≤ l.length) (hsub : k ≤ l.length - a) :
  Calls Tryz.prog 193 #[.pointer (some ⟨pb, 0, none⟩), .pointer (some ⟨pa, 0, none⟩), .pointer (some ⟨pn, 0, none⟩), .pointer (some ⟨px, 0, none⟩)] w fun e w' => e = .returned (.tuple #[]) ∧ Row w' .u64 px 163 [numI ((l.drop a.toNat).take k.toNat)] ∧ Mod w w' (· = px) := by
 have HR := Aside0.mk hr
 have HX := Aside0.mk hpx
 have hm := (C_int_len hr).2
 have hn : (l.drop a.toNat).length = l.length - a.toNat := by simp
 have hn2 : ((l.drop a.toNat).take k.toNat).length = k.toNat := by simp; omega
 have HN := Aside0.mk hn2
 have hp : Kd.C (Kd.int .u8) w (A.map (fun x => x.add a.toNat)) k.toNat ((l.drop a.toNat).take k.toNat) := by
  obtain ⟨ad, rfl, _⟩ := C_int_at hr a.toNat (by omega)
  exact C_int_part hr a.toNat k.toNat (by omega)
 have hnum := number_calls (A.map (fun x => x.add a.toNat)) (c - a.toNat) ((l.drop a.toNat).take k.toNat) w (by rw [hn2]; exact hp) (by omega)
 rw [hn2] at hnum
 have hx0 := HX.out.cell 0 (by simp)
 have hz0 := HX.out.free 0
 obtain ⟨q, hq⟩ : ∃ q, numI ((l.drop a.toNat).take k.toNat) = q := ⟨_, rfl⟩
 rw [hq] at hnum ⊢
 have HNU := Aside0.mk hnum
 clear hr hpx hn hn2 hp hnum hq
 go_enter Tryz.func193, Tryz.ntmps193
 go_wp2_with (first | (go_at_call 96; refine (part_fits _ _ _ _ _ _ hc h1 h8 h0 hle hsub hm).mono ?_; rintro e w' ⟨rfl, rfl⟩) | (go_at_call 187; refine HNU.out.mono ?_; rintro e w' ⟨rfl, rfl⟩))
 go_end0
 exact ⟨rfl, HX.out.set 0 q, (Mod.refl _ _).set_own _ _⟩
set_option maxHeartbeats 2000000 in
set_option maxRecDepth 100000 in
theorem get1_not (pb pa pn px n c : Nat) (A : Option Addr) (a k : Int) (w : World) (hpb : w.cell? ⟨pb, 0, none⟩ = some (.slice A n c)) (hpa : w.cell? ⟨pa, 0, none⟩ = some (.int .i64 a)) (hpn : w.cell? ⟨pn, 0, none⟩ = some (.int .i64 k))
  (hm : n ≤ 9223372036854775807) (hf : fitsB n a k = false) :
  Calls Tryz.prog 193 #[.pointer (some ⟨pb, 0, none⟩), .pointer (some ⟨pa, 0, none⟩), .pointer (some ⟨pn, 0, none⟩), .pointer (some ⟨px, 0, none⟩)] w fun e w' => e = given 22 ∧ w = w' := by
 have HF := Aside0.mk hf
 clear hf
 go_enter Tryz.func193, Tryz.ntmps193
 go_wp2_with fail
 refine (part_not _ _ _ _ _ _ hm HF.out).mono ?_
 rintro e w' ⟨rfl, rfl⟩
 unfold given
 dsimp only
 go_wp2
 exact ⟨rfl, rfl, rfl⟩
set_option maxHeartbeats 2000000 in
set_option maxRecDepth 100000 in
theorem get_calls (A : Option Addr) (c : Nat) (a k : Int) (w : World) (l : List Int) (hr : Kd.C (Kd.int .u8) w A l.length l) (hc : l.length ≤ c) :
  Calls Tryz.prog 186 #[.slice A l.length c, .int .i64 a, .int .i64 k] w fun e w' => e = .returned (.tuple #[.int .u64 (getI l a k).1, .int .i64 (getI l a k).2]) ∧ Below w.heap.size w w' := by
 have HR := Aside0.mk hr
 have hm := (C_int_len hr).2
 clear hr
 have hmf := mkfunc
 cases hf : fitsB l.length a k
 ·have e1 : getI l a k = (0, 22) := by unfold getI; rw [hf]; rfl
  rw [e1]
  have HF := Aside0.mk hf
  clear hf e1
  go_enter Tryz.func186, Tryz.ntmps186
  go_wp2_with fail
  refine (try_calls 193 _ _ (fun c' w1 => c' = 22 ∧ Row w1 .u64 (w.heap.size + 1 + 1 + 1) 163 [0] ∧ Below w.heap.size w w1) enters_get1 ?_).mono ?_
  ·refine (get1_not w.heap.size (w.heap.size + 1) (w.heap.size + 1 + 1) (w.heap.size + 1 + 1 + 1) l.length c A a k _ (by simp [go_sem]) (by simp [go_sem]) (by simp [go_sem]) hm HF.out).mono ?_
   rintro e w1 ⟨rfl, rfl⟩
   refine ⟨22, .inr rfl, ⟨rfl, ?_, ?_⟩, alloc_last _ _⟩
   ·refine ⟨[], ?_⟩
    rw [alloc_old _ _ _ (by simp)]
    exact alloc_at _ _ _ (by simp)
   ·repeat (first | exact Below.refl _ _ | apply below_alloc)
  ·rintro e w' ⟨cc, w1, rfl, ⟨rfl, hx, hm1⟩, hm2⟩
   dsimp only
   simp only [World.size_alloc] at hm2
   have hx2 := hx.mod hm2 (by omega)
   have hb2 : Below w.heap.size w w' := ((Mod.of_below hm1 (fun _ => False)).trans hm2 (fun i hi h => by omega)).to_below (fun _ _ h => h)
   have hx0 := hx2.cell 0 (by simp)
   have hz0 := hx2.free 0
   have hbl := hx2.lt
   have HX := Aside0.mk hx2
   clear hx hx2
   go_wp2
   have hx3 := (HX.out.set 0 0).cell 0 (by simp)
   refine bodyPost_ret (v := .tuple #[.int .u64 0, .int .i64 22]) ?_ rfl ⟨rfl, ?_⟩
   ·generalize w'.setCell ⟨w.heap.size + 1 + 1 + 1, 0, none⟩ (.int .u64 0) = W at hx3
    simp at hx3
    simp [results, Tryz.results186, go_sem, hx3]
   ·exact ((Mod.of_below hb2 (fun _ => False)).set_new (by omega) _ _).to_below (fun _ _ h => h)
 ·have e1 : getI l a k = (numI ((l.drop a.toNat).take k.toNat), 0) := by unfold getI; rw [hf]; rfl
  rw [e1]
  simp only [fitsB, Bool.and_eq_true, decide_eq_true_eq] at hf
  obtain ⟨⟨⟨⟨f1, f8⟩, f0⟩, fle⟩, fsub⟩ := hf
  obtain ⟨q, hq⟩ : ∃ q, numI ((l.drop a.toNat).take k.toNat) = q := ⟨_, rfl⟩
  have HQ := Aside0.mk hq
  rw [hq]
  clear e1 hq
  go_enter Tryz.func186, Tryz.ntmps186
  go_wp2_with fail
  refine (try_calls 193 _ _ (fun c' w1 => c' = 0 ∧ Row w1 .u64 (w.heap.size + 1 + 1 + 1) 163 [q] ∧ Below w.heap.size w w1) enters_get1 ?_).mono ?_
  ·refine (get1_fits w.heap.size (w.heap.size + 1) (w.heap.size + 1 + 1) (w.heap.size + 1 + 1 + 1) c A a k _ l (by simp [go_sem]) (by simp [go_sem]) (by simp [go_sem]) ?_ ?_ hc f1 f8 f0 fle fsub).mono ?_
   ·refine ⟨[], ?_⟩
    rw [alloc_old _ _ _ (by simp)]
    exact alloc_at _ _ _ (by simp)
   ·refine Kd.C_below HR.out ?_
    repeat (first | exact Below.refl _ _ | apply below_alloc)
   rintro e w1 ⟨rfl, hr1, hm1⟩
   rw [HQ.out] at hr1
   refine ⟨0, .inl ⟨rfl, rfl⟩, ⟨rfl, hr1, ?_⟩, ?_⟩
   ·refine ((Mod.of_below ?_ (fun _ => False)).trans hm1 (fun i hi h => by omega)).to_below (fun _ _ h => h)
    repeat (first | exact Below.refl _ _ | apply below_alloc)
   ·exact hm1.obj (alloc_last _ _) (by simp)
  ·rintro e w' ⟨cc, w1, rfl, ⟨rfl, hx, hm1⟩, hm2⟩
   dsimp only
   simp only [World.size_alloc] at hm2
   have hx2 := hx.mod hm2 (by omega)
   have hb2 : Below w.heap.size w w' := ((Mod.of_below hm1 (fun _ => False)).trans hm2 (fun i hi h => by omega)).to_below (fun _ _ h => h)
   have hx0 := hx2.cell 0 (by simp)
   have hz0 := hx2.free 0
   have hbl := hx2.lt
   have HX := Aside0.mk hx2
   clear hx hx2
   go_wp2
   have hx3 := (HX.out.set 0 q).cell 0 (by simp)
   refine bodyPost_ret (v := .tuple #[.int .u64 q, .int .i64 0]) ?_ rfl ⟨rfl, ?_⟩
   ·generalize w'.setCell ⟨w.heap.size + 1 + 1 + 1, 0, none⟩ (.int .u64 q) = W at hx3
    simp at hx3
    simp [results, Tryz.results186, go_sem, hx3]
   ·exact ((Mod.of_below hb2 (fun _ => False)).set_new (by omega) _ _).to_below (fun _ _ h => h)
end Go.Proofs.YtkmhilhfmfmckaaGreatDoor.Hand
namespace Go.Proofs.YtkmhilhfmfmckaaGreatDoor.Hand
set_option linter.unusedSimpArgs false
set_option linter.unusedVariables false
open Go.RowKit Go.Proofs.YtkmhilhfmfmckaaGreatDoorW.PrintWords Go.Proofs.YtkmhilhfmfmckaaGreatDoorW.PrintLast Go.Proofs.YtkmhilhfmfmckaaGreatDoorW.PrintMore
section
variable {P : Program} {md : Region.Mode} {ops : Array Oper} {Q : Exit → Act → World → Prop} {S : World → Prop} {ds : List Nat}
def flg (n i : Nat) : Array Bool := (List.replicate i true ++ List.replicate (n - i) false).toArray
def ordB (md : Region.Mode) (ops : Array Oper) (ds : List Nat) (n : Nat) : Nat → List Nat → Bool
 | i, [] => Region.ready md ops (flg n i) == []
 | i, k :: r => (match k with
   | 0 => anyB md ops (flg n i) (flg n (i + 1)) i
   | 1 => takeB md ops ds (flg n i) (flg n (i + 1)) i
   | 2 => readyB md ops (flg n i) (flg n (i + 1)) i && !(ds.contains i)
   | _ => readyB md ops (flg n i) (flg n (i + 1)) i && ds.contains i) && ordB md ops ds n (i + 1) r
def wpOut (P : Program) (ops : Array Oper) (Q : Exit → Act → World → Prop) : List Nat → List Oper → Act → World → Prop
 | 0 :: ks, o :: r, a, w => ∃ v, Yields P ops o v a ∧ wpOut P ops Q ks r (a.put o.dst v) w
 | 1 :: _, _ :: _, _, _ => False
 | 2 :: _, _ :: _, _, _ => False
 | (_ + 3) :: ks, o :: r, a, w => ∀ K : Act → World → Prop, Shut (∀ a' w', wpOut P ops Q ks r a' w' → K a' w') → if Region.wanted o (yielded ops a.tmps) = true then Oper.wp P o a w K Q else K (a.put o.dst undef) w
 | _, _, a, w => Q .normal a w
def wpIn (P : Program) (ops : Array Oper) (Q : Exit → Act → World → Prop) (S : World → Prop) : List Nat → List Oper → Act → World → Prop
 | 0 :: ks, o :: r, a, w => ∃ v, Yields P ops o v a ∧ wpIn P ops Q S ks r (a.put o.dst v) w
 | 1 :: ks, o :: r, a, w => ∃ v, YieldsIf P ops S o v a ∧ wpIn P ops Q S ks r (a.put o.dst v) w
 | 2 :: ks, o :: r, a, w => ∀ K : Act → World → Prop, Shut (∀ a' w', S w' → wpIn P ops Q S ks r a' w' → K a' w') → if Region.wanted o (yielded ops a.tmps) = true then Oper.wp P o a w K Q else K (a.put o.dst undef) w
 | (_ + 3) :: ks, o :: r, a, w => ∀ K : Act → World → Prop, Shut (∀ a' w', wpOut P ops Q ks r a' w' → K a' w') → if Region.wanted o (yielded ops a.tmps) = true then Oper.wp P o a w K Q else K (a.put o.dst undef) w
 | _, _, a, w => Q .normal a w
theorem put_panic (hQ : ∀ c (a : Act) t w, Q (.panic c) { a with tmps := t } w → Q (.panic c) a w) (d : Option Tmp) (v : Value) : ∀ c a w, Q (.panic c) (a.put d v) w → Q (.panic c) a w := by
 intro c a w h
 cases d with
 | none => exact h
 | some d => exact hQ c a _ w h
theorem wpOut_sound (hQ : ∀ c (a : Act) t w, Q (.panic c) { a with tmps := t } w → Q (.panic c) a w) (ks : List Nat) :
  ∀ (i : Nat) (r : List Oper) (a : Act) (w : World), ks.length = r.length → i + r.length = ops.size → (∀ j, r[j]? = ops[i + j]?) → ordB md ops ds ops.size i ks = true → wpOut P ops Q ks r a w →
   wpAnyLast P md ops Q S ds r.length (flg ops.size i) a w := by
 induction ks with
 | nil =>
  intro i r a w hl _ _ ho h
  cases r with
  | cons => simp at hl
  | nil => exact done_ ho (by simpa [wpOut] using h)
 | cons k ks ih =>
  intro i r a w hl hn hr ho h
  cases r with
  | nil => simp at hl
  | cons o r =>
   have hi : ops[i]? = some o := by have := hr 0; simpa using this.symm
   have hr' : ∀ j, r[j]? = ops[i + 1 + j]? := fun j => by have := hr (j + 1); rw [show i + 1 + j = i + (j + 1) by omega]; simpa using this
   have hl' : ks.length = r.length := by simpa using hl
   have hn' : i + 1 + r.length = ops.size := by simp at hn; omega
   simp only [ordB, Bool.and_eq_true] at ho
   obtain ⟨h1, h2⟩ := ho
   match k with
   | 0 =>
    obtain ⟨v, hy, h⟩ := h
    exact pure_ _ hi rfl h1 (put_panic hQ _ _) hy rfl (ih (i + 1) r _ w hl' hn' hr' h2 h)
   | 1 => exact h.elim
   | 2 => exact h.elim
   | k + 3 =>
    simp only [Bool.and_eq_true, List.contains_eq_mem, decide_eq_true_eq] at h1
    obtain ⟨h1, h3⟩ := h1
    exact last_ _ hi rfl h1 h3 (fun K hK => h K (fun a' w' h' => hK a' w' (ih (i + 1) r a' w' hl' hn' hr' h2 h')))
theorem wpIn_sound (hQ : ∀ c (a : Act) t w, Q (.panic c) { a with tmps := t } w → Q (.panic c) a w) (ks : List Nat) :
  ∀ (i : Nat) (r : List Oper) (a : Act) (w : World), ks.length = r.length → i + r.length = ops.size → (∀ j, r[j]? = ops[i + j]?) → ordB md ops ds ops.size i ks = true → S w → wpIn P ops Q S ks r a w →
   wpAnyLast P md ops Q S ds r.length (flg ops.size i) a w := by
 induction ks with
 | nil =>
  intro i r a w hl _ _ ho _ h
  cases r with
  | cons => simp at hl
  | nil => exact done_ ho (by simpa [wpIn] using h)
 | cons k ks ih =>
  intro i r a w hl hn hr ho hS h
  cases r with
  | nil => simp at hl
  | cons o r =>
   have hi : ops[i]? = some o := by have := hr 0; simpa using this.symm
   have hr' : ∀ j, r[j]? = ops[i + 1 + j]? := fun j => by have := hr (j + 1); rw [show i + 1 + j = i + (j + 1) by omega]; simpa using this
   have hl' : ks.length = r.length := by simpa using hl
   have hn' : i + 1 + r.length = ops.size := by simp at hn; omega
   simp only [ordB, Bool.and_eq_true] at ho
   obtain ⟨h1, h2⟩ := ho
   match k with
   | 0 =>
    obtain ⟨v, hy, h⟩ := h
    exact pure_ _ hi rfl h1 (put_panic hQ _ _) hy rfl (ih (i + 1) r _ w hl' hn' hr' h2 hS h)
   | 1 =>
    obtain ⟨v, hy, h⟩ := h
    exact take_ _ hi rfl h1 (put_panic hQ _ _) hy hS rfl (ih (i + 1) r _ w hl' hn' hr' h2 hS h)
   | 2 =>
    simp only [Bool.and_eq_true, Bool.not_eq_true', List.contains_eq_mem, decide_eq_false_iff_not] at h1
    obtain ⟨h1, h3⟩ := h1
    exact one_ _ hi rfl h1 h3 (fun K hK => h K (fun a' w' hS' h' => hK a' w' hS' (fun hS'' => ih (i + 1) r a' w' hl' hn' hr' h2 hS' h')))
   | k + 3 =>
    simp only [Bool.and_eq_true, List.contains_eq_mem, decide_eq_true_eq] at h1
    obtain ⟨h1, h3⟩ := h1
    exact last_ _ hi rfl h1 h3 (fun K hK => h K (fun a' w' h' => hK a' w' (wpOut_sound hQ ks (i + 1) r a' w' hl' hn' hr' h2 h')))
theorem wp_region_in {id : Nat} {l : List Oper} {a : Act} {w : World} (ks : List Nat) (ds : List Nat) (S : World → Prop) (hm : P.follows .mixedOrders = true) (hl : ks.length = l.length) (ho : ordB .any l.toArray ds l.toArray.size 0 ks = true)
  (hQ : ∀ c (a : Act) t w, Q (.panic c) { a with tmps := t } w → Q (.panic c) a w) (hS : S w.drew) (h : wpIn P l.toArray Q S ks l a w.drew) : (Code.region id l.toArray true).wp P Q a w := by
 refine start_ (S := S) (ds := ds) _ hm rfl rfl hS (fun _ => ?_)
 have := wpIn_sound (P := P) (md := .any) (ops := l.toArray) (S := S) (ds := ds) hQ ks 0 l a w.drew hl (by simp) (fun j => by simp) ho hS h
 have e : flg l.toArray.size 0 = Array.replicate l.toArray.size false := by simp [flg]
 rw [e] at this
 exact this
variable {o : Oper} {r : List Oper} {ks : List Nat} {a : Act} {w : World}
theorem in_off0 (hw : Region.wanted o (yielded ops a.tmps) = false) (h : wpIn P ops Q S ks r (a.put o.dst undef) w) : wpIn P ops Q S (0 :: ks) (o :: r) a w := ⟨undef, .inr ⟨hw, rfl⟩, h⟩
theorem in_off1 (hw : Region.wanted o (yielded ops a.tmps) = false) (h : wpIn P ops Q S ks r (a.put o.dst undef) w) : wpIn P ops Q S (1 :: ks) (o :: r) a w := ⟨undef, .inr ⟨hw, rfl⟩, h⟩
theorem in_off2 (hS : S w) (hw : Region.wanted o (yielded ops a.tmps) = false) (h : wpIn P ops Q S ks r (a.put o.dst undef) w) : wpIn P ops Q S (2 :: ks) (o :: r) a w := by
 intro K hK
 rw [if_neg (by rw [hw]; simp)]
 exact hK _ _ hS h
theorem in_0 {v : Value} {N : Option Tmp} (hw : Region.wanted o (yielded ops a.tmps) = true) (hN : o.dst = N) (hy : ∀ w, (execOp a.eval o).run P w = .ok (.value v) w) {a' : Act} (ha : a.put N v = a') (h : wpIn P ops Q S ks r a' w) : wpIn P ops Q S (0 :: ks) (o :: r) a w :=
 ⟨v, .inl ⟨hw, hy⟩, by rw [hN, ha]; exact h⟩
theorem in_1 {v : Value} {N : Option Tmp} (hw : Region.wanted o (yielded ops a.tmps) = true) (hN : o.dst = N) (hy : ∀ w, S w → (execOp a.eval o).run P w = .ok (.value v) w) {a' : Act} (ha : a.put N v = a') (h : wpIn P ops Q S ks r a' w) : wpIn P ops Q S (1 :: ks) (o :: r) a w :=
 ⟨v, .inl ⟨hw, hy⟩, by rw [hN, ha]; exact h⟩
theorem in_2 (hw : Region.wanted o (yielded ops a.tmps) = true) (h : ∀ K : Act → World → Prop, Shut (∀ a' w', S w' → wpIn P ops Q S ks r a' w' → K a' w') → Oper.wp P o a w K Q) : wpIn P ops Q S (2 :: ks) (o :: r) a w := by
 intro K hK
 rw [if_pos hw]
 exact h K hK
theorem in_3 (hw : Region.wanted o (yielded ops a.tmps) = true) (h : ∀ K : Act → World → Prop, Shut (∀ a' w', wpOut P ops Q ks r a' w' → K a' w') → Oper.wp P o a w K Q) : wpIn P ops Q S (3 :: ks) (o :: r) a w := by
 intro K hK
 rw [if_pos hw]
 exact h K hK
theorem out_0 {v : Value} {N : Option Tmp} (hw : Region.wanted o (yielded ops a.tmps) = true) (hN : o.dst = N) (hy : ∀ w, (execOp a.eval o).run P w = .ok (.value v) w) {a' : Act} (ha : a.put N v = a') (h : wpOut P ops Q ks r a' w) : wpOut P ops Q (0 :: ks) (o :: r) a w :=
 ⟨v, .inl ⟨hw, hy⟩, by rw [hN, ha]; exact h⟩
theorem in_nil (h : Q .normal a w) : wpIn P ops Q S [] [] a w := h
theorem out_nil (h : Q .normal a w) : wpOut P ops Q [] [] a w := h
end
end Go.Proofs.YtkmhilhfmfmckaaGreatDoor.Hand
namespace Go.Proofs.YtkmhilhfmfmckaaGreatDoor.Hand
set_option linter.unusedSimpArgs false
set_option linter.unusedVariables false
open Go.Lib (toList_data)
open Go.Shelf Go.RowKit Go.Proofs.YtkmhilhfmfmckaaGreatDoorW.PrintWords Go.Proofs.YtkmhilhfmfmckaaGreatDoorW.PrintLast Go.Proofs.YtkmhilhfmfmckaaGreatDoorW.PrintMore
theorem infoU8 : (Tryz.prog.info? 5).map (fun i => (i.zero, i.size, i.bytes)) = some (some (.int .u8 0), 1, 1) := by kernel_rfl
def pad (l : List Int) : List Int := l ++ List.replicate (256 - l.length) 0
theorem pad_eq (l : List Int) (n : Nat) : List.take 0 (List.replicate n (0 : Int)) ++ List.take l.length l ++ List.drop (0 + l.length) (List.replicate n 0) = l ++ List.replicate (n - l.length) 0 := by
 rw [List.take_zero, List.take_length, List.drop_replicate, Nat.zero_add, List.nil_append]
theorem pad_length (l : List Int) (h : l.length ≤ 256) : (pad l).length = 256 := by simp [pad]; omega
theorem copy_run (T : TypeId) (g off dLen dCap n c : Nat) (A : Option Addr) (w : World) (l src : List Int) (hb : Row w .u8 g 5 l) (hr : Kd.C (Kd.int .u8) w A n src) (hfit : off + Nat.min n dLen ≤ l.length) :
  ∃ W, (Builtin.copy_ #[23, 23] T #[.slice (some ⟨g, off, none⟩) dLen dCap, .slice A n c]).run Tryz.prog w = .ok (.int .i64 (Nat.min n dLen : Nat)) W ∧ Row W .u8 g 5 (l.take off ++ src.take (Nat.min n dLen) ++ l.drop (off + Nat.min n dLen)) ∧ Mod w W (· = g) := by
 obtain ⟨hl, hm⟩ := C_int_len hr
 obtain ⟨m, hmm⟩ : ∃ m, Nat.min n dLen = m := ⟨_, rfl⟩
 rw [hmm] at hfit ⊢
 have hmn : m ≤ n := by rw [← hmm]; exact Nat.min_le_left _ _
 by_cases h0 : m = 0
 ·subst h0
  refine ⟨w, ?_, by simpa using hb, Mod.refl _ _⟩
  exact run_copy_none w 23 23 T 5 _ _ dLen dCap n c Tryz.underlying23 (by kernel_rfl) hmm
 ·obtain ⟨rest, hb⟩ := hb
  obtain ⟨ad, rfl, _⟩ := C_int_at hr 0 (by omega)
  have hcl : (nums .u8 (src.take m)).length = m := by simp [nums_length]; omega
  have h := run_copy_row (P := Tryz.prog) w 23 23 T 5 g off dLen dCap ad n c (nums .u8 l ++ rest).toArray 5 (nums .u8 (src.take m)) Tryz.underlying23 (by kernel_rfl) hb (by rw [hcl]; exact hmm.symm) (fun j v hj => by
    have hjl : j < m := by have := (List.getElem?_eq_some_iff.1 hj).1; omega
    obtain ⟨ad', e, hc⟩ := C_int_at hr j (by omega)
    cases e
    rw [hc, ← hj]
    simp [nums, List.getD_eq_getElem?_getD, List.getElem?_take, hjl, show j < src.length by omega]) (by rw [hcl]; simp [nums_length]; omega) (fun v hv => by
    simp only [nums, List.mem_map] at hv
    obtain ⟨x, _, rfl⟩ := hv
    rfl)
  rw [hcl] at h
  refine ⟨_, h, ?_, ?_⟩
  ·refine ⟨rest, ?_⟩
   rw [setRow_heap w g _ _ 5 _ hb]
   have e1 : List.take off (nums .u8 l ++ rest) = nums .u8 (l.take off) := by
    rw [List.take_append_of_le_length (by rw [nums_length]; omega)]
    simp [nums, List.map_take]
   have e2 : List.drop (off + m) (nums .u8 l ++ rest) = nums .u8 (l.drop (off + m)) ++ rest := by
    rw [List.drop_append_of_le_length (by rw [nums_length]; omega)]
    simp [nums, List.map_drop]
   rw [List.toList_toArray, e1, e2, nums_append, nums_append]
   simp only [List.append_assoc]
  ·refine ⟨rfl, rfl, rfl, by simp [World.setRow], fun k hk hn => ?_⟩
   have := (below_setRow (B := 0) (g := g) (Below.refl 0 w) (Nat.zero_le _) (nums .u8 (src.take m)).toArray)
   simp only [World.setRow, Array.getElem?_modify]
   rw [if_neg (fun e => hn e.symm)]
theorem make256 (w : World) : (Instr.makeSlice 23 (.int .i64 256) (.int .i64 256)).run Tryz.prog w = .ok (.slice (some ⟨w.heap.size, 0, none⟩) 256 256) (w.alloc (.cells (nums .u8 (List.replicate 256 0)).toArray 5)) := by kernel_rfl
def noughts (w : World) : World := w.alloc (.cells (nums .u8 (List.replicate 256 0)).toArray 5)
def allB (l : List Int) : Prop := ∀ x ∈ l, 0 ≤ x ∧ x < 256
instance (l : List Int) : Decidable (allB l) := by unfold allB; infer_instance
theorem allB_get {l : List Int} (h : allB l) (j : Nat) : 0 ≤ l.getD j 0 ∧ l.getD j 0 < 256 := by
 rw [List.getD_eq_getElem?_getD]
 cases hj : l[j]? with
 | none => simp
 | some x => exact h x (List.mem_of_getElem? hj)
theorem allB_drop {l : List Int} (h : allB l) (j : Nat) : allB (l.drop j) := fun x hx => h x (List.mem_of_mem_drop hx)
theorem allB_take {l : List Int} (h : allB l) (j : Nat) : allB (l.take j) := fun x hx => h x (List.mem_of_mem_take hx)
theorem allB_set {l : List Int} (h : allB l) (i : Nat) (x : Int) (hx : 0 ≤ x ∧ x < 256) : allB (l.set i x) := fun y hy => by
 rcases List.mem_or_eq_of_mem_set hy with h' | rfl
 ·exact h y h'
 ·exact hx
theorem allB_append {l m : List Int} (h : allB l) (h' : allB m) : allB (l ++ m) := fun y hy => by
 rcases List.mem_append.1 hy with h1 | h1
 ·exact h y h1
 ·exact h' y h1
theorem allB_lay {l : List Int} (h : allB l) (off : Nat) (x : Int) (k : Nat) : allB (layL l off x k) := by
 induction k with
 | zero => exact h
 | succ k ih => exact allB_set ih _ _ (by unfold leB; omega)
theorem allB_bytes (s : ByteArray) : allB (bytesOf s) := fun y hy => by
 unfold bytesOf at hy
 obtain ⟨b, _, rfl⟩ := List.mem_map.1 hy
 have := b.toNat_lt
 omega
theorem allB_pad {l : List Int} (h : allB l) : allB (pad l) := allB_append h fun y hy => by rw [List.eq_of_mem_replicate hy]; omega
theorem strOf_bytes {l : List Int} (h : allB l) : bytesOf (strOfNums l) = l := by
 unfold bytesOf
 rw [strOfNums_data, List.map_map]
 conv => rhs; rw [← List.map_id l]
 refine List.map_congr_left fun x hx => ?_
 have := h x hx
 simp only [Function.comp, id]
 rw [UInt8.toNat_ofNat', Nat.mod_eq_of_lt (by omega)]
 omega
theorem strOf_eq {l m : List Int} (h : allB l) (h' : allB m) : ((strOfNums l).toList == (strOfNums m).toList) = (l == m) := by
 rw [Bool.eq_iff_iff, beq_iff_eq, beq_iff_eq, toList_data, toList_data]
 refine ⟨fun e => ?_, fun e => by rw [e]⟩
 rw [← strOf_bytes h, ← strOf_bytes h']
 unfold Go.Proofs.YtkmhilhfmfmckaaGreatDoorW.PrintWords.bytesOf
 rw [e]
set_option maxHeartbeats 2000000 in
set_option maxRecDepth 100000 in
theorem equal_calls (A B : Option Addr) (c d : Nat) (l m : List Int) (w : World) (hl : Kd.C (Kd.int .u8) w A l.length l) (hm : Kd.C (Kd.int .u8) w B m.length m) :
  Calls Tryz.prog 43 #[.slice A l.length c, .slice B m.length d] w fun e w' => e = .returned (.bool ((strOfNums l).toList == (strOfNums m).toList)) ∧ w = w' := by
 have h1 : (convert 23 9 (.slice A l.length c)).run Tryz.prog w = .ok (.string (strOfNums l)) w := Kd.C_string rfl rfl rfl hl
 have h2 : (convert 23 9 (.slice B m.length d)).run Tryz.prog w = .ok (.string (strOfNums m)) w := Kd.C_string rfl rfl rfl hm
 clear hl hm
 go_enter Tryz.func43, Tryz.ntmps43
 go_wp2
 go_ret
 exact ⟨rfl, rfl⟩
theorem below_set_new {w w1 : World} (h : Below w.heap.size w w1) {g : Nat} (hg : w.heap.size ≤ g) (j : Nat) (u : Value) : Below w.heap.size w (w1.setCell ⟨g, j, none⟩ u) :=
 ((Mod.of_below h (fun _ => False)).set_new hg _ _).to_below (fun _ _ h => h)
theorem below_mod {w w1 w2 : World} {g : Nat} (h : Below w.heap.size w w1) (hm : Mod w1 w2 (· = g)) (hg : w.heap.size ≤ g) : Below w.heap.size w w2 :=
 ((Mod.of_below h (fun _ => False)).trans hm (fun i hi h => by omega)).to_below (fun _ _ h => h)
theorem w64 {x : Int} {n : Nat} (h : x = n) (hn : n < 1000000) : wrap64 x = n := by subst h; unfold wrap64; omega
theorem list4 {L : List Int} (h : L.length = 4) : ∃ a b c d, L = [a, b, c, d] := by
 match L, h with
 | [a, b, c, d], _ => exact ⟨a, b, c, d, rfl⟩
end Go.Proofs.YtkmhilhfmfmckaaGreatDoor.Hand
namespace Go.Proofs.YtkmhilhfmfmckaaGreatDoor.Hand
set_option linter.unusedSimpArgs false
set_option linter.unusedVariables false
open Go.Shelf Go.RowKit Go.Proofs.YtkmhilhfmfmckaaGreatDoorW.PrintWords Go.Proofs.YtkmhilhfmfmckaaGreatDoorW.PrintLast Go.Proofs.YtkmhilhfmfmckaaGreatDoorW.PrintMore
structure Att where
 name : ByteArray
 val : List Int
def attAt (l : List Att) (j : Nat) : Att := l.getD j ⟨⟨#[]⟩, []⟩
structure Atts (w : World) (A : Option Addr) (l : List Att) : Prop where
 size : l.length ≤ 1125899906842624
 cells : ∀ j, j < l.length → ∃ ad Av cv, A = some ad ∧ w.cell? (ad.add (j * 2)) = some (.string (attAt l j).name) ∧ w.cell? ⟨(ad.add (j * 2)).block, (ad.add (j * 2)).off + 1, none⟩ = some (.slice Av (attAt l j).val.length cv) ∧ (attAt l j).val.length ≤ cv ∧ Kd.C (Kd.int .u8) w Av (attAt l j).val.length (attAt l j).val ∧ (Av = none → cv = 0)
theorem Atts.below {w w1 : World} {A : Option Addr} {l : List Att} (h : Atts w A l) (hb : Below w.heap.size w w1) : Atts w1 A l :=
 ⟨h.size, fun j hj => by
  obtain ⟨ad, Av, cv, e, h1, h2, h3, h4, h5⟩ := h.cells j hj
  exact ⟨ad, Av, cv, e, pw_cell_below hb h1, pw_cell_below hb h2, h3, Kd.C_below h4 hb, h5⟩⟩
def namedB (n : ByteArray) : Bool := decide (1 ≤ n.size) && decide (n.size ≤ 32) && decide (Lib.indexByte n.data.toList 0 < 0)
set_option maxHeartbeats 1000000 in
set_option maxRecDepth 100000 in
theorem indexbs_calls (s : ByteArray) (w : World) : Calls Tryz.prog 93 #[.string s, .int .u8 0] w fun e w' => e = .returned (.int .i64 (Lib.indexByte s.data.toList 0)) ∧ w = w' := by
 have h1 : Calls Tryz.prog 150 #[.string s, .int .u8 0] w fun e w' => e = .returned (.int .i64 (Lib.indexByte s.data.toList 0)) ∧ w = w' := by
  go_enter Tryz.func150, Tryz.ntmps150
  go_wp2
  rw [run_callFunc_extern Tryz.func181 (by kernel_rfl) (by kernel_rfl) (by kernel_rfl) (e := Extern.BytealgIndexByte.indexByte) (by kernel_rfl), Lib.run_indexByteString]
  simp only [Result.andThen]
  rw [Oper.upon_value]
  go_wp2
  go_ret
  exact ⟨rfl, rfl⟩
 go_enter Tryz.func93, Tryz.ntmps93
 go_wp2_with fail
 refine h1.mono ?_
 rintro e w1 ⟨rfl, rfl⟩
 dsimp only
 go_wp2
 go_ret
 exact ⟨rfl, rfl⟩
set_option maxHeartbeats 1000000 in
set_option maxRecDepth 100000 in
theorem scmp_calls (a b : ByteArray) (w : World) : Calls Tryz.prog 120 #[.string a, .string b] w fun e w' => e = .returned (.int .i64 (Lib.compareBytes a.data.toList b.data.toList)) ∧ w = w' := by
 have h1 : Calls Tryz.prog 168 #[.string a, .string b] w fun e w' => e = .returned (.int .i64 (Lib.compareBytes a.data.toList b.data.toList)) ∧ w = w' := by
  go_enter Tryz.func168, Tryz.ntmps168
  go_wp2
  rw [run_callFunc_extern Tryz.func184 (by kernel_rfl) (by kernel_rfl) (by kernel_rfl) (e := Extern.BytealgCompare.compare) (by kernel_rfl), Lib.run_compareString]
  simp only [Result.andThen]
  rw [Oper.upon_value]
  go_wp2
  go_ret
  exact ⟨rfl, rfl⟩
 go_enter Tryz.func120, Tryz.ntmps120
 go_wp2_with fail
 refine h1.mono ?_
 rintro e w1 ⟨rfl, rfl⟩
 dsimp only
 go_wp2
 go_ret
 exact ⟨rfl, rfl⟩
set_option maxHeartbeats 1000000 in
set_option maxRecDepth 100000 in
theorem named_calls (n : ByteArray) (w : World) : Calls Tryz.prog 37 #[.string n] w fun e w' => e = .returned (.bool (namedB n)) ∧ w = w' := by
 obtain ⟨x, hx⟩ : ∃ x, Lib.indexByte n.data.toList 0 = x := ⟨_, rfl⟩
 have hib := indexbs_calls n w
 unfold namedB
 rw [hx] at hib ⊢
 clear hx
 by_cases h1 : 1 ≤ n.size
 ·by_cases h2 : n.size ≤ 32
  ·go_enter Tryz.func37, Tryz.ntmps37
   go_wp2_with fail
   refine hib.mono ?_
   rintro e w1 ⟨rfl, rfl⟩
   dsimp only
   go_wp2
   go_ret
   exact ⟨by simp [h1, h2], rfl⟩
  ·go_enter Tryz.func37, Tryz.ntmps37
   go_wp2
   go_ret
   exact ⟨by simp [h1, h2], rfl⟩
 ·go_enter Tryz.func37, Tryz.ntmps37
  go_wp2
  go_ret
  exact ⟨by simp [h1], rfl⟩
section
variable {P : Program} {w w0 : World} {o : Oper} {a : Act} {K : Act → World → Prop} {Q : Exit → Act → World → Prop}
theorem wp_append_read (s x : Operand) (t e : TypeId) (ho : o.op = .call { callee := .builtin .append, args := #[s, x], argTypes := #[t, t] }) (base : Nat) (ht : P.underlying t = some (.slice e)) (hinfo : (P.info? e).map (fun i => (i.zero, i.size, i.bytes)) = some (some (.int .u8 0), 1, 1))
  (v : Value) (xs ys : List Int) (hs : a.eval s = v) (HO : Own w base e .u8 v xs) (HB : Below base w0 w) (hbase : base ≤ w.heap.size) (Av : Option Addr) (cv : Nat) (hx : a.eval x = .slice Av ys.length cv) (hc : Kd.C (Kd.int .u8) w Av ys.length ys) (hn : Av = none → cv = 0) (hl : xs.length + ys.length ≤ 1000000000)
  (h : ∀ v1 w1, Own w1 base e .u8 v1 (xs ++ ys) → Below base w0 w1 → w.grownBy w1 v.ownBlock → K (a.put o.dst v1) w1) : o.wp P a w K Q := by
 cases Av with
 | none =>
  have hy : ys = [] := by
   by_cases hz : 0 < ys.length
   ·obtain ⟨ad, e, _⟩ := C_int_at hc 0 hz
    cases e
   ·exact List.eq_nil_of_length_eq_zero (by omega)
  subst hy
  have hc0 := hn rfl
  subst hc0
  obtain ⟨i0, hi, hzz⟩ := Option.map_eq_some_iff.1 hinfo
  have hrun := run_append_owned_none (P := P) (w := w) base t o.type e i0 1 ht hi v xs.length (nums .u8 xs) HO
  unfold Oper.wp
  simp [execOp, ho, resolve, invoke, builtin, hs, hx, hrun, Result.andThen]
  exact h v w (by rw [List.append_nil]; exact HO) HB ⟨rfl, rfl, rfl, Nat.le_refl _, fun _ _ _ => rfl⟩
 | some ad =>
  obtain ⟨i0, hi, hzz⟩ := Option.map_eq_some_iff.1 hinfo
  simp only [Prod.mk.injEq] at hzz
  obtain ⟨hz0, hz1, hz2⟩ := hzz
  refine wp_append_own _ s x t ho base e i0 (.int .u8 0) 1 1 ht hi hz0 hz1 hz2 rfl (by decide) v xs.length (nums .u8 xs) hs HO ad ys.length cv (nums .u8 ys) hx (by rw [nums_length]; omega) (fun j u hj => ?_) (fun u hu => ?_) (by simp only [maxLen]; omega) (by omega) hbase ?_
  ·have hj' : j < ys.length := by have := (List.getElem?_eq_some_iff.1 hj).1; rwa [nums_length] at this
   obtain ⟨ad', e', hcell⟩ := C_int_at hc j hj'
   cases e'
   rw [hcell]
   rw [← hj]
   simp [nums, List.getD_eq_getElem?_getD, hj']
  ·obtain ⟨z, _, rfl⟩ := List.mem_map.1 hu
   rfl
  ·intro v' w' h2 h3 _
   exact h v' w' (own_snoc h2 rfl rfl) (pw_below_grown HB _ hbase h3 (own_base HO)) h3
theorem wp_append_text (s x : Operand) (t u e : TypeId) (ho : o.op = .call { callee := .builtin .append, args := #[s, x], argTypes := #[t, u] }) (base : Nat) (ht : P.underlying t = some (.slice e)) (hu : P.underlying u = some .string) (hinfo : (P.info? e).map (fun i => (i.zero, i.size, i.bytes)) = some (some (.int .u8 0), 1, 1))
  (v : Value) (xs : List Int) (y : ByteArray) (hs : a.eval s = v) (HO : Own w base e .u8 v xs) (HB : Below base w0 w) (hbase : base ≤ w.heap.size) (hx : a.eval x = .string y) (hl : xs.length + y.size ≤ 1000000000)
  (h : ∀ v1 w1, Own w1 base e .u8 v1 (xs ++ bytesOf y) → Below base w0 w1 → w.grownBy w1 v.ownBlock → K (a.put o.dst v1) w1) : o.wp P a w K Q := by
 obtain ⟨i0, hi, hzz⟩ := Option.map_eq_some_iff.1 hinfo
 simp only [Prod.mk.injEq] at hzz
 obtain ⟨hz0, hz1, hz2⟩ := hzz
 obtain ⟨v', w', hr, h2, h3, h4⟩ := Lib.run_append_own_string (P := P) w base t u o.type e i0 ht hu hi hz0 hz1 hz2 v xs.length (nums .u8 xs) HO y (by simp only [maxLen]; omega) (by omega) hbase
 unfold Oper.wp execOp
 simp only [ho, resolve, invoke, builtin, Sem.run_bind, Sem.run_pure, Result.andThen_ok, List.map_toArray, List.map_cons, List.map_nil, hs, hx, hr]
 refine h v' w' ?_ (pw_below_grown HB _ hbase h3 (own_base HO)) h3
 exact own_snoc (ys := bytesOf y) h2 (by simp [nums, bytesOf, Lib.strCells]) (by rw [bytesOf_length])
end
def leS (a b : ByteArray) : Bool := Op.bytesLess a.toList b.toList || (a.toList == b.toList)
theorem leq_str (a b : ByteArray) (W : World) : (binOp .leq 9 (.string a) (.string b)).run Tryz.prog W = .ok (.bool (leS a b)) W := by kernel_rfl
def attOk (l : List Att) (k : Nat) : Prop := namedB (attAt l k).name = true ∧ ¬ 64 < (attAt l k).val.length ∧ (0 < k → leS (attAt l k).name (attAt l (k - 1)).name = false)
instance (l : List Att) (k : Nat) : Decidable (attOk l k) := by unfold attOk; infer_instance
def attsOk (l : List Att) : Prop := ∀ k, k < l.length → attOk l k
instance (l : List Att) : Decidable (attsOk l) := by unfold attsOk; infer_instance
def attB (x : Att) : List Int := [(x.name.size : Int) % 256, (x.val.length : Int) % 256] ++ bytesOf x.name ++ x.val
def attsB (l : List Att) : List Int := [3, (l.length : Int) % 256] ++ l.flatMap attB
def attN (l : List Att) : Nat := (l.flatMap attB).length
def xpackI (l : List Att) (s : Int) : List Int × Int := if attsOk l then (if 250 < attN l then ([], 28) else (sealL (pad (attsB l)) s, 0)) else ([], 22)
theorem attB_length (x : Att) : (attB x).length = 2 + x.name.size + x.val.length := by simp [attB, bytesOf_length]; omega
theorem attB_snoc (l : List Att) (k : Nat) (h : k < l.length) : (l.take (k + 1)).flatMap attB = (l.take k).flatMap attB ++ attB (attAt l k) := by
 unfold attAt
 rw [List.take_succ_eq_append_getElem h, List.flatMap_append]
 simp [List.getD_eq_getElem?_getD, h]
theorem attN_snoc (l : List Att) (k : Nat) (h : k < l.length) : attN (l.take (k + 1)) = attN (l.take k) + (2 + (attAt l k).name.size + (attAt l k).val.length) := by
 unfold attN
 rw [attB_snoc l k h, List.length_append, attB_length]
theorem named_size {n : ByteArray} (h : namedB n = true) : 1 ≤ n.size ∧ n.size ≤ 32 := by
 unfold namedB at h
 simp only [Bool.and_eq_true, decide_eq_true_eq] at h
 exact h.1
theorem attN_le (l : List Att) (k : Nat) (hk : k ≤ l.length) (h : ∀ j, j < k → attOk l j) : attN (l.take k) ≤ 98 * k := by
 induction k with
 | zero => simp [attN]
 | succ k ih =>
  rw [attN_snoc l k (by omega)]
  have := ih (by omega) (fun j hj => h j (by omega))
  have hk := h k (by omega)
  have := named_size hk.1
  have := hk.2.1
  omega
end Go.Proofs.YtkmhilhfmfmckaaGreatDoor.Hand
namespace Go.Proofs.YtkmhilhfmfmckaaGreatDoor.Hand
set_option linter.unusedSimpArgs false
set_option linter.unusedVariables false
open Go.RowKit Go.Proofs.YtkmhilhfmfmckaaGreatDoorW.PrintWords Go.Proofs.YtkmhilhfmfmckaaGreatDoorW.PrintLast Go.Proofs.YtkmhilhfmfmckaaGreatDoorW.PrintMore
section
variable {P : Program} {md : Region.Mode} {ops : Array Oper} {Q : Exit → Act → World → Prop} {S : World → Prop}
def ordP (md : Region.Mode) (ops : Array Oper) : Array Bool → List Nat → List Nat → Bool
 | l, i :: is, k :: ks => (match k with
   | 0 => anyB md ops l (l.setIfInBounds i true) i
   | 1 => takeB md ops [] l (l.setIfInBounds i true) i
   | _ => readyB md ops l (l.setIfInBounds i true) i) && ordP md ops (l.setIfInBounds i true) is ks
 | l, [], [] => Region.ready md ops l == []
 | _, _, _ => false
def wpInP (P : Program) (ops : Array Oper) (Q : Exit → Act → World → Prop) (S : World → Prop) : List Nat → List Nat → Act → World → Prop
 | i :: is, 0 :: ks, a, w => ∃ o, ops[i]? = some o ∧ ∃ v, Yields P ops o v a ∧ wpInP P ops Q S is ks (a.put o.dst v) w
 | i :: is, 1 :: ks, a, w => ∃ o, ops[i]? = some o ∧ ∃ v, YieldsIf P ops S o v a ∧ wpInP P ops Q S is ks (a.put o.dst v) w
 | i :: is, (_ + 2) :: ks, a, w => ∃ o, ops[i]? = some o ∧ ∀ K : Act → World → Prop, Shut (∀ a' w', S w' → wpInP P ops Q S is ks a' w' → K a' w') → if Region.wanted o (yielded ops a.tmps) = true then Oper.wp P o a w K Q else K (a.put o.dst undef) w
 | _, _, a, w => Q .normal a w
theorem wpInP_sound (hQ : ∀ c (a : Act) t w, Q (.panic c) { a with tmps := t } w → Q (.panic c) a w) (is : List Nat) :
  ∀ (ks : List Nat) (l : Array Bool) (a : Act) (w : World), ordP md ops l is ks = true → S w → wpInP P ops Q S is ks a w → wpAnyLast P md ops Q S [] is.length l a w := by
 induction is with
 | nil =>
  intro ks l a w ho _ h
  cases ks with
  | nil => exact done_ ho (by simpa [wpInP] using h)
  | cons => simp [ordP] at ho
 | cons i is ih =>
  intro ks l a w ho hS h
  cases ks with
  | nil => simp [ordP] at ho
  | cons k ks =>
   simp only [ordP, Bool.and_eq_true] at ho
   obtain ⟨h1, h2⟩ := ho
   match k with
   | 0 =>
    obtain ⟨o, hi, v, hy, h⟩ := h
    exact pure_ _ hi rfl h1 (put_panic hQ _ _) hy rfl (ih ks _ _ w h2 hS h)
   | 1 =>
    obtain ⟨o, hi, v, hy, h⟩ := h
    exact take_ _ hi rfl h1 (put_panic hQ _ _) hy hS rfl (ih ks _ _ w h2 hS h)
   | k + 2 =>
    obtain ⟨o, hi, h⟩ := h
    exact one_ _ hi rfl h1 (by simp) (fun K hK => h K (fun a' w' hS' h' => hK a' w' hS' (fun hS'' => ih ks _ a' w' h2 hS' h')))
theorem wp_region_ord {id : Nat} {l : List Oper} {a : Act} {w : World} (is ks : List Nat) (S : World → Prop) (hm : P.follows .mixedOrders = true) (hl : is.length = l.length) (ho : ordP .any l.toArray (Array.replicate l.length false) is ks = true)
  (hQ : ∀ c (a : Act) t w, Q (.panic c) { a with tmps := t } w → Q (.panic c) a w) (hS : S w.drew) (h : wpInP P l.toArray Q S is ks a w.drew) : (Code.region id l.toArray true).wp P Q a w := by
 refine start_ (S := S) (ds := []) _ hm rfl rfl hS (fun _ => ?_)
 have := wpInP_sound (P := P) (md := .any) (ops := l.toArray) (S := S) hQ is ks _ a w.drew ho hS h
 rw [hl] at this
 exact this
variable {o : Oper} {i : Nat} {is ks : List Nat} {a : Act} {w : World}
theorem inP_off0 (ho : ops[i]? = some o) (hw : Region.wanted o (yielded ops a.tmps) = false) (h : wpInP P ops Q S is ks (a.put o.dst undef) w) : wpInP P ops Q S (i :: is) (0 :: ks) a w := ⟨o, ho, undef, .inr ⟨hw, rfl⟩, h⟩
theorem inP_off1 (ho : ops[i]? = some o) (hw : Region.wanted o (yielded ops a.tmps) = false) (h : wpInP P ops Q S is ks (a.put o.dst undef) w) : wpInP P ops Q S (i :: is) (1 :: ks) a w := ⟨o, ho, undef, .inr ⟨hw, rfl⟩, h⟩
theorem inP_0 {v : Value} {N : Option Tmp} (ho : ops[i]? = some o) (hw : Region.wanted o (yielded ops a.tmps) = true) (hN : o.dst = N) (hy : ∀ w, (execOp a.eval o).run P w = .ok (.value v) w) {a' : Act} (ha : a.put N v = a') (h : wpInP P ops Q S is ks a' w) : wpInP P ops Q S (i :: is) (0 :: ks) a w :=
 ⟨o, ho, v, .inl ⟨hw, hy⟩, by rw [hN, ha]; exact h⟩
theorem inP_1 {v : Value} {N : Option Tmp} (ho : ops[i]? = some o) (hw : Region.wanted o (yielded ops a.tmps) = true) (hN : o.dst = N) (hy : ∀ w, S w → (execOp a.eval o).run P w = .ok (.value v) w) {a' : Act} (ha : a.put N v = a') (h : wpInP P ops Q S is ks a' w) : wpInP P ops Q S (i :: is) (1 :: ks) a w :=
 ⟨o, ho, v, .inl ⟨hw, hy⟩, by rw [hN, ha]; exact h⟩
theorem inP_2 (ho : ops[i]? = some o) (hw : Region.wanted o (yielded ops a.tmps) = true) (h : ∀ K : Act → World → Prop, Shut (∀ a' w', S w' → wpInP P ops Q S is ks a' w' → K a' w') → Oper.wp P o a w K Q) : wpInP P ops Q S (i :: is) (2 :: ks) a w := by
 refine ⟨o, ho, fun K hK => ?_⟩
 rw [if_pos hw]
 exact h K hK
def nth : List Oper → Nat → Option Oper
 | [], _ => none
 | o :: _, 0 => some o
 | _ :: r, n + 1 => nth r n
theorem nth_get (l : List Oper) (i : Nat) : nth l i = l[i]? := by
 induction l generalizing i with
 | nil => rfl
 | cons o r ih => cases i with
  | zero => rfl
  | succ n => exact ih n
theorem nth_ok (h : nth ops.toList i = some o) : ops[i]? = some o := by rw [nth_get] at h; rw [← Array.getElem?_toList]; exact h
theorem inQ_off0 (ho : nth ops.toList i = some o) (hw : Region.wanted o (yielded ops a.tmps) = false) (h : wpInP P ops Q S is ks (a.put o.dst undef) w) : wpInP P ops Q S (i :: is) (0 :: ks) a w := inP_off0 (nth_ok ho) hw h
theorem inQ_off1 (ho : nth ops.toList i = some o) (hw : Region.wanted o (yielded ops a.tmps) = false) (h : wpInP P ops Q S is ks (a.put o.dst undef) w) : wpInP P ops Q S (i :: is) (1 :: ks) a w := inP_off1 (nth_ok ho) hw h
theorem inQ_0 {v : Value} {N : Option Tmp} (ho : nth ops.toList i = some o) (hw : Region.wanted o (yielded ops a.tmps) = true) (hN : o.dst = N) (hy : ∀ w, (execOp a.eval o).run P w = .ok (.value v) w) {a' : Act} (ha : a.put N v = a') (h : wpInP P ops Q S is ks a' w) : wpInP P ops Q S (i :: is) (0 :: ks) a w := inP_0 (nth_ok ho) hw hN hy ha h
theorem inQ_1 {v : Value} {N : Option Tmp} (ho : nth ops.toList i = some o) (hw : Region.wanted o (yielded ops a.tmps) = true) (hN : o.dst = N) (hy : ∀ w, S w → (execOp a.eval o).run P w = .ok (.value v) w) {a' : Act} (ha : a.put N v = a') (h : wpInP P ops Q S is ks a' w) : wpInP P ops Q S (i :: is) (1 :: ks) a w := inP_1 (nth_ok ho) hw hN hy ha h
theorem inQ_2 (ho : nth ops.toList i = some o) (hw : Region.wanted o (yielded ops a.tmps) = true) (h : ∀ K : Act → World → Prop, Shut (∀ a' w', S w' → wpInP P ops Q S is ks a' w' → K a' w') → Oper.wp P o a w K Q) : wpInP P ops Q S (i :: is) (2 :: ks) a w := inP_2 (nth_ok ho) hw h
theorem inP_nil (h : Q .normal a w) : wpInP P ops Q S [] [] a w := h
end
inductive Plan where
 | stop
 | op (i k : Nat) (n : Plan)
 | fork (i j : Nat) (a b : Plan)
section
variable {P : Program} {md : Region.Mode} {ops : Array Oper} {Q : Exit → Act → World → Prop} {S : World → Prop}
def ordT (md : Region.Mode) (ops : Array Oper) : Array Bool → Nat → Plan → Bool
 | l, n + 1, .op i k p => (match k with
   | 0 => anyB md ops l (l.setIfInBounds i true) i
   | 1 => takeB md ops [] l (l.setIfInBounds i true) i
   | _ => readyB md ops l (l.setIfInBounds i true) i) && ordT md ops (l.setIfInBounds i true) n p
 | l, n + 1, .fork i j a b => (Region.ready md ops l == [i, j]) && ordT md ops (l.setIfInBounds i true) n a && ordT md ops (l.setIfInBounds j true) n b
 | l, 0, .stop => Region.ready md ops l == []
 | _, _, _ => false
def wpT (P : Program) (ops : Array Oper) (Q : Exit → Act → World → Prop) (S : World → Prop) : Plan → Act → World → Prop
 | .stop, a, w => Q .normal a w
 | .op i 0 p, a, w => ∃ o, ops[i]? = some o ∧ ∃ v, Yields P ops o v a ∧ wpT P ops Q S p (a.put o.dst v) w
 | .op i 1 p, a, w => ∃ o, ops[i]? = some o ∧ ∃ v, YieldsIf P ops S o v a ∧ wpT P ops Q S p (a.put o.dst v) w
 | .op i (_ + 2) p, a, w => ∃ o, ops[i]? = some o ∧ ∀ K : Act → World → Prop, Shut (∀ a' w', S w' → wpT P ops Q S p a' w' → K a' w') → if Region.wanted o (yielded ops a.tmps) = true then Oper.wp P o a w K Q else K (a.put o.dst undef) w
 | .fork i j pa pb, a, w => (∃ o, ops[i]? = some o ∧ ∀ K : Act → World → Prop, Shut (∀ a' w', S w' → wpT P ops Q S pa a' w' → K a' w') → if Region.wanted o (yielded ops a.tmps) = true then Oper.wp P o a w K Q else K (a.put o.dst undef) w) ∧
   (∃ o, ops[j]? = some o ∧ ∀ K : Act → World → Prop, Shut (∀ a' w', S w' → wpT P ops Q S pb a' w' → K a' w') → if Region.wanted o (yielded ops a.tmps) = true then Oper.wp P o a w K Q else K (a.put o.dst undef) w)
theorem wpT_sound (hQ : ∀ c (a : Act) t w, Q (.panic c) { a with tmps := t } w → Q (.panic c) a w) :
  ∀ (p : Plan) (n : Nat) (l : Array Bool) (a : Act) (w : World), ordT md ops l n p = true → S w → wpT P ops Q S p a w → wpAnyLast P md ops Q S [] n l a w := by
 intro p
 induction p with
 | stop =>
  intro n l a w ho _ h
  cases n with
  | zero => exact done_ (by simpa [ordT] using ho) h
  | succ n => simp [ordT] at ho
 | op i k p ih =>
  intro n l a w ho hS h
  cases n with
  | zero => simp [ordT] at ho
  | succ n =>
   simp only [ordT, Bool.and_eq_true] at ho
   obtain ⟨h1, h2⟩ := ho
   match k with
   | 0 =>
    obtain ⟨o, hi, v, hy, h⟩ := h
    exact pure_ _ hi rfl h1 (put_panic hQ _ _) hy rfl (ih n _ _ w h2 hS h)
   | 1 =>
    obtain ⟨o, hi, v, hy, h⟩ := h
    exact take_ _ hi rfl h1 (put_panic hQ _ _) hy hS rfl (ih n _ _ w h2 hS h)
   | k + 2 =>
    obtain ⟨o, hi, h⟩ := h
    exact one_ _ hi rfl h1 (by simp) (fun K hK => h K (fun a' w' hS' h' => hK a' w' hS' (fun hS'' => ih n _ a' w' h2 hS' h')))
 | fork i j pa pb iha ihb =>
  intro n l a w ho hS h
  cases n with
  | zero => simp [ordT] at ho
  | succ n =>
   simp only [ordT, Bool.and_eq_true] at ho
   obtain ⟨⟨h0, h1⟩, h2⟩ := ho
   obtain ⟨⟨o, hi, ha⟩, ⟨o', hj, hb⟩⟩ := h
   refine two_ _ _ hi hj rfl rfl (by simp only [Bool.and_eq_true, beq_iff_eq] at h0 ⊢; exact ⟨⟨h0, rfl⟩, rfl⟩) (by simp) (by simp) ?_ ?_
   ·exact fun K hK => ha K (fun a' w' hS' h' => hK a' w' hS' (fun hS'' => iha n _ a' w' h1 hS' h'))
   ·exact fun K hK => hb K (fun a' w' hS' h' => hK a' w' hS' (fun hS'' => ihb n _ a' w' h2 hS' h'))
theorem wp_region_plan {id : Nat} {l : List Oper} {a : Act} {w : World} (p : Plan) (S : World → Prop) (hm : P.follows .mixedOrders = true) (ho : ordT .any l.toArray (Array.replicate l.length false) l.length p = true)
  (hQ : ∀ c (a : Act) t w, Q (.panic c) { a with tmps := t } w → Q (.panic c) a w) (hS : S w.drew) (h : wpT P l.toArray Q S p a w.drew) : (Code.region id l.toArray true).wp P Q a w := by
 refine start_ (S := S) (ds := []) _ hm rfl rfl hS (fun _ => ?_)
 exact wpT_sound (P := P) (md := .any) (ops := l.toArray) (S := S) hQ p _ _ a w.drew ho hS h
variable {o o' : Oper} {i j : Nat} {p pa pb : Plan} {a : Act} {w : World}
theorem inT_off0 (ho : nth ops.toList i = some o) (hw : Region.wanted o (yielded ops a.tmps) = false) (h : wpT P ops Q S p (a.put o.dst undef) w) : wpT P ops Q S (.op i 0 p) a w := ⟨o, nth_ok ho, undef, .inr ⟨hw, rfl⟩, h⟩
theorem inT_off1 (ho : nth ops.toList i = some o) (hw : Region.wanted o (yielded ops a.tmps) = false) (h : wpT P ops Q S p (a.put o.dst undef) w) : wpT P ops Q S (.op i 1 p) a w := ⟨o, nth_ok ho, undef, .inr ⟨hw, rfl⟩, h⟩
theorem inT_0 {v : Value} {N : Option Tmp} (ho : nth ops.toList i = some o) (hw : Region.wanted o (yielded ops a.tmps) = true) (hN : o.dst = N) (hy : ∀ w, (execOp a.eval o).run P w = .ok (.value v) w) {a' : Act} (ha : a.put N v = a') (h : wpT P ops Q S p a' w) : wpT P ops Q S (.op i 0 p) a w :=
 ⟨o, nth_ok ho, v, .inl ⟨hw, hy⟩, by rw [hN, ha]; exact h⟩
theorem inT_1 {v : Value} {N : Option Tmp} (ho : nth ops.toList i = some o) (hw : Region.wanted o (yielded ops a.tmps) = true) (hN : o.dst = N) (hy : ∀ w, S w → (execOp a.eval o).run P w = .ok (.value v) w) {a' : Act} (ha : a.put N v = a') (h : wpT P ops Q S p a' w) : wpT P ops Q S (.op i 1 p) a w :=
 ⟨o, nth_ok ho, v, .inl ⟨hw, hy⟩, by rw [hN, ha]; exact h⟩
theorem inT_2 (ho : nth ops.toList i = some o) (hw : Region.wanted o (yielded ops a.tmps) = true) (h : ∀ K : Act → World → Prop, Shut (∀ a' w', S w' → wpT P ops Q S p a' w' → K a' w') → Oper.wp P o a w K Q) : wpT P ops Q S (.op i 2 p) a w := by
 refine ⟨o, nth_ok ho, fun K hK => ?_⟩
 rw [if_pos hw]
 exact h K hK
theorem inT_fork (ho : nth ops.toList i = some o) (ho' : nth ops.toList j = some o') (hw : Region.wanted o (yielded ops a.tmps) = true) (hw' : Region.wanted o' (yielded ops a.tmps) = true)
  (h : ∀ K : Act → World → Prop, Shut (∀ a' w', S w' → wpT P ops Q S pa a' w' → K a' w') → Oper.wp P o a w K Q) (h' : ∀ K : Act → World → Prop, Shut (∀ a' w', S w' → wpT P ops Q S pb a' w' → K a' w') → Oper.wp P o' a w K Q) : wpT P ops Q S (.fork i j pa pb) a w := by
 refine ⟨⟨o, nth_ok ho, fun K hK => ?_⟩, ⟨o', nth_ok ho', fun K hK => ?_⟩⟩
 ·rw [if_pos hw]; exact h K hK
 ·rw [if_pos hw']; exact h' K hK
theorem inT_stop (h : Q .normal a w) : wpT P ops Q S .stop a w := h
end
theorem bv_of (a : BitVec 32) : BitVec.ofInt 32 (a.toNat : Int) = a := by rw [BitVec.ofInt_natCast, BitVec.ofNat_toNat, BitVec.setWidth_eq]
theorem bv_wrap (a : BitVec 32) : IntKind.u32.wrap (a.toNat : Int) = a.toNat := by rw [IntKind.wrap_u32]; have := a.isLt; omega
theorem bv_xor (a b : BitVec 32) : Go.bits .xor .u32 (a.toNat : Int) (b.toNat : Int) = ((a ^^^ b).toNat : Int) := by
 show IntKind.u32.wrap ((BitVec.ofInt 32 (a.toNat : Int) ^^^ BitVec.ofInt 32 (b.toNat : Int)).toNat : Int) = _
 rw [bv_of, bv_of, bv_wrap]
theorem bv_and (a b : BitVec 32) : Go.bits .and .u32 (a.toNat : Int) (b.toNat : Int) = ((a &&& b).toNat : Int) := by
 show IntKind.u32.wrap ((BitVec.ofInt 32 (a.toNat : Int) &&& BitVec.ofInt 32 (b.toNat : Int)).toNat : Int) = _
 rw [bv_of, bv_of, bv_wrap]
theorem bv_get (c : Int) (h0 : 0 ≤ c) (h1 : c < 4294967296) : ∃ v : BitVec 32, c = (v.toNat : Int) := ⟨BitVec.ofNat 32 c.toNat, by rw [BitVec.toNat_ofNat]; omega⟩
def T (c : BitVec 32) : BitVec 32 := (c >>> 1) ^^^ (if c.getLsbD 0 then 2197175160#32 else 0#32)
def TN : Nat → BitVec 32 → BitVec 32
 | 0, c => c
 | n + 1, c => T (TN n c)
theorem and_one_nz (c : BitVec 32) : (Go.bits .and .u32 (c.toNat : Int) 1 != 0) = c.getLsbD 0 := by
 have := bv_and c 1#32
 rw [show ((1#32).toNat : Int) = 1 from rfl] at this
 rw [this, BitVec.and_one_eq_setWidth_ofBool_getLsbD]
 cases c.getLsbD 0 <;> rfl
theorem half (c : BitVec 32) : (c.toNat : Int) / (2 : Int) = ((c >>> 1).toNat : Int) := by
 rw [BitVec.toNat_ushiftRight, Nat.shiftRight_eq_div_pow]; omega
theorem st1_bv (c : BitVec 32) : st1 (c.toNat : Int) = ((T c).toNat : Int) := by
 unfold st1 T
 rw [and_one_nz, half]
 cases c.getLsbD 0
 ·simp
 ·have := bv_xor (c >>> 1) 2197175160#32
  simp only [if_true]
  exact this
theorem stN_bv (n : Nat) (c : BitVec 32) : stN n (c.toNat : Int) = ((TN n c).toNat : Int) := by
 induction n with
 | zero => rfl
 | succ n ih => show st1 (stN n _) = _; rw [ih, st1_bv]; rfl
theorem T_xor (a b : BitVec 32) : T (a ^^^ b) = T a ^^^ T b := by
 unfold T
 rw [BitVec.ushiftRight_xor_distrib, BitVec.getLsbD_xor]
 cases a.getLsbD 0 <;> cases b.getLsbD 0 <;> simp
 ·rw [BitVec.xor_assoc]
 ·rw [BitVec.xor_assoc, BitVec.xor_assoc, BitVec.xor_comm (b >>> 1)]
 ·rw [BitVec.xor_assoc, ← BitVec.xor_assoc 2197175160#32, BitVec.xor_comm 2197175160#32, BitVec.xor_assoc, BitVec.xor_self, BitVec.xor_zero]
theorem TN_xor (n : Nat) (a b : BitVec 32) : TN n (a ^^^ b) = TN n a ^^^ TN n b := by
 induction n with
 | zero => rfl
 | succ n ih => show T (TN n _) = _; rw [ih, T_xor]; rfl
theorem TN_hi (n : Nat) (c : BitVec 32) (h : ∀ i, i < n → c.getLsbD i = false) : TN n c = c >>> n := by
 induction n with
 | zero => simp [TN]
 | succ n ih =>
  show T (TN n c) = _
  rw [ih (fun i hi => h i (by omega))]
  unfold T
  rw [BitVec.getLsbD_ushiftRight, Nat.add_zero, h n (by omega), ← BitVec.shiftRight_add]
  simp
theorem crc_split (c x : BitVec 32) (hx : x.toNat < 256) : c ^^^ x = ((c ^^^ x) &&& 255#32) ^^^ ((c >>> 8) <<< 8) := by
 have h255 : (255#32 : BitVec 32) = BitVec.setWidth 32 (BitVec.allOnes 8) := by decide
 have hb : ∀ i, 8 ≤ i → x.getLsbD i = false := fun i hi => Nat.testBit_lt_two_pow (Nat.lt_of_lt_of_le (show x.toNat < 2 ^ 8 from hx) (Nat.pow_le_pow_right (by omega) hi))
 apply BitVec.eq_of_getLsbD_eq
 intro i hi
 rw [h255]
 simp only [BitVec.getLsbD_xor, BitVec.getLsbD_and, BitVec.getLsbD_shiftLeft, BitVec.getLsbD_ushiftRight, BitVec.getLsbD_setWidth, BitVec.getLsbD_allOnes]
 by_cases h8 : i < 8
 ·simp [h8, hi]
 ·have : 8 + (i - 8) = i := by omega
  rw [hb i (by omega), Bool.xor_false]
  simp [h8, hi, this]
theorem crc1_bit (c x : Int) (h0 : 0 ≤ c) (h1 : c < 4294967296) (hx : 0 ≤ x ∧ x < 256) : crc1 c x = stN 8 (Go.bits .xor .u32 c x) := by
 obtain ⟨v, rfl⟩ := bv_get c h0 h1
 obtain ⟨y, rfl⟩ := bv_get x hx.1 (by omega)
 have e : (y.toNat : Int) % (4294967296 : Int) = y.toNat := by have := y.isLt; omega
 have e8 : (v.toNat : Int) / (256 : Int) = ((v >>> 8).toNat : Int) := by rw [BitVec.toNat_ushiftRight, Nat.shiftRight_eq_div_pow]; omega
 have e255 := bv_and (v ^^^ y) 255#32
 rw [show ((255#32).toNat : Int) = 255 from rfl] at e255
 unfold crc1
 rw [e, bv_xor, e255, stN_bv, stN_bv, e8, bv_xor]
 congr 2
 conv => rhs; rw [crc_split v y (by omega), TN_xor]
 congr 1
 rw [TN_hi]
 ·apply BitVec.eq_of_getLsbD_eq
  intro i hi
  simp only [BitVec.getLsbD_shiftLeft, BitVec.getLsbD_ushiftRight]
  by_cases h : 8 + i < 32
  ·simp [h]
  ·simp [h, BitVec.getLsbD_of_ge v (8 + i) (by omega)]
 ·intro i hi
  simp [BitVec.getLsbD_shiftLeft, hi]
theorem crcF_bit (c : Int) (l : List Int) (k : Nat) (h : k < l.length) (hl : allB l) (h0 : 0 ≤ c) (h1 : c < 4294967296) : crcF c (l.take (k + 1)) = stN 8 (Go.bits .xor .u32 (crcF c (l.take k)) (l.getD k 0)) := by
 rw [crcF_snoc c l k h, crc1_bit _ _ (crcF_range _ _ h0 h1).1 (crcF_range _ _ h0 h1).2 (by unfold rd; exact allB_get hl _)]
 rfl
def val : List Int → Int
 | [] => 0
 | x :: l => x + 256 * val l
theorem u64_or_nat (a b : Nat) (ha : a < 18446744073709551616) (hb : b < 18446744073709551616) : Go.bits .or .u64 (a : Int) (b : Int) = ((a ||| b : Nat) : Int) := by
 have hx : a ||| b < 2 ^ 64 := Nat.or_lt_two_pow (by omega) (by omega)
 have ho : ∀ a : Nat, a < 18446744073709551616 → (BitVec.ofInt 64 (a : Int)).toNat = a := fun a ha => by
  rw [BitVec.ofInt_natCast, BitVec.toNat_ofNat]; exact Nat.mod_eq_of_lt (by omega)
 show IntKind.u64.wrap ((BitVec.ofInt 64 (a : Int) ||| BitVec.ofInt 64 (b : Int)).toNat : Int) = _
 rw [BitVec.toNat_or, ho a ha, ho b hb]
 simp [IntKind.wrap, IntKind.bits, IntKind.signed]
 omega
theorem val_range {l : List Int} (h : allB l) : 0 ≤ val l ∧ val l < 256 ^ l.length := by
 induction l with
 | nil => simp [val]
 | cons x l ih =>
  have h1 := ih (fun y hy => h y (by simp [hy]))
  have h2 := h x (by simp)
  rw [val, List.length_cons, Int.pow_succ]
  generalize (256 : Int) ^ l.length = q at h1 ⊢
  omega
theorem val_snoc (l : List Int) (k : Nat) (h : k < l.length) : val (l.take (k + 1)) = val (l.take k) + l.getD k 0 * 256 ^ k := by
 induction l generalizing k with
 | nil => simp at h
 | cons x l ih =>
  cases k with
  | zero => simp [val]
  | succ k =>
   rw [List.take_succ_cons, List.take_succ_cons, val, val, ih k (by simpa using h), List.getD_cons_succ, Int.pow_succ]
   have : l.getD k 0 * ((256 : Int) ^ k * 256) = 256 * (l.getD k 0 * 256 ^ k) := by rw [← Int.mul_assoc, Int.mul_comm]
   rw [this]
   generalize l.getD k 0 * (256 : Int) ^ k = q
   omega
theorem wrap_u64 (n : Int) : IntKind.u64.wrap n = n % 18446744073709551616 := by simp [IntKind.wrap, IntKind.bits, IntKind.signed]
theorem num1_val (y x : Int) (k : Nat) (hk : k < 8) (hx : 0 ≤ x ∧ x < 256) (hy : 0 ≤ y ∧ y < 256 ^ k) : num1 y x k = y + x * 256 ^ k := by
 unfold num1
 obtain ⟨a, rfl⟩ : ∃ a : Nat, x = a := ⟨x.toNat, by omega⟩
 obtain ⟨b, rfl⟩ : ∃ b : Nat, y = b := ⟨y.toNat, by omega⟩
 have e0 : (256 : Int) ^ k = ((2 ^ (8 * k) : Nat) : Int) := by rw [Nat.pow_mul]; simp
 have e1 : ((2 : Int) ^ (8 * k)) = ((2 ^ (8 * k) : Nat) : Int) := by simp
 rw [e0] at hy ⊢
 rw [e1]
 have hb : b < 2 ^ (8 * k) := by omega
 have hp : 2 ^ (8 * k) ≤ 2 ^ 56 := Nat.pow_le_pow_right (by omega) (by omega)
 have hm : a * 2 ^ (8 * k) ≤ 255 * 2 ^ 56 := Nat.mul_le_mul (by omega) hp
 have e2 : IntKind.u64.wrap (IntKind.u64.wrap (a : Int) * ((2 ^ (8 * k) : Nat) : Int)) = ((a * 2 ^ (8 * k) : Nat) : Int) := by
  rw [wrap_u64, wrap_u64]
  have : (a : Int) % 18446744073709551616 = a := by omega
  rw [this, ← Int.natCast_mul]
  generalize a * 2 ^ (8 * k) = q at hm ⊢
  omega
 rw [e2, u64_or_nat _ _ (by omega) (by omega), Nat.or_comm, ← Nat.shiftLeft_eq, ← Nat.shiftLeft_add_eq_or_of_lt hb, Nat.shiftLeft_eq]
 rw [Int.natCast_add, Int.natCast_mul]
 generalize ((2 ^ (8 * k) : Nat) : Int) = q
 rw [Int.add_comm]
theorem numK_val {l : List Int} (h : allB l) (k : Nat) (hk : k ≤ l.length) (h8 : k ≤ 8) : numK l k = val (l.take k) := by
 induction k with
 | zero => rfl
 | succ k ih =>
  have h1 := val_range (allB_take h k)
  rw [List.length_take, Nat.min_eq_left (by omega)] at h1
  rw [val_snoc l k (by omega), numK, ih (by omega) (by omega), num1_val _ _ _ (by omega) (allB_get h k) h1]
theorem numI_val {l : List Int} (h : allB l) (h8 : l.length ≤ 8) : numI l = val l := by
 unfold numI
 rw [numK_val h _ (Nat.le_refl _) h8, List.take_length]
theorem val_drop (l : List Int) (k : Nat) (h : k < l.length) : val (l.drop k) = l.getD k 0 + 256 * val (l.drop (k + 1)) := by
 rw [List.drop_eq_getElem_cons h, val]
 simp [List.getD_eq_getElem?_getD, h]
end Go.Proofs.YtkmhilhfmfmckaaGreatDoor.Hand
namespace Go.Proofs.YtkmhilhfmfmckaaGreatDoor.Hand
set_option linter.unusedSimpArgs false
set_option linter.unusedVariables false
open Go.Shelf Go.RowKit Go.Proofs.YtkmhilhfmfmckaaGreatDoorW.PrintWords Go.Proofs.YtkmhilhfmfmckaaGreatDoorW.PrintLast Go.Proofs.YtkmhilhfmfmckaaGreatDoorW.PrintMore
theorem st1_odd (c : Int) (h0 : 0 ≤ c) (h1 : c < 4294967296) : st1 c = if c % 2 = 1 then Go.bits .xor .u32 (c / 2) 2197175160 else c / 2 := by
 unfold st1
 obtain ⟨v, rfl⟩ := bv_get c h0 h1
 rw [and_one_nz]
 have : v.getLsbD 0 = decide ((v.toNat : Int) % 2 = 1) := by
  have e : v.getLsbD 0 = v.toNat.testBit 0 := rfl
  rw [e, Nat.testBit_zero, decide_eq_decide]
  omega
 rw [this]
 simp
set_option maxHeartbeats 1000000 in
set_option maxRecDepth 100000 in
theorem rcrc_calls (s : Int) (A1 : Option Addr) (c1 : Nat) (l1 : List Int) (w : World) (hr1 : Kd.C (Kd.int .u8) w A1 l1.length l1) (hs0 : 0 ≤ s) (hs1 : s < 4294967296) (hb : allB l1) :
  Calls Tryz.prog 100 #[.int .u32 s, .slice A1 l1.length c1] w fun e w' => e = .returned (.int .u32 (crcI s l1)) ∧ w = w' := by
 have HR1 := Aside0.mk hr1
 have HAB := Aside0.mk hb
 have hn : l1.length ≤ 9223372036854775807 := hr1.2.1
 clear hr1 hb
 obtain ⟨s0, hs0'⟩ : ∃ s0, Go.bits .xor .u32 4294967295 s = s0 := ⟨_, rfl⟩
 have hs := bits_u32 .xor 4294967295 s
 rw [hs0'] at hs
 obtain ⟨p0, p1⟩ := hs
 go_enter Tryz.func100, Tryz.ntmps100
 go_wp2
 go_loop [5, 6] (fun x i => ∃ k : Nat, k ≤ l1.length ∧ x = .int .u32 (crcF s0 (l1.take k)) ∧ i = .int .i64 k) (fun _ i => l1.length - (intOf i).toNat)
 case atStart => exact ⟨0, by omega, by show Value.int .u32 (Go.bits .xor .u32 4294967295 s) = _; rw [hs0']; rfl, rfl⟩
 case round =>
  obtain ⟨k, hk, rfl, rfl⟩ := hrel
  have hr := crcF_range s0 (l1.take k) p0 p1
  obtain ⟨y, hy⟩ : ∃ y, crcF s0 (l1.take k) = y := ⟨_, rfl⟩
  rw [hy] at hr ⊢
  obtain ⟨hr0, hr1⟩ := hr
  by_cases hlt : k < l1.length
  ·have hsn := crcF_bit s0 l1 k hlt HAB.out p0 p1
   have hx1 := allB_get HAB.out k
   rw [hy] at hsn
   obtain ⟨ad, e, hx⟩ := C_int_at HR1.out k hlt
   cases e
   generalize l1.getD k 0 = x at hx hx1 hsn
   obtain ⟨z, hz⟩ : ∃ z, Go.bits .xor .u32 y x = z := ⟨_, rfl⟩
   have hz1 := bits_u32 .xor y x
   rw [hz] at hz1 hsn
   have HS := Aside0.mk hsn
   have HZ := Aside0.mk hz
   have HS0 := Aside0.mk hs0'
   have HY := Aside0.mk hy
   clear hsn hs0' hy hz
   obtain ⟨hz0, hz2⟩ := hz1
   have e1 : x % 4294967296 = x := by omega
   go_wp2
   have HE1 := Aside0.mk e1
   clear e1
   go_loop [5, 7] (fun x i => ∃ j : Nat, j ≤ 8 ∧ x = .int .u32 (stN j z) ∧ i = .int .i64 j) (fun _ i => 8 - (intOf i).toNat)
   case atStart => exact ⟨0, by omega, by rw [← HZ.out]; rfl, rfl⟩
   case round =>
    obtain ⟨j, hj, rfl, rfl⟩ := hrel
    have hr := stN_range j z hz0 hz2
    obtain ⟨u, hu⟩ : ∃ u, stN j z = u := ⟨_, rfl⟩
    have hs : stN (j + 1) z = st1 u := by rw [← hu]; rfl
    rw [hu] at hr ⊢
    obtain ⟨hu0, hu1⟩ := hr
    have ho := st1_odd u hu0 hu1
    have HU := Aside0.mk hu
    have HSS := Aside0.mk hs
    clear hu hs
    by_cases hj8 : j < 8
    ·by_cases hodd : u % 2 = 1
     ·rw [if_pos hodd] at ho
      have HO := Aside0.mk ho
      clear ho
      have hb : (u % 2 == 1) = true := by simpa using hodd
      go_wp2
      go_round
      case rel => exact ⟨j + 1, by omega, by rw [HSS.out, HO.out], by go_num⟩
      case measure => simp [intOf]; omega
     ·rw [if_neg hodd] at ho
      have HO := Aside0.mk ho
      clear ho
      have hb : (u % 2 == 1) = false := by simpa using hodd
      go_wp2
      go_round
      case rel => exact ⟨j + 1, by omega, by rw [HSS.out, HO.out], by go_num⟩
      case measure => simp [intOf]; omega
    ·clear ho
     obtain rfl : j = 8 := by omega
     go_wp2
     go_round
     case rel => exact ⟨k + 1, by omega, by rw [HS.out, HU.out], by go_num⟩
     case measure => simp [intOf]; omega
  ·have HS0 := Aside0.mk hs0'
   have HY := Aside0.mk hy
   clear hs0' hy
   go_wp2
   go_ret
   exact ⟨by unfold crcI; rw [HS0.out, ← HY.out, List.take_of_length_le (by omega)]; rfl, rfl⟩
set_option maxHeartbeats 1000000 in
set_option maxRecDepth 100000 in
theorem rfits_calls (A : Option Addr) (n c : Nat) (a k : Int) (w : World) (hn : n ≤ 9223372036854775807) (h0 : -9223372036854775808 ≤ a) (h1 : a ≤ 9223372036854775807) :
  Calls Tryz.prog 153 #[.slice A n c, .int .i64 a, .int .i64 k] w fun e w' => e = .returned (.bool (fitsB n a k)) ∧ w = w' := by
 obtain ⟨b, hb⟩ : ∃ b, fitsB n a k = b := ⟨_, rfl⟩
 rw [hb]
 by_cases g1 : 1 ≤ k
 ·by_cases g8 : k ≤ 8
  ·by_cases g0 : 0 ≤ a
   ·by_cases gle : a ≤ n
    ·by_cases gsub : k ≤ n - a
     ·simp [fitsB, g1, g8, g0, gle, gsub] at hb
      subst hb
      go_enter Tryz.func153, Tryz.ntmps153
      go_wp2
      go_ret
      exact ⟨rfl, rfl⟩
     ·simp [fitsB, g1, g8, g0, gle, gsub] at hb
      subst hb
      go_enter Tryz.func153, Tryz.ntmps153
      go_wp2
      go_ret
      exact ⟨rfl, rfl⟩
    ·simp [fitsB, g1, g8, g0, gle] at hb
     subst hb
     go_enter Tryz.func153, Tryz.ntmps153
     go_wp2
     go_ret
     exact ⟨rfl, rfl⟩
   ·simp [fitsB, g1, g8, g0] at hb
    subst hb
    go_enter Tryz.func153, Tryz.ntmps153
    go_wp2
    go_ret
    exact ⟨rfl, rfl⟩
  ·simp [fitsB, g1, g8] at hb
   subst hb
   go_enter Tryz.func153, Tryz.ntmps153
   go_wp2
   go_ret
   exact ⟨rfl, rfl⟩
 ·simp [fitsB, g1] at hb
  subst hb
  go_enter Tryz.func153, Tryz.ntmps153
  go_wp2
  go_ret
  exact ⟨rfl, rfl⟩
set_option maxHeartbeats 1000000 in
set_option maxRecDepth 100000 in
theorem small_calls (x : Int) (n : Nat) (w : World) (h0 : 0 ≤ x) (h1 : x < 256 ^ n) (h64 : x < 18446744073709551616) (h8 : n ≤ 8) :
  Calls Tryz.prog 154 #[.int .u64 x, .int .i64 n] w fun e w' => e = .returned (.bool true) ∧ w = w' := by
 have H1 := Aside0.mk h1
 clear h1
 go_enter Tryz.func154, Tryz.ntmps154
 go_wp2
 go_loop [0, 5] (fun y i => ∃ k : Nat, k ≤ n ∧ y = .int .u64 (x / 256 ^ k) ∧ i = .int .i64 k) (fun _ i => n - (intOf i).toNat)
 case atStart => exact ⟨0, by omega, by simp, rfl⟩
 case round =>
  obtain ⟨k, hk, rfl, rfl⟩ := hrel
  have hy0 : 0 ≤ x / 256 ^ k := Int.ediv_nonneg h0 (Int.pow_nonneg (by omega))
  have hy1 : x / 256 ^ k ≤ x := Int.ediv_le_self _ h0
  have hs : x / 256 ^ (k + 1) = x / 256 ^ k / 256 := by rw [Int.pow_succ, Int.ediv_ediv_of_nonneg (Int.pow_nonneg (by omega))]
  have hz : k = n → x / 256 ^ k = 0 := fun e => by rw [e]; exact Int.ediv_eq_zero_of_lt h0 H1.out
  obtain ⟨y, hy⟩ : ∃ y, x / 256 ^ k = y := ⟨_, rfl⟩
  rw [hy] at hs hy0 hy1 hz ⊢
  have HS := Aside0.mk hs
  clear hs hy
  by_cases hlt : k < n
  ·clear hz
   go_wp2
   go_round
   case rel => exact ⟨k + 1, by omega, by rw [HS.out], by go_num⟩
   case measure => simp [intOf]; omega
  ·obtain rfl : y = 0 := hz (by omega)
   clear hz
   go_wp2
   go_ret
   exact ⟨rfl, rfl⟩
theorem pow_le_u64 (n : Nat) (h8 : n ≤ 8) : (256 : Int) ^ n ≤ 18446744073709551616 := by
 have h : (256 : Nat) ^ n ≤ 256 ^ 8 := Nat.pow_le_pow_right (by omega) h8
 have e : ((256 ^ n : Nat) : Int) = (256 : Int) ^ n := by simp
 rw [← e]
 omega
theorem leB_div (x : Int) (k : Nat) : leB x k = x / 256 ^ k % 256 := by
 unfold leB
 rw [show (2 : Int) ^ (8 * k) = 256 ^ k by rw [Int.pow_mul]; rfl]
set_option maxHeartbeats 2000000 in
set_option maxRecDepth 100000 in
theorem rput_calls (b off n c : Nat) (x : Int) (w : World) (l : List Int) (hb : Row w .u8 b 5 l) (hm : l.length ≤ 9223372036854775807) (h1 : 1 ≤ n) (h8 : n ≤ 8) (hoff : off + n ≤ l.length) (h0 : 0 ≤ x) (hx : x < 256 ^ n) :
  Calls Tryz.prog 99 #[.slice (some ⟨b, 0, none⟩) l.length c, .int .i64 off, .int .i64 n, .int .u64 x] w fun e w' => e = .returned (.int .i64 0) ∧ Row w' .u8 b 5 (layL l off x n) ∧ Mod w w' (· = b) := by
 have HB := Aside0.mk hb
 have h64 : x < 18446744073709551616 := Int.lt_of_lt_of_le hx (pow_le_u64 n h8)
 have HF := Aside0.mk (rfits_calls (some ⟨b, 0, none⟩) l.length c off n w hm (by omega) (by omega))
 have hfit : fitsB l.length off n = true := by simp only [fitsB, Bool.and_eq_true, decide_eq_true_eq]; omega
 rw [hfit] at HF
 have HSM := Aside0.mk (small_calls x n w h0 hx h64 h8)
 clear hb hx hfit
 go_enter Tryz.func99, Tryz.ntmps99
 go_wp2_with fail
 refine HF.out.mono ?_
 rintro e w' ⟨rfl, rfl⟩
 go_wp2_with fail
 refine HSM.out.mono ?_
 rintro e w' ⟨rfl, rfl⟩
 go_wp2
 go_loopg [3, 9] n (fun g y i wr => ∃ k : Nat, k + g = n ∧ y = .int .u64 (x / 256 ^ k) ∧ i = .int .i64 k ∧ Aside0 (Row wr .u8 b 5 (layL l off x k)) ∧ Aside0 (Mod w wr (· = b)))
 case atStart => exact ⟨0, by omega, by simp, rfl, HB, ⟨Mod.refl _ _⟩⟩
 case round =>
  obtain ⟨k, hk, rfl, rfl, HW, HM⟩ := hrel
  have hy0 : 0 ≤ x / 256 ^ k := Int.ediv_nonneg h0 (Int.pow_nonneg (by omega))
  have hy1 : x / 256 ^ k ≤ x := Int.ediv_le_self _ h0
  have hs : x / 256 ^ (k + 1) = x / 256 ^ k / 256 := by rw [Int.pow_succ, Int.ediv_ediv_of_nonneg (Int.pow_nonneg (by omega))]
  have hle := leB_div x k
  obtain ⟨y, hy⟩ : ∃ y, x / 256 ^ k = y := ⟨_, rfl⟩
  rw [hy] at hs hy0 hy1 hle ⊢
  have HS := Aside0.mk hs
  have HLE := Aside0.mk hle
  clear hs hy hle
  cases gk with
  | zero =>
   obtain rfl : k = n := by omega
   go_wp2
   go_ret
   exact ⟨rfl, HW.out, HM.out⟩
  | succ g =>
   have hlen := layL_length l off x k
   have hc := HW.out.cell (off + k) (by omega)
   have hz := HW.out.free (off + k)
   have HL := Aside0.mk hlen
   clear hlen
   go_wp2
   go_roundg g
   case measure => omega
   case rel => exact ⟨k + 1, by omega, by rw [HS.out], by go_num, ⟨by have := HW.out.set (off + k) (leB x k); rw [HLE.out] at this; unfold layL; rw [HLE.out]; exact this⟩, ⟨HM.out.set_own _ _⟩⟩
set_option maxHeartbeats 2000000 in
set_option maxRecDepth 100000 in
theorem rseal_calls (b n c : Nat) (s : Int) (w : World) (l : List Int) (hb : Row w .u8 b 5 l) (hl : l.length = n + 4) (hc : n + 4 ≤ c) (hm : n + 4 ≤ 9223372036854775807) (hs0 : 0 ≤ s) (hs1 : s < 4294967296) (hab : allB l) :
  Calls Tryz.prog 41 #[.slice (some ⟨b, 0, none⟩) (n + 4) c, .int .u32 s] w fun e w' => e = .returned (.int .i64 0) ∧ Row w' .u8 b 5 (sealL l s) ∧ Mod w w' (· = b) := by
 have HB := Aside0.mk hb
 have HR := Aside0.mk (C_int_pre (hb.reads (by omega)) n (by omega))
 have hlt : (l.take n).length = n := by simp; omega
 have hcr := rcrc_calls s (some ⟨b, 0, none⟩) c (l.take n) w (by rw [hlt]; exact HR.out) hs0 hs1 (allB_take hab n)
 rw [hlt] at hcr
 obtain ⟨hcb0, hcb1⟩ := crcI_range s (l.take n)
 have hsl : sealL l s = layL l n (crcI s (l.take n)) 4 := by unfold sealL; rw [hl]; rfl
 rw [hsl]
 obtain ⟨q, hq⟩ : ∃ q, crcI s (l.take n) = q := ⟨_, rfl⟩
 rw [hq] at hcb0 hcb1 hcr ⊢
 have HCR := Aside0.mk hcr
 have hpt := rput_calls b n 4 c q w l hb (by omega) (by omega) (by omega) (by omega) hcb0 (by omega)
 rw [hl] at hpt
 have HPT := Aside0.mk hpt
 have HL := Aside0.mk hl
 clear hb hl hab hlt hcr hq hsl hpt
 go_enter Tryz.func41, Tryz.ntmps41
 go_wp2_with fail
 refine HCR.out.mono ?_
 rintro e w' ⟨rfl, rfl⟩
 dsimp only
 go_wp2_with fail
 refine HPT.out.mono ?_
 rintro e w' ⟨rfl, hr, hmm⟩
 dsimp only
 go_wp2
 go_ret
 exact ⟨rfl, hr, hmm⟩
set_option maxHeartbeats 2000000 in
set_option maxRecDepth 100000 in
theorem rget_calls (A : Option Addr) (c a k : Nat) (w : World) (l : List Int) (hr : Kd.C (Kd.int .u8) w A l.length l) (h1 : 1 ≤ k) (h8 : k ≤ 8) (hsub : a + k ≤ l.length) (hab : allB l) :
  Calls Tryz.prog 177 #[.slice A l.length c, .int .i64 a, .int .i64 k] w fun e w' => e = .returned (.tuple #[.int .u64 (val ((l.drop a).take k)), .int .i64 0]) ∧ w = w' := by
 have HR := Aside0.mk hr
 have hm := (C_int_len hr).2
 have HF := Aside0.mk (rfits_calls A l.length c a k w hm (by omega) (by omega))
 have hfit : fitsB l.length a k = true := by simp only [fitsB, Bool.and_eq_true, decide_eq_true_eq]; omega
 rw [hfit] at HF
 have hsl : ((l.drop a).take k).length = k := by simp; omega
 have hsb : allB ((l.drop a).take k) := allB_take (allB_drop hab a) k
 have HAT := Aside0.mk (fun (j : Nat) (hj : j < k) => show ((l.drop a).take k).getD j 0 = l.getD (a + j) 0 by simp [List.getD_eq_getElem?_getD, List.getElem?_take, List.getElem?_drop, hj])
 obtain ⟨seg, hseg⟩ : ∃ seg, (l.drop a).take k = seg := ⟨_, rfl⟩
 rw [hseg] at hsl hsb HAT ⊢
 have HSL := Aside0.mk hsl
 have HSB := Aside0.mk hsb
 have HAB := Aside0.mk hab
 clear hr hfit hsl hsb hseg hab
 go_enter Tryz.func177, Tryz.ntmps177
 go_wp2_with fail
 refine HF.out.mono ?_
 rintro e w' ⟨rfl, rfl⟩
 go_wp2
 go_loopg [8, 9] k (fun g x i wr => g ≤ k ∧ x = .int .u64 (val (seg.drop g)) ∧ i = .int .i64 ((g : Int) - 1) ∧ w = wr)
 case atStart => exact ⟨by omega, by rw [List.drop_of_length_le (by rw [HSL.out]; omega)]; rfl, by go_num, rfl⟩
 case round =>
  obtain ⟨hg, rfl, rfl, rfl⟩ := hrel
  cases gk with
  | zero =>
   go_wp2
   go_ret2
   exact ⟨rfl, rfl⟩
  | succ g =>
   have hd := val_drop seg g (by rw [HSL.out]; omega)
   have hr1 := (val_range (allB_drop HSB.out (g + 1))).1
   have hr2 := val_range (allB_drop HSB.out g)
   have hr3 := pow_le_u64 (seg.drop g).length (by rw [List.length_drop, HSL.out]; omega)
   have hr4 := Int.lt_of_lt_of_le hr2.2 hr3
   rw [HAT.out g (by omega)] at hd
   obtain ⟨ad, rfl, hx⟩ := C_int_at HR.out (a + g) (by omega)
   have hx1 := allB_get HAB.out (a + g)
   rw [hd] at hr4
   generalize l.getD (a + g) 0 = x at hx hx1 hd hr4
   obtain ⟨y, hy⟩ : ∃ y, val (seg.drop (g + 1)) = y := ⟨_, rfl⟩
   rw [hy] at hd hr1 hr4 ⊢
   have HD := Aside0.mk hd
   clear hd hr2 hr3 hy
   have e1 : ((a : Int) + (((g + 1 : Nat) : Int) - 1)).toNat = a + g := by omega
   have e2 : ((g + 1 : Nat) : Int) - 1 = g := by omega
   rw [e2] at e1 ⊢
   go_wp2
   go_roundg g
   case measure => omega
   case rel => exact ⟨by omega, by rw [HD.out]; go_num, by go_num, rfl⟩
def bitB (b : List Int) (i : Nat) : Bool := (b.getD (i / 8) 0 / 2 ^ (i % 8)) % 2 == 1
def setI (b : List Int) (i : Int) : Bool := if i < 0 ∨ 2016 ≤ i ∨ (b.length : Int) ≤ i / 8 then true else bitB b i.toNat
theorem u8_and_one (x : Int) (h : 0 ≤ x ∧ x < 256) : (Go.bits .and .u8 x 1 != 0) = (x % 2 == 1) := by
 obtain ⟨n, rfl⟩ : ∃ n : Nat, x = n := ⟨x.toNat, by omega⟩
 have e : Go.bits .and .u8 (n : Int) 1 = ((n % 2 : Nat) : Int) := by
  show IntKind.u8.wrap ((BitVec.ofInt 8 (n : Int) &&& BitVec.ofInt 8 1).toNat : Int) = _
  have h1 : (BitVec.ofInt 8 (n : Int)) = BitVec.ofNat 8 n := by rw [BitVec.ofInt_natCast]
  have h2 : (BitVec.ofInt 8 1 : BitVec 8) = 1#8 := rfl
  rw [h1, h2, BitVec.toNat_and, BitVec.toNat_ofNat, show (1#8).toNat = 1 from rfl, Nat.and_one_is_mod]
  simp [IntKind.wrap, IntKind.bits, IntKind.signed]
  omega
 rw [e]
 rcases Nat.mod_two_eq_zero_or_one n with h | h <;> rw [h] <;> (rw [Bool.eq_iff_iff]; simp; omega)
set_option maxHeartbeats 1000000 in
set_option maxRecDepth 100000 in
theorem set_calls (A : Option Addr) (c : Nat) (b : List Int) (i : Int) (w : World) (hb : Kd.C (Kd.int .u8) w A b.length b) (hab : allB b) (h0 : -9223372036854775808 ≤ i) (h1 : i ≤ 9223372036854775807) :
  Calls Tryz.prog 135 #[.slice A b.length c, .int .i64 i] w fun e w' => e = .returned (.bool (setI b i)) ∧ w = w' := by
 have hm := (C_int_len hb).2
 by_cases c0 : i < 0
 ·have e : setI b i = true := by unfold setI; rw [if_pos (.inl c0)]
  rw [e]
  clear hb hab e
  go_enter Tryz.func135, Tryz.ntmps135
  go_wp2
  go_ret
  exact ⟨rfl, rfl⟩
 ·by_cases c1 : 2016 ≤ i
  ·have e : setI b i = true := by unfold setI; rw [if_pos (.inr (.inl c1))]
   rw [e]
   clear hb hab e
   go_enter Tryz.func135, Tryz.ntmps135
   go_wp2
   go_ret
   exact ⟨rfl, rfl⟩
  ·obtain ⟨n, rfl⟩ : ∃ n : Nat, i = n := ⟨i.toNat, by omega⟩
   by_cases c2 : (b.length : Int) ≤ (n : Int) / (8 : Int)
   ·have e : setI b n = true := by unfold setI; rw [if_pos (.inr (.inr c2))]
    rw [e]
    clear hb hab e
    go_enter Tryz.func135, Tryz.ntmps135
    go_wp2
    go_ret
    exact ⟨rfl, rfl⟩
   ·have e : setI b n = bitB b n := by unfold setI; rw [if_neg (by rintro (h | h | h); exact c0 h; exact c1 h; exact c2 h), Int.toNat_natCast]
    rw [e]
    obtain ⟨ad, rfl, hx⟩ := C_int_at hb (n / 8) (by omega)
    have hx1 := allB_get hab (n / 8)
    have hbb : bitB b n = ((b.getD (n / 8) 0 / 2 ^ (n % 8)) % 2 == 1) := rfl
    rw [hbb]
    generalize b.getD (n / 8) 0 = x at hx hx1
    have hr : 0 ≤ x / 2 ^ (n % 8) ∧ x / 2 ^ (n % 8) < 256 := ⟨Int.ediv_nonneg hx1.1 (Int.pow_nonneg (by omega)), Int.lt_of_le_of_lt (Int.ediv_le_self _ hx1.1) hx1.2⟩
    have HU := Aside0.mk (u8_and_one _ hr)
    have i1 : (n : Int) / 8 < (b.length : Int) := by omega
    have i2 : n / 8 < b.length := by omega
    clear hb hab e hbb hr
    go_enter Tryz.func135, Tryz.ntmps135
    go_wp2
    go_ret
    exact ⟨by rw [← HU.out]; rfl, rfl⟩
end Go.Proofs.YtkmhilhfmfmckaaGreatDoor.Hand
