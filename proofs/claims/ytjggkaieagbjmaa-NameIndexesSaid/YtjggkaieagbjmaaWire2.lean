/- Parts of rows of bytes, numbers in them, and what is given up within: package wire's number, part, lay and try, for every input that they are called with. -/
import Derived.Test.YtjggkaieagbjmaaWire1
import Derived.Test.YtjggkaieagbjmaaLib
import Derived.WalkSmall
import Derived.Recover
namespace Go.Proofs.Ytjggkaieagbjmaa.Hand
set_option linter.unusedVariables false
set_option linter.unusedSimpArgs false
open Go.RowKit Go.Proofs.YtjggkaieagbjmaaW.PrintWords Go.Proofs.YtjggkaieagbjmaaW.PrintLast Go.Proofs.YtjggkaieagbjmaaW.PrintMore

def num1 (y : Int) (x : Int) (k : Nat) : Int := Go.bits .or .u64 y (IntKind.u64.wrap (IntKind.u64.wrap x * 2 ^ (8 * k)))
/-- The number of the first k bytes. -/
def numK (l : List Int) : Nat → Int
  | 0 => 0
  | k + 1 => num1 (numK l k) (l.getD k 0) k
def numI (l : List Int) : Int := numK l l.length
theorem bits_u64 (o : BinOp) (a b : Int) : 0 ≤ Go.bits o .u64 a b ∧ Go.bits o .u64 a b < 18446744073709551616 := by
  have h : ∀ n : Int, 0 ≤ IntKind.u64.wrap n ∧ IntKind.u64.wrap n < 18446744073709551616 := fun n => by simp only [IntKind.wrap, IntKind.bits, IntKind.signed]; simp; omega
  cases o <;> simp only [Go.bits] <;> exact h _
theorem numK_range (l : List Int) (k : Nat) : 0 ≤ numK l k ∧ numK l k < 18446744073709551616 := by
  cases k with
  | zero => exact ⟨by simp [numK], by simp [numK]⟩
  | succ k =>
    simp only [numK, num1]
    exact bits_u64 _ _ _

set_option maxHeartbeats 1000000 in
set_option maxRecDepth 100000 in
theorem number_calls (A1 : Option Addr) (c1 : Nat) (l1 : List Int) (w : World) (hr1 : Kd.C (Kd.int .u8) w A1 l1.length l1) (h8 : l1.length ≤ 8) :
    Calls Try.prog 52 #[.slice A1 l1.length c1] w fun e w' => e = .returned (.int .u64 (numI l1)) ∧ w = w' := by
  have HR1 := Aside0.mk hr1
  clear hr1
  go_enter Try.func52, Try.ntmps52
  go_wp2
  go_loop [3, 8] (fun x i => ∃ (k : Nat), k ≤ l1.length ∧ x = .int .u64 (numK l1 k) ∧ i = .int .i64 k) (fun _ i => l1.length - (intOf i).toNat)
  case atStart => exact ⟨0, by omega, rfl, rfl⟩
  case round =>
    obtain ⟨k, hk, rfl, rfl⟩ := hrel
    obtain ⟨hr0, hr1⟩ := numK_range l1 k
    obtain ⟨y, hy⟩ : ∃ y, numK l1 k = y := ⟨_, rfl⟩
    rw [hy] at hr0 hr1 ⊢
    have HY := Aside0.mk hy
    clear hy
    by_cases hlt : k < l1.length
    · obtain ⟨ad, e, hx⟩ := C_int_at HR1.out k hlt
      cases e
      go_wp2
      go_round
      case rel => exact ⟨k + 1, by omega, by rw [numK, HY.out]; simp [num1, List.getD_eq_getElem?_getD, hlt], by go_num⟩
      case measure => simp [intOf]; omega
    · go_wp2
      go_ret
      obtain rfl : k = l1.length := by omega
      exact ⟨by unfold numI; rw [HY.out]; rfl, rfl⟩

/-- What is given up: a number within. -/
def wrongV (c : Int) : Value := .iface 93 (.agg #[.int .i64 c])
def given (c : Int) : Ending := .panicked [{ v := wrongV c, recovered := false }]

/-- Are there so many bytes at a place? -/
def fitsB (n : Nat) (a k : Int) : Bool := decide (1 ≤ k) && decide (k ≤ 8) && decide (0 ≤ a) && decide (a ≤ n) && decide (k ≤ n - a)

set_option maxHeartbeats 1000000 in
set_option maxRecDepth 100000 in
theorem part_fits (A : Option Addr) (n c : Nat) (a k : Int) (w : World) (hc : n ≤ c) (h1 : 1 ≤ k) (h8 : k ≤ 8) (h0 : 0 ≤ a) (hle : a ≤ n) (hsub : k ≤ n - a) (hn : n ≤ 9223372036854775807) :
    Calls Try.prog 53 #[.slice A n c, .int .i64 a, .int .i64 k] w fun e w' => e = .returned (.slice (A.map (fun x => x.add a.toNat)) k.toNat (c - a.toNat)) ∧ w = w' := by
  have e1 : (a + k).toNat - a.toNat = k.toNat := by omega
  have E1 := Aside0.mk e1
  clear e1
  go_enter Try.func53, Try.ntmps53
  go_wp2
  go_ret
  exact ⟨by rw [← E1.out]; rfl, rfl⟩

set_option maxHeartbeats 2000000 in
set_option maxRecDepth 100000 in
theorem part_not (A : Option Addr) (n c : Nat) (a k : Int) (w : World) (_hn : n ≤ 9223372036854775807) (hf : fitsB n a k = false) :
    Calls Try.prog 53 #[.slice A n c, .int .i64 a, .int .i64 k] w fun e w' => e = given 22 ∧ w = w' := by
  unfold given wrongV
  by_cases h1 : 1 ≤ k
  · by_cases h8 : k ≤ 8
    · by_cases h0 : 0 ≤ a
      · by_cases hle : a ≤ n
        · by_cases hsub : k ≤ n - a
          · simp [fitsB, h1, h8, h0, hle, hsub] at hf
          · clear hf
            go_enter Try.func53, Try.ntmps53
            go_wp2
            exact ⟨rfl, rfl, rfl⟩
        · clear hf
          go_enter Try.func53, Try.ntmps53
          go_wp2
          exact ⟨rfl, rfl, rfl⟩
      · clear hf
        go_enter Try.func53, Try.ntmps53
        go_wp2
        exact ⟨rfl, rfl, rfl⟩
    · clear hf
      go_enter Try.func53, Try.ntmps53
      go_wp2
      exact ⟨rfl, rfl, rfl⟩
  · clear hf
    go_enter Try.func53, Try.ntmps53
    go_wp2
    exact ⟨rfl, rfl, rfl⟩
/-- The lowest bytes of a number, laid from a place on. -/
def leB (x : Int) (k : Nat) : Int := (x / 2 ^ (8 * k)) % 256
def layL (l : List Int) (off : Nat) (x : Int) : Nat → List Int
  | 0 => l
  | k + 1 => (layL l off x k).set (off + k) (leB x k)
theorem layL_length (l : List Int) (off : Nat) (x : Int) (k : Nat) : (layL l off x k).length = l.length := by
  induction k with
  | zero => rfl
  | succ k ih => simp [layL, ih]

set_option maxHeartbeats 2000000 in
set_option maxRecDepth 100000 in
theorem lay_fits (b off n c : Nat) (x : Int) (w : World) (l : List Int) (hb : Row w .u8 b 5 l) (h8 : n ≤ 8) (hoff : off + n ≤ l.length) (hf : n = 8 ∨ (x / 2 ^ (8 * n) != 0) = false) :
    Calls Try.prog 59 #[.slice (some ⟨b, off, none⟩) n c, .int .u64 x] w fun e w' => e = .returned (.tuple #[]) ∧ Row w' .u8 b 5 (layL l off x n) ∧ Mod w w' (· = b) := by
  have HB := Aside0.mk hb
  clear hb
  have hf' : (n < 8 ∧ (x / 2 ^ (8 * n) != 0) = false) ∨ n = 8 := by
    rcases hf with h | h
    · exact .inr h
    · by_cases h' : n < 8
      · exact .inl ⟨h', h⟩
      · exact .inr (by omega)
  clear hf
  obtain ⟨N_, hN⟩ : ∃ N_, N_ = n := ⟨_, rfl⟩
  have HNN := Aside0.mk hN
  clear hN
  rcases hf' with ⟨hlt, hf⟩ | rfl
  all_goals
    go_enter Try.func59, Try.ntmps59
    go_wp2
    try clear hf
    go_loopw [20] (fun i wr => ∃ (k : Nat), i = .int .i64 k ∧ Aside0 (Row wr .u8 b 5 (layL l off x k)) ∧ Aside0 (Mod w wr (· = b)) ∧ Aside0 (off + k ≤ l.length) ∧ Aside0 (k ≤ N_)) (fun i _ => 8 - (intOf i).toNat)
    case atStart => exact ⟨0, rfl, HB, ⟨Mod.refl _ _⟩, ⟨by omega⟩, ⟨Nat.zero_le _⟩⟩
    case round =>
      obtain ⟨k, rfl, HW, HM, HK, HN⟩ := hrel
      have hlen := layL_length l off x k
      have HL := Aside0.mk hlen
      clear hlen
      first | by_cases hk : k < n | by_cases hk : k < 8
      · have hc := HW.out.cell (off + k) (by have := HK.out; have := HL.out; omega)
        have hz := HW.out.free (off + k)
        go_wp2
        refine ⟨⟨k + 1, by go_num, ⟨HW.out.set (off + k) (leB x k)⟩, ⟨HM.out.setCell (fun _ => rfl) _⟩, ⟨by omega⟩, ⟨by have := HNN.out; omega⟩⟩, by simp [intOf]; omega⟩
      · go_wp2
        go_end0
        have e : k = N_ := Nat.le_antisymm HN.out (by have := HNN.out; omega)
        have e2 := HNN.out
        subst e
        subst e2
        exact ⟨rfl, HW.out, HM.out⟩
end Go.Proofs.Ytjggkaieagbjmaa.Hand
