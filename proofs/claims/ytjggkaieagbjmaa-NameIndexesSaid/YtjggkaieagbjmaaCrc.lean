/- Sums of bytes, plain: a byte's part of a sum is eight bits' parts; sums by two seeds differ; a number of bytes as a sum of them. -/
import Derived.Test.YtjggkaieagbjmaaUnp1
namespace Go.Proofs.Ytjggkaieagbjmaa.Hand
set_option linter.unusedVariables false
set_option linter.unusedSimpArgs false
open Go.RowKit Go.Proofs.YtjggkaieagbjmaaW.PrintWords Go.Proofs.YtjggkaieagbjmaaW.PrintLast Go.Proofs.YtjggkaieagbjmaaW.PrintMore

theorem bv_of (a : BitVec 32) : BitVec.ofInt 32 (a.toNat : Int) = a := by rw [BitVec.ofInt_natCast, BitVec.ofNat_toNat, BitVec.setWidth_eq]
theorem bv_wrap (a : BitVec 32) : IntKind.u32.wrap (a.toNat : Int) = a.toNat := by rw [IntKind.wrap_u32]; have := a.isLt; omega
theorem bv_xor (a b : BitVec 32) : Go.bits .xor .u32 (a.toNat : Int) (b.toNat : Int) = ((a ^^^ b).toNat : Int) := by
  show IntKind.u32.wrap ((BitVec.ofInt 32 (a.toNat : Int) ^^^ BitVec.ofInt 32 (b.toNat : Int)).toNat : Int) = _
  rw [bv_of, bv_of, bv_wrap]
theorem bv_and (a b : BitVec 32) : Go.bits .and .u32 (a.toNat : Int) (b.toNat : Int) = ((a &&& b).toNat : Int) := by
  show IntKind.u32.wrap ((BitVec.ofInt 32 (a.toNat : Int) &&& BitVec.ofInt 32 (b.toNat : Int)).toNat : Int) = _
  rw [bv_of, bv_of, bv_wrap]
theorem bv_get (c : Int) (h0 : 0 ≤ c) (h1 : c < 4294967296) : ∃ v : BitVec 32, c = (v.toNat : Int) := ⟨BitVec.ofNat 32 c.toNat, by rw [BitVec.toNat_ofNat]; omega⟩
theorem bv_inj {a b : BitVec 32} (h : (a.toNat : Int) = (b.toNat : Int)) : a = b := BitVec.eq_of_toNat_eq (by omega)

/-- One bit's part of a sum, on words. -/
def T (c : BitVec 32) : BitVec 32 := (c >>> 1) ^^^ (if c.getLsbD 0 then 2197175160#32 else 0#32)
def TN : Nat → BitVec 32 → BitVec 32
  | 0, c => c
  | n + 1, c => T (TN n c)
theorem and_one_nz (c : BitVec 32) : (Go.bits .and .u32 (c.toNat : Int) 1 != 0) = c.getLsbD 0 := by
  have := bv_and c 1#32
  rw [show ((1#32).toNat : Int) = 1 from rfl] at this
  rw [this, BitVec.and_one_eq_setWidth_ofBool_getLsbD]
  cases c.getLsbD 0 <;> rfl
theorem half (c : BitVec 32) : (c.toNat : Int) / (2 : Int) = ((c >>> 1).toNat : Int) := by
  rw [BitVec.toNat_ushiftRight, Nat.shiftRight_eq_div_pow]; omega
theorem st1_bv (c : BitVec 32) : st1 (c.toNat : Int) = ((T c).toNat : Int) := by
  unfold st1 T
  rw [and_one_nz, half]
  cases c.getLsbD 0
  · simp
  · have := bv_xor (c >>> 1) 2197175160#32
    simp only [if_true]
    exact this
theorem stN_bv (n : Nat) (c : BitVec 32) : stN n (c.toNat : Int) = ((TN n c).toNat : Int) := by
  induction n with
  | zero => rfl
  | succ n ih => show st1 (stN n _) = _; rw [ih, st1_bv]; rfl
theorem T_xor (a b : BitVec 32) : T (a ^^^ b) = T a ^^^ T b := by
  unfold T
  rw [BitVec.ushiftRight_xor_distrib, BitVec.getLsbD_xor]
  cases a.getLsbD 0 <;> cases b.getLsbD 0 <;> simp
  · rw [BitVec.xor_assoc]
  · rw [BitVec.xor_assoc, BitVec.xor_assoc, BitVec.xor_comm (b >>> 1)]
  · rw [BitVec.xor_assoc, ← BitVec.xor_assoc 2197175160#32, BitVec.xor_comm 2197175160#32, BitVec.xor_assoc, BitVec.xor_self, BitVec.xor_zero]
theorem TN_xor (n : Nat) (a b : BitVec 32) : TN n (a ^^^ b) = TN n a ^^^ TN n b := by
  induction n with
  | zero => rfl
  | succ n ih => show T (TN n _) = _; rw [ih, T_xor]; rfl
theorem TN_hi (n : Nat) (c : BitVec 32) (h : ∀ i, i < n → c.getLsbD i = false) : TN n c = c >>> n := by
  induction n with
  | zero => simp [TN]
  | succ n ih =>
    show T (TN n c) = _
    rw [ih (fun i hi => h i (by omega))]
    unfold T
    rw [BitVec.getLsbD_ushiftRight, Nat.add_zero, h n (by omega), ← BitVec.shiftRight_add]
    simp
theorem crc_split (c x : BitVec 32) (hx : x.toNat < 256) : c ^^^ x = ((c ^^^ x) &&& 255#32) ^^^ ((c >>> 8) <<< 8) := by
  have h255 : (255#32 : BitVec 32) = BitVec.setWidth 32 (BitVec.allOnes 8) := by decide
  have hb : ∀ i, 8 ≤ i → x.getLsbD i = false := fun i hi => Nat.testBit_lt_two_pow (Nat.lt_of_lt_of_le (show x.toNat < 2 ^ 8 from hx) (Nat.pow_le_pow_right (by omega) hi))
  apply BitVec.eq_of_getLsbD_eq
  intro i hi
  rw [h255]
  simp only [BitVec.getLsbD_xor, BitVec.getLsbD_and, BitVec.getLsbD_shiftLeft, BitVec.getLsbD_ushiftRight, BitVec.getLsbD_setWidth, BitVec.getLsbD_allOnes]
  by_cases h8 : i < 8
  · simp [h8, hi]
  · have : 8 + (i - 8) = i := by omega
    rw [hb i (by omega), Bool.xor_false]
    simp [h8, hi, this]
theorem crc1_bit (c x : Int) (h0 : 0 ≤ c) (h1 : c < 4294967296) (hx : 0 ≤ x ∧ x < 256) : crc1 c x = stN 8 (Go.bits .xor .u32 c x) := by
  obtain ⟨v, rfl⟩ := bv_get c h0 h1
  obtain ⟨y, rfl⟩ := bv_get x hx.1 (by omega)
  have e : (y.toNat : Int) % (4294967296 : Int) = y.toNat := by have := y.isLt; omega
  have e8 : (v.toNat : Int) / (256 : Int) = ((v >>> 8).toNat : Int) := by rw [BitVec.toNat_ushiftRight, Nat.shiftRight_eq_div_pow]; omega
  have e255 := bv_and (v ^^^ y) 255#32
  rw [show ((255#32).toNat : Int) = 255 from rfl] at e255
  unfold crc1
  rw [e, bv_xor, e255, stN_bv, stN_bv, e8, bv_xor]
  congr 2
  conv => rhs; rw [crc_split v y (by omega), TN_xor]
  congr 1
  rw [TN_hi]
  · apply BitVec.eq_of_getLsbD_eq
    intro i hi
    simp only [BitVec.getLsbD_shiftLeft, BitVec.getLsbD_ushiftRight]
    by_cases h : 8 + i < 32
    · simp [h]
    · simp [h, BitVec.getLsbD_of_ge v (8 + i) (by omega)]
  · intro i hi
    simp [BitVec.getLsbD_shiftLeft, hi]
theorem T_inj {a b : BitVec 32} (h : T a = T b) : a = b := by
  have hm : ∀ c : BitVec 32, (T c).getLsbD 31 = c.getLsbD 0 := fun c => by
    unfold T
    rw [BitVec.getLsbD_xor, BitVec.getLsbD_ushiftRight, BitVec.getLsbD_of_ge c _ (by omega)]
    cases c.getLsbD 0 <;> decide
  have h0 : a.getLsbD 0 = b.getLsbD 0 := by rw [← hm, ← hm, h]
  have h1 : a >>> 1 = b >>> 1 := by
    unfold T at h
    rw [h0] at h
    have := congrArg (· ^^^ (if b.getLsbD 0 then 2197175160#32 else 0#32)) h
    simpa [BitVec.xor_assoc] using this
  apply BitVec.eq_of_getLsbD_eq
  intro i hi
  cases i with
  | zero => exact h0
  | succ i =>
    have := congrArg (fun c => c.getLsbD i) h1
    simp only [BitVec.getLsbD_ushiftRight] at this
    rw [Nat.add_comm] at this
    exact this
theorem TN_inj (n : Nat) {a b : BitVec 32} (h : TN n a = TN n b) : a = b := by
  induction n with
  | zero => exact h
  | succ n ih => exact ih (T_inj h)
theorem xor_inj {a b k : Int} (ha : 0 ≤ a ∧ a < 4294967296) (hb : 0 ≤ b ∧ b < 4294967296) (hk : 0 ≤ k ∧ k < 4294967296) (h : Go.bits .xor .u32 k a = Go.bits .xor .u32 k b) : a = b := by
  obtain ⟨a, rfl⟩ := bv_get a ha.1 ha.2
  obtain ⟨b, rfl⟩ := bv_get b hb.1 hb.2
  obtain ⟨k, rfl⟩ := bv_get k hk.1 hk.2
  rw [bv_xor, bv_xor] at h
  have := bv_inj h
  rw [BitVec.xor_right_inj] at this
  rw [this]
theorem xor_inj' {a b k : Int} (ha : 0 ≤ a ∧ a < 4294967296) (hb : 0 ≤ b ∧ b < 4294967296) (hk : 0 ≤ k ∧ k < 4294967296) (h : Go.bits .xor .u32 a k = Go.bits .xor .u32 b k) : a = b := by
  obtain ⟨a, rfl⟩ := bv_get a ha.1 ha.2
  obtain ⟨b, rfl⟩ := bv_get b hb.1 hb.2
  obtain ⟨k, rfl⟩ := bv_get k hk.1 hk.2
  rw [bv_xor, bv_xor] at h
  have := bv_inj h
  rw [BitVec.xor_left_inj] at this
  rw [this]
theorem crc1_inj {a b x : Int} (ha : 0 ≤ a ∧ a < 4294967296) (hb : 0 ≤ b ∧ b < 4294967296) (hx : 0 ≤ x ∧ x < 256) (h : crc1 a x = crc1 b x) : a = b := by
  rw [crc1_bit a x ha.1 ha.2 hx, crc1_bit b x hb.1 hb.2 hx] at h
  refine xor_inj' ha hb ⟨hx.1, by omega⟩ ?_
  have h1 := bits_u32 .xor a x
  have h2 := bits_u32 .xor b x
  obtain ⟨p, hp⟩ := bv_get _ h1.1 h1.2
  obtain ⟨q, hq⟩ := bv_get _ h2.1 h2.2
  rw [hp, hq] at h ⊢
  rw [stN_bv, stN_bv] at h
  rw [TN_inj 8 (bv_inj h)]
theorem crcF_inj {l : List Int} (hl : allB l) {a b : Int} (ha : 0 ≤ a ∧ a < 4294967296) (hb : 0 ≤ b ∧ b < 4294967296) (h : crcF a l = crcF b l) : a = b := by
  unfold crcF at h
  induction l generalizing a b with
  | nil => exact h
  | cons x l ih =>
    exact crc1_inj ha hb (hl x (by simp)) (ih (fun y hy => hl y (by simp [hy])) (crc1_range _ _) (crc1_range _ _) h)
theorem crcI_inj {l : List Int} (hl : allB l) {a b : Int} (ha : 0 ≤ a ∧ a < 4294967296) (hb : 0 ≤ b ∧ b < 4294967296) (h : crcI a l = crcI b l) : a = b := by
  unfold crcI at h
  have h1 := xor_inj (crcF_range _ _ (bits_u32 _ _ _).1 (bits_u32 _ _ _).2) (crcF_range _ _ (bits_u32 _ _ _).1 (bits_u32 _ _ _).2) (by omega) h
  exact xor_inj ha hb (by omega) (crcF_inj hl (bits_u32 _ _ _) (bits_u32 _ _ _) h1)
theorem crcF_bit (c : Int) (l : List Int) (k : Nat) (h : k < l.length) (hl : allB l) (h0 : 0 ≤ c) (h1 : c < 4294967296) : crcF c (l.take (k + 1)) = stN 8 (Go.bits .xor .u32 (crcF c (l.take k)) (l.getD k 0)) := by
  rw [crcF_snoc c l k h, crc1_bit _ _ (crcF_range _ _ h0 h1).1 (crcF_range _ _ h0 h1).2 (by unfold rd; exact allB_get hl _)]
  rfl

/-- Bytes as a number, the lowest first. -/
def val : List Int → Int
  | [] => 0
  | x :: l => x + 256 * val l
theorem u64_or_nat (a b : Nat) (ha : a < 18446744073709551616) (hb : b < 18446744073709551616) : Go.bits .or .u64 (a : Int) (b : Int) = ((a ||| b : Nat) : Int) := by
  have hx : a ||| b < 2 ^ 64 := Nat.or_lt_two_pow (by omega) (by omega)
  have ho : ∀ a : Nat, a < 18446744073709551616 → (BitVec.ofInt 64 (a : Int)).toNat = a := fun a ha => by
    rw [BitVec.ofInt_natCast, BitVec.toNat_ofNat]; exact Nat.mod_eq_of_lt (by omega)
  show IntKind.u64.wrap ((BitVec.ofInt 64 (a : Int) ||| BitVec.ofInt 64 (b : Int)).toNat : Int) = _
  rw [BitVec.toNat_or, ho a ha, ho b hb]
  simp [IntKind.wrap, IntKind.bits, IntKind.signed]
  omega
theorem val_range {l : List Int} (h : allB l) : 0 ≤ val l ∧ val l < 256 ^ l.length := by
  induction l with
  | nil => simp [val]
  | cons x l ih =>
    have h1 := ih (fun y hy => h y (by simp [hy]))
    have h2 := h x (by simp)
    rw [val, List.length_cons, Int.pow_succ]
    generalize (256 : Int) ^ l.length = q at h1 ⊢
    omega
theorem val_snoc (l : List Int) (k : Nat) (h : k < l.length) : val (l.take (k + 1)) = val (l.take k) + l.getD k 0 * 256 ^ k := by
  induction l generalizing k with
  | nil => simp at h
  | cons x l ih =>
    cases k with
    | zero => simp [val]
    | succ k =>
      rw [List.take_succ_cons, List.take_succ_cons, val, val, ih k (by simpa using h), List.getD_cons_succ, Int.pow_succ]
      have : l.getD k 0 * ((256 : Int) ^ k * 256) = 256 * (l.getD k 0 * 256 ^ k) := by rw [← Int.mul_assoc, Int.mul_comm]
      rw [this]
      generalize l.getD k 0 * (256 : Int) ^ k = q
      omega
theorem wrap_u64 (n : Int) : IntKind.u64.wrap n = n % 18446744073709551616 := by simp [IntKind.wrap, IntKind.bits, IntKind.signed]
theorem num1_val (y x : Int) (k : Nat) (hk : k < 8) (hx : 0 ≤ x ∧ x < 256) (hy : 0 ≤ y ∧ y < 256 ^ k) : num1 y x k = y + x * 256 ^ k := by
  unfold num1
  obtain ⟨a, rfl⟩ : ∃ a : Nat, x = a := ⟨x.toNat, by omega⟩
  obtain ⟨b, rfl⟩ : ∃ b : Nat, y = b := ⟨y.toNat, by omega⟩
  have e0 : (256 : Int) ^ k = ((2 ^ (8 * k) : Nat) : Int) := by rw [Nat.pow_mul]; simp
  have e1 : ((2 : Int) ^ (8 * k)) = ((2 ^ (8 * k) : Nat) : Int) := by simp
  rw [e0] at hy ⊢
  rw [e1]
  have hb : b < 2 ^ (8 * k) := by omega
  have hp : 2 ^ (8 * k) ≤ 2 ^ 56 := Nat.pow_le_pow_right (by omega) (by omega)
  have hm : a * 2 ^ (8 * k) ≤ 255 * 2 ^ 56 := Nat.mul_le_mul (by omega) hp
  have e2 : IntKind.u64.wrap (IntKind.u64.wrap (a : Int) * ((2 ^ (8 * k) : Nat) : Int)) = ((a * 2 ^ (8 * k) : Nat) : Int) := by
    rw [wrap_u64, wrap_u64]
    have : (a : Int) % 18446744073709551616 = a := by omega
    rw [this, ← Int.natCast_mul]
    generalize a * 2 ^ (8 * k) = q at hm ⊢
    omega
  rw [e2, u64_or_nat _ _ (by omega) (by omega), Nat.or_comm, ← Nat.shiftLeft_eq, ← Nat.shiftLeft_add_eq_or_of_lt hb, Nat.shiftLeft_eq]
  rw [Int.natCast_add, Int.natCast_mul]
  generalize ((2 ^ (8 * k) : Nat) : Int) = q
  rw [Int.add_comm]
theorem numK_val {l : List Int} (h : allB l) (k : Nat) (hk : k ≤ l.length) (h8 : k ≤ 8) : numK l k = val (l.take k) := by
  induction k with
  | zero => rfl
  | succ k ih =>
    have h1 := val_range (allB_take h k)
    rw [List.length_take, Nat.min_eq_left (by omega)] at h1
    rw [val_snoc l k (by omega), numK, ih (by omega) (by omega), num1_val _ _ _ (by omega) (allB_get h k) h1]
theorem numI_val {l : List Int} (h : allB l) (h8 : l.length ≤ 8) : numI l = val l := by
  unfold numI
  rw [numK_val h _ (Nat.le_refl _) h8, List.take_length]
theorem val_drop (l : List Int) (k : Nat) (h : k < l.length) : val (l.drop k) = l.getD k 0 + 256 * val (l.drop (k + 1)) := by
  rw [List.drop_eq_getElem_cons h, val]
  simp [List.getD_eq_getElem?_getD, h]
end Go.Proofs.Ytjggkaieagbjmaa.Hand
