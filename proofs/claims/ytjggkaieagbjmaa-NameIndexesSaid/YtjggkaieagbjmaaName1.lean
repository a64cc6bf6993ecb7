/- Package name: the hash of a name, for every text. -/
import Derived.Test.YtjggkaieagbjmaaWire5
import Derived.Lib.ConvBytes
namespace Go.Proofs.Ytjggkaieagbjmaa.Hand
set_option linter.unusedVariables false
set_option linter.unusedSimpArgs false
open Go.Shelf Go.RowKit Go.Proofs.YtjggkaieagbjmaaW.PrintWords Go.Proofs.YtjggkaieagbjmaaW.PrintLast Go.Proofs.YtjggkaieagbjmaaW.PrintMore

def hash1 (h : Int) (c : UInt8) : Int := Go.bits .xor .u32 h (c.toNat : Int) * 16777619 % 4294967296
def hashF (h : Int) (l : List UInt8) : Int := l.foldl hash1 h
def hashI (s : ByteArray) : Int := hashF 2166136261 s.data.toList
theorem hash1_range (h : Int) (c : UInt8) : 0 ≤ hash1 h c ∧ hash1 h c < 4294967296 := by unfold hash1; omega
theorem hashF_range (h : Int) (l : List UInt8) (h0 : 0 ≤ h) (h1 : h < 4294967296) : 0 ≤ hashF h l ∧ hashF h l < 4294967296 := by
  unfold hashF
  induction l generalizing h with
  | nil => exact ⟨h0, h1⟩
  | cons x l ih => exact ih _ (hash1_range _ _).1 (hash1_range _ _).2
theorem hashI_range (s : ByteArray) : 0 ≤ hashI s ∧ hashI s < 4294967296 := hashF_range _ _ (by omega) (by omega)
theorem hashF_snoc (h : Int) (l : List UInt8) (k : Nat) (hk : k < l.length) : hashF h (l.take (k + 1)) = hash1 (hashF h (l.take k)) (l.getD k 0) := by
  unfold hashF
  rw [List.take_succ_eq_append_getElem hk, List.foldl_append]
  simp [List.getD_eq_getElem?_getD, hk]

theorem below_bytesWorld (w : World) (e : TypeId) (s : ByteArray) : Below w.heap.size w (Lib.bytesWorld w e s) :=
  ⟨rfl, rfl, rfl, by rw [Lib.bytesWorld_size]; omega, fun k hk => Lib.bytesWorld_at_old w e s k hk⟩

set_option maxHeartbeats 1000000 in
set_option maxRecDepth 100000 in
theorem hash_calls (s : ByteArray) (w : World) (hm : s.size ≤ 4611686018427387904) : Calls Try.prog 13 #[.string s] w fun e w' => e = .returned (.int .u32 (hashI s)) ∧ Below w.heap.size w w' := by
  have hcv := fun w : World => Lib.run_convert_string_bytes (P := Try.prog) w 9 30 5 s Try.underlying9 Try.underlying30 Try.underlying5
  have hB := Aside0.mk (below_bytesWorld w 5 s)
  have hC := Aside0.mk (Lib.bytesWorld_cell w 5 s)
  have hsz : s.data.toList.length = s.size := by simp
  go_enter Try.func13, Try.ntmps13
  go_wp2
  generalize Lib.bytesWorld w 5 s = W at hB hC ⊢
  go_loop [3, 9] (fun x i => ∃ k : Nat, k ≤ s.size ∧ x = .int .u32 (hashF 2166136261 (s.data.toList.take k)) ∧ i = .int .i64 k) (fun _ i => s.size - (intOf i).toNat)
  case atStart => exact ⟨0, by omega, rfl, rfl⟩
  case round =>
    obtain ⟨k, hk, rfl, rfl⟩ := hrel
    obtain ⟨hr0, hr1⟩ := hashF_range 2166136261 (s.data.toList.take k) (by omega) (by omega)
    obtain ⟨y, hy⟩ : ∃ y, hashF 2166136261 (s.data.toList.take k) = y := ⟨_, rfl⟩
    rw [hy] at hr0 hr1 ⊢
    by_cases hlt : k < s.size
    · have hsn := hashF_snoc 2166136261 s.data.toList k (by omega)
      rw [hy] at hsn
      have hx := hC.out k hlt
      obtain ⟨c, hc⟩ : ∃ c : UInt8, s.data.toList.getD k 0 = c := ⟨_, rfl⟩
      rw [hc] at hx hsn
      have HS := Aside0.mk hsn
      have hc0 : (0 : Int) ≤ (c.toNat : Int) := by omega
      have hc1 : (c.toNat : Int) < 256 := by have := c.toNat_lt; omega
      clear hsn hy hc hcv
      go_wp2
      go_round
      case rel => exact ⟨k + 1, by omega, by rw [HS.out]; rfl, by go_num⟩
      case measure => simp [intOf]; omega
    · have HY := Aside0.mk hy
      clear hy hcv
      go_wp2
      go_ret
      exact ⟨by unfold hashI; rw [← HY.out, List.take_of_length_le (by omega)]; rfl, hB.out⟩
end Go.Proofs.Ytjggkaieagbjmaa.Hand
