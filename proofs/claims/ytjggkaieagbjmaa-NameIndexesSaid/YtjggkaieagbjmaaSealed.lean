/- Package name: bytes laid into a new block of 256, and sealed. -/
import Derived.Test.YtjggkaieagbjmaaName5
import Derived.Test.YtjggkaieagbjmaaRegion
import Derived.Laws.CopyOwn
import Derived.Laws.IdiomCopy
import Derived.Laws.MakeOwn
namespace Go.Proofs.Ytjggkaieagbjmaa.Hand
set_option linter.unusedVariables false
set_option linter.unusedSimpArgs false
open Go.Shelf Go.RowKit Go.Proofs.YtjggkaieagbjmaaW.PrintWords Go.Proofs.YtjggkaieagbjmaaW.PrintLast Go.Proofs.YtjggkaieagbjmaaW.PrintMore

theorem infoU8 : (Try.prog.info? 5).map (fun i => (i.zero, i.size, i.bytes)) = some (some (.int .u8 0), 1, 1) := by kernel_rfl
/-- Bytes in front of noughts, 256 in all. -/
def pad (l : List Int) : List Int := l ++ List.replicate (256 - l.length) 0
theorem pad_eq (l : List Int) (n : Nat) : List.take 0 (List.replicate n (0 : Int)) ++ List.take l.length l ++ List.drop (0 + l.length) (List.replicate n 0) = l ++ List.replicate (n - l.length) 0 := by
  rw [List.take_zero, List.take_length, List.drop_replicate, Nat.zero_add, List.nil_append]
theorem pad_length (l : List Int) (h : l.length ≤ 256) : (pad l).length = 256 := by simp [pad]; omega

/-- Bytes copied into a row. -/
theorem copy_run (T : TypeId) (g off dLen dCap n c : Nat) (A : Option Addr) (w : World) (l src : List Int) (hb : Row w .u8 g 5 l) (hr : Kd.C (Kd.int .u8) w A n src) (hfit : off + Nat.min n dLen ≤ l.length) :
    ∃ W, (Builtin.copy_ #[30, 30] T #[.slice (some ⟨g, off, none⟩) dLen dCap, .slice A n c]).run Try.prog w = .ok (.int .i64 (Nat.min n dLen : Nat)) W ∧ Row W .u8 g 5 (l.take off ++ src.take (Nat.min n dLen) ++ l.drop (off + Nat.min n dLen)) ∧ Mod w W (· = g) := by
  obtain ⟨hl, hm⟩ := C_int_len hr
  obtain ⟨m, hmm⟩ : ∃ m, Nat.min n dLen = m := ⟨_, rfl⟩
  rw [hmm] at hfit ⊢
  have hmn : m ≤ n := by rw [← hmm]; exact Nat.min_le_left _ _
  by_cases h0 : m = 0
  · subst h0
    refine ⟨w, ?_, by simpa using hb, Mod.refl _ _⟩
    exact run_copy_none w 30 30 T 5 _ _ dLen dCap n c Try.underlying30 (by kernel_rfl) hmm
  · obtain ⟨ad, rfl, _⟩ := C_int_at hr 0 (by omega)
    have hcl : (nums .u8 (src.take m)).length = m := by simp [nums_length]; omega
    have h := run_copy_row (P := Try.prog) w 30 30 T 5 g off dLen dCap ad n c (nums .u8 l).toArray 5 (nums .u8 (src.take m)) Try.underlying30 (by kernel_rfl) hb (by rw [hcl]; exact hmm.symm) (fun j v hj => by
        have hjl : j < m := by have := (List.getElem?_eq_some_iff.1 hj).1; omega
        obtain ⟨ad', e, hc⟩ := C_int_at hr j (by omega)
        cases e
        rw [hc, ← hj]
        simp [nums, List.getD_eq_getElem?_getD, List.getElem?_take, hjl, show j < src.length by omega]) (by rw [hcl]; simpa [nums_length] using hfit) (fun v hv => by
        simp only [nums, List.mem_map] at hv
        obtain ⟨x, _, rfl⟩ := hv
        rfl)
    rw [hcl] at h
    refine ⟨_, h, ?_, ?_⟩
    · unfold Row
      rw [setRow_heap w g _ _ 5 _ hb]
      simp [nums, List.map_take, List.map_drop]
    · refine ⟨rfl, rfl, rfl, by simp [World.setRow], fun k hk hn => ?_⟩
      have := (below_setRow (B := 0) (g := g) (Below.refl 0 w) (Nat.zero_le _) (nums .u8 (src.take m)).toArray)
      simp only [World.setRow, Array.getElem?_modify]
      rw [if_neg (fun e => hn e.symm)]

theorem make256 (w : World) : (Instr.makeSlice 30 (.int .i64 256) (.int .i64 256)).run Try.prog w = .ok (.slice (some ⟨w.heap.size, 0, none⟩) 256 256) (w.alloc (.cells (nums .u8 (List.replicate 256 0)).toArray 5)) := by kernel_rfl
/-- A world with a new row of 256 noughts. -/
def noughts (w : World) : World := w.alloc (.cells (nums .u8 (List.replicate 256 0)).toArray 5)

set_option maxHeartbeats 2000000 in
set_option maxRecDepth 100000 in
theorem sealed_calls (A : Option Addr) (c : Nat) (s : Int) (l : List Int) (w : World) (hr : Kd.C (Kd.int .u8) w A l.length l) (h256 : l.length ≤ 256) (hs0 : 0 ≤ s) (hs1 : s < 4294967296) :
    Calls Try.prog 37 #[.slice A l.length c, .int .u32 s] w fun e w' => ∃ g, e = .returned (.slice (some ⟨g, 0, none⟩) 256 256) ∧ w.heap.size ≤ g ∧ Row w' .u8 g 5 (sealL (pad l) s) ∧ Below w.heap.size w w' := by
  have HR := Aside0.mk hr
  clear hr
  have hmk : ∀ w : World, (Instr.makeSlice 30 (.int .i64 256) (.int .i64 256)).run Try.prog w = .ok (.slice (some ⟨w.heap.size, 0, none⟩) 256 256) (noughts w) := make256
  have HN := Aside0.mk (show Row (noughts w) .u8 w.heap.size 5 (List.replicate 256 0) from alloc_last _ _)
  have HB := Aside0.mk (show Below w.heap.size w (noughts w) from below_alloc (Below.refl _ _) _)
  have hm := (C_int_len HR.out).2
  obtain ⟨w2, hcp, hr2, hm2⟩ := copy_run 3 w.heap.size 0 256 256 l.length c A (noughts w) (List.replicate 256 0) l HN.out (Kd.C_below HR.out HB.out) (by rw [List.length_replicate, Nat.zero_add]; exact Nat.min_le_right _ _)
  have e1 : List.take 0 (List.replicate 256 (0 : Int)) ++ List.take (Nat.min l.length 256) l ++ List.drop (0 + Nat.min l.length 256) (List.replicate 256 0) = pad l := by
    rw [show Nat.min l.length 256 = l.length from Nat.min_eq_left h256]
    exact pad_eq l 256
  rw [e1] at hr2
  have HR2 := Aside0.mk hr2
  have HB2 := Aside0.mk ((Mod.of_below HB.out (fun _ => False)).trans hm2 (fun i hi h => by omega))
  have hpl := pad_length l h256
  clear hr2 hm2 e1
  go_enter Try.func37, Try.ntmps37
  go_wp2_with (go_at_call 46; refine (seal_calls w.heap.size 252 256 s _ (pad l) HR2.out (by omega) (by omega) (by omega) hs0 hs1).mono ?_; rintro e w3 ⟨rfl, hr3, hm3⟩)
  go_ret
  exact ⟨w.heap.size, rfl, Nat.le_refl _, hr3, (HB2.out.trans hm3 (fun i hi h => by omega)).to_below (fun _ _ h => h)⟩
end Go.Proofs.Ytjggkaieagbjmaa.Hand
