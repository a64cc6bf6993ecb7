/- Package wire: a sum is laid into the last four bytes of a row. -/
import Derived.Test.YtjggkaieagbjmaaWire3
import Derived.StillTailTactics
import Derived.Shelf.Abstract
namespace Go.Proofs.Ytjggkaieagbjmaa.Hand
set_option linter.unusedVariables false
set_option linter.unusedSimpArgs false
open Go.Shelf Go.RowKit Go.Proofs.YtjggkaieagbjmaaW.PrintWords Go.Proofs.YtjggkaieagbjmaaW.PrintLast Go.Proofs.YtjggkaieagbjmaaW.PrintMore

set_option maxHeartbeats 2000000 in
set_option maxRecDepth 100000 in
theorem seal1_fits (pb pn ps b n c : Nat) (s : Int) (w : World) (l : List Int) (hpb : w.cell? ⟨pb, 0, none⟩ = some (.slice (some ⟨b, 0, none⟩) (n + 4) c)) (hpn : w.cell? ⟨pn, 0, none⟩ = some (.int .i64 n)) (hps : w.cell? ⟨ps, 0, none⟩ = some (.int .u32 s))
    (hb : Row w .u8 b 5 l) (hl : l.length = n + 4) (hc : n + 4 ≤ c) (hm : n + 4 ≤ 9223372036854775807) (hs0 : 0 ≤ s) (hs1 : s < 4294967296) :
    Calls Try.prog 58 #[.pointer (some ⟨pb, 0, none⟩), .pointer (some ⟨pn, 0, none⟩), .pointer (some ⟨ps, 0, none⟩)] w fun e w' => e = .returned (.tuple #[]) ∧ Row w' .u8 b 5 (layL l n (crcI s (l.take n)) 4) ∧ Mod w w' (· = b) := by
  have HB := Aside0.mk hb
  have hR := C_int_pre (hb.reads (by omega)) n (by omega)
  have HR := Aside0.mk hR
  clear hb hR
  have hcr : Calls Try.prog 60 #[.int .u32 s, .slice (some ⟨b, 0, none⟩) n c] w.drew fun e w' => e = .returned (.int .u32 (crcI s (l.take n))) ∧ w' = w.drew := by
    have hr := HR.out.heap_eq (w1 := w.drew) rfl
    have hn : (l.take n).length = n := by simp; omega
    have := crc_calls s (some ⟨b, 0, none⟩) c (l.take n) w.drew (by rw [hn]; exact hr) hs0 hs1
    rw [hn] at this
    exact this.mono fun e w' h => ⟨h.1, h.2.symm⟩
  have hnc : n ≤ c := by omega
  obtain ⟨hcb0, hcb1⟩ := crcI_range s (l.take n)
  obtain ⟨q, hq⟩ : ∃ q, crcI s (l.take n) = q := ⟨_, rfl⟩
  rw [hq] at hcb0 hcb1 hcr ⊢
  clear hq
  have hq0 : (q / 2 ^ (8 * 4) != 0) = false := by
    have : q / 2 ^ (8 * 4) = 0 := by omega
    rw [this]; rfl
  have HQ := Aside0.mk hq0
  clear hq0
  go_enter Try.func58, Try.ntmps58
  go_wp2_with (go_at_call 53; refine (part_fits _ _ _ _ _ _ hc (by omega) (by omega) (by omega) (by omega) (by omega) (by omega)).mono ?_; rintro e w' ⟨rfl, rfl⟩)
  go_still_tail 7, (by kernel_rfl)
  still_call hcr
  clear hcr hpb hpn hps
  repeat still_step
  refine wpStill_nil ?_
  have HB2 : Aside0 (Row w.drew .u8 b 5 l) := HB
  have HM2 : Aside0 (Mod w w.drew (· = b)) := ⟨(Mod.refl _ _).drew⟩
  change wpList _ _ _ _ _ w.drew
  generalize w.drew = w2 at HB2 HM2
  go_wp2_with (go_at_call 59; refine (lay_fits b n 4 (c - n) _ w2 l HB2.out (by omega) (by omega) (.inr HQ.out)).mono ?_; rintro e w' ⟨rfl, hr, hm⟩)
  go_end0
  exact ⟨rfl, hr, HM2.out.trans hm (fun _ _ h => h)⟩

theorem enters_seal1 : ∀ (args : Array Value) (w : World), (callFunc 58 args).run Try.prog w = .ok (.enter 58 args) w := enters_of Try.func58 (by kernel_rfl) rfl
theorem mkfunc (fn : Fn) (first cap : Array Value) (w : World) : (Instr.makeFunc fn first cap).run Try.prog w = .ok (.func fn first cap) w := rfl

/-- A row of bytes with its sum laid into the last four. -/
def sealL (l : List Int) (s : Int) : List Int := layL l (l.length - 4) (crcI s (l.take (l.length - 4))) 4

set_option maxHeartbeats 2000000 in
set_option maxRecDepth 100000 in
theorem seal_calls (b n c : Nat) (s : Int) (w : World) (l : List Int) (hb : Row w .u8 b 5 l) (hl : l.length = n + 4) (hc : n + 4 ≤ c) (hm : n + 4 ≤ 9223372036854775807) (hs0 : 0 ≤ s) (hs1 : s < 4294967296) :
    Calls Try.prog 46 #[.slice (some ⟨b, 0, none⟩) (n + 4) c, .int .u32 s] w fun e w' => e = .returned (.int .i64 0) ∧ Row w' .u8 b 5 (sealL l s) ∧ Mod w w' (· = b) := by
  have HB := Aside0.mk hb
  have hblt := hb.lt
  have HL := Aside0.mk hl
  clear hb hl
  have hmf := mkfunc
  go_enter Try.func46, Try.ntmps46
  go_wp2_with fail
  refine (try_calls 58 _ _ (fun c w1 => c = 0 ∧ Row w1 .u8 b 5 (sealL l s) ∧ Mod w w1 (· = b)) enters_seal1 ?_).mono ?_
  · refine (seal1_fits w.heap.size (w.heap.size + 1 + 1) (w.heap.size + 1) b n c s _ l (by simp [go_sem]) (by simp [go_sem]) (by simp [go_sem]) ?_ HL.out hc hm hs0 hs1).mono ?_
    · exact HB.out.mod (((((Mod.refl w (fun _ => False)).alloc _).alloc _).alloc _).alloc _) (fun h => h)
    · rintro e w1 ⟨rfl, hr, hm⟩
      have hn : l.length - 4 = n := by have := HL.out; omega
      refine ⟨0, .inl ⟨rfl, rfl⟩, ⟨rfl, by unfold sealL; rw [hn]; exact hr, (((((Mod.refl w (· = b)).alloc _).alloc _).alloc _).alloc _).trans hm (fun _ _ h => h)⟩, ?_⟩
      exact hm.obj (alloc_last _ _) (by simp; omega)
  · rintro e w' ⟨cc, w1, rfl, ⟨rfl, hr, hm⟩, hm2⟩
    dsimp only
    go_wp2
    go_ret
    simp only [World.size_alloc] at hm2
    exact ⟨rfl, hr.mod hm2 (by omega), hm.trans hm2 (fun i hi h => by omega)⟩
end Go.Proofs.Ytjggkaieagbjmaa.Hand
