/- The law NameOnly, walked: whatever can be unpacked is what would be packed. -/
import Derived.Test.YtjggkaieagbjmaaAw1
import Derived.Test.YtjggkaieagbjmaaUidx
import Derived.Test.YtjggkaieagbjmaaSame
namespace Go.Proofs.Ytjggkaieagbjmaa.Hand
set_option linter.unusedVariables false
set_option linter.unusedSimpArgs false
open Go.Shelf Go.RowKit Go.Proofs.YtjggkaieagbjmaaW.PrintWords Go.Proofs.YtjggkaieagbjmaaW.PrintLast Go.Proofs.YtjggkaieagbjmaaW.PrintMore

theorem packI_cases (l : List Ent) (s : Int) : (packI l s).2 = 0 ∧ sizeI l ≤ 250 ∧ (packI l s).1 = sealL (pad (packB l)) s ∨ (packI l s).2 ≠ 0 ∧ (packI l s).1 = [] := by
  unfold packI
  split
  · split
    · exact .inr ⟨by decide, rfl⟩
    · exact .inl ⟨rfl, by omega, rfl⟩
  · exact .inr ⟨by decide, rfl⟩
theorem pidxI_cases (l : List Prt) (s : Int) : (pidxI l s).2 = 0 ∧ l.length ≤ 40 ∧ (pidxI l s).1 = sealL (pad (pidxB l)) s ∨ (pidxI l s).2 ≠ 0 ∧ (pidxI l s).1 = [] := by
  unfold pidxI
  split
  · exact .inr ⟨by decide, rfl⟩
  · split
    · exact .inl ⟨rfl, by omega, rfl⟩
    · exact .inr ⟨by decide, rfl⟩
theorem len_le_size (l : List Ent) : 4 * (l.length : Int) ≤ sizeI l := by
  rw [sizeI_eq]
  induction l with
  | nil => simp
  | cons x l ih => rw [List.flatMap_cons, List.length_append, entB_length, List.length_cons]; omega
theorem packI_ok {l : List Ent} {s : Int} (h : (packI l s).2 = 0) : l.length ≤ 62 ∧ (packI l s).1 = sealL (pad (packB l)) s := by
  rcases packI_cases l s with ⟨_, h1, h2⟩ | ⟨h1, _⟩
  · have := len_le_size l
    exact ⟨by omega, h2⟩
  · exact absurd h h1
theorem pidxI_ok {l : List Prt} {s : Int} (h : (pidxI l s).2 = 0) : l.length ≤ 40 ∧ (pidxI l s).1 = sealL (pad (pidxB l)) s := by
  rcases pidxI_cases l s with ⟨_, h1, h2⟩ | ⟨h1, _⟩
  · exact ⟨h1, h2⟩
  · exact absurd h h1
theorem lay_head (l : List Int) (off : Nat) (x : Int) (k : Nat) (h : 0 < off) : (layL l off x k).getD 0 0 = l.getD 0 0 := by
  induction k with
  | zero => rfl
  | succ k ih =>
    show ((layL l off x k).set (off + k) (leB x k)).getD 0 0 = _
    rw [← ih]
    simp only [List.getD_eq_getElem?_getD]
    rw [List.getElem?_set_ne (by omega)]
theorem pack_head {l : List Ent} {s : Int} (h : (packI l s).2 = 0) : (packI l s).1.getD 0 0 = 1 := by
  rw [(packI_ok h).2]
  unfold sealL
  rw [lay_head _ _ _ _ (by unfold pad packB; simp only [List.length_append, List.length_replicate, List.length_cons, List.length_nil]; omega)]
  rfl
theorem pidx_head {l : List Prt} {s : Int} (h : (pidxI l s).2 = 0) : (pidxI l s).1.getD 0 0 = 2 := by
  rw [(pidxI_ok h).2]
  unfold sealL
  rw [lay_head _ _ _ _ (by unfold pad pidxB; simp only [List.length_append, List.length_replicate, List.length_cons, List.length_nil]; omega)]
  rfl
theorem unpackI_cases (l : List Int) (s : Int) : (∃ out, unpackI l s = (out, 0) ∧ packI out s = (l, 0) ∧ out.length ≤ 62) ∨ unpackI l s = ([], 117) := by
  by_cases h0 : l.length ≠ 256
  · exact .inr (by unfold unpackI; rw [if_pos h0])
  · cases h1 : readI (l.getD 1 0).toNat ((l.drop 2).take 250) [] with
    | none => exact .inr (by unfold unpackI; rw [if_neg h0, h1])
    | some out =>
      by_cases h2 : (packI out s).2 = 0 ∧ (packI out s).1 = l
      · refine .inl ⟨out, ?_, ?_, (packI_ok h2.1).1⟩
        · unfold unpackI
          rw [if_neg h0, h1]
          exact if_pos h2
        · exact Prod.ext h2.2 h2.1
      · refine .inr ?_
        unfold unpackI
        rw [if_neg h0, h1]
        exact if_neg h2
theorem unpidxI_cases (l : List Int) (s : Int) : (∃ out, unpidxI l s = (out, 0) ∧ pidxI out s = (l, 0) ∧ out.length ≤ 40) ∨ unpidxI l s = ([], 117) := by
  unfold unpidxI
  by_cases h0 : l.length ≠ 256 ∨ 40 < l.getD 1 0
  · rw [if_pos h0]; exact .inr rfl
  · rw [if_neg h0]
    generalize readP l (l.getD 1 0).toNat = out
    by_cases h2 : (pidxI out s).2 = 0 ∧ (pidxI out s).1 = l
    · rw [if_pos h2]
      exact .inl ⟨out, rfl, Prod.ext h2.2 h2.1, (pidxI_ok h2.1).1⟩
    · rw [if_neg h2]; exact .inr rfl
theorem no_both {l : List Int} {s : Int} {x : List Ent} {y : List Prt} (hx : packI x s = (l, 0)) (hy : pidxI y s = (l, 0)) : False := by
  have h1 := pack_head (l := x) (s := s) (by rw [hx])
  have h2 := pidx_head (l := y) (s := s) (by rw [hy])
  rw [hx] at h1
  rw [hy] at h2
  rw [h1] at h2
  cases h2

set_option maxHeartbeats 1000000 in
set_option maxRecDepth 100000 in
theorem only_calls (A : Option Addr) (c : Nat) (s : Int) (l : List Int) (w : World) (hl : Kd.C (Kd.int .u8) w A l.length l) (hc : l.length ≤ c) (hs0 : 0 ≤ s) (hs1 : s < 4294967296) (hb : allB l) :
    Calls Try.prog 7 #[.slice A l.length c, .int .u32 s] w fun e w' => e = .returned (.bool true) ∧ Below w.heap.size w w' := by
  have HU := Aside0.mk (fun (W : World) (hW : Below w.heap.size w W) => unpack_calls A c s l W (Kd.C_below hl hW) hc hs0 hs1 hb)
  have HV := Aside0.mk (fun (W : World) (hW : Below w.heap.size w W) => unpidx_calls A c s l W (Kd.C_below hl hW) hc hs0 hs1 hb)
  have HS := Aside0.mk (fun (W : World) (hW : Below w.heap.size w W) (B : Option Addr) (d : Nat) (hB : Kd.C (Kd.int .u8) W B l.length l) => same_calls A B c d l l W (Kd.C_below hl hW) hB)
  unfold UnpPost at HU
  unfold UidxPost at HV
  have hll : (l == l) = true := by simp
  rw [hll] at HS
  have hcase := unpackI_cases l s
  have hcase2 := unpidxI_cases l s
  have hlm := (C_int_len hl).2
  clear hl hb hll
  rcases hcase with ⟨x, hx, hpx, hxl⟩ | hx
  · rw [hx] at HU
    have HPX := Aside0.mk hpx
    rcases hcase2 with ⟨y, hy, hpy, hyl⟩ | hy
    · exact (no_both hpx hpy).elim
    · rw [hy] at HV
      clear hx hy hpx
      go_enter Try.func7, Try.ntmps7
      go_wp2_with fail
      refine (awake_calls w).mono ?_
      rintro e w1 ⟨rfl, hb1⟩
      have HB := Aside0.mk hb1
      clear hb1
      dsimp only
      go_wp2_with fail
      refine (HU.out w1 HB.out).mono ?_
      rintro e w2 ⟨v2, rfl, ho2, hb2⟩
      have HB2 := Aside0.mk (below_then HB.out HB.out.size hb2)
      obtain ⟨A2, c2, rfl, hc2, hE2⟩ := OwnE.reads ho2 (by first | omega | (dsimp only; omega))
      have HE2 := Aside0.mk hE2
      clear hb2 ho2 hE2
      dsimp only at hc2 HE2 ⊢
      go_wp2_with fail
      refine (pack_calls A2 c2 s x w2 HE2.out hc2 hs0 hs1).mono ?_
      rintro e w3 ⟨v3, rfl, hr3, hb3⟩
      rw [HPX.out] at hr3 ⊢
      obtain ⟨A3, c3, rfl, hc3, hC3⟩ := (Own.of_R hr3).reads
      have HC3 := Aside0.mk hC3
      have HB3 := Aside0.mk (below_then HB2.out HB2.out.size hb3)
      clear hb3 hr3 hC3
      dsimp only at hc3 HC3 ⊢
      go_wp2_with fail
      refine (HS.out w3 HB3.out A3 c3 HC3.out).mono ?_
      rintro e w4 ⟨rfl, hb4⟩
      have HB4 := Aside0.mk (below_then HB3.out HB3.out.size hb4)
      clear hb4
      dsimp only
      go_wp2_with fail
      refine (HV.out w4 HB4.out).mono ?_
      rintro e w5 ⟨v5, rfl, ho5, hb5⟩
      have HB5 := Aside0.mk (below_then HB4.out HB4.out.size hb5)
      obtain ⟨A5, c5, rfl, hc5, hE5⟩ := OwnP.reads ho5 (by simp)
      clear hb5 ho5 hE5
      dsimp only at hc5 ⊢
      go_wp2
      go_ret
      exact ⟨rfl, HB5.out⟩
  · rw [hx] at HU
    rcases hcase2 with ⟨y, hy, hpy, hyl⟩ | hy
    · rw [hy] at HV
      have HPY := Aside0.mk hpy
      clear hx hy hpy
      go_enter Try.func7, Try.ntmps7
      go_wp2_with fail
      refine (awake_calls w).mono ?_
      rintro e w1 ⟨rfl, hb1⟩
      have HB := Aside0.mk hb1
      clear hb1
      dsimp only
      go_wp2_with fail
      refine (HU.out w1 HB.out).mono ?_
      rintro e w2 ⟨v2, rfl, ho2, hb2⟩
      have HB2 := Aside0.mk (below_then HB.out HB.out.size hb2)
      clear hb2 ho2
      dsimp only
      go_wp2_with fail
      refine (HV.out w2 HB2.out).mono ?_
      rintro e w3 ⟨v3, rfl, ho3, hb3⟩
      have HB3 := Aside0.mk (below_then HB2.out HB2.out.size hb3)
      obtain ⟨A3, c3, rfl, hc3, hE3⟩ := OwnP.reads ho3 (by first | omega | (dsimp only; omega))
      have HE3 := Aside0.mk hE3
      clear hb3 ho3 hE3
      dsimp only at hc3 HE3 ⊢
      go_wp2_with fail
      refine (pidx_calls A3 c3 s y w3 HE3.out hc3 hs0 hs1).mono ?_
      rintro e w4 ⟨v4, rfl, hr4, hb4⟩
      rw [HPY.out] at hr4 ⊢
      obtain ⟨A4, c4, rfl, hc4, hC4⟩ := (Own.of_R hr4).reads
      have HC4 := Aside0.mk hC4
      have HB4 := Aside0.mk (below_then HB3.out HB3.out.size hb4)
      clear hb4 hr4 hC4
      dsimp only at hc4 HC4 ⊢
      go_wp2_with fail
      refine (HS.out w4 HB4.out A4 c4 HC4.out).mono ?_
      rintro e w5 ⟨rfl, hb5⟩
      have HB5 := Aside0.mk (below_then HB4.out HB4.out.size hb5)
      clear hb5
      dsimp only
      go_wp2
      go_ret
      exact ⟨rfl, HB5.out⟩
    · rw [hy] at HV
      clear hx hy
      go_enter Try.func7, Try.ntmps7
      go_wp2_with fail
      refine (awake_calls w).mono ?_
      rintro e w1 ⟨rfl, hb1⟩
      have HB := Aside0.mk hb1
      clear hb1
      dsimp only
      go_wp2_with fail
      refine (HU.out w1 HB.out).mono ?_
      rintro e w2 ⟨v2, rfl, ho2, hb2⟩
      have HB2 := Aside0.mk (below_then HB.out HB.out.size hb2)
      clear hb2 ho2
      dsimp only
      go_wp2_with fail
      refine (HV.out w2 HB2.out).mono ?_
      rintro e w5 ⟨v5, rfl, ho5, hb5⟩
      have HB5 := Aside0.mk (below_then HB2.out HB2.out.size hb5)
      obtain ⟨A5, c5, rfl, hc5, hE5⟩ := OwnP.reads ho5 (by simp)
      clear hb5 ho5 hE5
      dsimp only at hc5 ⊢
      go_wp2
      go_ret
      exact ⟨rfl, HB5.out⟩

theorem allB_wf {l : List Int} (h : ∀ x ∈ l, (Lit.int .u8 x).wf = true) : allB l := fun x hx => by
  have := h x hx
  simp [Lit.wf, IntKind.min, IntKind.max, IntKind.bits, IntKind.signed] at this
  omega
theorem wf_u32 {x : Int} (h : (Lit.int .u32 x).wf = true) : 0 ≤ x ∧ x < 4294967296 := by
  simp [Lit.wf, IntKind.min, IntKind.max, IntKind.bits, IntKind.signed] at h
  omega
theorem only_walk (a0 : Option Addr) (len0 cap0 : Nat) (z0 : List Int) (a1 : Int) (w : World)
    (w0 : (a0 = none ∧ len0 = 0 ∧ cap0 = 0 ∧ z0 = []) ∨ ∃ x, a0 = some x ∧ len0 ≤ cap0 ∧ cap0 ≤ maxLen ∧ z0.length = cap0 ∧ (∀ i, i < z0.length → w.cell? (x.add i) = some (.int .u8 (z0.getD i 0))) ∧ ∀ n ∈ z0, (Lit.int .u8 n).wf = true)
    (y0 : len0 * 1 ≤ 140737488351232) (w1 : (Lit.int .u32 a1).wf = true) :
    Calls Try.prog 7 #[.slice a0 len0 cap0, .int .u32 a1] w fun e w' => e = .returned (.bool true) ∧ Below w.heap.size w w' := by
  obtain ⟨l, rfl, hr, hm, hw, hc⟩ := ReadsInt.ofRowC w0
  exact only_calls a0 cap0 a1 l w (Kd.C_of_reads (d := (0 : Int)) (h1 := fun _ => rfl) hr) hc (wf_u32 w1).1 (wf_u32 w1).2 (allB_wf hw)
end Go.Proofs.Ytjggkaieagbjmaa.Hand
