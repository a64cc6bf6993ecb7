/- The law's own turn of parts: the same parts, as the program's. -/
import Derived.Test.YtjggkaieagbjmaaUidx
namespace Go.Proofs.Ytjggkaieagbjmaa.Hand
set_option linter.unusedVariables false
set_option linter.unusedSimpArgs false
open Go.Shelf Go.RowKit Go.Proofs.YtjggkaieagbjmaaW.PrintWords Go.Proofs.YtjggkaieagbjmaaW.PrintLast Go.Proofs.YtjggkaieagbjmaaW.PrintMore

set_option maxHeartbeats 1000000 in
set_option maxRecDepth 100000 in
theorem parts_calls (A : Option Addr) (c : Nat) (l : List Prt) (w : World) (hl : Prts w A l) (hn : l.length * 16 ≤ 140737488351232) :
    Calls Try.prog 27 #[.slice A l.length c] w fun e w' => ∃ v, e = .returned v ∧ OwnP w' w.heap.size v l ∧ Below w.heap.size w w' := by
  have HL := Aside0.mk hl
  have hsz := hl.size
  clear hl
  go_enter Try.func27, Try.ntmps27
  go_wp2
  go_loopg [3, 4] l.length (fun g v i wr => ∃ k : Nat, k + g = l.length ∧ i = .int .i64 k ∧ Aside0 (OwnP wr w.heap.size v (l.take k)) ∧ Aside0 (Below w.heap.size w wr))
  case atStart => exact ⟨0, by omega, rfl, ⟨own_nil _ _ _ _⟩, ⟨Below.refl _ _⟩⟩
  case round =>
    obtain ⟨k, hk, rfl, HO, HB⟩ := hrel
    cases gk with
    | zero =>
      obtain rfl : k = l.length := by omega
      have HO1 := HO.out
      rw [List.take_length] at HO1
      have HOO := Aside0.mk HO1
      clear HO1
      go_wp2
      go_ret
      exact ⟨_, rfl, HOO.out, HB.out⟩
    | succ g =>
      obtain ⟨ad, rfl, h1, h2⟩ := (HL.out.below HB.out).cells k (by omega)
      have hkl : k < l.length := by omega
      have hsn : l.take (k + 1) = l.take k ++ [prtAt l k] := by
        unfold prtAt
        rw [List.take_succ_eq_append_getElem hkl]
        simp [List.getD_eq_getElem?_getD, hkl]
      obtain ⟨x, hx⟩ : ∃ x, prtAt l k = x := ⟨_, rfl⟩
      rw [hx] at h1 h2 hsn
      have HSN := Aside0.mk hsn
      have hlt : (l.take k).length = k := by rw [List.length_take]; omega
      have HLT := Aside0.mk hlt
      have hS : ∀ w', Below wr.heap.size wr w' → (w'.cell? (ad.add (k * 2)) = some (.int .u32 x.hash) ∧ w'.cell? ⟨(ad.add (k * 2)).block, (ad.add (k * 2)).off + 1, none⟩ = some (.int .i64 x.block)) := fun w' hb =>
        ⟨pw_cell_below hb h1, pw_cell_below hb h2⟩
      have HS := Aside0.mk hS
      clear hS hx hsn hlt h1 h2
      have i1 : (k : Int) < (l.length : Int) := by omega
      go_wp2
      refine wp_region_in [0,0,0,0,0,1,0,0,0,0,1,0,2,3,0] [13] (fun w' => w'.cell? (ad.add (k * 2)) = some (.int .u32 x.hash) ∧ w'.cell? ⟨(ad.add (k * 2)).block, (ad.add (k * 2)).off + 1, none⟩ = some (.int .i64 x.block)) (by kernel_rfl) rfl (by kernel_rfl) (fun _ _ _ _ h => h) (HS.out _ (Below.refl _ _).drew) ?_
      iterate 12 (first
        | (refine in_off0 (by rfl) ?_; simp only [Act.put, List.setIfInBounds_toArray, List.set_cons_zero, List.set_cons_succ, i64_w, i32_w])
        | (refine in_off1 (by rfl) ?_; simp only [Act.put, List.setIfInBounds_toArray, List.set_cons_zero, List.set_cons_succ, i64_w, i32_w])
        | (refine in_0 (v := ?_) (by rfl) rfl ?_ (a' := ?_) ?_ ?_; rotate_left; (intro w'; go_simp; with_reducible rfl); rotate_left; (simp only [Act.put, List.setIfInBounds_toArray, List.set_cons_zero, List.set_cons_succ, i64_w, i32_w]; rfl))
        | (refine in_1 (v := ?_) (by rfl) rfl ?_ (a' := ?_) ?_ ?_; rotate_left; (rintro w' hs; go_split_ands; go_simp; with_reducible rfl); rotate_left; (simp only [Act.put, List.setIfInBounds_toArray, List.set_cons_zero, List.set_cons_succ, i64_w, i32_w]; rfl)))
      refine in_2 (by rfl) (fun K hK => ?_)
      go_simp
      have hb1 : Below wr.heap.size wr (wr.alloc (.cells #[.int .u32 x.hash, .int .i64 x.block] 73)).drew := (below_alloc (Below.refl _ _) _).drew
      refine hK _ _ (HS.out _ hb1) ?_
      clear hK K
      try simp only [Act.put, List.setIfInBounds_toArray, List.set_cons_zero, List.set_cons_succ, i64_w, i32_w]
      refine in_3 (by rfl) (fun K hK => ?_)
      obtain ⟨e0, he, hz0, hz1, hz2⟩ := info_parts infoPrt
      have hown := HO.out.below hb1
      have hbw := below_then HB.out HB.out.size hb1
      refine wp_append_own _ (.tmp 11) (.tmp 23) 48 rfl w.heap.size 73 e0 (.agg #[.int .u32 0, .int .i64 0]) 2 16 Try.underlying48 he hz0 hz1 hz2 rfl (by decide) u3 (l.take k).length ((l.take k).flatMap pcells) rfl hown ⟨wr.heap.size, 0, none⟩ 1 1 [.int .u32 x.hash, .int .i64 x.block] rfl rfl ?c1 ?c2 (by rw [HLT.out]; simp only [maxLen]; omega) (by rw [HLT.out]; omega) hbw.size ?_
      case c1 =>
        intro j u hj
        rw [add_plain]
        exact cell_alloc wr _ _ j u (by simpa using hj)
      case c2 => simp [Value.oneCell']
      intro v' w' h2 h3 _
      have hown2 : OwnP w' w.heap.size v' (l.take k ++ [x]) := ownP_snoc h2 rfl
      have hbl2 := pw_below_grown hbw _ hbw.size h3 (own_base hown)
      have HO2 := Aside0.mk hown2
      have HB2 := Aside0.mk hbl2
      refine hK _ _ ?_
      clear hK K h2 h3 hown2 hbl2 hown hbw hb1
      try simp only [Act.put, List.setIfInBounds_toArray, List.set_cons_zero, List.set_cons_succ, i64_w, i32_w]
      refine out_0 (v := ?_) (by rfl) rfl ?_ (a' := ?_) ?_ ?_
      rotate_left
      · intro w'
        go_simp
        with_reducible rfl
      rotate_left
      · simp only [Act.put, List.setIfInBounds_toArray, List.set_cons_zero, List.set_cons_succ, i64_w, i32_w]
        rfl
      refine out_nil ?_
      go_wp2
      go_roundg g
      case measure => omega
      case rel => exact ⟨k + 1, by omega, by go_num, ⟨by rw [HSN.out]; exact HO2.out⟩, HB2⟩
end Go.Proofs.Ytjggkaieagbjmaa.Hand
