/- The law's own turn of entries: the same entries, as the program's. -/
import Derived.Test.YtjggkaieagbjmaaUnp1
namespace Go.Proofs.Ytjggkaieagbjmaa.Hand
set_option linter.unusedVariables false
set_option linter.unusedSimpArgs false
open Go.Shelf Go.RowKit Go.Proofs.YtjggkaieagbjmaaW.PrintWords Go.Proofs.YtjggkaieagbjmaaW.PrintLast Go.Proofs.YtjggkaieagbjmaaW.PrintMore

set_option maxHeartbeats 1000000 in
set_option maxRecDepth 100000 in
theorem mine_calls (A : Option Addr) (c : Nat) (l : List Ent) (w : World) (hl : Ents w A l) (hn : l.length * 32 ≤ 140737488351232) :
    Calls Try.prog 17 #[.slice A l.length c] w fun e w' => ∃ v, e = .returned v ∧ OwnE w' w.heap.size v l ∧ Below w.heap.size w w' := by
  have HL := Aside0.mk hl
  have hsz := hl.size
  clear hl
  go_enter Try.func17, Try.ntmps17
  go_wp2
  go_loopg [3, 4] l.length (fun g v i wr => ∃ k : Nat, k + g = l.length ∧ i = .int .i64 k ∧ Aside0 (OwnE wr w.heap.size v (l.take k)) ∧ Aside0 (Below w.heap.size w wr))
  case atStart => exact ⟨0, by omega, rfl, ⟨own_nil _ _ _ _⟩, ⟨Below.refl _ _⟩⟩
  case round =>
    obtain ⟨k, hk, rfl, HO, HB⟩ := hrel
    cases gk with
    | zero =>
      obtain rfl : k = l.length := by omega
      have HO1 := HO.out
      rw [List.take_length] at HO1
      have HOO := Aside0.mk HO1
      clear HO1
      go_wp2
      go_ret
      exact ⟨_, rfl, HOO.out, HB.out⟩
    | succ g =>
      obtain ⟨ad, rfl, h1, h2, h3⟩ := (HL.out.below HB.out).cells k (by omega)
      have hkl : k < l.length := by omega
      have hsn : l.take (k + 1) = l.take k ++ [entAt l k] := by
        unfold entAt
        rw [List.take_succ_eq_append_getElem hkl]
        simp [List.getD_eq_getElem?_getD, hkl]
      obtain ⟨x, hx⟩ : ∃ x, entAt l k = x := ⟨_, rfl⟩
      rw [hx] at h1 h2 h3 hsn
      have HSN := Aside0.mk hsn
      have hlt : (l.take k).length = k := by rw [List.length_take]; omega
      have HLT := Aside0.mk hlt
      have hS : ∀ w', Below wr.heap.size wr w' → (w'.cell? (ad.add (k * 3)) = some (.int .i64 x.ino) ∧ w'.cell? ⟨(ad.add (k * 3)).block, (ad.add (k * 3)).off + 1, none⟩ = some (.int .i64 x.kind) ∧ w'.cell? ⟨(ad.add (k * 3)).block, (ad.add (k * 3)).off + 2, none⟩ = some (.string x.name)) := fun w' hb =>
        ⟨pw_cell_below hb h1, pw_cell_below hb h2, pw_cell_below hb h3⟩
      have HS := Aside0.mk hS
      clear hS hx hsn hlt h1 h2 h3
      have i1 : (k : Int) < (l.length : Int) := by omega
      go_wp2
      refine wp_region_in [0,0,0,0,0,1,0,0,0,0,1,0,0,0,0,1,0,2,3,0] [18] (fun w' => w'.cell? (ad.add (k * 3)) = some (.int .i64 x.ino) ∧ w'.cell? ⟨(ad.add (k * 3)).block, (ad.add (k * 3)).off + 1, none⟩ = some (.int .i64 x.kind) ∧ w'.cell? ⟨(ad.add (k * 3)).block, (ad.add (k * 3)).off + 2, none⟩ = some (.string x.name)) (by kernel_rfl) rfl (by kernel_rfl) (fun _ _ _ _ h => h) (HS.out _ (Below.refl _ _).drew) ?_
      iterate 17 (first
        | (refine in_off0 (by rfl) ?_; simp only [Act.put, List.setIfInBounds_toArray, List.set_cons_zero, List.set_cons_succ, i64_w, i32_w])
        | (refine in_off1 (by rfl) ?_; simp only [Act.put, List.setIfInBounds_toArray, List.set_cons_zero, List.set_cons_succ, i64_w, i32_w])
        | (refine in_0 (v := ?_) (by rfl) rfl ?_ (a' := ?_) ?_ ?_; rotate_left; (intro w'; go_simp; with_reducible rfl); rotate_left; (simp only [Act.put, List.setIfInBounds_toArray, List.set_cons_zero, List.set_cons_succ, i64_w, i32_w]; rfl))
        | (refine in_1 (v := ?_) (by rfl) rfl ?_ (a' := ?_) ?_ ?_; rotate_left; (rintro w' hs; go_split_ands; go_simp; with_reducible rfl); rotate_left; (simp only [Act.put, List.setIfInBounds_toArray, List.set_cons_zero, List.set_cons_succ, i64_w, i32_w]; rfl)))
      refine in_2 (by rfl) (fun K hK => ?_)
      go_simp
      have hb1 : Below wr.heap.size wr (wr.alloc (.cells #[.int .i64 x.ino, .int .i64 x.kind, .string x.name] 61)).drew := (below_alloc (Below.refl _ _) _).drew
      refine hK _ _ (HS.out _ hb1) ?_
      clear hK K
      try simp only [Act.put, List.setIfInBounds_toArray, List.set_cons_zero, List.set_cons_succ, i64_w, i32_w]
      refine in_3 (by rfl) (fun K hK => ?_)
      obtain ⟨e0, he, hz0, hz1, hz2⟩ := info_parts infoEnt
      have hown := HO.out.below hb1
      have hbw := below_then HB.out HB.out.size hb1
      refine wp_append_own _ (.tmp 11) (.tmp 28) 33 rfl w.heap.size 61 e0 (.agg #[.int .i64 0, .int .i64 0, .string ⟨#[]⟩]) 3 32 Try.underlying33 he hz0 hz1 hz2 rfl (by decide) u3 (l.take k).length ((l.take k).flatMap ecells) rfl hown ⟨wr.heap.size, 0, none⟩ 1 1 [.int .i64 x.ino, .int .i64 x.kind, .string x.name] rfl rfl ?c1 ?c2 (by rw [HLT.out]; simp only [maxLen]; omega) (by rw [HLT.out]; omega) hbw.size ?_
      case c1 =>
        intro j u hj
        rw [add_plain]
        exact cell_alloc wr _ _ j u (by simpa using hj)
      case c2 => simp [Value.oneCell']
      intro v' w' h2 h3 _
      have hown2 : OwnE w' w.heap.size v' (l.take k ++ [x]) := ownE_snoc h2 rfl
      have hbl2 := pw_below_grown hbw _ hbw.size h3 (own_base hown)
      have HO2 := Aside0.mk hown2
      have HB2 := Aside0.mk hbl2
      refine hK _ _ ?_
      clear hK K h2 h3 hown2 hbl2 hown hbw hb1
      try simp only [Act.put, List.setIfInBounds_toArray, List.set_cons_zero, List.set_cons_succ, i64_w, i32_w]
      refine out_0 (v := ?_) (by rfl) rfl ?_ (a' := ?_) ?_ ?_
      rotate_left
      · intro w'
        go_simp
        with_reducible rfl
      rotate_left
      · simp only [Act.put, List.setIfInBounds_toArray, List.set_cons_zero, List.set_cons_succ, i64_w, i32_w]
        rfl
      refine out_nil ?_
      go_wp2
      go_roundg g
      case measure => omega
      case rel => exact ⟨k + 1, by omega, by go_num, ⟨by rw [HSN.out]; exact HO2.out⟩, HB2⟩
end Go.Proofs.Ytjggkaieagbjmaa.Hand
