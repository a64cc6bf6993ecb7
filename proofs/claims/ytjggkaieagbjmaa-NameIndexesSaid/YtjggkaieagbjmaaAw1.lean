/- The document's examples hold of the program. -/
import Derived.Test.YtjggkaieagbjmaaAw0
namespace Go.Proofs.Ytjggkaieagbjmaa.Hand
set_option linter.unusedVariables false
set_option linter.unusedSimpArgs false
open Go.Shelf Go.RowKit Go.Proofs.YtjggkaieagbjmaaW.PrintWords Go.Proofs.YtjggkaieagbjmaaW.PrintLast Go.Proofs.YtjggkaieagbjmaaW.PrintMore

theorem ents_nil (w : World) : Ents w none [] := ⟨by simp, fun j hj => absurd hj (by simp)⟩
theorem ents_two (w : World) (x y : Ent) : Ents (w.alloc (.cells #[.int .i64 x.ino, .int .i64 x.kind, .string x.name, .int .i64 y.ino, .int .i64 y.kind, .string y.name] 61)) (some ⟨w.heap.size, 0, none⟩) [x, y] := by
  refine ⟨by simp, fun j hj => ⟨_, rfl, ?_, ?_, ?_⟩⟩
  all_goals rw [add_plain]
  all_goals
    rcases j with _ | _ | j
    · exact cell_alloc w _ _ _ _ rfl
    · exact cell_alloc w _ _ _ _ rfl
    · simp at hj; omega

theorem pack_two (x y : Ent) (w : World) (g : Nat) (hg : g = w.heap.size) (p : List Int) (n : Int) (hp : packI [x, y] 1 = (p, n)) :
    Calls Try.prog 16 #[.slice (some ⟨g, 0, none⟩) 2 2, .int .u32 1] (w.alloc (.cells #[.int .i64 x.ino, .int .i64 x.kind, .string x.name, .int .i64 y.ino, .int .i64 y.kind, .string y.name] 61))
      fun e w' => ∃ A1 c1, e = .returned (.tuple #[.slice A1 p.length c1, .int .i64 n]) ∧ p.length ≤ c1 ∧ Kd.C (Kd.int .u8) w' A1 p.length p ∧ Below w.heap.size w w' := by
  subst hg
  refine (pack_calls (some ⟨w.heap.size, 0, none⟩) 2 1 [x, y] _ (ents_two w x y) (by simp) (by omega) (by omega)).mono ?_
  rintro e w' ⟨v, rfl, hr, hb⟩
  obtain ⟨A1, c1, rfl, hc, hC⟩ := (Own.of_R hr).reads
  rw [hp] at hc hC ⊢
  exact ⟨A1, c1, rfl, hc, hC, below_then (below_alloc (Below.refl _ _) _) (by simp) hb⟩

set_option maxHeartbeats 4000000 in
set_option maxRecDepth 100000 in
theorem awake_calls (w : World) : Calls Try.prog 9 #[] w fun e w' => e = .returned (.bool true) ∧ Below w.heap.size w w' := by
  have e0 := aw_p0
  have e1 := aw_p1
  have e2 := aw_p2
  have e3 := aw_u0
  have e4 := aw_u1
  obtain ⟨⟨p0, n0⟩, hp0⟩ : ∃ p, packI [] 1 = p := ⟨_, rfl⟩
  obtain ⟨⟨p1, n1⟩, hp1⟩ : ∃ p, packI [entA, entBb] 1 = p := ⟨_, rfl⟩
  obtain ⟨⟨p2, n2⟩, hp2⟩ : ∃ p, packI [entBb, entA] 1 = p := ⟨_, rfl⟩
  rw [hp0] at e0
  rw [hp1] at e1
  rw [hp2] at e2
  rw [hp1] at e3 e4
  dsimp only at e0 e1 e2 e3 e4
  obtain ⟨⟨u1, u2⟩, hu⟩ : ∃ u, unpackI p1 1 = u := ⟨_, rfl⟩
  rw [hu] at e3 e4
  dsimp only at e3 e4
  subst e0 e1 e2 e3
  have hk0 := fun w => pack_calls none 0 1 [] w (ents_nil w) (by simp) (by omega) (by omega)
  unfold PackPost at hk0
  have hab := allB_pack [entA, entBb] 1
  rw [hp1] at hab
  rw [hp0] at hk0
  have HK0 := Aside0.mk hk0
  have HK1 := Aside0.mk (fun w g hg => pack_two entA entBb w g hg p1 0 hp1)
  have HK2 := Aside0.mk (fun w g hg => pack_two entBb entA w g hg p2 22 hp2)
  have HAB := Aside0.mk hab
  have HU := Aside0.mk hu
  have E4 := Aside0.mk e4
  clear hk0 hab hu hp0 hp1 hp2 e4
  go_enter Try.func9, Try.ntmps9
  go_wp2_with fail
  refine (HK0.out w).mono ?_
  rintro e w1 ⟨v0, rfl, _, hb1⟩
  have HB1 := Aside0.mk hb1
  clear hb1
  dsimp only
  go_wp2_with fail
  refine (HK1.out _ _ (by simp)).mono ?_
  rintro e w2 ⟨A1, c1, rfl, hc1, hC1, hb2⟩
  have HC1 := Aside0.mk hC1
  have HB2 := Aside0.mk (below_then (below_alloc (below_alloc HB1.out (.cells #[.int .i64 1, .int .i64 1, .string ⟨#[97]⟩] 61)) (.cells #[.int .i64 2, .int .i64 1, .string ⟨#[98]⟩] 61)) (below_alloc (below_alloc HB1.out _) _).size hb2)
  have n1 : w2.cell? ⟨w1.heap.size, 0, none⟩ = some (.int .i64 1) := pw_cell_below hb2 (pw_cell_below (below_alloc (Below.refl _ _) _) (cell_alloc w1 #[.int .i64 1, .int .i64 1, .string ⟨#[97]⟩] 61 0 _ rfl))
  have n2 : w2.cell? ⟨w1.heap.size, 1, none⟩ = some (.int .i64 1) := pw_cell_below hb2 (pw_cell_below (below_alloc (Below.refl _ _) _) (cell_alloc w1 #[.int .i64 1, .int .i64 1, .string ⟨#[97]⟩] 61 1 _ rfl))
  have n3 : w2.cell? ⟨w1.heap.size, 2, none⟩ = some (.string ⟨#[97]⟩) := pw_cell_below hb2 (pw_cell_below (below_alloc (Below.refl _ _) _) (cell_alloc w1 #[.int .i64 1, .int .i64 1, .string ⟨#[97]⟩] 61 2 _ rfl))
  have m1 : w2.cell? ⟨w1.heap.size + 1, 0, none⟩ = some (.int .i64 2) := pw_cell_below hb2 (by simp)
  have m2 : w2.cell? ⟨w1.heap.size + 1, 1, none⟩ = some (.int .i64 1) := pw_cell_below hb2 (by simp)
  have m3 : w2.cell? ⟨w1.heap.size + 1, 2, none⟩ = some (.string ⟨#[98]⟩) := pw_cell_below hb2 (by simp)
  clear hb2 hC1
  generalize w1.heap.size = b1 at n1 n2 n3 m1 m2 m3 ⊢
  dsimp only
  go_wp2_with fail
  refine (HK2.out _ _ (by simp)).mono ?_
  rintro e w3 ⟨A2, c2, rfl, hc2, hC2, hb3⟩
  have HB3 := Aside0.mk (below_then HB2.out HB2.out.size hb3)
  have HC3 := Aside0.mk (Kd.C_below HC1.out hb3)
  clear hb3 hC2 n1 n2 n3 m1 m2 m3
  dsimp only
  go_wp2_with fail
  refine (unpack_calls A1 c1 1 p1 _ HC3.out hc1 (by omega) (by omega) HAB.out).mono ?_
  rintro e w4 ⟨v4, rfl, ho4, hb4⟩
  rw [HU.out] at ho4 ⊢
  obtain ⟨A4, c4, rfl, hc4, hE4⟩ := ho4.reads (by rw [E4.out]; omega)
  rw [E4.out]
  have HB4 := Aside0.mk (below_then HB3.out HB3.out.size hb4)
  clear hb4 ho4 hE4 hc4
  dsimp only
  go_wp2_with fail
  refine (hash_calls ⟨#[]⟩ _ (by decide)).mono ?_
  rintro e w5 ⟨rfl, hb5⟩
  rw [aw_hash0]
  have HB5 := Aside0.mk (below_then HB4.out HB4.out.size hb5)
  clear hb5
  dsimp only
  go_wp2_with fail
  refine (hash_calls ⟨#[97]⟩ _ (by decide)).mono ?_
  rintro e w6 ⟨rfl, hb6⟩
  rw [aw_hash1]
  have HB6 := Aside0.mk (below_then HB5.out HB5.out.size hb6)
  clear hb6
  dsimp only
  go_wp2_with fail
  refine (less_calls ⟨#[97]⟩ ⟨#[98]⟩ _ (by decide) (by decide)).mono ?_
  rintro e w7 ⟨rfl, hb7⟩
  rw [aw_less]
  have HB7 := Aside0.mk (below_then HB6.out HB6.out.size hb7)
  clear hb7
  dsimp only
  go_wp2_with fail
  refine (check_calls ⟨#[97, 47, 98]⟩ _).mono ?_
  rintro e w8 ⟨rfl, hb8⟩
  rw [aw_check]
  have HB8 := Aside0.mk (below_then HB7.out HB7.out.size hb8)
  clear hb8
  dsimp only
  go_wp2_with fail
  refine (check_calls longN _).mono ?_
  rintro e w9 ⟨rfl, hb9⟩
  rw [aw_long]
  have HB9 := Aside0.mk (below_then HB8.out HB8.out.size hb9)
  clear hb9
  dsimp only
  go_wp2
  go_ret
  exact ⟨rfl, HB9.out⟩
end Go.Proofs.Ytjggkaieagbjmaa.Hand
