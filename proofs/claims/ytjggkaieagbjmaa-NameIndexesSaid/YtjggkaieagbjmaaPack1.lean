/- Package name: a block of entries is packed as the plain functions say, for every list of entries. -/
import Derived.Test.YtjggkaieagbjmaaPack0
namespace Go.Proofs.Ytjggkaieagbjmaa.Hand
set_option linter.unusedVariables false
set_option linter.unusedSimpArgs false
open Go.Shelf Go.RowKit Go.Proofs.YtjggkaieagbjmaaW.PrintWords Go.Proofs.YtjggkaieagbjmaaW.PrintLast Go.Proofs.YtjggkaieagbjmaaW.PrintMore

theorem entOk_not {l : List Ent} {k : Nat} (hk : k < l.length) (h : ¬ entOk l k) (s : Int) : packI l s = ([], 22) := by
  unfold packI
  rw [if_neg (fun hh => h (hh k hk))]

/-- What PackLeaf's call leaves. -/
def PackPost (l : List Ent) (s : Int) (w : World) (e : Ending) (w' : World) : Prop :=
  ∃ v, e = .returned (.tuple #[v, .int .i64 (packI l s).2]) ∧ Kd.R (Kd.int .u8) 5 w' w.heap.size (fun _ => True) v (packI l s).1 ∧ Below w.heap.size w w'
theorem packPost_bad {l : List Ent} {s : Int} {w w' : World} {e : Ending} (hp : packI l s = ([], 22)) (he : e = .returned (.tuple #[.slice none 0 0, .int .i64 22])) (hb : Below w.heap.size w w') : PackPost l s w e w' :=
  ⟨.slice none 0 0, by rw [hp]; exact he, by rw [hp]; exact Kd.R_nil _ _ _ _ _, hb⟩

/-- The rounds that look at each entry are done: what is left. -/
def Looked (l : List Ent) (k : Nat) : Prop := ∀ j, j < k → entOk l j

set_option maxHeartbeats 16000000 in
set_option maxRecDepth 100000 in
theorem pack_calls (A : Option Addr) (c : Nat) (s : Int) (l : List Ent) (w : World) (hl : Ents w A l) (hc : l.length ≤ c) (hs0 : 0 ≤ s) (hs1 : s < 4294967296) :
    Calls Try.prog 16 #[.slice A l.length c, .int .u32 s] w (PackPost l s w) := by
  have HL := Aside0.mk hl
  have hsz := hl.size
  clear hl
  go_enter Try.func16, Try.ntmps16
  go_wp2
  go_loopg [13] l.length (fun g i wr => ∃ k : Nat, k + g = l.length ∧ i = .int .i64 k ∧ Aside0 (Below w.heap.size w wr) ∧ Aside0 (Looked l k))
  case atStart => exact ⟨0, by omega, rfl, ⟨Below.refl _ _⟩, ⟨fun j hj => absurd hj (by omega)⟩⟩
  case round =>
    obtain ⟨k, hk, rfl, HB, HK⟩ := hrel
    cases gk with
    | zero =>
      obtain rfl : k = l.length := by omega
      have HE := Aside0.mk (HL.out.below HB.out)
      have H60 := Aside0.mk (fun (j : Nat) (hj : j < l.length) => chk_size (HK.out j hj).2.2.2.2.1)
      have hall : entsOk l := fun j hj => HK.out j hj
      obtain ⟨y, hy⟩ : ∃ y, sizeI l = y := ⟨_, rfl⟩
      have hpk : packI l s = if 250 < y then ([], 28) else (sealL (pad (packB l)) s, 0) := by unfold packI; rw [if_pos hall, hy]
      have HP := Aside0.mk hpk
      have HY := Aside0.mk hy
      clear hpk hall hy
      by_cases h250 : 250 < y
      · go_wp2_with (go_at_call 36; refine (size_calls A c l _ HE.out H60.out).mono ?_; rintro e w1 ⟨rfl, hb1⟩; rw [HY.out])
        go_ret2
        exact ⟨.slice none 0 0, by rw [HP.out, if_pos h250]; rfl, by rw [HP.out, if_pos h250]; exact Kd.R_nil _ _ _ _ _, below_then HB.out HB.out.size hb1⟩
      · go_wp2_with (go_at_call 36; refine (size_calls A c l _ HE.out H60.out).mono ?_; rintro e w1 ⟨rfl, hb1⟩; rw [HY.out])
        have HE1 := Aside0.mk (HE.out.below hb1)
        have hr1 : Row (w1.alloc (.cells #[.int .u8 1, .int .u8 ((l.length : Int) % 256)] 5)) .u8 w1.heap.size 5 [1, (l.length : Int) % 256] := alloc_last _ _
        have ho1 := own_of_row (n := 2) (base := w.heap.size) hr1 rfl (below_then HB.out HB.out.size hb1).size (by simp [maxLen])
        have HO1 := Aside0.mk ho1
        have HB1 := Aside0.mk (below_alloc (below_then HB.out HB.out.size hb1) (.cells #[.int .u8 1, .int .u8 ((l.length : Int) % 256)] 5))
        have HE2 := Aside0.mk (HE1.out.below (below_alloc (Below.refl _ _) (.cells #[.int .u8 1, .int .u8 ((l.length : Int) % 256)] 5)))
        clear hb1 hr1 ho1
        generalize w1.alloc (.cells #[.int .u8 1, .int .u8 ((l.length : Int) % 256)] 5) = w2 at HO1 HB1 HE2 ⊢
        generalize w1.heap.size = g1 at HO1 ⊢
        go_loopg [8, 68] l.length (fun g v i wr => ∃ k : Nat, k + g = l.length ∧ i = .int .i64 k ∧ Aside0 (Own wr w.heap.size 5 .u8 v ([1, (l.length : Int) % 256] ++ (l.take k).flatMap entB)) ∧ Aside0 (Below w.heap.size w wr) ∧ Aside0 (Ents wr A l))
        case atStart => exact ⟨0, by omega, rfl, HO1, HB1, HE2⟩
        case round =>
          obtain ⟨k, hk, rfl, HO, HB3, HE3⟩ := hrel
          cases gk with
          | zero =>
            obtain rfl : k = l.length := by omega
            have hbs := HO.out
            rw [List.take_length] at hbs
            have hlen : ((([1, (l.length : Int) % 256] ++ l.flatMap entB).length : Nat) : Int) = 2 + y := by
              rw [← HY.out, sizeI_eq]
              simp only [List.length_append, List.length_cons, List.length_nil]
              omega
            obtain ⟨q, hq⟩ : ∃ q, [1, (l.length : Int) % 256] ++ l.flatMap entB = q := ⟨_, rfl⟩
            have hpk : packB l = q := hq
            rw [hq] at hlen hbs
            clear hq HO
            obtain ⟨A', c', rfl, hcc, hCC⟩ := hbs.reads
            have HPK := Aside0.mk hpk
            have HC := Aside0.mk hCC
            have hq256 : q.length ≤ 256 := by omega
            clear hbs hpk hCC hlen
            go_wp2_with (go_at_call 37; refine (sealed_calls A' c' s q _ HC.out hq256 hs0 hs1).mono ?_; rintro e w7 ⟨g7, rfl, hg7, hr7, hb7⟩)
            go_ret2
            have hsl : (sealL (pad q) s).length = 256 := by unfold sealL; rw [layL_length]; exact pad_length q hq256
            have hbb := below_then HB3.out HB3.out.size hb7
            refine ⟨.slice (some ⟨g7, 0, none⟩) 256 256, ?_, ?_, hbb⟩
            · rw [HP.out, if_neg (Int.not_lt.2 h250)]; rfl
            · rw [HP.out, if_neg (Int.not_lt.2 h250), HPK.out]
              exact (own_of_row hr7 hsl (Nat.le_trans HB3.out.size hg7) (by simp [maxLen])).to_R
          | succ g =>
            obtain ⟨ad, rfl, h1, h2, h3⟩ := HE3.out.cells k (by omega)
            have h60 := H60.out k (by omega)
            have hsn := packB_snoc l k (by omega)
            have hsz1 := size_mono l (k + 1) (by omega)
            rw [sizeI_eq] at hsz1
            obtain ⟨x, hx⟩ : ∃ x, entAt l k = x := ⟨_, rfl⟩
            rw [hx] at h1 h2 h3 h60 hsn
            rw [hsn, HY.out, List.length_append, entB_length] at hsz1
            have HSN := Aside0.mk hsn
            clear hsn hx
            have hsz2 := hsz1.2
            clear hsz1
            obtain ⟨m, hm⟩ : ∃ m, ((l.take k).flatMap entB).length = m := ⟨_, rfl⟩
            rw [hm] at hsz2
            have HM := Aside0.mk hm
            clear hm
            obtain ⟨i0, hi, hz0, hz1, hz2⟩ := info_parts infoU8
            have HBa := Aside0.mk (fun o1 o2 => below_alloc (below_alloc HB3.out o1) o2)
            have HOa := Aside0.mk (fun o1 o2 => HO.out.below (below_alloc (below_alloc (Below.refl _ _) o1) o2))
            have HEa := Aside0.mk (fun o1 o2 => HE3.out.below (below_alloc (below_alloc (Below.refl _ _) o1) o2))
            have hcx := fun o2 => pw_cell_below (below_alloc (Below.refl _ (wr.alloc (.cells #[.int .i64 x.ino, .int .i64 x.kind, .string x.name] 61))) o2) (cell_alloc wr #[.int .i64 x.ino, .int .i64 x.kind, .string x.name] 61 2 _ rfl)
            have HCX := Aside0.mk hcx
            have HLT := Aside0.mk (fun g hg => HO.out.lt g hg)
            have HBS := Aside0.mk (fun g hg => HO.out.base g hg)
            have hws := HB3.out.size
            clear hcx
            go_wp2_with (first
              | ((with_reducible refine gate_dst (N := 88) rfl ?_); refine wpList_append_own _ rfl (.tmp 72) (.tmp 87) 30 rfl w.heap.size 5 i0 (.int .u8 0) 1 1 Try.underlying30 hi hz0 hz1 hz2 rfl (by decide) _ _ _ rfl (HOa.out _ _) ⟨wr.heap.size + 1, 0, none⟩ 4 4 [.int .u8 (x.ino % 256), .int .u8 (x.ino / 256 % 256), .int .u8 (x.kind % 256), .int .u8 (x.name.size : Int)] rfl rfl ?c1 ?c2 ?c3 ?c4 ?c5 ?_; (case c1 => (intro j u hj; rw [add_plain, show wr.heap.size + 1 = (wr.alloc (.cells #[.int .i64 x.ino, .int .i64 x.kind, .string x.name] 61)).heap.size by simp]; exact cell_alloc _ _ _ j u (by simpa using hj))); (case c2 => simp [Value.oneCell']); (case c3 => (simp [maxLen, HM.out]; omega)); (case c4 => (simp [HM.out]; omega)); (case c5 => (simp; omega)); intro v1 w5 hown1 hgrow1 _; have HO5 := Aside0.mk (own_snoc (ys := [x.ino % 256, x.ino / 256 % 256, x.kind % 256, (x.name.size : Int)]) hown1 rfl rfl); have HB5 := Aside0.mk (pw_below_grown (HBa.out _ _) _ (by simp; omega) hgrow1 HBS.out); have hx5 := grown_cell hgrow1 (HCX.out _) (fun k' hk' => by have := HLT.out k' hk'; simp; omega); clear hown1 hgrow1 hz0 hz1 hz2 hi)
              | ((with_reducible refine gate_dst (N := 92) rfl ?_); refine print_append_str (w0 := w) w.heap.size rfl (.tmp 89) _ 30 9 5 rfl Try.underlying30 Try.underlying9 infoU8 _ _ x.name rfl rfl HO5.out HB5.out HB5.out.size ?d1 ?_; (case d1 => (simp [HM.out]; omega)); intro v2 w6 hown2 hb6 _; have HO6 := Aside0.mk hown2; have HB6 := Aside0.mk hb6; clear hown2 hb6 hx5))
            go_roundg g
            case measure => omega
            case rel =>
              refine ⟨k + 1, by omega, by go_num, ⟨?_⟩, HB6, ⟨HL.out.below HB6.out⟩⟩
              have e : [1, (l.length : Int) % 256] ++ (l.take (k + 1)).flatMap entB = [1, (l.length : Int) % 256] ++ (l.take k).flatMap entB ++ [x.ino % 256, x.ino / 256 % 256, x.kind % 256, (x.name.size : Int)] ++ bytesOf x.name := by
                rw [HSN.out]
                have : (x.name.size : Int) % 256 = x.name.size := by omega
                simp [entB, this]
              rw [e]
              exact HO6.out
    | succ g =>
      obtain ⟨ad, rfl, h1, h2, h3⟩ := (HL.out.below HB.out).cells k (by omega)
      have hkl : k < l.length := by omega
      have HNOT := Aside0.mk (fun h => entOk_not hkl h s)
      have hp3 : k ≠ 0 → wr.cell? ⟨(ad.add ((k - 1) * 3)).block, (ad.add ((k - 1) * 3)).off + 2, none⟩ = some (.string (entAt l (k - 1)).name) := fun hk0 => by
        obtain ⟨ad', e, _, _, h⟩ := (HL.out.below HB.out).cells (k - 1) (by omega)
        cases e
        exact h
      have hok : entOk l k ↔ ¬ (entAt l k).ino < 1 ∧ ¬ 65535 < (entAt l k).ino ∧ ¬ (entAt l k).kind < 1 ∧ ¬ 3 < (entAt l k).kind ∧ chkI (entAt l k).name = 0 ∧ (0 < k → lessB (entAt l (k - 1)).name (entAt l k).name = true) := Iff.rfl
      obtain ⟨x, hx⟩ : ∃ x, entAt l k = x := ⟨_, rfl⟩
      obtain ⟨z, hz⟩ : ∃ z, (entAt l (k - 1)).name = z := ⟨_, rfl⟩
      rw [hx] at h1 h2 h3 hok
      have HZ := Aside0.mk (fun (h0 : 0 < k) => chk_size (HK.out (k - 1) (by omega)).2.2.2.2.1)
      rw [hz] at hok hp3 HZ
      have HOK := Aside0.mk hok
      have HP3 := Aside0.mk hp3
      have hbl := fun o => below_alloc HB.out o
      clear hx hz hok hp3
      go_wp2
      have n1 := cell_alloc wr #[.int .i64 x.ino, .int .i64 x.kind, .string x.name] 61 0 _ rfl
      have n2 := cell_alloc wr #[.int .i64 x.ino, .int .i64 x.kind, .string x.name] 61 1 _ rfl
      have n3 := cell_alloc wr #[.int .i64 x.ino, .int .i64 x.kind, .string x.name] 61 2 _ rfl
      have n4 : k ≠ 0 → (wr.alloc (.cells #[.int .i64 x.ino, .int .i64 x.kind, .string x.name] 61)).cell? ⟨(ad.add ((k - 1) * 3)).block, (ad.add ((k - 1) * 3)).off + 2, none⟩ = some (.string z) := fun h => pw_cell_below (below_alloc (Below.refl _ _) _) (HP3.out h)
      have hb0 := hbl (.cells #[.int .i64 x.ino, .int .i64 x.kind, .string x.name] 61)
      generalize wr.alloc (.cells #[.int .i64 x.ino, .int .i64 x.kind, .string x.name] 61) = w2 at n1 n2 n3 n4 hb0 ⊢
      generalize wr.heap.size = b2 at n1 n2 n3 ⊢
      have N4 := Aside0.mk n4
      have HB2 := Aside0.mk hb0
      have hbq := fun n => pw_below_drewN hb0 n
      have HBQ := Aside0.mk hbq
      clear hb0 hbl h1 h2 h3 n4 hbq
      by_cases c1 : x.ino < 1
      · go_quiet (fail)
        go_wp2
        go_ret2
        exact packPost_bad (HNOT.out (fun h => by have := HOK.out.1 h; omega)) rfl (HBQ.out _)
      · by_cases c2 : 65535 < x.ino
        · go_quiet (fail)
          go_wp2
          go_ret2
          exact packPost_bad (HNOT.out (fun h => by have := HOK.out.1 h; omega)) rfl (HBQ.out _)
        · by_cases c3 : x.kind < 1
          · go_quiet (fail)
            go_wp2
            go_ret2
            exact packPost_bad (HNOT.out (fun h => by have := HOK.out.1 h; omega)) rfl (HBQ.out _)
          · by_cases c4 : 3 < x.kind
            · go_quiet (fail)
              go_wp2
              go_ret2
              exact packPost_bad (HNOT.out (fun h => by have := HOK.out.1 h; omega)) rfl (HBQ.out _)
            · by_cases c5 : chkI x.name = 0
              · have c5b : (chkI x.name != 0) = false := by simpa using c5
                have HC5 := Aside0.mk c5
                clear c5
                by_cases c6 : k = 0
                · subst c6
                  refine wp_region_in [0, 1, 0, 0, 0, 1, 0, 0, 0, 0, 1, 0, 0, 0, 0, 1, 0, 0, 0, 0, 1, 2, 0, 0, 0, 0, 0, 0, 0, 0, 0, 0, 0, 1, 0, 1, 2, 0, 0, 0] [] (fun w' => w'.cell? ⟨b2, 0, none⟩ = some (.int .i64 x.ino) ∧ w'.cell? ⟨b2, 1, none⟩ = some (.int .i64 x.kind) ∧ w'.cell? ⟨b2, 2, none⟩ = some (.string x.name)) (by kernel_rfl) rfl (by kernel_rfl) (fun _ _ _ _ h => h) ⟨n1, n2, n3⟩ ?_
                  iterate 21 (first
                    | (refine in_off0 (by rfl) ?_; simp only [Act.put, List.setIfInBounds_toArray, List.set_cons_zero, List.set_cons_succ, i64_w, i32_w])
                    | (refine in_off1 (by rfl) ?_; simp only [Act.put, List.setIfInBounds_toArray, List.set_cons_zero, List.set_cons_succ, i64_w, i32_w])
                    | (refine in_0 (v := ?_) (by rfl) rfl ?_ (a' := ?_) ?_ ?_; rotate_left; (intro w'; go_simp; with_reducible rfl); rotate_left; (simp only [Act.put, List.setIfInBounds_toArray, List.set_cons_zero, List.set_cons_succ, i64_w, i32_w]; rfl))
                    | (refine in_1 (v := ?_) (by rfl) rfl ?_ (a' := ?_) ?_ ?_; rotate_left; (rintro w' hs; go_split_ands; go_simp; with_reducible rfl); rotate_left; (simp only [Act.put, List.setIfInBounds_toArray, List.set_cons_zero, List.set_cons_succ, i64_w, i32_w]; rfl)))
                  refine in_2 (by rfl) (fun K hK => ?_)
                  go_simp
                  refine (check_calls x.name _).mono ?_
                  rintro e w3 ⟨rfl, hb3⟩
                  dsimp only
                  have m1 : w3.cell? _ = _ := pw_cell_below hb3 n1
                  have m2 : w3.cell? _ = _ := pw_cell_below hb3 n2
                  have m3 : w3.cell? _ = _ := pw_cell_below hb3 n3
                  refine hK _ _ ⟨m1, m2, m3⟩ ?_
                  have HB3 := Aside0.mk (below_then (below_drew HB2.out) HB2.out.size hb3)
                  clear hK K hb3
                  try simp only [Act.put, List.setIfInBounds_toArray, List.set_cons_zero, List.set_cons_succ, i64_w, i32_w]
                  iterate 18 (first
                    | (refine in_off0 (by rfl) ?_; simp only [Act.put, List.setIfInBounds_toArray, List.set_cons_zero, List.set_cons_succ, i64_w, i32_w])
                    | (refine in_off1 (by rfl) ?_; simp only [Act.put, List.setIfInBounds_toArray, List.set_cons_zero, List.set_cons_succ, i64_w, i32_w])
                    | (refine in_off2 ⟨m1, m2, m3⟩ (by rfl) ?_; simp only [Act.put, List.setIfInBounds_toArray, List.set_cons_zero, List.set_cons_succ, i64_w, i32_w])
                    | (refine in_0 (v := ?_) (by rfl) rfl ?_ (a' := ?_) ?_ ?_; rotate_left; (intro w'; go_simp; with_reducible rfl); rotate_left; (simp only [Act.put, List.setIfInBounds_toArray, List.set_cons_zero, List.set_cons_succ, i64_w, i32_w]; rfl))
                    | (refine in_1 (v := ?_) (by rfl) rfl ?_ (a' := ?_) ?_ ?_; rotate_left; (rintro w' hs; go_split_ands; go_simp; with_reducible rfl); rotate_left; (simp only [Act.put, List.setIfInBounds_toArray, List.set_cons_zero, List.set_cons_succ, i64_w, i32_w]; rfl)))
                  refine in_nil ?_
                  go_wp2
                  go_roundg g
                  case measure => omega
                  case rel => exact ⟨0 + 1, by omega, by go_num, HB3, ⟨fun j hj => by
                    obtain rfl : j = 0 := by omega
                    exact HOK.out.2 ⟨by omega, by omega, by omega, by omega, HC5.out, fun h => absurd h (by omega)⟩⟩⟩
                · obtain ⟨k', rfl⟩ : ∃ k', k = k' + 1 := ⟨k - 1, by omega⟩
                  have n4 := N4.out (by omega)
                  simp only [Nat.add_sub_cancel] at n4
                  have hz60 : z.size ≤ 60 := HZ.out (by omega)
                  have hx60 : x.name.size ≤ 60 := chk_size HC5.out
                  have i1 : (k' : Int) < (l.length : Int) := by omega
                  have i2 : k' < l.length := by omega
                  have i3 : wrap64 (k' : Int) = (k' : Int) := by unfold wrap64; omega
                  obtain ⟨b, hb⟩ : ∃ b, lessB z x.name = b := ⟨_, rfl⟩
                  have HLB := Aside0.mk hb
                  clear hb c6
                  refine wp_region_in [0, 1, 0, 0, 0, 1, 0, 0, 0, 0, 1, 0, 0, 0, 0, 1, 0, 0, 0, 0, 1, 2, 0, 0, 0, 0, 0, 0, 0, 0, 0, 0, 0, 1, 0, 1, 2, 0, 0, 0] [] (fun w' => w'.cell? ⟨b2, 0, none⟩ = some (.int .i64 x.ino) ∧ w'.cell? ⟨b2, 1, none⟩ = some (.int .i64 x.kind) ∧ w'.cell? ⟨b2, 2, none⟩ = some (.string x.name) ∧ w'.cell? ⟨(ad.add (k' * 3)).block, (ad.add (k' * 3)).off + 2, none⟩ = some (.string z)) (by kernel_rfl) rfl (by kernel_rfl) (fun _ _ _ _ h => h) ⟨n1, n2, n3, n4⟩ ?_
                  iterate 21 (first
                    | (refine in_off0 (by rfl) ?_; simp only [Act.put, List.setIfInBounds_toArray, List.set_cons_zero, List.set_cons_succ, i64_w, i32_w])
                    | (refine in_off1 (by rfl) ?_; simp only [Act.put, List.setIfInBounds_toArray, List.set_cons_zero, List.set_cons_succ, i64_w, i32_w])
                    | (refine in_0 (v := ?_) (by rfl) rfl ?_ (a' := ?_) ?_ ?_; rotate_left; (intro w'; go_simp; with_reducible rfl); rotate_left; (simp only [Act.put, List.setIfInBounds_toArray, List.set_cons_zero, List.set_cons_succ, i64_w, i32_w]; rfl))
                    | (refine in_1 (v := ?_) (by rfl) rfl ?_ (a' := ?_) ?_ ?_; rotate_left; (rintro w' hs; go_split_ands; go_simp; with_reducible rfl); rotate_left; (simp only [Act.put, List.setIfInBounds_toArray, List.set_cons_zero, List.set_cons_succ, i64_w, i32_w]; rfl)))
                  refine in_2 (by rfl) (fun K hK => ?_)
                  go_simp
                  refine (check_calls x.name _).mono ?_
                  rintro e w3 ⟨rfl, hb3⟩
                  dsimp only
                  have m1 : w3.cell? _ = _ := pw_cell_below hb3 n1
                  have m2 : w3.cell? _ = _ := pw_cell_below hb3 n2
                  have m3 : w3.cell? _ = _ := pw_cell_below hb3 n3
                  have m4 : w3.cell? _ = _ := pw_cell_below hb3 n4
                  refine hK _ _ ⟨m1, m2, m3, m4⟩ ?_
                  have HB3 := Aside0.mk (below_then (below_drew HB2.out) HB2.out.size hb3)
                  clear hK K hb3
                  try simp only [Act.put, List.setIfInBounds_toArray, List.set_cons_zero, List.set_cons_succ, i64_w, i32_w]
                  iterate 14 (first
                    | (refine in_off0 (by rfl) ?_; simp only [Act.put, List.setIfInBounds_toArray, List.set_cons_zero, List.set_cons_succ, i64_w, i32_w])
                    | (refine in_off1 (by rfl) ?_; simp only [Act.put, List.setIfInBounds_toArray, List.set_cons_zero, List.set_cons_succ, i64_w, i32_w])
                    | (refine in_0 (v := ?_) (by rfl) rfl ?_ (a' := ?_) ?_ ?_; rotate_left; (intro w'; go_simp; with_reducible rfl); rotate_left; (simp only [Act.put, List.setIfInBounds_toArray, List.set_cons_zero, List.set_cons_succ, i64_w, i32_w]; rfl))
                    | (refine in_1 (v := ?_) (by rfl) rfl ?_ (a' := ?_) ?_ ?_; rotate_left; (rintro w' hs; go_split_ands; go_simp; with_reducible rfl); rotate_left; (simp only [Act.put, List.setIfInBounds_toArray, List.set_cons_zero, List.set_cons_succ, i64_w, i32_w]; rfl)))
                  refine in_2 (by rfl) (fun K hK => ?_)
                  go_simp
                  refine (less_calls z x.name _ (by omega) (by omega)).mono ?_
                  rintro e w4 ⟨rfl, hb4⟩
                  rw [HLB.out]
                  dsimp only
                  refine hK _ _ ⟨pw_cell_below hb4 m1, pw_cell_below hb4 m2, pw_cell_below hb4 m3, pw_cell_below hb4 m4⟩ ?_
                  have HB4 := Aside0.mk (below_then HB3.out HB3.out.size hb4)
                  clear hK K hb4
                  try simp only [Act.put, List.setIfInBounds_toArray, List.set_cons_zero, List.set_cons_succ, i64_w, i32_w]
                  cases b
                  · iterate 3 (first
                      | (refine in_off0 (by rfl) ?_; simp only [Act.put, List.setIfInBounds_toArray, List.set_cons_zero, List.set_cons_succ, i64_w, i32_w])
                      | (refine in_off1 (by rfl) ?_; simp only [Act.put, List.setIfInBounds_toArray, List.set_cons_zero, List.set_cons_succ, i64_w, i32_w])
                      | (refine in_0 (v := ?_) (by rfl) rfl ?_ (a' := ?_) ?_ ?_; rotate_left; (intro w'; go_simp; with_reducible rfl); rotate_left; (simp only [Act.put, List.setIfInBounds_toArray, List.set_cons_zero, List.set_cons_succ, i64_w, i32_w]; rfl))
                      | (refine in_1 (v := ?_) (by rfl) rfl ?_ (a' := ?_) ?_ ?_; rotate_left; (rintro w' hs; go_split_ands; go_simp; with_reducible rfl); rotate_left; (simp only [Act.put, List.setIfInBounds_toArray, List.set_cons_zero, List.set_cons_succ, i64_w, i32_w]; rfl)))
                    refine in_nil ?_
                    go_wp2
                    go_ret2
                    exact packPost_bad (HNOT.out (fun h => by have := (HOK.out.1 h).2.2.2.2.2 (by omega); rw [HLB.out] at this; cases this)) rfl HB4.out
                  · iterate 3 (first
                      | (refine in_off0 (by rfl) ?_; simp only [Act.put, List.setIfInBounds_toArray, List.set_cons_zero, List.set_cons_succ, i64_w, i32_w])
                      | (refine in_off1 (by rfl) ?_; simp only [Act.put, List.setIfInBounds_toArray, List.set_cons_zero, List.set_cons_succ, i64_w, i32_w])
                      | (refine in_0 (v := ?_) (by rfl) rfl ?_ (a' := ?_) ?_ ?_; rotate_left; (intro w'; go_simp; with_reducible rfl); rotate_left; (simp only [Act.put, List.setIfInBounds_toArray, List.set_cons_zero, List.set_cons_succ, i64_w, i32_w]; rfl))
                      | (refine in_1 (v := ?_) (by rfl) rfl ?_ (a' := ?_) ?_ ?_; rotate_left; (rintro w' hs; go_split_ands; go_simp; with_reducible rfl); rotate_left; (simp only [Act.put, List.setIfInBounds_toArray, List.set_cons_zero, List.set_cons_succ, i64_w, i32_w]; rfl)))
                    refine in_nil ?_
                    go_wp2
                    go_roundg g
                    case measure => omega
                    case rel => exact ⟨k' + 1 + 1, by omega, by go_num, HB4, ⟨fun j hj => by
                      by_cases e : j = k' + 1
                      · subst e
                        exact HOK.out.2 ⟨by omega, by omega, by omega, by omega, HC5.out, fun _ => HLB.out⟩
                      · exact HK.out j (by omega)⟩⟩
              · have c5b : (chkI x.name != 0) = true := by simpa using c5
                have HC5 := Aside0.mk c5
                clear c5
                refine wp_region_in [0, 1, 0, 0, 0, 1, 0, 0, 0, 0, 1, 0, 0, 0, 0, 1, 0, 0, 0, 0, 1, 2, 0, 0, 0, 0, 0, 0, 0, 0, 0, 0, 0, 1, 0, 1, 2, 0, 0, 0] [] (fun w' => w'.cell? ⟨b2, 0, none⟩ = some (.int .i64 x.ino) ∧ w'.cell? ⟨b2, 1, none⟩ = some (.int .i64 x.kind) ∧ w'.cell? ⟨b2, 2, none⟩ = some (.string x.name)) (by kernel_rfl) rfl (by kernel_rfl) (fun _ _ _ _ h => h) ⟨n1, n2, n3⟩ ?_
                iterate 21 (first
                  | (refine in_off0 (by rfl) ?_; simp only [Act.put, List.setIfInBounds_toArray, List.set_cons_zero, List.set_cons_succ, i64_w, i32_w])
                  | (refine in_off1 (by rfl) ?_; simp only [Act.put, List.setIfInBounds_toArray, List.set_cons_zero, List.set_cons_succ, i64_w, i32_w])
                  | (refine in_0 (v := ?_) (by rfl) rfl ?_ (a' := ?_) ?_ ?_; rotate_left; (intro w'; go_simp; with_reducible rfl); rotate_left; (simp only [Act.put, List.setIfInBounds_toArray, List.set_cons_zero, List.set_cons_succ, i64_w, i32_w]; rfl))
                  | (refine in_1 (v := ?_) (by rfl) rfl ?_ (a' := ?_) ?_ ?_; rotate_left; (rintro w' hs; go_split_ands; go_simp; with_reducible rfl); rotate_left; (simp only [Act.put, List.setIfInBounds_toArray, List.set_cons_zero, List.set_cons_succ, i64_w, i32_w]; rfl)))
                refine in_2 (by rfl) (fun K hK => ?_)
                go_simp
                refine (check_calls x.name _).mono ?_
                rintro e w3 ⟨rfl, hb3⟩
                dsimp only
                have m1 : w3.cell? _ = _ := pw_cell_below hb3 n1
                have m2 : w3.cell? _ = _ := pw_cell_below hb3 n2
                have m3 : w3.cell? _ = _ := pw_cell_below hb3 n3
                refine hK _ _ ⟨m1, m2, m3⟩ ?_
                have HB3 := Aside0.mk (below_then (below_drew HB2.out) HB2.out.size hb3)
                clear hK K hb3
                try simp only [Act.put, List.setIfInBounds_toArray, List.set_cons_zero, List.set_cons_succ, i64_w, i32_w]
                iterate 18 (first
                  | (refine in_off0 (by rfl) ?_; simp only [Act.put, List.setIfInBounds_toArray, List.set_cons_zero, List.set_cons_succ, i64_w, i32_w])
                  | (refine in_off1 (by rfl) ?_; simp only [Act.put, List.setIfInBounds_toArray, List.set_cons_zero, List.set_cons_succ, i64_w, i32_w])
                  | (refine in_off2 ⟨m1, m2, m3⟩ (by rfl) ?_; simp only [Act.put, List.setIfInBounds_toArray, List.set_cons_zero, List.set_cons_succ, i64_w, i32_w])
                  | (refine in_0 (v := ?_) (by rfl) rfl ?_ (a' := ?_) ?_ ?_; rotate_left; (intro w'; go_simp; with_reducible rfl); rotate_left; (simp only [Act.put, List.setIfInBounds_toArray, List.set_cons_zero, List.set_cons_succ, i64_w, i32_w]; rfl))
                  | (refine in_1 (v := ?_) (by rfl) rfl ?_ (a' := ?_) ?_ ?_; rotate_left; (rintro w' hs; go_split_ands; go_simp; with_reducible rfl); rotate_left; (simp only [Act.put, List.setIfInBounds_toArray, List.set_cons_zero, List.set_cons_succ, i64_w, i32_w]; rfl)))
                refine in_nil ?_
                go_wp2
                go_ret2
                exact packPost_bad (HNOT.out (fun h => HC5.out (HOK.out.1 h).2.2.2.2.1)) rfl HB3.out
end Go.Proofs.Ytjggkaieagbjmaa.Hand
