/- Package name: a block of parts is packed as the plain functions say, for every list of parts. -/
import Derived.Test.YtjggkaieagbjmaaIdx0
namespace Go.Proofs.Ytjggkaieagbjmaa.Hand
set_option linter.unusedVariables false
set_option linter.unusedSimpArgs false
open Go.Shelf Go.RowKit Go.Proofs.YtjggkaieagbjmaaW.PrintWords Go.Proofs.YtjggkaieagbjmaaW.PrintLast Go.Proofs.YtjggkaieagbjmaaW.PrintMore

/-- What PackIndex's call leaves. -/
def PidxPost (l : List Prt) (s : Int) (w : World) (e : Ending) (w' : World) : Prop :=
  ∃ v, e = .returned (.tuple #[v, .int .i64 (pidxI l s).2]) ∧ Kd.R (Kd.int .u8) 5 w' w.heap.size (fun _ => True) v (pidxI l s).1 ∧ Below w.heap.size w w'
theorem pidxPost_bad {l : List Prt} {s : Int} {w w' : World} {e : Ending} (hp : pidxI l s = ([], 22)) (he : e = .returned (.tuple #[.slice none 0 0, .int .i64 22])) (hb : Below w.heap.size w w') : PidxPost l s w e w' :=
  ⟨.slice none 0 0, by rw [hp]; exact he, by rw [hp]; exact Kd.R_nil _ _ _ _ _, hb⟩
theorem zero256b : ∀ w, (zeroValue 74).run Try.prog w = .ok (.agg (Array.replicate 256 (.bool false))) w := fun _ => by kernel_rfl
def LookedP (l : List Prt) (k : Nat) : Prop := ∀ j, j < k → prtOk l j

set_option maxHeartbeats 16000000 in
set_option maxRecDepth 100000 in
theorem pidx_calls (A : Option Addr) (c : Nat) (s : Int) (l : List Prt) (w : World) (hl : Prts w A l) (hc : l.length ≤ c) (hs0 : 0 ≤ s) (hs1 : s < 4294967296) :
    Calls Try.prog 26 #[.slice A l.length c, .int .u32 s] w (PidxPost l s w) := by
  have hsz := hl.size
  by_cases h1 : l.length < 1
  · have hp : pidxI l s = ([], 22) := by unfold pidxI; rw [if_pos (.inl h1)]
    clear hl
    go_enter Try.func26, Try.ntmps26
    go_wp2
    go_ret2
    exact pidxPost_bad hp rfl (Below.refl _ _)
  · by_cases h40 : 40 < l.length
    · have hp : pidxI l s = ([], 22) := by unfold pidxI; rw [if_pos (.inr (.inl h40))]
      clear hl
      go_enter Try.func26, Try.ntmps26
      go_wp2
      go_ret2
      exact pidxPost_bad hp rfl (Below.refl _ _)
    · obtain ⟨ad, rfl, h0, _⟩ := hl.cells 0 (by omega)
      have h0' : w.cell? ad = some (.int .u32 (prtAt l 0).hash) := h0
      clear h0
      by_cases hz : (prtAt l 0).hash = 0
      · rw [hz] at h0'
        have HL := Aside0.mk hl
        have hpk : pidxI l s = if prtsOk l then (sealL (pad (pidxB l)) s, 0) else ([], 22) := by
          unfold pidxI
          rw [if_neg]
          rintro (h | h | h)
          · exact h1 h
          · exact h40 h
          · exact h hz
        have HP := Aside0.mk hpk
        have hzz := zero256b
        clear hl hpk hz
        go_enter Try.func26, Try.ntmps26
        go_wp2
        have hr1 : Row (w.alloc (.cells #[.int .u8 2, .int .u8 ((l.length : Int))] 5)) .u8 w.heap.size 5 [2, (l.length : Int)] := alloc_last _ _
        have HO1 := Aside0.mk (Own.below (own_of_row (n := 2) (base := w.heap.size) hr1 rfl (Nat.le_refl _) (by simp [maxLen])) (below_alloc (Below.refl _ _) (.cells (Array.replicate 256 (.bool false)) 74)))
        have HB1 := Aside0.mk (below_alloc (below_alloc (Below.refl w.heap.size w) (.cells #[.int .u8 2, .int .u8 ((l.length : Int))] 5)) (.cells (Array.replicate 256 (.bool false)) 74))
        have hs1 : Seen ((w.alloc (.cells #[.int .u8 2, .int .u8 ((l.length : Int))] 5)).alloc (.cells (Array.replicate 256 (.bool false)) 74)) (w.heap.size + 1) l 0 := ⟨Array.replicate 256 (.bool false), alloc_at _ _ _ (by simp), by simp, fun j hj => by simp [seenB, hj]⟩
        have HS1 := Aside0.mk hs1
        clear hr1 hs1
        have hgw : w.heap.size ≤ w.heap.size + 1 := by omega
        generalize (w.alloc (.cells #[.int .u8 2, .int .u8 ((l.length : Int))] 5)).alloc (.cells (Array.replicate 256 (.bool false)) 74) = w1 at HO1 HB1 HS1 ⊢
        generalize hgs : w.heap.size + 1 = gs at HS1 hgw ⊢
        clear hgs
        go_loopg [6, 31] l.length (fun g v i wr => ∃ k : Nat, k + g = l.length ∧ i = .int .i64 k ∧ Aside0 (Own wr w.heap.size 5 .u8 v ([2, (l.length : Int)] ++ (l.take k).flatMap prtB)) ∧ Aside0 (Seen wr gs l k) ∧ Aside0 (Below w.heap.size w wr) ∧ Aside0 (LookedP l k))
        case atStart => exact ⟨0, by omega, rfl, HO1, HS1, HB1, ⟨fun j hj => absurd hj (by omega)⟩⟩
        case round =>
          obtain ⟨k, hk, rfl, HO, HS, HB, HK⟩ := hrel
          cases gk with
          | zero =>
            obtain rfl : k = l.length := by omega
            have hall : prtsOk l := fun j hj => HK.out j hj
            have hbs := HO.out
            rw [List.take_length] at hbs
            have hlen : ([2, (l.length : Int)] ++ l.flatMap prtB).length = 2 + 6 * l.length := by
              rw [List.length_append, prtsB_length]; rfl
            obtain ⟨q, hq⟩ : ∃ q, [2, (l.length : Int)] ++ l.flatMap prtB = q := ⟨_, rfl⟩
            have hpk : pidxI l s = (sealL (pad q) s, 0) := by rw [HP.out, if_pos hall]; unfold pidxB; rw [show (l.length : Int) % 256 = l.length by omega, hq]
            rw [hq] at hlen hbs
            clear hq HO hall
            obtain ⟨A', c', rfl, hcc, hCC⟩ := hbs.reads
            have HPK := Aside0.mk hpk
            have HC := Aside0.mk hCC
            have hq256 : q.length ≤ 256 := by omega
            clear hbs hpk hCC hlen
            go_wp2_with (go_at_call 37; refine (sealed_calls A' c' s q _ HC.out hq256 hs0 hs1).mono ?_; rintro e w7 ⟨g7, rfl, hg7, hr7, hb7⟩)
            go_ret2
            have hsl : (sealL (pad q) s).length = 256 := by unfold sealL; rw [layL_length]; exact pad_length q hq256
            refine ⟨.slice (some ⟨g7, 0, none⟩) 256 256, by rw [HPK.out]; rfl, ?_, below_then HB.out HB.out.size hb7⟩
            rw [HPK.out]
            exact (own_of_row hr7 hsl (Nat.le_trans HB.out.size hg7) (by simp [maxLen])).to_R
          | succ g =>
            obtain ⟨ad', e, h1', h2'⟩ := (HL.out.below HB.out).cells k (by omega)
            cases e
            have hkl : k < l.length := by omega
            have HNOT := Aside0.mk (fun h => prtOk_not hkl h s)
            have hp3 : k ≠ 0 → wr.cell? (ad.add ((k - 1) * 2)) = some (.int .u32 (prtAt l (k - 1)).hash) := fun hk0 => by
              obtain ⟨ad', e, h, _⟩ := (HL.out.below HB.out).cells (k - 1) (by omega)
              cases e
              exact h
            have hok : prtOk l k ↔ ¬ (prtAt l k).block < 1 ∧ ¬ 255 < (prtAt l k).block ∧ seenB l k (prtAt l k).block.toNat = false ∧ (0 < k → (prtAt l (k - 1)).hash < (prtAt l k).hash) := Iff.rfl
            have hsn := prtB_snoc l k hkl
            have hset := fun (b : Nat) (hb : (prtAt l k).block = b) (h256 : b < 256) (W : World) (hS : Seen W gs l k) => hS.set b hkl hb h256
            obtain ⟨x, hx⟩ : ∃ x, prtAt l k = x := ⟨_, rfl⟩
            obtain ⟨z, hzz⟩ : ∃ z, (prtAt l (k - 1)).hash = z := ⟨_, rfl⟩
            rw [hx] at h1' h2' hok hsn
            simp only [hx] at hset
            rw [hzz] at hok hp3
            have HOK := Aside0.mk hok
            have HP3 := Aside0.mk hp3
            have HSN := Aside0.mk hsn
            have HSET := Aside0.mk hset
            have hbl := fun o => below_alloc HB.out o
            have hso := fun o => HS.out.kept (w1 := wr.alloc o) (alloc_old wr o gs HS.out.lt)
            have hoo := fun o => HO.out.below (below_alloc (Below.refl _ wr) o)
            have hgl := HS.out.lt
            clear hx hzz hok hp3 hsn hset
            go_wp2
            have n1 := cell_alloc wr #[.int .u32 x.hash, .int .i64 x.block] 73 0 _ rfl
            have n2 := cell_alloc wr #[.int .u32 x.hash, .int .i64 x.block] 73 1 _ rfl
            have n4 : k ≠ 0 → (wr.alloc (.cells #[.int .u32 x.hash, .int .i64 x.block] 73)).cell? (ad.add ((k - 1) * 2)) = some (.int .u32 z) := fun h => pw_cell_below (below_alloc (Below.refl _ _) _) (HP3.out h)
            have hb0 := hbl (.cells #[.int .u32 x.hash, .int .i64 x.block] 73)
            have hs0' := hso (.cells #[.int .u32 x.hash, .int .i64 x.block] 73)
            have ho0 := hoo (.cells #[.int .u32 x.hash, .int .i64 x.block] 73)
            have hgb : gs ≠ wr.heap.size := by omega
            generalize wr.alloc (.cells #[.int .u32 x.hash, .int .i64 x.block] 73) = w2 at n1 n2 n4 hb0 hs0' ho0 ⊢
            generalize wr.heap.size = b2 at n1 n2 hgb ⊢
            have N4 := Aside0.mk n4
            have HB2 := Aside0.mk hb0
            have HS2 := Aside0.mk hs0'
            have HO2 := Aside0.mk ho0
            have HBQ := Aside0.mk (fun n => pw_below_drewN hb0 n)
            clear hb0 hbl h1' h2' n4 hs0' ho0 hso hoo
            by_cases c1 : x.block < 1
            · go_quiet (fail)
              go_wp2
              go_ret2
              exact pidxPost_bad (HNOT.out (fun h => by have := HOK.out.1 h; omega)) rfl (HBQ.out _)
            · by_cases c2 : 255 < x.block
              · go_quiet (fail)
                go_wp2
                go_ret2
                exact pidxPost_bad (HNOT.out (fun h => by have := HOK.out.1 h; omega)) rfl (HBQ.out _)
              · obtain ⟨b, hb⟩ : ∃ b : Nat, x.block = b := ⟨x.block.toNat, by omega⟩
                have hb256 : b < 256 := by omega
                have sc := HS2.out.cell b hb256
                rw [hb] at n2 c1 c2 ⊢
                have HBE := Aside0.mk hb
                have hbn : x.block.toNat = b := by omega
                rw [hbn] at HOK
                clear hb hbn
                obtain ⟨y, hy⟩ : ∃ y, seenB l k b = y := ⟨_, rfl⟩
                rw [hy] at sc HOK
                have HY := Aside0.mk hy
                clear hy
                cases y
                · by_cases c6 : k = 0
                  · subst c6
                    go_quiet (fail)
                    have HB3 := Aside0.mk (HBQ.out nq)
                    have HS3 : Aside0 (Seen (w2.drewN nq) gs l 0) := ⟨HS2.out.kept rfl⟩
                    have HO3 := Aside0.mk (HO2.out.below (pw_below_drewN (Below.refl _ w2) nq))
                    have q1 : (w2.drewN nq).cell? ⟨b2, 0, none⟩ = some (.int .u32 x.hash) := n1
                    have q2 : (w2.drewN nq).cell? ⟨b2, 1, none⟩ = some (.int .i64 b) := n2
                    generalize w2.drewN nq = w3 at HB3 HS3 HO3 q1 q2 ⊢
                    clear n1 n2 sc
                    have hfz := HS3.out.free b
                    have hsc := HS3.out.cell b hb256
                    have m1 : (w3.setCell ⟨gs, b, none⟩ (.bool true)).cell? ⟨b2, 0, none⟩ = some (.int .u32 x.hash) := (World.cell?_of_block (Below.heap_setCell w3 ⟨gs, b, none⟩ _ b2 (by intro e; first | exact hgb e | exact hgb e.symm))).trans q1
                    have m2 : (w3.setCell ⟨gs, b, none⟩ (.bool true)).cell? ⟨b2, 1, none⟩ = some (.int .i64 b) := (World.cell?_of_block (Below.heap_setCell w3 ⟨gs, b, none⟩ _ b2 (by intro e; first | exact hgb e | exact hgb e.symm))).trans q2
                    have HB4 := Aside0.mk (below_set (j := b) (v := .bool true) HB3.out hgw)
                    have HS4 := Aside0.mk (HSET.out b HBE.out hb256 w3 HS3.out)
                    have HO4 := Aside0.mk (HO3.out.set_other (b := b) (u := .bool true) (HO3.out.apart HS3.out))
                    obtain ⟨i0, hi, hz0, hz1, hz2⟩ := info_parts infoU8
                    have HOa := Aside0.mk (fun o => HO4.out.below (below_alloc (Below.refl _ _) o))
                    have HBa := Aside0.mk (fun o => below_alloc HB4.out o)
                    have hbs := HB3.out.size
                    have HLT := Aside0.mk (HS4.out.lt)
                    have HAP := Aside0.mk (HO4.out.apart HS4.out)
                    have HBS := Aside0.mk (fun g hg => HO4.out.base g hg)
                    obtain ⟨n, hn⟩ : ∃ n, ([2, (l.length : Int)] ++ (l.take 0).flatMap prtB).length = n := ⟨_, rfl⟩
                    have hn2 : n ≤ 242 := by
                      rw [← hn, List.length_append, prtsB_length, List.length_take]
                      simp only [List.length_cons, List.length_nil]
                      omega
                    have HN := Aside0.mk hn
                    clear hn
                    go_wp2_with ((with_reducible refine gate_dst (N := 92) rfl ?_); refine wpList_append_own _ rfl (.tmp 68) (.tmp 91) 30 rfl w.heap.size 5 i0 (.int .u8 0) 1 1 Try.underlying30 hi hz0 hz1 hz2 rfl (by decide) _ _ _ rfl (HOa.out _) ⟨w3.heap.size, 0, none⟩ 6 6 [.int .u8 (x.hash % 256), .int .u8 (x.hash / 256 % 256), .int .u8 (x.hash / 65536 % 256), .int .u8 (x.hash / 16777216 % 256), .int .u8 b, .int .u8 ((b : Int) / 256)] ?c6 rfl ?c1 ?c2 ?c3 ?c4 ?c5 ?_; (case c6 => rfl); (case c1 => (intro j u hj; rw [add_plain]; have hh := cell_alloc (w3.setCell ⟨gs, b, none⟩ (.bool true)) #[.int .u8 (x.hash % 256), .int .u8 (x.hash / 256 % 256), .int .u8 (x.hash / 65536 % 256), .int .u8 (x.hash / 16777216 % 256), .int .u8 b, .int .u8 ((b : Int) / 256)] 5 j u (by simpa using hj); simpa [World.setCell] using hh)); (case c2 => simp [Value.oneCell']); (case c3 => (rw [HN.out]; simp only [maxLen]; omega)); (case c4 => (rw [HN.out]; omega)); (case c5 => exact (HBa.out _).size); intro v1 w5 hown1 hgrow1 _; have HO5 := Aside0.mk (own_snoc (ys := [x.hash % 256, x.hash / 256 % 256, x.hash / 65536 % 256, x.hash / 16777216 % 256, (b : Int), (b : Int) / 256]) hown1 rfl rfl); have HB5 := Aside0.mk (pw_below_grown (HBa.out _) _ (HBa.out _).size hgrow1 (fun g hg => HBS.out g hg)); have HG5 := Aside0.mk hgrow1; clear hown1 hgrow1 hz0 hz1 hz2 hi)
                    go_roundg g
                    case measure => omega
                    case rel =>
                      refine ⟨0 + 1, by omega, by go_num, ⟨?_⟩, ⟨?_⟩, HB5, ⟨?_⟩⟩
                      · have e : [2, (l.length : Int)] ++ (l.take (0 + 1)).flatMap prtB = [2, (l.length : Int)] ++ (l.take 0).flatMap prtB ++ [x.hash % 256, x.hash / 256 % 256, x.hash / 65536 % 256, x.hash / 16777216 % 256, (b : Int), (b : Int) / 256] := by
                          have e1 : (b : Int) % 256 = b := by omega
                          have e2 : (b : Int) / 256 % 256 = (b : Int) / 256 := by omega
                          rw [HSN.out, ← List.append_assoc]
                          unfold prtB
                          rw [HBE.out, e1, e2]
                        rw [e]
                        exact HO5.out
                      · refine HS4.out.kept ((HG5.out.block gs ?_ ?_).trans (alloc_old _ _ gs HLT.out))
                        · have := HLT.out
                          simp only [World.size_alloc]
                          omega
                        · exact fun e => HAP.out e.symm
                      · intro j hj
                        by_cases e : j = 0
                        · subst e
                          exact HOK.out.2 (by have := HBE.out; refine ⟨by omega, by omega, by first | rfl | trivial, fun h => by omega⟩)
                        · exact HK.out j (by omega)
                  · obtain ⟨k', rfl⟩ : ∃ k', k = k' + 1 := ⟨k - 1, by omega⟩
                    have n4 := N4.out (by omega)
                    simp only [Nat.add_sub_cancel] at n4
                    have i1 : (k' : Int) < (l.length : Int) := by omega
                    have i2 : k' < l.length := by omega
                    have i3 : wrap64 (k' : Int) = (k' : Int) := by unfold wrap64; omega
                    clear c6
                    by_cases c7 : x.hash ≤ z
                    · go_quiet (fail)
                      go_wp2
                      go_ret2
                      exact pidxPost_bad (HNOT.out (fun h => by have := (HOK.out.1 h).2.2.2 (by omega); omega)) rfl (HBQ.out _)
                    · go_quiet (fail)
                      have HB3 := Aside0.mk (HBQ.out nq)
                      have HS3 : Aside0 (Seen (w2.drewN nq) gs l (k' + 1)) := ⟨HS2.out.kept rfl⟩
                      have HO3 := Aside0.mk (HO2.out.below (pw_below_drewN (Below.refl _ w2) nq))
                      have q1 : (w2.drewN nq).cell? ⟨b2, 0, none⟩ = some (.int .u32 x.hash) := n1
                      have q2 : (w2.drewN nq).cell? ⟨b2, 1, none⟩ = some (.int .i64 b) := n2
                      generalize w2.drewN nq = w3 at HB3 HS3 HO3 q1 q2 ⊢
                      clear n1 n2 sc
                      have hfz := HS3.out.free b
                      have hsc := HS3.out.cell b hb256
                      have m1 : (w3.setCell ⟨gs, b, none⟩ (.bool true)).cell? ⟨b2, 0, none⟩ = some (.int .u32 x.hash) := (World.cell?_of_block (Below.heap_setCell w3 ⟨gs, b, none⟩ _ b2 (by intro e; first | exact hgb e | exact hgb e.symm))).trans q1
                      have m2 : (w3.setCell ⟨gs, b, none⟩ (.bool true)).cell? ⟨b2, 1, none⟩ = some (.int .i64 b) := (World.cell?_of_block (Below.heap_setCell w3 ⟨gs, b, none⟩ _ b2 (by intro e; first | exact hgb e | exact hgb e.symm))).trans q2
                      have HB4 := Aside0.mk (below_set (j := b) (v := .bool true) HB3.out hgw)
                      have HS4 := Aside0.mk (HSET.out b HBE.out hb256 w3 HS3.out)
                      have HO4 := Aside0.mk (HO3.out.set_other (b := b) (u := .bool true) (HO3.out.apart HS3.out))
                      obtain ⟨i0, hi, hz0, hz1, hz2⟩ := info_parts infoU8
                      have HOa := Aside0.mk (fun o => HO4.out.below (below_alloc (Below.refl _ _) o))
                      have HBa := Aside0.mk (fun o => below_alloc HB4.out o)
                      have hbs := HB3.out.size
                      have HLT := Aside0.mk (HS4.out.lt)
                      have HAP := Aside0.mk (HO4.out.apart HS4.out)
                      have HBS := Aside0.mk (fun g hg => HO4.out.base g hg)
                      obtain ⟨n, hn⟩ : ∃ n, ([2, (l.length : Int)] ++ (l.take (k' + 1)).flatMap prtB).length = n := ⟨_, rfl⟩
                      have hn2 : n ≤ 242 := by
                        rw [← hn, List.length_append, prtsB_length, List.length_take]
                        simp only [List.length_cons, List.length_nil]
                        omega
                      have HN := Aside0.mk hn
                      clear hn
                      go_wp2_with ((with_reducible refine gate_dst (N := 92) rfl ?_); refine wpList_append_own _ rfl (.tmp 68) (.tmp 91) 30 rfl w.heap.size 5 i0 (.int .u8 0) 1 1 Try.underlying30 hi hz0 hz1 hz2 rfl (by decide) _ _ _ rfl (HOa.out _) ⟨w3.heap.size, 0, none⟩ 6 6 [.int .u8 (x.hash % 256), .int .u8 (x.hash / 256 % 256), .int .u8 (x.hash / 65536 % 256), .int .u8 (x.hash / 16777216 % 256), .int .u8 b, .int .u8 ((b : Int) / 256)] ?c6 rfl ?c1 ?c2 ?c3 ?c4 ?c5 ?_; (case c6 => rfl); (case c1 => (intro j u hj; rw [add_plain]; have hh := cell_alloc (w3.setCell ⟨gs, b, none⟩ (.bool true)) #[.int .u8 (x.hash % 256), .int .u8 (x.hash / 256 % 256), .int .u8 (x.hash / 65536 % 256), .int .u8 (x.hash / 16777216 % 256), .int .u8 b, .int .u8 ((b : Int) / 256)] 5 j u (by simpa using hj); simpa [World.setCell] using hh)); (case c2 => simp [Value.oneCell']); (case c3 => (rw [HN.out]; simp only [maxLen]; omega)); (case c4 => (rw [HN.out]; omega)); (case c5 => exact (HBa.out _).size); intro v1 w5 hown1 hgrow1 _; have HO5 := Aside0.mk (own_snoc (ys := [x.hash % 256, x.hash / 256 % 256, x.hash / 65536 % 256, x.hash / 16777216 % 256, (b : Int), (b : Int) / 256]) hown1 rfl rfl); have HB5 := Aside0.mk (pw_below_grown (HBa.out _) _ (HBa.out _).size hgrow1 (fun g hg => HBS.out g hg)); have HG5 := Aside0.mk hgrow1; clear hown1 hgrow1 hz0 hz1 hz2 hi)
                      go_roundg g
                      case measure => omega
                      case rel =>
                        refine ⟨(k' + 1) + 1, by omega, by go_num, ⟨?_⟩, ⟨?_⟩, HB5, ⟨?_⟩⟩
                        · have e : [2, (l.length : Int)] ++ (l.take ((k' + 1) + 1)).flatMap prtB = [2, (l.length : Int)] ++ (l.take (k' + 1)).flatMap prtB ++ [x.hash % 256, x.hash / 256 % 256, x.hash / 65536 % 256, x.hash / 16777216 % 256, (b : Int), (b : Int) / 256] := by
                            have e1 : (b : Int) % 256 = b := by omega
                            have e2 : (b : Int) / 256 % 256 = (b : Int) / 256 := by omega
                            rw [HSN.out, ← List.append_assoc]
                            unfold prtB
                            rw [HBE.out, e1, e2]
                          rw [e]
                          exact HO5.out
                        · refine HS4.out.kept ((HG5.out.block gs ?_ ?_).trans (alloc_old _ _ gs HLT.out))
                          · have := HLT.out
                            simp only [World.size_alloc]
                            omega
                          · exact fun e => HAP.out e.symm
                        · intro j hj
                          by_cases e : j = (k' + 1)
                          · subst e
                            exact HOK.out.2 (by have := HBE.out; refine ⟨by omega, by omega, by first | rfl | trivial, fun h => by omega⟩)
                          · exact HK.out j (by omega)
                · go_quiet (fail)
                  go_wp2
                  go_ret2
                  exact pidxPost_bad (HNOT.out (fun h => by have := (HOK.out.1 h).2.2.1; simp at this)) rfl (HBQ.out _)
      · have hp : pidxI l s = ([], 22) := by unfold pidxI; rw [if_pos (.inr (.inr hz))]
        have hz1 : ((prtAt l 0).hash != 0) = true := by simpa using hz
        clear hl hz
        go_enter Try.func26, Try.ntmps26
        go_wp2
        go_ret2
        exact pidxPost_bad hp rfl (Below.refl _ _)
end Go.Proofs.Ytjggkaieagbjmaa.Hand
