/- Own texts and printed words of the kit, put together and trimmed by a program of mine (merge.py). -/
import Derived.Test.YtkmhilhfmfmckaaGreatDoorP07
namespace Go.Proofs.YtkmhilhfmfmckaaGreatDoor.Hand
set_option linter.unusedSimpArgs false
set_option linter.unusedVariables false
open Go.Shelf Go.RowKit Go.Proofs.YtkmhilhfmfmckaaGreatDoorW.PrintWords Go.Proofs.YtkmhilhfmfmckaaGreatDoorW.PrintLast Go.Proofs.YtkmhilhfmfmckaaGreatDoorW.PrintMore
set_option maxHeartbeats 4000000 in
set_option maxRecDepth 100000 in
theorem use_calls {M R : Nat → Prop} {L : List (List Int)} {room ns gs cap s0 : Nat} {X : Nat → Prop} (n g c : Nat) (w : World) (h1 : w.cell? ⟨s0, 1, none⟩ = some (.int .i64 room)) (h6 : w.cell? ⟨s0, 6, none⟩ = some (.slice (some ⟨gs, 0, none⟩) ns cap))
    (hc : Cache w M R L room ns gs X) (h0 : 0 < ns) (h16 : ns ≤ 16) (hr : room ≤ 256) (hn : n < 4096) (hMR : ∀ k, M k → ¬ R k) (hMl : ∀ k, M k → k < w.heap.size) (hgM : M gs) (hsM : ¬ M s0) (hv : HB w R (.slice (some ⟨g, 0, none⟩) 256 c) (L.getD n [])) :
    Calls Tryz.prog 57 #[.pointer (some ⟨s0, 0, none⟩), .int .i64 n, .slice (some ⟨g, 0, none⟩) 256 c] w fun e w' => e = .returned (.tuple #[]) ∧ Mod w w' M ∧ ∃ r : Nat → Prop, (∀ k, r k → (M k ∨ (w.heap.size ≤ k ∧ k < w'.heap.size)) ∧ ∃ l, Row w' .i64 k 3 l) ∧ Cache w' (fun k => M k ∨ r k) R L room ns gs X := by
  obtain ⟨cs, hst, hlen, hall, hap⟩ := hc
  have hil : n % ns < ns := Nat.mod_lt _ h0
  obtain ⟨ov, ol, mb, f, hsh⟩ := hall (n % ns) hil
  have HOF := Aside0.mk (of_calls s0 gs ns cap n w h6 h0 h16 (by omega))
  obtain ⟨i, hi⟩ : ∃ i, n % ns = i := ⟨_, rfl⟩
  rw [hi] at hil hsh HOF
  have hgR : ¬ R gs := hMR gs hgM
  have HFG := Aside0.mk (forget_calls gs (2 * i) mb 4096 cs ov ol n f w.drew (hst.kept rfl) hsh.h0 hsh.h1 (own_mod hsh.own (Mod.refl w (fun _ => False)).drew (fun _ _ => id)) (by have := hsh.len; omega) (hsh.map.kept rfl) (by omega))
  have hS0 : ¬ (s0 = gs ∨ s0 = mb ∨ ov.ownBlock = some s0) := by
    rintro (e | e | e)
    · exact hsM (e ▸ hgM)
    · exact hsM (e ▸ hsh.mm)
    · exact hsM (hsh.mo _ e)
  have HSH := Aside0.mk hsh
  have HV := Aside0.mk hv
  have HTURN := Aside0.mk (@cache_turn w)
  have HC := Aside0.mk (And.intro hst (And.intro hlen (And.intro hall hap)))
  have HMM := Aside0.mk (And.intro hMR (And.intro hMl hgR))
  have hgm : gs ≠ mb := fun e => hst.not_map hsh.map e.symm
  have hne1 : (107 : TypeId) ≠ 3 := by decide
  have hMi : ∀ k, (k = gs ∨ k = mb ∨ ov.ownBlock = some k) → M k := by
    rintro k (rfl | rfl | e)
    · exact hgM
    · exact hsh.mm
    · exact hsh.mo k e
  have HMI := Aside0.mk hMi
  have hol : ol.length ≤ room := hsh.len
  have hrg := hsh.rng
  have HRG := Aside0.mk hrg
  clear hsh hv hst hlen hall hap hMR hMl hi hMi hrg
  go_enter Tryz.func57, Tryz.ntmps57
  go_wp2_with fail
  refine HOF.out.mono ?_
  rintro e w' ⟨rfl, rfl⟩
  dsimp only
  go_wp2_with fail
  refine HFG.out.mono ?_
  rintro e w1 ⟨ov1, ol1, rfl, hst1, hown1, hle1, _, hsb1, hob1, hm1, hmod1⟩
  have hmodw : Mod w w1 (fun k => k = gs ∨ k = mb ∨ ov.ownBlock = some k) := (Mod.refl w _).drew.trans hmod1 (fun _ _ e => e)
  have hk1 := hmodw.cell h1 hS0
  have hk6 := hmodw.cell h6 hS0
  have hio : (cs.set (2 * i) ov1)[2 * i]? = some ov1 := by rw [List.getElem?_set_self (List.getElem?_eq_some_iff.1 HSH.out.h0).1]
  have hso := hst1.cell (2 * i) _ hio
  have hsm := hst1.cell (2 * i + 1) (.map (some mb)) (by rw [List.getElem?_set_ne (by omega)]; exact HSH.out.h1)
  have hgl := hst1.lt
  have HOWa := Aside0.mk (fun o => own_mod hown1 (Mod.of_below (below_alloc (Below.refl _ _) o) (fun _ => False)) (fun _ _ => id))
  have HMODW := Aside0.mk hmodw
  have HP1 := Aside0.mk (And.intro hsb1 hob1)
  have HF := Aside0.mk (show ∀ (o : Obj) (w2 : World) (v2 : Value), (w1.alloc o).grownBy w2 ov1.ownBlock → (v2.ownBlock = ov1.ownBlock ∨ v2.ownBlock = some (w1.alloc o).heap.size) →
      Strc w2 gs 107 (cs.set (2 * i) ov1) ∧ IM Tryz.prog 3 w2 mb 4096 (fun y => if y = (n : Int) then none else f y) ∧ Mod w w2 (fun k => k = gs ∨ k = mb ∨ ov.ownBlock = some k) ∧ w2.cell? ⟨s0, 1, none⟩ = some (.int .i64 room) ∧ (∀ g, v2.ownBlock = some g → ov.ownBlock = some g ∨ w.heap.size ≤ g) from fun o w2 v2 hg hl => by
    have hb1a : Below w1.heap.size w1 (w1.alloc o) := below_alloc (Below.refl _ _) _
    have hsta := hst1.below hb1a
    have hma := hm1.below hb1a
    have hmg := mod_grown hg
    have hmw2 : Mod w w2 (fun k => k = gs ∨ k = mb ∨ ov.ownBlock = some k) := (hmodw.alloc o).trans hmg (fun k _ e => .inr (.inr (hob1 k e)))
    refine ⟨hsta.mod hmg (own_not_strc (HOWa.out o) hsta hne1), hma.mod hmg (own_not_map (HOWa.out o) hma), hmw2, hmw2.cell h1 hS0, fun g e => ?_⟩
    rcases hl with h | h
    · exact .inl (hob1 g (h.symm.trans e))
    · have h3 := hmodw.size
      have h2 : g = (w1.alloc o).heap.size := by rw [e] at h; exact Option.some.inj h
      rw [World.size_alloc] at h2
      exact .inr (by omega))
  obtain ⟨A1, c1, rfl, _, _, _, _⟩ := own_shape hown1
  obtain ⟨q0, hq, hz0, hz1, hz2⟩ := info_parts infoIntS
  have h31 : 2 * i < cs.length := (List.getElem?_eq_some_iff.1 HSH.out.h0).1
  clear hst1 hown1 hm1 hmod1 hmodw hio hsb1 hob1
  dsimp only
  go_wp2_with (first
    | ((with_reducible refine gate_dst (N := 20) rfl ?_); (refine wpList_append_own_at _ rfl (.tmp 17) (.tmp 19) 105 rfl 0 3 q0 (.int .i64 0) 1 8 Tryz.underlying105 hq hz0 hz1 hz2 rfl (by decide) _ _ _ rfl (HOWa.out _) ⟨w1.heap.size, 0, none⟩ 1 1 [.int .i64 n] rfl ?c6 ?c1 ?c2 ?c3 ?c4 ?c5 ?_; (case c6 => rfl); (case c1 => (intro j u hj; rw [add_plain]; exact cell_alloc w1 _ _ j u (by simpa using hj))); (case c2 => simp [Value.oneCell']); (case c3 => (simp only [maxLen]; omega)); (case c4 => omega); (case c5 => exact Nat.zero_le _); intro v2 w2 hown2 hgrow2 _ hloc; clear hz0 hz1 hz2 hq; obtain ⟨g2, cap2, rfl⟩ := own_succ hown2; obtain ⟨hst2, hm2, hmod2, hk2, hblk2⟩ := HF.out _ _ _ hgrow2 hloc; have HO2 := Aside0.mk (own_snoc (ys := [(n : Int)]) hown2 rfl rfl); have HST2 := Aside0.mk hst2; have HM2 := Aside0.mk (fun u => hm2.mod ((Mod.refl w2 (· = gs)).set_own (2 * i) u) (Ne.symm hgm)); have HM0 := Aside0.mk hm2; have HMOD2 := Aside0.mk hmod2; have HBLK2 := Aside0.mk hblk2; have hk21 := hst2.cell (2 * i + 1) (.map (some mb)) (by rw [List.getElem?_set_ne (by omega)]; exact HSH.out.h1); have hk22 := hst2.cell (2 * i) _ (List.getElem?_set_self h31); have hf22 := hst2.free (2 * i); have hpl2 := hst2.lt; clear hloc hblk2 hown2 hgrow2 hst2 hm2 hmod2))
    | (at_mapUpdate; (refine im_store _ rfl _ _ _ rfl Tryz.underlying3 Tryz.underlying98 (by decide) rfl (HM2.out _) n hn rfl _ rfl ?_; intro w4 hm4 hmod4 hsz4; have HST4 := Aside0.mk ((HST2.out.set (2 * i) (.slice (some ⟨g2, 0, none⟩) (ol1.length + 1) cap2)).mod hmod4 hgm); have HM4 := Aside0.mk hm4; have HMOD4 := Aside0.mk ((HMOD2.out.setCell (p := ⟨gs, 2 * i, none⟩) (fun _ => .inl rfl) (.slice (some ⟨g2, 0, none⟩) (ol1.length + 1) cap2)).trans hmod4 (fun _ _ e => .inr (.inl e))); have HO4 := Aside0.mk (own_mod (own_mod HO2.out ((Mod.refl w2 (· = gs)).set_own (2 * i) (.slice (some ⟨g2, 0, none⟩) (ol1.length + 1) cap2)) (fun g hg e => by subst e; exact own_not_strc HO2.out HST2.out hne1 hg)) hmod4 (fun g hg e => by subst e; exact own_not_map HO2.out HM0.out hg)); have hk40 := HST4.out.cell (2 * i) (.slice (some ⟨g2, 0, none⟩) (ol1.length + 1) cap2) (List.getElem?_set_self (by rw [List.length_set]; exact h31)); have hr4 := HMOD4.out.cell h1 hS0; clear hm4 hmod4)))
  have hset : (cs.set (2 * i) (.slice A1 ol1.length c1)).set (2 * i) (.slice (some ⟨g2, 0, none⟩) (ol1.length + 1) cap2) = cs.set (2 * i) (.slice (some ⟨g2, 0, none⟩) (ol1.length + 1) cap2) := List.set_set ..
  rw [hset] at HST4
  have hlen2 : (ol1 ++ [(n : Int)]).length = ol1.length + 1 := by simp
  have hrng2 : ∀ x ∈ ol1 ++ [(n : Int)], 0 ≤ x ∧ x < 4096 := fun x hx => by
    rcases List.mem_append.1 hx with h | h
    · exact HRG.out x (HP1.out.1 x h)
    · simp at h; omega
  have HRN2 := Aside0.mk hrng2
  have HGOOD : ∀ (w' : World), Mod w w' (fun k => k = gs ∨ k = mb ∨ ov.ownBlock = some k) → (∀ x v, (fun y => if y = (n : Int) then some (Value.slice (some ⟨g, 0, none⟩) 256 c) else if y = (n : Int) then none else f y) x = some v → HB w' R v (L.getD x.toNat [])) ∧ (∀ x v, (fun y => if y = (n : Int) then none else f y) x = some v → HB w' R v (L.getD x.toNat [])) := fun w' hm => by
    have hR : ∀ k, R k → ¬ (k = gs ∨ k = mb ∨ ov.ownBlock = some k) := fun k hk e => HMM.out.1 k (HMI.out k e) hk
    refine ⟨fun x v hx => ?_, fun x v hx => ?_⟩
    · dsimp only at hx
      by_cases e : x = (n : Int)
      · subst e
        rw [if_pos rfl] at hx
        cases hx
        rw [Int.toNat_natCast]
        exact HV.out.mod hm hR
      · rw [if_neg e, if_neg e] at hx
        exact (HSH.out.good x v hx).mod hm hR
    · dsimp only at hx
      by_cases e : x = (n : Int)
      · rw [if_pos e] at hx; cases hx
      · rw [if_neg e] at hx
        exact (HSH.out.good x v hx).mod hm hR
  have HGOOD := Aside0.mk HGOOD
  have hl4 := hlen2
  by_cases hgt : ol1.length + 1 ≤ room
  · have i1 : ¬ ((ol1.length : Int) + 1 > (room : Int)) := by omega
    clear hset hlen2 hrng2
    refine wp_region_in [0, 0, 0, 1, 0, 0, 0, 0, 1, 0] [] (fun w' => w'.cell? ⟨gs, 2 * i, none⟩ = some (.slice (some ⟨g2, 0, none⟩) (ol1.length + 1) cap2) ∧ w'.cell? ⟨s0, 1, none⟩ = some (.int .i64 room)) (by kernel_rfl) rfl (by kernel_rfl) (fun _ _ _ _ h => h) ⟨hk40, hr4⟩ ?_
    iterate 10 (first
      | (refine in_off0 (by rfl) ?_; simp only [Act.put, stA, stZ, stS, i64_w, i32_w])
      | (refine in_off1 (by rfl) ?_; simp only [Act.put, stA, stZ, stS, i64_w, i32_w])
      | (refine in_0 (v := ?_) (by rfl) rfl ?_ (a' := ?_) ?_ ?_; rotate_left; (intro w'; go_simp; with_reducible rfl); rotate_left; (simp only [Act.put, stA, stZ, stS, i64_w, i32_w]; rfl))
      | (refine in_1 (v := ?_) (by rfl) rfl ?_ (a' := ?_) ?_ ?_; rotate_left; (rintro w' hs; go_split_ands; go_simp; with_reducible rfl); rotate_left; (simp only [Act.put, stA, stZ, stS, i64_w, i32_w]; rfl)))
    refine in_nil ?_
    go_wp2
    go_end0
    have hmf : Mod w w4.drew (fun k => k = gs ∨ k = mb ∨ ov.ownBlock = some k) := HMOD4.out.drew
    refine ⟨rfl, hmf.mono (fun k _ e => HMI.out k e), fun k => (Value.slice (some ⟨g2, 0, none⟩) (ol1.length + 1) cap2).ownBlock = some k, fun k hk => ?_, ?_⟩
    · have hrow := own_mod HO4.out (Mod.refl w4 (fun _ => False)).drew (fun _ _ => id)
      have hlt := own_lt hrow k hk
      refine ⟨(HBLK2.out k hk).elim (fun e => .inl (HSH.out.mo k e)) (fun e => .inr ⟨e, hlt⟩), ?_⟩
      exact ⟨_, own_row_at hrow hk⟩
    · exact HTURN.out HC.out.1 HC.out.2.1 HC.out.2.2.1 HC.out.2.2.2 hil HSH.out HMM.out.1 HMM.out.2.1 HMM.out.2.2 (HST4.out.kept rfl) (own_mod HO4.out (Mod.refl w4 (fun _ => False)).drew (fun _ _ => id)) (by rw [hl4]; exact hgt) HRN2.out HBLK2.out (HM4.out.kept rfl) (HGOOD.out _ hmf).1 hmf
  · have i1 : (ol1.length : Int) + 1 > (room : Int) := by omega
    have hx0 : ∃ x0 : Nat, (ol1 ++ [(n : Int)]).getD 0 0 = x0 ∧ x0 < 4096 := by
      have hp : 0 < (ol1 ++ [(n : Int)]).length := by omega
      have hm := hrng2 ((ol1 ++ [(n : Int)])[0]) (List.getElem_mem hp)
      have e : (ol1 ++ [(n : Int)]).getD 0 0 = (ol1 ++ [(n : Int)])[0] := by rw [List.getD_eq_getElem?_getD, List.getElem?_eq_getElem hp]; rfl
      exact ⟨((ol1 ++ [(n : Int)]).getD 0 0).toNat, by rw [e]; omega, by rw [e]; omega⟩
    obtain ⟨x0, hx0, hx1⟩ := hx0
    have hc0 : w4.cell? ⟨g2, 0, none⟩ = some (.int .i64 x0) := by
      have := HO4.out.cells (g := g2) rfl 0 (.int .i64 ((ol1 ++ [(n : Int)]).getD 0 0)) (nums_at _ _ _ (by omega))
      rw [add_plain, hx0] at this
      exact this
    have i2 : 0 < ol1.length + 1 := by omega
    have HX0 := Aside0.mk hx0
    have hsg : ¬ (Value.slice (some ⟨g2, 0, none⟩) (ol1.length + 1) cap2).ownBlock = some s0 := fun e => by
      rcases HBLK2.out s0 e with h | h
      · exact hsM (HSH.out.mo _ h)
      · have := World.block_lt_of_cell? w ⟨s0, 1, none⟩ h1
        simp at this
        omega
    have HST4d := Aside0.mk (HST4.out.kept (w1 := w4.drew) rfl)
    have HO4d := Aside0.mk (own_mod HO4.out (Mod.refl w4 (fun _ => False)).drew (fun _ _ => id))
    have HFG2 := Aside0.mk (forget_calls gs (2 * i) mb 4096 _ _ (ol1 ++ [(n : Int)]) x0 _ w4.drew HST4d.out (List.getElem?_set_self h31) (by rw [List.getElem?_set_ne (by omega)]; exact HSH.out.h1) (by rw [hl4] at *; exact HO4d.out) (by omega) (HM4.out.kept (w1 := w4.drew) rfl) (by omega))
    clear hset hlen2 hrng2 hx0
    refine wp_region_in [0, 0, 0, 1, 0, 0, 0, 0, 1, 0] [] (fun w' => w'.cell? ⟨gs, 2 * i, none⟩ = some (.slice (some ⟨g2, 0, none⟩) (ol1.length + 1) cap2) ∧ w'.cell? ⟨s0, 1, none⟩ = some (.int .i64 room)) (by kernel_rfl) rfl (by kernel_rfl) (fun _ _ _ _ h => h) ⟨hk40, hr4⟩ ?_
    iterate 10 (first
      | (refine in_off0 (by rfl) ?_; simp only [Act.put, stA, stZ, stS, i64_w, i32_w])
      | (refine in_off1 (by rfl) ?_; simp only [Act.put, stA, stZ, stS, i64_w, i32_w])
      | (refine in_0 (v := ?_) (by rfl) rfl ?_ (a' := ?_) ?_ ?_; rotate_left; (intro w'; go_simp; with_reducible rfl); rotate_left; (simp only [Act.put, stA, stZ, stS, i64_w, i32_w]; rfl))
      | (refine in_1 (v := ?_) (by rfl) rfl ?_ (a' := ?_) ?_ ?_; rotate_left; (rintro w' hs; go_split_ands; go_simp; with_reducible rfl); rotate_left; (simp only [Act.put, stA, stZ, stS, i64_w, i32_w]; rfl)))
    refine in_nil ?_
    have hk40d : w4.drew.cell? ⟨gs, 2 * i, none⟩ = some (.slice (some ⟨g2, 0, none⟩) (ol1.length + 1) cap2) := hk40
    have hc0d : w4.drew.cell? ⟨g2, 0, none⟩ = some (.int .i64 x0) := hc0
    go_wp2_with fail
    refine HFG2.out.mono ?_
    rintro e w5 ⟨ov5, ol5, rfl, hst5, hown5, hle5, hlt5, hsb5, hob5, hm5, hmod5⟩
    rw [hl4] at hle5 hlt5
    have hlt := hlt5 (by omega) HX0.out
    have hmf : Mod w w5 (fun k => k = gs ∨ k = mb ∨ ov.ownBlock = some k) := HMOD4.out.drew.trans hmod5 (fun k hk e => by
      rcases e with e | e | e
      · exact .inl e
      · exact .inr (.inl e)
      · rcases HBLK2.out k e with h | h
        · exact .inr (.inr h)
        · omega)
    have hg5 := HGOOD.out w5 hmf
    have HR5 := Aside0.mk (show (∀ g, ov5.ownBlock = some g → ov.ownBlock = some g ∨ w.heap.size ≤ g) from fun g hg => HBLK2.out g (hob5 g hg))
    rw [List.set_set] at hst5
    have hlr : ol5.length ≤ room := by omega
    have hrow5 := hown5
    obtain ⟨A5, c5, rfl, _, _, _, _⟩ := own_shape hown5
    have hT := HTURN.out HC.out.1 HC.out.2.1 HC.out.2.2.1 HC.out.2.2.2 hil HSH.out HMM.out.1 HMM.out.2.1 HMM.out.2.2 hst5 hown5 hlr (fun x hx => HRN2.out x (hsb5 x hx)) HR5.out hm5 (fun x v hx => by
      by_cases e : x = (x0 : Int)
      · simp [e] at hx
      · rw [if_neg e] at hx
        exact hg5.1 x v hx) hmf
    have HT := Aside0.mk hT
    have HMF := Aside0.mk hmf
    have HROW := Aside0.mk hown5
    clear hT hmf hg5 hst5 hown5 hrow5 hm5 hmod5 hle5 hlt5 hsb5 hob5 hk40d hc0d
    dsimp only
    go_wp2
    go_end0
    refine ⟨rfl, HMF.out.mono (fun k _ e => HMI.out k e), fun k => (Value.slice A5 ol5.length c5).ownBlock = some k, fun k hk => ?_, HT.out⟩
    have hlt := own_lt HROW.out k hk
    refine ⟨(HR5.out k hk).elim (fun e => .inl (HSH.out.mo k e)) (fun e => .inr ⟨e, hlt⟩), ?_⟩
    exact ⟨_, own_row_at HROW.out hk⟩
structure St where
  now : List (List Int)
  held : List Bool
  hist : List (List (List Int) × List Bool)
def St.write (s : St) (n : Nat) (b : List Int) : St := ⟨s.now.set n b, s.held, (s.now, s.held) :: s.hist⟩
def St.hold (s : St) (n : Nat) : St := ⟨s.now, s.held.set n true, (s.now, s.held) :: s.hist⟩
def St.backGo : Nat → List (List Int) → List Bool → List (List (List Int) × List Bool) → St
  | 0, a, b, h => ⟨a, b, h⟩
  | _ + 1, a, b, [] => ⟨a, b, []⟩
  | k + 1, _, _, (a, b) :: h => St.backGo k a b h
def St.back (s : St) (m : Nat) : St := St.backGo (s.hist.length - m) s.now s.held s.hist
def View (w : World) (R : Nat → Prop) (L : List (List Int)) (fc : Int → Option Value) (now : List (List Int)) : Prop :=
  now.length = L.length ∧ (∀ y v, fc y = some v → 0 ≤ y ∧ y < (L.length : Int)) ∧ ∀ n : Nat, n < L.length → match fc n with | some v => HB w R v (now.getD n []) | none => now.getD n [] = L.getD n []
def HeldIs (N : Nat) (fh : Int → Option Value) (held : List Bool) : Prop :=
  held.length = N ∧ (∀ y v, fh y = some v → 0 ≤ y ∧ y < (N : Int)) ∧ ∀ n : Nat, n < N → fh n = if held.getD n false = true then some (.int .i64 1) else none
def Undo (w : World) (R : Nat → Prop) (N s0 bh : Nat) (u : Value) (fc fh fc0 fh0 : Int → Option Value) : Prop :=
  (∃ bo bs bn n : Nat, ∃ ov : Option Value, u = .func (.func 85) #[] #[.pointer (some ⟨bo, 0, none⟩), .pointer (some ⟨bs, 0, none⟩), .pointer (some ⟨bn, 0, none⟩)] ∧
      Strc w bo 23 [ov.getD (.slice none 0 0)] ∧ Strc w bs 42 [.pointer (some ⟨s0, 0, none⟩)] ∧ Strc w bn 3 [.int .i64 n] ∧ R bo ∧ R bs ∧ R bn ∧ n < N ∧ (∀ v, ov = some v → ∃ g c, v = .slice (some ⟨g, 0, none⟩) 256 c) ∧
      fc0 = (fun y => if y = (n : Int) then ov else fc y) ∧ fh0 = fh) ∨
  (∃ bw bm bn n : Nat, ∃ was : Int, u = .func (.func 170) #[] #[.pointer (some ⟨bw, 0, none⟩), .pointer (some ⟨bm, 0, none⟩), .pointer (some ⟨bn, 0, none⟩)] ∧
      Strc w bw 3 [.int .i64 was] ∧ Strc w bm 99 [.map (some bh)] ∧ Strc w bn 3 [.int .i64 n] ∧ R bw ∧ R bm ∧ R bn ∧ n < N ∧ fc0 = fc ∧ (was = 0 ∨ was = 1) ∧ fh0 = (if was = 0 then (fun y => if y = (n : Int) then none else fh y) else fh))
def Chain (w : World) (R : Nat → Prop) (L : List (List Int)) (s0 bh : Nat) : List Value → (Int → Option Value) → (Int → Option Value) → List (List (List Int) × List Bool) → Prop
  | [], _, _, [] => True
  | u :: us, fc, fh, (a, b) :: h => ∃ fc0 fh0, Undo w R L.length s0 bh u fc fh fc0 fh0 ∧ View w R L fc0 a ∧ HeldIs L.length fh0 b ∧ Chain w R L s0 bh us fc0 fh0 h
  | _, _, _, _ => False
structure StAt (w : World) (Dd M Mc R : Nat → Prop) (s0 p0 : Nat) (L : List (List Int)) (m room ns gs cap bc bw bh : Nat) (uv : Value) (found asked : Int) (fc fh : Int → Option Value) (us : List Value) (s : St) : Prop where
  disk : DiskIs w Dd p0 L m
  st : Strc w s0 103 [.pointer (some ⟨p0, 0, none⟩), .int .i64 room, .map (some bc), .map (some bw), .map (some bh), uv, .slice (some ⟨gs, 0, none⟩) ns cap, .int .i64 found, .int .i64 asked]
  ms0 : M s0
  mcM : ∀ k, Mc k → M k
  mgs : Mc gs
  ncs : ¬ Mc s0
  ncc : ¬ Mc bc
  ncw : ¬ Mc bw
  nch : ¬ Mc bh
  ncu : ∀ g, uv.ownBlock = some g → ¬ Mc g
  mbc : M bc
  mbw : M bw
  mbh : M bh
  n1 : bc ≠ bw
  n2 : bc ≠ bh
  n3 : bw ≠ bh
  ic : IM Tryz.prog 3 w bc 4096 fc
  iw : IM Tryz.prog 3 w bw 4096 (fun _ => none)
  ih : IM Tryz.prog 3 w bh 4096 fh
  und : w.ownsRow 0 1 1 uv us.length us
  mu : ∀ g, uv.ownBlock = some g → M g
  cache : Cache w Mc R L room ns gs (fun _ => False)
  r1 : 1 ≤ room
  r2 : room ≤ 256
  s1 : 0 < ns
  s2 : ns ≤ 16
  view : View w R L fc s.now
  held : HeldIs L.length fh s.held
  chain : Chain w R L s0 bh us.reverse fc fh s.hist
  sepD : ∀ k, M k → ¬ Dd k
  sepR : ∀ k, M k → ¬ R k
  subM : ∀ k, M k → k < w.heap.size
  subR : ∀ k, R k → k < w.heap.size
  subD : ∀ k, Dd k → k < w.heap.size
def StIs (w : World) (D : Nat → Prop) (s0 : Nat) (s : St) : Prop :=
  ∃ Dd M Mc R p0 L m room ns gs cap bc bw bh uv found asked fc fh us, StAt w Dd M Mc R s0 p0 L m room ns gs cap bc bw bh uv found asked fc fh us s ∧ D = fun k => Dd k ∨ M k ∨ R k
theorem View.mod {w w1 : World} {R S : Nat → Prop} {L : List (List Int)} {fc : Int → Option Value} {a : List (List Int)} (h : View w R L fc a) (hm : Mod w w1 S) (hn : ∀ k, R k → ¬ S k) : View w1 R L fc a := by
  refine ⟨h.1, h.2.1, fun n hn' => ?_⟩
  have := h.2.2 n hn'
  split at this
  · exact this.mod hm hn
  · exact this
theorem HB.more {w : World} {R R' : Nat → Prop} {v : Value} {l : List Int} (h : HB w R v l) (hr : ∀ k, R k → R' k) : HB w R' v l := h.mono hr
theorem View.more {w : World} {R R' : Nat → Prop} {L : List (List Int)} {fc : Int → Option Value} {a : List (List Int)} (h : View w R L fc a) (hr : ∀ k, R k → R' k) : View w R' L fc a := by
  refine ⟨h.1, h.2.1, fun n hn' => ?_⟩
  have := h.2.2 n hn'
  split at this
  · exact this.more hr
  · exact this
theorem Undo.mod {w w1 : World} {R S : Nat → Prop} {N s0 bh : Nat} {u : Value} {fc fh fc0 fh0 : Int → Option Value} (h : Undo w R N s0 bh u fc fh fc0 fh0) (hm : Mod w w1 S) (hn : ∀ k, R k → ¬ S k) : Undo w1 R N s0 bh u fc fh fc0 fh0 := by
  rcases h with ⟨bo, bs, bn, n, ov, hu, h1, h2, h3, r1, r2, r3, hr⟩ | ⟨bo, bs, bn, n, was, hu, h1, h2, h3, r1, r2, r3, hr⟩
  · exact .inl ⟨bo, bs, bn, n, ov, hu, h1.mod hm (hn _ r1), h2.mod hm (hn _ r2), h3.mod hm (hn _ r3), r1, r2, r3, hr⟩
  · exact .inr ⟨bo, bs, bn, n, was, hu, h1.mod hm (hn _ r1), h2.mod hm (hn _ r2), h3.mod hm (hn _ r3), r1, r2, r3, hr⟩
theorem Undo.more {w : World} {R R' : Nat → Prop} {N s0 bh : Nat} {u : Value} {fc fh fc0 fh0 : Int → Option Value} (h : Undo w R N s0 bh u fc fh fc0 fh0) (hr : ∀ k, R k → R' k) : Undo w R' N s0 bh u fc fh fc0 fh0 := by
  rcases h with ⟨bo, bs, bn, n, ov, hu, h1, h2, h3, r1, r2, r3, h⟩ | ⟨bo, bs, bn, n, was, hu, h1, h2, h3, r1, r2, r3, h⟩
  · exact .inl ⟨bo, bs, bn, n, ov, hu, h1, h2, h3, hr _ r1, hr _ r2, hr _ r3, h⟩
  · exact .inr ⟨bo, bs, bn, n, was, hu, h1, h2, h3, hr _ r1, hr _ r2, hr _ r3, h⟩
theorem Chain.mod {w w1 : World} {R S : Nat → Prop} {L : List (List Int)} {s0 bh : Nat} (hm : Mod w w1 S) (hn : ∀ k, R k → ¬ S k) : ∀ (us : List Value) (fc fh : Int → Option Value) (h : List (List (List Int) × List Bool)), Chain w R L s0 bh us fc fh h → Chain w1 R L s0 bh us fc fh h
  | [], _, _, [], _ => trivial
  | u :: us, fc, fh, (a, b) :: h, hc => by
    obtain ⟨fc0, fh0, h1, h2, h3, h4⟩ := hc
    exact ⟨fc0, fh0, h1.mod hm hn, h2.mod hm hn, h3, Chain.mod hm hn us fc0 fh0 h h4⟩
  | [], _, _, _ :: _, hc => hc.elim
  | _ :: _, _, _, [], hc => hc.elim
theorem Chain.more {w : World} {R R' : Nat → Prop} {L : List (List Int)} {s0 bh : Nat} (hr : ∀ k, R k → R' k) : ∀ (us : List Value) (fc fh : Int → Option Value) (h : List (List (List Int) × List Bool)), Chain w R L s0 bh us fc fh h → Chain w R' L s0 bh us fc fh h
  | [], _, _, [], _ => trivial
  | u :: us, fc, fh, (a, b) :: h, hc => by
    obtain ⟨fc0, fh0, h1, h2, h3, h4⟩ := hc
    exact ⟨fc0, fh0, h1.more hr, h2.more hr, h3, Chain.more hr us fc0 fh0 h h4⟩
  | [], _, _, _ :: _, hc => hc.elim
  | _ :: _, _, _, [], hc => hc.elim
theorem Chain.len {w : World} {R : Nat → Prop} {L : List (List Int)} {s0 bh : Nat} : ∀ (us : List Value) (fc fh : Int → Option Value) (h : List (List (List Int) × List Bool)), Chain w R L s0 bh us fc fh h → us.length = h.length
  | [], _, _, [], _ => rfl
  | u :: us, fc, fh, (a, b) :: h, hc => by
    obtain ⟨fc0, fh0, _, _, _, h4⟩ := hc
    simp [Chain.len us fc0 fh0 h h4]
  | [], _, _, _ :: _, hc => hc.elim
  | _ :: _, _, _, [], hc => hc.elim
theorem Cache.more {w : World} {M M' R R' : Nat → Prop} {L : List (List Int)} {room ns gs : Nat} {X : Nat → Prop} (h : Cache w M R L room ns gs X) (hm : ∀ k, M k → M' k) (hr : ∀ k, R k → R' k) : Cache w M' R' L room ns gs X := by
  obtain ⟨cs, h1, h2, h3, h4⟩ := h
  refine ⟨cs, h1, h2, fun i hi => ?_, h4⟩
  obtain ⟨ov, ol, mb, f, h⟩ := h3 i hi
  exact ⟨ov, ol, mb, f, ⟨h.h0, h.h1, h.own, h.len, h.rng, fun g hg => hm _ (h.mo g hg), hm _ h.mm, h.nx, h.map, fun x v hx => (h.good x v hx).more hr⟩⟩
theorem StAt.mod {w w1 : World} {S Dd M Mc R : Nat → Prop} {s0 p0 : Nat} {L : List (List Int)} {m room ns gs cap bc bw bh : Nat} {uv : Value} {found asked : Int} {fc fh : Int → Option Value} {us : List Value} {s : St}
    (h : StAt w Dd M Mc R s0 p0 L m room ns gs cap bc bw bh uv found asked fc fh us s) (hm : Mod w w1 S) (hD : ∀ k, Dd k → ¬ S k) (hM : ∀ k, M k → ¬ S k) (hR : ∀ k, R k → ¬ S k) : StAt w1 Dd M Mc R s0 p0 L m room ns gs cap bc bw bh uv found asked fc fh us s :=
  ⟨h.disk.mod hm (fun k _ hk => hD k hk), h.st.mod hm (hM _ h.ms0), h.ms0, h.mcM, h.mgs, h.ncs, h.ncc, h.ncw, h.nch, h.ncu, h.mbc, h.mbw, h.mbh, h.n1, h.n2, h.n3, h.ic.mod hm (hM _ h.mbc), h.iw.mod hm (hM _ h.mbw), h.ih.mod hm (hM _ h.mbh), own_mod h.und hm (fun g hg => hM _ (h.mu g hg)), h.mu,
    h.cache.mod hm (fun k hk => hM k (h.mcM k hk)) hR (hM _ (h.mcM _ h.mgs)), h.r1, h.r2, h.s1, h.s2, h.view.mod hm hR, h.held, Chain.mod hm hR _ _ _ _ h.chain, h.sepD, h.sepR, fun k hk => Nat.lt_of_lt_of_le (h.subM k hk) hm.size, fun k hk => Nat.lt_of_lt_of_le (h.subR k hk) hm.size, fun k hk => Nat.lt_of_lt_of_le (h.subD k hk) hm.size⟩
theorem StIs.mod {w w1 : World} {D S : Nat → Prop} {s0 : Nat} {s : St} (h : StIs w D s0 s) (hm : Mod w w1 S) (hn : ∀ k, D k → ¬ S k) : StIs w1 D s0 s := by
  obtain ⟨Dd, M, Mc, R, p0, L, m, room, ns, gs, cap, bc, bw, bh, uv, found, asked, fc, fh, us, h, rfl⟩ := h
  exact ⟨Dd, M, Mc, R, p0, L, m, room, ns, gs, cap, bc, bw, bh, uv, found, asked, fc, fh, us, h.mod hm (fun k hk => hn k (.inl hk)) (fun k hk => hn k (.inr (.inl hk))) (fun k hk => hn k (.inr (.inr hk))), rfl⟩
theorem StIs.below {w w1 : World} {D : Nat → Prop} {s0 : Nat} {s : St} (h : StIs w D s0 s) (hm : Below w.heap.size w w1) : StIs w1 D s0 s := h.mod (Mod.of_below hm (fun _ => False)) (fun _ _ => id)
theorem StIs.sub {w : World} {D : Nat → Prop} {s0 : Nat} {s : St} (h : StIs w D s0 s) : ∀ k, D k → k < w.heap.size := by
  obtain ⟨Dd, M, Mc, R, p0, L, m, room, ns, gs, cap, bc, bw, bh, uv, found, asked, fc, fh, us, h, rfl⟩ := h
  rintro k (h1 | h1 | h1)
  · exact h.subD k h1
  · exact h.subM k h1
  · exact h.subR k h1
theorem StAt.counts {w w1 : World} {Dd M Mc R : Nat → Prop} {s0 p0 : Nat} {L : List (List Int)} {m room ns gs cap bc bw bh : Nat} {uv : Value} {found asked : Int} {fc fh : Int → Option Value} {us : List Value} {s : St}
    (h : StAt w Dd M Mc R s0 p0 L m room ns gs cap bc bw bh uv found asked fc fh us s) (hm : Mod w w1 (· = s0)) {x y : Int} (hst : Strc w1 s0 103 [.pointer (some ⟨p0, 0, none⟩), .int .i64 room, .map (some bc), .map (some bw), .map (some bh), uv, .slice (some ⟨gs, 0, none⟩) ns cap, .int .i64 x, .int .i64 y]) :
    StAt w1 Dd M Mc R s0 p0 L m room ns gs cap bc bw bh uv x y fc fh us s := by
  have hne1 : (103 : TypeId) ≠ 1 := by decide
  have hR : ∀ k, R k → ¬ k = s0 := fun k hk e => h.sepR s0 h.ms0 (e ▸ hk)
  have hC : ∀ k, Mc k → ¬ k = s0 := fun k hk e => h.ncs (e ▸ hk)
  exact ⟨h.disk.mod hm (fun k _ hk e => h.sepD s0 h.ms0 (e ▸ hk)), hst, h.ms0, h.mcM, h.mgs, h.ncs, h.ncc, h.ncw, h.nch, h.ncu, h.mbc, h.mbw, h.mbh, h.n1, h.n2, h.n3, h.ic.mod hm (h.st.not_map h.ic), h.iw.mod hm (h.st.not_map h.iw), h.ih.mod hm (h.st.not_map h.ih),
    own_mod h.und hm (fun g hg e => own_not_strc h.und h.st hne1 (e ▸ hg)), h.mu, h.cache.mod hm hC hR (hC _ h.mgs), h.r1, h.r2, h.s1, h.s2, h.view.mod hm hR, h.held, Chain.mod hm hR _ _ _ _ h.chain, h.sepD, h.sepR,
    fun k hk => Nat.lt_of_lt_of_le (h.subM k hk) hm.size, fun k hk => Nat.lt_of_lt_of_le (h.subR k hk) hm.size, fun k hk => Nat.lt_of_lt_of_le (h.subD k hk) hm.size⟩
theorem StAt.used {w w1 : World} {Dd M Mc R r : Nat → Prop} {s0 p0 : Nat} {L : List (List Int)} {m room ns gs cap bc bw bh : Nat} {uv : Value} {found asked : Int} {fc fh : Int → Option Value} {us : List Value} {s : St}
    (h : StAt w Dd M Mc R s0 p0 L m room ns gs cap bc bw bh uv found asked fc fh us s) (hm : Mod w w1 Mc) (hr : ∀ k, r k → (Mc k ∨ (w.heap.size ≤ k ∧ k < w1.heap.size)) ∧ ∃ l, Row w1 .i64 k 3 l) (hc : Cache w1 (fun k => Mc k ∨ r k) R L room ns gs (fun _ => False)) :
    StAt w1 Dd (fun k => M k ∨ r k) (fun k => Mc k ∨ r k) R s0 p0 L m room ns gs cap bc bw bh uv found asked fc fh us s := by
  have hR : ∀ k, R k → ¬ Mc k := fun k hk e => h.sepR k (h.mcM k e) hk
  have hnew : ∀ k, k < w.heap.size → r k → Mc k := fun k hk hrk => (hr k hrk).1.elim id (fun e => absurd e.1 (by omega))
  have hno : ∀ k, k < w.heap.size → ¬ Mc k → ¬ (Mc k ∨ r k) := fun k hk hn e => e.elim hn (fun e => hn (hnew k hk e))
  refine ⟨h.disk.mod hm (fun k _ hk e => h.sepD k (h.mcM k e) hk), h.st.mod hm h.ncs, .inl h.ms0, fun k hk => hk.imp (h.mcM k) id, .inl h.mgs, hno _ (h.subM _ h.ms0) h.ncs, hno _ (h.subM _ h.mbc) h.ncc, hno _ (h.subM _ h.mbw) h.ncw, hno _ (h.subM _ h.mbh) h.nch, fun g hg => hno g (h.subM _ (h.mu g hg)) (h.ncu g hg),
    .inl h.mbc, .inl h.mbw, .inl h.mbh, h.n1, h.n2, h.n3, h.ic.mod hm h.ncc, h.iw.mod hm h.ncw, h.ih.mod hm h.nch, own_mod h.und hm h.ncu, fun g hg => .inl (h.mu g hg), hc, h.r1, h.r2, h.s1, h.s2, h.view.mod hm hR, h.held, Chain.mod hm hR _ _ _ _ h.chain, ?_, ?_, ?_,
    fun k hk => Nat.lt_of_lt_of_le (h.subR k hk) hm.size, fun k hk => Nat.lt_of_lt_of_le (h.subD k hk) hm.size⟩
  · rintro k (hk | hk) hd
    · exact h.sepD k hk hd
    · exact h.sepD k (h.mcM k (hnew k (h.subD k hd) hk)) hd
  · rintro k (hk | hk) hd
    · exact h.sepR k hk hd
    · exact h.sepR k (h.mcM k (hnew k (h.subR k hd) hk)) hd
  · rintro k (hk | hk)
    · exact Nat.lt_of_lt_of_le (h.subM k hk) hm.size
    · rcases (hr k hk).1 with h1 | h1
      · exact Nat.lt_of_lt_of_le (h.subM k (h.mcM k h1)) hm.size
      · exact h1.2
theorem StAt.change {w w1 : World} {Dd M Mc R r : Nat → Prop} {s0 p0 : Nat} {L : List (List Int)} {m room ns gs cap bc bw bh : Nat} {uv uv' : Value} {found asked : Int} {fc fh fc' fh' : Int → Option Value} {us us' : List Value} {s s' : St}
    (h : StAt w Dd M Mc R s0 p0 L m room ns gs cap bc bw bh uv found asked fc fh us s) (hm : Mod w w1 (fun k => k = s0 ∨ k = bc ∨ k = bh ∨ uv.ownBlock = some k))
    (st' : Strc w1 s0 103 [.pointer (some ⟨p0, 0, none⟩), .int .i64 room, .map (some bc), .map (some bw), .map (some bh), uv', .slice (some ⟨gs, 0, none⟩) ns cap, .int .i64 found, .int .i64 asked])
    (ic' : IM Tryz.prog 3 w1 bc 4096 fc') (ih' : IM Tryz.prog 3 w1 bh 4096 fh') (und' : w1.ownsRow 0 1 1 uv' us'.length us') (loc : ∀ g, uv'.ownBlock = some g → uv.ownBlock = some g ∨ w.heap.size ≤ g)
    (hr : ∀ k, r k → w.heap.size ≤ k ∧ k < w1.heap.size ∧ uv'.ownBlock ≠ some k) (view' : View w1 (fun k => R k ∨ r k) L fc' s'.now) (held' : HeldIs L.length fh' s'.held) (chain' : Chain w1 (fun k => R k ∨ r k) L s0 bh us'.reverse fc' fh' s'.hist) :
    StAt w1 Dd (fun k => M k ∨ uv'.ownBlock = some k) Mc (fun k => R k ∨ r k) s0 p0 L m room ns gs cap bc bw bh uv' found asked fc' fh' us' s' := by
  have hSM : ∀ k, (k = s0 ∨ k = bc ∨ k = bh ∨ uv.ownBlock = some k) → M k := by
    rintro k (rfl | rfl | rfl | e)
    · exact h.ms0
    · exact h.mbc
    · exact h.mbh
    · exact h.mu k e
  have hSC : ∀ k, Mc k → ¬ (k = s0 ∨ k = bc ∨ k = bh ∨ uv.ownBlock = some k) := by
    rintro k hk (rfl | rfl | rfl | e)
    · exact h.ncs hk
    · exact h.ncc hk
    · exact h.nch hk
    · exact h.ncu k e hk
  have hSR : ∀ k, R k → ¬ (k = s0 ∨ k = bc ∨ k = bh ∨ uv.ownBlock = some k) := fun k hk e => h.sepR k (hSM k e) hk
  refine ⟨h.disk.mod hm (fun k _ hk e => h.sepD k (hSM k e) hk), st', .inl h.ms0, fun k hk => .inl (h.mcM k hk), h.mgs, h.ncs, h.ncc, h.ncw, h.nch, fun g hg => ?_, .inl h.mbc, .inl h.mbw, .inl h.mbh, h.n1, h.n2, h.n3, ic', h.iw.mod hm ?_, ih', und', fun g hg => .inr hg,
    (h.cache.mod hm hSC hSR (hSC _ h.mgs)).more (fun _ => id) (fun _ => .inl), h.r1, h.r2, h.s1, h.s2, view', held', chain', ?_, ?_, ?_, ?_, fun k hk => Nat.lt_of_lt_of_le (h.subD k hk) hm.size⟩
  · intro hk
    rcases loc g hg with h1 | h1
    · exact h.ncu g h1 hk
    · have := h.subM g (h.mcM g hk); omega
  · rintro (e | e | e | e)
    · exact h.st.not_map h.iw e
    · exact h.n1 e.symm
    · exact h.n3 e
    · exact own_not_map h.und h.iw e
  · rintro k (hk | hk) hd
    · exact h.sepD k hk hd
    · rcases loc k hk with h1 | h1
      · exact h.sepD k (h.mu k h1) hd
      · have := h.subD k hd; omega
  · rintro k (hk | hk) (hd | hd)
    · exact h.sepR k hk hd
    · have := h.subM k hk; have := (hr k hd).1; omega
    · rcases loc k hk with h1 | h1
      · exact h.sepR k (h.mu k h1) hd
      · have := h.subR k hd; omega
    · exact (hr k hd).2.2 hk
  · rintro k (hk | hk)
    · exact Nat.lt_of_lt_of_le (h.subM k hk) hm.size
    · exact own_lt und' k hk
  · rintro k (hk | hk)
    · exact Nat.lt_of_lt_of_le (h.subR k hk) hm.size
    · exact (hr k hk).2.1
theorem StAt.keep {w : World} {Dd M Mc R r : Nat → Prop} {s0 p0 : Nat} {L : List (List Int)} {m room ns gs cap bc bw bh : Nat} {uv : Value} {found asked : Int} {fc fh : Int → Option Value} {us : List Value} {s : St}
    (h : StAt w Dd M Mc R s0 p0 L m room ns gs cap bc bw bh uv found asked fc fh us s) (hr : ∀ k, r k → ¬ M k ∧ k < w.heap.size) : StAt w Dd M Mc (fun k => R k ∨ r k) s0 p0 L m room ns gs cap bc bw bh uv found asked fc fh us s :=
  ⟨h.disk, h.st, h.ms0, h.mcM, h.mgs, h.ncs, h.ncc, h.ncw, h.nch, h.ncu, h.mbc, h.mbw, h.mbh, h.n1, h.n2, h.n3, h.ic, h.iw, h.ih, h.und, h.mu, h.cache.more (fun _ => id) (fun _ => .inl), h.r1, h.r2, h.s1, h.s2, h.view.more (fun _ => .inl), h.held, Chain.more (fun _ => .inl) _ _ _ _ h.chain,
    h.sepD, fun k hk e => e.elim (h.sepR k hk) (fun e => (hr k e).1 hk), h.subM, fun k hk => hk.elim (h.subR k) (fun e => (hr k e).2), h.subD⟩
theorem sblocks_calls {w : World} {s0 p0 : Nat} {n : Int} (h : w.cell? ⟨s0, 0, none⟩ = some (.pointer (some ⟨p0, 0, none⟩))) (hn : w.cell? ⟨p0, 0, none⟩ = some (.int .i64 n)) :
    Calls Tryz.prog 123 #[.pointer (some ⟨s0, 0, none⟩)] w fun e w' => e = .returned (.int .i64 n) ∧ w = w' := by
  go_enter Tryz.func123, Tryz.ntmps123
  go_wp2_with (go_at_call 102; refine (dblocks_calls hn).mono ?_; rintro e w' ⟨rfl, rfl⟩)
  go_ret
  exact ⟨rfl, rfl⟩
theorem shas_calls {w : World} {s0 p0 : Nat} {n x : Int} (h : w.cell? ⟨s0, 0, none⟩ = some (.pointer (some ⟨p0, 0, none⟩))) (hn : w.cell? ⟨p0, 0, none⟩ = some (.int .i64 n)) :
    Calls Tryz.prog 54 #[.pointer (some ⟨s0, 0, none⟩), .int .i64 x] w fun e w' => e = .returned (.bool (decide (0 ≤ x ∧ x < n))) ∧ w = w' := by
  by_cases h0 : 0 ≤ x
  · have e1 : decide (0 ≤ x ∧ x < n) = decide (x < n) := by simp [h0]
    rw [e1]
    go_enter Tryz.func54, Tryz.ntmps54
    go_wp2_with (go_at_call 123; refine (sblocks_calls h hn).mono ?_; rintro e w' ⟨rfl, rfl⟩)
    go_ret
    exact ⟨rfl, rfl⟩
  · have e1 : decide (0 ≤ x ∧ x < n) = false := by simp [h0]
    rw [e1]
    go_enter Tryz.func54, Tryz.ntmps54
    go_wp2
    go_ret
    exact ⟨rfl, rfl⟩
theorem nonnil_neql (ad : Addr) (n c : Nat) (W : World) : (binOp .neq 23 (.slice (some ad) n c) (.slice none 0 0)).run Tryz.prog W = .ok (.bool true) W := by kernel_rfl
theorem nil_neql (W : World) : (binOp .neq 23 (.slice none 0 0) (.slice none 0 0)).run Tryz.prog W = .ok (.bool false) W := by kernel_rfl
def SReadPost (D : Nat → Prop) (s0 : Nat) (s : St) (b : List Int) (w : World) (e : Ending) (w' : World) : Prop :=
  ∃ D' g c, e = .returned (.tuple #[.slice (some ⟨g, 0, none⟩) 256 c, .int .i64 0]) ∧ StIs w' D' s0 s ∧ (∀ k, D' k → D k ∨ w.heap.size ≤ k) ∧ Mod w w' D ∧ w.heap.size ≤ g ∧ ¬ D' g ∧ 256 ≤ c ∧ Row w' .u8 g 5 b
theorem sread_end {D D1 : Nat → Prop} {s0 : Nat} {s : St} {b : List Int} {w w1 w2 : World} {e : Ending} {v : Value} (h1 : StIs w1 D1 s0 s) (hD : ∀ k, D1 k → D k ∨ w.heap.size ≤ k) (hm : Mod w w1 D) (ho : Own w2 w1.heap.size 5 .u8 v b) (hb : Below w1.heap.size w1 w2) (hl : b.length = 256) (he : e = .returned (.tuple #[v, .int .i64 0])) :
    SReadPost D s0 s b w e w2 := by
  obtain ⟨g, c, rfl, hg, hc, hr⟩ := ho.row (by omega)
  rw [hl] at he hc
  exact ⟨D1, g, c, he, h1.below hb, hD, hm.below hb, Nat.le_trans hm.size hg, fun hd => by have := h1.sub g hd; omega, hc, hr⟩
theorem StAt.is {w : World} {Dd M Mc R : Nat → Prop} {s0 p0 : Nat} {L : List (List Int)} {m room ns gs cap bc bw bh : Nat} {uv : Value} {found asked : Int} {fc fh : Int → Option Value} {us : List Value} {s : St}
    (h : StAt w Dd M Mc R s0 p0 L m room ns gs cap bc bw bh uv found asked fc fh us s) : StIs w (fun k => Dd k ∨ M k ∨ R k) s0 s := ⟨Dd, M, Mc, R, p0, L, m, room, ns, gs, cap, bc, bw, bh, uv, found, asked, fc, fh, us, h, rfl⟩
set_option maxHeartbeats 4000000 in
set_option maxRecDepth 100000 in
theorem sread_calls {D : Nat → Prop} {s0 : Nat} {s : St} (n : Nat) (w : World) (h : StIs w D s0 s) (hn : n < s.now.length) :
    Calls Tryz.prog 20 #[.pointer (some ⟨s0, 0, none⟩), .int .i64 n] w (SReadPost D s0 s (s.now.getD n []) w) := by
  obtain ⟨Dd, M, Mc, R, p0, L, m, room, ns, gs, cap, bc, bw, bh, uv, found, asked, fc, fh, us, h, rfl⟩ := h
  have hlen := h.view.1
  rw [hlen] at hn
  have hview := h.view.2.2 n hn
  obtain ⟨hd0, hd1, hd2, hdp, hdl⟩ := h.disk.n
  have hc0 := h.st.cell 0 _ rfl
  have hdec : decide (0 ≤ (n : Int) ∧ (n : Int) < (L.length : Int)) = true := by simp; omega
  have hhas := shas_calls (x := (n : Int)) hc0 hd0
  rw [hdec] at hhas
  have HHAS := Aside0.mk hhas
  have HH := Aside0.mk h
  have hc2 := h.st.cell 2 _ rfl
  have hc3 := h.st.cell 3 _ rfl
  have i1 : n < 9223372036854775808 := by omega
  obtain ⟨b, hb⟩ : ∃ b, s.now.getD n [] = b := ⟨_, rfl⟩
  rw [hb] at hview ⊢
  have hsl := h.st.lt
  have HS := Aside0.mk (show ∀ o : Obj, (w.alloc o).drew.cell? ⟨s0, 2, none⟩ = some (.map (some bc)) ∧ (w.alloc o).drew.cell? ⟨s0, 3, none⟩ = some (.map (some bw)) from fun o => ⟨(h.st.below (below_alloc (Below.refl _ _) o)).cell 2 _ rfl, (h.st.below (below_alloc (Below.refl _ _) o)).cell 3 _ rfl⟩)
  have HWA := Aside0.mk (fun (W : World) (hW : Below w.heap.size w W) => h.mod (Mod.of_below hW (fun _ => False)) (fun _ _ => id) (fun _ _ => id) (fun _ _ => id))
  clear hhas hdec hb
  cases hfc : fc n with
  | some v =>
    rw [hfc] at hview
    dsimp only at hview
    obtain ⟨g0, c0, rfl, hr0, hcc0, hrow0, hl0, hb0⟩ := hview
    have HF := Aside0.mk (show (fc n).getD (.slice none 0 0) = .slice (some ⟨g0, 0, none⟩) 256 c0 by rw [hfc]; rfl)
    have HROW := Aside0.mk hrow0
    have HL0 := Aside0.mk hl0
    have hnil := nonnil_neql ⟨g0, 0, none⟩ 256 c0
    clear h hfc hrow0 hl0 hb0
    go_enter Tryz.func20, Tryz.ntmps20
    go_wp2_with (go_at_call 54; refine HHAS.out.mono ?_; rintro e w' ⟨rfl, rfl⟩)
    refine wp_region_ord [0, 1, 2, 3, 4, 5, 6, 7, 10, 8, 9] [0, 0, 0, 1, 0, 0, 0, 1, 0, 2, 0] (fun w' => w'.cell? ⟨s0, 2, none⟩ = some (.map (some bc)) ∧ w'.cell? ⟨s0, 3, none⟩ = some (.map (some bw))) (by kernel_rfl) rfl (by kernel_rfl) (fun _ _ _ _ h => h) ⟨hc2, hc3⟩ ?_
    iterate 9 (first
      | (refine inQ_off0 (by rfl) (by rfl) ?_; simp only [Act.put, stA, stZ, stS, i64_w, i32_w])
      | (refine inQ_off1 (by rfl) (by rfl) ?_; simp only [Act.put, stA, stZ, stS, i64_w, i32_w])
      | (refine inQ_0 (v := ?_) (by rfl) (by rfl) rfl ?_ (a' := ?_) ?_ ?_; rotate_left; (intro w'; go_simp; with_reducible rfl); rotate_left; (simp only [Act.put, stA, stZ, stS, i64_w, i32_w]; rfl))
      | (refine inQ_1 (v := ?_) (by rfl) (by rfl) rfl ?_ (a' := ?_) ?_ ?_; rotate_left; (rintro w' hs; go_split_ands; go_simp; with_reducible rfl); rotate_left; (simp only [Act.put, stA, stZ, stS, i64_w, i32_w]; rfl)))
    refine inP_2 (by rfl) (by rfl) (fun K hK => ?_)
    go_simp
    refine hK _ _ (HS.out _) ?_
    clear hK K
    try simp only [Act.put, stA, stZ, stS, i64_w, i32_w]
    iterate 1 (first
      | (refine inQ_off0 (by rfl) (by rfl) ?_; simp only [Act.put, stA, stZ, stS, i64_w, i32_w])
      | (refine inQ_off1 (by rfl) (by rfl) ?_; simp only [Act.put, stA, stZ, stS, i64_w, i32_w])
      | (refine inQ_0 (v := ?_) (by rfl) (by rfl) rfl ?_ (a' := ?_) ?_ ?_; rotate_left; (intro w'; go_simp; with_reducible rfl); rotate_left; (simp only [Act.put, stA, stZ, stS, i64_w, i32_w]; rfl))
      | (refine inQ_1 (v := ?_) (by rfl) (by rfl) rfl ?_ (a' := ?_) ?_ ?_; rotate_left; (rintro w' hs; go_split_ands; go_simp; with_reducible rfl); rotate_left; (simp only [Act.put, stA, stZ, stS, i64_w, i32_w]; rfl)))
    refine inP_nil ?_
    have ha := HWA.out _ (below_alloc (Below.refl _ _) (.cells #[.map (some bc), .map (some bw)] 98)).drew
    have hcl := cell_alloc w #[.map (some bc), .map (some bw)] 98 0 _ rfl
    have hcl2 : (w.alloc (.cells #[.map (some bc), .map (some bw)] 98)).drew.cell? ⟨w.heap.size, 0, none⟩ = some (.map (some bc)) := hcl
    have hb1 : Below w.heap.size w (w.alloc (.cells #[.map (some bc), .map (some bw)] 98)).drew := (below_alloc (Below.refl _ _) _).drew
    have hsz : w.heap.size < (w.alloc (.cells #[.map (some bc), .map (some bw)] 98)).drew.heap.size := by show w.heap.size < (w.alloc _).heap.size; rw [World.size_alloc]; omega
    generalize (w.alloc (.cells #[.map (some bc), .map (some bw)] 98)).drew = W at ha hcl2 hb1 hsz ⊢
    have k7 := ha.st.cell 7 _ rfl
    have f7 := ha.st.free 7
    have hwl := ha.st.lt
    have HIC := Aside0.mk ha.ic
    have HW := Aside0.mk ha
    have HB1 := Aside0.mk hb1
    have HCW := Aside0.mk (show ∀ x, (W.setCell ⟨s0, 7, none⟩ (.int .i64 x)).heap[g0]? = W.heap[g0]? from fun x => ((Mod.refl W (· = s0)).set_own 7 (.int .i64 x)).block g0 (HROW.out.below hb1).lt (fun e => ha.sepR s0 ha.ms0 (e ▸ hr0)))
    have hct := ha.counts (x := wrap64 (found + 1)) (y := asked) ((Mod.refl W (· = s0)).set_own 7 _) (ha.st.set 7 _)
    have HCT := Aside0.mk hct
    have hr1 : Row (W.setCell ⟨s0, 7, none⟩ (.int .i64 (wrap64 (found + 1)))) .u8 g0 5 b := (HROW.out.below hb1).kept (HCW.out _)
    have hclo := clone_calls ⟨g0, 0, none⟩ c0 b (W.setCell ⟨s0, 7, none⟩ (.int .i64 (wrap64 (found + 1)))) (hr1.reads (by rw [HL0.out]; omega)) (by rw [HL0.out]; omega)
    rw [HL0.out] at hclo
    have HCLO := Aside0.mk hclo
    clear ha hcl hb1 hct hr1 hclo
    go_wp2
    refine wp_loop_rounds 3 ?_
    rw [rounds_succ]
    go_wp2_with (first
      | (at_lookup; (refine im_look _ rfl _ _ rfl Tryz.underlying3 Tryz.underlying98 (zero_bytes _) rfl HIC.out n i1 rfl _ HF.out ?_))
      | (go_at_call 42; (refine HCLO.out.mono ?_; rintro e w2 ⟨v2, rfl, ho2, hb2⟩; have HO2 := Aside0.mk ho2; have HB2 := Aside0.mk hb2; clear ho2 hb2)))
    go_ret2
    exact sread_end HCT.out.is (fun k hk => .inl hk) ((Mod.of_below HB1.out _).setCell (fun _ => .inr (.inl HCT.out.ms0)) _) HO2.out HB2.out HL0.out rfl
  | none =>
    rw [hfc] at hview
    dsimp only at hview
    have HBL := Aside0.mk hview
    have HF := Aside0.mk (show (fc n).getD (.slice none 0 0) = .slice none 0 0 by rw [hfc]; rfl)
    have hnil0 := nil_neql
    have hil : n % ns < ns := Nat.mod_lt _ h.s1
    obtain ⟨cs, hst, hcl1, hall, hap⟩ := h.cache
    obtain ⟨ov, ol, mb, f, hsh⟩ := hall (n % ns) hil
    obtain ⟨i, hi⟩ : ∃ i, n % ns = i := ⟨_, rfl⟩
    rw [hi] at hsh hil
    have HI := Aside0.mk hi
    have HSH := Aside0.mk (And.intro hst hsh)
    have HGM := Aside0.mk h.mgs
    clear hfc hview hst hcl1 hall hap hsh hi
    go_enter Tryz.func20, Tryz.ntmps20
    go_wp2_with (go_at_call 54; refine HHAS.out.mono ?_; rintro e w' ⟨rfl, rfl⟩)
    refine wp_region_ord [0, 1, 2, 3, 4, 5, 6, 7, 10, 8, 9] [0, 0, 0, 1, 0, 0, 0, 1, 0, 2, 0] (fun w' => w'.cell? ⟨s0, 2, none⟩ = some (.map (some bc)) ∧ w'.cell? ⟨s0, 3, none⟩ = some (.map (some bw))) (by kernel_rfl) rfl (by kernel_rfl) (fun _ _ _ _ h => h) ⟨hc2, hc3⟩ ?_
    iterate 9 (first
      | (refine inQ_off0 (by rfl) (by rfl) ?_; simp only [Act.put, stA, stZ, stS, i64_w, i32_w])
      | (refine inQ_off1 (by rfl) (by rfl) ?_; simp only [Act.put, stA, stZ, stS, i64_w, i32_w])
      | (refine inQ_0 (v := ?_) (by rfl) (by rfl) rfl ?_ (a' := ?_) ?_ ?_; rotate_left; (intro w'; go_simp; with_reducible rfl); rotate_left; (simp only [Act.put, stA, stZ, stS, i64_w, i32_w]; rfl))
      | (refine inQ_1 (v := ?_) (by rfl) (by rfl) rfl ?_ (a' := ?_) ?_ ?_; rotate_left; (rintro w' hs; go_split_ands; go_simp; with_reducible rfl); rotate_left; (simp only [Act.put, stA, stZ, stS, i64_w, i32_w]; rfl)))
    refine inP_2 (by rfl) (by rfl) (fun K hK => ?_)
    go_simp
    refine hK _ _ (HS.out _) ?_
    clear hK K
    try simp only [Act.put, stA, stZ, stS, i64_w, i32_w]
    iterate 1 (first
      | (refine inQ_off0 (by rfl) (by rfl) ?_; simp only [Act.put, stA, stZ, stS, i64_w, i32_w])
      | (refine inQ_off1 (by rfl) (by rfl) ?_; simp only [Act.put, stA, stZ, stS, i64_w, i32_w])
      | (refine inQ_0 (v := ?_) (by rfl) (by rfl) rfl ?_ (a' := ?_) ?_ ?_; rotate_left; (intro w'; go_simp; with_reducible rfl); rotate_left; (simp only [Act.put, stA, stZ, stS, i64_w, i32_w]; rfl))
      | (refine inQ_1 (v := ?_) (by rfl) (by rfl) rfl ?_ (a' := ?_) ?_ ?_; rotate_left; (rintro w' hs; go_split_ands; go_simp; with_reducible rfl); rotate_left; (simp only [Act.put, stA, stZ, stS, i64_w, i32_w]; rfl)))
    refine inP_nil ?_
    have ha := HWA.out _ (below_alloc (Below.refl _ _) (.cells #[.map (some bc), .map (some bw)] 98)).drew
    have hcl2 : (w.alloc (.cells #[.map (some bc), .map (some bw)] 98)).drew.cell? ⟨w.heap.size, 0, none⟩ = some (.map (some bc)) := cell_alloc w #[.map (some bc), .map (some bw)] 98 0 _ rfl
    have hcl3 : (w.alloc (.cells #[.map (some bc), .map (some bw)] 98)).drew.cell? ⟨w.heap.size, 1, none⟩ = some (.map (some bw)) := cell_alloc w #[.map (some bc), .map (some bw)] 98 1 _ rfl
    have hb1 : Below w.heap.size w (w.alloc (.cells #[.map (some bc), .map (some bw)] 98)).drew := (below_alloc (Below.refl _ _) _).drew
    have hsz : w.heap.size < (w.alloc (.cells #[.map (some bc), .map (some bw)] 98)).drew.heap.size := by show w.heap.size < (w.alloc _).heap.size; rw [World.size_alloc]; omega
    generalize (w.alloc (.cells #[.map (some bc), .map (some bw)] 98)).drew = W at ha hcl2 hcl3 hb1 hsz ⊢
    have k6 := ha.st.cell 6 _ rfl
    have hwl := ha.st.lt
    have HIC := Aside0.mk ha.ic
    have HIW := Aside0.mk ha.iw
    have HW := Aside0.mk ha
    have HB1 := Aside0.mk hb1
    have hone := fun k (hk : k < w.heap.size) => hb1.block k hk
    have HSTW := Aside0.mk (HSH.out.1.below hb1)
    have HMB := Aside0.mk (HSH.out.2.map.below hb1)
    have hk1 := HSTW.out.cell (2 * i + 1) _ HSH.out.2.h1
    have HOF := Aside0.mk (of_calls s0 gs ns cap n W k6 HH.out.s1 HH.out.s2 i1)
    rw [HI.out] at HOF
    have HGL := Aside0.mk HSTW.out.lt
    have HD := Aside0.mk (ha.mod (Mod.refl W (fun _ => False)).drew (fun _ _ => id) (fun _ _ => id) (fun _ _ => id))
    have k7 := HD.out.st.cell 7 _ rfl
    have f7 := HD.out.st.free 7
    have k8 := HD.out.st.cell 8 _ rfl
    have f8 := HD.out.st.free 8
    have hdl2 := HD.out.st.lt
    have hk1d : W.drew.cell? ⟨gs, 2 * i + 1, none⟩ = some (.map (some mb)) := hk1
    have hpd : W.drew.cell? ⟨s0, 0, none⟩ = some (.pointer (some ⟨p0, 0, none⟩)) := HD.out.st.cell 0 _ rfl
    have hpw : W.cell? ⟨s0, 0, none⟩ = some (.pointer (some ⟨p0, 0, none⟩)) := hpd
    have hl4 : n < 4096 := by omega
    clear ha hb1 hone h
    cases hf : f n with
    | some v =>
      obtain ⟨g1, c1, rfl, hr1, hcc1, hrow1, hl1, hba1⟩ := HSH.out.2.good n v hf
      rw [Int.toNat_natCast] at hrow1 hl1 hba1
      have HFF := Aside0.mk (show (f n).getD (.slice none 0 0) = .slice (some ⟨g1, 0, none⟩) 256 c1 by rw [hf]; rfl)
      have hnil := nonnil_neql ⟨g1, 0, none⟩ 256 c1
      have hct := HD.out.counts (x := wrap64 (found + 1)) (y := asked) ((Mod.refl W.drew (· = s0)).set_own 7 _) (HD.out.st.set 7 _)
      have hmw : Mod w (W.drew.setCell ⟨s0, 7, none⟩ (.int .i64 (wrap64 (found + 1)))) (· = s0) := ((Mod.of_below HB1.out _).drew).set_own 7 _
      have hR : ∀ k, R k → ¬ k = s0 := fun k hk e => HD.out.sepR s0 HD.out.ms0 (e ▸ hk)
      have hrow2 : Row (W.drew.setCell ⟨s0, 7, none⟩ (.int .i64 (wrap64 (found + 1)))) .u8 g1 5 (L.getD n []) := hrow1.mod hmw (hR g1 hr1)
      have HUSE := Aside0.mk (use_calls n g1 c1 (W.drew.setCell ⟨s0, 7, none⟩ (.int .i64 (wrap64 (found + 1)))) (hct.st.cell 1 _ rfl) (hct.st.cell 6 _ rfl) hct.cache hct.s1 hct.s2 hct.r2 hl4 (fun k hk => hct.sepR k (hct.mcM k hk)) (fun k hk => hct.subM k (hct.mcM k hk)) hct.mgs hct.ncs ⟨g1, c1, rfl, hr1, hcc1, hrow2, hl1, hba1⟩)
      have HCT := Aside0.mk hct
      have HROW2 := Aside0.mk hrow2
      have HL1 := Aside0.mk hl1
      have HMW := Aside0.mk hmw
      have HR1 := Aside0.mk hr1
      clear hf hrow1 hl1 hba1 hct hmw hR hrow2 hr1 hnil0
      have hnil0 := nil_neql
      go_wp2
      refine wp_loop_rounds 3 ?_
      rw [rounds_succ]
      go_wp2_with (at_lookup; (refine im_look _ rfl _ _ rfl Tryz.underlying3 Tryz.underlying98 (zero_bytes _) rfl HIC.out n i1 rfl _ HF.out ?_))
      rw [rounds_succ]
      go_wp2_with (at_lookup; (refine im_look _ rfl _ _ rfl Tryz.underlying3 Tryz.underlying98 (zero_bytes _) rfl HIW.out n i1 rfl (.slice none 0 0) rfl ?_))
      rw [rounds_succ]
      go_wp2_with (first
        | (go_at_call 55; refine HOF.out.mono ?_; rintro e w' ⟨rfl, rfl⟩)
        | (at_lookup; (refine im_look _ rfl _ _ rfl Tryz.underlying3 Tryz.underlying98 (zero_bytes _) rfl (HMB.out.kept (w1 := W.drew) rfl) n i1 rfl _ HFF.out ?_))
        | (go_at_call 57; (refine HUSE.out.mono ?_; rintro e w3 ⟨rfl, hm3, r3, hr3, hc3⟩; have HM3 := Aside0.mk hm3; have HU3 := Aside0.mk (HCT.out.used hm3 hr3 hc3); have HR3 := Aside0.mk hr3; have hclo := clone_calls ⟨g1, 0, none⟩ c1 (L.getD n []) w3 ((HROW2.out.mod hm3 (fun e => HCT.out.sepR g1 (HCT.out.mcM g1 e) HR1.out)).reads (by rw [HL1.out]; omega)) (by rw [HL1.out]; omega); rw [HL1.out] at hclo; have HCLO := Aside0.mk hclo; clear hm3 hr3 hc3 hclo))
        | (go_at_call 42; (refine HCLO.out.mono ?_; rintro e w4 ⟨v4, rfl, ho4, hb4⟩; have HO4 := Aside0.mk ho4; have HB4 := Aside0.mk hb4; clear ho4 hb4)))
      go_ret2
      rw [HBL.out]
      refine sread_end HU3.out.is (fun k hk => ?_) ((HMW.out.mono (fun k _ e => .inr (.inl (e ▸ HCT.out.ms0)))).trans HM3.out (fun k _ e => .inr (.inl (HCT.out.mcM k e)))) HO4.out HB4.out HL1.out rfl
      rcases hk with hk | (hk | hk) | hk
      · exact .inl (.inl hk)
      · exact .inl (.inr (.inl hk))
      · rcases (HR3.out k hk).1 with h1 | h1
        · exact .inl (.inr (.inl (HCT.out.mcM k h1)))
        · exact .inr (Nat.le_trans HMW.out.size h1.1)
      · exact .inl (.inr (.inr hk))
    | none =>
      have HFF := Aside0.mk (show (f n).getD (.slice none 0 0) = .slice none 0 0 by rw [hf]; rfl)
      have hct := HD.out.counts (x := found) (y := wrap64 (asked + 1)) ((Mod.refl W.drew (· = s0)).set_own 8 _) (HD.out.st.set 8 _)
      have hmw : Mod w (W.drew.setCell ⟨s0, 8, none⟩ (.int .i64 (wrap64 (asked + 1)))) (· = s0) := ((Mod.of_below HB1.out _).drew).set_own 8 _
      have HCT := Aside0.mk hct
      have HMW := Aside0.mk hmw
      have HRD := Aside0.mk (dread_calls n _ hct.disk hn)
      have hok := hct.disk.ok n hn
      have HOK := Aside0.mk hok
      have hk0 := hct.st.cell 0 _ rfl
      clear hf hct hmw hok
      go_wp2
      refine wp_loop_rounds 3 ?_
      rw [rounds_succ]
      go_wp2_with (at_lookup; (refine im_look _ rfl _ _ rfl Tryz.underlying3 Tryz.underlying98 (zero_bytes _) rfl HIC.out n i1 rfl _ HF.out ?_))
      rw [rounds_succ]
      go_wp2_with (at_lookup; (refine im_look _ rfl _ _ rfl Tryz.underlying3 Tryz.underlying98 (zero_bytes _) rfl HIW.out n i1 rfl (.slice none 0 0) rfl ?_))
      rw [rounds_succ]
      go_wp2_with (first
        | (go_at_call 55; refine HOF.out.mono ?_; rintro e w' ⟨rfl, rfl⟩)
        | (at_lookup; (refine im_look _ rfl _ _ rfl Tryz.underlying3 Tryz.underlying98 (zero_bytes _) rfl (HMB.out.kept (w1 := W.drew) rfl) n i1 rfl _ HFF.out ?_)))
      refine HRD.out.mono ?_
      rintro e w3 ⟨g3, c3, rfl, hg3, hc3, hr3, hb3⟩
      have h3 := (HCT.out.mod (Mod.of_below hb3 (fun _ => False)) (fun _ _ => id) (fun _ _ => id) (fun _ _ => id)).keep (r := (· = g3)) (fun k e => ⟨fun hk => by have := HCT.out.subM k hk; omega, e ▸ hr3.lt⟩)
      have HUSE := Aside0.mk (use_calls n g3 c3 w3 (h3.st.cell 1 _ rfl) (h3.st.cell 6 _ rfl) h3.cache h3.s1 h3.s2 h3.r2 hl4 (fun k hk => h3.sepR k (h3.mcM k hk)) (fun k hk => h3.subM k (h3.mcM k hk)) h3.mgs h3.ncs ⟨g3, c3, rfl, .inr rfl, hc3, hr3, HOK.out.1, HOK.out.2⟩)
      have H3 := Aside0.mk h3
      have HR3 := Aside0.mk hr3
      have HB3 := Aside0.mk hb3
      clear h3 hr3 hb3 hc3
      dsimp only
      go_wp2_with (first
        | (go_at_call 57; (refine HUSE.out.mono ?_; rintro e w4 ⟨rfl, hm4, r4, hr4, hc4⟩; have HM4 := Aside0.mk hm4; have HU4 := Aside0.mk (H3.out.used hm4 hr4 hc4); have HR4 := Aside0.mk hr4; have hclo := clone_calls ⟨g3, 0, none⟩ c3 (L.getD n []) w4 ((HR3.out.mod hm4 (fun e => H3.out.sepR g3 (H3.out.mcM g3 e) (.inr rfl))).reads (by rw [HOK.out.1]; omega)) (by rw [HOK.out.1]; omega); rw [HOK.out.1] at hclo; have HCLO := Aside0.mk hclo; clear hm4 hr4 hc4 hclo))
        | (go_at_call 42; (refine HCLO.out.mono ?_; rintro e w5 ⟨v5, rfl, ho5, hb5⟩; have HO5 := Aside0.mk ho5; have HB5 := Aside0.mk hb5; clear ho5 hb5)))
      go_ret2
      rw [HBL.out]
      refine sread_end HU4.out.is (fun k hk => ?_) (((HMW.out.mono (fun k _ e => .inr (.inl (e ▸ HCT.out.ms0)))).below HB3.out).trans HM4.out (fun k _ e => .inr (.inl (HCT.out.mcM k e)))) HO5.out HB5.out HOK.out.1 rfl
      have hsw := HMW.out.size
      have hsw3 := HB3.out.size
      rcases hk with hk | (hk | hk) | (hk | hk)
      · exact .inl (.inl hk)
      · exact .inl (.inr (.inl hk))
      · rcases (HR4.out k hk).1 with h1 | h1
        · exact .inl (.inr (.inl (HCT.out.mcM k h1)))
        · exact .inr (by omega)
      · exact .inl (.inr (.inr hk))
      · exact .inr (by omega)
theorem infoFn : (Tryz.prog.info? 1).map (fun i => (i.zero, i.size, i.bytes)) = some (some .nilFunc, 1, 8) := by kernel_rfl
def SWritePost (D : Nat → Prop) (s0 : Nat) (s : St) (w : World) (e : Ending) (w' : World) : Prop :=
  ∃ D', e = .returned (.int .i64 0) ∧ StIs w' D' s0 s ∧ (∀ k, D' k → D k ∨ w.heap.size ≤ k) ∧ Mod w w' D
theorem StAt.forgets {w : World} {Dd M Mc R : Nat → Prop} {s0 p0 : Nat} {L : List (List Int)} {m room ns gs cap bc bw bh : Nat} {uv : Value} {found asked : Int} {fc fh : Int → Option Value} {us : List Value} {s : St}
    (h : StAt w Dd M Mc R s0 p0 L m room ns gs cap bc bw bh uv found asked fc fh us s) (n : Nat) (hn : n < 4096) :
    Calls Tryz.prog 86 #[.pointer (some ⟨gs, 2 * (n % ns), none⟩), .int .i64 n] w fun e w' => e = .returned (.tuple #[]) ∧ Mod w w' Mc ∧ ∃ r : Nat → Prop, (∀ k, r k → Mc k) ∧ StAt w' Dd (fun k => M k ∨ r k) (fun k => Mc k ∨ r k) R s0 p0 L m room ns gs cap bc bw bh uv found asked fc fh us s := by
  have hil : n % ns < ns := Nat.mod_lt _ h.s1
  obtain ⟨cs, hst, hlen, hall, hap⟩ := h.cache
  obtain ⟨ov, ol, mb, f, hsh⟩ := hall (n % ns) hil
  have hr2 := h.r2
  have hol := hsh.len
  refine (forget_calls gs (2 * (n % ns)) mb 4096 cs ov ol n f w hst hsh.h0 hsh.h1 hsh.own (by omega) hsh.map (by omega)).mono ?_
  rintro e w1 ⟨ov1, ol1, rfl, hst1, hown1, hle1, _, hsb1, hob1, hm1, hmod1⟩
  have hMi : ∀ k, (k = gs ∨ k = mb ∨ ov.ownBlock = some k) → Mc k := by
    rintro k (rfl | rfl | e)
    · exact h.mgs
    · exact hsh.mm
    · exact hsh.mo k e
  have hMR : ∀ k, Mc k → ¬ R k := fun k hk => h.sepR k (h.mcM k hk)
  have hmM := hmod1.mono (T := Mc) (fun k _ e => hMi k e)
  refine ⟨rfl, hmM, fun k => ov1.ownBlock = some k, fun k hk => hsh.mo k (hob1 k hk), h.used hmM (fun k hk => ⟨.inl (hsh.mo k (hob1 k hk)), _, own_row_at hown1 hk⟩) ?_⟩
  refine cache_turn hst hlen hall hap hil hsh hMR (fun k hk => h.subM k (h.mcM k hk)) (hMR _ h.mgs) hst1 hown1 (Nat.le_trans hle1 hol) (fun x hx => hsh.rng x (hsb1 x hx)) (fun g hg => .inl (hob1 g hg)) hm1 (fun x v hx => ?_) hmod1
  by_cases e : x = (n : Int)
  · simp [e] at hx
  · rw [if_neg e] at hx
    exact (hsh.good x v hx).mod hmod1 (fun k hk e => hMR k (hMi k e) hk)
set_option maxHeartbeats 4000000 in
set_option maxRecDepth 100000 in
theorem swrite_calls {D : Nat → Prop} {s0 : Nat} {s : St} (n : Nat) (ad : Addr) (c : Nat) (b : List Int) (w : World) (h : StIs w D s0 s) (hn : n < s.now.length) (hb : Kd.C (Kd.int .u8) w (some ad) b.length b) (hbl : b.length = 256) (hba : allB b) (hh : s.hist.length ≤ 1000000) (hbD : ¬ D ad.block) :
    Calls Tryz.prog 32 #[.pointer (some ⟨s0, 0, none⟩), .int .i64 n, .slice (some ad) 256 c] w (SWritePost D s0 (s.write n b) w) := by
  obtain ⟨Dd, M, Mc, R, p0, L, m, room, ns, gs, cap, bc, bw, bh, uv, found, asked, fc, fh, us, h, rfl⟩ := h
  have hlen := h.view.1
  rw [hlen] at hn
  have hview := h.view.2.2 n hn
  obtain ⟨hd0, hd1, hd2, hdp, hdl⟩ := h.disk.n
  have hdec : decide (0 ≤ (n : Int) ∧ (n : Int) < (L.length : Int)) = true := by simp; omega
  have hul : us.length ≤ 1000000 := by have := Chain.len _ _ _ _ h.chain; rw [List.length_reverse] at this; omega
  obtain ⟨q1, hq1⟩ : ∃ q1, w.heap.size = q1 := ⟨_, rfl⟩
  obtain ⟨W1, hW1⟩ : ∃ W1, (w.alloc (.cells #[.pointer (some ⟨s0, 0, none⟩)] 42)).alloc (.cells #[.int .i64 n] 3) = W1 := ⟨_, rfl⟩
  have hb1 : Below w.heap.size w W1 := by rw [← hW1]; exact below_alloc (below_alloc (Below.refl _ _) _) _
  have hs1 : Strc W1 q1 42 [.pointer (some ⟨s0, 0, none⟩)] := by
    rw [← hW1, ← hq1]
    exact (show Strc (w.alloc (.cells #[.pointer (some ⟨s0, 0, none⟩)] 42)) w.heap.size 42 [.pointer (some ⟨s0, 0, none⟩)] from alloc_last _ _).below (below_alloc (Below.refl _ _) _)
  have hs2 : Strc W1 (q1 + 1) 3 [.int .i64 n] := by
    rw [← hW1, ← hq1]
    exact alloc_at _ _ _ (by simp)
  have hsz1 : W1.heap.size = q1 + 1 + 1 := by rw [← hW1, ← hq1]; simp
  have h1 := h.mod (Mod.of_below hb1 (fun _ => False)) (fun _ _ => id) (fun _ _ => id) (fun _ _ => id)
  have hhas := shas_calls (x := (n : Int)) (h1.st.cell 0 _ rfl) h1.disk.n.1
  rw [hdec] at hhas
  have HHAS := Aside0.mk hhas
  have hB1 := Kd.C_below hb hb1
  have HBW := Aside0.mk hb
  have HBB := Aside0.mk (And.intro hB1 (And.intro hbl hba))
  have HB1 := Aside0.mk hb1
  have H := Aside0.mk h
  have H1 := Aside0.mk h1
  have HBX := Aside0.mk (And.intro hs1 hs2)
  have i1 : n < 9223372036854775808 := by omega
  have hl4 : n < 4096 := by omega
  obtain ⟨u, hu⟩ : ∃ u, (fc n).getD (.slice none 0 0) = u := ⟨_, rfl⟩
  have hlk : ∀ (W : World) {S : Nat → Prop}, Mod W1 W S → ¬ S bc → (Instr.lookup 98 (.map (some bc)) (.int .i64 n) false).run Tryz.prog W = .ok u W := fun W S hm hs => by
    have := (h1.ic.mod hm hs).look Tryz.underlying3 Tryz.underlying98 (zero_bytes W) i1
    rwa [hu] at this
  have husl : ∃ A k c', u = .slice A k c' := by
    rw [← hu]
    cases hfc : fc n with
    | none => exact ⟨none, 0, 0, rfl⟩
    | some v =>
      rw [hfc] at hview
      obtain ⟨g0, c0, rfl, _⟩ := hview
      exact ⟨_, _, _, rfl⟩
  obtain ⟨uA, uk, uc, rfl⟩ := husl
  have HU := Aside0.mk hu
  have HLK := Aside0.mk @hlk
  have hS : ∀ W, Below W1.heap.size W1 W → (W.cell? ⟨q1, 0, none⟩ = some (.pointer (some ⟨s0, 0, none⟩)) ∧ W.cell? ⟨q1 + 1, 0, none⟩ = some (.int .i64 n) ∧ W.cell? ⟨s0, 2, none⟩ = some (.map (some bc)) ∧ (Instr.lookup 98 (.map (some bc)) (.int .i64 n) false).run Tryz.prog W = .ok (.slice uA uk uc) W) := fun W hb =>
    ⟨pw_cell_below hb (hs1.cell 0 _ rfl), pw_cell_below hb (hs2.cell 0 _ rfl), pw_cell_below hb (h1.st.cell 2 _ rfl), hlk W (Mod.of_below hb (fun _ => False)) id⟩
  have HS := Aside0.mk hS
  have kp := hs1.cell 0 _ rfl
  have kn := hs2.cell 0 _ rfl
  have kc := h1.st.cell 2 _ rfl
  clear hS hlk hhas hdec h hb hbl hba hb1 hs1 hs2 h1 hB1 hu hview hd0
  go_enter Tryz.func32, Tryz.ntmps32
  go_wp2_with fail
  clear hW1
  refine HHAS.out.mono ?_
  rintro e w' ⟨rfl, rfl⟩
  dsimp only
  go_wp2
  refine wp_region_in [1, 0, 0, 1, 1, 1, 2, 3] [7] (fun w' => w'.cell? ⟨q1, 0, none⟩ = some (.pointer (some ⟨s0, 0, none⟩)) ∧ w'.cell? ⟨q1 + 1, 0, none⟩ = some (.int .i64 n) ∧ w'.cell? ⟨s0, 2, none⟩ = some (.map (some bc)) ∧ (Instr.lookup 98 (.map (some bc)) (.int .i64 n) false).run Tryz.prog w' = .ok (.slice uA uk uc) w') (by kernel_rfl) rfl (by kernel_rfl) (fun _ _ _ _ h => h) (HS.out _ (Below.refl _ _).drew) ?_
  iterate 6 (first
    | (refine in_off0 (by rfl) ?_; simp only [Act.put, stA, stZ, stS, i64_w, i32_w])
    | (refine in_off1 (by rfl) ?_; simp only [Act.put, stA, stZ, stS, i64_w, i32_w])
    | (refine in_0 (v := ?_) (by rfl) rfl ?_ (a' := ?_) ?_ ?_; rotate_left; (intro w'; go_simp; with_reducible rfl); rotate_left; (simp only [Act.put, stA, stZ, stS, i64_w, i32_w]; rfl))
    | (refine in_1 (v := ?_) (by rfl) rfl ?_ (a' := ?_) ?_ ?_; rotate_left; (rintro w' hs; go_split_ands; go_simp; with_reducible rfl); rotate_left; (simp only [Act.put, stA, stZ, stS, i64_w, i32_w]; rfl)))
  refine in_2 (by rfl) (fun K hK => ?_)
  go_simp
  refine hK _ _ (HS.out _ (below_alloc (Below.refl _ _) _).drew) ?_
  clear hK K
  try simp only [Act.put, stA, stZ, stS, i64_w, i32_w]
  refine in_3 (by rfl) (fun K hK => ?_)
  go_simp
  refine hK _ _ ?_
  clear hK K
  try simp only [Act.put, stA, stZ, stS, i64_w, i32_w]
  refine out_nil ?_
  clear kp kn kc
  have hb2 : Below W1.heap.size W1 (W1.alloc (.cells #[.slice uA uk uc] 23)).drew := (below_alloc (Below.refl _ _) _).drew
  have hs3 : Strc (W1.alloc (.cells #[.slice uA uk uc] 23)).drew (q1 + 1 + 1) 23 [.slice uA uk uc] := by
    rw [← hsz1]
    exact (show Strc (W1.alloc (.cells #[.slice uA uk uc] 23)) W1.heap.size 23 [.slice uA uk uc] from alloc_last _ _)
  have hsz2 : (W1.alloc (.cells #[.slice uA uk uc] 23)).drew.heap.size = q1 + 1 + 1 + 1 := by show (W1.alloc _).heap.size = _; rw [World.size_alloc, hsz1]
  generalize (W1.alloc (.cells #[.slice uA uk uc] 23)).drew = W2 at hb2 hs3 hsz2 ⊢
  have h2 := H1.out.mod (Mod.of_below hb2 (fun _ => False)) (fun _ _ => id) (fun _ _ => id) (fun _ _ => id)
  have HB2 := Aside0.mk hb2
  have H2 := Aside0.mk h2
  have HBX2 := Aside0.mk (And.intro (HBX.out.1.below hb2) (And.intro (HBX.out.2.below hb2) hs3))
  have kp := HBX2.out.1.cell 0 _ rfl
  have ku := h2.st.cell 5 _ rfl
  have hS6 := Aside0.mk (fun (W : World) (hb : Below W2.heap.size W2 W) => And.intro (pw_cell_below hb kp) (pw_cell_below hb ku))
  clear hb2 hs3 h2
  go_wp2
  refine wp_region_in [1, 1, 0, 0, 1, 0, 2, 2, 0, 0, 3] [10] (fun w' => w'.cell? ⟨q1, 0, none⟩ = some (.pointer (some ⟨s0, 0, none⟩)) ∧ w'.cell? ⟨s0, 5, none⟩ = some uv) (by kernel_rfl) rfl (by kernel_rfl) (fun _ _ _ _ h => h) (hS6.out _ (Below.refl _ _).drew) ?_
  iterate 6 (first
    | (refine in_off0 (by rfl) ?_; simp only [Act.put, stA, stZ, stS, i64_w, i32_w])
    | (refine in_off1 (by rfl) ?_; simp only [Act.put, stA, stZ, stS, i64_w, i32_w])
    | (refine in_0 (v := ?_) (by rfl) rfl ?_ (a' := ?_) ?_ ?_; rotate_left; (intro w'; go_simp; with_reducible rfl); rotate_left; (simp only [Act.put, stA, stZ, stS, i64_w, i32_w]; rfl))
    | (refine in_1 (v := ?_) (by rfl) rfl ?_ (a' := ?_) ?_ ?_; rotate_left; (rintro w' hs; go_split_ands; go_simp; with_reducible rfl); rotate_left; (simp only [Act.put, stA, stZ, stS, i64_w, i32_w]; rfl)))
  refine in_2 (by rfl) (fun K hK => ?_)
  go_simp
  refine hK _ _ (hS6.out _ (below_alloc (Below.refl _ _) _).drew) ?_
  clear hK K
  try simp only [Act.put, stA, stZ, stS, i64_w, i32_w]
  refine in_2 (by rfl) (fun K hK => ?_)
  obtain ⟨z0, he, hz0, hz1, hz2⟩ := info_parts infoFn
  obtain ⟨W3, hW3⟩ : ∃ W3, (W2.alloc (.cells #[.func (.func 85) #[] #[.pointer (some ⟨q1 + 1 + 1, 0, none⟩), .pointer (some ⟨q1, 0, none⟩), .pointer (some ⟨q1 + 1, 0, none⟩)]] 1)).drew = W3 := ⟨_, rfl⟩
  have hb3 : Below W2.heap.size W2 W3 := by rw [← hW3]; exact (below_alloc (Below.refl _ _) _).drew
  have h3 := H2.out.mod (Mod.of_below hb3 (fun _ => False)) (fun _ _ => id) (fun _ _ => id) (fun _ _ => id)
  have hcl3 : ∀ j u, ([.func (.func 85) #[] #[.pointer (some ⟨q1 + 1 + 1, 0, none⟩), .pointer (some ⟨q1, 0, none⟩), .pointer (some ⟨q1 + 1, 0, none⟩)]] : List Value)[j]? = some u → W3.cell? ((⟨W2.heap.size, 0, none⟩ : Addr).add j) = some u := fun j u hj => by
    rw [add_plain, ← hW3]
    exact cell_alloc W2 _ _ j u (by simpa using hj)
  rw [hW3]
  clear hW3
  refine wp_append_at W3 (.tmp 25) (.tmp 27) 100 rfl 0 1 z0 .nilFunc 1 8 Tryz.underlying100 he hz0 hz1 hz2 rfl (by decide) uv us.length us rfl h3.und ⟨W2.heap.size, 0, none⟩ 1 1 [.func (.func 85) #[] #[.pointer (some ⟨q1 + 1 + 1, 0, none⟩), .pointer (some ⟨q1, 0, none⟩), .pointer (some ⟨q1 + 1, 0, none⟩)]] ?c6 rfl hcl3 ?c2 (by simp only [maxLen]; omega) (by omega) (Nat.zero_le _) ?_
  case c6 => (rw [hsz2]; rfl)
  case c2 => simp [Value.oneCell']
  intro v4 w4 hown4 hgrow4 hloc4
  have hne1 : (103 : TypeId) ≠ 1 := by decide
  have hne2 : (42 : TypeId) ≠ 1 := by decide
  have hne3 : (23 : TypeId) ≠ 1 := by decide
  have hne4 : (3 : TypeId) ≠ 1 := by decide
  have hmg := mod_grown hgrow4
  have hst4 := h3.st.mod hmg (own_not_strc h3.und h3.st hne1)
  have hbx3 := And.intro (HBX2.out.1.below hb3) (And.intro (HBX2.out.2.1.below hb3) (HBX2.out.2.2.below hb3))
  have hbx4 := And.intro (hbx3.1.mod hmg (own_not_strc h3.und hbx3.1 hne2)) (And.intro (hbx3.2.1.mod hmg (own_not_strc h3.und hbx3.2.1 hne4)) (hbx3.2.2.mod hmg (own_not_strc h3.und hbx3.2.2 hne3)))
  have hbw4 : Mod w w4 (fun k => uv.ownBlock = some k) := ((Mod.of_below (below_then (below_then HB1.out HB1.out.size HB2.out) (Nat.le_trans HB1.out.size HB2.out.size) hb3) _).trans hmg (fun _ _ e => e))
  have hloc : ∀ g, v4.ownBlock = some g → uv.ownBlock = some g ∨ q1 + 1 + 1 + 1 ≤ g := fun g hg => by
    rcases hloc4 with h | h
    · exact .inl (h.symm.trans hg)
    · have h5 : g = W3.heap.size := by rw [hg] at h; exact Option.some.inj h
      have h6 := hb3.size
      exact .inr (by omega)
  have hic4 := h3.ic.mod hmg (own_not_map h3.und h3.ic)
  have hih4 := h3.ih.mod hmg (own_not_map h3.und h3.ih)
  obtain ⟨g4, cap4, rfl⟩ := own_succ hown4
  refine hK _ _ ⟨hbx4.1.cell 0 _ rfl, hst4.cell 5 _ rfl⟩ ?_
  have HST4 := Aside0.mk hst4
  have HBX4 := Aside0.mk hbx4
  have HBW4 := Aside0.mk hbw4
  have HLOC := Aside0.mk hloc
  have HIC4 := Aside0.mk hic4
  have HIH4 := Aside0.mk hih4
  have HO4 := Aside0.mk hown4
  have j5 := hst4.cell 5 _ rfl
  have f5 := hst4.free 5
  have l4 := hst4.lt
  clear hK K he hz0 hz1 hz2 hb3 h3 hcl3 hown4 hgrow4 hloc4 hmg hst4 hbx3 hbx4 hbw4 hloc hic4 hih4
  try simp only [Act.put, stA, stZ, stS, i64_w, i32_w]
  iterate 2 (first
    | (refine in_off0 (by rfl) ?_; simp only [Act.put, stA, stZ, stS, i64_w, i32_w])
    | (refine in_off1 (by rfl) ?_; simp only [Act.put, stA, stZ, stS, i64_w, i32_w])
    | (refine in_0 (v := ?_) (by rfl) rfl ?_ (a' := ?_) ?_ ?_; rotate_left; (intro w'; go_simp; with_reducible rfl); rotate_left; (simp only [Act.put, stA, stZ, stS, i64_w, i32_w]; rfl))
    | (refine in_1 (v := ?_) (by rfl) rfl ?_ (a' := ?_) ?_ ?_; rotate_left; (rintro w' hs; go_split_ands; go_simp; with_reducible rfl); rotate_left; (simp only [Act.put, stA, stZ, stS, i64_w, i32_w]; rfl)))
  refine in_3 (by rfl) (fun K hK => ?_)
  go_simp
  refine hK _ _ ?_
  clear hK K
  try simp only [Act.put, stA, stZ, stS, i64_w, i32_w]
  refine out_nil ?_
  have hm5 : Mod w (w4.setCell ⟨s0, 5, none⟩ (.slice (some ⟨g4, 0, none⟩) (us.length + 1) cap4)) (fun k => k = s0 ∨ uv.ownBlock = some k) := (HBW4.out.mono (fun _ _ e => .inr e)).setCell (p := ⟨s0, 5, none⟩) (fun _ => .inl rfl) _
  have hs0q : s0 < q1 := by rw [← hq1]; exact H.out.subM s0 H.out.ms0
  have hms : Mod w4 (w4.setCell ⟨s0, 5, none⟩ (.slice (some ⟨g4, 0, none⟩) (us.length + 1) cap4)) (· = s0) := (Mod.refl _ _).set_own 5 _
  have hst5 := HST4.out.set 5 (.slice (some ⟨g4, 0, none⟩) (us.length + 1) cap4)
  have hbx5 := And.intro (HBX4.out.1.mod hms (by omega)) (And.intro (HBX4.out.2.1.mod hms (by omega)) (HBX4.out.2.2.mod hms (by omega)))
  have hic5 := HIC4.out.mod hms (HST4.out.not_map HIC4.out)
  have hih5 := HIH4.out.mod hms (HST4.out.not_map HIH4.out)
  have hne1 : (103 : TypeId) ≠ 1 := by decide
  have ho5 := own_mod HO4.out hms (fun g hg e => by subst e; exact own_not_strc HO4.out HST4.out hne1 hg)
  generalize w4.setCell ⟨s0, 5, none⟩ (.slice (some ⟨g4, 0, none⟩) (us.length + 1) cap4) = W5 at hm5 hms hst5 hbx5 hic5 hih5 ho5 ⊢
  have HM5 := Aside0.mk hm5
  have HST5 := Aside0.mk hst5
  have HBX5 := Aside0.mk hbx5
  have HIC5 := Aside0.mk hic5
  have HIH5 := Aside0.mk hih5
  have HO5 := Aside0.mk ho5
  have hS7 : ∀ W, Below W5.heap.size W5 W → (W.cell? ⟨q1, 0, none⟩ = some (.pointer (some ⟨s0, 0, none⟩)) ∧ W.cell? ⟨q1 + 1, 0, none⟩ = some (.int .i64 n) ∧ W.cell? ⟨s0, 2, none⟩ = some (.map (some bc))) := fun W hb =>
    ⟨pw_cell_below hb (hbx5.1.cell 0 _ rfl), pw_cell_below hb (hbx5.2.1.cell 0 _ rfl), pw_cell_below hb (hst5.cell 2 _ rfl)⟩
  have HS7 := Aside0.mk hS7
  have hrd5 : ∀ W, Below W5.heap.size W5 W → Kd.C (Kd.int .u8) W (some ad) b.length b := fun W hb => Kd.C_below (C_int_mod HBW.out hm5 (fun ad' e hk => by
    cases e
    rcases hk with hk | hk
    · exact hbD (hk ▸ .inr (.inl H.out.ms0))
    · exact hbD (.inr (.inl (H.out.mu _ hk))))) hb
  have HRD5 := Aside0.mk hrd5
  have hclo := fun W hb => clone_calls ad c b W (hrd5 W hb) (by rw [HBB.out.2.1]; omega)
  rw [HBB.out.2.1] at hclo
  have HCLO := Aside0.mk hclo
  clear hm5 hms hst5 hbx5 hic5 hih5 ho5 hS7 hrd5 hclo j5 f5 l4 kp ku hS6
  go_wp2
  refine wp_region_in [1, 0, 0, 1, 1, 0, 2, 3] [7] (fun w' => w'.cell? ⟨q1, 0, none⟩ = some (.pointer (some ⟨s0, 0, none⟩)) ∧ w'.cell? ⟨q1 + 1, 0, none⟩ = some (.int .i64 n) ∧ w'.cell? ⟨s0, 2, none⟩ = some (.map (some bc))) (by kernel_rfl) rfl (by kernel_rfl) (fun _ _ _ _ h => h) (HS7.out _ (Below.refl _ _).drew) ?_
  iterate 6 (first
    | (refine in_off0 (by rfl) ?_; simp only [Act.put, stA, stZ, stS, i64_w, i32_w])
    | (refine in_off1 (by rfl) ?_; simp only [Act.put, stA, stZ, stS, i64_w, i32_w])
    | (refine in_0 (v := ?_) (by rfl) rfl ?_ (a' := ?_) ?_ ?_; rotate_left; (intro w'; go_simp; with_reducible rfl); rotate_left; (simp only [Act.put, stA, stZ, stS, i64_w, i32_w]; rfl))
    | (refine in_1 (v := ?_) (by rfl) rfl ?_ (a' := ?_) ?_ ?_; rotate_left; (rintro w' hs; go_split_ands; go_simp; with_reducible rfl); rotate_left; (simp only [Act.put, stA, stZ, stS, i64_w, i32_w]; rfl)))
  refine in_2 (by rfl) (fun K hK => ?_)
  go_simp
  refine (HCLO.out _ (Below.refl _ _).drew).mono ?_
  rintro e w6 ⟨v6, rfl, ho6, hb6⟩
  obtain ⟨g6, c6, rfl, hg6, hc6, hr6⟩ := ho6.row (by rw [HBB.out.2.1]; omega)
  rw [HBB.out.2.1] at hc6 ⊢
  have hb6' : Below W5.heap.size W5 w6 := below_then (Below.refl _ _).drew (Nat.le_refl _) hb6
  have HB6 := Aside0.mk hb6'
  have HR6 := Aside0.mk hr6
  dsimp only
  refine hK _ _ (HS7.out _ hb6') ?_
  clear hK K ho6 hb6 hr6 hb6'
  try simp only [Act.put, stA, stZ, stS, i64_w, i32_w]
  refine in_3 (by rfl) (fun K hK => ?_)
  refine wp_im_store _ _ _ _ rfl Tryz.underlying3 Tryz.underlying98 (by decide) rfl (HIC5.out.below HB6.out) n hl4 rfl _ rfl ?_
  intro w7 hic7 hm7 hsz7
  replace hic7 : IM Tryz.prog 3 w7 bc 4096 (fun i => if i = (n : Int) then some (.slice (some ⟨g6, 0, none⟩) 256 c6) else fc i) := hic7
  refine hK _ _ ?_
  clear hK K
  try simp only [Act.put, stA, stZ, stS, i64_w, i32_w]
  refine out_nil ?_
  have hmf : Mod w w7 (fun k => k = s0 ∨ k = bc ∨ k = bh ∨ uv.ownBlock = some k) := ((HM5.out.mono (fun k _ e => e.imp id (fun e => .inr (.inr e)))).below HB6.out).trans hm7 (fun _ _ e => .inr (.inl e))
  have hSM : ∀ k, (k = s0 ∨ k = bc ∨ k = bh ∨ uv.ownBlock = some k) → M k := by
    rintro k (rfl | rfl | rfl | e)
    · exact H.out.ms0
    · exact H.out.mbc
    · exact H.out.mbh
    · exact H.out.mu k e
  have hR : ∀ k, R k → ¬ (k = s0 ∨ k = bc ∨ k = bh ∨ uv.ownBlock = some k) := fun k hk e => H.out.sepR k (hSM k e) hk
  have hst7 := (HST5.out.below HB6.out).mod hm7 (fun e => HST5.out.not_map HIC5.out e.symm)
  have hbcq : bc < q1 := by rw [← hq1]; exact H.out.subM bc H.out.mbc
  have hbx7 := And.intro ((HBX5.out.1.below HB6.out).mod hm7 (by omega)) (And.intro ((HBX5.out.2.1.below HB6.out).mod hm7 (by omega)) ((HBX5.out.2.2.below HB6.out).mod hm7 (by omega)))
  have hr7 := HR6.out.mod hm7 (fun e => HR6.out.not_map (HIC5.out.below HB6.out) e.symm)
  have ho7 := own_mod (own_mod HO5.out (Mod.of_below HB6.out (fun _ => False)) (fun _ _ => id)) hm7 (fun g hg e => by subst e; exact own_not_map HO5.out HIC5.out hg)
  have hne3 : (5 : TypeId) ≠ 1 := by decide
  have hq5 : q1 + 1 + 1 + 1 ≤ W5.heap.size := HBX5.out.2.2.lt
  have hv7 := (H.out.view.mod hmf hR).more (R' := fun k => R k ∨ (k = q1 ∨ k = q1 + 1 ∨ k = q1 + 1 + 1 ∨ k = g6)) (fun _ => .inl)
  have hul2 : (us ++ [Value.func (.func 85) #[] #[.pointer (some ⟨q1 + 1 + 1, 0, none⟩), .pointer (some ⟨q1, 0, none⟩), .pointer (some ⟨q1 + 1, 0, none⟩)]]).length = us.length + 1 := by simp
  have h7 := H.out.change (r := fun k => k = q1 ∨ k = q1 + 1 ∨ k = q1 + 1 + 1 ∨ k = g6) (s' := s.write n b) (us' := us ++ [.func (.func 85) #[] #[.pointer (some ⟨q1 + 1 + 1, 0, none⟩), .pointer (some ⟨q1, 0, none⟩), .pointer (some ⟨q1 + 1, 0, none⟩)]]) hmf hst7 hic7 ((HIH5.out.below HB6.out).mod hm7 (fun e => H.out.n2 e.symm)) (by rw [hul2]; exact ho7) (fun g hg => (HLOC.out g hg).imp id (fun h => by omega))
    (fun k hk => by
      have hloc : ∀ j, q1 ≤ j → j < q1 + 1 + 1 + 1 → (Value.slice (some ⟨g4, 0, none⟩) (us.length + 1) cap4).ownBlock ≠ some j := fun j h1 h2 e => by
        rcases HLOC.out j e with h | h
        · have := own_lt H.out.und j h; omega
        · omega
      have hl7 := hbx7.2.2.lt
      rcases hk with rfl | rfl | rfl | rfl
      · exact ⟨by omega, by omega, hloc _ (by omega) (by omega)⟩
      · exact ⟨by omega, by omega, hloc _ (by omega) (by omega)⟩
      · exact ⟨by omega, by omega, hloc _ (by omega) (by omega)⟩
      · exact ⟨by have : W5.drew.heap.size = W5.heap.size := rfl; omega, hr7.lt, own_not_row ho7 hr7 hne3⟩)
    ⟨by rw [← hlen]; exact List.length_set .., fun y v hy => by
      dsimp only at hy
      split at hy
      · omega
      · exact H.out.view.2.1 y v hy, fun k hk => by
      by_cases e : k = n
      · subst e
        dsimp only
        rw [if_pos rfl]
        rw [show (s.write k b).now.getD k [] = b by simp [St.write, List.getD_eq_getElem?_getD, hlen, hk]]
        exact ⟨g6, c6, rfl, .inr (.inr (.inr (.inr rfl))), hc6, hr7, HBB.out.2.1, HBB.out.2.2⟩
      · dsimp only
        rw [if_neg (by omega), show (s.write n b).now.getD k [] = s.now.getD k [] by simp [St.write, List.getD_eq_getElem?_getD, List.getElem?_set, Ne.symm e]]
        exact hv7.2.2 k hk⟩
    H.out.held (by
      rw [List.reverse_append]
      refine ⟨fc, fh, .inl ⟨q1 + 1 + 1, q1, q1 + 1, n, fc n, rfl, by rw [HU.out]; exact hbx7.2.2, hbx7.1, hbx7.2.1, .inr (.inr (.inr (.inl rfl))), .inr (.inl rfl), .inr (.inr (.inl rfl)), hn, fun v hv => ?_, funext fun y => ?_, rfl⟩, hv7, H.out.held, Chain.mod hmf hR _ _ _ _ H.out.chain |> Chain.more (fun _ => .inl) _ _ _ _⟩
      · have := H.out.view.2.2 n hn
        rw [hv] at this
        obtain ⟨g0, c0, e, _⟩ := this
        exact ⟨g0, c0, e⟩
      · dsimp only
        by_cases e : y = (n : Int)
        · rw [if_pos e, e]
        · rw [if_neg e, if_neg e])
  have HMF := Aside0.mk (hmf.mono (fun k _ e => hSM k e))
  have HLOC7 := Aside0.mk (show ∀ k, (Value.slice (some ⟨g4, 0, none⟩) (us.length + 1) cap4).ownBlock = some k → M k ∨ w.heap.size ≤ k from fun k hk => (HLOC.out k hk).elim (fun e => .inl (H.out.mu k e)) (fun e => .inr (by omega)))
  have H7 := Aside0.mk h7
  have hx1 := hbx7.1.cell 0 _ rfl
  have hx2 := hbx7.2.1.cell 0 _ rfl
  have HOF := Aside0.mk (fun (W : World) (hW : W.cell? ⟨s0, 6, none⟩ = some (.slice (some ⟨gs, 0, none⟩) ns cap)) => of_calls s0 gs ns cap n W hW H.out.s1 H.out.s2 i1)
  have k6 := h7.st.cell 6 _ rfl
  have hg6q : q1 ≤ g6 := by have : W5.drew.heap.size = W5.heap.size := rfl; omega
  clear hmf hSM hR hst7 hbcq hbx7 hr7 ho7 hne3 hv7 hul2 h7 hic7 hm7 hsz7 hs0q
  go_wp2
  refine wp_region_ord [0, 1, 3, 2, 4] [1, 1, 1, 2, 2] (fun w' => w'.cell? ⟨q1, 0, none⟩ = some (.pointer (some ⟨s0, 0, none⟩)) ∧ w'.cell? ⟨q1 + 1, 0, none⟩ = some (.int .i64 n)) (by kernel_rfl) rfl (by kernel_rfl) (fun _ _ _ _ h => h) ⟨hx1, hx2⟩ ?_
  iterate 3 (first
    | (refine inQ_off0 (by rfl) (by rfl) ?_; simp only [Act.put, stA, stZ, stS, i64_w, i32_w])
    | (refine inQ_off1 (by rfl) (by rfl) ?_; simp only [Act.put, stA, stZ, stS, i64_w, i32_w])
    | (refine inQ_0 (v := ?_) (by rfl) (by rfl) rfl ?_ (a' := ?_) ?_ ?_; rotate_left; (intro w'; go_simp; with_reducible rfl); rotate_left; (simp only [Act.put, stA, stZ, stS, i64_w, i32_w]; rfl))
    | (refine inQ_1 (v := ?_) (by rfl) (by rfl) rfl ?_ (a' := ?_) ?_ ?_; rotate_left; (rintro w' hs; go_split_ands; go_simp; with_reducible rfl); rotate_left; (simp only [Act.put, stA, stZ, stS, i64_w, i32_w]; rfl)))
  refine inP_2 (by rfl) (by rfl) (fun K hK => ?_)
  go_simp
  refine (HOF.out w7.drew k6).mono ?_
  rintro e w8 ⟨rfl, rfl⟩
  dsimp only
  refine hK _ _ ⟨hx1, hx2⟩ ?_
  clear hK K
  try simp only [Act.put, stA, stZ, stS, i64_w, i32_w]
  refine inP_2 (by rfl) (by rfl) (fun K hK => ?_)
  go_simp
  refine ((H7.out.mod (w1 := w7.drew.drew) ((Mod.refl w7 (fun _ => False)).drew).drew (fun _ _ => id) (fun _ _ => id) (fun _ _ => id)).forgets n hl4).mono ?_
  rintro e w9 ⟨rfl, hm9, r9, hr9, h9⟩
  dsimp only
  have hb9 : w9.cell? ⟨q1, 0, none⟩ = some (.pointer (some ⟨s0, 0, none⟩)) ∧ w9.cell? ⟨q1 + 1, 0, none⟩ = some (.int .i64 n) :=
    ⟨hm9.cell hx1 (fun e => H7.out.sepR q1 (H7.out.mcM _ e) (.inr (.inl rfl))), hm9.cell hx2 (fun e => H7.out.sepR (q1 + 1) (H7.out.mcM _ e) (.inr (.inr (.inl rfl))))⟩
  refine hK _ _ hb9 ?_
  clear hK K
  try simp only [Act.put, stA, stZ, stS, i64_w, i32_w]
  refine inP_nil ?_
  have H9 := Aside0.mk h9
  have HM9 := Aside0.mk (And.intro hm9 hr9)
  clear hb9 hm9 hr9 h9 hx1 hx2 k6
  go_wp2
  go_ret
  refine ⟨_, rfl, H9.out.is, fun k hk => ?_, HMF.out.mono (fun k _ e => .inr (.inl e)) |>.drew.drew.trans HM9.out.1 (fun k _ e => .inr (.inl (H.out.mcM k e)))⟩
  rcases hk with hk | ((hk | hk) | hk) | (hk | hk)
  · exact .inl (.inl hk)
  · exact .inl (.inr (.inl hk))
  · exact (HLOC7.out k hk).imp (fun h => .inr (.inl h)) id
  · exact .inl (.inr (.inl (H.out.mcM k (HM9.out.2 k hk))))
  · exact .inl (.inr (.inr hk))
  · right
    rcases hk with rfl | rfl | rfl | rfl <;> omega
end Go.Proofs.YtkmhilhfmfmckaaGreatDoor.Hand
