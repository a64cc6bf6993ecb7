/- Own texts and printed words of the kit, put together and trimmed by a program of mine (merge.py). -/
import Derived.Test.YtkmhilhfmfmckaaGreatDoorR07
import Derived.Lib.TrailingZeros
import Derived.Lib.LaidTab
namespace Go.Proofs.YtkmhilhfmfmckaaGreatDoor.Hand
set_option linter.unusedSimpArgs false
set_option linter.unusedVariables false
open Go.Shelf Go.RowKit Go.Proofs.YtkmhilhfmfmckaaGreatDoorW.PrintWords Go.Proofs.YtkmhilhfmfmckaaGreatDoorW.PrintLast Go.Proofs.YtkmhilhfmfmckaaGreatDoorW.PrintMore
theorem infoFn : (Tryz.prog.info? 1).map (fun i => (i.zero, i.size, i.bytes)) = some (some .nilFunc, 1, 8) := by kernel_rfl
def SWritePost (D : Nat → Prop) (s0 : Nat) (s : St) (w : World) (e : Ending) (w' : World) : Prop :=
 ∃ D', e = .returned (.int .i64 0) ∧ StIs w' D' s0 s ∧ (∀ k, D' k → D k ∨ w.heap.size ≤ k) ∧ Mod w w' D
theorem StAt.forgets {w : World} {Dd M Mc R : Nat → Prop} {s0 p0 : Nat} {L : List (List Int)} {m room ns gs cap bc bw bh : Nat} {uv : Value} {found asked : Int} {fc fh : Int → Option Value} {us : List Value} {s : St}
  (h : StAt w Dd M Mc R s0 p0 L m room ns gs cap bc bw bh uv found asked fc fh us s) (n : Nat) (hn : n < 4096) :
  Calls Tryz.prog 86 #[.pointer (some ⟨gs, 2 * (n % ns), none⟩), .int .i64 n] w fun e w' => e = .returned (.tuple #[]) ∧ Mod w w' Mc ∧ ∃ r : Nat → Prop, (∀ k, r k → Mc k) ∧ StAt w' Dd (fun k => M k ∨ r k) (fun k => Mc k ∨ r k) R s0 p0 L m room ns gs cap bc bw bh uv found asked fc fh us s := by
 have hil : n % ns < ns := Nat.mod_lt _ h.s1
 obtain ⟨cs, hst, hlen, hall, hap⟩ := h.cache
 obtain ⟨ov, ol, mb, f, hsh⟩ := hall (n % ns) hil
 have hr2 := h.r2
 have hol := hsh.len
 refine (forget_calls gs (2 * (n % ns)) mb 4096 cs ov ol n f w hst hsh.h0 hsh.h1 hsh.own (by omega) hsh.map (by omega)).mono ?_
 rintro e w1 ⟨ov1, ol1, rfl, hst1, hown1, hle1, _, hsb1, hob1, hm1, hmod1⟩
 have hMi : ∀ k, (k = gs ∨ k = mb ∨ ov.ownBlock = some k) → Mc k := by
  rintro k (rfl | rfl | e)
  ·exact h.mgs
  ·exact hsh.mm
  ·exact hsh.mo k e
 have hMR : ∀ k, Mc k → ¬ R k := fun k hk => h.sepR k (h.mcM k hk)
 have hmM := hmod1.mono (T := Mc) (fun k _ e => hMi k e)
 refine ⟨rfl, hmM, fun k => ov1.ownBlock = some k, fun k hk => hsh.mo k (hob1 k hk), h.used hmM (fun k hk => ⟨.inl (hsh.mo k (hob1 k hk)), _, own_row_at hown1 hk⟩) ?_⟩
 refine cache_turn hst hlen hall hap hil hsh hMR (fun k hk => h.subM k (h.mcM k hk)) (hMR _ h.mgs) hst1 hown1 (Nat.le_trans hle1 hol) (fun x hx => hsh.rng x (hsb1 x hx)) (fun g hg => .inl (hob1 g hg)) hm1 (fun x v hx => ?_) hmod1
 by_cases e : x = (n : Int)
 ·simp [e] at hx
 ·rw [if_neg e] at hx
  exact (hsh.good x v hx).mod hmod1 (fun k hk e => hMR k (hMi k e) hk)
set_option maxHeartbeats 4000000 in
set_option maxRecDepth 100000 in
theorem swrite_calls {D : Nat → Prop} {s0 : Nat} {s : St} (n : Nat) (ad : Addr) (c : Nat) (b : List Int) (w : World) (h : StIs w D s0 s) (hn : n < s.now.length) (hb : Kd.C (Kd.int .u8) w (some ad) b.length b) (hbl : b.length = 256) (hba : allB b) (hh : s.hist.length ≤ 1000000) (hbD : ¬ D ad.block) :
  Calls Tryz.prog 32 #[.pointer (some ⟨s0, 0, none⟩), .int .i64 n, .slice (some ad) 256 c] w (SWritePost D s0 (s.write n b) w) := by
 obtain ⟨Dd, M, Mc, R, p0, L, m, room, ns, gs, cap, bc, bw, bh, uv, found, asked, fc, fh, us, h, rfl⟩ := h
 have hlen := h.view.1
 rw [hlen] at hn
 have hview := h.view.2.2 n hn
 obtain ⟨hd0, hd1, hd2, hdp, hdl⟩ := h.disk.n
 have hdec : decide (0 ≤ (n : Int) ∧ (n : Int) < (L.length : Int)) = true := by simp; omega
 have hul : us.length ≤ 1000000 := by have := Chain.len _ _ _ _ h.chain; rw [List.length_reverse] at this; omega
 obtain ⟨q1, hq1⟩ : ∃ q1, w.heap.size = q1 := ⟨_, rfl⟩
 obtain ⟨W1, hW1⟩ : ∃ W1, (w.alloc (.cells #[.pointer (some ⟨s0, 0, none⟩)] 42)).alloc (.cells #[.int .i64 n] 3) = W1 := ⟨_, rfl⟩
 have hb1 : Below w.heap.size w W1 := by rw [← hW1]; exact below_alloc (below_alloc (Below.refl _ _) _) _
 have hs1 : Strc W1 q1 42 [.pointer (some ⟨s0, 0, none⟩)] := by
  rw [← hW1, ← hq1]
  exact (show Strc (w.alloc (.cells #[.pointer (some ⟨s0, 0, none⟩)] 42)) w.heap.size 42 [.pointer (some ⟨s0, 0, none⟩)] from alloc_last _ _).below (below_alloc (Below.refl _ _) _)
 have hs2 : Strc W1 (q1 + 1) 3 [.int .i64 n] := by
  rw [← hW1, ← hq1]
  exact alloc_at _ _ _ (by simp)
 have hsz1 : W1.heap.size = q1 + 1 + 1 := by rw [← hW1, ← hq1]; simp
 have h1 := h.mod (Mod.of_below hb1 (fun _ => False)) (fun _ _ => id) (fun _ _ => id) (fun _ _ => id)
 have hhas := shas_calls (x := (n : Int)) (h1.st.cell 0 _ rfl) h1.disk.n.1
 rw [hdec] at hhas
 have HHAS := Aside0.mk hhas
 have hB1 := Kd.C_below hb hb1
 have HBW := Aside0.mk hb
 have HBB := Aside0.mk (And.intro hB1 (And.intro hbl hba))
 have HB1 := Aside0.mk hb1
 have H := Aside0.mk h
 have H1 := Aside0.mk h1
 have HBX := Aside0.mk (And.intro hs1 hs2)
 have i1 : n < 9223372036854775808 := by omega
 have hl4 : n < 4096 := by omega
 obtain ⟨u, hu⟩ : ∃ u, (fc n).getD (.slice none 0 0) = u := ⟨_, rfl⟩
 have hlk : ∀ (W : World) {S : Nat → Prop}, Mod W1 W S → ¬ S bc → (Instr.lookup 98 (.map (some bc)) (.int .i64 n) false).run Tryz.prog W = .ok u W := fun W S hm hs => by
  have := (h1.ic.mod hm hs).look Tryz.underlying3 Tryz.underlying98 (zero_bytes W) i1
  rwa [hu] at this
 have husl : ∃ A k c', u = .slice A k c' := by
  rw [← hu]
  cases hfc : fc n with
  | none => exact ⟨none, 0, 0, rfl⟩
  | some v =>
   rw [hfc] at hview
   obtain ⟨g0, c0, rfl, _⟩ := hview
   exact ⟨_, _, _, rfl⟩
 obtain ⟨uA, uk, uc, rfl⟩ := husl
 have HU := Aside0.mk hu
 have HLK := Aside0.mk @hlk
 have hS : ∀ W, Below W1.heap.size W1 W → (W.cell? ⟨q1, 0, none⟩ = some (.pointer (some ⟨s0, 0, none⟩)) ∧ W.cell? ⟨q1 + 1, 0, none⟩ = some (.int .i64 n) ∧ W.cell? ⟨s0, 2, none⟩ = some (.map (some bc)) ∧ (Instr.lookup 98 (.map (some bc)) (.int .i64 n) false).run Tryz.prog W = .ok (.slice uA uk uc) W) := fun W hb =>
  ⟨pw_cell_below hb (hs1.cell 0 _ rfl), pw_cell_below hb (hs2.cell 0 _ rfl), pw_cell_below hb (h1.st.cell 2 _ rfl), hlk W (Mod.of_below hb (fun _ => False)) id⟩
 have HS := Aside0.mk hS
 have kp := hs1.cell 0 _ rfl
 have kn := hs2.cell 0 _ rfl
 have kc := h1.st.cell 2 _ rfl
 clear hS hlk hhas hdec h hb hbl hba hb1 hs1 hs2 h1 hB1 hu hview hd0
 go_enter Tryz.func32, Tryz.ntmps32
 go_wp2_with fail
 clear hW1
 refine HHAS.out.mono ?_
 rintro e w' ⟨rfl, rfl⟩
 dsimp only
 go_wp2
 refine wp_region_in [1, 0, 0, 1, 1, 1, 2, 3] [7] (fun w' => w'.cell? ⟨q1, 0, none⟩ = some (.pointer (some ⟨s0, 0, none⟩)) ∧ w'.cell? ⟨q1 + 1, 0, none⟩ = some (.int .i64 n) ∧ w'.cell? ⟨s0, 2, none⟩ = some (.map (some bc)) ∧ (Instr.lookup 98 (.map (some bc)) (.int .i64 n) false).run Tryz.prog w' = .ok (.slice uA uk uc) w') (by kernel_rfl) rfl (by kernel_rfl) (fun _ _ _ _ h => h) (HS.out _ (Below.refl _ _).drew) ?_
 iterate 6 (first
  | (refine in_off0 (by rfl) ?_; simp only [Act.put, stA, stZ, stS, i64_w, i32_w])
  | (refine in_off1 (by rfl) ?_; simp only [Act.put, stA, stZ, stS, i64_w, i32_w])
  | (refine in_0 (v := ?_) (by rfl) rfl ?_ (a' := ?_) ?_ ?_; rotate_left; (intro w'; go_simp; with_reducible rfl); rotate_left; (simp only [Act.put, stA, stZ, stS, i64_w, i32_w]; rfl))
  | (refine in_1 (v := ?_) (by rfl) rfl ?_ (a' := ?_) ?_ ?_; rotate_left; (rintro w' hs; go_split_ands; go_simp; with_reducible rfl); rotate_left; (simp only [Act.put, stA, stZ, stS, i64_w, i32_w]; rfl)))
 refine in_2 (by rfl) (fun K hK => ?_)
 go_simp
 refine hK _ _ (HS.out _ (below_alloc (Below.refl _ _) _).drew) ?_
 clear hK K
 try simp only [Act.put, stA, stZ, stS, i64_w, i32_w]
 refine in_3 (by rfl) (fun K hK => ?_)
 go_simp
 refine hK _ _ ?_
 clear hK K
 try simp only [Act.put, stA, stZ, stS, i64_w, i32_w]
 refine out_nil ?_
 clear kp kn kc
 have hb2 : Below W1.heap.size W1 (W1.alloc (.cells #[.slice uA uk uc] 23)).drew := (below_alloc (Below.refl _ _) _).drew
 have hs3 : Strc (W1.alloc (.cells #[.slice uA uk uc] 23)).drew (q1 + 1 + 1) 23 [.slice uA uk uc] := by
  rw [← hsz1]
  exact (show Strc (W1.alloc (.cells #[.slice uA uk uc] 23)) W1.heap.size 23 [.slice uA uk uc] from alloc_last _ _)
 have hsz2 : (W1.alloc (.cells #[.slice uA uk uc] 23)).drew.heap.size = q1 + 1 + 1 + 1 := by show (W1.alloc _).heap.size = _; rw [World.size_alloc, hsz1]
 generalize (W1.alloc (.cells #[.slice uA uk uc] 23)).drew = W2 at hb2 hs3 hsz2 ⊢
 have h2 := H1.out.mod (Mod.of_below hb2 (fun _ => False)) (fun _ _ => id) (fun _ _ => id) (fun _ _ => id)
 have HB2 := Aside0.mk hb2
 have H2 := Aside0.mk h2
 have HBX2 := Aside0.mk (And.intro (HBX.out.1.below hb2) (And.intro (HBX.out.2.below hb2) hs3))
 have kp := HBX2.out.1.cell 0 _ rfl
 have ku := h2.st.cell 5 _ rfl
 have hS6 := Aside0.mk (fun (W : World) (hb : Below W2.heap.size W2 W) => And.intro (pw_cell_below hb kp) (pw_cell_below hb ku))
 clear hb2 hs3 h2
 go_wp2
 refine wp_region_in [1, 1, 0, 0, 1, 0, 2, 2, 0, 0, 3] [10] (fun w' => w'.cell? ⟨q1, 0, none⟩ = some (.pointer (some ⟨s0, 0, none⟩)) ∧ w'.cell? ⟨s0, 5, none⟩ = some uv) (by kernel_rfl) rfl (by kernel_rfl) (fun _ _ _ _ h => h) (hS6.out _ (Below.refl _ _).drew) ?_
 iterate 6 (first
  | (refine in_off0 (by rfl) ?_; simp only [Act.put, stA, stZ, stS, i64_w, i32_w])
  | (refine in_off1 (by rfl) ?_; simp only [Act.put, stA, stZ, stS, i64_w, i32_w])
  | (refine in_0 (v := ?_) (by rfl) rfl ?_ (a' := ?_) ?_ ?_; rotate_left; (intro w'; go_simp; with_reducible rfl); rotate_left; (simp only [Act.put, stA, stZ, stS, i64_w, i32_w]; rfl))
  | (refine in_1 (v := ?_) (by rfl) rfl ?_ (a' := ?_) ?_ ?_; rotate_left; (rintro w' hs; go_split_ands; go_simp; with_reducible rfl); rotate_left; (simp only [Act.put, stA, stZ, stS, i64_w, i32_w]; rfl)))
 refine in_2 (by rfl) (fun K hK => ?_)
 go_simp
 refine hK _ _ (hS6.out _ (below_alloc (Below.refl _ _) _).drew) ?_
 clear hK K
 try simp only [Act.put, stA, stZ, stS, i64_w, i32_w]
 refine in_2 (by rfl) (fun K hK => ?_)
 obtain ⟨z0, he, hz0, hz1, hz2⟩ := info_parts infoFn
 obtain ⟨W3, hW3⟩ : ∃ W3, (W2.alloc (.cells #[.func (.func 85) #[] #[.pointer (some ⟨q1 + 1 + 1, 0, none⟩), .pointer (some ⟨q1, 0, none⟩), .pointer (some ⟨q1 + 1, 0, none⟩)]] 1)).drew = W3 := ⟨_, rfl⟩
 have hb3 : Below W2.heap.size W2 W3 := by rw [← hW3]; exact (below_alloc (Below.refl _ _) _).drew
 have h3 := H2.out.mod (Mod.of_below hb3 (fun _ => False)) (fun _ _ => id) (fun _ _ => id) (fun _ _ => id)
 have hcl3 : ∀ j u, ([.func (.func 85) #[] #[.pointer (some ⟨q1 + 1 + 1, 0, none⟩), .pointer (some ⟨q1, 0, none⟩), .pointer (some ⟨q1 + 1, 0, none⟩)]] : List Value)[j]? = some u → W3.cell? ((⟨W2.heap.size, 0, none⟩ : Addr).add j) = some u := fun j u hj => by
  rw [add_plain, ← hW3]
  exact cell_alloc W2 _ _ j u (by simpa using hj)
 rw [hW3]
 clear hW3
 refine wp_append_at W3 (.tmp 25) (.tmp 27) 100 rfl 0 1 z0 .nilFunc 1 8 Tryz.underlying100 he hz0 hz1 hz2 rfl (by decide) uv us.length us rfl h3.und ⟨W2.heap.size, 0, none⟩ 1 1 [.func (.func 85) #[] #[.pointer (some ⟨q1 + 1 + 1, 0, none⟩), .pointer (some ⟨q1, 0, none⟩), .pointer (some ⟨q1 + 1, 0, none⟩)]] ?c6 rfl hcl3 ?c2 (by simp only [maxLen]; omega) (by omega) (Nat.zero_le _) ?_
 case c6 => (rw [hsz2]; rfl)
 case c2 => simp [Value.oneCell']
 intro v4 w4 hown4 hgrow4 hloc4
 have hne1 : (103 : TypeId) ≠ 1 := by decide
 have hne2 : (42 : TypeId) ≠ 1 := by decide
 have hne3 : (23 : TypeId) ≠ 1 := by decide
 have hne4 : (3 : TypeId) ≠ 1 := by decide
 have hmg := mod_grown hgrow4
 have hst4 := h3.st.mod hmg (own_not_strc h3.und h3.st hne1)
 have hbx3 := And.intro (HBX2.out.1.below hb3) (And.intro (HBX2.out.2.1.below hb3) (HBX2.out.2.2.below hb3))
 have hbx4 := And.intro (hbx3.1.mod hmg (own_not_strc h3.und hbx3.1 hne2)) (And.intro (hbx3.2.1.mod hmg (own_not_strc h3.und hbx3.2.1 hne4)) (hbx3.2.2.mod hmg (own_not_strc h3.und hbx3.2.2 hne3)))
 have hbw4 : Mod w w4 (fun k => uv.ownBlock = some k) := ((Mod.of_below (below_then (below_then HB1.out HB1.out.size HB2.out) (Nat.le_trans HB1.out.size HB2.out.size) hb3) _).trans hmg (fun _ _ e => e))
 have hloc : ∀ g, v4.ownBlock = some g → uv.ownBlock = some g ∨ q1 + 1 + 1 + 1 ≤ g := fun g hg => by
  rcases hloc4 with h | h
  ·exact .inl (h.symm.trans hg)
  ·have h5 : g = W3.heap.size := by rw [hg] at h; exact Option.some.inj h
   have h6 := hb3.size
   exact .inr (by omega)
 have hic4 := h3.ic.mod hmg (own_not_map h3.und h3.ic)
 have hih4 := h3.ih.mod hmg (own_not_map h3.und h3.ih)
 obtain ⟨g4, cap4, rfl⟩ := own_succ hown4
 refine hK _ _ ⟨hbx4.1.cell 0 _ rfl, hst4.cell 5 _ rfl⟩ ?_
 have HST4 := Aside0.mk hst4
 have HBX4 := Aside0.mk hbx4
 have HBW4 := Aside0.mk hbw4
 have HLOC := Aside0.mk hloc
 have HIC4 := Aside0.mk hic4
 have HIH4 := Aside0.mk hih4
 have HO4 := Aside0.mk hown4
 have j5 := hst4.cell 5 _ rfl
 have f5 := hst4.free 5
 have l4 := hst4.lt
 clear hK K he hz0 hz1 hz2 hb3 h3 hcl3 hown4 hgrow4 hloc4 hmg hst4 hbx3 hbx4 hbw4 hloc hic4 hih4
 try simp only [Act.put, stA, stZ, stS, i64_w, i32_w]
 iterate 2 (first
  | (refine in_off0 (by rfl) ?_; simp only [Act.put, stA, stZ, stS, i64_w, i32_w])
  | (refine in_off1 (by rfl) ?_; simp only [Act.put, stA, stZ, stS, i64_w, i32_w])
  | (refine in_0 (v := ?_) (by rfl) rfl ?_ (a' := ?_) ?_ ?_; rotate_left; (intro w'; go_simp; with_reducible rfl); rotate_left; (simp only [Act.put, stA, stZ, stS, i64_w, i32_w]; rfl))
  | (refine in_1 (v := ?_) (by rfl) rfl ?_ (a' := ?_) ?_ ?_; rotate_left; (rintro w' hs; go_split_ands; go_simp; with_reducible rfl); rotate_left; (simp only [Act.put, stA, stZ, stS, i64_w, i32_w]; rfl)))
 refine in_3 (by rfl) (fun K hK => ?_)
 go_simp
 refine hK _ _ ?_
 clear hK K
 try simp only [Act.put, stA, stZ, stS, i64_w, i32_w]
 refine out_nil ?_
 have hm5 : Mod w (w4.setCell ⟨s0, 5, none⟩ (.slice (some ⟨g4, 0, none⟩) (us.length + 1) cap4)) (fun k => k = s0 ∨ uv.ownBlock = some k) := (HBW4.out.mono (fun _ _ e => .inr e)).setCell (p := ⟨s0, 5, none⟩) (fun _ => .inl rfl) _
 have hs0q : s0 < q1 := by rw [← hq1]; exact H.out.subM s0 H.out.ms0
 have hms : Mod w4 (w4.setCell ⟨s0, 5, none⟩ (.slice (some ⟨g4, 0, none⟩) (us.length + 1) cap4)) (· = s0) := (Mod.refl _ _).set_own 5 _
 have hst5 := HST4.out.set 5 (.slice (some ⟨g4, 0, none⟩) (us.length + 1) cap4)
 have hbx5 := And.intro (HBX4.out.1.mod hms (by omega)) (And.intro (HBX4.out.2.1.mod hms (by omega)) (HBX4.out.2.2.mod hms (by omega)))
 have hic5 := HIC4.out.mod hms (HST4.out.not_map HIC4.out)
 have hih5 := HIH4.out.mod hms (HST4.out.not_map HIH4.out)
 have hne1 : (103 : TypeId) ≠ 1 := by decide
 have ho5 := own_mod HO4.out hms (fun g hg e => by subst e; exact own_not_strc HO4.out HST4.out hne1 hg)
 generalize w4.setCell ⟨s0, 5, none⟩ (.slice (some ⟨g4, 0, none⟩) (us.length + 1) cap4) = W5 at hm5 hms hst5 hbx5 hic5 hih5 ho5 ⊢
 have HM5 := Aside0.mk hm5
 have HST5 := Aside0.mk hst5
 have HBX5 := Aside0.mk hbx5
 have HIC5 := Aside0.mk hic5
 have HIH5 := Aside0.mk hih5
 have HO5 := Aside0.mk ho5
 have hS7 : ∀ W, Below W5.heap.size W5 W → (W.cell? ⟨q1, 0, none⟩ = some (.pointer (some ⟨s0, 0, none⟩)) ∧ W.cell? ⟨q1 + 1, 0, none⟩ = some (.int .i64 n) ∧ W.cell? ⟨s0, 2, none⟩ = some (.map (some bc))) := fun W hb =>
  ⟨pw_cell_below hb (hbx5.1.cell 0 _ rfl), pw_cell_below hb (hbx5.2.1.cell 0 _ rfl), pw_cell_below hb (hst5.cell 2 _ rfl)⟩
 have HS7 := Aside0.mk hS7
 have hrd5 : ∀ W, Below W5.heap.size W5 W → Kd.C (Kd.int .u8) W (some ad) b.length b := fun W hb => Kd.C_below (C_int_mod HBW.out hm5 (fun ad' e hk => by
  cases e
  rcases hk with hk | hk
  ·exact hbD (hk ▸ .inr (.inl H.out.ms0))
  ·exact hbD (.inr (.inl (H.out.mu _ hk))))) hb
 have HRD5 := Aside0.mk hrd5
 have hclo := fun W hb => clone_calls ad c b W (hrd5 W hb) (by rw [HBB.out.2.1]; omega)
 rw [HBB.out.2.1] at hclo
 have HCLO := Aside0.mk hclo
 clear hm5 hms hst5 hbx5 hic5 hih5 ho5 hS7 hrd5 hclo j5 f5 l4 kp ku hS6
 go_wp2
 refine wp_region_in [1, 0, 0, 1, 1, 0, 2, 3] [7] (fun w' => w'.cell? ⟨q1, 0, none⟩ = some (.pointer (some ⟨s0, 0, none⟩)) ∧ w'.cell? ⟨q1 + 1, 0, none⟩ = some (.int .i64 n) ∧ w'.cell? ⟨s0, 2, none⟩ = some (.map (some bc))) (by kernel_rfl) rfl (by kernel_rfl) (fun _ _ _ _ h => h) (HS7.out _ (Below.refl _ _).drew) ?_
 iterate 6 (first
  | (refine in_off0 (by rfl) ?_; simp only [Act.put, stA, stZ, stS, i64_w, i32_w])
  | (refine in_off1 (by rfl) ?_; simp only [Act.put, stA, stZ, stS, i64_w, i32_w])
  | (refine in_0 (v := ?_) (by rfl) rfl ?_ (a' := ?_) ?_ ?_; rotate_left; (intro w'; go_simp; with_reducible rfl); rotate_left; (simp only [Act.put, stA, stZ, stS, i64_w, i32_w]; rfl))
  | (refine in_1 (v := ?_) (by rfl) rfl ?_ (a' := ?_) ?_ ?_; rotate_left; (rintro w' hs; go_split_ands; go_simp; with_reducible rfl); rotate_left; (simp only [Act.put, stA, stZ, stS, i64_w, i32_w]; rfl)))
 refine in_2 (by rfl) (fun K hK => ?_)
 go_simp
 refine (HCLO.out _ (Below.refl _ _).drew).mono ?_
 rintro e w6 ⟨v6, rfl, ho6, hb6⟩
 obtain ⟨g6, c6, rfl, hg6, hc6, hr6⟩ := ho6.row (by rw [HBB.out.2.1]; omega)
 rw [HBB.out.2.1] at hc6 ⊢
 have hb6' : Below W5.heap.size W5 w6 := below_then (Below.refl _ _).drew (Nat.le_refl _) hb6
 have HB6 := Aside0.mk hb6'
 have HR6 := Aside0.mk hr6
 dsimp only
 refine hK _ _ (HS7.out _ hb6') ?_
 clear hK K ho6 hb6 hr6 hb6'
 try simp only [Act.put, stA, stZ, stS, i64_w, i32_w]
 refine in_3 (by rfl) (fun K hK => ?_)
 refine wp_im_store _ _ _ _ rfl Tryz.underlying3 Tryz.underlying98 (by decide) rfl (HIC5.out.below HB6.out) n hl4 rfl _ rfl ?_
 intro w7 hic7 hm7 hsz7
 replace hic7 : IM Tryz.prog 3 w7 bc 4096 (fun i => if i = (n : Int) then some (.slice (some ⟨g6, 0, none⟩) 256 c6) else fc i) := hic7
 refine hK _ _ ?_
 clear hK K
 try simp only [Act.put, stA, stZ, stS, i64_w, i32_w]
 refine out_nil ?_
 have hmf : Mod w w7 (fun k => k = s0 ∨ k = bc ∨ k = bh ∨ uv.ownBlock = some k) := ((HM5.out.mono (fun k _ e => e.imp id (fun e => .inr (.inr e)))).below HB6.out).trans hm7 (fun _ _ e => .inr (.inl e))
 have hSM : ∀ k, (k = s0 ∨ k = bc ∨ k = bh ∨ uv.ownBlock = some k) → M k := by
  rintro k (rfl | rfl | rfl | e)
  ·exact H.out.ms0
  ·exact H.out.mbc
  ·exact H.out.mbh
  ·exact H.out.mu k e
 have hR : ∀ k, R k → ¬ (k = s0 ∨ k = bc ∨ k = bh ∨ uv.ownBlock = some k) := fun k hk e => H.out.sepR k (hSM k e) hk
 have hst7 := (HST5.out.below HB6.out).mod hm7 (fun e => HST5.out.not_map HIC5.out e.symm)
 have hbcq : bc < q1 := by rw [← hq1]; exact H.out.subM bc H.out.mbc
 have hbx7 := And.intro ((HBX5.out.1.below HB6.out).mod hm7 (by omega)) (And.intro ((HBX5.out.2.1.below HB6.out).mod hm7 (by omega)) ((HBX5.out.2.2.below HB6.out).mod hm7 (by omega)))
 have hr7 := HR6.out.mod hm7 (fun e => HR6.out.not_map (HIC5.out.below HB6.out) e.symm)
 have ho7 := own_mod (own_mod HO5.out (Mod.of_below HB6.out (fun _ => False)) (fun _ _ => id)) hm7 (fun g hg e => by subst e; exact own_not_map HO5.out HIC5.out hg)
 have hne3 : (5 : TypeId) ≠ 1 := by decide
 have hq5 : q1 + 1 + 1 + 1 ≤ W5.heap.size := HBX5.out.2.2.lt
 have hv7 := (H.out.view.mod hmf hR).more (R' := fun k => R k ∨ (k = q1 ∨ k = q1 + 1 ∨ k = q1 + 1 + 1 ∨ k = g6)) (fun _ => .inl)
 have hul2 : (us ++ [Value.func (.func 85) #[] #[.pointer (some ⟨q1 + 1 + 1, 0, none⟩), .pointer (some ⟨q1, 0, none⟩), .pointer (some ⟨q1 + 1, 0, none⟩)]]).length = us.length + 1 := by simp
 have h7 := H.out.change (r := fun k => k = q1 ∨ k = q1 + 1 ∨ k = q1 + 1 + 1 ∨ k = g6) (s' := s.write n b) (us' := us ++ [.func (.func 85) #[] #[.pointer (some ⟨q1 + 1 + 1, 0, none⟩), .pointer (some ⟨q1, 0, none⟩), .pointer (some ⟨q1 + 1, 0, none⟩)]]) hmf hst7 hic7 ((HIH5.out.below HB6.out).mod hm7 (fun e => H.out.n2 e.symm)) (by rw [hul2]; exact ho7) (fun g hg => (HLOC.out g hg).imp id (fun h => by omega))
  (fun k hk => by
   have hloc : ∀ j, q1 ≤ j → j < q1 + 1 + 1 + 1 → (Value.slice (some ⟨g4, 0, none⟩) (us.length + 1) cap4).ownBlock ≠ some j := fun j h1 h2 e => by
    rcases HLOC.out j e with h | h
    ·have := own_lt H.out.und j h; omega
    ·omega
   have hl7 := hbx7.2.2.lt
   rcases hk with rfl | rfl | rfl | rfl
   ·exact ⟨by omega, by omega, hloc _ (by omega) (by omega)⟩
   ·exact ⟨by omega, by omega, hloc _ (by omega) (by omega)⟩
   ·exact ⟨by omega, by omega, hloc _ (by omega) (by omega)⟩
   ·exact ⟨by have : W5.drew.heap.size = W5.heap.size := rfl; omega, hr7.lt, own_not_row ho7 hr7 hne3⟩)
  ⟨by rw [← hlen]; exact List.length_set .., fun y v hy => by
   dsimp only at hy
   split at hy
   ·omega
   ·exact H.out.view.2.1 y v hy, fun k hk => by
   by_cases e : k = n
   ·subst e
    dsimp only
    rw [if_pos rfl]
    rw [show (s.write k b).now.getD k [] = b by simp [St.write, List.getD_eq_getElem?_getD, hlen, hk]]
    exact ⟨g6, c6, rfl, .inr (.inr (.inr (.inr rfl))), hc6, hr7, HBB.out.2.1, HBB.out.2.2⟩
   ·dsimp only
    rw [if_neg (by omega), show (s.write n b).now.getD k [] = s.now.getD k [] by simp [St.write, List.getD_eq_getElem?_getD, List.getElem?_set, Ne.symm e]]
    exact hv7.2.2 k hk⟩
  H.out.held (by
   rw [List.reverse_append]
   refine ⟨fc, fh, .inl ⟨q1 + 1 + 1, q1, q1 + 1, n, fc n, rfl, by rw [HU.out]; exact hbx7.2.2, hbx7.1, hbx7.2.1, .inr (.inr (.inr (.inl rfl))), .inr (.inl rfl), .inr (.inr (.inl rfl)), hn, fun v hv => ?_, funext fun y => ?_, rfl⟩, hv7, H.out.held, Chain.mod hmf hR _ _ _ _ H.out.chain |> Chain.more (fun _ => .inl) _ _ _ _⟩
   ·have := H.out.view.2.2 n hn
    rw [hv] at this
    obtain ⟨g0, c0, e, _⟩ := this
    exact ⟨g0, c0, e⟩
   ·dsimp only
    by_cases e : y = (n : Int)
    ·rw [if_pos e, e]
    ·rw [if_neg e, if_neg e])
 have HMF := Aside0.mk (hmf.mono (fun k _ e => hSM k e))
 have HLOC7 := Aside0.mk (show ∀ k, (Value.slice (some ⟨g4, 0, none⟩) (us.length + 1) cap4).ownBlock = some k → M k ∨ w.heap.size ≤ k from fun k hk => (HLOC.out k hk).elim (fun e => .inl (H.out.mu k e)) (fun e => .inr (by omega)))
 have H7 := Aside0.mk h7
 have hx1 := hbx7.1.cell 0 _ rfl
 have hx2 := hbx7.2.1.cell 0 _ rfl
 have HOF := Aside0.mk (fun (W : World) (hW : W.cell? ⟨s0, 6, none⟩ = some (.slice (some ⟨gs, 0, none⟩) ns cap)) => of_calls s0 gs ns cap n W hW H.out.s1 H.out.s2 i1)
 have k6 := h7.st.cell 6 _ rfl
 have hg6q : q1 ≤ g6 := by have : W5.drew.heap.size = W5.heap.size := rfl; omega
 clear hmf hSM hR hst7 hbcq hbx7 hr7 ho7 hne3 hv7 hul2 h7 hic7 hm7 hsz7 hs0q
 go_wp2
 refine wp_region_ord [0, 1, 3, 2, 4] [1, 1, 1, 2, 2] (fun w' => w'.cell? ⟨q1, 0, none⟩ = some (.pointer (some ⟨s0, 0, none⟩)) ∧ w'.cell? ⟨q1 + 1, 0, none⟩ = some (.int .i64 n)) (by kernel_rfl) rfl (by kernel_rfl) (fun _ _ _ _ h => h) ⟨hx1, hx2⟩ ?_
 iterate 3 (first
  | (refine inQ_off0 (by rfl) (by rfl) ?_; simp only [Act.put, stA, stZ, stS, i64_w, i32_w])
  | (refine inQ_off1 (by rfl) (by rfl) ?_; simp only [Act.put, stA, stZ, stS, i64_w, i32_w])
  | (refine inQ_0 (v := ?_) (by rfl) (by rfl) rfl ?_ (a' := ?_) ?_ ?_; rotate_left; (intro w'; go_simp; with_reducible rfl); rotate_left; (simp only [Act.put, stA, stZ, stS, i64_w, i32_w]; rfl))
  | (refine inQ_1 (v := ?_) (by rfl) (by rfl) rfl ?_ (a' := ?_) ?_ ?_; rotate_left; (rintro w' hs; go_split_ands; go_simp; with_reducible rfl); rotate_left; (simp only [Act.put, stA, stZ, stS, i64_w, i32_w]; rfl)))
 refine inP_2 (by rfl) (by rfl) (fun K hK => ?_)
 go_simp
 refine (HOF.out w7.drew k6).mono ?_
 rintro e w8 ⟨rfl, rfl⟩
 dsimp only
 refine hK _ _ ⟨hx1, hx2⟩ ?_
 clear hK K
 try simp only [Act.put, stA, stZ, stS, i64_w, i32_w]
 refine inP_2 (by rfl) (by rfl) (fun K hK => ?_)
 go_simp
 refine ((H7.out.mod (w1 := w7.drew.drew) ((Mod.refl w7 (fun _ => False)).drew).drew (fun _ _ => id) (fun _ _ => id) (fun _ _ => id)).forgets n hl4).mono ?_
 rintro e w9 ⟨rfl, hm9, r9, hr9, h9⟩
 dsimp only
 have hb9 : w9.cell? ⟨q1, 0, none⟩ = some (.pointer (some ⟨s0, 0, none⟩)) ∧ w9.cell? ⟨q1 + 1, 0, none⟩ = some (.int .i64 n) :=
  ⟨hm9.cell hx1 (fun e => H7.out.sepR q1 (H7.out.mcM _ e) (.inr (.inl rfl))), hm9.cell hx2 (fun e => H7.out.sepR (q1 + 1) (H7.out.mcM _ e) (.inr (.inr (.inl rfl))))⟩
 refine hK _ _ hb9 ?_
 clear hK K
 try simp only [Act.put, stA, stZ, stS, i64_w, i32_w]
 refine inP_nil ?_
 have H9 := Aside0.mk h9
 have HM9 := Aside0.mk (And.intro hm9 hr9)
 clear hb9 hm9 hr9 h9 hx1 hx2 k6
 go_wp2
 go_ret
 refine ⟨_, rfl, H9.out.is, fun k hk => ?_, HMF.out.mono (fun k _ e => .inr (.inl e)) |>.drew.drew.trans HM9.out.1 (fun k _ e => .inr (.inl (H.out.mcM k e)))⟩
 rcases hk with hk | ((hk | hk) | hk) | (hk | hk)
 ·exact .inl (.inl hk)
 ·exact .inl (.inr (.inl hk))
 ·exact (HLOC7.out k hk).imp (fun h => .inr (.inl h)) id
 ·exact .inl (.inr (.inl (H.out.mcM k (HM9.out.2 k hk))))
 ·exact .inl (.inr (.inr hk))
 ·right
  rcases hk with rfl | rfl | rfl | rfl <;> omega
set_option maxHeartbeats 4000000 in
set_option maxRecDepth 100000 in
theorem shold_calls {D : Nat → Prop} {s0 : Nat} {s : St} (n : Nat) (w : World) (h : StIs w D s0 s) (hn : n < s.now.length) (hh : s.hist.length ≤ 1000000) :
  Calls Tryz.prog 128 #[.pointer (some ⟨s0, 0, none⟩), .int .i64 n] w (SWritePost D s0 (s.hold n) w) := by
 obtain ⟨Dd, M, Mc, R, p0, L, m, room, ns, gs, cap, bc, bw, bh, uv, found, asked, fc, fh, us, h, rfl⟩ := h
 have hlen := h.view.1
 rw [hlen] at hn
 obtain ⟨hd0, hd1, hd2, hdp, hdl⟩ := h.disk.n
 have hdec : decide (0 ≤ (n : Int) ∧ (n : Int) < (L.length : Int)) = true := by simp; omega
 have hul : us.length ≤ 1000000 := by have := Chain.len _ _ _ _ h.chain; rw [List.length_reverse] at this; omega
 obtain ⟨q1, hq1⟩ : ∃ q1, w.heap.size = q1 := ⟨_, rfl⟩
 obtain ⟨W1, hW1⟩ : ∃ W1, w.alloc (.cells #[.int .i64 n] 3) = W1 := ⟨_, rfl⟩
 have hb1 : Below w.heap.size w W1 := by rw [← hW1]; exact below_alloc (Below.refl _ _) _
 have hs2 : Strc W1 q1 3 [.int .i64 n] := by
  rw [← hW1, ← hq1]
  exact alloc_last _ _
 have hsz1 : W1.heap.size = q1 + 1 := by rw [← hW1, ← hq1]; simp
 have h1 := h.mod (Mod.of_below hb1 (fun _ => False)) (fun _ _ => id) (fun _ _ => id) (fun _ _ => id)
 have hhas := shas_calls (x := (n : Int)) (h1.st.cell 0 _ rfl) h1.disk.n.1
 rw [hdec] at hhas
 have HHAS := Aside0.mk hhas
 have HB1 := Aside0.mk hb1
 have H := Aside0.mk h
 have H1 := Aside0.mk h1
 have HBX := Aside0.mk hs2
 have i1 : n < 9223372036854775808 := by omega
 have hl4 : n < 4096 := by omega
 have hheld := h.held.2.2 n hn
 obtain ⟨x, hx, hx01⟩ : ∃ x : Int, (fh n).getD (.int .i64 0) = .int .i64 x ∧ ((x = 0 ∧ fh n = none) ∨ (x = 1 ∧ fh n = some (.int .i64 1))) := by
  rw [hheld]
  cases hgh : s.held.getD n false
  ·exact ⟨0, rfl, .inl ⟨rfl, rfl⟩⟩
  ·exact ⟨1, rfl, .inr ⟨rfl, rfl⟩⟩
 have HX := Aside0.mk hx01
 have hlk : ∀ (W : World), Below W1.heap.size W1 W → (Instr.lookup 99 (.map (some bh)) (.int .i64 n) false).run Tryz.prog W = .ok (.int .i64 x) W := fun W hb => by
  have := (h1.ih.below hb).look Tryz.underlying3 Tryz.underlying99 (zero_int W) i1
  rwa [hx] at this
 have hS : ∀ W, Below W1.heap.size W1 W → (W.cell? ⟨q1, 0, none⟩ = some (.int .i64 n) ∧ W.cell? ⟨s0, 4, none⟩ = some (.map (some bh)) ∧ (Instr.lookup 99 (.map (some bh)) (.int .i64 n) false).run Tryz.prog W = .ok (.int .i64 x) W) := fun W hb =>
  ⟨pw_cell_below hb (hs2.cell 0 _ rfl), pw_cell_below hb (h1.st.cell 4 _ rfl), hlk W hb⟩
 have HS := Aside0.mk hS
 have kn := hs2.cell 0 _ rfl
 clear hS hlk hx hx01 hheld hhas hdec h hb1 hs2 h1 hd0
 go_enter Tryz.func128, Tryz.ntmps128
 go_wp2_with fail
 clear hW1
 refine HHAS.out.mono ?_
 rintro e w' ⟨rfl, rfl⟩
 dsimp only
 go_wp2
 refine wp_region_plan (.op 0 0 (.op 1 0 (.op 2 0 (.op 3 1 (.op 4 0 (.op 5 0 (.op 6 0 (.op 7 1 (.op 8 1 (.op 9 1 (.fork 10 11 (.op 11 2 (.op 12 2 (.op 13 2 .stop))) (.op 10 2 (.op 12 2 (.op 13 2 .stop)))))))))))))) (fun w' => w'.cell? ⟨q1, 0, none⟩ = some (.int .i64 n) ∧ w'.cell? ⟨s0, 4, none⟩ = some (.map (some bh)) ∧ (Instr.lookup 99 (.map (some bh)) (.int .i64 n) false).run Tryz.prog w' = .ok (.int .i64 x) w') (by kernel_rfl) (by kernel_rfl) (fun _ _ _ _ h => h) (HS.out _ (Below.refl _ _).drew) ?_
 iterate 10 (first
  | (refine inT_off0 (by rfl) (by rfl) ?_; simp only [Act.put, stA, stZ, stS, i64_w, i32_w])
  | (refine inT_off1 (by rfl) (by rfl) ?_; simp only [Act.put, stA, stZ, stS, i64_w, i32_w])
  | (refine inT_0 (v := ?_) (by rfl) (by rfl) rfl ?_ (a' := ?_) ?_ ?_; rotate_left; (intro w'; go_simp; with_reducible rfl); rotate_left; (simp only [Act.put, stA, stZ, stS, i64_w, i32_w]; rfl))
  | (refine inT_1 (v := ?_) (by rfl) (by rfl) rfl ?_ (a' := ?_) ?_ ?_; rotate_left; (rintro w' hs; go_split_ands; go_simp; with_reducible rfl); rotate_left; (simp only [Act.put, stA, stZ, stS, i64_w, i32_w]; rfl)))
 refine inT_fork (by rfl) (by rfl) (by rfl) (by rfl) (fun K hK => ?_) (fun K hK => ?_)
 all_goals
  go_simp
  refine hK _ _ (HS.out _ (below_alloc (Below.refl _ _) _).drew) ?_
  clear hK K
  try simp only [Act.put, stA, stZ, stS, i64_w, i32_w]
  refine inT_2 (by rfl) (by rfl) (fun K hK => ?_)
  go_simp
  refine hK _ _ (HS.out _ (below_alloc (below_alloc (Below.refl _ _) _) _).drew) ?_
  clear hK K
  try simp only [Act.put, stA, stZ, stS, i64_w, i32_w]
  refine inT_2 (by rfl) (by rfl) (fun K hK => ?_)
  go_simp
  refine hK _ _ (HS.out _ (below_alloc (below_alloc (Below.refl _ _) _) _).drew) ?_
  clear hK K
  try simp only [Act.put, stA, stZ, stS, i64_w, i32_w]
  refine inT_2 (by rfl) (by rfl) (fun K hK => ?_)
  go_simp
  refine hK _ _ (HS.out _ (below_alloc (below_alloc (Below.refl _ _) _) _).drew) ?_
  clear hK K
  try simp only [Act.put, stA, stZ, stS, i64_w, i32_w]
  refine inT_stop ?_
 obtain ⟨W2, hW2⟩ : ∃ W2, ((W1.alloc (.cells #[.map (some bh)] 99)).alloc (.cells #[.int .i64 x] 3)).drew = W2 := ⟨_, rfl⟩
 have hb2 : Below W1.heap.size W1 W2 := by rw [← hW2]; exact (below_alloc (below_alloc (Below.refl _ _) _) _).drew
 have hbm : Strc W2 (q1 + 1) 99 [.map (some bh)] := by
  rw [← hW2, ← hsz1]
  exact ((show Strc (W1.alloc (.cells #[.map (some bh)] 99)) W1.heap.size 99 [.map (some bh)] from alloc_last _ _).below (below_alloc (Below.refl _ _) (.cells #[.int .i64 x] 3))).kept rfl
 have hbw : Strc W2 (q1 + 1 + 1) 3 [.int .i64 x] := by
  rw [← hW2]
  exact (show Strc ((W1.alloc (.cells #[.map (some bh)] 99)).alloc (.cells #[.int .i64 x] 3)) (q1 + 1 + 1) 3 [.int .i64 x] from alloc_at _ _ _ (by simp [hsz1]))
 have hsz2 : W2.heap.size = q1 + 1 + 1 + 1 := by rw [← hW2]; show ((W1.alloc _).alloc _).heap.size = _; simp [hsz1]
 rw [hW2]
 clear hW2
 obtain ⟨pm, hppm⟩ : ∃ j, q1 + 1 = j := ⟨_, rfl⟩
 obtain ⟨pw, hppw⟩ : ∃ j, q1 + 1 + 1 = j := ⟨_, rfl⟩
 rw [hppw] at hbw
 rw [hppm] at hbm
 rw [hppw, hppm]
 have hpq : (q1 < pm ∧ pm < q1 + 1 + 1 + 1) ∧ (q1 < pw ∧ pw < q1 + 1 + 1 + 1) ∧ pm ≠ pw := by omega
 clear hppm hppw
 rotate_left
 obtain ⟨W2, hW2⟩ : ∃ W2, ((W1.alloc (.cells #[.int .i64 x] 3)).alloc (.cells #[.map (some bh)] 99)).drew = W2 := ⟨_, rfl⟩
 have hb2 : Below W1.heap.size W1 W2 := by rw [← hW2]; exact (below_alloc (below_alloc (Below.refl _ _) _) _).drew
 have hbw : Strc W2 (q1 + 1) 3 [.int .i64 x] := by
  rw [← hW2, ← hsz1]
  exact ((show Strc (W1.alloc (.cells #[.int .i64 x] 3)) W1.heap.size 3 [.int .i64 x] from alloc_last _ _).below (below_alloc (Below.refl _ _) (.cells #[.map (some bh)] 99))).kept rfl
 have hbm : Strc W2 (q1 + 1 + 1) 99 [.map (some bh)] := by
  rw [← hW2]
  exact (show Strc ((W1.alloc (.cells #[.int .i64 x] 3)).alloc (.cells #[.map (some bh)] 99)) (q1 + 1 + 1) 99 [.map (some bh)] from alloc_at _ _ _ (by simp [hsz1]))
 have hsz2 : W2.heap.size = q1 + 1 + 1 + 1 := by rw [← hW2]; show ((W1.alloc _).alloc _).heap.size = _; simp [hsz1]
 rw [hW2]
 clear hW2
 obtain ⟨pw, hppw⟩ : ∃ j, q1 + 1 = j := ⟨_, rfl⟩
 obtain ⟨pm, hppm⟩ : ∃ j, q1 + 1 + 1 = j := ⟨_, rfl⟩
 rw [hppm] at hbm
 rw [hppw] at hbw
 rw [hppm, hppw]
 have hpq : (q1 < pm ∧ pm < q1 + 1 + 1 + 1) ∧ (q1 < pw ∧ pw < q1 + 1 + 1 + 1) ∧ pm ≠ pw := by omega
 clear hppm hppw
 rotate_left
 all_goals
  have h2 := H1.out.mod (Mod.of_below hb2 (fun _ => False)) (fun _ _ => id) (fun _ _ => id) (fun _ _ => id)
  have hbn := HBX.out.below hb2
  have ku := h2.st.cell 5 _ rfl
  have hl2 := h2.st.lt
  have hne1 : (103 : TypeId) ≠ 1 := by decide
  have hne2 : (99 : TypeId) ≠ 1 := by decide
  have hne4 : (3 : TypeId) ≠ 1 := by decide
  have HUA := Aside0.mk (fun o => own_mod h2.und (Mod.of_below (below_alloc (Below.refl _ _) o) (fun _ => False)) (fun _ _ => id))
  have HF := Aside0.mk (show ∀ (o : Obj) (w4 : World) (v4 : Value), (W2.alloc o).grownBy w4 uv.ownBlock → (v4.ownBlock = uv.ownBlock ∨ v4.ownBlock = some (W2.alloc o).heap.size) →
    Strc w4 s0 103 [.pointer (some ⟨p0, 0, none⟩), .int .i64 room, .map (some bc), .map (some bw), .map (some bh), uv, .slice (some ⟨gs, 0, none⟩) ns cap, .int .i64 found, .int .i64 asked] ∧
    (Strc w4 q1 3 [.int .i64 n] ∧ Strc w4 pm 99 [.map (some bh)] ∧ Strc w4 pw 3 [.int .i64 x]) ∧ IM Tryz.prog 3 w4 bc 4096 fc ∧ IM Tryz.prog 3 w4 bh 4096 fh ∧ Mod w w4 (fun k => uv.ownBlock = some k) ∧ (∀ g, v4.ownBlock = some g → uv.ownBlock = some g ∨ q1 + 1 + 1 + 1 ≤ g) from fun o w4 v4 hg hl => by
   have hba : Below W2.heap.size W2 (W2.alloc o) := below_alloc (Below.refl _ _) _
   have hmg := mod_grown hg
   have ha := h2.mod (Mod.of_below hba (fun _ => False)) (fun _ _ => id) (fun _ _ => id) (fun _ _ => id)
   refine ⟨ha.st.mod hmg (own_not_strc ha.und ha.st hne1), ⟨(hbn.below hba).mod hmg (own_not_strc ha.und (hbn.below hba) hne4), (hbm.below hba).mod hmg (own_not_strc ha.und (hbm.below hba) hne2), (hbw.below hba).mod hmg (own_not_strc ha.und (hbw.below hba) hne4)⟩, ha.ic.mod hmg (own_not_map ha.und ha.ic), ha.ih.mod hmg (own_not_map ha.und ha.ih), ?_, fun g e => ?_⟩
   ·exact (Mod.of_below (below_then (below_then HB1.out HB1.out.size hb2) (Nat.le_trans HB1.out.size hb2.size) hba) _).trans hmg (fun _ _ e => e)
   ·rcases hl with h | h
    ·exact .inl (h.symm.trans e)
    ·have h5 : g = (W2.alloc o).heap.size := by rw [e] at h; exact Option.some.inj h
     rw [World.size_alloc] at h5
     exact .inr (by omega))
  have HB2 := Aside0.mk hb2
  obtain ⟨z0, he, hz0, hz1, hz2⟩ := info_parts infoFn
  clear h2 hbn hbm hbw hb2 kn
  go_wp2_with ((with_reducible refine gate_dst (N := 28) rfl ?_); (refine wpList_append_own_at _ rfl (.tmp 25) (.tmp 27) 100 rfl 0 1 z0 .nilFunc 1 8 Tryz.underlying100 he hz0 hz1 hz2 rfl (by decide) _ _ _ rfl (HUA.out _) ⟨q1 + 1 + 1 + 1, 0, none⟩ 1 1 [.func (.func 170) #[] #[.pointer (some ⟨pw, 0, none⟩), .pointer (some ⟨pm, 0, none⟩), .pointer (some ⟨q1, 0, none⟩)]] ?c6 ?c7 ?c1 ?c2 ?c3 ?c4 ?c5 ?_; (case c6 => rfl); (case c7 => rfl); (case c1 => (intro j u hj; rw [add_plain, ← hsz2]; exact cell_alloc W2 _ _ j u (by simpa using hj))); (case c2 => simp [Value.oneCell']); (case c3 => (simp only [maxLen]; omega)); (case c4 => omega); (case c5 => exact Nat.zero_le _); intro v4 w4 hown4 hgrow4 _ hloc4; clear hz0 hz1 hz2 he; obtain ⟨g4, cap4, rfl⟩ := own_succ hown4; obtain ⟨hst4, hbx4, hic4, hih4, hmw4, hlc4⟩ := HF.out _ _ _ hgrow4 hloc4; have HST4 := Aside0.mk hst4; have HBX4 := Aside0.mk hbx4; have HIC4 := Aside0.mk hic4; have HIH4 := Aside0.mk hih4; have HMW4 := Aside0.mk hmw4; have HLOC := Aside0.mk hlc4; have HO4 := Aside0.mk hown4; have j5 := hst4.cell 5 _ rfl; have f5 := hst4.free 5; have l4 := hst4.lt; clear hown4 hgrow4 hloc4 hst4 hbx4 hic4 hih4 hmw4 hlc4))
  have hs0q : s0 < q1 := by rw [← hq1]; exact H.out.subM s0 H.out.ms0
  have hms : Mod w4 (w4.setCell ⟨s0, 5, none⟩ (.slice (some ⟨g4, 0, none⟩) (us.length + 1) cap4)) (· = s0) := (Mod.refl _ _).set_own 5 _
  have hm5 : Mod w (w4.setCell ⟨s0, 5, none⟩ (.slice (some ⟨g4, 0, none⟩) (us.length + 1) cap4)) (fun k => k = s0 ∨ uv.ownBlock = some k) := (HMW4.out.mono (fun _ _ e => .inr e)).setCell (p := ⟨s0, 5, none⟩) (fun _ => .inl rfl) _
  have hst5 := HST4.out.set 5 (.slice (some ⟨g4, 0, none⟩) (us.length + 1) cap4)
  have hbx5 := And.intro (HBX4.out.1.mod hms (by omega)) (And.intro (HBX4.out.2.1.mod hms (by omega)) (HBX4.out.2.2.mod hms (by omega)))
  have hic5 := HIC4.out.mod hms (HST4.out.not_map HIC4.out)
  have hih5 := HIH4.out.mod hms (HST4.out.not_map HIH4.out)
  have ho5 := own_mod HO4.out hms (fun g hg e => by subst e; exact own_not_strc HO4.out HST4.out hne1 hg)
  generalize w4.setCell ⟨s0, 5, none⟩ (.slice (some ⟨g4, 0, none⟩) (us.length + 1) cap4) = W5 at hm5 hms hst5 hbx5 hic5 hih5 ho5 ⊢
  have k4 := hst5.cell 4 _ rfl
  have kn5 := hbx5.1.cell 0 _ rfl
  clear j5 f5 l4 ku
  refine wp_region_in [0, 0, 0, 1, 1, 3] [5] (fun w' => w'.cell? ⟨s0, 4, none⟩ = some (.map (some bh)) ∧ w'.cell? ⟨q1, 0, none⟩ = some (.int .i64 n)) (by kernel_rfl) rfl (by kernel_rfl) (fun _ _ _ _ h => h) ⟨k4, kn5⟩ ?_
  iterate 5 (first
   | (refine in_off0 (by rfl) ?_; simp only [Act.put, stA, stZ, stS, i64_w, i32_w])
   | (refine in_off1 (by rfl) ?_; simp only [Act.put, stA, stZ, stS, i64_w, i32_w])
   | (refine in_0 (v := ?_) (by rfl) rfl ?_ (a' := ?_) ?_ ?_; rotate_left; (intro w'; go_simp; with_reducible rfl); rotate_left; (simp only [Act.put, stA, stZ, stS, i64_w, i32_w]; rfl))
   | (refine in_1 (v := ?_) (by rfl) rfl ?_ (a' := ?_) ?_ ?_; rotate_left; (rintro w' hs; go_split_ands; go_simp; with_reducible rfl); rotate_left; (simp only [Act.put, stA, stZ, stS, i64_w, i32_w]; rfl)))
  refine in_3 (by rfl) (fun K hK => ?_)
  refine wp_im_store _ _ _ _ rfl Tryz.underlying3 Tryz.underlying99 (by decide) rfl (hih5.kept (w1 := W5.drew) rfl) n hl4 rfl _ rfl ?_
  intro w7 hih7 hm7 hsz7
  replace hih7 : IM Tryz.prog 3 w7 bh 4096 (fun i => if i = (n : Int) then some (.int .i64 1) else fh i) := hih7
  refine hK _ _ ?_
  clear hK K
  try simp only [Act.put, stA, stZ, stS, i64_w, i32_w]
  refine out_nil ?_
  have hm7' : Mod W5 w7 (· = bh) := (Mod.refl W5 (· = bh)).drew.trans hm7 (fun _ _ e => e)
  have hbhq : bh < q1 := by rw [← hq1]; exact H.out.subM bh H.out.mbh
  have hmf : Mod w w7 (fun k => k = s0 ∨ k = bc ∨ k = bh ∨ uv.ownBlock = some k) := (hm5.mono (fun k _ e => e.imp id (fun e => .inr (.inr e)))).trans hm7' (fun _ _ e => .inr (.inr (.inl e)))
  have hSM : ∀ k, (k = s0 ∨ k = bc ∨ k = bh ∨ uv.ownBlock = some k) → M k := by
   rintro k (rfl | rfl | rfl | e)
   ·exact H.out.ms0
   ·exact H.out.mbc
   ·exact H.out.mbh
   ·exact H.out.mu k e
  have hR : ∀ k, R k → ¬ (k = s0 ∨ k = bc ∨ k = bh ∨ uv.ownBlock = some k) := fun k hk e => H.out.sepR k (hSM k e) hk
  have hst7 := hst5.mod hm7' (fun e => hst5.not_map hih5 e.symm)
  have hbx7 := And.intro (hbx5.1.mod hm7' (by omega)) (And.intro (hbx5.2.1.mod hm7' (by omega)) (hbx5.2.2.mod hm7' (by omega)))
  have ho7 := own_mod ho5 hm7' (fun g hg e => by subst e; exact own_not_map ho5 hih5 hg)
  have hv7 := (H.out.view.mod hmf hR).more (R' := fun k => R k ∨ (k = q1 ∨ k = pm ∨ k = pw)) (fun _ => .inl)
  have hul2 : (us ++ [Value.func (.func 170) #[] #[.pointer (some ⟨pw, 0, none⟩), .pointer (some ⟨pm, 0, none⟩), .pointer (some ⟨q1, 0, none⟩)]]).length = us.length + 1 := by simp
  have hl7 := hbx7.2.1.lt
  have hl8 := hbx7.2.2.lt
  have h7 := H.out.change (r := fun k => k = q1 ∨ k = pm ∨ k = pw) (s' := s.hold n) (us' := us ++ [.func (.func 170) #[] #[.pointer (some ⟨pw, 0, none⟩), .pointer (some ⟨pm, 0, none⟩), .pointer (some ⟨q1, 0, none⟩)]]) hmf hst7 (hic5.mod hm7' (fun e => H.out.n2 e)) hih7 (by rw [hul2]; exact ho7) (fun g hg => (HLOC.out g hg).imp id (fun h => by omega))
   (fun k hk => by
    have hloc : ∀ j, q1 ≤ j → j < q1 + 1 + 1 + 1 → (Value.slice (some ⟨g4, 0, none⟩) (us.length + 1) cap4).ownBlock ≠ some j := fun j h1 h2 e => by
     rcases HLOC.out j e with h | h
     ·have := own_lt H.out.und j h; omega
     ·omega
    rcases hk with rfl | rfl | rfl
    ·exact ⟨by omega, by omega, hloc _ (by omega) (by omega)⟩
    ·exact ⟨by omega, by omega, hloc _ (by omega) (by omega)⟩
    ·exact ⟨by omega, by omega, hloc _ (by omega) (by omega)⟩)
   hv7
   ⟨by rw [← H.out.held.1]; exact List.length_set .., fun y v hy => by
    dsimp only at hy
    split at hy
    ·omega
    ·exact H.out.held.2.1 y v hy, fun k hk => by
    have hkl : k < s.held.length := by rw [H.out.held.1]; exact hk
    by_cases e : k = n
    ·subst e
     dsimp only
     rw [if_pos rfl, show (s.hold k).held.getD k false = true by simp [St.hold, List.getD_eq_getElem?_getD, hkl]]
     rfl
    ·dsimp only
     rw [if_neg (by omega), show (s.hold n).held.getD k false = s.held.getD k false by simp [St.hold, List.getD_eq_getElem?_getD, List.getElem?_set, Ne.symm e]]
     exact H.out.held.2.2 k hk⟩
   (by
    rw [List.reverse_append]
    refine ⟨fc, fh, .inr ⟨pw, pm, q1, n, x, rfl, hbx7.2.2, hbx7.2.1, hbx7.1, .inr (.inr (.inr rfl)), .inr (.inr (.inl rfl)), .inr (.inl rfl), hn, rfl, HX.out.elim (fun h => .inl h.1) (fun h => .inr h.1), ?_⟩, hv7, H.out.held, Chain.mod hmf hR _ _ _ _ H.out.chain |> Chain.more (fun _ => .inl) _ _ _ _⟩
    rcases HX.out with ⟨rfl, hx⟩ | ⟨rfl, hx⟩
    ·rw [if_pos rfl]
     funext y
     by_cases e : y = (n : Int)
     ·(try dsimp only); rw [if_pos e, e, hx]
     ·dsimp only; rw [if_neg e, if_neg e]
    ·rw [if_neg (by omega)]
     funext y
     try dsimp only
     by_cases e : y = (n : Int)
     ·(try dsimp only); rw [if_pos e, e, hx]
     ·(try dsimp only); rw [if_neg e])
  have HMF := Aside0.mk (hmf.mono (fun k _ e => hSM k e))
  have HLOC7 := Aside0.mk (show ∀ k, (Value.slice (some ⟨g4, 0, none⟩) (us.length + 1) cap4).ownBlock = some k → M k ∨ w.heap.size ≤ k from fun k hk => (HLOC.out k hk).elim (fun e => .inl (H.out.mu k e)) (fun e => .inr (by omega)))
  have H7 := Aside0.mk h7
  clear hmf hSM hR hst7 hbhq hbx7 ho7 hv7 hul2 h7 hih7 hm7 hsz7 hs0q hm5 hms hst5 hbx5 hic5 hih5 ho5 k4 kn5 hm7'
  go_wp2
  go_ret
  refine ⟨_, rfl, H7.out.is, fun k hk => ?_, HMF.out.mono (fun k _ e => .inr (.inl e))⟩
  rcases hk with hk | (hk | hk) | (hk | hk)
  ·exact .inl (.inl hk)
  ·exact .inl (.inr (.inl hk))
  ·exact (HLOC7.out k hk).imp (fun h => .inr (.inl h)) id
  ·exact .inl (.inr (.inr hk))
  ·right
   rcases hk with rfl | rfl | rfl <;> omega
set_option maxHeartbeats 1000000 in
theorem sheld_calls {D : Nat → Prop} {s0 : Nat} {s : St} (n : Nat) (w : World) (h : StIs w D s0 s) (hn : n < s.now.length) :
  Calls Tryz.prog 70 #[.pointer (some ⟨s0, 0, none⟩), .int .i64 n] w fun e w' => e = .returned (.bool (s.held.getD n false)) ∧ w = w' := by
 obtain ⟨Dd, M, Mc, R, p0, L, m, room, ns, gs, cap, bc, bw, bh, uv, found, asked, fc, fh, us, h, rfl⟩ := h
 rw [h.view.1] at hn
 obtain ⟨hd0, hd1, hd2, hdp, hdl⟩ := h.disk.n
 have hdec : decide (0 ≤ (n : Int) ∧ (n : Int) < (L.length : Int)) = true := by simp; omega
 have hhas := shas_calls (x := (n : Int)) (h.st.cell 0 _ rfl) hd0
 rw [hdec] at hhas
 have k4 := h.st.cell 4 _ rfl
 have HI := Aside0.mk h.ih
 have i1 : n < 9223372036854775808 := by omega
 have hheld := h.held.2.2 n hn
 have HHAS := Aside0.mk hhas
 cases hg : s.held.getD n false
 ·rw [hg] at hheld
  have hlk : (Instr.lookup 99 (.map (some bh)) (.int .i64 n) false).run Tryz.prog w = .ok (.int .i64 0) w := by
   have := h.ih.look Tryz.underlying3 Tryz.underlying99 (zero_int w) i1
   rwa [show (fh n).getD (.int .i64 0) = .int .i64 0 by rw [hheld]; rfl] at this
  clear h hhas hheld hg hdec
  go_enter Tryz.func70, Tryz.ntmps70
  go_wp2_with (go_at_call 54; refine HHAS.out.mono ?_; rintro e w' ⟨rfl, rfl⟩)
  go_ret
  exact ⟨rfl, rfl⟩
 ·rw [hg] at hheld
  have hlk : (Instr.lookup 99 (.map (some bh)) (.int .i64 n) false).run Tryz.prog w = .ok (.int .i64 1) w := by
   have := h.ih.look Tryz.underlying3 Tryz.underlying99 (zero_int w) i1
   rwa [show (fh n).getD (.int .i64 0) = .int .i64 1 by rw [hheld]; rfl] at this
  clear h hhas hheld hg hdec
  go_enter Tryz.func70, Tryz.ntmps70
  go_wp2_with (go_at_call 54; refine HHAS.out.mono ?_; rintro e w' ⟨rfl, rfl⟩)
  go_ret
  exact ⟨rfl, rfl⟩
theorem smark_calls {D : Nat → Prop} {s0 : Nat} {s : St} (w : World) (h : StIs w D s0 s) :
  Calls Tryz.prog 132 #[.pointer (some ⟨s0, 0, none⟩)] w fun e w' => e = .returned (.int .i64 s.hist.length) ∧ w = w' := by
 obtain ⟨Dd, M, Mc, R, p0, L, m, room, ns, gs, cap, bc, bw, bh, uv, found, asked, fc, fh, us, h, rfl⟩ := h
 have k5 := h.st.cell 5 _ rfl
 have hul := Chain.len _ _ _ _ h.chain
 rw [List.length_reverse] at hul
 obtain ⟨A, c, rfl, _⟩ := own_shape h.und
 rw [← hul]
 clear h hul
 go_enter Tryz.func132, Tryz.ntmps132
 go_wp2
 go_ret
 exact ⟨rfl, rfl⟩
set_option maxHeartbeats 2000000 in
set_option maxRecDepth 100000 in
theorem write1_calls {s0 bc n : Nat} {ov : Option Value} {f : Int → Option Value} (bo bs bn : Nat) (w : World) (ho : w.cell? ⟨bo, 0, none⟩ = some (ov.getD (.slice none 0 0))) (hs : w.cell? ⟨bs, 0, none⟩ = some (.pointer (some ⟨s0, 0, none⟩))) (hn : w.cell? ⟨bn, 0, none⟩ = some (.int .i64 n))
  (h2 : w.cell? ⟨s0, 2, none⟩ = some (.map (some bc))) (hi : IM Tryz.prog 3 w bc 4096 f) (hl : n < 4096) (hov : ∀ v, ov = some v → ∃ g c, v = .slice (some ⟨g, 0, none⟩) 256 c) :
  Calls Tryz.prog 85 #[.pointer (some ⟨bo, 0, none⟩), .pointer (some ⟨bs, 0, none⟩), .pointer (some ⟨bn, 0, none⟩)] w fun e w' => e = .returned (.tuple #[]) ∧ IM Tryz.prog 3 w' bc 4096 (fun y => if y = (n : Int) then ov else f y) ∧ Mod w w' (· = bc) := by
 have HI := Aside0.mk hi
 cases ov with
 | none =>
  replace ho : w.cell? ⟨bo, 0, none⟩ = some (.slice none 0 0) := ho
  have hnil := nil_eql
  clear hi hov
  go_enter Tryz.func85, Tryz.ntmps85
  go_wp2
  refine wp_region_in [1, 0, 0, 1, 1, 3] [5] (fun w' => w'.cell? ⟨bs, 0, none⟩ = some (.pointer (some ⟨s0, 0, none⟩)) ∧ w'.cell? ⟨bn, 0, none⟩ = some (.int .i64 n) ∧ w'.cell? ⟨s0, 2, none⟩ = some (.map (some bc))) (by kernel_rfl) rfl (by kernel_rfl) (fun _ _ _ _ h => h) ⟨hs, hn, h2⟩ ?_
  iterate 5 (first
   | (refine in_off0 (by rfl) ?_; simp only [Act.put, stA, stZ, stS, i64_w, i32_w])
   | (refine in_off1 (by rfl) ?_; simp only [Act.put, stA, stZ, stS, i64_w, i32_w])
   | (refine in_0 (v := ?_) (by rfl) rfl ?_ (a' := ?_) ?_ ?_; rotate_left; (intro w'; go_simp; with_reducible rfl); rotate_left; (simp only [Act.put, stA, stZ, stS, i64_w, i32_w]; rfl))
   | (refine in_1 (v := ?_) (by rfl) rfl ?_ (a' := ?_) ?_ ?_; rotate_left; (rintro w' hs; go_split_ands; go_simp; with_reducible rfl); rotate_left; (simp only [Act.put, stA, stZ, stS, i64_w, i32_w]; rfl)))
  refine in_3 (by rfl) (fun K hK => ?_)
  refine wp_im_drop _ _ _ rfl Tryz.underlying3 Tryz.underlying98 rfl (HI.out.kept (w1 := w.drew) rfl) n (by omega) rfl ?_
  intro w2 hm2 hmod2 hsz2
  refine hK _ _ ?_
  clear hK K
  try simp only [Act.put, stA, stZ, stS, i64_w, i32_w]
  refine out_nil ?_
  go_wp2
  go_end0
  exact ⟨rfl, hm2, (Mod.refl w _).drew.trans hmod2 (fun _ _ e => e)⟩
 | some v =>
  obtain ⟨g, c, rfl⟩ := hov v rfl
  replace ho : w.cell? ⟨bo, 0, none⟩ = some (.slice (some ⟨g, 0, none⟩) 256 c) := ho
  have hnil := nonnil_eql ⟨g, 0, none⟩ 256 c
  clear hi hov
  go_enter Tryz.func85, Tryz.ntmps85
  go_wp2
  refine wp_region_in [1, 0, 0, 1, 1, 1, 3] [6] (fun w' => w'.cell? ⟨bs, 0, none⟩ = some (.pointer (some ⟨s0, 0, none⟩)) ∧ w'.cell? ⟨bn, 0, none⟩ = some (.int .i64 n) ∧ w'.cell? ⟨s0, 2, none⟩ = some (.map (some bc)) ∧ w'.cell? ⟨bo, 0, none⟩ = some (.slice (some ⟨g, 0, none⟩) 256 c)) (by kernel_rfl) rfl (by kernel_rfl) (fun _ _ _ _ h => h) ⟨hs, hn, h2, ho⟩ ?_
  iterate 6 (first
   | (refine in_off0 (by rfl) ?_; simp only [Act.put, stA, stZ, stS, i64_w, i32_w])
   | (refine in_off1 (by rfl) ?_; simp only [Act.put, stA, stZ, stS, i64_w, i32_w])
   | (refine in_0 (v := ?_) (by rfl) rfl ?_ (a' := ?_) ?_ ?_; rotate_left; (intro w'; go_simp; with_reducible rfl); rotate_left; (simp only [Act.put, stA, stZ, stS, i64_w, i32_w]; rfl))
   | (refine in_1 (v := ?_) (by rfl) rfl ?_ (a' := ?_) ?_ ?_; rotate_left; (rintro w' hs; go_split_ands; go_simp; with_reducible rfl); rotate_left; (simp only [Act.put, stA, stZ, stS, i64_w, i32_w]; rfl)))
  refine in_3 (by rfl) (fun K hK => ?_)
  refine wp_im_store _ _ _ _ rfl Tryz.underlying3 Tryz.underlying98 (by decide) rfl (HI.out.kept (w1 := w.drew) rfl) n hl rfl _ rfl ?_
  intro w2 hm2 hmod2 hsz2
  refine hK _ _ ?_
  clear hK K
  try simp only [Act.put, stA, stZ, stS, i64_w, i32_w]
  refine out_nil ?_
  go_wp2
  go_end0
  exact ⟨rfl, hm2, (Mod.refl w _).drew.trans hmod2 (fun _ _ e => e)⟩
set_option maxHeartbeats 2000000 in
theorem hold1_calls {bh n : Nat} {was : Int} {f : Int → Option Value} (bw bm bn : Nat) (w : World) (ho : w.cell? ⟨bw, 0, none⟩ = some (.int .i64 was)) (hs : w.cell? ⟨bm, 0, none⟩ = some (.map (some bh))) (hn : w.cell? ⟨bn, 0, none⟩ = some (.int .i64 n)) (hi : IM Tryz.prog 3 w bh 4096 f) (hl : n < 4096) (hw : was = 0 ∨ was = 1) :
  Calls Tryz.prog 170 #[.pointer (some ⟨bw, 0, none⟩), .pointer (some ⟨bm, 0, none⟩), .pointer (some ⟨bn, 0, none⟩)] w fun e w' => e = .returned (.tuple #[]) ∧ IM Tryz.prog 3 w' bh 4096 (if was = 0 then (fun y => if y = (n : Int) then none else f y) else f) ∧ Mod w w' (· = bh) := by
 have HI := Aside0.mk hi
 clear hi
 rcases hw with rfl | rfl
 ·go_enter Tryz.func170, Tryz.ntmps170
  go_wp2_with (at_delete; (refine im_drop _ rfl _ _ rfl Tryz.underlying3 Tryz.underlying99 rfl HI.out n (by omega) rfl ?_; intro w2 hm2 hmod2 hsz2; have HM2 := Aside0.mk hm2; have HMOD2 := Aside0.mk hmod2; clear hm2 hmod2))
  go_end0
  exact ⟨rfl, HM2.out, HMOD2.out⟩
 ·go_enter Tryz.func170, Tryz.ntmps170
  go_wp2
  go_end0
  exact ⟨rfl, HI.out, Mod.refl _ _⟩
theorem own_take1 {w : World} {base e g n c : Nat} {cs : List Value} (h : w.ownsRow base e 1 (.slice (some ⟨g, 0, none⟩) n c) n cs) (i : Nat) (hi : i ≤ n) : w.ownsRow base e 1 (.slice (some ⟨g, 0, none⟩) i c) i (cs.take i) := by
 have hl : cs.length = n * 1 := h.1
 refine ⟨by rw [List.length_take]; omega, ?_⟩
 rcases h.2 with ⟨h0, _⟩ | ⟨g', cap, cur, hv, hb, hh, h1, h2, h3, h4⟩
 ·cases h0
 ·cases hv
  refine .inr ⟨g, c, cur, rfl, hb, hh, by omega, h2, h3, ?_⟩
  have : cur.toList.take (i * 1) = (cur.toList.take (n * 1)).take (i * 1) := by rw [List.take_take, Nat.min_eq_left (by omega)]
  rw [this, h4, Nat.mul_one]
theorem St.back_step {s : St} {m : Nat} {a : List (List Int)} {b : List Bool} {h : List (List (List Int) × List Bool)} (hs : s.hist = (a, b) :: h) (hm : m ≤ h.length) : s.back m = St.back ⟨a, b, h⟩ m := by
 unfold St.back
 rw [hs, List.length_cons]
 dsimp only
 rw [show h.length + 1 - m = (h.length - m) + 1 by omega]
 rfl
theorem St.back_self (s : St) : s.back s.hist.length = s := by
 unfold St.back
 rw [Nat.sub_self]
 rfl
theorem enters_w1 : ∀ (args : Array Value) (w : World), (callFunc 85 args).run Tryz.prog w = .ok (.enter 85 args) w := enters_of Tryz.func85 (by kernel_rfl) rfl
theorem enters_h1 : ∀ (args : Array Value) (w : World), (callFunc 170 args).run Tryz.prog w = .ok (.enter 170 args) w := enters_of Tryz.func170 (by kernel_rfl) rfl
theorem StAt.same {w : World} {Dd M Mc R M' R' : Nat → Prop} {s0 p0 : Nat} {L : List (List Int)} {m room ns gs cap bc bw bh : Nat} {uv : Value} {found asked : Int} {fc fh : Int → Option Value} {us : List Value} {s : St}
  (h : StAt w Dd M' Mc R' s0 p0 L m room ns gs cap bc bw bh uv found asked fc fh us s) (hm : ∀ k, M' k ↔ M k) (hr : ∀ k, R' k ↔ R k) : StAt w Dd M Mc R s0 p0 L m room ns gs cap bc bw bh uv found asked fc fh us s := by
 rw [show M = M' from funext fun k => propext (hm k).symm, show R = R' from funext fun k => propext (hr k).symm]
 exact h
set_option maxHeartbeats 4000000 in
set_option maxRecDepth 100000 in
theorem sback_calls {D : Nat → Prop} {s0 : Nat} {s : St} (mark : Nat) (w : World) (h : StIs w D s0 s) (hm : mark ≤ s.hist.length) (hh : s.hist.length ≤ 1000000) :
  Calls Tryz.prog 138 #[.pointer (some ⟨s0, 0, none⟩), .int .i64 mark] w fun e w' => e = .returned (.int .i64 0) ∧ StIs w' D s0 (s.back mark) ∧ Mod w w' D := by
 obtain ⟨Dd, M, Mc, R, p0, L, m, room, ns, gs, cap, bc, bw, bh, uv, found, asked, fc, fh, us, h, rfl⟩ := h
 obtain ⟨hd0, hd1, hd2, hdp, hdl⟩ := h.disk.n
 have hul := Chain.len _ _ _ _ h.chain
 rw [List.length_reverse] at hul
 obtain ⟨A, c, huv, _⟩ := own_shape h.und
 subst huv
 have hsb := sblocks_calls (h.st.cell 0 _ rfl) hd0
 have HSB := Aside0.mk hsb
 have H := Aside0.mk h
 have k5 := h.st.cell 5 _ rfl
 have i1 : ((L.length : Int) == 0) = false := by rw [beq_eq_false_iff_ne]; omega
 have i2 : decide ((mark : Int) < 0) = false := by simp
 have i3 : ¬ (mark : Int) > (us.length : Int) := by omega
 have i3b : ¬ us.length < mark := by omega
 have HUL := Aside0.mk hul
 clear hsb h hul
 go_enter Tryz.func138, Tryz.ntmps138
 go_wp2_with (go_at_call 123; refine HSB.out.mono ?_; rintro e w' ⟨rfl, rfl⟩)
 go_loopg [5] (s.hist.length - mark) (fun g v wr => ∃ A' c' fc' fh' us' s', s'.hist.length = mark + g ∧ s'.hist.length ≤ 1000000 ∧ s'.back mark = s.back mark ∧ Aside0 (StAt wr Dd M Mc R s0 p0 L m room ns gs cap bc bw bh (.slice A' us'.length c') found asked fc' fh' us' s') ∧ Aside0 (Mod w wr M))
 case atStart => exact ⟨A, c, fc, fh, us, s, by omega, hh, rfl, H, ⟨Mod.refl _ _⟩⟩
 case round =>
  obtain ⟨A', c', fc', fh', us', s', hl', hlm, hbk, HR, HM⟩ := hrel
  have hul' := Chain.len _ _ _ _ HR.out.chain
  rw [List.length_reverse] at hul'
  have j5 := HR.out.st.cell 5 _ rfl
  cases gk with
  | zero =>
   have i4 : ¬ (us'.length : Int) > (mark : Int) := by omega
   have hfin : s' = s.back mark := by rw [← hbk, show mark = s'.hist.length by omega, St.back_self]
   have HFIN := Aside0.mk hfin
   clear hul' hbk hl' hfin
   go_wp2
   go_ret
   exact ⟨rfl, by rw [← HFIN.out]; exact HR.out.is, HM.out.mono (fun k _ e => .inr (.inl e))⟩
  | succ g =>
   have i4 : (us'.length : Int) > (mark : Int) := by omega
   obtain ⟨l, hl⟩ : ∃ l, us'.length = l + 1 := ⟨us'.length - 1, by omega⟩
   obtain ⟨u, hu⟩ : ∃ u, us'[l]? = some u := ⟨_, List.getElem?_eq_getElem (by omega)⟩
   have hsp : us' = us'.take l ++ [u] := by
    have h1 : us'.take (l + 1) = us'.take l ++ [u] := by rw [List.take_add_one, hu]; rfl
    rw [← h1, ← hl, List.take_length]
   obtain ⟨gb, hgb⟩ : ∃ gb, A' = some ⟨gb, 0, none⟩ := by
    rcases HR.out.und.2 with ⟨h0, h1⟩ | ⟨gb, cap, cur, h0, _⟩
    ·omega
    ·cases h0; exact ⟨gb, rfl⟩
   subst hgb
   obtain ⟨⟨a, b⟩, hist, hhist⟩ : ∃ x y, s'.hist = x :: y := by
    cases hh : s'.hist with
    | nil => rw [hh] at hl'; simp at hl'
    | cons x y => exact ⟨x, y, rfl⟩
   have hch := HR.out.chain
   rw [hsp, List.reverse_append, hhist] at hch
   obtain ⟨fc0, fh0, hun, hview, hheld, hch⟩ := hch
   have hcu : wr.cell? ⟨gb, l, none⟩ = some u := by
    have := HR.out.und.cells (g := gb) rfl l u hu
    rwa [add_plain] at this
   have hbkn := St.back_step (m := mark) hhist (by have := congrArg List.length hhist; rw [List.length_cons] at this; omega)
   have hhl : hist.length = mark + g := by have := congrArg List.length hhist; rw [List.length_cons] at this; omega
   rw [hbk] at hbkn
   have HLB := Aside0.mk (show hist.length ≤ 1000000 by omega)
   have hlb : l ≤ 1000000 := by omega
   have hcap : l ≤ c' := by
    obtain ⟨A2, c2, e2, hc2, _⟩ := own_shape HR.out.und
    cases e2
    omega
   have hcapi : (l : Int) ≤ (c' : Int) := by omega
   have i6 : (l : Int) < ((l + 1 : Nat) : Int) := by omega
   have HP := Aside0.mk (And.intro hview (And.intro hheld (And.intro hch (And.intro hbkn hhl))))
   have k2 := HR.out.st.cell 2 _ rfl
   have htk := own_take1 HR.out.und l (by omega)
   have HTK := Aside0.mk htk
   have htl : (us'.take l).length = l := by rw [List.length_take]; omega
   have HTL := Aside0.mk htl
   rw [hl] at j5 i4
   have HUNDO := Aside0.mk (show ∀ (w2 : World) (bx : Nat) (S : Nat → Prop), Mod wr w2 (· = bx) → (bx = bc ∨ bx = bh) → Strc w2 s0 103 [.pointer (some ⟨p0, 0, none⟩), .int .i64 room, .map (some bc), .map (some bw), .map (some bh), .slice (some ⟨gb, 0, none⟩) (l + 1) c', .slice (some ⟨gs, 0, none⟩) ns cap, .int .i64 found, .int .i64 asked] from fun w2 bx S hm hb => by
    rw [← hl]
    exact HR.out.st.mod hm (by rcases hb with rfl | rfl; exact fun e => HR.out.st.not_map HR.out.ic e.symm; exact fun e => HR.out.st.not_map HR.out.ih e.symm))
   have HL := Aside0.mk hl
   clear hview hheld hch hbkn hhl htk htl hhist hbk hsp hul' hl'
   rcases hun with ⟨bo, bs, bn, n, ov, rfl, hs1, hs2, hs3, r1, r2, r3, hn, hov, hfc0, rfl⟩ | ⟨bwa, bm, bn, n, was, rfl, hs1, hs2, hs3, r1, r2, r3, hn, rfl, hwas, hfh0⟩
   ·have HW1 := Aside0.mk (write1_calls (f := fc') bo bs bn wr (hs1.cell 0 _ rfl) (hs2.cell 0 _ rfl) (hs3.cell 0 _ rfl) k2 HR.out.ic (by omega) hov)
    have he1 := enters_w1
    clear hs1 hs2 hs3 hov
    go_wp2_with (go_at_call 85; (refine HW1.out.mono ?_; rintro e w2 ⟨rfl, hic2, hm2⟩; have HIC2 := Aside0.mk hic2; have HM2 := Aside0.mk hm2; have hst2 := HUNDO.out w2 bc (fun _ => False) hm2 (.inl rfl); have HST2 := Aside0.mk hst2; have m5 := hst2.cell 5 _ rfl; have f5 := hst2.free 5; have l5 := hst2.lt; clear hic2 hm2 hst2))
    have hmb : Mod wr w2 (· = bc) := HM2.out
    have hms : Mod w2 (w2.setCell ⟨s0, 5, none⟩ (.slice (some ⟨gb, 0, none⟩) l c')) (· = s0) := (Mod.refl _ _).set_own 5 _
    have hmf : Mod wr (w2.setCell ⟨s0, 5, none⟩ (.slice (some ⟨gb, 0, none⟩) l c')) (fun k => k = s0 ∨ k = bc ∨ k = bh ∨ (Value.slice (some ⟨gb, 0, none⟩) us'.length c').ownBlock = some k) := (hmb.mono (fun _ _ e => .inr (.inl e))).trans hms (fun _ _ e => .inl e)
    have hne1 : (103 : TypeId) ≠ 1 := by decide
    have hR : ∀ k, R k → ¬ (k = s0 ∨ k = bc ∨ k = bh ∨ (Value.slice (some ⟨gb, 0, none⟩) us'.length c').ownBlock = some k) := by
     rintro k hk (rfl | rfl | rfl | e)
     ·exact HR.out.sepR _ HR.out.ms0 hk
     ·exact HR.out.sepR _ HR.out.mbc hk
     ·exact HR.out.sepR _ HR.out.mbh hk
     ·exact HR.out.sepR _ (HR.out.mu k e) hk
    have hu2 := own_mod (own_mod HTK.out hmb (fun g hg e => by subst e; exact own_not_map HTK.out HR.out.ic hg)) hms (fun g hg e => by subst e; exact own_not_strc HTK.out HR.out.st hne1 hg)
    have hn7 := HR.out.change (r := fun _ => False) (s' := ⟨a, b, hist⟩) (us' := us'.take l) (fc' := fc0) (fh' := fh0) hmf (HST2.out.set 5 _) ((hfc0 ▸ HIC2.out.mod hms (HST2.out.not_map HIC2.out))) ((HR.out.ih.mod hmb (fun e => HR.out.n2 e.symm)).mod hms (HR.out.st.not_map HR.out.ih)) (by rw [HTL.out]; exact hu2) (fun g hg => .inl hg) (fun _ hk => hk.elim)
     ((HP.out.1.mod hmf hR).more (fun _ => .inl)) HP.out.2.1 (Chain.more (fun _ => .inl) _ _ _ _ (Chain.mod hmf hR _ _ _ _ HP.out.2.2.1))
    have hn8 := hn7.same (M := M) (R := R) (fun k => ⟨fun e => e.elim id (fun e => HR.out.mu k e), .inl⟩) (fun k => ⟨fun e => e.elim id (fun e => e.elim), .inl⟩)
    have H8 := Aside0.mk hn8
    have HMF := Aside0.mk (HM.out.trans hmf (fun k hk e => by
     rcases e with rfl | rfl | rfl | e
     ·exact HR.out.ms0
     ·exact HR.out.mbc
     ·exact HR.out.mbh
     ·exact HR.out.mu k e))
    clear hmb hms hmf hR hu2 hn7 hn8
    go_roundg g
    case measure => omega
    case rel => exact ⟨some ⟨gb, 0, none⟩, c', fc0, fh0, us'.take l, ⟨a, b, hist⟩, HP.out.2.2.2.2, HLB.out, HP.out.2.2.2.1.symm, ⟨by rw [HTL.out]; exact H8.out⟩, HMF⟩
   ·have HW1 := Aside0.mk (hold1_calls (f := fh') bwa bm bn wr (hs1.cell 0 _ rfl) (hs2.cell 0 _ rfl) (hs3.cell 0 _ rfl) HR.out.ih (by omega) hwas)
    have he1 := enters_h1
    clear hs1 hs2 hs3 hwas
    go_wp2_with (go_at_call 170; (refine HW1.out.mono ?_; rintro e w2 ⟨rfl, hih2, hm2⟩; have HIH2 := Aside0.mk hih2; have HM2 := Aside0.mk hm2; have hst2 := HUNDO.out w2 bh (fun _ => False) hm2 (.inr rfl); have HST2 := Aside0.mk hst2; have m5 := hst2.cell 5 _ rfl; have f5 := hst2.free 5; have l5 := hst2.lt; clear hih2 hm2 hst2))
    have hmb : Mod wr w2 (· = bh) := HM2.out
    have hms : Mod w2 (w2.setCell ⟨s0, 5, none⟩ (.slice (some ⟨gb, 0, none⟩) l c')) (· = s0) := (Mod.refl _ _).set_own 5 _
    have hmf : Mod wr (w2.setCell ⟨s0, 5, none⟩ (.slice (some ⟨gb, 0, none⟩) l c')) (fun k => k = s0 ∨ k = bc ∨ k = bh ∨ (Value.slice (some ⟨gb, 0, none⟩) us'.length c').ownBlock = some k) := (hmb.mono (fun _ _ e => .inr (.inr (.inl e)))).trans hms (fun _ _ e => .inl e)
    have hne1 : (103 : TypeId) ≠ 1 := by decide
    have hR : ∀ k, R k → ¬ (k = s0 ∨ k = bc ∨ k = bh ∨ (Value.slice (some ⟨gb, 0, none⟩) us'.length c').ownBlock = some k) := by
     rintro k hk (rfl | rfl | rfl | e)
     ·exact HR.out.sepR _ HR.out.ms0 hk
     ·exact HR.out.sepR _ HR.out.mbc hk
     ·exact HR.out.sepR _ HR.out.mbh hk
     ·exact HR.out.sepR _ (HR.out.mu k e) hk
    have hu2 := own_mod (own_mod HTK.out hmb (fun g hg e => by subst e; exact own_not_map HTK.out HR.out.ih hg)) hms (fun g hg e => by subst e; exact own_not_strc HTK.out HR.out.st hne1 hg)
    have hn7 := HR.out.change (r := fun _ => False) (s' := ⟨a, b, hist⟩) (us' := us'.take l) (fc' := fc0) (fh' := fh0) hmf (HST2.out.set 5 _) ((HR.out.ic.mod hmb (fun e => HR.out.n2 e)).mod hms (HR.out.st.not_map HR.out.ic)) ((hfh0 ▸ HIH2.out.mod hms (HST2.out.not_map HIH2.out))) (by rw [HTL.out]; exact hu2) (fun g hg => .inl hg) (fun _ hk => hk.elim)
     ((HP.out.1.mod hmf hR).more (fun _ => .inl)) HP.out.2.1 (Chain.more (fun _ => .inl) _ _ _ _ (Chain.mod hmf hR _ _ _ _ HP.out.2.2.1))
    have hn8 := hn7.same (M := M) (R := R) (fun k => ⟨fun e => e.elim id (fun e => HR.out.mu k e), .inl⟩) (fun k => ⟨fun e => e.elim id (fun e => e.elim), .inl⟩)
    have H8 := Aside0.mk hn8
    have HMF := Aside0.mk (HM.out.trans hmf (fun k hk e => by
     rcases e with rfl | rfl | rfl | e
     ·exact HR.out.ms0
     ·exact HR.out.mbc
     ·exact HR.out.mbh
     ·exact HR.out.mu k e))
    clear hmb hms hmf hR hu2 hn7 hn8
    go_roundg g
    case measure => omega
    case rel => exact ⟨some ⟨gb, 0, none⟩, c', fc0, fh0, us'.take l, ⟨a, b, hist⟩, HP.out.2.2.2.2, HLB.out, HP.out.2.2.2.1.symm, ⟨by rw [HTL.out]; exact H8.out⟩, HMF⟩
theorem infoSh : (Tryz.prog.info? 107).map (fun i => (i.zero, i.size, i.bytes)) = some (some (.agg #[.slice none 0 0, .map none]), 2, 32) := by kernel_rfl
structure Shs (w : World) (q k : Nat) (sv : Value) (cs : List Value) : Prop where
 row : w.ownsRow q 107 2 sv k cs
 sh : ∀ i, i < k → cs[2 * i]? = some (.slice none 0 0) ∧ ∃ mb, cs[2 * i + 1]? = some (.map (some mb)) ∧ q ≤ mb ∧ IM Tryz.prog 3 w mb 4096 (fun _ => none)
def new0 (L : List (List Int)) : St := ⟨L, List.replicate L.length false, []⟩
set_option maxHeartbeats 4000000 in
set_option maxRecDepth 100000 in
theorem snew_calls {Dd : Nat → Prop} {p m : Nat} {L : List (List Int)} (ns room : Nat) (w : World) (hd : DiskIs w Dd p L m) (hD : ∀ k, Dd k → k < w.heap.size) (h0 : 0 < ns) (h1 : ns ≤ 16) (hr0 : 1 ≤ room) (hr1 : room ≤ 256) :
  Calls Tryz.prog 47 #[.pointer (some ⟨p, 0, none⟩), .int .i64 ns, .int .i64 room] w fun e w' => ∃ s0, e = .returned (.tuple #[.pointer (some ⟨s0, 0, none⟩), .int .i64 0]) ∧ StIs w' (fun k => Dd k ∨ (w.heap.size ≤ k ∧ k < w'.heap.size)) s0 (new0 L) ∧ Below w.heap.size w w' := by
 have hmm := @run_makeMap Tryz.prog
 obtain ⟨hd0, hd1, hd2, hdp, hdl⟩ := hd.n
 have HDK := Aside0.mk hd
 obtain ⟨q, hq⟩ : ∃ q, w.heap.size = q := ⟨_, rfl⟩
 obtain ⟨W1, hW1⟩ : ∃ W1, (((w.alloc (.map #[] 0)).alloc (.map #[] 0)).alloc (.map #[] 0)).alloc (.cells #[.pointer (some ⟨p, 0, none⟩), .int .i64 room, .map (some q), .map (some (q + 1)), .map (some (q + 1 + 1)), .slice none 0 0, .slice none 0 0, .int .i64 0, .int .i64 0] 103) = W1 := ⟨_, rfl⟩
 have hm1 := IM.made (P := Tryz.prog) (kt := 3) (N := 4096) w
 have hm2 := IM.made (P := Tryz.prog) (kt := 3) (N := 4096) (w.alloc (.map #[] 0))
 have hm3 := IM.made (P := Tryz.prog) (kt := 3) (N := 4096) ((w.alloc (.map #[] 0)).alloc (.map #[] 0))
 simp only [World.size_alloc] at hm2 hm3
 rw [hq] at hm1 hm2 hm3
 have hi1 : IM Tryz.prog 3 W1 q 4096 (fun _ => none) := by rw [← hW1]; exact hm1.below (below_alloc (below_alloc (below_alloc (Below.refl _ _) _) _) _)
 have hi2 : IM Tryz.prog 3 W1 (q + 1) 4096 (fun _ => none) := by rw [← hW1]; exact hm2.below (below_alloc (below_alloc (Below.refl _ _) _) _)
 have hi3 : IM Tryz.prog 3 W1 (q + 1 + 1) 4096 (fun _ => none) := by rw [← hW1]; exact hm3.below (below_alloc (Below.refl _ _) _)
 have hst : Strc W1 (q + 1 + 1 + 1) 103 [.pointer (some ⟨p, 0, none⟩), .int .i64 room, .map (some q), .map (some (q + 1)), .map (some (q + 1 + 1)), .slice none 0 0, .slice none 0 0, .int .i64 0, .int .i64 0] := by
  rw [← hW1]
  exact alloc_at _ _ _ (by simp [hq])
 have hb1 : Below w.heap.size w W1 := by rw [← hW1]; exact below_alloc (below_alloc (below_alloc (below_alloc (Below.refl _ _) _) _) _) _
 have hsz1 : W1.heap.size = q + 1 + 1 + 1 + 1 := by rw [← hW1]; simp [hq]
 have HI := Aside0.mk (And.intro hi1 (And.intro hi2 hi3))
 have HST := Aside0.mk hst
 have HB1 := Aside0.mk hb1
 have i1 : ((L.length : Int) == 0) = false := by rw [beq_eq_false_iff_ne]; omega
 have i2 : ¬ (ns : Int) < 1 := by omega
 have i3 : ¬ (ns : Int) > 16 := by omega
 have i4 : ¬ (room : Int) < 1 := by omega
 have i5 : ¬ (room : Int) > 256 := by omega
 have i2' : ¬ ns < 1 := by omega
 have i3' : ¬ 16 < ns := by omega
 have i4' : ¬ room < 1 := by omega
 have i5' : ¬ 256 < room := by omega
 clear hm1 hm2 hm3 hi1 hi2 hi3 hst hb1
 go_enter Tryz.func47, Tryz.ntmps47
 go_wp2_with (go_at_call 102; refine (dblocks_calls hd0).mono ?_; rintro e w' ⟨rfl, rfl⟩)
 clear hW1 hmm
 have hmm := @run_makeMap Tryz.prog
 go_loopg [36] ns (fun g i wr => ∃ (k : Nat) (sv : Value) (cs : List Value), k + g = ns ∧ i = .int .i64 k ∧ Aside0 (Shs wr (q + 1 + 1 + 1 + 1) k sv cs) ∧ Aside0 (Below w.heap.size w wr) ∧
   Aside0 (Strc wr (q + 1 + 1 + 1) 103 [.pointer (some ⟨p, 0, none⟩), .int .i64 room, .map (some q), .map (some (q + 1)), .map (some (q + 1 + 1)), .slice none 0 0, sv, .int .i64 0, .int .i64 0]) ∧ Aside0 (IM Tryz.prog 3 wr q 4096 (fun _ => none) ∧ IM Tryz.prog 3 wr (q + 1) 4096 (fun _ => none) ∧ IM Tryz.prog 3 wr (q + 1 + 1) 4096 (fun _ => none)))
 case atStart => exact ⟨0, .slice none 0 0, [], by omega, rfl, ⟨⟨own_nil _ _ _ _, fun i hi => absurd hi (by omega)⟩⟩, HB1, HST, HI⟩
 case round =>
  obtain ⟨k, sv, cs, hk, rfl, HSH, HB, HS, HM⟩ := hrel
  have hl := HS.out.lt
  cases gk with
  | zero =>
   obtain rfl : k = ns := by omega
   go_wp2
   go_ret2
   refine ⟨q + 1 + 1 + 1, rfl, ?_, by have := HB.out; rw [hq] at this; exact this⟩
   obtain ⟨gs, cap, cur, rfl, hgb, hcur, hc1, hc2, hc3, hc4⟩ : ∃ g cap cur, sv = .slice (some ⟨g, 0, none⟩) k cap ∧ q + 1 + 1 + 1 + 1 ≤ g ∧ wr.heap[g]? = some (.cells cur 107 (0, 0)) ∧ k ≤ cap ∧ cap ≤ maxLen ∧ cur.size = cap * 2 ∧ cur.toList.take (k * 2) = cs := by
    rcases HSH.out.row.2 with ⟨_, hz⟩ | h
    ·omega
    ·exact h
   have hgl := lt_of_obj hcur
   have hget : ∀ j, j < k * 2 → cur.toList[j]? = cs[j]? := fun j hj => by rw [← hc4, List.getElem?_take, if_pos hj]
   refine ⟨Dd, fun j => q ≤ j ∧ j < wr.heap.size, fun j => (q + 1 + 1 + 1 < j ∧ j < wr.heap.size), fun _ => False, p, L, m, room, k, gs, cap, q, q + 1, q + 1 + 1, .slice none 0 0, 0, 0, fun _ => none, fun _ => none, [], ?_, ?_⟩
   ·refine ⟨HDK.out.below HB.out, HS.out, ⟨by omega, hl⟩, fun j hj => ⟨by omega, hj.2⟩, ⟨by omega, hgl⟩, by omega, by omega, by omega, by omega, by simp [Value.ownBlock], ⟨by omega, by omega⟩, ⟨by omega, by omega⟩, ⟨by omega, by omega⟩, by omega, by omega, by omega, HM.out.1, HM.out.2.1, HM.out.2.2, own_nil _ _ _ _, by simp [Value.ownBlock], ?_, hr0, hr1, h0, h1, ⟨rfl, ⟨fun y v hy => by simp at hy, fun _ _ => rfl⟩⟩, ?_, trivial, ?_, fun _ _ hk => hk, fun j hj => hj.2, fun _ hk => hk.elim, fun j hj => Nat.lt_of_lt_of_le (hD j hj) HB.out.size⟩
    ·refine ⟨cur.toList, by simpa [Strc] using hcur, by rw [Array.length_toList, hc3]; omega, fun i hi => ?_, fun i j hi hj hij g oi oj hoi _ ho => ?_⟩
     ·obtain ⟨e1, mb, e2, hmb, him⟩ := HSH.out.sh i hi
      exact ⟨.slice none 0 0, [], mb, fun _ => none, ⟨by rw [hget _ (by omega)]; exact e1, by rw [hget _ (by omega)]; exact e2, own_nil _ _ _ _, by simp, by simp, by simp [Value.ownBlock], ⟨by omega, him.lt⟩, id, him, fun x v hx => by simp at hx⟩⟩
     ·rw [hget _ (by omega), (HSH.out.sh i hi).1] at hoi
      cases hoi
      simp [Value.ownBlock] at ho
    ·exact ⟨by simp [new0], fun y v hy => by simp at hy, fun n hn => by simp [new0, List.getD_eq_getElem?_getD, hn]⟩
    ·rintro j ⟨hj, _⟩ hd'
     have := hD j hd'
     omega
   ·funext j
    exact propext ⟨fun h => h.elim .inl (fun h => .inr (.inl h)), fun h => h.elim .inl (fun h => h.elim .inr (fun h => h.elim))⟩
  | succ g =>
   obtain ⟨W2, hW2⟩ : ∃ W2, (wr.alloc (.map #[] 0)).alloc (.cells #[.slice none 0 0, .map (some wr.heap.size)] 107) = W2 := ⟨_, rfl⟩
   obtain ⟨A, c, rfl, _⟩ := own_shape HSH.out.row
   have j6 := HS.out.cell 6 _ rfl
   have hqr : q + 1 + 1 + 1 + 1 ≤ wr.heap.size := hl
   have hne1 : (103 : TypeId) ≠ 107 := by decide
   have HRa := Aside0.mk (fun o o' => own_mod HSH.out.row (Mod.of_below (below_alloc (below_alloc (Below.refl wr.heap.size wr) o) o') (fun _ => False)) (fun _ _ => id))
   have hma := IM.made (P := Tryz.prog) (kt := 3) (N := 4096) wr
   have HMA := Aside0.mk hma
   have HF := Aside0.mk (show ∀ (o' : Obj) (w4 : World), ((wr.alloc (.map #[] 0)).alloc o').grownBy w4 (Value.slice A k c).ownBlock →
     Strc w4 (q + 1 + 1 + 1) 103 [.pointer (some ⟨p, 0, none⟩), .int .i64 room, .map (some q), .map (some (q + 1)), .map (some (q + 1 + 1)), .slice none 0 0, .slice A k c, .int .i64 0, .int .i64 0] ∧ Below w.heap.size w w4 ∧ (∀ b f, IM Tryz.prog 3 wr b 4096 f → IM Tryz.prog 3 w4 b 4096 f) ∧ IM Tryz.prog 3 w4 wr.heap.size 4096 (fun _ => none) from fun o' w4 hg => by
    have hbb : Below wr.heap.size wr ((wr.alloc (.map #[] 0)).alloc o') := below_alloc (below_alloc (Below.refl _ _) _) _
    have hmg := mod_grown hg
    have hown := HRa.out (.map #[] 0) o'
    refine ⟨(HS.out.below hbb).mod hmg (own_not_strc hown (HS.out.below hbb) hne1), ?_, fun b f hi => (hi.below hbb).mod hmg (own_not_map hown (hi.below hbb)), (hma.below (below_alloc (Below.refl _ _) o')).mod hmg (own_not_map hown (hma.below (below_alloc (Below.refl _ _) o')))⟩
    exact ((Mod.of_below (below_then HB.out HB.out.size hbb) (fun _ => False)).trans hmg (fun j hj e => by have := own_base HSH.out.row j e; omega)).to_below (fun _ _ h => h))
   obtain ⟨z0, he, hz0, hz1, hz2⟩ := info_parts infoSh
   have i7 : (k : Int) < (ns : Int) := by omega
   clear hW2 hma
   go_wp2_with ((with_reducible refine gate_dst (N := 46) rfl ?_); (refine wpList_append_own_at _ rfl (.tmp 42) (.tmp 45) 101 rfl (q + 1 + 1 + 1 + 1) 107 z0 (.agg #[.slice none 0 0, .map none]) 2 32 Tryz.underlying101 he hz0 hz1 hz2 rfl (by decide) _ _ _ rfl (HRa.out _ _) ⟨wr.heap.size + 1, 0, none⟩ 1 1 [.slice none 0 0, .map (some wr.heap.size)] rfl ?c6 ?c1 ?c2 ?c3 ?c4 ?c5 ?_; (case c6 => rfl); (case c1 => (intro j u hj; rw [add_plain]; have hh := cell_alloc (wr.alloc (.map #[] 0)) #[.slice none 0 0, .map (some wr.heap.size)] 107 j u (by simpa using hj); rw [World.size_alloc] at hh; exact hh)); (case c2 => simp [Value.oneCell']); (case c3 => (simp only [maxLen]; omega)); (case c4 => omega); (case c5 => (simp only [World.size_alloc]; omega)); intro v4 w4 hown4 hgrow4 _ _; clear hz0 hz1 hz2 he; obtain ⟨g4, cap4, rfl⟩ := own_succ hown4; obtain ⟨hst4, hb4, him4, hnew4⟩ := HF.out _ _ hgrow4; have HST4 := Aside0.mk hst4; have HB4 := Aside0.mk hb4; have HIM4 := Aside0.mk him4; have HNEW4 := Aside0.mk hnew4; have HO4 := Aside0.mk hown4; have j46 := hst4.cell 6 _ rfl; have f46 := hst4.free 6; have l46 := hst4.lt; clear hown4 hgrow4 hst4 hb4 him4 hnew4))
   have hms : Mod w4 (w4.setCell ⟨q + 1 + 1 + 1, 6, none⟩ (.slice (some ⟨g4, 0, none⟩) (k + 1) cap4)) (· = q + 1 + 1 + 1) := (Mod.refl _ _).set_own 6 _
   have hkeep : ∀ b f, IM Tryz.prog 3 wr b 4096 f → IM Tryz.prog 3 (w4.setCell ⟨q + 1 + 1 + 1, 6, none⟩ (.slice (some ⟨g4, 0, none⟩) (k + 1) cap4)) b 4096 f := fun b f hi => (HIM4.out b f hi).mod hms (HST4.out.not_map (HIM4.out b f hi))
   have HKEEP := Aside0.mk hkeep
   have HN := Aside0.mk (HNEW4.out.mod hms (HST4.out.not_map HNEW4.out))
   have HSF := Aside0.mk (HST4.out.set 6 (.slice (some ⟨g4, 0, none⟩) (k + 1) cap4))
   have HOF := Aside0.mk (own_mod HO4.out hms (fun g hg e => by subst e; exact own_not_strc HO4.out HST4.out hne1 hg))
   have HBF := Aside0.mk (((Mod.of_below HB4.out (fun _ => False)).trans hms (fun j hj e => by omega)).to_below (fun _ _ h => h))
   clear hms hkeep
   go_roundg g
   case measure => omega
   case rel =>
    refine ⟨k + 1, .slice (some ⟨g4, 0, none⟩) (k + 1) cap4, cs ++ [.slice none 0 0, .map (some wr.heap.size)], by omega, by go_num, ⟨⟨HOF.out, fun i hi => ?_⟩⟩, HBF, HSF, ⟨HKEEP.out _ _ HM.out.1, HKEEP.out _ _ HM.out.2.1, HKEEP.out _ _ HM.out.2.2⟩⟩
    have hcl : cs.length = k * 2 := HSH.out.row.1
    by_cases e : i = k
    ·subst e
     refine ⟨by rw [List.getElem?_append_right (by omega), hcl, show 2 * i - i * 2 = 0 by omega]; rfl, wr.heap.size, by rw [List.getElem?_append_right (by omega), hcl, show 2 * i + 1 - i * 2 = 1 by omega]; rfl, by omega, HN.out⟩
    ·obtain ⟨e1, mb, e2, h1', h2'⟩ := HSH.out.sh i (by omega)
     exact ⟨by rw [List.getElem?_append_left (by omega)]; exact e1, mb, by rw [List.getElem?_append_left (by omega)]; exact e2, h1', HKEEP.out _ _ h2'⟩
def tzI (x : Nat) : Nat := Go.Lib.ctz 64 x
theorem word64 {x : Int} (h0 : 0 ≤ x) (h1 : x < 18446744073709551616) : IntKind.u64.wrap x = x := by
 simp only [IntKind.wrap, IntKind.bits, IntKind.signed]
 simp
 omega
theorem u64_and_nat (a b : Nat) (ha : a < 18446744073709551616) (hb : b < 18446744073709551616) : Go.bits .and .u64 (a : Int) (b : Int) = ((a &&& b : Nat) : Int) := by
 have hx : a &&& b < 18446744073709551616 := Nat.lt_of_le_of_lt Nat.and_le_left ha
 have ho : ∀ a : Nat, a < 18446744073709551616 → (BitVec.ofInt 64 (a : Int)).toNat = a := fun a ha => by
  rw [BitVec.ofInt_natCast, BitVec.toNat_ofNat]; exact Nat.mod_eq_of_lt ha
 show IntKind.u64.wrap ((BitVec.ofInt 64 (a : Int) &&& BitVec.ofInt 64 (b : Int)).toNat : Int) = _
 rw [BitVec.toNat_and, ho a ha, ho b hb]
 exact word64 (by omega) (by omega)
theorem tz_facts (x : Nat) (h0 : 0 < x) (h1 : x < 18446744073709551616) : ∃ j : Nat, (IntKind.u64.wrap (Go.bits .and .u64 (x : Int) (IntKind.u64.wrap (-(x : Int))) * 285870213051353865) / 288230376151711744) = (j : Int) ∧ j < 64 ∧ Go.Lib.deBruijn64tab.getD j 0 = tzI x ∧ tzI x < 64 := by
 have e1 : IntKind.u64.wrap (-(x : Int)) = ((18446744073709551616 - x : Nat) : Int) := by
  simp only [IntKind.wrap, IntKind.bits, IntKind.signed]
  simp
  omega
 obtain ⟨h2, h3⟩ := Go.Lib.lowest_bit 64 x (by omega) h1
 obtain ⟨h4, h5⟩ := Go.Lib.deBruijn64_at _ h3
 refine ⟨2 ^ Go.Lib.ctz 64 x * 285870213051353865 % 18446744073709551616 / 288230376151711744, ?_, h4, h5, h3⟩
 rw [e1, u64_and_nat _ _ h1 (by omega), show (18446744073709551616 : Nat) = 2 ^ 64 from rfl, h2]
 generalize 2 ^ Go.Lib.ctz 64 x = m
 simp only [IntKind.wrap, IntKind.bits, IntKind.signed]
 simp
def Tab (w : World) : Prop := ∀ i, i < 64 → w.cell? ⟨2, i, none⟩ = some (.int .u8 (Go.Lib.deBruijn64tab.getD i 0 : Nat))
theorem Tab.mod {w w1 : World} {S : Nat → Prop} (h : Tab w) (hm : Mod w w1 S) (hn : ¬ S 2) : Tab w1 := fun i hi => hm.cell (h i hi) hn
theorem Tab.below {w w1 : World} (h : Tab w) (hm : Below w.heap.size w w1) : Tab w1 := fun i hi => pw_cell_below hm (h i hi)
set_option maxHeartbeats 1000000 in
theorem tz64_calls (x : Nat) (w : World) (h0 : 0 < x) (h1 : x < 4096) (hT : Tab w) : Calls Tryz.prog 195 #[.int .u64 x] w fun e w' => e = .returned (.int .i64 (tzI x)) ∧ w = w' := by
 have hx : ((x : Int) == 0) = false := by rw [beq_eq_false_iff_ne]; omega
 obtain ⟨j, e1, l1, e2, l2⟩ := tz_facts x h0 (by omega)
 have hc := hT j l1
 rw [e2] at hc
 obtain ⟨z, hz⟩ : ∃ z, tzI x = z := ⟨_, rfl⟩
 rw [hz] at hc l2 ⊢
 have i1 : (j : Int) < 64 := by omega
 clear hz e2
 go_enter Tryz.func195, Tryz.ntmps195
 go_wp2
 go_ret
 exact ⟨rfl, rfl⟩
set_option maxHeartbeats 1000000 in
theorem tz_calls (x : Nat) (w : World) (h0 : 0 < x) (h1 : x < 4096) (hT : Tab w) : Calls Tryz.prog 188 #[.int .u64 x] w fun e w' => e = .returned (.int .i64 (tzI x)) ∧ w = w' := by
 go_enter Tryz.func188, Tryz.ntmps188
 go_wp2_with (go_at_call 195; refine (tz64_calls x w h0 h1 hT).mono ?_; rintro e w' ⟨rfl, rfl⟩)
 go_ret
 exact ⟨rfl, rfl⟩
def putL (t : List Int) (at_ : Int) (k : Nat) : List Int := (if t.getD (11 + k) 0 = 0 then t.set k at_ else t).set (11 + k) (t.getD (11 + k) 0 + 1)
theorem nums_set {k : IntKind} {t : List Int} {i : Nat} {x : Int} : (nums k t).set i (.int k x) = nums k (t.set i x) := by
 simp [nums, List.map_set]
def CB (t : List Int) (m : Nat) : Prop := t.length = 22 ∧ ∀ x ∈ t, 0 ≤ x ∧ x ≤ (m : Int)
theorem CB.get {t : List Int} {m : Nat} (h : CB t m) (i : Nat) : 0 ≤ t.getD i 0 ∧ t.getD i 0 ≤ (m : Int) := by
 rw [List.getD_eq_getElem?_getD]
 by_cases hi : i < t.length
 ·rw [List.getElem?_eq_getElem hi]; exact h.2 _ (List.getElem_mem hi)
 ·rw [List.getElem?_eq_none (by omega)]; simp
theorem CB.put {t : List Int} {m k : Nat} (h : CB t m) (d : Nat) (hd : 1 ≤ d) : CB (putL t (m : Int) k) (m + d) := by
 have hk := h.get (11 + k)
 refine ⟨?_, fun x hx => ?_⟩
 ·unfold putL
  split <;> simp [h.1]
 ·unfold putL at hx
  have h2 : ∀ x ∈ t, 0 ≤ x ∧ x ≤ ((m + d : Nat) : Int) := fun x hx => by have := h.2 x hx; omega
  rcases List.mem_or_eq_of_mem_set hx with hx | hx
  ·split at hx
   ·rcases List.mem_or_eq_of_mem_set hx with hx | hx
    ·exact h2 x hx
    ·omega
   ·exact h2 x hx
  ·omega
set_option maxHeartbeats 1000000 in
set_option maxRecDepth 100000 in
theorem put_calls (tb : Nat) (t : List Int) (a k : Nat) (w : World) (h : Strc w tb 199 (nums .i64 t)) {m : Nat} (hc : CB t m) (hm : m ≤ 1000000) (hk : k ≤ 10) (ha : a ≤ 1000000) :
  Calls Tryz.prog 189 #[.pointer (some ⟨tb, 0, none⟩), .int .i64 a, .int .i64 k] w fun e w' => e = .returned (.tuple #[]) ∧ Strc w' tb 199 (nums .i64 (putL t a k)) ∧ Mod w w' (fun g => g = tb) := by
 have hb := hc.get (11 + k)
 have c1 := h.cell (11 + k) _ (nums_at _ _ _ (by rw [hc.1]; omega))
 have c2 := h.cell k _ (nums_at _ _ _ (by rw [hc.1]; omega))
 have f1 := h.free (11 + k)
 have f2 := h.free k
 have hlt := h.lt
 have hp : putL t a k = (if t.getD (11 + k) 0 = 0 then t.set k (a : Int) else t).set (11 + k) (t.getD (11 + k) 0 + 1) := rfl
 obtain ⟨x, hx⟩ : ∃ x, t.getD (11 + k) 0 = x := ⟨_, rfl⟩
 obtain ⟨y, hy⟩ : ∃ y, t.getD k 0 = y := ⟨_, rfl⟩
 rw [hx] at hb c1 hp
 rw [hy] at c2
 have HW := Aside0.mk (show wrap64 (x + 1) = x + 1 by unfold wrap64; omega)
 have HS := Aside0.mk h
 have HP := Aside0.mk hp
 have HC9 := Aside0.mk (show (nums .i64 t)[11 + k]? = some (.int .i64 x) by rw [← hx]; exact nums_at _ _ _ (by rw [hc.1]; omega))
 clear hc hp hx hy h
 have hne : 11 + k ≠ k := by omega
 have i1 : k < 11 := by omega
 have i2 : (k : Int) < 11 := by omega
 by_cases hx0 : x = 0
 ·have hs1 := HS.out.set k (.int .i64 a)
  rw [nums_set] at hs1
  have c3 := hs1.cell (11 + k) (.int .i64 x) (by rw [← nums_set, List.getElem?_set_ne (by omega)]; exact HC9.out)
  have f3 := hs1.free (11 + k)
  have hs2 := hs1.set (11 + k) (.int .i64 (x + 1))
  rw [nums_set] at hs2
  rw [if_pos hx0] at HP
  have HS2 := Aside0.mk (And.intro hs2 (((Mod.refl w (fun g => g = tb)).set_own k (.int .i64 a)).set_own (11 + k) (.int .i64 (x + 1))))
  have hxb : (x == 0) = true := by simpa using hx0
  clear hs1 hs2 hx0
  go_enter Tryz.func189, Tryz.ntmps189
  go_wp2
  refine wp_region_in [0, 0, 0, 0, 0, 1, 0, 0, 0, 0, 3] [10] (fun w' => w'.cell? ⟨tb, 11 + k, none⟩ = some (.int .i64 x) ∧ w'.frozen? ⟨tb, 11 + k, none⟩ = false) (by kernel_rfl) rfl (by kernel_rfl) (fun _ _ _ _ h => h) ⟨c3, f3⟩ ?_
  iterate 10 (first
   | (refine in_off0 (by rfl) ?_; simp only [Act.put, stA, stZ, stS, i64_w, i32_w])
   | (refine in_off1 (by rfl) ?_; simp only [Act.put, stA, stZ, stS, i64_w, i32_w])
   | (refine in_0 (v := ?_) (by rfl) rfl ?_ (a' := ?_) ?_ ?_; rotate_left; (intro w'; go_simp; with_reducible rfl); rotate_left; (simp only [Act.put, stA, stZ, stS, i64_w, i32_w]; rfl))
   | (refine in_1 (v := ?_) (by rfl) rfl ?_ (a' := ?_) ?_ ?_; rotate_left; (rintro w' hs; go_split_ands; go_simp; with_reducible rfl); rotate_left; (simp only [Act.put, stA, stZ, stS, i64_w, i32_w]; rfl)))
  refine in_3 (by rfl) (fun K hK => ?_)
  go_simp
  refine hK _ _ ?_
  clear hK K
  try simp only [Act.put, stA, stZ, stS, i64_w, i32_w]
  refine out_nil ?_
  go_wp2
  go_end0
  rw [HP.out, HW.out]
  exact ⟨rfl, HS2.out.1, HS2.out.2.drew⟩
 ·have hs2 := HS.out.set (11 + k) (.int .i64 (x + 1))
  rw [nums_set] at hs2
  rw [if_neg hx0] at HP
  have HS2 := Aside0.mk (And.intro hs2 ((Mod.refl w (fun g => g = tb)).set_own (11 + k) (.int .i64 (x + 1))))
  clear hs2
  go_enter Tryz.func189, Tryz.ntmps189
  go_wp2
  refine wp_region_in [0, 0, 0, 0, 0, 1, 0, 0, 0, 0, 3] [10] (fun w' => w'.cell? ⟨tb, 11 + k, none⟩ = some (.int .i64 x) ∧ w'.frozen? ⟨tb, 11 + k, none⟩ = false) (by kernel_rfl) rfl (by kernel_rfl) (fun _ _ _ _ h => h) ⟨c1, f1⟩ ?_
  iterate 10 (first
   | (refine in_off0 (by rfl) ?_; simp only [Act.put, stA, stZ, stS, i64_w, i32_w])
   | (refine in_off1 (by rfl) ?_; simp only [Act.put, stA, stZ, stS, i64_w, i32_w])
   | (refine in_0 (v := ?_) (by rfl) rfl ?_ (a' := ?_) ?_ ?_; rotate_left; (intro w'; go_simp; with_reducible rfl); rotate_left; (simp only [Act.put, stA, stZ, stS, i64_w, i32_w]; rfl))
   | (refine in_1 (v := ?_) (by rfl) rfl ?_ (a' := ?_) ?_ ?_; rotate_left; (rintro w' hs; go_split_ands; go_simp; with_reducible rfl); rotate_left; (simp only [Act.put, stA, stZ, stS, i64_w, i32_w]; rfl)))
  refine in_3 (by rfl) (fun K hK => ?_)
  go_simp
  refine hK _ _ ?_
  clear hK K
  try simp only [Act.put, stA, stZ, stS, i64_w, i32_w]
  refine out_nil ?_
  go_wp2
  go_end0
  rw [HP.out, HW.out]
  exact ⟨rfl, HS2.out.1, HS2.out.2.drew⟩
end Go.Proofs.YtkmhilhfmfmckaaGreatDoor.Hand
