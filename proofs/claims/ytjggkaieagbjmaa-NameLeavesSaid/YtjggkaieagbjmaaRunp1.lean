/- The document's reading of a block of entries, walked: what it reads is what the program reads. -/
import Derived.Test.YtjggkaieagbjmaaRpack1
import Derived.Test.YtjggkaieagbjmaaSame
namespace Go.Proofs.Ytjggkaieagbjmaa.Hand
set_option linter.unusedVariables false
set_option linter.unusedSimpArgs false
open Go.Shelf Go.RowKit Go.Proofs.YtjggkaieagbjmaaW.PrintWords Go.Proofs.YtjggkaieagbjmaaW.PrintLast Go.Proofs.YtjggkaieagbjmaaW.PrintMore

/-- A row of the document's entries that a call owns. -/
def OwnR (w : World) (base : Nat) (v : Value) (l : List Ent) : Prop := w.ownsRow base 59 3 v l.length (l.flatMap ecells)
theorem OwnR.reads {w : World} {base : Nat} {v : Value} {l : List Ent} (h : OwnR w base v l) (hs : l.length ≤ 1125899906842624) : ∃ A c, v = .slice A l.length c ∧ l.length ≤ c ∧ Ents w A l := by
  have h0 := h
  rcases h.2 with ⟨rfl, hz⟩ | ⟨g, cap, cur, rfl, hb, hh, h1, h2, h3, h4⟩
  · obtain rfl : l = [] := List.eq_nil_of_length_eq_zero hz
    exact ⟨none, 0, rfl, by simp, ⟨by simp, fun j hj => absurd hj (by simp)⟩⟩
  · refine ⟨_, cap, rfl, h1, hs, fun j hj => ⟨_, rfl, ?_, ?_, ?_⟩⟩
    all_goals rw [add_plain]
    · have := h0.cells (g := g) rfl (j * 3 + 0) (.int .i64 (entAt l j).ino) (by rw [ecells_at l j hj 0 (by omega)]; rfl)
      rw [add_plain] at this
      exact this
    · have := h0.cells (g := g) rfl (j * 3 + 1) (.int .i64 (entAt l j).kind) (by rw [ecells_at l j hj 1 (by omega)]; rfl)
      rw [add_plain] at this
      exact this
    · have := h0.cells (g := g) rfl (j * 3 + 2) (.string (entAt l j).name) (by rw [ecells_at l j hj 2 (by omega)]; rfl)
      rw [add_plain] at this
      exact this
theorem ownR_snoc {w : World} {base : Nat} {v : Value} {l : List Ent} {x : Ent} {news : List Value} (h : w.ownsRow base 59 3 v (l.length + 1) (l.flatMap ecells ++ news)) (hn : news = ecells x) : OwnR w base v (l ++ [x]) := by
  unfold OwnR
  rw [List.length_append, List.flatMap_append, show [x].length = 1 from rfl, show [x].flatMap ecells = ecells x by simp, ← hn]
  exact h
theorem OwnR.below {w w1 : World} {base : Nat} {v : Value} {l : List Ent} (h : OwnR w base v l) (hb : Below w.heap.size w w1) : OwnR w1 base v l := pw_own_below h hb

/-- What the document's UnpackLeaf leaves. -/
def RunpPost (l : List Int) (s : Int) (w : World) (e : Ending) (w' : World) : Prop :=
  ∃ v, e = .returned (.tuple #[v, .int .i64 (unpackI l s).2]) ∧ OwnR w' w.heap.size v (unpackI l s).1 ∧ Below w.heap.size w w'
theorem runpPost_bad {l : List Int} {s : Int} {w w' : World} {e : Ending} (hp : unpackI l s = ([], 117)) (he : e = .returned (.tuple #[.slice none 0 0, .int .i64 117])) (hb : Below w.heap.size w w') : RunpPost l s w e w' :=
  ⟨.slice none 0 0, by rw [hp]; exact he, by rw [hp]; exact own_nil _ _ _ _, hb⟩
/-- Where the rounds stand. -/
structure Rnp (w wr : World) (m k g a : Nat) (l : List Int) (v : Value) (out : List Ent) : Prop where
  own : OwnR wr w.heap.size v out
  cnt : out.length = k
  below : Below w.heap.size w wr
  eq : readI m ((l.drop 2).take 250) [] = readI g ((l.drop a).take (252 - a)) out
theorem lay_pre (l : List Int) (off : Nat) (x : Int) (k j : Nat) (h : j < off) : (layL l off x k).getD j 0 = l.getD j 0 := by
  induction k with
  | zero => rfl
  | succ k ih =>
    show ((layL l off x k).set (off + k) (leB x k)).getD j 0 = _
    rw [← ih]
    simp only [List.getD_eq_getElem?_getD]
    rw [List.getElem?_set_ne (by omega)]
theorem pack_count {l : List Ent} {s : Int} (h : (packI l s).2 = 0) : (packI l s).1.getD 1 0 = (l.length : Int) % 256 := by
  unfold packI at h ⊢
  split
  · split
    · rename_i h1 h2; rw [if_pos h1, if_pos h2] at h; cases h
    · unfold sealL
      rw [lay_pre _ _ _ _ _ (by unfold pad packB; simp only [List.length_append, List.length_replicate, List.length_cons, List.length_nil]; omega)]
      rfl
  · rename_i h1; rw [if_neg h1] at h; cases h
theorem slice_at (l : List Int) (a n j : Nat) (hj : j < n) : ((l.drop a).take n).getD j 0 = l.getD (a + j) 0 := by
  simp [List.getD_eq_getElem?_getD, List.getElem?_take, List.getElem?_drop, hj]
theorem slice_part (l : List Int) (a n i m : Nat) (h : i + m ≤ n) : ((((l.drop a).take n).drop i).take m) = (l.drop (a + i)).take m := by
  rw [List.drop_take, List.take_take, List.drop_drop, Nat.min_eq_left (by omega)]
theorem slice_rest (l : List Int) (a n i : Nat) : (((l.drop a).take n).drop i) = (l.drop (a + i)).take (n - i) := by
  rw [List.drop_take, List.drop_drop]
theorem w64 {x : Int} {n : Nat} (h : x = n) (hn : n < 1000000) : wrap64 x = n := by subst h; unfold wrap64; omega
theorem infoREnt' : (Try.prog.info? 59).map (fun i => (i.zero, i.size, i.bytes)) = some (some (.agg #[.int .i64 0, .int .i64 0, .string ⟨#[]⟩]), 3, 32) := by kernel_rfl

set_option maxHeartbeats 16000000 in
set_option maxRecDepth 100000 in
theorem runpack_calls (A : Option Addr) (c : Nat) (s : Int) (l : List Int) (w : World) (hl : Kd.C (Kd.int .u8) w A l.length l) (hc : l.length ≤ c) (hs0 : 0 ≤ s) (hs1 : s < 4294967296) (hb : allB l) :
    Calls Try.prog 20 #[.slice A l.length c, .int .u32 s] w (RunpPost l s w) := by
  by_cases h256 : l.length = 256
  · have HL := Aside0.mk hl
    have hub : unpackI l s = match readI (l.getD 1 0).toNat ((l.drop 2).take 250) [] with | none => ([], 117) | some out => if (packI out s).2 = 0 ∧ (packI out s).1 = l then (out, 0) else ([], 117) := by unfold unpackI; rw [if_neg (fun h => h h256)]; rfl
    obtain ⟨ad, rfl, hx1⟩ := C_int_at hl 1 (by omega)
    obtain ⟨hm0, hm1⟩ := allB_get hb 1
    have HB := Aside0.mk hb
    obtain ⟨m, hm⟩ : ∃ m : Nat, l.getD 1 0 = m := ⟨(l.getD 1 0).toNat, by omega⟩
    rw [hm] at hx1 hm1
    have HX1 := Aside0.mk (fun (W : World) (hW : Below w.heap.size w W) => show W.cell? ⟨ad.block, ad.off + 1, none⟩ = some (.int .u8 m) from pw_cell_below hW hx1)
    have HM := Aside0.mk hm
    have hmm : (l.getD 1 0).toNat = m := by rw [hm]; exact Int.toNat_natCast m
    rw [hmm] at hub
    have HBAD := Aside0.mk (fun (h : readI m ((l.drop 2).take 250) [] = none) => show unpackI l s = ([], 117) by rw [hub, h])
    have HGOOD := Aside0.mk (fun out (h : readI m ((l.drop 2).take 250) [] = some out) => show unpackI l s = if (packI out s).2 = 0 ∧ (packI out s).1 = l then (out, 0) else ([], 117) by rw [hub, h])
    have HL2 := Aside0.mk h256
    have HGET := Aside0.mk (fun (a : Nat) (W : World) (hW : Below w.heap.size w W) (ha : a + 2 ≤ 256) => rget_calls (some ad) c a 2 W l (Kd.C_below hl hW) (by omega) (by omega) (by omega) hb)
    rw [h256] at hc HGET ⊢
    clear hl hub hb hm hm0 h256 hmm hx1
    go_enter Try.func20, Try.ntmps20
    go_wp2
    go_loopg [6, 7, 8] m (fun g v va i wr => ∃ (k a : Nat) (out : List Ent), k + g = m ∧ 2 ≤ a ∧ a ≤ 252 ∧ va = .int .i64 a ∧ i = .int .i64 k ∧ Aside0 (Rnp w wr m k g a l v out))
    case atStart => exact ⟨0, 2, [], by omega, by omega, by omega, rfl, rfl, ⟨⟨own_nil _ _ _ _, rfl, Below.refl _ _, rfl⟩⟩⟩
    case round =>
      obtain ⟨k, a, out, hk, ha2, ha252, rfl, rfl, HU⟩ := hrel
      have hx1 := HX1.out wr HU.out.below
      cases gk with
      | zero =>
        obtain rfl : k = m := by omega
        have hg := HGOOD.out out HU.out.eq
        have HE0 := HU.out.own.reads (by rw [HU.out.cnt]; omega)
        obtain ⟨A', c', rfl, hc', hE⟩ := HE0
        have HE := Aside0.mk hE
        have HG := Aside0.mk hg
        clear hE hg
        have hlen := HL2.out
        obtain ⟨p, hp⟩ : ∃ p, packI out s = p := ⟨_, rfl⟩
        have hpk := rpack_calls A' c' s out wr HE.out hs0 hs1
        unfold PackPost at hpk
        have hap := allB_pack out s
        rw [hp] at hpk hap HG
        have HAP := Aside0.mk hap
        obtain ⟨p1, p2⟩ := p
        dsimp only at hpk HG HAP
        have HPK := Aside0.mk hpk
        clear hpk hap hp hlen
        by_cases hp0 : p2 = 0
        · subst hp0
          go_wp2_with fail
          refine HPK.out.mono ?_
          rintro e w1 ⟨v1, rfl, hR1, hb1⟩
          obtain ⟨A1, c1, rfl, hc1, hC1⟩ := (Own.of_R hR1).reads
          have HC1 := Aside0.mk hC1
          have HB1 := Aside0.mk (below_then HU.out.below HU.out.below.size hb1)
          have HO1 := Aside0.mk (HU.out.own.below hb1)
          have heq := same_calls (some ad) A1 c c1 l p1 w1 (Kd.C_below HL.out HB1.out) hC1
          rw [HL2.out] at heq
          have HEQ := Aside0.mk heq
          clear heq hC1 hR1 hb1
          dsimp only
          go_wp2_with fail
          refine HEQ.out.mono ?_
          rintro e w2 ⟨rfl, hb2⟩
          have HB2 := Aside0.mk (below_then HB1.out HB1.out.size hb2)
          have HO2 := Aside0.mk (HO1.out.below hb2)
          obtain ⟨b, hb⟩ : ∃ b, (l == p1) = b := ⟨_, rfl⟩
          rw [hb]
          have HBB := Aside0.mk hb
          clear hb hb2
          dsimp only
          cases b
          · go_wp2
            go_ret2
            have hne : ¬ (p1 = l) := by rintro rfl; have := HBB.out; simp at this
            exact runpPost_bad (by rw [HG.out]; exact if_neg (fun h => hne h.2)) rfl HB2.out
          · go_wp2
            go_ret2
            have he : p1 = l := by have := HBB.out; simp at this; exact this.symm
            have hg : unpackI l s = (out, 0) := by rw [HG.out]; exact if_pos ⟨trivial, he⟩
            exact ⟨.slice A' out.length c', by rw [hg]; rfl, by rw [hg]; exact HO2.out, HB2.out⟩
        · go_wp2_with fail
          refine HPK.out.mono ?_
          rintro e w1 ⟨v1, rfl, hR1, hb1⟩
          have HB1 := Aside0.mk (below_then HU.out.below HU.out.below.size hb1)
          clear hR1 hb1
          dsimp only
          go_wp2
          go_ret2
          exact runpPost_bad (by rw [HG.out]; exact if_neg (fun h => hp0 h.1)) rfl HB1.out
      | succ g =>
        by_cases h4 : 252 < a + 4
        · have hkm : k < m := by omega
          have hg : unpackI l s = if (packI out s).2 = 0 ∧ (packI out s).1 = l then (out, 0) else ([], 117) := by
            rw [HBAD.out (HU.out.eq.trans (by rw [readI, if_pos (.inl (by rw [List.length_take, List.length_drop, HL2.out]; omega))])), if_neg]
            rintro ⟨h1, h2⟩
            have := pack_count h1
            rw [h2, HM.out, HU.out.cnt] at this
            omega
          have HE0 := HU.out.own.reads (by rw [HU.out.cnt]; omega)
          obtain ⟨A', c', rfl, hc', hE⟩ := HE0
          have HE := Aside0.mk hE
          have HG := Aside0.mk hg
          clear hE hg
          have hlen := HL2.out
          obtain ⟨p, hp⟩ : ∃ p, packI out s = p := ⟨_, rfl⟩
          have hpk := rpack_calls A' c' s out wr HE.out hs0 hs1
          unfold PackPost at hpk
          have hap := allB_pack out s
          rw [hp] at hpk hap HG
          have HAP := Aside0.mk hap
          obtain ⟨p1, p2⟩ := p
          dsimp only at hpk HG HAP
          have HPK := Aside0.mk hpk
          clear hpk hap hp hlen
          by_cases hp0 : p2 = 0
          · subst hp0
            go_wp2_with fail
            refine HPK.out.mono ?_
            rintro e w1 ⟨v1, rfl, hR1, hb1⟩
            obtain ⟨A1, c1, rfl, hc1, hC1⟩ := (Own.of_R hR1).reads
            have HC1 := Aside0.mk hC1
            have HB1 := Aside0.mk (below_then HU.out.below HU.out.below.size hb1)
            have HO1 := Aside0.mk (HU.out.own.below hb1)
            have heq := same_calls (some ad) A1 c c1 l p1 w1 (Kd.C_below HL.out HB1.out) hC1
            rw [HL2.out] at heq
            have HEQ := Aside0.mk heq
            clear heq hC1 hR1 hb1
            dsimp only
            go_wp2_with fail
            refine HEQ.out.mono ?_
            rintro e w2 ⟨rfl, hb2⟩
            have HB2 := Aside0.mk (below_then HB1.out HB1.out.size hb2)
            have HO2 := Aside0.mk (HO1.out.below hb2)
            obtain ⟨b, hb⟩ : ∃ b, (l == p1) = b := ⟨_, rfl⟩
            rw [hb]
            have HBB := Aside0.mk hb
            clear hb hb2
            dsimp only
            cases b
            · go_wp2
              go_ret2
              have hne : ¬ (p1 = l) := by rintro rfl; have := HBB.out; simp at this
              exact runpPost_bad (by rw [HG.out]; exact if_neg (fun h => hne h.2)) rfl HB2.out
            · go_wp2
              go_ret2
              have he : p1 = l := by have := HBB.out; simp at this; exact this.symm
              have hg : unpackI l s = (out, 0) := by rw [HG.out]; exact if_pos ⟨trivial, he⟩
              exact ⟨.slice A' out.length c', by rw [hg]; rfl, by rw [hg]; exact HO2.out, HB2.out⟩
          · go_wp2_with fail
            refine HPK.out.mono ?_
            rintro e w1 ⟨v1, rfl, hR1, hb1⟩
            have HB1 := Aside0.mk (below_then HU.out.below HU.out.below.size hb1)
            clear hR1 hb1
            dsimp only
            go_wp2
            go_ret2
            exact runpPost_bad (by rw [HG.out]; exact if_neg (fun h => hp0 h.1)) rfl HB1.out
        · have hkm : (k : Int) < (m : Int) := by omega
          obtain ⟨ad', e, hy2⟩ := C_int_at (Kd.C_below HL.out HU.out.below) (a + 2) (by rw [HL2.out]; omega)
          cases e
          obtain ⟨ad', e, hy3⟩ := C_int_at (Kd.C_below HL.out HU.out.below) (a + 3) (by rw [HL2.out]; omega)
          cases e
          have HB1 := Aside0.mk (fun j => allB_get HB.out j)
          replace hy2 : wr.cell? ⟨ad.block, ad.off + (a + 2), none⟩ = _ := hy2
          replace hy3 : wr.cell? ⟨ad.block, ad.off + (a + 3), none⟩ = _ := hy3
          have r2 := HB1.out (a + 2)
          obtain ⟨q, hq⟩ : ∃ q : Nat, l.getD (a + 3) 0 = q := ⟨(l.getD (a + 3) 0).toNat, by have := HB1.out (a + 3); omega⟩
          have hq1 : q < 256 := by have := HB1.out (a + 3); omega
          rw [hq] at hy3
          obtain ⟨x2, hx2⟩ : ∃ x, l.getD (a + 2) 0 = x := ⟨_, rfl⟩
          rw [hx2] at hy2 r2
          have HX2 := Aside0.mk hx2
          have HQ := Aside0.mk hq
          clear hx2 hq
          have hrl : ((l.drop a).take (252 - a)).length = 252 - a := by rw [List.length_take, List.length_drop, HL2.out]; omega
          have hr3 : ((l.drop a).take (252 - a)).getD 3 0 = q := by rw [slice_at _ _ _ _ (by omega), HQ.out]
          have HRL := Aside0.mk hrl
          have HR3 := Aside0.mk hr3
          clear hrl hr3
          by_cases h4q : 252 < a + 4 + q
          · go_wp2
            go_ret2
            exact runpPost_bad (HBAD.out (HU.out.eq.trans (by rw [readI, if_pos (.inr (by rw [HR3.out, HRL.out]; omega))]))) rfl HU.out.below
          · have hget := HGET.out a wr HU.out.below (by omega)
            have hvr := val_range (allB_take (allB_drop HB.out a) 2)
            have hv2 : val ((l.drop a).take 2) = l.getD a 0 + 256 * l.getD (a + 1) 0 := by
              have e1 : (l.drop a).take 2 = [l.getD a 0, l.getD (a + 1) 0] := by
                rw [List.drop_eq_getElem_cons (by rw [HL2.out]; omega), List.drop_eq_getElem_cons (by rw [HL2.out]; omega), List.take_succ_cons, List.take_succ_cons, List.take_zero]
                simp [List.getD_eq_getElem?_getD, show a < l.length by rw [HL2.out]; omega, show a + 1 < l.length by rw [HL2.out]; omega]
              rw [e1]
              simp [val]
            have hv0 := HB1.out a
            have hv1 := HB1.out (a + 1)
            rw [hv2] at hget hvr
            obtain ⟨v2, hv2'⟩ : ∃ v2, l.getD a 0 + 256 * l.getD (a + 1) 0 = v2 := ⟨_, rfl⟩
            have hent : entI ((l.drop a).take (252 - a)) = ⟨v2, x2, strOfNums ((l.drop (a + 4)).take q)⟩ := by
              unfold entI
              rw [HR3.out, slice_at _ _ _ _ (by omega), slice_at _ _ _ _ (by omega), slice_at _ _ _ _ (by omega), Nat.add_zero, HX2.out, hv2', Int.toNat_natCast, slice_part _ _ _ _ _ (by omega)]
            rw [hv2'] at hget
            have hvb : 0 ≤ v2 ∧ v2 < 65536 := by omega
            have HENT := Aside0.mk hent
            have HGT := Aside0.mk hget
            clear hget hvr hv2 hv0 hv1 hent hv2'
            obtain ⟨hvb0, hvb1⟩ := hvb
            obtain ⟨b2, hb2⟩ : ∃ b2 : Nat, a + 2 = b2 := ⟨_, rfl⟩
            obtain ⟨b4, hb4⟩ : ∃ b4 : Nat, a + 4 = b4 := ⟨_, rfl⟩
            obtain ⟨b5, hb5⟩ : ∃ b5 : Nat, a + 4 + q = b5 := ⟨_, rfl⟩
            have hpart := C_int_part HL.out (a + 4) q (by rw [HL2.out]; omega)
            rw [hb4] at hpart
            have hy2' : wr.cell? (ad.add b2) = some (.int .u8 x2) := by rw [← hb2]; exact hy2
            have hS : ∀ w', Below wr.heap.size wr w' → (w'.cell? (ad.add b2) = some (.int .u8 x2) ∧ (convert 30 9 (.slice (some (ad.add b4)) q (c - b4))).run Try.prog w' = .ok (.string (strOfNums ((l.drop b4).take q))) w' ∧ Below wr.heap.size wr w') := fun w' hb =>
              ⟨pw_cell_below hb hy2', Kd.C_string rfl rfl rfl (Kd.C_below (Kd.C_below hpart HU.out.below) hb), hb⟩
            have HS := Aside0.mk hS
            clear hS hpart
            have HB4' := Aside0.mk hb4
            have HB5' := Aside0.mk hb5
            have HB2' := Aside0.mk hb2
            clear hb2 hb4 hb5 hy2 hy2'
            go_wp2_with fail
            refine HGT.out.mono ?_
            rintro e w1 ⟨rfl, rfl⟩
            dsimp only
            clear hy3 hx1
            go_wp2
            have hb2 := HB2'.out
            have hb4 := HB4'.out
            have hb5 := HB5'.out
            have hcut : ∀ W : World, (Instr.slice 30 (.slice (some ad) 256 c) (some (.int .i64 (b4 : Int))) (some (.int .i64 (b5 : Int))) none).run Try.prog W = .ok (.slice (some (ad.add b4)) q (c - b4)) W := by
              intro W
              obtain ⟨j0, hj, hj0, hj1, hj2⟩ := info_parts infoU8
              have := cut_mid (P := Try.prog) 30 5 .i64 .i64 (i := j0) rfl hj 1 hj1 (some ad) 256 c (b4 : Int) (b5 : Int) (by omega) (by omega) (by omega) (by omega) W
              have e0 : ((b4 : Nat) : Int).toNat = b4 := by omega
              have e1 : ((b5 : Nat) : Int).toNat - b4 = q := by omega
              rw [e0, e1] at this
              rw [this, if_neg (by omega), Nat.mul_one]
              rfl
            have hwa2 : wrap64 ((a : Int) + 2) = b2 := w64 (by rw [← hb2]; rfl) (by omega)
            have HHWA2 := Aside0.mk hwa2
            clear hwa2
            have hwa4 : wrap64 ((a : Int) + 4) = b4 := w64 (by rw [← hb4]; rfl) (by omega)
            have HHWA4 := Aside0.mk hwa4
            clear hwa4
            have hwa5 : wrap64 ((b4 : Int) + (q : Int)) = b5 := w64 (by rw [← hb5, ← hb4]; rfl) (by omega)
            have HHWA5 := Aside0.mk hwa5
            clear hwa5
            have i2 : (b2 : Int) < 256 := by omega
            have i3 : b2 < 256 := by omega
            clear hb2 hb4 hb5
            have hw2 : wrap64 x2 = x2 := by unfold wrap64; omega
            have HHW2 := Aside0.mk hw2
            clear hw2
            have hwv : wrap64 v2 = v2 := by unfold wrap64; omega
            have HHWV := Aside0.mk hwv
            clear hwv
            have hwa2 := HHWA2.out
            have hwa4 := HHWA4.out
            have hwa5 := HHWA5.out
            have hw2 := HHW2.out
            have hwv := HHWV.out
            refine wp_region_in [0,0,0,0,0,0,0,1,0,0,0,0,0,0,0,0,0,1,0,2,3,0] [20] (fun w' => w'.cell? (ad.add b2) = some (.int .u8 x2) ∧ (convert 30 9 (.slice (some (ad.add b4)) q (c - b4))).run Try.prog w' = .ok (.string (strOfNums ((l.drop b4).take q))) w' ∧ Below wr.heap.size wr w') (by kernel_rfl) rfl (by kernel_rfl) (fun _ _ _ _ h => h) (HS.out _ (Below.refl _ _).drew) ?_
            iterate 19 (first
              | (refine in_off0 (by rfl) ?_; simp only [Act.put, List.setIfInBounds_toArray, List.set_cons_zero, List.set_cons_succ, i64_w, i32_w])
              | (refine in_off1 (by rfl) ?_; simp only [Act.put, List.setIfInBounds_toArray, List.set_cons_zero, List.set_cons_succ, i64_w, i32_w])
              | (refine in_0 (v := ?_) (by rfl) rfl ?_ (a' := ?_) ?_ ?_; rotate_left; (intro w'; go_simp; with_reducible rfl); rotate_left; (simp only [Act.put, List.setIfInBounds_toArray, List.set_cons_zero, List.set_cons_succ, i64_w, i32_w]; rfl))
              | (refine in_1 (v := ?_) (by rfl) rfl ?_ (a' := ?_) ?_ ?_; rotate_left; (rintro w' hs; go_split_ands; go_simp; with_reducible rfl); rotate_left; (simp only [Act.put, List.setIfInBounds_toArray, List.set_cons_zero, List.set_cons_succ, i64_w, i32_w]; rfl)))
            refine in_2 (by rfl) (fun K hK => ?_)
            go_simp
            have hb1 : Below wr.heap.size wr (wr.alloc (.cells #[.int .i64 v2, .int .i64 x2, .string (strOfNums ((l.drop b4).take q))] 59)).drew := (below_alloc (Below.refl _ _) _).drew
            refine hK _ _ (HS.out _ hb1) ?_
            clear hK K
            try simp only [Act.put, List.setIfInBounds_toArray, List.set_cons_zero, List.set_cons_succ, i64_w, i32_w]
            refine in_3 (by rfl) (fun K hK => ?_)
            clear hwa2 hwa4 hwa5 hw2 hwv
            obtain ⟨e0, he, hz0, hz1, hz2⟩ := info_parts infoREnt'
            have hown := HU.out.own.below hb1
            have hbw := below_then HU.out.below HU.out.below.size hb1
            have hcnt := HU.out.cnt
            refine wp_append_own _ (.tmp 47) (.tmp 66) 29 rfl w.heap.size 59 e0 (.agg #[.int .i64 0, .int .i64 0, .string ⟨#[]⟩]) 3 32 Try.underlying29 he hz0 hz1 hz2 rfl (by decide) u6 out.length (out.flatMap ecells) rfl hown ⟨wr.heap.size, 0, none⟩ 1 1 [.int .i64 v2, .int .i64 x2, .string (strOfNums ((l.drop b4).take q))] rfl rfl ?c1 ?c2 (by simp only [maxLen]; omega) (by omega) hbw.size ?_
            case c1 =>
              intro j u hj
              rw [add_plain]
              exact cell_alloc wr _ _ j u (by simpa using hj)
            case c2 => simp [Value.oneCell']
            intro v' w' h2 h3 _
            have hown2 : OwnR w' w.heap.size v' (out ++ [entI ((l.drop a).take (252 - a))]) := ownR_snoc h2 (by rw [HENT.out, HB4'.out]; rfl)
            have hbl2 := pw_below_grown hbw _ hbw.size h3 (own_base hown)
            have HO2 := Aside0.mk hown2
            have HB2 := Aside0.mk hbl2
            refine hK _ _ ?_
            clear hK K h2 h3 hown2 hbl2 hown hbw hb1
            try simp only [Act.put, List.setIfInBounds_toArray, List.set_cons_zero, List.set_cons_succ, i64_w, i32_w]
            refine out_0 (v := ?_) (by rfl) rfl ?_ (a' := ?_) ?_ ?_
            rotate_left
            · intro w'
              go_simp
              with_reducible rfl
            rotate_left
            · simp only [Act.put, List.setIfInBounds_toArray, List.set_cons_zero, List.set_cons_succ, i64_w, i32_w]
              rfl
            refine out_nil ?_
            clear hcut hcnt
            go_wp2
            go_roundg g
            case measure => omega
            case rel =>
              have hq4 : ¬ ((((l.drop a).take (252 - a)).length : Int) < 4 ∨ (((l.drop a).take (252 - a)).length : Int) < 4 + ((l.drop a).take (252 - a)).getD 3 0) := by rw [HR3.out, HRL.out]; omega
              have hb5 := HB5'.out
              exact ⟨k + 1, a + 4 + q, out ++ [entI ((l.drop a).take (252 - a))], by omega, by omega, by omega, by go_num, by go_num, ⟨⟨HO2.out, by rw [List.length_append, HU.out.cnt]; rfl, HB2.out, HU.out.eq.trans (by
                rw [readI, if_neg hq4, HR3.out, Int.toNat_natCast, slice_rest]
                rw [show a + (4 + q) = a + 4 + q by omega, show 252 - a - (4 + q) = 252 - (a + 4 + q) by omega])⟩⟩⟩
  · have hub : unpackI l s = ([], 117) := by unfold unpackI; rw [if_pos h256]
    clear hl hb
    have hne : ((l.length : Int) != 256) = true := by rw [bne_iff_ne]; omega
    go_enter Try.func20, Try.ntmps20
    go_wp2
    go_ret2
    exact runpPost_bad hub rfl (Below.refl _ _)
end Go.Proofs.Ytjggkaieagbjmaa.Hand
