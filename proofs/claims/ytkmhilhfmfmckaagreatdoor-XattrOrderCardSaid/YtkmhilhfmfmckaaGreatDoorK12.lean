/- Own texts and printed words of the kit, put together and trimmed by a program of mine (merge.py). -/
import Derived.Test.YtkmhilhfmfmckaaGreatDoorK11
namespace Go.Proofs.YtkmhilhfmfmckaaGreatDoor.Hand
set_option linter.unusedSimpArgs false
set_option linter.unusedVariables false
open Go.Shelf Go.RowKit Go.Proofs.YtkmhilhfmfmckaaGreatDoorW.PrintWords Go.Proofs.YtkmhilhfmfmckaaGreatDoorW.PrintLast Go.Proofs.YtkmhilhfmfmckaaGreatDoorW.PrintMore
theorem allB_attB {x : Att} (h : allB x.val) : allB (attB x) := by
  unfold attB
  refine allB_append (allB_append (fun y hy => ?_) (allB_bytes _)) h
  simp only [List.mem_cons, List.not_mem_nil, or_false] at hy
  rcases hy with rfl | rfl <;> omega
theorem allB_xpack {l : List Att} (h : ∀ x ∈ l, allB x.val) (s : Int) : allB (xpackI l s).1 := by
  unfold xpackI
  split
  · split
    · intro y hy; cases hy
    · refine allB_seal (allB_pad ?_) s
      unfold attsB
      refine allB_append (fun y hy => ?_) (fun y hy => ?_)
      · simp only [List.mem_cons, List.not_mem_nil, or_false] at hy
        rcases hy with rfl | rfl <;> omega
      · obtain ⟨x, hx, hy⟩ := List.mem_flatMap.1 hy
        exact allB_attB (h x hx) y hy
  · intro y hy; cases hy
theorem xpackI_len {l : List Att} {s : Int} (h : (xpackI l s).2 = 0) : (xpackI l s).1.length = 256 := by
  unfold xpackI at h ⊢
  by_cases h1 : attsOk l
  · rw [if_pos h1] at h ⊢
    by_cases h2 : 250 < attN l
    · rw [if_pos h2] at h; cases h
    · rw [if_neg h2]
      show (sealL (pad (attsB l)) s).length = 256
      unfold sealL
      rw [layL_length]
      refine pad_length _ ?_
      unfold attsB
      unfold attN at h2
      simp only [List.length_append, List.length_cons, List.length_nil]
      omega
  · rw [if_neg h1] at h; cases h
def xattI (r : List Int) : Att := ⟨strOfNums ((r.drop 2).take (r.getD 0 0).toNat), (r.drop (2 + (r.getD 0 0).toNat)).take (r.getD 1 0).toNat⟩
def xreadI : Nat → List Int → List Att → Option (List Att)
  | 0, _, out => some out
  | g + 1, r, out => if (r.length : Int) < 2 ∨ (r.length : Int) < 2 + r.getD 0 0 + r.getD 1 0 then none else xreadI g (r.drop (2 + (r.getD 0 0).toNat + (r.getD 1 0).toNat)) (out ++ [xattI r])
def xunpI (l : List Int) (s : Int) : List Att × Int :=
  if l.length ≠ 256 then ([], 117) else
  match xreadI (l.getD 1 0).toNat ((l.drop 2).take 250) [] with
  | none => ([], 117)
  | some out => if (xpackI out s).2 = 0 ∧ (xpackI out s).1 = l then (out, 0) else ([], 117)
def acells (l : List Att) (vs : List Value) : List Value := (l.zip vs).flatMap fun q => [.string q.1.name, q.2]
theorem acells_at : ∀ (l : List Att) (vs : List Value) (j : Nat), j < l.length → vs.length = l.length → (acells l vs)[j * 2]? = some (.string (attAt l j).name) ∧ (acells l vs)[j * 2 + 1]? = some (vs.getD j undef)
  | [], _, j, h, _ => by simp at h
  | x :: l, [], j, _, h => by simp at h
  | x :: l, v :: vs, 0, _, _ => by simp [acells, attAt]
  | x :: l, v :: vs, j + 1, h, hv => by
    have ih := acells_at l vs j (by simpa using h) (by simpa using hv)
    have e : acells (x :: l) (v :: vs) = [.string x.name, v] ++ acells l vs := by simp [acells]
    have e1 : (j + 1) * 2 = 2 + j * 2 := by omega
    rw [e, e1, show 2 + j * 2 + 1 = 2 + (j * 2 + 1) by omega]
    rw [List.getElem?_append_right (by simp), List.getElem?_append_right (by simp)]
    simpa [attAt] using ih
theorem acells_snoc (l : List Att) (vs : List Value) (x : Att) (v : Value) (h : vs.length = l.length) : acells (l ++ [x]) (vs ++ [v]) = acells l vs ++ [.string x.name, v] := by
  unfold acells
  rw [List.zip_append h.symm, List.flatMap_append]
  simp
theorem acells_length (l : List Att) (vs : List Value) (h : vs.length = l.length) : (acells l vs).length = l.length * 2 := by
  unfold acells
  have : ∀ q : List (Att × Value), (q.flatMap fun q => [Value.string q.1.name, q.2]).length = q.length * 2 := by
    intro q
    induction q with
    | nil => rfl
    | cons a q ih => rw [List.flatMap_cons, List.length_append, ih]; simp; omega
  rw [this, List.length_zip, h, Nat.min_self]
def OwnA (w : World) (base : Nat) (v : Value) (l : List Att) : Prop :=
  ∃ vs : List Value, vs.length = l.length ∧ w.ownsRow base 72 2 v l.length (acells l vs) ∧ ∀ j, j < l.length → Own w base 5 .u8 (vs.getD j undef) (attAt l j).val ∧ allB (attAt l j).val
theorem OwnA.below {w w1 : World} {base : Nat} {v : Value} {l : List Att} (h : OwnA w base v l) (hb : Below w.heap.size w w1) : OwnA w1 base v l := by
  obtain ⟨vs, h1, h2, h3⟩ := h
  exact ⟨vs, h1, pw_own_below h2 hb, fun j hj => ⟨(h3 j hj).1.below hb, (h3 j hj).2⟩⟩
theorem own_nocap {w : World} {base e : Nat} {k : IntKind} {A : Option Addr} {n c : Nat} {l : List Int} (h : Own w base e k (.slice A n c) l) : A = none → c = 0 := by
  rintro rfl
  rcases h.2 with ⟨h0, _⟩ | ⟨g, cap, cur, h0, _⟩
  · cases h0; rfl
  · cases h0
theorem OwnA.reads {w : World} {base : Nat} {v : Value} {l : List Att} (h : OwnA w base v l) (hs : l.length ≤ 1125899906842624) : ∃ A c, v = .slice A l.length c ∧ l.length ≤ c ∧ Atts w A l := by
  obtain ⟨vs, h1, h2, h3⟩ := h
  obtain ⟨A, c, rfl, hc, _, hA, hcell⟩ := own_shape h2
  refine ⟨A, c, rfl, hc, hs, fun j hj => ?_⟩
  obtain ⟨ad, rfl⟩ := hA (by omega)
  obtain ⟨q1, q2⟩ := acells_at l vs j hj h1
  obtain ⟨hown, _⟩ := h3 j hj
  obtain ⟨Av, cv, ev, hcv, hC⟩ := hown.reads
  rw [ev] at hown
  refine ⟨ad, Av, cv, rfl, hcell ad rfl _ _ q1, ?_, hcv, hC, own_nocap hown⟩
  have := hcell ad rfl _ _ q2
  rw [add_next ad (j * 2) 1 (by omega), ev] at this
  exact this
theorem own_ne {w : World} {b1 b2 e1 e2 s1 s2 n1 n2 : Nat} {v1 v2 : Value} {c1 c2 : List Value} (h1 : w.ownsRow b1 e1 s1 v1 n1 c1) (h2 : w.ownsRow b2 e2 s2 v2 n2 c2) (he : e1 ≠ e2) (g : Nat) (h : v1.ownBlock = some g) : v2.ownBlock ≠ some g := by
  rcases h1.2 with ⟨rfl, _⟩ | ⟨g1, cap1, cur1, rfl, _, hb1, _⟩
  · simp [Value.ownBlock] at h
  · rcases h2.2 with ⟨rfl, _⟩ | ⟨g2, cap2, cur2, rfl, _, hb2, _⟩
    · simp [Value.ownBlock]
    · intro h'
      obtain rfl : g1 = g := by simpa [Value.ownBlock] using h
      obtain rfl : g2 = g1 := by simpa [Value.ownBlock] using h'
      have := hb1.symm.trans hb2
      simp at this
      exact he this.2
theorem ownA_snoc {w1 w2 : World} {base : Nat} {v v2 vx : Value} {l : List Att} {x : Att} {vs : List Value} (hvl : vs.length = l.length) (hrow : w1.ownsRow base 72 2 v l.length (acells l vs)) (hvals : ∀ j, j < l.length → Own w1 base 5 .u8 (vs.getD j undef) (attAt l j).val ∧ allB (attAt l j).val)
    (hx : Own w1 base 5 .u8 vx x.val) (hxb : allB x.val) (hg : w1.grownBy w2 v.ownBlock) (h2 : w2.ownsRow base 72 2 v2 (l.length + 1) (acells l vs ++ [.string x.name, vx])) : OwnA w2 base v2 (l ++ [x]) := by
  have hne : (72 : TypeId) ≠ 5 := by decide
  refine ⟨vs ++ [vx], by simp [hvl], by rw [acells_snoc l vs x vx hvl, List.length_append]; exact h2, fun j hj => ?_⟩
  have hk : ∀ {u : Value} {z : List Int}, Own w1 base 5 .u8 u z → Own w2 base 5 .u8 u z := fun hu => own_mod hu (mod_grown hg) (fun g hg' e => own_ne hrow hu hne g e hg')
  by_cases h : j < l.length
  · obtain ⟨p1, p2⟩ := hvals j h
    have e1 : (vs ++ [vx]).getD j undef = vs.getD j undef := by simp [List.getD_eq_getElem?_getD, List.getElem?_append_left (show j < vs.length by omega)]
    have e2 : attAt (l ++ [x]) j = attAt l j := by simp [attAt, List.getD_eq_getElem?_getD, List.getElem?_append_left h]
    rw [e1, e2]
    exact ⟨hk p1, p2⟩
  · have hj' : j = l.length := by simp at hj; omega
    subst hj'
    have e1 : (vs ++ [vx]).getD l.length undef = vx := by rw [← hvl]; simp [List.getD_eq_getElem?_getD]
    have e2 : attAt (l ++ [x]) l.length = x := by simp [attAt, List.getD_eq_getElem?_getD]
    rw [e1, e2]
    exact ⟨hk hx, hxb⟩
theorem OwnA.nil (w : World) (base : Nat) : OwnA w base (.slice none 0 0) [] := ⟨[], rfl, own_nil _ _ _ _, fun j hj => by simp at hj⟩
theorem infoAtt : (Tryz.prog.info? 72).map (fun i => (i.zero, i.size, i.bytes)) = some (some (.agg #[.string ⟨#[]⟩, .slice none 0 0]), 2, 40) := by kernel_rfl
def XUnpPost (r : List Att × Int) (w : World) (e : Ending) (w' : World) : Prop :=
  ∃ v, e = .returned (.tuple #[v, .int .i64 r.2]) ∧ OwnA w' w.heap.size v r.1 ∧ Below w.heap.size w w'
theorem xunpPost_bad {r : List Att × Int} {w w' : World} {e : Ending} {c : Int} (hp : r = ([], c)) (he : e = .returned (.tuple #[.slice none 0 0, .int .i64 c])) (hb : Below w.heap.size w w') : XUnpPost r w e w' :=
  ⟨.slice none 0 0, by rw [hp]; exact he, by rw [hp]; exact OwnA.nil _ _, hb⟩
structure XUnp (w wr : World) (m k g : Nat) (full r : List Int) (v vr : Value) (out : List Att) (cc : Nat) : Prop where
  own : OwnA wr w.heap.size v out
  cnt : out.length = k
  below : Below w.heap.size w wr
  rest : ∃ ad, vr = .slice (some ad) r.length cc ∧ r.length < cc ∧ r.length ≤ 250 ∧ Kd.C (Kd.int .u8) w (some ad) r.length r
  bytes : allB r
  eq : xreadI m full [] = xreadI g r out
set_option maxHeartbeats 16000000 in
set_option maxRecDepth 100000 in
theorem xunpack_calls (A : Option Addr) (c : Nat) (s : Int) (l : List Int) (w : World) (hl : Kd.C (Kd.int .u8) w A l.length l) (hc : l.length ≤ c) (hs0 : 0 ≤ s) (hs1 : s < 4294967296) (hb : allB l) :
    Calls Tryz.prog 13 #[.slice A l.length c, .int .u32 s] w (XUnpPost (xunpI l s) w) := by
  by_cases h256 : l.length = 256
  · have HL := Aside0.mk hl
    have hub : xunpI l s = match xreadI (l.getD 1 0).toNat ((l.drop 2).take 250) [] with | none => ([], 117) | some out => if (xpackI out s).2 = 0 ∧ (xpackI out s).1 = l then (out, 0) else ([], 117) := by unfold xunpI; exact if_neg (fun h => h h256)
    obtain ⟨ad, rfl, hx1⟩ := C_int_at hl 1 (by omega)
    obtain ⟨hm0, hm1⟩ := allB_get hb 1
    have HB := Aside0.mk hb
    obtain ⟨m, hm⟩ : ∃ m : Nat, l.getD 1 0 = m := ⟨(l.getD 1 0).toNat, by omega⟩
    have hp2 : Kd.C (Kd.int .u8) w (some ⟨ad.block, ad.off + 2, none⟩) 250 ((l.drop 2).take 250) := C_int_part hl 2 250 (by omega)
    have hfb : allB ((l.drop 2).take 250) := allB_take (allB_drop hb 2) 250
    have hfl : ((l.drop 2).take 250).length = 250 := by simp; omega
    generalize (l.drop 2).take 250 = full at hp2 hfb hfl hub
    have HFB := Aside0.mk hfb
    rw [hm] at hx1 hm1
    replace hx1 : w.cell? ⟨ad.block, ad.off + 1, none⟩ = some (.int .u8 m) := hx1
    have hmm : (l.getD 1 0).toNat = m := by rw [hm]; exact Int.toNat_natCast m
    rw [hmm] at hub
    obtain ⟨rr, hrr⟩ : ∃ rr, xunpI l s = rr := ⟨_, rfl⟩
    rw [hrr] at hub ⊢
    have HBAD := Aside0.mk (fun (h : xreadI m full [] = none) => show rr = ([], 117) by rw [hub, h])
    have HGOOD := Aside0.mk (fun out (h : xreadI m full [] = some out) => show rr = if (xpackI out s).2 = 0 ∧ (xpackI out s).1 = l then (out, 0) else ([], 117) by rw [hub, h])
    have HFL := Aside0.mk hfl
    have HP2 := Aside0.mk hp2
    have HL2 := Aside0.mk h256
    rw [h256] at hc ⊢
    clear hl hub hb hm hm0 hp2 h256 hfb hfl hmm hrr
    have hc2 : c ≠ 2 := by omega
    go_enter Tryz.func13, Tryz.ntmps13
    go_wp2
    go_loopg [6, 7, 20] m (fun g v vr i wr => ∃ (k : Nat) (r : List Int) (out : List Att) (cc : Nat), k + g = m ∧ i = .int .u8 k ∧ Aside0 (XUnp w wr m k g full r v vr out cc))
    case atStart => exact ⟨0, full, [], c - 2, by omega, rfl, ⟨⟨OwnA.nil _ _, rfl, Below.refl _ _, ⟨⟨ad.block, ad.off + 2, none⟩, by rw [HFL.out], by rw [HFL.out]; omega, by rw [HFL.out]; omega, by rw [HFL.out]; exact HP2.out⟩, HFB.out, rfl⟩⟩⟩
    case round =>
      obtain ⟨k, r, out, cc, hk, rfl, HU⟩ := hrel
      obtain ⟨ad2, rfl, hcc, h250, hr⟩ := HU.out.rest
      have HR := Aside0.mk hr
      have HB1 := fun j => allB_get HU.out.bytes j
      clear hr
      cases gk with
      | zero =>
        obtain rfl : k = m := by omega
        have hg := HGOOD.out out HU.out.eq
        obtain ⟨A', c', rfl, hc', hE⟩ := HU.out.own.reads (by rw [HU.out.cnt]; omega)
        have HG := Aside0.mk hg
        have hC := HU.out.cnt
        have hlen := HL2.out
        have hall : ∀ x ∈ out, allB x.val := fun x hx => by
          obtain ⟨vs, _, _, h3⟩ := HU.out.own
          obtain ⟨j, hj, rfl⟩ := List.getElem_of_mem hx
          have := (h3 j hj).2
          simpa [attAt, List.getD_eq_getElem?_getD, hj] using this
        obtain ⟨p, hp⟩ : ∃ p, xpackI out s = p := ⟨_, rfl⟩
        have hpk := xpack_calls A' c' s out _ hE hc' (by omega) hs0 hs1
        have hap := allB_xpack hall s
        have hpl := xpackI_len (l := out) (s := s)
        rw [hp] at hpk hap HG hpl
        obtain ⟨p1, p2⟩ := p
        dsimp only at HG hap hpl
        have HAP := Aside0.mk hap
        have HPK := Aside0.mk hpk
        clear hpk hap hp hC hlen HB1 hall hE hg
        by_cases hp0 : p2 = 0
        · subst hp0
          have HPLN := Aside0.mk (hpl rfl)
          clear hpl
          go_wp2_with fail
          refine HPK.out.mono ?_
          rintro e w1 ⟨v1, rfl, hb1, hv1, _⟩
          obtain ⟨g1, c1, rfl, hg1, hc1, hr1⟩ := hv1 rfl
          have HB1 := Aside0.mk (below_then HU.out.below HU.out.below.size hb1)
          have HO1 := Aside0.mk (HU.out.own.below hb1)
          have hR1 : Kd.C (Kd.int .u8) w1 (some ⟨g1, 0, none⟩) p1.length p1 := hr1.reads (by rw [HPLN.out]; omega)
          have heq := equal_calls (some ad) (some ⟨g1, 0, none⟩) c c1 l p1 w1 (Kd.C_below HL.out HB1.out) hR1
          rw [HL2.out, strOf_eq HB.out HAP.out] at heq
          obtain ⟨b, hb⟩ : ∃ b, (l == p1) = b := ⟨_, rfl⟩
          rw [hb] at heq
          have HBB := Aside0.mk hb
          have HEQ := Aside0.mk heq
          clear heq hR1 hr1 hb1 hv1 hb
          dsimp only
          go_wp2_with fail
          refine HEQ.out.mono ?_
          rintro e w2 ⟨rfl, rfl⟩
          dsimp only
          cases b
          · go_wp2
            go_ret2
            have hne : ¬ (p1 = l) := by rintro rfl; have := HBB.out; simp at this
            exact xunpPost_bad (by rw [HG.out]; exact if_neg (fun h => hne h.2)) rfl HB1.out
          · go_wp2
            go_ret2
            have he : p1 = l := by have := HBB.out; simp at this; exact this.symm
            have hg : rr = (out, 0) := by rw [HG.out]; exact if_pos ⟨trivial, he⟩
            exact ⟨.slice A' out.length c', by rw [hg]; rfl, by rw [hg]; exact HO1.out, HB1.out⟩
        · clear hpl
          have hpb : (p2 != 0) = true := by simpa using hp0
          go_wp2_with fail
          refine HPK.out.mono ?_
          rintro e w1 ⟨v1, rfl, hb1, _, hv1⟩
          obtain rfl := hv1 hp0
          have HB1 := Aside0.mk (below_then HU.out.below HU.out.below.size hb1)
          clear hv1 hb1
          dsimp only
          go_wp2
          go_ret2
          exact xunpPost_bad (by rw [HG.out]; exact if_neg (fun h => hp0 h.1)) rfl HB1.out
      | succ g =>
        have i0k : (k : Int) < (m : Int) := by omega
        have i0kn : k < m := by omega
        by_cases h4 : r.length < 2
        · have h4i : (r.length : Int) < 2 := by omega
          go_upto_region 7 with fail
          refine wp_region_in [0, 0, 0, 0, 0, 0, 0, 0, 1, 0, 0, 0, 0, 1, 0, 0, 0, 0] [] (fun _ => True) (by kernel_rfl) rfl (by kernel_rfl) (fun _ _ _ _ h => h) trivial ?_
          iterate 18 (first
            | (refine in_off0 (by rfl) ?_; simp only [Act.put, stA, stZ, stS, i64_w, i32_w])
            | (refine in_off1 (by rfl) ?_; simp only [Act.put, stA, stZ, stS, i64_w, i32_w])
            | (refine in_0 (v := ?_) (by rfl) rfl ?_ (a' := ?_) ?_ ?_; rotate_left; (intro w'; go_simp; with_reducible rfl); rotate_left; (simp only [Act.put, stA, stZ, stS, i64_w, i32_w]; rfl))
            | (refine in_1 (v := ?_) (by rfl) rfl ?_ (a' := ?_) ?_ ?_; rotate_left; (rintro w' hs; go_split_ands; go_simp; with_reducible rfl); rotate_left; (simp only [Act.put, stA, stZ, stS, i64_w, i32_w]; rfl)))
          refine in_nil ?_
          go_wp2
          go_ret2
          exact xunpPost_bad (HBAD.out (HU.out.eq.trans (by rw [xreadI, if_pos (by omega)]))) rfl HU.out.below.drew
        · obtain ⟨ad', e, hy0⟩ := C_int_at HR.out 0 (by omega)
          cases e
          obtain ⟨ad', e, hy1⟩ := C_int_at HR.out 1 (by omega)
          cases e
          replace hy0 := pw_cell_below HU.out.below hy0
          replace hy1 : wr.cell? ⟨ad2.block, ad2.off + 1, none⟩ = _ := pw_cell_below HU.out.below hy1
          rw [show ad2.add 0 = ad2 from rfl] at hy0
          obtain ⟨a, ha⟩ : ∃ a : Nat, r.getD 0 0 = a := ⟨(r.getD 0 0).toNat, by have := HB1 0; omega⟩
          obtain ⟨bq, hbq⟩ : ∃ bq : Nat, r.getD 1 0 = bq := ⟨(r.getD 1 0).toNat, by have := HB1 1; omega⟩
          have ha1 : a < 256 := by have := HB1 0; omega
          have hb1 : bq < 256 := by have := HB1 1; omega
          rw [ha] at hy0
          rw [hbq] at hy1
          have HAB := Aside0.mk (And.intro ha hbq)
          have h4i : ¬ (r.length : Int) < 2 := by omega
          have i0 : (0 : Int) < (r.length : Int) := by omega
          have i0n : 0 < r.length := by omega
          have i1 : (1 : Int) < (r.length : Int) := by omega
          have i1n : 1 < r.length := by omega
          obtain ⟨na, hna⟩ : ∃ na, 2 + a = na := ⟨_, rfl⟩
          obtain ⟨nb, hnb⟩ : ∃ nb, na + bq = nb := ⟨_, rfl⟩
          have e1 : 2 + (a : Int) = (na : Int) := by omega
          have e2 : (na : Int) + (bq : Int) = (nb : Int) := by omega
          have HNA := Aside0.mk (And.intro hna hnb)
          have hnb1 : nb < 1000 := by omega
          have HW := Aside0.mk (And.intro (show wrap64 (a : Int) = (a : Int) by unfold wrap64; omega) (And.intro (show wrap64 (bq : Int) = (bq : Int) by unfold wrap64; omega) (And.intro (show wrap64 (na : Int) = (na : Int) by unfold wrap64; omega) (show wrap64 (nb : Int) = (nb : Int) by unfold wrap64; omega))))
          clear hna hnb
          clear HB1 ha hbq
          by_cases h4q : r.length < nb
          · have h4qi : (r.length : Int) < (nb : Int) := by omega
            go_upto_region 7 with fail
            obtain ⟨hw0, hw1, hw2, hw3⟩ := HW.out
            refine wp_region_in [0, 0, 0, 0, 0, 0, 0, 0, 1, 0, 0, 0, 0, 1, 0, 0, 0, 0] [] (fun w' => w'.cell? ad2 = some (.int .u8 (a : Nat)) ∧ w'.cell? ⟨ad2.block, ad2.off + 1, none⟩ = some (.int .u8 (bq : Nat))) (by kernel_rfl) rfl (by kernel_rfl) (fun _ _ _ _ h => h) ⟨hy0, hy1⟩ ?_
            iterate 18 (first
              | (refine in_off0 (by rfl) ?_; simp only [Act.put, stA, stZ, stS, i64_w, i32_w])
              | (refine in_off1 (by rfl) ?_; simp only [Act.put, stA, stZ, stS, i64_w, i32_w])
              | (refine in_0 (v := ?_) (by rfl) rfl ?_ (a' := ?_) ?_ ?_; rotate_left; (intro w'; go_simp; with_reducible rfl); rotate_left; (simp only [Act.put, stA, stZ, stS, i64_w, i32_w]; rfl))
              | (refine in_1 (v := ?_) (by rfl) rfl ?_ (a' := ?_) ?_ ?_; rotate_left; (rintro w' hs; go_split_ands; go_simp; with_reducible rfl); rotate_left; (simp only [Act.put, stA, stZ, stS, i64_w, i32_w]; rfl)))
            refine in_nil ?_
            clear hw0 hw1 hw2 hw3
            go_wp2
            go_ret2
            exact xunpPost_bad (HBAD.out (HU.out.eq.trans (by rw [xreadI, if_pos (by rw [HAB.out.1, HAB.out.2]; have := HNA.out; omega)]))) rfl HU.out.below.drew
          · have h4qi : ¬ (r.length : Int) < (nb : Int) := by omega
            go_upto_region 7 with fail
            obtain ⟨hw0, hw1, hw2, hw3⟩ := HW.out
            refine wp_region_in [0, 0, 0, 0, 0, 0, 0, 0, 1, 0, 0, 0, 0, 1, 0, 0, 0, 0] [] (fun w' => w'.cell? ad2 = some (.int .u8 (a : Nat)) ∧ w'.cell? ⟨ad2.block, ad2.off + 1, none⟩ = some (.int .u8 (bq : Nat))) (by kernel_rfl) rfl (by kernel_rfl) (fun _ _ _ _ h => h) ⟨hy0, hy1⟩ ?_
            iterate 18 (first
              | (refine in_off0 (by rfl) ?_; simp only [Act.put, stA, stZ, stS, i64_w, i32_w])
              | (refine in_off1 (by rfl) ?_; simp only [Act.put, stA, stZ, stS, i64_w, i32_w])
              | (refine in_0 (v := ?_) (by rfl) rfl ?_ (a' := ?_) ?_ ?_; rotate_left; (intro w'; go_simp; with_reducible rfl); rotate_left; (simp only [Act.put, stA, stZ, stS, i64_w, i32_w]; rfl))
              | (refine in_1 (v := ?_) (by rfl) rfl ?_ (a' := ?_) ?_ ?_; rotate_left; (rintro w' hs; go_split_ands; go_simp; with_reducible rfl); rotate_left; (simp only [Act.put, stA, stZ, stS, i64_w, i32_w]; rfl)))
            refine in_nil ?_
            clear hw0 hw1 hw2 hw3
            go_upto_region 9 with fail
            obtain ⟨hw0, hw1, hw2, hw3⟩ := HW.out
            refine wp_region_in [0, 0, 1, 0, 0, 0, 0, 1, 0, 0, 0, 0, 1, 0, 0, 0, 0] [] (fun w' => w'.cell? ad2 = some (.int .u8 (a : Nat)) ∧ w'.cell? ⟨ad2.block, ad2.off + 1, none⟩ = some (.int .u8 (bq : Nat))) (by kernel_rfl) rfl (by kernel_rfl) (fun _ _ _ _ h => h) ⟨hy0, hy1⟩ ?_
            iterate 17 (first
              | (refine in_off0 (by rfl) ?_; simp only [Act.put, stA, stZ, stS, i64_w, i32_w])
              | (refine in_off1 (by rfl) ?_; simp only [Act.put, stA, stZ, stS, i64_w, i32_w])
              | (refine in_0 (v := ?_) (by rfl) rfl ?_ (a' := ?_) ?_ ?_; rotate_left; (intro w'; go_simp; with_reducible rfl); rotate_left; (simp only [Act.put, stA, stZ, stS, i64_w, i32_w]; rfl))
              | (refine in_1 (v := ?_) (by rfl) rfl ?_ (a' := ?_) ?_ ?_; rotate_left; (rintro w' hs; go_split_ands; go_simp; with_reducible rfl); rotate_left; (simp only [Act.put, stA, stZ, stS, i64_w, i32_w]; rfl)))
            refine in_nil ?_
            clear hw0 hw1 hw2 hw3
            go_upto_region 10 with fail
            have hna := HNA.out.1
            have hnb := HNA.out.2
            obtain ⟨vl, hvl⟩ : ∃ vl, (r.drop na).take bq = vl := ⟨_, rfl⟩
            have hvll : vl.length = bq := by rw [← hvl]; simp; omega
            have hvlb : allB vl := by rw [← hvl]; exact allB_take (allB_drop HU.out.bytes _) _
            have hpart := C_int_part HR.out 2 a (by omega)
            have hpart2 := C_int_part HR.out na bq (by omega)
            rw [hvl] at hpart2
            have HS := Aside0.mk (show ∀ w' : World, Below wr.heap.size wr w' → ((convert 23 9 (.slice (some ⟨ad2.block, ad2.off + 2, none⟩) a (cc - 2))).run Tryz.prog w' = .ok (.string (strOfNums ((r.drop 2).take a))) w' ∧ Below wr.heap.size wr w') from fun w' hb =>
              ⟨Kd.C_string rfl rfl rfl (Kd.C_below (Kd.C_below hpart HU.out.below) hb), hb⟩)
            have HCL := Aside0.mk (show ∀ W : World, Below wr.heap.size wr W → Calls Tryz.prog 42 #[.slice (some (ad2.add na)) bq (cc - na)] W fun e w' => ∃ v, e = .returned v ∧ Own w' W.heap.size 5 .u8 v vl ∧ Below W.heap.size W w' from fun W hb => by
              have := clone_calls (ad2.add na) (cc - na) vl W (by rw [hvll]; exact Kd.C_below (Kd.C_below hpart2 HU.out.below) hb) (by omega)
              rw [hvll] at this
              exact this)
            have hcc2 : cc ≠ 2 := by omega
            have hcut1 : ∀ W : World, (Instr.slice 23 (.slice (some ad2) r.length cc) (some (.int .i64 2)) (some (.int .i64 (na : Int))) none).run Tryz.prog W = .ok (.slice (some ⟨ad2.block, ad2.off + 2, none⟩) a (cc - 2)) W := by
              intro W
              obtain ⟨j0, hj, hj0, hj1, hj2⟩ := info_parts infoU8
              have := cut_mid (P := Tryz.prog) 23 5 .i64 .i64 (i := j0) rfl hj 1 hj1 (some ad2) r.length cc 2 (na : Int) (by omega) (by omega) (by omega) (by omega) W
              rw [this, if_neg (show ¬ cc = (2 : Int).toNat from hcc2)]
              have e : ((na : Nat) : Int).toNat - (2 : Int).toNat = a := by omega
              rw [e]
              rfl
            have hcut2 : ∀ W : World, (Instr.slice 23 (.slice (some ad2) r.length cc) (some (.int .i64 (na : Int))) (some (.int .i64 (nb : Int))) none).run Tryz.prog W = .ok (.slice (some (ad2.add na)) bq (cc - na)) W := by
              intro W
              obtain ⟨j0, hj, hj0, hj1, hj2⟩ := info_parts infoU8
              have := cut_mid (P := Tryz.prog) 23 5 .i64 .i64 (i := j0) rfl hj 1 hj1 (some ad2) r.length cc (na : Int) (nb : Int) (by omega) (by omega) (by omega) (by omega) W
              have e0 : ((na : Nat) : Int).toNat = na := by omega
              have e : ((nb : Nat) : Int).toNat - na = bq := by omega
              rw [e0] at this
              rw [this, if_neg (show ¬ cc = na by omega), e, Nat.mul_one]
              rfl
            have HVL := Aside0.mk (And.intro hvl (And.intro hvll hvlb))
            clear hvl hvll hvlb hpart hpart2 hna hnb
            refine wp_region_in [0, 0, 0, 0, 1, 0, 0, 0, 0, 2, 0, 2, 3, 0] [12] (fun w' => (convert 23 9 (.slice (some ⟨ad2.block, ad2.off + 2, none⟩) a (cc - 2))).run Tryz.prog w' = .ok (.string (strOfNums ((r.drop 2).take a))) w' ∧ Below wr.heap.size wr w') (by kernel_rfl) rfl (by kernel_rfl) (fun _ _ _ _ h => h) (HS.out _ (Below.refl _ _).drew.drew.drew) ?_
            iterate 9 (first
              | (refine in_off0 (by rfl) ?_; simp only [Act.put, stA, stZ, stS, i64_w, i32_w])
              | (refine in_off1 (by rfl) ?_; simp only [Act.put, stA, stZ, stS, i64_w, i32_w])
              | (refine in_0 (v := ?_) (by rfl) rfl ?_ (a' := ?_) ?_ ?_; rotate_left; (intro w'; go_simp; with_reducible rfl); rotate_left; (simp only [Act.put, stA, stZ, stS, i64_w, i32_w]; rfl))
              | (refine in_1 (v := ?_) (by rfl) rfl ?_ (a' := ?_) ?_ ?_; rotate_left; (rintro w' hs; go_split_ands; go_simp; with_reducible rfl); rotate_left; (simp only [Act.put, stA, stZ, stS, i64_w, i32_w]; rfl)))
            refine in_2 (by rfl) (fun K hK => ?_)
            go_simp
            have hbd : Below wr.heap.size wr wr.drew.drew.drew := (Below.refl _ _).drew.drew.drew
            refine (HCL.out _ hbd).mono ?_
            rintro e w9 ⟨v9, rfl, ho9, hb9⟩
            obtain ⟨A9, c9, rfl, hc9, _⟩ := ho9.reads
            have hb9' : Below wr.heap.size wr w9 := below_then hbd (Nat.le_refl _) hb9
            dsimp only
            refine hK _ _ (HS.out _ hb9') ?_
            clear hK K
            try simp only [Act.put, stA, stZ, stS, i64_w, i32_w]
            iterate 1 (first
              | (refine in_off0 (by rfl) ?_; simp only [Act.put, stA, stZ, stS, i64_w, i32_w])
              | (refine in_off1 (by rfl) ?_; simp only [Act.put, stA, stZ, stS, i64_w, i32_w])
              | (refine in_0 (v := ?_) (by rfl) rfl ?_ (a' := ?_) ?_ ?_; rotate_left; (intro w'; go_simp; with_reducible rfl); rotate_left; (simp only [Act.put, stA, stZ, stS, i64_w, i32_w]; rfl))
              | (refine in_1 (v := ?_) (by rfl) rfl ?_ (a' := ?_) ?_ ?_; rotate_left; (rintro w' hs; go_split_ands; go_simp; with_reducible rfl); rotate_left; (simp only [Act.put, stA, stZ, stS, i64_w, i32_w]; rfl)))
            refine in_2 (by rfl) (fun K hK => ?_)
            go_simp
            have hb10 : Below wr.heap.size wr (w9.alloc (.cells #[.string (strOfNums ((r.drop 2).take a)), .slice A9 vl.length c9] 72)) := below_alloc hb9' _
            refine hK _ _ (HS.out _ hb10) ?_
            clear hK K
            try simp only [Act.put, stA, stZ, stS, i64_w, i32_w]
            refine in_3 (by rfl) (fun K hK => ?_)
            obtain ⟨e0, he, hz0, hz1, hz2⟩ := info_parts infoAtt
            obtain ⟨vs, hvs1, hvs2, hvs3⟩ := HU.out.own
            have hba := below_alloc (Below.refl w9.heap.size w9) (.cells #[.string (strOfNums ((r.drop 2).take a)), .slice A9 vl.length c9] 72)
            have hown := pw_own_below hvs2 hb10
            have hbw := below_then HU.out.below HU.out.below.size hb10
            have hcnt := HU.out.cnt
            refine wp_append_own _ (.tmp 55) (.tmp 66) 29 rfl w.heap.size 72 e0 (.agg #[.string ⟨#[]⟩, .slice none 0 0]) 2 40 Tryz.underlying29 he hz0 hz1 hz2 rfl (by decide) u6 out.length (acells out vs) rfl hown ⟨w9.heap.size, 0, none⟩ 1 1 [.string (strOfNums ((r.drop 2).take a)), .slice A9 vl.length c9] rfl rfl ?c1 ?c2 (by simp only [maxLen]; omega) (by omega) hbw.size ?_
            case c1 =>
              intro j u hj
              rw [add_plain]
              exact cell_alloc w9 _ _ j u (by simpa using hj)
            case c2 => simp [Value.oneCell']
            intro v' w' h2 h3 _
            have hown2 : OwnA w' w.heap.size v' (out ++ [xattI r]) := ownA_snoc (x := xattI r) hvs1 hown (fun j hj => ⟨(hvs3 j hj).1.below hb10, (hvs3 j hj).2⟩)
              (by
                have e : (xattI r).val = vl := by
                  unfold xattI
                  dsimp only
                  rw [HAB.out.1, HAB.out.2, Int.toNat_natCast, Int.toNat_natCast, HNA.out.1, HVL.out.1]
                rw [e]
                exact own_any (ho9.below hba) (fun g' hg' => Nat.le_trans HU.out.below.size (own_base ho9 g' hg')))
              (by
                have e : (xattI r).val = vl := by
                  unfold xattI
                  dsimp only
                  rw [HAB.out.1, HAB.out.2, Int.toNat_natCast, Int.toNat_natCast, HNA.out.1, HVL.out.1]
                rw [e]
                exact HVL.out.2.2) h3 (by
                have e : (xattI r).name = strOfNums ((r.drop 2).take a) := by
                  unfold xattI
                  dsimp only
                  rw [HAB.out.1, Int.toNat_natCast]
                rw [e]
                exact h2)
            have hbl2 := pw_below_grown hbw _ hbw.size h3 (own_base hown)
            have HO2 := Aside0.mk hown2
            have HB2 := Aside0.mk hbl2
            refine hK _ _ ?_
            clear hK K h2 h3 hown2 hbl2 hown hbw hb10 hb9 hb9' hbd hba ho9 hvs1 hvs2 hvs3 hc9
            try simp only [Act.put, stA, stZ, stS, i64_w, i32_w]
            refine out_0 (v := ?_) (by rfl) rfl ?_ (a' := ?_) ?_ ?_
            rotate_left
            · intro w'
              go_simp
              with_reducible rfl
            rotate_left
            · simp only [Act.put, stA, stZ, stS, i64_w, i32_w]
              rfl
            refine out_nil ?_
            have hcut3 : ∀ W : World, (Instr.slice 23 (.slice (some ad2) r.length cc) (some (.int .i64 (nb : Int))) none none).run Tryz.prog W = .ok (.slice (some (ad2.add nb)) (r.drop nb).length (cc - nb)) W := by
              intro W
              obtain ⟨j0, hj, hj0, hj1, hj2⟩ := info_parts infoU8
              have := cut_from (P := Tryz.prog) 23 5 .i64 (i := j0) rfl hj 1 hj1 (some ad2) r.length cc (nb : Int) (by omega) (by omega) W
              have e : ((nb : Nat) : Int).toNat = nb := by omega
              rw [e] at this
              rw [this, if_neg (by omega), Nat.mul_one, List.length_drop]
              rfl
            clear hcut1 hcut2 hcnt
            go_wp2
            go_roundg g
            case measure => omega
            case rel =>
              have hp := C_int_part HR.out nb (r.drop nb).length (by rw [List.length_drop]; omega)
              rw [List.take_of_length_le (Nat.le_refl _)] at hp
              have hq4 : ¬ ((r.length : Int) < 2 ∨ (r.length : Int) < 2 + r.getD 0 0 + r.getD 1 0) := by rw [HAB.out.1, HAB.out.2]; have := HNA.out; omega
              have hnb' : 2 + a + bq = nb := by have := HNA.out; omega
              exact ⟨k + 1, r.drop nb, out ++ [xattI r], cc - nb, by omega, by go_num, ⟨⟨HO2.out, by rw [List.length_append, HU.out.cnt]; rfl, HB2.out, ⟨ad2.add nb, by rw [List.length_drop], by rw [List.length_drop]; omega, by rw [List.length_drop]; omega, hp⟩, allB_drop HU.out.bytes _, HU.out.eq.trans (by
                show xreadI (g + 1) r out = _
                rw [xreadI, if_neg hq4, HAB.out.1, HAB.out.2, Int.toNat_natCast, Int.toNat_natCast, hnb'])⟩⟩⟩
  · go_enter Tryz.func13, Tryz.ntmps13
    have hub : xunpI l s = ([], 117) := by unfold xunpI; rw [if_pos h256]
    go_wp2
    go_ret2
    exact xunpPost_bad hub rfl (Below.refl _ _)
def mostL (kind : Int) : List Int := [3, 1, 511, 65535, 65535, 65535, if kind = 3 then 512 else 65536, 4096, -1, -1, -1, 65535, 65535, 65535]
def wideL : List Int := [1, 1, 2, 2, 2, 2, 4, 4, 8, 8, 8, 4, 4, 4]
def fieldC (kind : Int) : List Int := [1, 3, 1, 1, 2, 511, 2, 65535, 2, 65535, 2, 65535, 4, if kind = 3 then 512 else 65536, 4, 4096, 8, -1, 8, -1, 8, -1, 4, 65535, 4, 65535, 4, 65535]
set_option maxHeartbeats 4000000 in
set_option maxRecDepth 100000 in
theorem fields_calls (kind : Int) (w : World) :
    Calls Tryz.prog 126 #[.int .i64 kind] w fun e w' => ∃ g c, e = .returned (.slice (some ⟨g, 0, none⟩) 14 c) ∧ w.heap.size ≤ g ∧ 14 ≤ c ∧ Strc w' g 189 (nums .i64 (fieldC kind)) ∧ Below w.heap.size w w' := by
  by_cases hk : kind = 3
  · have hkb : (kind == 3) = true := by simpa using hk
    have HK := Aside0.mk (show nums .i64 (fieldC kind) = [.int .i64 1, .int .i64 3, .int .i64 1, .int .i64 1, .int .i64 2, .int .i64 511, .int .i64 2, .int .i64 65535, .int .i64 2, .int .i64 65535, .int .i64 2, .int .i64 65535, .int .i64 4, .int .i64 512, .int .i64 4, .int .i64 4096, .int .i64 8, .int .i64 (-1), .int .i64 8, .int .i64 (-1), .int .i64 8, .int .i64 (-1), .int .i64 4, .int .i64 65535, .int .i64 4, .int .i64 65535, .int .i64 4, .int .i64 65535] by unfold fieldC; rw [if_pos hk]; rfl)
    clear hk
    go_enter Tryz.func126, Tryz.ntmps126
    go_wp2
    go_ret
    refine ⟨w.heap.size, 14, rfl, Nat.le_refl _, Nat.le_refl _, ?_, below_alloc (Below.refl _ _) _⟩
    rw [HK.out]
    exact alloc_last w _
  · have hkb : (kind == 3) = false := by simpa using hk
    have HK := Aside0.mk (show nums .i64 (fieldC kind) = [.int .i64 1, .int .i64 3, .int .i64 1, .int .i64 1, .int .i64 2, .int .i64 511, .int .i64 2, .int .i64 65535, .int .i64 2, .int .i64 65535, .int .i64 2, .int .i64 65535, .int .i64 4, .int .i64 65536, .int .i64 4, .int .i64 4096, .int .i64 8, .int .i64 (-1), .int .i64 8, .int .i64 (-1), .int .i64 8, .int .i64 (-1), .int .i64 4, .int .i64 65535, .int .i64 4, .int .i64 65535, .int .i64 4, .int .i64 65535] by unfold fieldC; rw [if_neg hk]; rfl)
    clear hk
    go_enter Tryz.func126, Tryz.ntmps126
    go_wp2
    go_ret
    refine ⟨w.heap.size, 14, rfl, Nat.le_refl _, Nat.le_refl _, ?_, below_alloc (Below.refl _ _) _⟩
    rw [HK.out]
    exact alloc_last w _
structure Ino where
  kind : Int
  perm : Int
  uid : Int
  gid : Int
  links : Int
  size : Int
  blocks : Int
  atime : Int
  mtime : Int
  ctime : Int
  next : Int
  parent : Int
  xattr : Int
  indexed : Bool
deriving DecidableEq
def Ino.cells (r : Ino) (rv : Value) : List Value := [.int .i64 r.kind, .int .i64 r.perm, .int .i64 r.uid, .int .i64 r.gid, .int .i64 r.links, .int .i64 r.size, .int .i64 r.blocks, .int .i64 r.atime, .int .i64 r.mtime, .int .i64 r.ctime, .int .i64 r.next, .int .i64 r.parent, .int .i64 r.xattr, .bool r.indexed, rv]
def Ino.nums (r : Ino) : List Int := [r.kind, if r.indexed then 1 else 0, r.perm, r.uid, r.gid, r.links, r.size, r.blocks, r.atime, r.mtime, r.ctime, r.next, r.parent, r.xattr]
theorem infoInt64 : (Tryz.prog.info? 2).map (fun i => (i.zero, i.size, i.bytes)) = some (some (.int .i64 0), 1, 8) := by kernel_rfl
set_option maxHeartbeats 4000000 in
set_option maxRecDepth 100000 in
theorem inums_calls (kind perm uid gid links size blocks atime mtime ctime next parent xattr : Int) (indexed : Bool) (A : Option Addr) (n c : Nat) (w : World) :
    Calls Tryz.prog 125 #[.agg #[.int .i64 kind, .int .i64 perm, .int .i64 uid, .int .i64 gid, .int .i64 links, .int .i64 size, .int .i64 blocks, .int .i64 atime, .int .i64 mtime, .int .i64 ctime, .int .i64 next, .int .i64 parent, .int .i64 xattr, .bool indexed, .slice A n c]] w fun e w' => ∃ v, e = .returned v ∧ Own w' w.heap.size 2 .i64 v (Ino.nums ⟨kind, perm, uid, gid, links, size, blocks, atime, mtime, ctime, next, parent, xattr, indexed⟩) ∧ Below w.heap.size w w' := by
  cases indexed with
  | true =>
    go_enter Tryz.func125, Tryz.ntmps125
    go_wp2
    have hst1 : Strc ((w.alloc (.cells #[.int .i64 kind, .int .i64 perm, .int .i64 uid, .int .i64 gid, .int .i64 links, .int .i64 size, .int .i64 blocks, .int .i64 atime, .int .i64 mtime, .int .i64 ctime, .int .i64 next, .int .i64 parent, .int .i64 xattr, .bool true, .slice A n c] 47)).alloc (.cells #[.int .i64 kind, .int .i64 1, .int .i64 perm, .int .i64 uid, .int .i64 gid, .int .i64 links, .int .i64 size, .int .i64 blocks] 3)) w.heap.size 47 (#[.int .i64 kind, .int .i64 perm, .int .i64 uid, .int .i64 gid, .int .i64 links, .int .i64 size, .int .i64 blocks, .int .i64 atime, .int .i64 mtime, .int .i64 ctime, .int .i64 next, .int .i64 parent, .int .i64 xattr, .bool true, .slice A n c] : Array Value).toList := Strc.below (w := w.alloc _) (alloc_last w _) (below_alloc (Below.refl _ _) _)
    have hst2 : Strc ((w.alloc (.cells #[.int .i64 kind, .int .i64 perm, .int .i64 uid, .int .i64 gid, .int .i64 links, .int .i64 size, .int .i64 blocks, .int .i64 atime, .int .i64 mtime, .int .i64 ctime, .int .i64 next, .int .i64 parent, .int .i64 xattr, .bool true, .slice A n c] 47)).alloc (.cells #[.int .i64 kind, .int .i64 1, .int .i64 perm, .int .i64 uid, .int .i64 gid, .int .i64 links, .int .i64 size, .int .i64 blocks] 3)) (w.heap.size + 1) 3 (nums .i64 [kind, 1, perm, uid, gid, links, size, blocks]) := by
      have := alloc_last (w.alloc (.cells #[.int .i64 kind, .int .i64 perm, .int .i64 uid, .int .i64 gid, .int .i64 links, .int .i64 size, .int .i64 blocks, .int .i64 atime, .int .i64 mtime, .int .i64 ctime, .int .i64 next, .int .i64 parent, .int .i64 xattr, .bool true, .slice A n c] 47)) (.cells #[.int .i64 kind, .int .i64 1, .int .i64 perm, .int .i64 uid, .int .i64 gid, .int .i64 links, .int .i64 size, .int .i64 blocks] 3)
      rw [show ∀ o, (w.alloc o).heap.size = w.heap.size + 1 from fun o => by simp] at this
      exact this
    have hb2 := below_alloc (below_alloc (Below.refl w.heap.size w) (.cells #[.int .i64 kind, .int .i64 perm, .int .i64 uid, .int .i64 gid, .int .i64 links, .int .i64 size, .int .i64 blocks, .int .i64 atime, .int .i64 mtime, .int .i64 ctime, .int .i64 next, .int .i64 parent, .int .i64 xattr, .bool true, .slice A n c] 47)) (.cells #[.int .i64 kind, .int .i64 1, .int .i64 perm, .int .i64 uid, .int .i64 gid, .int .i64 links, .int .i64 size, .int .i64 blocks] 3)
    generalize (w.alloc (.cells #[.int .i64 kind, .int .i64 perm, .int .i64 uid, .int .i64 gid, .int .i64 links, .int .i64 size, .int .i64 blocks, .int .i64 atime, .int .i64 mtime, .int .i64 ctime, .int .i64 next, .int .i64 parent, .int .i64 xattr, .bool true, .slice A n c] 47)).alloc (.cells #[.int .i64 kind, .int .i64 1, .int .i64 perm, .int .i64 uid, .int .i64 gid, .int .i64 links, .int .i64 size, .int .i64 blocks] 3) = W2 at hst1 hst2 hb2 ⊢
    obtain ⟨xs, hxs⟩ : ∃ xs : List Int, [kind, 1, perm, uid, gid, links, size, blocks] = xs := ⟨_, rfl⟩
    have hxl : xs.length = 8 := by rw [← hxs]; rfl
    rw [hxs] at hst2
    have HXS := Aside0.mk (And.intro hxs hxl)
    have HS1 := Aside0.mk hst1
    have HS2 := Aside0.mk hst2
    have HB2 := Aside0.mk hb2
    clear hst1 hst2 hb2 hxs hxl
    go_loopg [4, 6, 26] 8 (fun g v u i wr => ∃ k : Nat, k + g = 8 ∧ i = .int .i64 k ∧ Aside0 (Own wr W2.heap.size 2 .i64 v (xs.take k)) ∧ Aside0 (Below W2.heap.size W2 wr))
    case atStart => exact ⟨0, rfl, rfl, ⟨own_of_nil _ _ _ _⟩, ⟨Below.refl _ _⟩⟩
    case round =>
      obtain ⟨k, hk, rfl, HO, HB⟩ := hrel
      cases gk with
      | zero =>
        have hk8 : k = 8 := by omega
        subst hk8
        have hs1 := HS1.out.below HB.out
        have c7 := hs1.cell 7 _ rfl
        have c8 := hs1.cell 8 _ rfl
        have c9 := hs1.cell 9 _ rfl
        have c10 := hs1.cell 10 _ rfl
        have c11 := hs1.cell 11 _ rfl
        have c12 := hs1.cell 12 _ rfl
        have HLN := Aside0.mk (show (xs.take 8).length = 8 by rw [List.length_take, HXS.out.2]; rfl)
        have HTK := Aside0.mk (show xs.take 8 = xs by rw [List.take_of_length_le (by rw [HXS.out.2]; exact Nat.le_refl _)])
        have HOa := Aside0.mk (fun o => HO.out.below (below_alloc (Below.refl _ _) o))
        have HBa := Aside0.mk (fun o => below_alloc HB.out o)
        obtain ⟨e0, he, hz0, hz1, hz2⟩ := info_parts infoInt64
        clear hs1
        go_wp2_with ((with_reducible refine gate_dst (N := 49) rfl ?_); (refine wpList_append_own _ rfl (.tmp 35) (.tmp 48) 184 rfl W2.heap.size 2 e0 (.int .i64 0) 1 8 Tryz.underlying184 he hz0 hz1 hz2 rfl (by decide) _ _ _ rfl (HOa.out _) ⟨wr.heap.size, 0, none⟩ 6 6 [.int .i64 atime, .int .i64 mtime, .int .i64 ctime, .int .i64 next, .int .i64 parent, .int .i64 xattr] rfl ?c6 ?c1 ?c2 ?c3 ?c4 ?c5 ?_; (case c6 => rfl); (case c1 => (intro j u hj; rw [add_plain]; exact cell_alloc wr _ _ j u (by simpa using hj))); (case c2 => simp [Value.oneCell']); (case c3 => (rw [HLN.out]; simp only [maxLen]; omega)); (case c4 => (rw [HLN.out]; omega)); (case c5 => exact (HBa.out _).size); intro v1 w5 hown1 hgrow1 _; have HO5 := Aside0.mk (own_snoc (ys := [atime, mtime, ctime, next, parent, xattr]) hown1 rfl rfl); have HB5 := Aside0.mk (pw_below_grown (HBa.out _) _ (HBa.out _).size hgrow1 (fun g hg => HO.out.base g hg)); clear hown1 hgrow1 hz0 hz1 hz2 he))
        go_ret
        refine ⟨_, rfl, ?_, below_then HB2.out HB2.out.size HB5.out⟩
        have ho := HO5.out
        rw [HTK.out, ← HXS.out.1] at ho
        exact own_any ho (fun g hg => by have := own_base ho g hg; have := HB2.out.size; omega)
      | succ g =>
        have hk8 : k < 8 := by omega
        have i1 : (k : Int) < 8 := by omega
        have hsn : xs.take (k + 1) = xs.take k ++ [xs.getD k 0] := by
          rw [List.take_succ_eq_append_getElem (by rw [HXS.out.2]; exact hk8)]
          simp [List.getD_eq_getElem?_getD, HXS.out.2, hk8]
        have c1 := (HS2.out.below HB.out).cell k _ (nums_at _ _ _ (by rw [HXS.out.2]; exact hk8))
        obtain ⟨y, hy⟩ : ∃ y, xs.getD k 0 = y := ⟨_, rfl⟩
        rw [hy] at c1 hsn
        have HSN := Aside0.mk hsn
        have HLN := Aside0.mk (show (xs.take k).length = k by rw [List.length_take, HXS.out.2]; omega)
        have HOa := Aside0.mk (fun o => HO.out.below (below_alloc (Below.refl _ _) o))
        have HBa := Aside0.mk (fun o => below_alloc HB.out o)
        obtain ⟨e0, he, hz0, hz1, hz2⟩ := info_parts infoInt64
        clear hsn hy
        go_wp2_with ((with_reducible refine gate_dst (N := 33) rfl ?_); (refine wpList_append_own _ rfl (.tmp 30) (.tmp 32) 184 rfl W2.heap.size 2 e0 (.int .i64 0) 1 8 Tryz.underlying184 he hz0 hz1 hz2 rfl (by decide) _ _ _ rfl (HOa.out _) ⟨wr.heap.size, 0, none⟩ 1 1 [.int .i64 y] rfl ?c6 ?c1 ?c2 ?c3 ?c4 ?c5 ?_; (case c6 => rfl); (case c1 => (intro j u hj; rw [add_plain]; exact cell_alloc wr _ _ j u (by simpa using hj))); (case c2 => simp [Value.oneCell']); (case c3 => (rw [HLN.out]; simp only [maxLen]; omega)); (case c4 => (rw [HLN.out]; omega)); (case c5 => exact (HBa.out _).size); intro v1 w5 hown1 hgrow1 _; have HO5 := Aside0.mk (own_snoc (ys := [y]) hown1 rfl rfl); have HB5 := Aside0.mk (pw_below_grown (HBa.out _) _ (HBa.out _).size hgrow1 (fun g hg => HO.out.base g hg)); clear hown1 hgrow1 hz0 hz1 hz2 he))
        go_roundg g
        case measure => omega
        case rel => exact ⟨k + 1, by omega, by go_num, ⟨by rw [HSN.out]; exact HO5.out⟩, HB5⟩
  | false =>
    go_enter Tryz.func125, Tryz.ntmps125
    go_wp2
    have hst1 : Strc ((w.alloc (.cells #[.int .i64 kind, .int .i64 perm, .int .i64 uid, .int .i64 gid, .int .i64 links, .int .i64 size, .int .i64 blocks, .int .i64 atime, .int .i64 mtime, .int .i64 ctime, .int .i64 next, .int .i64 parent, .int .i64 xattr, .bool false, .slice A n c] 47)).alloc (.cells #[.int .i64 kind, .int .i64 0, .int .i64 perm, .int .i64 uid, .int .i64 gid, .int .i64 links, .int .i64 size, .int .i64 blocks] 3)) w.heap.size 47 (#[.int .i64 kind, .int .i64 perm, .int .i64 uid, .int .i64 gid, .int .i64 links, .int .i64 size, .int .i64 blocks, .int .i64 atime, .int .i64 mtime, .int .i64 ctime, .int .i64 next, .int .i64 parent, .int .i64 xattr, .bool false, .slice A n c] : Array Value).toList := Strc.below (w := w.alloc _) (alloc_last w _) (below_alloc (Below.refl _ _) _)
    have hst2 : Strc ((w.alloc (.cells #[.int .i64 kind, .int .i64 perm, .int .i64 uid, .int .i64 gid, .int .i64 links, .int .i64 size, .int .i64 blocks, .int .i64 atime, .int .i64 mtime, .int .i64 ctime, .int .i64 next, .int .i64 parent, .int .i64 xattr, .bool false, .slice A n c] 47)).alloc (.cells #[.int .i64 kind, .int .i64 0, .int .i64 perm, .int .i64 uid, .int .i64 gid, .int .i64 links, .int .i64 size, .int .i64 blocks] 3)) (w.heap.size + 1) 3 (nums .i64 [kind, 0, perm, uid, gid, links, size, blocks]) := by
      have := alloc_last (w.alloc (.cells #[.int .i64 kind, .int .i64 perm, .int .i64 uid, .int .i64 gid, .int .i64 links, .int .i64 size, .int .i64 blocks, .int .i64 atime, .int .i64 mtime, .int .i64 ctime, .int .i64 next, .int .i64 parent, .int .i64 xattr, .bool false, .slice A n c] 47)) (.cells #[.int .i64 kind, .int .i64 0, .int .i64 perm, .int .i64 uid, .int .i64 gid, .int .i64 links, .int .i64 size, .int .i64 blocks] 3)
      rw [show ∀ o, (w.alloc o).heap.size = w.heap.size + 1 from fun o => by simp] at this
      exact this
    have hb2 := below_alloc (below_alloc (Below.refl w.heap.size w) (.cells #[.int .i64 kind, .int .i64 perm, .int .i64 uid, .int .i64 gid, .int .i64 links, .int .i64 size, .int .i64 blocks, .int .i64 atime, .int .i64 mtime, .int .i64 ctime, .int .i64 next, .int .i64 parent, .int .i64 xattr, .bool false, .slice A n c] 47)) (.cells #[.int .i64 kind, .int .i64 0, .int .i64 perm, .int .i64 uid, .int .i64 gid, .int .i64 links, .int .i64 size, .int .i64 blocks] 3)
    generalize (w.alloc (.cells #[.int .i64 kind, .int .i64 perm, .int .i64 uid, .int .i64 gid, .int .i64 links, .int .i64 size, .int .i64 blocks, .int .i64 atime, .int .i64 mtime, .int .i64 ctime, .int .i64 next, .int .i64 parent, .int .i64 xattr, .bool false, .slice A n c] 47)).alloc (.cells #[.int .i64 kind, .int .i64 0, .int .i64 perm, .int .i64 uid, .int .i64 gid, .int .i64 links, .int .i64 size, .int .i64 blocks] 3) = W2 at hst1 hst2 hb2 ⊢
    obtain ⟨xs, hxs⟩ : ∃ xs : List Int, [kind, 0, perm, uid, gid, links, size, blocks] = xs := ⟨_, rfl⟩
    have hxl : xs.length = 8 := by rw [← hxs]; rfl
    rw [hxs] at hst2
    have HXS := Aside0.mk (And.intro hxs hxl)
    have HS1 := Aside0.mk hst1
    have HS2 := Aside0.mk hst2
    have HB2 := Aside0.mk hb2
    clear hst1 hst2 hb2 hxs hxl
    go_loopg [4, 6, 26] 8 (fun g v u i wr => ∃ k : Nat, k + g = 8 ∧ i = .int .i64 k ∧ Aside0 (Own wr W2.heap.size 2 .i64 v (xs.take k)) ∧ Aside0 (Below W2.heap.size W2 wr))
    case atStart => exact ⟨0, rfl, rfl, ⟨own_of_nil _ _ _ _⟩, ⟨Below.refl _ _⟩⟩
    case round =>
      obtain ⟨k, hk, rfl, HO, HB⟩ := hrel
      cases gk with
      | zero =>
        have hk8 : k = 8 := by omega
        subst hk8
        have hs1 := HS1.out.below HB.out
        have c7 := hs1.cell 7 _ rfl
        have c8 := hs1.cell 8 _ rfl
        have c9 := hs1.cell 9 _ rfl
        have c10 := hs1.cell 10 _ rfl
        have c11 := hs1.cell 11 _ rfl
        have c12 := hs1.cell 12 _ rfl
        have HLN := Aside0.mk (show (xs.take 8).length = 8 by rw [List.length_take, HXS.out.2]; rfl)
        have HTK := Aside0.mk (show xs.take 8 = xs by rw [List.take_of_length_le (by rw [HXS.out.2]; exact Nat.le_refl _)])
        have HOa := Aside0.mk (fun o => HO.out.below (below_alloc (Below.refl _ _) o))
        have HBa := Aside0.mk (fun o => below_alloc HB.out o)
        obtain ⟨e0, he, hz0, hz1, hz2⟩ := info_parts infoInt64
        clear hs1
        go_wp2_with ((with_reducible refine gate_dst (N := 49) rfl ?_); (refine wpList_append_own _ rfl (.tmp 35) (.tmp 48) 184 rfl W2.heap.size 2 e0 (.int .i64 0) 1 8 Tryz.underlying184 he hz0 hz1 hz2 rfl (by decide) _ _ _ rfl (HOa.out _) ⟨wr.heap.size, 0, none⟩ 6 6 [.int .i64 atime, .int .i64 mtime, .int .i64 ctime, .int .i64 next, .int .i64 parent, .int .i64 xattr] rfl ?c6 ?c1 ?c2 ?c3 ?c4 ?c5 ?_; (case c6 => rfl); (case c1 => (intro j u hj; rw [add_plain]; exact cell_alloc wr _ _ j u (by simpa using hj))); (case c2 => simp [Value.oneCell']); (case c3 => (rw [HLN.out]; simp only [maxLen]; omega)); (case c4 => (rw [HLN.out]; omega)); (case c5 => exact (HBa.out _).size); intro v1 w5 hown1 hgrow1 _; have HO5 := Aside0.mk (own_snoc (ys := [atime, mtime, ctime, next, parent, xattr]) hown1 rfl rfl); have HB5 := Aside0.mk (pw_below_grown (HBa.out _) _ (HBa.out _).size hgrow1 (fun g hg => HO.out.base g hg)); clear hown1 hgrow1 hz0 hz1 hz2 he))
        go_ret
        refine ⟨_, rfl, ?_, below_then HB2.out HB2.out.size HB5.out⟩
        have ho := HO5.out
        rw [HTK.out, ← HXS.out.1] at ho
        exact own_any ho (fun g hg => by have := own_base ho g hg; have := HB2.out.size; omega)
      | succ g =>
        have hk8 : k < 8 := by omega
        have i1 : (k : Int) < 8 := by omega
        have hsn : xs.take (k + 1) = xs.take k ++ [xs.getD k 0] := by
          rw [List.take_succ_eq_append_getElem (by rw [HXS.out.2]; exact hk8)]
          simp [List.getD_eq_getElem?_getD, HXS.out.2, hk8]
        have c1 := (HS2.out.below HB.out).cell k _ (nums_at _ _ _ (by rw [HXS.out.2]; exact hk8))
        obtain ⟨y, hy⟩ : ∃ y, xs.getD k 0 = y := ⟨_, rfl⟩
        rw [hy] at c1 hsn
        have HSN := Aside0.mk hsn
        have HLN := Aside0.mk (show (xs.take k).length = k by rw [List.length_take, HXS.out.2]; omega)
        have HOa := Aside0.mk (fun o => HO.out.below (below_alloc (Below.refl _ _) o))
        have HBa := Aside0.mk (fun o => below_alloc HB.out o)
        obtain ⟨e0, he, hz0, hz1, hz2⟩ := info_parts infoInt64
        clear hsn hy
        go_wp2_with ((with_reducible refine gate_dst (N := 33) rfl ?_); (refine wpList_append_own _ rfl (.tmp 30) (.tmp 32) 184 rfl W2.heap.size 2 e0 (.int .i64 0) 1 8 Tryz.underlying184 he hz0 hz1 hz2 rfl (by decide) _ _ _ rfl (HOa.out _) ⟨wr.heap.size, 0, none⟩ 1 1 [.int .i64 y] rfl ?c6 ?c1 ?c2 ?c3 ?c4 ?c5 ?_; (case c6 => rfl); (case c1 => (intro j u hj; rw [add_plain]; exact cell_alloc wr _ _ j u (by simpa using hj))); (case c2 => simp [Value.oneCell']); (case c3 => (rw [HLN.out]; simp only [maxLen]; omega)); (case c4 => (rw [HLN.out]; omega)); (case c5 => exact (HBa.out _).size); intro v1 w5 hown1 hgrow1 _; have HO5 := Aside0.mk (own_snoc (ys := [y]) hown1 rfl rfl); have HB5 := Aside0.mk (pw_below_grown (HBa.out _) _ (HBa.out _).size hgrow1 (fun g hg => HO.out.base g hg)); clear hown1 hgrow1 hz0 hz1 hz2 he))
        go_roundg g
        case measure => omega
        case rel => exact ⟨k + 1, by omega, by go_num, ⟨by rw [HSN.out]; exact HO5.out⟩, HB5⟩
def numOk (r : Ino) (k : Nat) : Bool := decide ((mostL r.kind).getD k 0 < 0) || (decide (0 ≤ r.nums.getD k 0) && decide (r.nums.getD k 0 ≤ (mostL r.kind).getD k 0))
def inoI (r : Ino) (rl : Nat) : Int :=
  if (List.range 14).all (fun k => numOk r k) = true ∧ r.kind ≠ 0 ∧ rl = 48 ∧ (r.kind = 2 ∨ (r.parent = 0 ∧ r.indexed = false)) then 0 else 22
theorem fieldC_len (kind : Int) : (fieldC kind).length = 28 := rfl
theorem field_at (kind : Int) (k : Nat) (h : k < 14) : (fieldC kind).getD (k * 2) 0 = wideL.getD k 0 ∧ (fieldC kind).getD (k * 2 + 1) 0 = (mostL kind).getD k 0 := by
  have : k = 0 ∨ k = 1 ∨ k = 2 ∨ k = 3 ∨ k = 4 ∨ k = 5 ∨ k = 6 ∨ k = 7 ∨ k = 8 ∨ k = 9 ∨ k = 10 ∨ k = 11 ∨ k = 12 ∨ k = 13 := by omega
  rcases this with h | h | h | h | h | h | h | h | h | h | h | h | h | h <;> subst h <;> exact ⟨rfl, rfl⟩
theorem inoI_bad {r : Ino} {n k : Nat} (hk : k < 14) (h : numOk r k = false) : inoI r n = 22 := by
  unfold inoI
  rw [if_neg]
  intro h2
  have := List.all_eq_true.1 h2.1 k (List.mem_range.2 hk)
  rw [h] at this
  cases this
set_option maxHeartbeats 4000000 in
set_option maxRecDepth 100000 in
theorem icheck_calls (kind perm uid gid links size blocks atime mtime ctime next parent xattr : Int) (indexed : Bool) (A : Option Addr) (n c : Nat) (w : World) :
    Calls Tryz.prog 61 #[.agg #[.int .i64 kind, .int .i64 perm, .int .i64 uid, .int .i64 gid, .int .i64 links, .int .i64 size, .int .i64 blocks, .int .i64 atime, .int .i64 mtime, .int .i64 ctime, .int .i64 next, .int .i64 parent, .int .i64 xattr, .bool indexed, .slice A n c]] w fun e w' => e = .returned (.int .i64 (inoI ⟨kind, perm, uid, gid, links, size, blocks, atime, mtime, ctime, next, parent, xattr, indexed⟩ n)) ∧ Below w.heap.size w w' := by
  obtain ⟨r, hr⟩ : ∃ r : Ino, (⟨kind, perm, uid, gid, links, size, blocks, atime, mtime, ctime, next, parent, xattr, indexed⟩ : Ino) = r := ⟨_, rfl⟩
  rw [hr]
  obtain ⟨q, hq⟩ : ∃ q, inoI r n = q := ⟨_, rfl⟩
  rw [hq]
  have HNU := Aside0.mk (fun W => inums_calls kind perm uid gid links size blocks atime mtime ctime next parent xattr indexed A n c W)
  rw [hr] at HNU
  have HFI := Aside0.mk (fun W => fields_calls kind W)
  have hrk : r.kind = kind := by rw [← hr]
  have HRK := Aside0.mk hrk
  have HR := Aside0.mk hr
  have HQ := Aside0.mk hq
  clear hrk hr hq
  go_enter Tryz.func61, Tryz.ntmps61
  go_wp2_with fail
  have hst1 := alloc_last w (.cells #[.int .i64 kind, .int .i64 perm, .int .i64 uid, .int .i64 gid, .int .i64 links, .int .i64 size, .int .i64 blocks, .int .i64 atime, .int .i64 mtime, .int .i64 ctime, .int .i64 next, .int .i64 parent, .int .i64 xattr, .bool indexed, .slice A n c] 47)
  have hb1 := below_alloc (Below.refl w.heap.size w) (.cells #[.int .i64 kind, .int .i64 perm, .int .i64 uid, .int .i64 gid, .int .i64 links, .int .i64 size, .int .i64 blocks, .int .i64 atime, .int .i64 mtime, .int .i64 ctime, .int .i64 next, .int .i64 parent, .int .i64 xattr, .bool indexed, .slice A n c] 47)
  generalize w.alloc (.cells #[.int .i64 kind, .int .i64 perm, .int .i64 uid, .int .i64 gid, .int .i64 links, .int .i64 size, .int .i64 blocks, .int .i64 atime, .int .i64 mtime, .int .i64 ctime, .int .i64 next, .int .i64 parent, .int .i64 xattr, .bool indexed, .slice A n c] 47) = W1 at hst1 hb1 ⊢
  have hst : Strc W1 w.heap.size 47 [.int .i64 kind, .int .i64 perm, .int .i64 uid, .int .i64 gid, .int .i64 links, .int .i64 size, .int .i64 blocks, .int .i64 atime, .int .i64 mtime, .int .i64 ctime, .int .i64 next, .int .i64 parent, .int .i64 xattr, .bool indexed, .slice A n c] := hst1
  have HST := Aside0.mk hst
  have HB1 := Aside0.mk hb1
  clear hst hst1 hb1
  refine (HNU.out W1).mono ?_
  rintro e W2 ⟨v2, rfl, ho2, hb2⟩
  obtain ⟨A2, c2, rfl, hc2, hk2⟩ := ho2.reads
  have hst2 := HST.out.below hb2
  have k0 := hst2.cell 0 _ rfl
  have HST2 := Aside0.mk hst2
  have HB2 := Aside0.mk (below_then HB1.out HB1.out.size hb2)
  have HK2 := Aside0.mk hk2
  clear hst2 hb2 hk2 ho2
  dsimp only
  go_wp2_with fail
  refine (HFI.out W2).mono ?_
  rintro e W3 ⟨gf, cf, rfl, hgf, hcf, hs3, hb3⟩
  have HS3 := Aside0.mk hs3
  have HB3 := Aside0.mk hb3
  clear hs3 hb3 k0
  dsimp only
  go_wp2
  have hnl : r.nums.length = 14 := rfl
  rw [hnl] at hc2 ⊢
  go_loopg [12] 14 (fun g i wr => ∃ k : Nat, k + g = 14 ∧ i = .int .i64 k ∧ Aside0 ((List.range k).all (fun j => numOk r j) = true) ∧ Aside0 (Below W3.heap.size W3 wr))
  case atStart => exact ⟨0, rfl, rfl, ⟨rfl⟩, ⟨Below.refl _ _⟩⟩
  case round =>
    obtain ⟨k, hk, rfl, HA, HB⟩ := hrel
    cases gk with
    | zero =>
      have hk14 : k = 14 := by omega
      subst hk14
      have hs := HST2.out.below (below_then HB3.out HB3.out.size HB.out)
      have d0 := hs.cell 0 _ rfl
      have d14 := hs.cell 14 _ rfl
      have d11 := hs.cell 11 _ rfl
      have d13 := hs.cell 13 _ rfl
      have HPA := Aside0.mk (show r.parent = parent by rw [← HR.out])
      have HIX := Aside0.mk (show r.indexed = indexed by rw [← HR.out])
      clear hs
      by_cases z0 : kind = 0
      · have z0b : (kind == 0) = true := by simpa using z0
        have hq2 : q = 22 := by rw [← HQ.out]; unfold inoI; rw [if_neg (by rw [HRK.out, HPA.out, HIX.out]; simp [z0])]
        subst hq2
        go_wp2
        go_ret
        exact ⟨rfl, below_then HB2.out HB2.out.size (below_then HB3.out HB3.out.size HB.out)⟩
      · have z0b : (kind == 0) = false := by simpa using z0
        by_cases n0 : n = 48
        · have n1 : ((n : Int) != 48) = false := by simp; omega
          by_cases k2 : kind = 2
          · have k2b : (kind != 2) = false := by simpa using k2
            have hq2 : q = 0 := by rw [← HQ.out]; unfold inoI; rw [if_pos ⟨HA.out, by rw [HRK.out]; exact z0, n0, by rw [HRK.out, HPA.out, HIX.out]; simp [k2]⟩]
            subst hq2
            go_wp2
            go_ret
            exact ⟨rfl, below_then HB2.out HB2.out.size (below_then HB3.out HB3.out.size HB.out)⟩
          · have k2b : (kind != 2) = true := by simpa using k2
            by_cases p0 : parent = 0
            · have p0b : (parent != 0) = false := by simpa using p0
              cases indexed with
              | true =>
                have hq2 : q = 22 := by rw [← HQ.out]; unfold inoI; rw [if_neg (by rw [HRK.out, HPA.out, HIX.out]; simp [k2, p0])]
                subst hq2
                go_wp2
                go_ret
                exact ⟨rfl, below_then HB2.out HB2.out.size (below_then HB3.out HB3.out.size HB.out)⟩
              | false =>
                have hq2 : q = 0 := by rw [← HQ.out]; unfold inoI; rw [if_pos ⟨HA.out, by rw [HRK.out]; exact z0, n0, by rw [HRK.out, HPA.out, HIX.out]; simp [k2, p0]⟩]
                subst hq2
                go_wp2
                go_ret
                exact ⟨rfl, below_then HB2.out HB2.out.size (below_then HB3.out HB3.out.size HB.out)⟩
            · have p0b : (parent != 0) = true := by simpa using p0
              have hq2 : q = 22 := by rw [← HQ.out]; unfold inoI; rw [if_neg (by rw [HRK.out, HPA.out, HIX.out]; simp [k2, p0])]
              subst hq2
              go_wp2
              go_ret
              exact ⟨rfl, below_then HB2.out HB2.out.size (below_then HB3.out HB3.out.size HB.out)⟩
        · have n1 : ((n : Int) != 48) = true := by simp; omega
          have hq2 : q = 22 := by rw [← HQ.out]; unfold inoI; rw [if_neg (by rw [HRK.out, HPA.out, HIX.out]; simp [n0])]
          subst hq2
          go_wp2
          go_ret
          exact ⟨rfl, below_then HB2.out HB2.out.size (below_then HB3.out HB3.out.size HB.out)⟩
    | succ g =>
      have hk14 : k < 14 := by omega
      have i1 : (k : Int) < 14 := by omega
      have hk3 : Kd.C (Kd.int .i64) wr A2 r.nums.length r.nums := Kd.C_below (Kd.C_below HK2.out HB3.out) HB.out
      obtain ⟨ad, rfl, hx⟩ := C_int_at hk3 k (by rw [hnl]; exact hk14)
      have hs3 := HS3.out.below HB.out
      obtain ⟨f0, f1⟩ := field_at kind k hk14
      have c0 := hs3.cell (k * 2) _ (nums_at _ _ _ (by rw [fieldC_len]; omega))
      have c1 := hs3.cell (k * 2 + 1) _ (nums_at _ _ _ (by rw [fieldC_len]; omega))
      obtain ⟨y, hy⟩ : ∃ y, (fieldC kind).getD (k * 2) 0 = y := ⟨_, rfl⟩
      obtain ⟨m, hm⟩ : ∃ m, (mostL kind).getD k 0 = m := ⟨_, rfl⟩
      obtain ⟨x, hxx⟩ : ∃ x, r.nums.getD k 0 = x := ⟨_, rfl⟩
      rw [hy] at c0
      rw [f1, hm] at c1
      rw [hxx] at hx
      have HOK := Aside0.mk (show numOk r k = (decide (m < 0) || (decide (0 ≤ x) && decide (x ≤ m))) by unfold numOk; rw [HRK.out, hm, hxx])
      clear f0 f1 hy hm hxx hs3 hk3
      have e1 := cell_alloc wr #[.int .i64 y, .int .i64 m] 189 1 _ rfl
      have e2 := pw_cell_below (below_alloc (Below.refl wr.heap.size wr) (.cells #[.int .i64 y, .int .i64 m] 189)) hx
      rcases Int.lt_or_le m 0 with m0 | m0
      · have m1 : ¬ m ≥ 0 := by omega
        have hok : numOk r k = true := by rw [HOK.out]; simp; omega
        have HA1 := Aside0.mk (show (List.range (k + 1)).all (fun j => numOk r j) = true by rw [List.range_succ, List.all_append, HA.out]; simp [hok])
        clear hok
        go_upto_region 5 with fail
        refine wp_region_in [0, 1, 0, 0, 0, 0, 0, 1, 0, 0, 0, 0, 0, 1, 0, 1, 0, 0, 0] [] (fun w' => w'.cell? ⟨wr.heap.size, 1, none⟩ = some (.int .i64 m) ∧ w'.cell? (ad.add k) = some (.int .i64 x)) (by kernel_rfl) rfl (by kernel_rfl) (fun _ _ _ _ h => h) ⟨e1, e2⟩ ?_
        iterate 19 (first
          | (refine in_off0 (by rfl) ?_; simp only [Act.put, stA, stZ, stS, i64_w, i32_w])
          | (refine in_off1 (by rfl) ?_; simp only [Act.put, stA, stZ, stS, i64_w, i32_w])
          | (refine in_0 (v := ?_) (by rfl) rfl ?_ (a' := ?_) ?_ ?_; rotate_left; (intro w'; go_simp; with_reducible rfl); rotate_left; (simp only [Act.put, stA, stZ, stS, i64_w, i32_w]; rfl))
          | (refine in_1 (v := ?_) (by rfl) rfl ?_ (a' := ?_) ?_ ?_; rotate_left; (rintro w' hs; go_split_ands; go_simp; with_reducible rfl); rotate_left; (simp only [Act.put, stA, stZ, stS, i64_w, i32_w]; rfl)))
        refine in_nil ?_
        go_wp2
        go_roundg g
        case measure => omega
        case rel => exact ⟨k + 1, by omega, by go_num, HA1, ⟨(below_alloc HB.out _).drew⟩⟩
      · have m1 : m ≥ 0 := m0
        rcases Int.lt_or_le x 0 with x0 | x0
        · have x1 : x < 0 := x0
          have hq22 : q = 22 := by rw [← HQ.out]; exact inoI_bad hk14 (by rw [HOK.out]; simp; omega)
          subst hq22
          go_upto_region 5 with fail
          refine wp_region_in [0, 1, 0, 0, 0, 0, 0, 1, 0, 0, 0, 0, 0, 1, 0, 1, 0, 0, 0] [] (fun w' => w'.cell? ⟨wr.heap.size, 1, none⟩ = some (.int .i64 m) ∧ w'.cell? (ad.add k) = some (.int .i64 x)) (by kernel_rfl) rfl (by kernel_rfl) (fun _ _ _ _ h => h) ⟨e1, e2⟩ ?_
          iterate 19 (first
            | (refine in_off0 (by rfl) ?_; simp only [Act.put, stA, stZ, stS, i64_w, i32_w])
            | (refine in_off1 (by rfl) ?_; simp only [Act.put, stA, stZ, stS, i64_w, i32_w])
            | (refine in_0 (v := ?_) (by rfl) rfl ?_ (a' := ?_) ?_ ?_; rotate_left; (intro w'; go_simp; with_reducible rfl); rotate_left; (simp only [Act.put, stA, stZ, stS, i64_w, i32_w]; rfl))
            | (refine in_1 (v := ?_) (by rfl) rfl ?_ (a' := ?_) ?_ ?_; rotate_left; (rintro w' hs; go_split_ands; go_simp; with_reducible rfl); rotate_left; (simp only [Act.put, stA, stZ, stS, i64_w, i32_w]; rfl)))
          refine in_nil ?_
          go_wp2
          go_ret
          exact ⟨rfl, below_then HB2.out HB2.out.size (below_then HB3.out HB3.out.size (below_alloc HB.out _).drew)⟩
        · rcases Int.lt_or_le m x with y0 | y0
          · have x1 : ¬ x < 0 := by omega
            have x2 : x > m := y0
            have hq22 : q = 22 := by rw [← HQ.out]; exact inoI_bad hk14 (by rw [HOK.out]; simp; omega)
            subst hq22
            go_upto_region 5 with fail
            refine wp_region_in [0, 1, 0, 0, 0, 0, 0, 1, 0, 0, 0, 0, 0, 1, 0, 1, 0, 0, 0] [] (fun w' => w'.cell? ⟨wr.heap.size, 1, none⟩ = some (.int .i64 m) ∧ w'.cell? (ad.add k) = some (.int .i64 x)) (by kernel_rfl) rfl (by kernel_rfl) (fun _ _ _ _ h => h) ⟨e1, e2⟩ ?_
            iterate 19 (first
              | (refine in_off0 (by rfl) ?_; simp only [Act.put, stA, stZ, stS, i64_w, i32_w])
              | (refine in_off1 (by rfl) ?_; simp only [Act.put, stA, stZ, stS, i64_w, i32_w])
              | (refine in_0 (v := ?_) (by rfl) rfl ?_ (a' := ?_) ?_ ?_; rotate_left; (intro w'; go_simp; with_reducible rfl); rotate_left; (simp only [Act.put, stA, stZ, stS, i64_w, i32_w]; rfl))
              | (refine in_1 (v := ?_) (by rfl) rfl ?_ (a' := ?_) ?_ ?_; rotate_left; (rintro w' hs; go_split_ands; go_simp; with_reducible rfl); rotate_left; (simp only [Act.put, stA, stZ, stS, i64_w, i32_w]; rfl)))
            refine in_nil ?_
            go_wp2
            go_ret
            exact ⟨rfl, below_then HB2.out HB2.out.size (below_then HB3.out HB3.out.size (below_alloc HB.out _).drew)⟩
          · have x1 : ¬ x < 0 := by omega
            have x2 : ¬ x > m := by omega
            have hok : numOk r k = true := by rw [HOK.out]; simp; omega
            have HA1 := Aside0.mk (show (List.range (k + 1)).all (fun j => numOk r j) = true by rw [List.range_succ, List.all_append, HA.out]; simp [hok])
            clear hok
            go_upto_region 5 with fail
            refine wp_region_in [0, 1, 0, 0, 0, 0, 0, 1, 0, 0, 0, 0, 0, 1, 0, 1, 0, 0, 0] [] (fun w' => w'.cell? ⟨wr.heap.size, 1, none⟩ = some (.int .i64 m) ∧ w'.cell? (ad.add k) = some (.int .i64 x)) (by kernel_rfl) rfl (by kernel_rfl) (fun _ _ _ _ h => h) ⟨e1, e2⟩ ?_
            iterate 19 (first
              | (refine in_off0 (by rfl) ?_; simp only [Act.put, stA, stZ, stS, i64_w, i32_w])
              | (refine in_off1 (by rfl) ?_; simp only [Act.put, stA, stZ, stS, i64_w, i32_w])
              | (refine in_0 (v := ?_) (by rfl) rfl ?_ (a' := ?_) ?_ ?_; rotate_left; (intro w'; go_simp; with_reducible rfl); rotate_left; (simp only [Act.put, stA, stZ, stS, i64_w, i32_w]; rfl))
              | (refine in_1 (v := ?_) (by rfl) rfl ?_ (a' := ?_) ?_ ?_; rotate_left; (rintro w' hs; go_split_ands; go_simp; with_reducible rfl); rotate_left; (simp only [Act.put, stA, stZ, stS, i64_w, i32_w]; rfl)))
            refine in_nil ?_
            go_wp2
            go_roundg g
            case measure => omega
            case rel => exact ⟨k + 1, by omega, by go_num, HA1, ⟨(below_alloc HB.out _).drew⟩⟩
set_option maxHeartbeats 1000000 in
set_option maxRecDepth 100000 in
theorem sreadbad_calls {D : Nat → Prop} {s0 : Nat} {s : St} (n : Nat) (w : World) (h : StIs w D s0 s) (hn : s.now.length ≤ n) :
    Calls Tryz.prog 20 #[.pointer (some ⟨s0, 0, none⟩), .int .i64 n] w fun e w' => e = .returned (.tuple #[.slice none 0 0, .int .i64 5]) ∧ w = w' := by
  obtain ⟨Dd, M, Mc, R, p0, L, m, room, ns, gs, cap, bc, bw, bh, uv, found, asked, fc, fh, us, h, rfl⟩ := h
  rw [h.view.1] at hn
  obtain ⟨hd0, hd1, hd2, hdp, hdl⟩ := h.disk.n
  have hc0 := h.st.cell 0 _ rfl
  have hdec : decide (0 ≤ (n : Int) ∧ (n : Int) < (L.length : Int)) = false := by simp; omega
  have hhas := shas_calls (x := (n : Int)) hc0 hd0
  rw [hdec] at hhas
  have HHAS := Aside0.mk hhas
  clear h hhas hdec hc0 hd0
  go_enter Tryz.func20, Tryz.ntmps20
  go_wp2_with (go_at_call 54; refine HHAS.out.mono ?_; rintro e w' ⟨rfl, rfl⟩)
  go_ret2
  exact ⟨rfl, rfl⟩
def xlistI (now : List (List Int)) (r : Ino) (rl : Nat) : List Att × Int :=
  if inoI r rl ≠ 0 then ([], 22) else
  if r.xattr = 0 then ([], 0) else
  if (xunpI (now.getD r.xattr.toNat []) r.xattr).2 ≠ 0 ∨ (xunpI (now.getD r.xattr.toNat []) r.xattr).1 = [] then ([], 117) else
  ((xunpI (now.getD r.xattr.toNat []) r.xattr).1, 0)
def XListPost (D : Nat → Prop) (s0 : Nat) (s : St) (r : List Att × Int) (w : World) (e : Ending) (w' : World) : Prop :=
  ∃ D' v b, e = .returned (.tuple #[v, .int .i64 r.2]) ∧ OwnA w' b v r.1 ∧ (∀ k, D' k → k < b) ∧ w.heap.size ≤ b ∧ StIs w' D' s0 s ∧ (∀ k, D' k → D k ∨ w.heap.size ≤ k) ∧ Mod w w' D
theorem OwnA.mod {w w1 : World} {b : Nat} {S : Nat → Prop} {v : Value} {l : List Att} (h : OwnA w b v l) (hm : Mod w w1 S) (hn : ∀ k, b ≤ k → k < w.heap.size → ¬ S k) : OwnA w1 b v l := by
  obtain ⟨vs, h1, h2, h3⟩ := h
  exact ⟨vs, h1, own_mod h2 hm (fun g hg => hn g (own_base h2 g hg) (own_lt h2 g hg)), fun j hj => ⟨own_mod (h3 j hj).1 hm (fun g hg => hn g (own_base (h3 j hj).1 g hg) (own_lt (h3 j hj).1 g hg)), (h3 j hj).2⟩⟩
theorem xunpI_zero {l : List Int} {s : Int} : (xunpI l s).2 = 0 ∨ xunpI l s = ([], 117) := by
  unfold xunpI
  split
  · exact .inr rfl
  · split
    · exact .inr rfl
    · split
      · exact .inl rfl
      · exact .inr rfl
theorem xreadI_len : ∀ (g : Nat) (r : List Int) (out o : List Att), xreadI g r out = some o → o.length = out.length + g
  | 0, _, out, o, h => by simp only [xreadI, Option.some.injEq] at h; rw [h]; rfl
  | g + 1, r, out, o, h => by
    rw [xreadI] at h
    split at h
    · cases h
    · rw [xreadI_len g _ _ o h, List.length_append]
      simp
      omega
theorem xunpI_len {l : List Int} (s : Int) (h : allB l) : (xunpI l s).1.length ≤ 255 := by
  unfold xunpI
  split
  · simp
  · split
    · simp
    · rename_i out hr
      have h1 := xreadI_len _ _ _ _ hr
      have h2 := allB_get h 1
      rw [List.length_nil, Nat.zero_add] at h1
      split
      · dsimp only
        omega
      · simp
theorem inoI_zero {r : Ino} {n : Nat} (h : inoI r n = 0) : 0 ≤ r.xattr ∧ r.xattr ≤ 65535 ∧ n = 48 := by
  unfold inoI at h
  split at h
  · rename_i hh
    have h13 := List.all_eq_true.1 hh.1 13 (by simp)
    have e1 : (mostL r.kind).getD 13 0 = 65535 := rfl
    have e2 : r.nums.getD 13 0 = r.xattr := rfl
    unfold numOk at h13
    rw [e1, e2] at h13
    simp at h13
    exact ⟨h13.1, h13.2, hh.2.2.1⟩
  · cases h
set_option maxHeartbeats 4000000 in
set_option maxRecDepth 100000 in
theorem xlist_calls {D : Nat → Prop} {s0 : Nat} {s : St} (r : Ino) (A : Option Addr) (n c : Nat) (w : World) (h : StIs w D s0 s) :
    Calls Tryz.prog 26 #[.pointer (some ⟨s0, 0, none⟩), .agg (r.cells (.slice A n c)).toArray] w (XListPost D s0 s (xlistI s.now r n) w) := by
  have HCK := Aside0.mk (fun W : World => icheck_calls r.kind r.perm r.uid r.gid r.links r.size r.blocks r.atime r.mtime r.ctime r.next r.parent r.xattr r.indexed A n c W)
  obtain ⟨res, hres⟩ : ∃ res, xlistI s.now r n = res := ⟨_, rfl⟩
  have hr0 : inoI r n ≠ 0 → res = ([], 22) := fun h => by rw [← hres]; unfold xlistI; rw [if_pos h]
  have hr1 : inoI r n = 0 → r.xattr = 0 → res = ([], 0) := fun h h2 => by rw [← hres]; unfold xlistI; rw [if_neg (fun h' => h' h), if_pos h2]
  have hr2 : inoI r n = 0 → r.xattr ≠ 0 → res = if (xunpI (s.now.getD r.xattr.toNat []) r.xattr).2 ≠ 0 ∨ (xunpI (s.now.getD r.xattr.toNat []) r.xattr).1 = [] then ([], 117) else ((xunpI (s.now.getD r.xattr.toNat []) r.xattr).1, 0) := fun h h2 => by rw [← hres]; unfold xlistI; rw [if_neg (fun h' => h' h), if_neg h2]
  have hz := inoI_zero (r := r) (n := n)
  rw [hres]
  clear hres
  have HH := Aside0.mk h
  have HR := Aside0.mk (And.intro hr0 (And.intro hr1 hr2))
  have hsub := h.sub
  have HSUB := Aside0.mk hsub
  have hlen := h.len
  have HBLK := Aside0.mk (fun k hk => h.blk k hk)
  clear h hr0 hr1 hr2 hsub
  obtain ⟨kind, perm, uid, gid, links, size, blocks, atime, mtime, ctime, next, parent, xattr, indexed⟩ := r
  dsimp only at HCK hz HR
  obtain ⟨iv, hiv⟩ : ∃ iv, inoI ⟨kind, perm, uid, gid, links, size, blocks, atime, mtime, ctime, next, parent, xattr, indexed⟩ n = iv := ⟨_, rfl⟩
  rw [hiv] at HCK HR hz
  clear hiv
  unfold Ino.cells
  dsimp only
  go_enter Tryz.func26, Tryz.ntmps26
  go_upto_region 1 with fail
  have hs0 : Strc (w.alloc (.cells #[.int .i64 kind, .int .i64 perm, .int .i64 uid, .int .i64 gid, .int .i64 links, .int .i64 size, .int .i64 blocks, .int .i64 atime, .int .i64 mtime, .int .i64 ctime, .int .i64 next, .int .i64 parent, .int .i64 xattr, .bool indexed, .slice A n c] 47)) w.heap.size 47 [.int .i64 kind, .int .i64 perm, .int .i64 uid, .int .i64 gid, .int .i64 links, .int .i64 size, .int .i64 blocks, .int .i64 atime, .int .i64 mtime, .int .i64 ctime, .int .i64 next, .int .i64 parent, .int .i64 xattr, .bool indexed, .slice A n c] := alloc_last w _
  have hb0 := below_alloc (Below.refl w.heap.size w) (.cells #[.int .i64 kind, .int .i64 perm, .int .i64 uid, .int .i64 gid, .int .i64 links, .int .i64 size, .int .i64 blocks, .int .i64 atime, .int .i64 mtime, .int .i64 ctime, .int .i64 next, .int .i64 parent, .int .i64 xattr, .bool indexed, .slice A n c] 47)
  generalize w.alloc (.cells #[.int .i64 kind, .int .i64 perm, .int .i64 uid, .int .i64 gid, .int .i64 links, .int .i64 size, .int .i64 blocks, .int .i64 atime, .int .i64 mtime, .int .i64 ctime, .int .i64 next, .int .i64 parent, .int .i64 xattr, .bool indexed, .slice A n c] 47) = w0 at hs0 hb0 ⊢
  obtain ⟨q, hq⟩ : ∃ q, w.heap.size = q := ⟨_, rfl⟩
  rw [hq] at hs0 ⊢
  have HQ := Aside0.mk hq
  clear hq
  have HB0 := Aside0.mk hb0
  have HS0 := Aside0.mk hs0
  have c0 := hs0.cell 0 _ rfl
  have c1 := hs0.cell 1 _ rfl
  have c2 := hs0.cell 2 _ rfl
  have c3 := hs0.cell 3 _ rfl
  have c4 := hs0.cell 4 _ rfl
  have c5 := hs0.cell 5 _ rfl
  have c6 := hs0.cell 6 _ rfl
  have c7 := hs0.cell 7 _ rfl
  have c8 := hs0.cell 8 _ rfl
  have c9 := hs0.cell 9 _ rfl
  have c10 := hs0.cell 10 _ rfl
  have c11 := hs0.cell 11 _ rfl
  have c12 := hs0.cell 12 _ rfl
  have c13 := hs0.cell 13 _ rfl
  have c14 := hs0.cell 14 _ rfl
  clear hs0 hb0
  go_wp2_with fail
  refine (HCK.out w0).mono ?_
  rintro e w1 ⟨rfl, hb1⟩
  have HB1 := Aside0.mk (below_then HB0.out HB0.out.size hb1)
  have hs1 := HS0.out.below hb1
  have HS1 := Aside0.mk hs1
  have c12' := hs1.cell 12 _ rfl
  clear c0 c1 c2 c3 c4 c5 c6 c7 c8 c9 c10 c11 c12 c13 c14 hs1 hb1 HS0 HB0 HCK
  dsimp only
  by_cases hiv : iv = 0
  · subst hiv
    obtain ⟨hx0, hx1, hn48⟩ := hz rfl
    by_cases hxa : xattr = 0
    · have hrr := HR.out.2.1 rfl hxa
      have HRR := Aside0.mk hrr
      subst hxa
      clear hrr HR
      go_wp2
      go_ret2
      rw [HRR.out]
      exact ⟨D, _, w1.heap.size, rfl, OwnA.nil _ _, fun k hk => by have := HSUB.out k hk; have := HB1.out.size; omega, HB1.out.size, HH.out.below HB1.out, fun _ => .inl, Mod.of_below HB1.out D⟩
    · have hrr := HR.out.2.2 rfl hxa
      obtain ⟨X, rfl⟩ : ∃ X : Nat, xattr = X := ⟨xattr.toNat, by omega⟩
      rw [Int.toNat_natCast] at hrr
      have hX0 : ¬ X = 0 := by omega
      have hX0i : ¬ (X : Int) = 0 := by omega
      have hXb : ((X : Int) == 0) = false := by rw [beq_eq_false_iff_ne]; omega
      have hX1 : X < 65536 := by omega
      have huz := xunpI_zero (l := s.now.getD X []) (s := X)
      obtain ⟨bl, hbl⟩ : ∃ bl, s.now.getD X [] = bl := ⟨_, rfl⟩
      rw [hbl] at hrr huz
      have HRR := Aside0.mk hrr
      have HUZ := Aside0.mk huz
      have HBL := Aside0.mk hbl
      clear hrr huz hbl HR hx0 hx1 hxa
      by_cases hXn : X < s.now.length
      · have hblk := HBLK.out X hXn
        rw [HBL.out] at hblk
        have HBK := Aside0.mk hblk
        have hrd := sread_calls X w1 (HH.out.below HB1.out) hXn
        rw [HBL.out] at hrd
        have HRD := Aside0.mk hrd
        clear hblk hrd
        go_wp2_with fail
        refine HRD.out.mono ?_
        rintro e w2 ⟨D2, g2, cc2, rfl, h2, hD2, hm2, hg2, hgD2, hc2, hrow2⟩
        have hup := xunpack_calls (some ⟨g2, 0, none⟩) cc2 (X : Int) bl w2 (hrow2.reads (by rw [HBK.out.1]; omega)) (by rw [HBK.out.1]; exact hc2) (by omega) (by omega) HBK.out.2
        rw [HBK.out.1] at hup
        have HX2 := Aside0.mk (And.intro h2 (And.intro hD2 hm2))
        have hq1 : q < w1.heap.size := HS1.out.lt
        have hqD : ¬ D q := fun hd => by have := HSUB.out q hd; have := HQ.out; omega
        have c12 := (HS1.out.mod hm2 hqD).cell 12 _ rfl
        obtain ⟨⟨ul, ue⟩, hu⟩ : ∃ u, xunpI bl X = u := ⟨_, rfl⟩
        have HU0 := Aside0.mk hu
        rw [hu] at hup HRR HUZ
        have HUP := Aside0.mk hup
        clear c12' h2 hD2 hm2 hrow2 hup hu hgD2
        dsimp only
        go_wp2_with fail
        refine HUP.out.mono ?_
        rintro e w3 ⟨v3, rfl, ho3, hb3⟩
        have HO3 := Aside0.mk ho3
        have HB3 := Aside0.mk hb3
        have hD3 : ∀ k, D2 k → D k ∨ w.heap.size ≤ k := fun k hk => (HX2.out.2.1 k hk).imp id (fun h => Nat.le_trans HB1.out.size h)
        have hm3 : Mod w w3 D := ((Mod.of_below HB1.out D).trans HX2.out.2.2 (fun _ _ e => e)).below hb3
        have hws : w.heap.size ≤ w2.heap.size := Nat.le_trans HB1.out.size HX2.out.2.2.size
        have HF := Aside0.mk (And.intro hD3 (And.intro hm3 hws))
        dsimp only at ho3 ⊢
        have hlen3 : ul.length ≤ 1125899906842624 := by
          have h1 := xunpI_len (X : Int) HBK.out.2
          rw [HU0.out] at h1
          dsimp only at h1
          omega
        obtain ⟨A3, c3, rfl, hc3, _⟩ := ho3.reads hlen3
        clear c12 hb3 hD3 hm3 hws ho3
        by_cases hue : ue = 0
        · subst hue
          by_cases hul : ul.length = 0
          · have hrr := HRR.out
            have hul' : ul = [] := List.eq_nil_of_length_eq_zero hul
            rw [if_pos (.inr hul')] at hrr
            have HR4 := Aside0.mk hrr
            clear hrr HRR
            go_wp2
            go_ret2
            rw [HR4.out]
            exact ⟨D2, _, w2.heap.size, rfl, OwnA.nil _ _, fun k hk => HX2.out.1.sub k hk, HF.out.2.2, HX2.out.1.below HB3.out, HF.out.1, HF.out.2.1⟩
          · have hrr := HRR.out
            rw [if_neg (by rintro (h | h); exact h rfl; exact hul (by rw [h]; rfl))] at hrr
            have HR4 := Aside0.mk hrr
            have hulb : (ul.length == 0) = false := by simpa using hul
            have huli : ((ul.length : Int) == 0) = false := by rw [beq_eq_false_iff_ne]; omega
            clear hrr HRR
            go_wp2
            go_ret2
            rw [HR4.out]
            exact ⟨D2, _, w2.heap.size, rfl, HO3.out, fun k hk => HX2.out.1.sub k hk, HF.out.2.2, HX2.out.1.below HB3.out, HF.out.1, HF.out.2.1⟩
        · have hrr := HRR.out
          rw [if_pos (.inl hue)] at hrr
          have HR4 := Aside0.mk hrr
          have hub : (ue != 0) = true := by simpa using hue
          clear hrr HRR
          go_wp2
          go_ret2
          rw [HR4.out]
          exact ⟨D2, _, w2.heap.size, rfl, OwnA.nil _ _, fun k hk => HX2.out.1.sub k hk, HF.out.2.2, HX2.out.1.below HB3.out, HF.out.1, HF.out.2.1⟩
      · have hbn : bl = [] := by
          rw [← HBL.out, List.getD_eq_getElem?_getD, List.getElem?_eq_none (by omega)]
          rfl
        subst hbn
        have hrd := sreadbad_calls (s := s) X w1 (HH.out.below HB1.out) (by omega)
        have HRD := Aside0.mk hrd
        have hup := xunpack_calls none 0 (X : Int) [] w1 (C_int_nil _ _ _) (Nat.le_refl _) (by omega) (by omega) (fun x hx => by cases hx)
        have hu : xunpI [] (X : Int) = ([], 117) := rfl
        rw [hu] at hup HRR
        have HUP := Aside0.mk hup
        have hrr := HRR.out
        rw [if_pos (.inl (by decide))] at hrr
        have HR4 := Aside0.mk hrr
        clear hrd hup hu hrr HRR HUZ
        go_wp2_with fail
        refine HRD.out.mono ?_
        rintro e _w2 ⟨rfl, rfl⟩
        dsimp only
        go_wp2_with fail
        refine HUP.out.mono ?_
        rintro e w3 ⟨v3, rfl, ho3, hb3⟩
        obtain ⟨A3, c3, rfl, hc3, _⟩ := ho3.reads (by simp)
        have HB3 := Aside0.mk (below_then HB1.out HB1.out.size hb3)
        clear ho3 hb3 c12'
        dsimp only
        go_wp2
        go_ret2
        rw [HR4.out]
        exact ⟨D, _, w3.heap.size, rfl, OwnA.nil _ _, fun k hk => by have := HSUB.out k hk; have := HB3.out.size; omega, HB3.out.size, HH.out.below HB3.out, fun _ => .inl, Mod.of_below HB3.out D⟩
  · have hivb : (iv != 0) = true := by simpa using hiv
    have HRR := Aside0.mk (HR.out.1 hiv)
    clear HR
    go_wp2
    go_ret2
    rw [HRR.out]
    exact ⟨D, _, w1.heap.size, rfl, OwnA.nil _ _, fun k hk => by have := HSUB.out k hk; have := HB1.out.size; omega, HB1.out.size, HH.out.below HB1.out, fun _ => .inl, Mod.of_below HB1.out D⟩
def cmpN (a b : ByteArray) : Int := Lib.compareBytes a.data.toList b.data.toList
def bsGo (l : List Att) (nm : ByteArray) : Nat → Nat → Nat → Nat
  | 0, i, _ => i
  | g + 1, i, j => if i < j then (if cmpN (attAt l ((i + j) / 2)).name nm < 0 then bsGo l nm g ((i + j) / 2 + 1) j else bsGo l nm g i ((i + j) / 2)) else i
def seekI (l : List Att) (nm : ByteArray) : Nat × Bool := (bsGo l nm l.length 0 l.length, decide (bsGo l nm l.length 0 l.length < l.length) && (cmpN (attAt l (bsGo l nm l.length 0 l.length)).name nm == 0))
theorem bsGo_le (l : List Att) (nm : ByteArray) : ∀ (g i j : Nat), i ≤ j → i ≤ bsGo l nm g i j ∧ bsGo l nm g i j ≤ j
  | 0, i, j, h => ⟨Nat.le_refl _, h⟩
  | g + 1, i, j, h => by
    rw [bsGo]
    split
    · split
      · have := bsGo_le l nm g ((i + j) / 2 + 1) j (by omega)
        omega
      · have := bsGo_le l nm g i ((i + j) / 2) (by omega)
        omega
    · omega
set_option maxHeartbeats 1000000 in
set_option maxRecDepth 100000 in
theorem seek1_calls (a nm : ByteArray) (A : Option Addr) (n c : Nat) (w : World) : Calls Tryz.prog 119 #[.agg #[.string a, .slice A n c], .string nm] w fun e w' => e = .returned (.int .i64 (cmpN a nm)) ∧ Below w.heap.size w w' := by
  have HC := Aside0.mk (fun W : World => scmp_calls a nm W)
  go_enter Tryz.func119, Tryz.ntmps119
  go_wp2_with fail
  refine (HC.out _).mono ?_
  rintro e w1 ⟨rfl, rfl⟩
  dsimp only
  go_wp2
  go_ret
  exact ⟨rfl, below_alloc (Below.refl _ _) _⟩
set_option maxHeartbeats 4000000 in
set_option maxRecDepth 100000 in
theorem bsearch_calls (A : Option Addr) (c : Nat) (l : List Att) (nm : ByteArray) (w : World) (hl : Atts w A l) (hn : l.length ≤ 100000) :
    Calls Tryz.prog 118 #[.slice A l.length c, .string nm, .func (.func 119) #[] #[]] w fun e w' => e = .returned (.tuple #[.int .i64 (seekI l nm).1, .bool (seekI l nm).2]) ∧ Below w.heap.size w w' := by
  have HL := Aside0.mk hl
  clear hl
  obtain ⟨n, hnn⟩ : ∃ n, l.length = n := ⟨_, rfl⟩
  have HN := Aside0.mk hnn
  unfold seekI
  rw [hnn] at hn ⊢
  have hrg := bsGo_le l nm n 0 n (by omega)
  obtain ⟨r, hr⟩ : ∃ r, bsGo l nm n 0 n = r := ⟨_, rfl⟩
  rw [hr] at hrg ⊢
  have HR := Aside0.mk hr
  clear hr hnn
  go_enter Tryz.func118, Tryz.ntmps118
  go_wp2
  go_loopg [9, 10] n (fun g v9 v10 wr => ∃ i j : Nat, v9 = .int .i64 i ∧ v10 = .int .i64 j ∧ i ≤ j ∧ j ≤ n ∧ j - i ≤ g ∧ Aside0 (bsGo l nm g i j = r) ∧ Aside0 (Below w.heap.size w wr))
  case atStart => exact ⟨0, n, rfl, rfl, by omega, Nat.le_refl _, by omega, HR, ⟨Below.refl _ _⟩⟩
  case round =>
    obtain ⟨i, j, rfl, rfl, hij, hjn, hg, HB, HW⟩ := hrel
    by_cases hlt : i < j
    · obtain ⟨g, rfl⟩ : ∃ g, gk = g + 1 := ⟨gk - 1, by omega⟩
      obtain ⟨h, hh⟩ : ∃ h, (i + j) / 2 = h := ⟨_, rfl⟩
      have hbs : bsGo l nm (g + 1) i j = if i < j then (if cmpN (attAt l ((i + j) / 2)).name nm < 0 then bsGo l nm g ((i + j) / 2 + 1) j else bsGo l nm g i ((i + j) / 2)) else i := rfl
      rw [if_pos hlt, hh, HB.out] at hbs
      obtain ⟨ad, Av, cv, rfl, h1, h2, _⟩ := (HL.out.below HW.out).cells h (by rw [HN.out]; omega)
      obtain ⟨x, hx⟩ : ∃ x, attAt l h = x := ⟨_, rfl⟩
      rw [hx] at h1 h2 hbs
      obtain ⟨an, av⟩ := x
      dsimp only at h1 h2 hbs
      have HSK := Aside0.mk (seek1_calls an nm Av av.length cv wr)
      obtain ⟨q, hq⟩ : ∃ q, cmpN an nm = q := ⟨_, rfl⟩
      rw [hq] at HSK hbs
      have HBS := Aside0.mk hbs
      have hlti : (i : Int) < (j : Int) := by omega
      have ht : (i : Int) + (j : Int) = ((i + j : Nat) : Int) := by omega
      obtain ⟨t, hte⟩ : ∃ t, i + j = t := ⟨_, rfl⟩
      rw [hte] at ht hh
      have hh2 : h < n := by omega
      have hh2i : (h : Int) < (n : Int) := by omega
      have hhi : (t : Int) / 2 = (h : Int) := by omega
      have ht2 : t ≤ 200000 := by omega
      clear hbs hq hx hte
      go_wp2_with fail
      refine HSK.out.mono ?_
      rintro e w2 ⟨rfl, hb2⟩
      have HB2 := Aside0.mk (below_then HW.out HW.out.size hb2)
      clear h1 h2 hb2
      dsimp only
      by_cases hq0 : q < 0
      · have hbs := HBS.out
        rw [if_pos hq0] at hbs
        have HB3 := Aside0.mk hbs.symm
        clear hbs
        go_wp2
        go_roundg g
        case measure => omega
        case rel => exact ⟨h + 1, j, by go_num, rfl, by omega, hjn, by omega, HB3, HB2⟩
      · have hbs := HBS.out
        rw [if_neg hq0] at hbs
        have HB3 := Aside0.mk hbs.symm
        clear hbs
        go_wp2
        go_roundg g
        case measure => omega
        case rel => exact ⟨i, h, rfl, rfl, by omega, by omega, by omega, HB3, HB2⟩
    · have hri : r = i := by
        have hb := HB.out
        cases gk with
        | zero => exact hb.symm
        | succ g =>
          rw [bsGo, if_neg hlt] at hb
          exact hb.symm
      subst hri
      have hlti : ¬ (r : Int) < (j : Int) := by omega
      by_cases hrn : r < n
      · obtain ⟨ad, Av, cv, rfl, h1, h2, _⟩ := (HL.out.below HW.out).cells r (by rw [HN.out]; exact hrn)
        obtain ⟨x, hx⟩ : ∃ x, attAt l r = x := ⟨_, rfl⟩
        rw [hx] at h1 h2
        obtain ⟨an, av⟩ := x
        dsimp only at h1 h2
        have HSK := Aside0.mk (seek1_calls an nm Av av.length cv wr)
        obtain ⟨q, hq⟩ : ∃ q, cmpN an nm = q := ⟨_, rfl⟩
        rw [hq] at HSK
        have HQ := Aside0.mk (And.intro hx hq)
        have hrni : (r : Int) < (n : Int) := by omega
        clear hx hq
        go_wp2_with fail
        refine HSK.out.mono ?_
        rintro e w2 ⟨rfl, hb2⟩
        have HB2 := Aside0.mk (below_then HW.out HW.out.size hb2)
        clear h1 h2 hb2
        dsimp only
        go_wp2
        go_ret2
        exact ⟨by rw [HQ.out.1]; simp [hrn, HQ.out.2], HB2.out⟩
      · have hrni : ¬ (r : Int) < (n : Int) := by omega
        go_wp2
        go_ret2
        exact ⟨by simp [hrn], HW.out⟩
set_option maxHeartbeats 1000000 in
set_option maxRecDepth 100000 in
theorem seek_calls (A : Option Addr) (c : Nat) (l : List Att) (nm : ByteArray) (w : World) (hl : Atts w A l) (hn : l.length ≤ 100000) :
    Calls Tryz.prog 51 #[.slice A l.length c, .string nm] w fun e w' => e = .returned (.tuple #[.int .i64 (seekI l nm).1, .bool (seekI l nm).2]) ∧ Below w.heap.size w w' := by
  have HB := Aside0.mk (bsearch_calls A c l nm w hl hn)
  obtain ⟨⟨i, b⟩, hs⟩ : ∃ s, seekI l nm = s := ⟨_, rfl⟩
  rw [hs] at HB ⊢
  obtain ⟨n, hnn⟩ : ∃ n, l.length = n := ⟨_, rfl⟩
  rw [hnn] at HB ⊢
  clear hl hn hs hnn
  go_enter Tryz.func51, Tryz.ntmps51
  go_wp2_with fail
  refine HB.out.mono ?_
  rintro e w1 ⟨rfl, hb1⟩
  have HB1 := Aside0.mk hb1
  clear hb1
  dsimp only
  go_wp2
  go_ret2
  exact ⟨rfl, HB1.out⟩
end Go.Proofs.YtkmhilhfmfmckaaGreatDoor.Hand
