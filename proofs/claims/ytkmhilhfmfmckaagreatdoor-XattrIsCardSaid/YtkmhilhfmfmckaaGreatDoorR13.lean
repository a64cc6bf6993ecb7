/- Own texts and printed words of the kit, put together and trimmed by a program of mine (merge.py). -/
import Derived.Test.YtkmhilhfmfmckaaGreatDoorR12
namespace Go.Proofs.YtkmhilhfmfmckaaGreatDoor.Hand
set_option linter.unusedSimpArgs false
set_option linter.unusedVariables false
open Go.Shelf Go.RowKit Go.Proofs.YtkmhilhfmfmckaaGreatDoorW.PrintWords Go.Proofs.YtkmhilhfmfmckaaGreatDoorW.PrintLast Go.Proofs.YtkmhilhfmfmckaaGreatDoorW.PrintMore
theorem zeroAtt : ∀ w : World, (zeroValue 72).run Tryz.prog w = .ok (.agg #[.string ⟨#[]⟩, .slice none 0 0]) w := fun w => by kernel_rfl
set_option maxRecDepth 100000 in
theorem cut_mid (g n1 n c : Nat) (h : n1 + 1 = n) (hc : n ≤ c) (W : World) : (Instr.slice 29 (.slice (some ⟨g, 0, none⟩) n1 c) (some (.int .i64 (n1 : Int))) (some (.int .i64 (n : Int))) none).run Tryz.prog W = .ok (.slice (some ⟨g, n1 * 2, none⟩) 1 (c - n1)) W := by
 have hel : Tryz.prog.elem 29 = 72 := by kernel_rfl
 have hu : Tryz.prog.underlying 29 = some (.slice (Tryz.prog.elem 29)) := by kernel_rfl
 obtain ⟨e0, he, hz0, hz1, hz2⟩ := info_parts infoAtt
 rw [run_slice_lh W 29 (some ⟨g, 0, none⟩) n1 c hu .i64 .i64 (n1 : Int) (n : Int) (by omega) (by omega) (by omega), hel]
 simp [sizeOf, typeInfo, he, hz1, sliced, Result.andThen]
 rw [if_neg (by omega)]
 refine ⟨by rw [add_plain], by omega⟩
def DelPost (b0 : Nat) (v : Value) (n : Nat) (cs : List Value) (w : World) (e : Ending) (w' : World) : Prop :=
 ∃ v', e = .returned v' ∧ w'.ownsRow b0 72 2 v' n cs ∧ Mod w w' (fun k => v.ownBlock = some k)
set_option maxHeartbeats 4000000 in
set_option maxRecDepth 100000 in
theorem del_calls (b0 g : Nat) (n n1 i j c : Nat) (A N D R : List Value) (w : World) (hb0 : b0 ≤ g) (hA : A.length = i * 2) (hN : N.length = 2) (hD : D.length = (n - (i + 1)) * 2) (hi : i < n) (hij : i + 1 = j) (hn1 : n1 + 1 = n) (hc : n ≤ c) (hcm : c ≤ maxLen) (hl : (A ++ N ++ D ++ R).length = c * 2)
  (hL : w.heap[g]? = some (.cells (A ++ N ++ D ++ R).toArray 72 (0, 0))) (h1 : ∀ q ∈ D, q.oneCell' = true) (hn : n ≤ 1000) :
  Calls Tryz.prog 60 #[.slice (some ⟨g, 0, none⟩) n c, .int .i64 i, .int .i64 j] w (DelPost b0 (.slice (some ⟨g, 0, none⟩) n c) n1 (A ++ D) w) := by
 obtain ⟨e0, he, hz0, hz1, hz2⟩ := info_parts infoAtt
 have HP := Aside0.mk (And.intro hb0 (And.intro hA (And.intro hN (And.intro hD (And.intro hi (And.intro hc (And.intro hcm hl)))))))
 simp only [maxLen] at hcm
 have hcut1 := cut_up (some ⟨g, 0, none⟩) n c i (by omega)
 have hcut3 := cut_mid g n1 n c hn1 hc
 obtain ⟨Aj, hcut2, hsrc⟩ : ∃ Aj : Addr, (∀ W : World, (Instr.slice 29 (.slice (some ⟨g, 0, none⟩) n c) (some (.int .i64 (j : Int))) none none).run Tryz.prog W = .ok (.slice (some Aj) (n - j) (c - j)) W) ∧ (∀ k q, D[k]? = some q → w.cell? (Aj.add k) = some q) := by
  by_cases hcj : c = j
  ·refine ⟨⟨g, 0, none⟩, fun W => ?_, fun k q hk => ?_⟩
   ·rw [cut_at (some ⟨g, 0, none⟩) n c j (by omega) W, if_pos hcj]
   ·have : D = [] := List.eq_nil_of_length_eq_zero (by rw [hD]; omega)
    rw [this] at hk
    cases hk
  ·refine ⟨⟨g, j * 2, none⟩, fun W => ?_, fun k q hk => ?_⟩
   ·rw [cut_at (some ⟨g, 0, none⟩) n c j (by omega) W, if_neg hcj, Option.map_some, add_plain]
   ·rw [show (⟨g, j * 2, none⟩ : Addr).add k = ⟨g, j * 2 + k, none⟩ by unfold Addr.add; split <;> simp_all, cell_of_obj hL, List.append_assoc, List.getElem?_append_right (by rw [List.length_append]; omega), List.length_append, hA, hN, show j * 2 + k - (i * 2 + 2) = k by omega, List.getElem?_append_left (List.getElem?_eq_some_iff.1 hk).1]
    exact hk
 have HS := Aside0.mk hsrc
 have HL := Aside0.mk hL
 have H1 := Aside0.mk h1
 have hij2 : ¬ ((i : Int) = (j : Int)) := by omega
 have hij3 : (i : Int) ≤ (j : Int) := by omega
 have hjn : (j : Int) ≤ (n : Int) := by omega
 have hnc : (n : Int) ≤ (c : Int) := by omega
 have hsum : i + (n - j) = n1 := by omega
 have hroom : i + (n - j) ≤ c := by omega
 have HD := Aside0.mk (show D.length = (n - j) * 2 by rw [hD, hij])
 have HF := Aside0.mk (show i * 2 + D.length ≤ (A ++ N ++ D ++ R).length by rw [hD, hl]; omega)
 clear hL hl hA hN hD hsrc h1 hb0
 go_enter Tryz.func60, Tryz.ntmps60
 go_upto_region 5 with fail
 refine wp_region_in [0, 0, 0, 0, 0, 0, 2, 0] [] (fun _ => True) (by kernel_rfl) rfl (by kernel_rfl) (fun _ _ _ _ h => h) trivial ?_
 iterate 6 (first
  | (refine in_off0 (by rfl) ?_; simp only [Act.put, stA, stZ, stS, i64_w, i32_w])
  | (refine in_off1 (by rfl) ?_; simp only [Act.put, stA, stZ, stS, i64_w, i32_w])
  | (refine in_0 (v := ?_) (by rfl) rfl ?_ (a' := ?_) ?_ ?_; rotate_left; (intro w'; go_simp; with_reducible rfl); rotate_left; (simp only [Act.put, stA, stZ, stS, i64_w, i32_w]; rfl))
  | (refine in_1 (v := ?_) (by rfl) rfl ?_ (a' := ?_) ?_ ?_; rotate_left; (rintro w' hs; go_split_ands; go_simp; with_reducible rfl); rotate_left; (simp only [Act.put, stA, stZ, stS, i64_w, i32_w]; rfl)))
 refine in_2 (by rfl) (fun K hK => ?_)
 refine wp_append_roomE (.tmp 22) (.tmp 25) 29 72 rfl e0 2 Tryz.underlying29 he hz1 g i c rfl Aj (n - j) (c - j) (A ++ N ++ D ++ R) D 72 rfl HL.out HD.out HS.out H1.out hroom HF.out ?_
 intro w1 a1 a2 a3
 rw [hsum]
 refine hK _ _ trivial ?_
 clear hK K
 have HW := Aside0.mk (And.intro a1 (And.intro a2 a3))
 clear a1 a2 a3
 try simp only [Act.put, stA, stZ, stS, i64_w, i32_w]
 iterate 1 (first
  | (refine in_off0 (by rfl) ?_; simp only [Act.put, stA, stZ, stS, i64_w, i32_w])
  | (refine in_off1 (by rfl) ?_; simp only [Act.put, stA, stZ, stS, i64_w, i32_w])
  | (refine in_0 (v := ?_) (by rfl) rfl ?_ (a' := ?_) ?_ ?_; rotate_left; (intro w'; go_simp; with_reducible rfl); rotate_left; (simp only [Act.put, stA, stZ, stS, i64_w, i32_w]; rfl))
  | (refine in_1 (v := ?_) (by rfl) rfl ?_ (a' := ?_) ?_ ?_; rotate_left; (rintro w' hs; go_split_ands; go_simp; with_reducible rfl); rotate_left; (simp only [Act.put, stA, stZ, stS, i64_w, i32_w]; rfl)))
 refine in_nil ?_
 obtain ⟨w2, Z, hr2, hz, d1, d2, d3⟩ := run_clearE (P := Tryz.prog) (w := w1) 29 72 0 (.agg #[.string ⟨#[]⟩, .slice none 0 0]) 2 Tryz.underlying29 zeroAtt rfl (by decide) g (n1 * 2) 1 (c - n1) _ 72 (by omega) (by omega) HW.out.1 (by rw [putC_length HF.out, HP.out.2.2.2.2.2.2.2]; have := HP.out.2.2.2.2.2.1; omega)
 have HC := Aside0.mk (And.intro hz (And.intro d1 d2))
 clear hz d1 d2 d3
 go_wp2
 go_ret
 have hn1' : n - 1 = n1 := by omega
 have hd := del_row HP.out.1 HP.out.2.1 HP.out.2.2.1 HP.out.2.2.2.1 HP.out.2.2.2.2.1 HP.out.2.2.2.2.2.1 HP.out.2.2.2.2.2.2.1 HP.out.2.2.2.2.2.2.2 (Z := Z) (by rw [HC.out.1]) (by rw [hn1']; exact HC.out.2.1)
 rw [hn1'] at hd
 exact ⟨_, rfl, hd, Mod.trans ((Mod.refl _ _).drew) (Mod.trans HW.out.2.1 HC.out.2.2 (fun k _ h => h)) (fun k _ h => by rw [h]; rfl)⟩
theorem delete_calls {w : World} {b0 i j : Nat} {v : Value} {l : List Att} (h : OwnA w b0 v l) (hi : i < l.length) (hij : i + 1 = j) (hl : l.length ≤ 1000) :
  Calls Tryz.prog 60 #[v, .int .i64 i, .int .i64 j] w (InsertPost b0 v (delL l i) w) := by
 obtain ⟨vs, hv, hrow, hvals⟩ := h
 obtain ⟨N, t1, t2, t3, t4⟩ := acells_mid l vs i hv hi
 have hone : ∀ q ∈ acells (l.drop (i + 1)) (vs.drop (i + 1)), q.oneCell' = true := acells_one _ _ (fun v hm => vals_one hv hvals v (List.mem_of_mem_drop hm))
 have hrow0 := hrow
 rcases hrow.2 with ⟨rfl, h0⟩ | ⟨g, c, cur, rfl, hb, hh, hc, hcm, hsz, htk⟩
 ·omega
 ·have hcur : cur = (acells (l.take i) (vs.take i) ++ N ++ acells (l.drop (i + 1)) (vs.drop (i + 1)) ++ cur.toList.drop (l.length * 2)).toArray := by
   apply Array.ext'
   rw [← t1, ← htk]
   simp
  have hL : w.heap[g]? = some (.cells (acells (l.take i) (vs.take i) ++ N ++ acells (l.drop (i + 1)) (vs.drop (i + 1)) ++ cur.toList.drop (l.length * 2)).toArray 72 (0, 0)) := by rw [← hcur]; exact hh
  refine (del_calls b0 g l.length (l.length - 1) i j c _ N _ _ w hb t2 t3 t4 hi hij (by omega) hc hcm ?_ hL hone hl).mono ?_
  ·rw [← hsz]
   conv => rhs; rw [hcur]
   rw [List.size_toArray]
  ·rintro e w1 ⟨v1, he, h1, hm⟩
   refine ⟨v1, he, del_own hv hrow0 hvals hi hm ?_, hm⟩
   rw [acells_del l vs i hv]
   exact h1
def inoZ : List Value := [.int .i64 0, .int .i64 0, .int .i64 0, .int .i64 0, .int .i64 0, .int .i64 0, .int .i64 0, .int .i64 0, .int .i64 0, .int .i64 0, .int .i64 0, .int .i64 0, .int .i64 0, .bool false, .slice none 0 0]
def xsetL (l : List Att) (k : Nat × Bool) (x : Att) : List Att := if k.2 then l.set k.1 x else insL l k.1 x
def xsetI (s : St) (r : Ino) (rl : Nat) (rv : Value) (nm : ByteArray) (val : List Int) (how goal : Int) : St × List Value × Int :=
 if (xlistI s.now r rl).2 ≠ 0 then (s, inoZ, (xlistI s.now r rl).2) else
 if 64 < val.length then (s, inoZ, 34) else
 if namedB nm = false ∨ how < 0 ∨ 2 < how then (s, inoZ, 22) else
 if how = 1 ∧ (seekI (xlistI s.now r rl).1 nm).2 = true then (s, inoZ, 17) else
 if how = 2 ∧ (seekI (xlistI s.now r rl).1 nm).2 = false then (s, inoZ, 61) else
 if (xpackI (xsetL (xlistI s.now r rl).1 (seekI (xlistI s.now r rl).1 nm) ⟨nm, val⟩) 0).2 ≠ 0 then (s, inoZ, (xpackI (xsetL (xlistI s.now r rl).1 (seekI (xlistI s.now r rl).1 nm) ⟨nm, val⟩) 0).2) else
 if r.xattr ≠ 0 then (s.write r.xattr.toNat (xpackI (xsetL (xlistI s.now r rl).1 (seekI (xlistI s.now r rl).1 nm) ⟨nm, val⟩) r.xattr).1, r.cells rv, 0) else
 if (blocksI s goal 1).2.2.2 ≠ 0 then ((blocksI s goal 1).1, inoZ, (blocksI s goal 1).2.2.2) else
 ((blocksI s goal 1).1.write (blocksI s goal 1).2.1.toNat (xpackI (xsetL (xlistI s.now r rl).1 (seekI (xlistI s.now r rl).1 nm) ⟨nm, val⟩) (blocksI s goal 1).2.1).1, ({ r with xattr := (blocksI s goal 1).2.1, blocks := r.blocks + 1 } : Ino).cells rv, 0)
theorem xlistI_len {now : List (List Int)} {r : Ino} {rl : Nat} (h : ∀ b ∈ now, allB b) : (xlistI now r rl).1.length ≤ 255 := by
 unfold xlistI
 split
 ·simp
 ·split
  ·simp
  ·split
   ·simp
   ·refine xunpI_len _ ?_
    rw [List.getD_eq_getElem?_getD]
    cases hq : now[r.xattr.toNat]? with
    | none => intro y hy; cases hy
    | some b => exact h b (List.mem_of_getElem? hq)
theorem zeroIno : ∀ w : World, (zeroValue 47).run Tryz.prog w = .ok (.agg inoZ.toArray) w := fun w => by kernel_rfl
theorem inoZ_one : inoZ.toArray.all (·.oneCell') = true := by kernel_rfl
theorem infZ : (Tryz.prog.info? 47).map (·.size) = some inoZ.toArray.size := infIno rfl
section
variable {w : World} {ops : Array Oper} {rest : List Oper} {o : Oper} {a : Act} {Q : Exit → Act → World → Prop}
theorem wpList_buildZ (hgd : o.guard = none) (ho : o.op = .build 47 #[]) (h : wpList Tryz.prog ops Q rest (a.put o.dst (.agg inoZ.toArray)) w) : wpList Tryz.prog ops Q (o :: rest) a w := by
 refine wpList_plain hgd fun K hK => ?_
 have hz := zeroIno w
 unfold Oper.wp
 simp [execOp, ho, Instr.build, hz, Result.andThen]
 exact hK _ _ h
end
theorem ino_fin {w W : World} {D D' : Nat → Prop} {s0 : Nat} {s : St} {q : Nat} (cs : List Value) (c : Int) (hq : w.heap.size ≤ q) (h : StIs W D' s0 s) (hgD : ∀ k, D' k → D k ∨ w.heap.size ≤ k) (hnd : ¬ D' q) (hm : Mod w W D) :
  InoPost D s0 s cs c w (.returned (.tuple #[.agg cs.toArray, .int .i64 c])) (W.setRow q cs.toArray) :=
 ⟨D', rfl, h.mod (mod_setRow _ _ _) (fun k hk e => hnd (e ▸ hk)), hgD, hm.trans (mod_setRow _ _ _) (fun k hk e => by have : k = q := e; omega)⟩
theorem ownA_base {w : World} {b n : Nat} {v : Value} {l : List Att} {D : Nat → Prop} (h : OwnA w b v l) (hD : ∀ k, D k → k < b) (hw : ∀ k, D k → k < w.heap.size) (hn : n ≤ b) (hn2 : n ≤ w.heap.size) : ∃ b1, OwnA w b1 v l ∧ (∀ k, D k → k < b1) ∧ n ≤ b1 ∧ b1 ≤ w.heap.size := by
 obtain ⟨vs, hv, hrow, hvals⟩ := h
 rcases hrow.2 with ⟨rfl, h0⟩ | ⟨g, c, cur, rfl, hb, hh, _⟩
 ·obtain rfl := List.eq_nil_of_length_eq_zero h0
  exact ⟨w.heap.size, OwnA.nil _ _, hw, hn2, Nat.le_refl _⟩
 ·exact ⟨b, ⟨vs, hv, hrow, hvals⟩, hD, hn, Nat.le_of_lt (Nat.lt_of_le_of_lt hb (lt_of_obj hh))⟩
theorem own_low {w : World} {b b1 e : Nat} {k : IntKind} {v : Value} {l : List Int} (h : Own w b1 e k v l) (hb : b ≤ b1) : Own w b e k v l := by
 refine ⟨h.1, ?_⟩
 rcases h.2 with h0 | ⟨g, c, cur, e, h1, h2⟩
 ·exact .inl h0
 ·exact .inr ⟨g, c, cur, e, Nat.le_trans hb h1, h2⟩
theorem seekI_le {l : List Att} {nm : ByteArray} {i : Nat} {is : Bool} (h : seekI l nm = (i, is)) : i ≤ l.length := by
 have := (bsGo_le l nm l.length 0 l.length (Nat.zero_le _)).2
 unfold seekI at h
 cases h
 exact this
theorem ownA_lt {w : World} {b : Nat} {v : Value} {l : List Att} (h : OwnA w b v l) (g : Nat) (hg : v.ownBlock = some g) : g < w.heap.size := by
 obtain ⟨vs, hv, hrow, _⟩ := h
 exact own_lt hrow g hg
theorem ownA_ge {w : World} {b : Nat} {v : Value} {l : List Att} (h : OwnA w b v l) (g : Nat) (hg : v.ownBlock = some g) : b ≤ g := by
 obtain ⟨vs, hv, hrow, _⟩ := h
 exact Go.Proofs.YtkmhilhfmfmckaaGreatDoor.Hand.own_base hrow g hg
theorem xpackI_code {l : List Att} {a b : Int} (h : (xpackI l a).2 = 0) : (xpackI l b).2 = 0 := by
 unfold xpackI at h ⊢
 split at h
 ·split at h
  ·cases h
  ·rename_i h1 h2
   rw [if_pos h1, if_neg h2]
 ·cases h
theorem xlistI_in {now : List (List Int)} {r : Ino} {n : Nat} {l : List Att} (h : xlistI now r n = (l, 0)) (hx : r.xattr ≠ 0) : 0 ≤ r.xattr ∧ r.xattr ≤ 65535 ∧ r.xattr.toNat < now.length := by
 unfold xlistI at h
 by_cases h1 : inoI r n ≠ 0
 ·rw [if_pos h1] at h; cases h
 ·rw [if_neg h1, if_neg hx] at h
  have h1' : inoI r n = 0 := by simpa using h1
  have hz := inoI_zero h1'
  refine ⟨hz.1, hz.2.1, ?_⟩
  by_cases hlt : r.xattr.toNat < now.length
  ·exact hlt
  ·exfalso
   have hd : now.getD r.xattr.toNat [] = [] := by rw [List.getD_eq_getElem?_getD, List.getElem?_eq_none (by omega)]; rfl
   have hu : xunpI [] r.xattr = ([], 117) := by unfold xunpI; rw [if_pos (by simp)]
   rw [hd, hu, if_pos (.inr rfl)] at h
   cases h
theorem inoI_blocks {r : Ino} {n : Nat} (h : inoI r n = 0) : 0 ≤ r.blocks ∧ r.blocks ≤ 4096 := by
 unfold inoI at h
 split at h
 ·rename_i hh
  have h7 := List.all_eq_true.1 hh.1 7 (by simp)
  have e1 : (mostL r.kind).getD 7 0 = 4096 := rfl
  have e2 : r.nums.getD 7 0 = r.blocks := rfl
  unfold numOk at h7
  rw [e1, e2] at h7
  simp at h7
  exact h7
 ·cases h
theorem xlistI_ino {now : List (List Int)} {r : Ino} {n : Nat} {l : List Att} (h : xlistI now r n = (l, 0)) : inoI r n = 0 := by
 unfold xlistI at h
 by_cases h1 : inoI r n ≠ 0
 ·rw [if_pos h1] at h; cases h
 ·simpa using h1
theorem Ino_one (r : Ino) (A : Option Addr) (n c : Nat) : ∀ v ∈ r.cells (.slice A n c), v.oneCell' = true := by
 intro v hv
 simp only [Ino.cells, List.mem_cons, List.not_mem_nil, or_false] at hv
 rcases hv with rfl | rfl | rfl | rfl | rfl | rfl | rfl | rfl | rfl | rfl | rfl | rfl | rfl | rfl | rfl <;> rfl
set_option maxHeartbeats 1000000 in
set_option maxRecDepth 100000 in
theorem clonenil_calls (w : World) : Calls Tryz.prog 42 #[.slice none 0 0] w fun e w' => e = .returned (.slice none 0 0) ∧ w = w' := by
 have hnil := nil_eql
 go_enter Tryz.func42, Tryz.ntmps42
 go_wp2
 go_ret
 exact ⟨rfl, rfl⟩
theorem cloneany_calls {w : World} {Av : Option Addr} {cv : Nat} {val : List Int} (hv : Kd.C (Kd.int .u8) w Av val.length val) (hvn : Av = none → cv = 0) (hm : val.length ≤ 140737488351232) :
  Calls Tryz.prog 42 #[.slice Av val.length cv] w fun e w' => ∃ v, e = .returned v ∧ Own w' w.heap.size 5 .u8 v val ∧ Below w.heap.size w w' := by
 cases Av with
 | some ad => exact clone_calls ad cv val w hv hm
 | none =>
  have hy : val = [] := by
   by_cases hz : 0 < val.length
   ·obtain ⟨ad, e, _⟩ := C_int_at hv 0 hz
    cases e
   ·exact List.eq_nil_of_length_eq_zero (by omega)
  subst hy
  rw [hvn rfl]
  refine (clonenil_calls w).mono ?_
  rintro e w1 ⟨rfl, rfl⟩
  exact ⟨_, rfl, own_of_nil _ _ _ _, Below.refl _ _⟩
def resC (r : Ino) (rv : Value) (c : Int) : List Value := if c = 0 then r.cells rv else inoZ
def xdropR (s : St) (r : Ino) (n : Nat) : St × Ino × Int :=
 if (xlistI s.now r n).2 ≠ 0 then (s, r, (xlistI s.now r n).2) else
 if r.xattr = 0 then (s, r, 0) else
 if (freeI s r.xattr 1).2 ≠ 0 then ((freeI s r.xattr 1).1, r, (freeI s r.xattr 1).2) else
 ((freeI s r.xattr 1).1, { r with xattr := 0, blocks := r.blocks - 1 }, 0)
set_option maxHeartbeats 8000000 in
set_option maxRecDepth 100000 in
theorem xdrop_calls {D : Nat → Prop} {s0 : Nat} {s : St} (r : Ino) (A : Option Addr) (n c : Nat) (w : World) (h : StIs w D s0 s) (hh : s.hist.length ≤ 900000) :
  Calls Tryz.prog 28 #[.pointer (some ⟨s0, 0, none⟩), .agg (r.cells (.slice A n c)).toArray] w (InoPost D s0 (xdropR s r n).1 (resC (xdropR s r n).2.1 (.slice A n c) (xdropR s r n).2.2) (xdropR s r n).2.2 w) := by
 have HLIST := Aside0.mk (fun (W : World) (hW : Below w.heap.size w W) => xlist_calls r A n c W (h.below hW))
 obtain ⟨res, hres⟩ : ∃ res, xdropR s r n = res := ⟨_, rfl⟩
 have HRES := Aside0.mk hres
 obtain ⟨cs, hcs⟩ : ∃ cs, r.cells (.slice A n c) = cs := ⟨_, rfl⟩
 have hcl : cs.length = 15 := by rw [← hcs]; rfl
 have hinf := infIno hcl
 obtain ⟨L, hL⟩ : ∃ L, xlistI s.now r n = L := ⟨_, rfl⟩
 rw [hL] at HLIST
 rw [hcs] at HLIST ⊢
 rw [hres]
 have HCS := Aside0.mk (And.intro hcs (And.intro hcl hL))
 have HH := Aside0.mk h
 clear hres hcs h hL
 obtain ⟨l, e0⟩ := L
 try dsimp only at HLIST
 obtain ⟨rs, rr, re⟩ := res
 dsimp only
 obtain ⟨rc, hrc⟩ : ∃ rc, resC rr (.slice A n c) re = rc := ⟨_, rfl⟩
 rw [hrc]
 have HRC := Aside0.mk hrc
 clear hrc
 go_enter Tryz.func28, Tryz.ntmps28
 go_upto_region 1 with fail
 have hb0 := below_alloc (below_alloc (Below.refl w.heap.size w) (.cells cs.toArray 47)) (.cells inoZ.toArray 47)
 have hs1 : Strc ((w.alloc (.cells cs.toArray 47)).alloc (.cells inoZ.toArray 47)) w.heap.size 47 cs := by
  have := alloc_last w (.cells cs.toArray 47)
  unfold Strc
  rw [alloc_old _ _ _ (lt_of_obj this)]
  exact this
 have hs2 : Strc ((w.alloc (.cells cs.toArray 47)).alloc (.cells inoZ.toArray 47)) (w.heap.size + 1) 47 inoZ := by
  have := alloc_last (w.alloc (.cells cs.toArray 47)) (.cells inoZ.toArray 47)
  rw [show ∀ o, (w.alloc o).heap.size = w.heap.size + 1 from fun o => by simp] at this
  exact this
 change Code.wp _ _ _ _ ((w.alloc (.cells cs.toArray 47)).alloc (.cells inoZ.toArray 47))
 generalize (w.alloc (.cells cs.toArray 47)).alloc (.cells inoZ.toArray 47) = w1 at hb0 hs1 hs2 ⊢
 obtain ⟨q, hq⟩ : ∃ q, w.heap.size = q := ⟨_, rfl⟩
 have HB0 := Aside0.mk hb0
 rw [hq] at hs1 hs2 ⊢
 have HQ := Aside0.mk hq
 clear hq hb0
 have HQ1 := Aside0.mk hs2.lt
 have HS1 := Aside0.mk hs1
 have HS2 := Aside0.mk hs2
 clear hs1 hs2
 refine wp_region_lit ?_
 refine wpList_plain rfl fun K hK => ?_
 unfold Oper.wp execOp
 go_simp
 refine hK _ _ ?_
 clear hK K
 refine wpList_load_row rfl 47 _ rfl q rfl 47 cs.toArray (0, 0) _ HS1.out Tryz.underlying47 rfl hinf ?_
 go_wp2_with fail
 refine (HLIST.out w1 HB0.out).mono ?_
 rintro e w2 ⟨D2, v2, b2, rfl, _, _, _, hst2, hgD2, hm2⟩
 dsimp only
 have hs1 := HS1.out.mod hm2 (fun hd => by have := HH.out.sub _ hd; have := HQ.out; omega)
 have hs2 := HS2.out.mod hm2 (fun hd => by have := HH.out.sub _ hd; have := HQ.out; omega)
 have hst3 : StIs w2 D2 s0 s ∧ (∀ k, D2 k → D k ∨ w.heap.size ≤ k) ∧ ¬ D2 (q + 1) ∧ ¬ D2 q ∧ Mod w w2 D := by
  have hn : ∀ x, x < w1.heap.size → q ≤ x → ¬ D2 x := fun x hx hqx hd => by
   rcases hgD2 _ hd with h | h
   ·have := HH.out.sub _ h
    have := HQ.out
    omega
   ·omega
  exact ⟨hst2, fun k hk => (hgD2 k hk).imp id (fun h => Nat.le_trans HB0.out.size h), hn _ HQ1.out (by omega), hn _ (by have := HQ1.out; omega) (by omega), Mod.trans (Mod.of_below HB0.out D) hm2 (fun _ _ h => h)⟩
 have HST := Aside0.mk hst3
 have c12 := hs1.cell 12 (.int .i64 r.xattr) (by rw [← HCS.out.1]; rfl)
 have HS1 := Aside0.mk hs1
 have HS2 := Aside0.mk hs2
 clear hs1 hs2 hst3 hst2 hgD2 hm2
 by_cases he0 : e0 = 0
 ·subst he0
  go_upto_region 4 with fail
  by_cases hx0 : r.xattr = 0
  ·have HX0 := Aside0.mk hx0
   rw [hx0] at c12
   clear hx0
   go_upto_region 5 with fail
   refine wp_region_lit ?_
   refine wpList_load_row rfl 47 _ rfl q rfl 47 cs.toArray (0, 0) _ HS1.out Tryz.underlying47 rfl hinf ?_
   refine wpList_store_row rfl 47 _ _ rfl (q + 1) cs.toArray rfl rfl 47 _ HS2.out hinf (by rw [List.size_toArray, List.size_toArray, HCS.out.2.1]; rfl) (by have := Ino_one r A n c; rw [HCS.out.1] at this; simpa using this) ?_
   have hfin := ino_fin cs 0 (q := q + 1) (by have := HQ.out; omega) HST.out.1 HST.out.2.1 HST.out.2.2.1 HST.out.2.2.2.2
   have hres := setRow_heap w2 (q + 1) _ cs.toArray 47 (0, 0) HS2.out
   generalize World.setRow w2 (q + 1) cs.toArray = w9 at hfin hres ⊢
   have HFIN := Aside0.mk hfin
   have HRS := Aside0.mk hres
   clear hfin hres
   go_wp2
   refine bodyPost_ret (results_ino rfl _ _ (q + 1) cs.toArray 0 rfl rfl HRS.out hinf) rfl ?_
   have hr : (rs, rr, re) = (s, r, 0) := by
    rw [← HRES.out]
    unfold xdropR
    rw [HCS.out.2.2]
    rw [if_neg (by simp), if_pos HX0.out]
   cases hr
   have hc := HRC.out
   unfold resC at hc
   rw [if_pos rfl, HCS.out.1] at hc
   rw [← hc]
   exact HFIN.out
  ·have HX := Aside0.mk (And.intro hx0 (xlistI_in HCS.out.2.2 hx0))
   have hfr := free_calls r.xattr 1 w2 HST.out.1 hh (by have := HX.out; omega) (by have := HX.out; omega) (by omega) (by omega)
   obtain ⟨fi, hfi⟩ : ∃ fi, freeI s r.xattr 1 = fi := ⟨_, rfl⟩
   rw [hfi] at hfr
   have HFI := Aside0.mk hfi
   have HFR := Aside0.mk hfr
   obtain ⟨fs, fe⟩ := fi
   clear hfr hfi
   go_upto_region 6 with fail
   go_wp2_with fail
   refine HFR.out.mono ?_
   rintro e w3 ⟨D3, rfl, h3, hD3, hm3⟩
   dsimp only
   have hn1 : ¬ D3 q := fun hd => (hD3 _ hd).elim HST.out.2.2.2.1 (fun h => by have := HS1.out.lt; omega)
   have hn2 : ¬ D3 (q + 1) := fun hd => (hD3 _ hd).elim HST.out.2.2.1 (fun h => by have := HS2.out.lt; omega)
   have hs1 := HS1.out.mod hm3 HST.out.2.2.2.1
   have hs2 := HS2.out.mod hm3 HST.out.2.2.1
   have hst3 : StIs w3 D3 s0 fs ∧ (∀ k, D3 k → D k ∨ w.heap.size ≤ k) ∧ ¬ D3 (q + 1) ∧ ¬ D3 q ∧ Mod w w3 D := ⟨h3, fun k hk => (hD3 k hk).elim (HST.out.2.1 k) (fun h => .inr (by have := HST.out.2.2.2.2.size; omega)), hn2, hn1, Mod.trans HST.out.2.2.2.2 hm3 (fun k hk hd => (HST.out.2.1 k hd).elim id (fun h => by omega))⟩
   have HST := Aside0.mk hst3
   have HS1 := Aside0.mk hs1
   have HS2 := Aside0.mk hs2
   clear hs1 hs2 hst3 h3 hD3 hm3 hn1 hn2 c12
   by_cases hfe : fe ≠ 0
   ·go_upto_region 8 with fail
    refine wp_region_lit ?_
    refine wpList_buildZ rfl rfl ?_
    refine wpList_plain rfl fun K hK => ?_
    unfold Oper.wp execOp
    go_simp
    refine hK _ _ ?_
    clear hK K
    refine wpList_store_row rfl 47 _ _ rfl (q + 1) inoZ.toArray rfl rfl 47 _ HS2.out infZ rfl inoZ_one ?_
    have hfin := ino_fin inoZ fe (q := q + 1) (by have := HQ.out; omega) HST.out.1 HST.out.2.1 HST.out.2.2.1 HST.out.2.2.2.2
    have hres := setRow_heap w3 (q + 1) _ inoZ.toArray 47 (0, 0) HS2.out
    generalize World.setRow w3 (q + 1) inoZ.toArray = w9 at hfin hres ⊢
    have HFIN := Aside0.mk hfin
    have HRS := Aside0.mk hres
    clear hfin hres
    go_wp2
    refine bodyPost_ret (results_ino rfl _ _ (q + 1) inoZ.toArray fe rfl rfl HRS.out infZ) rfl ?_
    have hr : (rs, rr, re) = (fs, r, fe) := by
     rw [← HRES.out]
     unfold xdropR
     rw [HCS.out.2.2, HFI.out]
     rw [if_neg (by simp), if_neg HX.out.1, if_pos hfe]
    cases hr
    have hc := HRC.out
    unfold resC at hc
    rw [if_neg hfe] at hc
    rw [← hc]
    exact HFIN.out
   ·obtain rfl : fe = 0 := by simpa using hfe
    clear hfe
    have c12 := HS1.out.cell 12 (.int .i64 r.xattr) (by rw [← HCS.out.1]; rfl)
    have f12 := HS1.out.free 12
    go_upto_region 10 with fail
    have hs10 := HS1.out.set 12 (.int .i64 0)
    have hm10 : Mod w3 (w3.setCell ⟨q, 12, none⟩ (.int .i64 0)) (· = q) := (Mod.refl w3 _).set_own 12 _
    generalize w3.setCell ⟨q, 12, none⟩ (.int .i64 0) = w10 at hs10 hm10 ⊢
    obtain ⟨hbl0, hbl1⟩ := inoI_blocks (xlistI_ino HCS.out.2.2)
    have c6' := hs10.cell 6 (.int .i64 r.blocks) (by rw [← HCS.out.1]; rfl)
    have f6' := hs10.free 6
    have HS10 := Aside0.mk (And.intro hs10 hm10)
    clear c12 f12 hs10 hm10
    go_upto_region 11 with fail
    have hs11 := HS10.out.1.set 6 (.int .i64 (r.blocks - 1))
    have hm11 : Mod w3 (w10.setCell ⟨q, 6, none⟩ (.int .i64 (r.blocks - 1))) (· = q) := HS10.out.2.set_own 6 _
    generalize w10.setCell ⟨q, 6, none⟩ (.int .i64 (r.blocks - 1)) = w11 at hs11 hm11 ⊢
    obtain ⟨cs2, hcs2⟩ : ∃ cs2, ({ r with xattr := 0, blocks := r.blocks - 1 } : Ino).cells (.slice A n c) = cs2 := ⟨_, rfl⟩
    have hcs3 : (cs.set 12 (.int .i64 0)).set 6 (.int .i64 (r.blocks - 1)) = cs2 := by rw [← hcs2, ← HCS.out.1]; rfl
    rw [hcs3] at hs11
    have hcl2 : cs2.length = 15 := by rw [← hcs2]; rfl
    have hinf2 := infIno hcl2
    have hone2 : cs2.toArray.all (·.oneCell') = true := by have := Ino_one { r with xattr := 0, blocks := r.blocks - 1 } A n c; rw [hcs2] at this; simpa using this
    have hz2 := HS2.out.mod hm11 (by omega)
    have h11 : StIs w11 D3 s0 fs := HST.out.1.mod hm11 (fun k hk e => HST.out.2.2.2.1 (by have : k = q := e; rw [← this]; exact hk))
    have hm111 : Mod w w11 D := HST.out.2.2.2.2.trans hm11 (fun k hk e => by have : k = q := e; have := HQ.out; omega)
    refine wp_region_lit ?_
    refine wpList_load_row rfl 47 _ rfl q rfl 47 cs2.toArray (0, 0) _ hs11 Tryz.underlying47 rfl hinf2 ?_
    refine wpList_store_row rfl 47 _ _ rfl (q + 1) cs2.toArray rfl rfl 47 _ hz2 hinf2 (by rw [List.size_toArray, List.size_toArray, hcl2]; rfl) hone2 ?_
    have hfin := ino_fin cs2 0 (q := q + 1) (by have := HQ.out; omega) h11 HST.out.2.1 HST.out.2.2.1 hm111
    have hres := setRow_heap w11 (q + 1) _ cs2.toArray 47 (0, 0) hz2
    generalize World.setRow w11 (q + 1) cs2.toArray = w13 at hfin hres ⊢
    have HFIN := Aside0.mk hfin
    have HRS := Aside0.mk hres
    have HC2 := Aside0.mk hcs2
    clear hfin hres hs11 hz2 h11 hm111 hcs2 hcs3 hm11 hone2 hcl2
    go_wp2
    refine bodyPost_ret (results_ino rfl _ _ (q + 1) cs2.toArray 0 rfl rfl HRS.out hinf2) rfl ?_
    have hr : (rs, rr, re) = (fs, { r with xattr := 0, blocks := r.blocks - 1 }, 0) := by
     rw [← HRES.out]
     unfold xdropR
     rw [HCS.out.2.2, HFI.out]
     rw [if_neg (by simp), if_neg HX.out.1, if_neg (by simp)]
    cases hr
    have hc := HRC.out
    unfold resC at hc
    rw [if_pos rfl, HC2.out] at hc
    rw [← hc]
    exact HFIN.out
 ·have hne0 : ¬ (e0 = 0) := he0
  go_upto_region 3 with fail
  refine wp_region_lit ?_
  refine wpList_buildZ rfl rfl ?_
  refine wpList_plain rfl fun K hK => ?_
  unfold Oper.wp execOp
  go_simp
  refine hK _ _ ?_
  clear hK K
  refine wpList_store_row rfl 47 _ _ rfl (q + 1) inoZ.toArray rfl rfl 47 _ HS2.out infZ rfl inoZ_one ?_
  have hfin := ino_fin inoZ e0 (q := q + 1) (by have := HQ.out; omega) HST.out.1 HST.out.2.1 HST.out.2.2.1 HST.out.2.2.2.2
  have hres := setRow_heap w2 (q + 1) _ inoZ.toArray 47 (0, 0) HS2.out
  generalize World.setRow w2 (q + 1) inoZ.toArray = w9 at hfin hres ⊢
  have HFIN := Aside0.mk hfin
  have HRS := Aside0.mk hres
  clear hfin hres
  go_wp2
  refine bodyPost_ret (results_ino rfl _ _ (q + 1) inoZ.toArray e0 rfl rfl HRS.out infZ) rfl ?_
  have hr : (rs, rr, re) = (s, r, e0) := by
   rw [← HRES.out]
   unfold xdropR
   rw [HCS.out.2.2]
   exact if_pos he0
  cases hr
  have hc := HRC.out
  unfold resC at hc
  rw [if_neg he0] at hc
  rw [← hc]
  exact HFIN.out
theorem xlistI_pack {now : List (List Int)} {r : Ino} {n : Nat} {l : List Att} (h : xlistI now r n = (l, 0)) (hl : l ≠ []) : (xpackI l r.xattr).2 = 0 ∧ r.xattr ≠ 0 := by
 unfold xlistI at h
 by_cases h1 : inoI r n ≠ 0
 ·rw [if_pos h1] at h; cases h
 ·rw [if_neg h1] at h
  by_cases h2 : r.xattr = 0
  ·rw [if_pos h2] at h
   cases h
   exact absurd rfl hl
  ·rw [if_neg h2] at h
   split at h
   ·cases h
   ·rename_i h3
    simp only [Prod.mk.injEq, and_true] at h
    have h4 : (xunpI (now.getD r.xattr.toNat []) r.xattr).2 = 0 := Classical.byContradiction fun e => h3 (.inl e)
    have := xunpI_pack h4
    rw [h] at this
    rw [this]
    exact ⟨rfl, h2⟩
def xremR (s : St) (r : Ino) (n : Nat) (nm : ByteArray) : St × Ino × Int :=
 if (xlistI s.now r n).2 ≠ 0 then (s, r, (xlistI s.now r n).2) else
 if (seekI (xlistI s.now r n).1 nm).2 = false then (s, r, 61) else
 if (xlistI s.now r n).1.length = 1 then xdropR s r n else
 (s.write r.xattr.toNat (xpackI (delL (xlistI s.now r n).1 (seekI (xlistI s.now r n).1 nm).1) r.xattr).1, r, 0)
theorem run_load_row {P : Program} {o : Oper} {a : Act} {w : World} (ty : TypeId) (x : Operand) (ho : o.op = .load ty x)
  (g : Nat) (hx : a.eval x = .pointer (some ⟨g, 0, none⟩)) (t : TypeId) (cs : Array Value) (fr : Nat × Nat) (d : TypeDesc) (hg : w.heap[g]? = some (.cells cs t fr))
  (hu : P.underlying ty = some d) (hd : (match d with | .struct _ | .array _ _ => true | _ => false) = true) (hi : (P.info? ty).map (·.size) = some cs.size) : (execOp a.eval o).run P w = .ok (.value (.agg cs)) w := by
 unfold execOp
 simp only [ho, hx, Instr.loadAt, Instr.sureAddr, Sem.run_bind, Sem.run_pure, Result.andThen_ok, run_loadVar_row w g t ty cs fr d hg hu hd hi]
set_option maxHeartbeats 8000000 in
set_option maxRecDepth 100000 in
theorem xrem_calls {D : Nat → Prop} {s0 : Nat} {s : St} (r : Ino) (A : Option Addr) (n c : Nat) (nm : ByteArray) (w : World) (h : StIs w D s0 s) (hsb : ∀ b ∈ s.now, allB b) (hh : s.hist.length ≤ 900000) :
  Calls Tryz.prog 22 #[.pointer (some ⟨s0, 0, none⟩), .agg (r.cells (.slice A n c)).toArray, .string nm] w (InoPost D s0 (xremR s r n nm).1 (resC (xremR s r n nm).2.1 (.slice A n c) (xremR s r n nm).2.2) (xremR s r n nm).2.2 w) := by
 have HLIST := Aside0.mk (fun (W : World) (hW : Below w.heap.size w W) => xlist_calls r A n c W (h.below hW))
 obtain ⟨res, hres⟩ : ∃ res, xremR s r n nm = res := ⟨_, rfl⟩
 have HRES := Aside0.mk hres
 obtain ⟨cs, hcs⟩ : ∃ cs, r.cells (.slice A n c) = cs := ⟨_, rfl⟩
 have hcl : cs.length = 15 := by rw [← hcs]; rfl
 have hinf := infIno hcl
 have hll := xlistI_len (r := r) (rl := n) hsb
 have hlp := fun l h => xlistI_pack (now := s.now) (r := r) (n := n) (l := l) h
 obtain ⟨L, hL⟩ : ∃ L, xlistI s.now r n = L := ⟨_, rfl⟩
 rw [hL] at HLIST hll hlp
 have HLP := Aside0.mk hlp
 have HDRP := Aside0.mk (fun (D : Nat → Prop) (W : World) (hW : StIs W D s0 s) => xdrop_calls r A n c W hW hh)
 rw [hcs] at HLIST HDRP ⊢
 rw [hres]
 have HCS := Aside0.mk (And.intro hcs (And.intro hcl hL))
 have HH := Aside0.mk h
 clear hres hcs h hL hlp
 obtain ⟨l, e0⟩ := L
 try dsimp only at HLIST hll
 obtain ⟨rs, rr, re⟩ := res
 dsimp only
 obtain ⟨rc, hrc⟩ : ∃ rc, resC rr (.slice A n c) re = rc := ⟨_, rfl⟩
 rw [hrc]
 have HRC := Aside0.mk hrc
 clear hrc
 obtain ⟨dr, hdr⟩ : ∃ dr, xdropR s r n = dr := ⟨_, rfl⟩
 rw [hdr] at HDRP
 have HDR := Aside0.mk hdr
 obtain ⟨ds, drr, de⟩ := dr
 try dsimp only at HDRP
 obtain ⟨dc, hdc⟩ : ∃ dc, resC drr (.slice A n c) de = dc := ⟨_, rfl⟩
 rw [hdc] at HDRP
 have HDC := Aside0.mk (And.intro hdc (show dc.length = 15 ∧ dc.toArray.all (·.oneCell') = true by
  rw [← hdc]
  unfold resC
  split
  ·exact ⟨rfl, by have := Ino_one drr A n c; simpa using this⟩
  ·exact ⟨rfl, inoZ_one⟩))
 clear hdr hdc
 go_enter Tryz.func22, Tryz.ntmps22
 go_upto_region 1 with fail
 have hb0 := below_alloc (below_alloc (Below.refl w.heap.size w) (.cells cs.toArray 47)) (.cells inoZ.toArray 47)
 have hs1 : Strc ((w.alloc (.cells cs.toArray 47)).alloc (.cells inoZ.toArray 47)) w.heap.size 47 cs := by
  have := alloc_last w (.cells cs.toArray 47)
  unfold Strc
  rw [alloc_old _ _ _ (lt_of_obj this)]
  exact this
 have hs2 : Strc ((w.alloc (.cells cs.toArray 47)).alloc (.cells inoZ.toArray 47)) (w.heap.size + 1) 47 inoZ := by
  have := alloc_last (w.alloc (.cells cs.toArray 47)) (.cells inoZ.toArray 47)
  rw [show ∀ o, (w.alloc o).heap.size = w.heap.size + 1 from fun o => by simp] at this
  exact this
 change Code.wp _ _ _ _ ((w.alloc (.cells cs.toArray 47)).alloc (.cells inoZ.toArray 47))
 generalize (w.alloc (.cells cs.toArray 47)).alloc (.cells inoZ.toArray 47) = w1 at hb0 hs1 hs2 ⊢
 obtain ⟨q, hq⟩ : ∃ q, w.heap.size = q := ⟨_, rfl⟩
 have HB0 := Aside0.mk hb0
 rw [hq] at hs1 hs2 ⊢
 have HQ := Aside0.mk hq
 clear hq hb0
 have HQ1 := Aside0.mk hs2.lt
 have HS1 := Aside0.mk hs1
 have HS2 := Aside0.mk hs2
 clear hs1 hs2
 refine wp_region_lit ?_
 refine wpList_plain rfl fun K hK => ?_
 unfold Oper.wp execOp
 go_simp
 refine hK _ _ ?_
 clear hK K
 refine wpList_load_row rfl 47 _ rfl q rfl 47 cs.toArray (0, 0) _ HS1.out Tryz.underlying47 rfl hinf ?_
 go_wp2_with fail
 refine (HLIST.out w1 HB0.out).mono ?_
 rintro e w2 ⟨D2, v2, b2', rfl, ho2, hD2, hb2, hst2, hgD2, hm2⟩
 obtain ⟨b2, ho2, hD2, hb2, hbs2⟩ := ownA_base ho2 hD2 hst2.sub hb2 hm2.size
 have HBS := Aside0.mk hbs2
 have HLL := Aside0.mk hll
 clear hbs2
 dsimp only
 have hs1 := HS1.out.mod hm2 (fun hd => by have := HH.out.sub _ hd; have := HQ.out; omega)
 have hs2 := HS2.out.mod hm2 (fun hd => by have := HH.out.sub _ hd; have := HQ.out; omega)
 have HS1 := Aside0.mk hs1
 have HS2 := Aside0.mk hs2
 obtain ⟨A2, c2, rfl, hc2, hE2⟩ := ho2.reads (by dsimp only; omega)
 have HSK := Aside0.mk (seek_calls A2 c2 l nm w2 hE2 (by dsimp only at *; omega))
 obtain ⟨k, hk⟩ : ∃ k, seekI l nm = k := ⟨_, rfl⟩
 rw [hk] at HSK
 obtain ⟨i, is⟩ := k
 dsimp only at HSK
 obtain ⟨ln, hln⟩ : ∃ ln, l.length = ln := ⟨_, rfl⟩
 rw [hln] at HSK hc2 ⊢
 have HK := Aside0.mk (And.intro hk hln)
 have HM2 := Aside0.mk (And.intro ho2 (And.intro hD2 (And.intro hb2 (And.intro hst2 (And.intro hgD2 (And.intro hE2 (Mod.trans (Mod.of_below HB0.out D) hm2 (fun _ _ h => h))))))))
 clear hk hln ho2 hD2 hb2 hst2 hgD2 hE2 hm2 hs1 hs2
 go_wp2_with fail
 refine HSK.out.mono ?_
 rintro e w3 ⟨rfl, hb3⟩
 have hs2 := HS2.out.below hb3
 have HS1 := Aside0.mk (HS1.out.below hb3)
 have HS2 := Aside0.mk hs2
 have HB3 := Aside0.mk hb3
 clear hs2 hb3
 dsimp only
 have hst3 : StIs w3 D2 s0 s ∧ (∀ k, D2 k → D k ∨ w.heap.size ≤ k) ∧ ¬ D2 (q + 1) ∧ Mod w w3 D := by
  refine ⟨HM2.out.2.2.2.1.below HB3.out, fun k hk => (HM2.out.2.2.2.2.1 k hk).imp id (fun h => Nat.le_trans HB0.out.size h), fun hd => ?_, HM2.out.2.2.2.2.2.2.below HB3.out⟩
  rcases HM2.out.2.2.2.2.1 _ hd with h | h
  ·have := HH.out.sub _ h
   have := HQ.out
   omega
  ·have := HQ1.out
   omega
 have HST := Aside0.mk hst3
 clear hst3
 by_cases he0 : e0 = 0
 ·subst he0
  cases is
  ·go_upto_region 6 with fail
   refine wp_region_lit ?_
   refine wpList_buildZ rfl rfl ?_
   refine wpList_store_row rfl 47 _ _ rfl (q + 1) inoZ.toArray rfl rfl 47 _ HS2.out infZ rfl inoZ_one ?_
   have hfin := ino_fin inoZ (61) (q := q + 1) (by have := HQ.out; omega) HST.out.1 HST.out.2.1 HST.out.2.2.1 HST.out.2.2.2
   have hres := setRow_heap w3 (q + 1) _ inoZ.toArray 47 (0, 0) HS2.out
   generalize World.setRow w3 (q + 1) inoZ.toArray = w9 at hfin hres ⊢
   have HFIN := Aside0.mk hfin
   have HRS := Aside0.mk hres
   clear hfin hres
   go_wp2
   refine bodyPost_ret (results_ino rfl _ _ (q + 1) inoZ.toArray (61) rfl rfl HRS.out infZ) rfl ?_
   have hr : (rs, rr, re) = (s, r, (61)) := by
    rw [← HRES.out]
    unfold xremR
    rw [HCS.out.2.2, HK.out.1]
    rw [if_neg (by simp), if_pos rfl]
   cases hr
   have hc := HRC.out
   unfold resC at hc
   rw [if_neg (by decide)] at hc
   rw [← hc]
   exact HFIN.out
  ·have HIL := Aside0.mk (seekI_lt HK.out.1)
   by_cases hl1 : ln = 1
   ·have HL1 := Aside0.mk hl1
    subst hl1
    go_upto_region 8 with fail
    refine wp_region_lit ?_
    refine wpList_plain rfl fun K hK => ?_
    unfold Oper.wp execOp
    go_simp
    refine hK _ _ ?_
    clear hK K
    refine wpList_load_row rfl 47 _ rfl q rfl 47 cs.toArray (0, 0) _ HS1.out Tryz.underlying47 rfl hinf ?_
    refine wpList_plain rfl fun K hK => ?_
    unfold Oper.wp execOp
    go_simp
    refine (HDRP.out D2 w3 HST.out.1).mono ?_
    rintro e w9 ⟨D9, rfl, h9, hD9, hm9⟩
    have hs2' := HS2.out.mod hm9 HST.out.2.2.1
    have hq9 := HS2.out.lt
    have hm19 : Mod w w9 D := Mod.trans HST.out.2.2.2 hm9 (fun k hk hd => (HST.out.2.1 k hd).elim id (fun h => by omega))
    have hg9 : ∀ k, D9 k → D k ∨ w.heap.size ≤ k := fun k hk => (hD9 k hk).elim (HST.out.2.1 k) (fun h => .inr (by have := HST.out.2.2.2.size; omega))
    have hn9 : ¬ D9 (q + 1) := fun hd => (hD9 _ hd).elim HST.out.2.2.1 (fun h => by omega)
    have H9 := Aside0.mk (And.intro h9 (And.intro hg9 (And.intro hn9 (And.intro hm19 hs2'))))
    clear h9 hD9 hm9 hs2' hq9 hm19 hg9 hn9
    dsimp only
    refine hK _ _ ?_
    clear hK K
    refine wpList_plain rfl fun K hK => ?_
    unfold Oper.wp execOp
    go_simp
    refine hK _ _ ?_
    clear hK K
    refine wpList_plain rfl fun K hK => ?_
    unfold Oper.wp execOp
    go_simp
    refine hK _ _ ?_
    clear hK K
    have hinf2 := infIno HDC.out.2.1
    refine wpList_store_row rfl 47 _ _ rfl (q + 1) dc.toArray rfl rfl 47 _ H9.out.2.2.2.2 hinf2 (by rw [List.size_toArray, List.size_toArray, HDC.out.2.1]; rfl) HDC.out.2.2 ?_
    have hfin := ino_fin dc de (q := q + 1) (by have := HQ.out; omega) H9.out.1 H9.out.2.1 H9.out.2.2.1 H9.out.2.2.2.1
    have hres := setRow_heap w9 (q + 1) _ dc.toArray 47 (0, 0) H9.out.2.2.2.2
    generalize World.setRow w9 (q + 1) dc.toArray = w10 at hfin hres ⊢
    have HFIN := Aside0.mk hfin
    have HRS := Aside0.mk hres
    clear hfin hres
    go_wp2
    refine bodyPost_ret (results_ino rfl _ _ (q + 1) dc.toArray de rfl rfl HRS.out hinf2) rfl ?_
    have hr : (rs, rr, re) = (ds, drr, de) := by
     rw [← HRES.out]
     unfold xremR
     rw [HCS.out.2.2, HK.out.1, HDR.out]
     rw [if_neg (by simp), if_neg (by simp), if_pos HK.out.2]
    cases hr
    rw [← HRC.out, HDC.out.1]
    exact HFIN.out
   ·have HL1 := Aside0.mk hl1
    have hl1i : ¬ ((ln : Int) = 1) := by omega
    have hlp := HLP.out l rfl (fun e => by have := HIL.out; rw [e] at this; simp at this)
    obtain ⟨hx1, hx2, hx3⟩ := xlistI_in HCS.out.2.2 hlp.2
    obtain ⟨x, hxx⟩ : ∃ x : Nat, r.xattr = x := ⟨r.xattr.toNat, by omega⟩
    have hxn : x < s.now.length := by rw [hxx] at hx3; simpa using hx3
    have HX := Aside0.mk (And.intro hxx (And.intro hxn (And.intro (show x < 65536 by omega) hlp)))
    have ho3 : OwnA w3.drew b2 (.slice A2 ln c2) l := by have := (HM2.out.1.below HB3.out).below ((Below.refl _ _).drew); rw [HK.out.2] at this; exact this
    have HO3 := Aside0.mk ho3
    have HDEL := Aside0.mk (fun (W : World) (hW : OwnA W b2 (.slice A2 ln c2) l) => delete_calls (i := i) (j := i + 1) hW HIL.out rfl (by have := HLL.out; omega))
    obtain ⟨l2, hl2⟩ : ∃ l2, delL l i = l2 := ⟨_, rfl⟩
    rw [hl2] at HDEL
    have HL2 := Aside0.mk hl2
    have hi1 : ((i + 1 : Nat) : Int) = (i : Int) + 1 := by omega
    have hib : i ≤ 255 := by have := HIL.out; have := HLL.out; omega
    rw [hi1] at HDEL
    clear hlp hx1 hx2 hx3 hxx hxn ho3 hl2 hi1
    go_upto_region 9 with fail
    refine wp_region_in [0, 1, 0, 0, 0, 0, 2, 2, 0, 0, 2, 0] [] (fun W => Strc W q 47 cs) (by kernel_rfl) rfl (by kernel_rfl) (fun _ _ _ _ h => h) HS1.out ?_
    iterate 1 (first
     | (refine in_off0 (by rfl) ?_; simp only [Act.put, stA, stZ, stS, i64_w, i32_w])
     | (refine in_off1 (by rfl) ?_; simp only [Act.put, stA, stZ, stS, i64_w, i32_w])
     | (refine in_0 (v := ?_) (by rfl) rfl ?_ (a' := ?_) ?_ ?_; rotate_left; (intro w'; go_simp; with_reducible rfl); rotate_left; (simp only [Act.put, stA, stZ, stS, i64_w, i32_w]; rfl))
     | (refine in_1 (v := ?_) (by rfl) rfl ?_ (a' := ?_) ?_ ?_; rotate_left; (rintro w' hs; go_split_ands; go_simp; with_reducible rfl); rotate_left; (simp only [Act.put, stA, stZ, stS, i64_w, i32_w]; rfl)))
    refine in_1 (by rfl) rfl (fun W hW => run_load_row 47 _ rfl q rfl 47 cs.toArray (0, 0) _ hW Tryz.underlying47 rfl hinf) rfl ?_
    simp only [Act.put, stA, stZ, stS, i64_w, i32_w]
    have hw1 : wrap64 ((i : Int) + 1) = (i : Int) + 1 := by unfold wrap64; omega
    iterate 4 (first
     | (refine in_off0 (by rfl) ?_; simp only [Act.put, stA, stZ, stS, i64_w, i32_w])
     | (refine in_off1 (by rfl) ?_; simp only [Act.put, stA, stZ, stS, i64_w, i32_w])
     | (refine in_0 (v := ?_) (by rfl) rfl ?_ (a' := ?_) ?_ ?_; rotate_left; (intro w'; go_simp; with_reducible rfl); rotate_left; (simp only [Act.put, stA, stZ, stS, i64_w, i32_w]; rfl))
     | (refine in_1 (v := ?_) (by rfl) rfl ?_ (a' := ?_) ?_ ?_; rotate_left; (rintro w' hs; go_split_ands; go_simp; with_reducible rfl); rotate_left; (simp only [Act.put, stA, stZ, stS, i64_w, i32_w]; rfl)))
    rw [hw1]
    clear hw1
    refine in_2 (by rfl) (fun K hK => ?_)
    go_simp
    with_reducible refine (HDEL.out _ HO3.out).mono ?_
    rintro e w4 ⟨v4, rfl, ho4, hm4⟩
    dsimp only
    have hbA : ∀ k, (Value.slice A2 ln c2).ownBlock = some k → b2 ≤ k := fun k hk => ownA_ge HM2.out.1 k (by rw [HK.out.2]; exact hk)
    have hq2 : q + 1 < b2 := by have := HQ1.out; have := HM2.out.2.2.1; omega
    have hm34 : Mod w3 w4 (fun k => b2 ≤ k) := Mod.trans (Mod.of_below ((Below.refl _ _).drew) _) (hm4.mono (fun k _ e => hbA k e)) (fun _ _ h => h)
    have hs1 := HS1.out.mod hm34 (fun e => by have : b2 ≤ q := e; omega)
    have hs2 := HS2.out.mod hm34 (fun e => by have : b2 ≤ q + 1 := e; omega)
    have hst4 : StIs w4 D2 s0 s ∧ (∀ k, D2 k → D k ∨ w.heap.size ≤ k) ∧ ¬ D2 (q + 1) ∧ Mod w w4 D := ⟨HST.out.1.mod hm34 (fun k hk e => by have : b2 ≤ k := e; have := HM2.out.2.1 k hk; omega), HST.out.2.1, HST.out.2.2.1, Mod.trans HST.out.2.2.2 hm34 (fun k hk e => by have : b2 ≤ k := e; have := HM2.out.2.2.1; have := HB0.out.size; omega)⟩
    refine hK _ _ hs1 ?_
    clear hK K
    try simp only [Act.put, stA, stZ, stS, i64_w, i32_w]
    have hln2 : l2.length ≤ 255 := by rw [← HL2.out, delL_length _ _ HIL.out]; have := HLL.out; omega
    obtain ⟨A4, c4, rfl, hc4, hE4⟩ := ho4.reads (by omega)
    have hall4 : ∀ y ∈ l2, allB y.val := fun y hy => by
     obtain ⟨vs, _, _, h3⟩ := ho4
     obtain ⟨j, hj, rfl⟩ := List.getElem_of_mem hy
     have := (h3 j hj).2
     simpa [attAt, List.getD_eq_getElem?_getD, hj] using this
    have hlay := lay_calls cs x A4 c4 l2 w4 hst4.1 HCS.out.2.1 (by rw [← HCS.out.1]; exact Ino_one r A n c) (by rw [← HCS.out.1, ← HX.out.1]; rfl) HX.out.2.1 HX.out.2.2.1 hE4 hc4 (by omega) (by rw [← HL2.out]; exact xpack_del HX.out.2.2.2.1 HIL.out) hall4 (by omega)
    have hnq : ¬ D2 q := fun hd => (HST.out.2.1 _ hd).elim (fun hd => by have := HH.out.sub _ hd; have := HQ.out; omega) (fun h => by have := (HM2.out.2.2.2.2.1 _ hd); exact this.elim (fun hd => by have := HH.out.sub _ hd; have := HQ.out; omega) (fun h => by have := HQ1.out; omega))
    refine in_2 (by rfl) (fun K hK => ?_)
    go_simp
    with_reducible refine hlay.mono ?_
    rintro e w5 ⟨D5, rfl, h5, hD5, hm5⟩
    dsimp only
    have hs15 := hs1.mod hm5 hnq
    have hs25 := hs2.mod hm5 hst4.2.2.1
    refine hK _ _ hs15 ?_
    clear hK K
    try simp only [Act.put, stA, stZ, stS, i64_w, i32_w]
    iterate 2 (first
     | (refine in_off0 (by rfl) ?_; simp only [Act.put, stA, stZ, stS, i64_w, i32_w])
     | (refine in_off1 (by rfl) ?_; simp only [Act.put, stA, stZ, stS, i64_w, i32_w])
     | (refine in_0 (v := ?_) (by rfl) rfl ?_ (a' := ?_) ?_ ?_; rotate_left; (intro w'; go_simp; with_reducible rfl); rotate_left; (simp only [Act.put, stA, stZ, stS, i64_w, i32_w]; rfl))
     | (refine in_1 (v := ?_) (by rfl) rfl ?_ (a' := ?_) ?_ ?_; rotate_left; (rintro w' hs; go_split_ands; go_simp; with_reducible rfl); rotate_left; (simp only [Act.put, stA, stZ, stS, i64_w, i32_w]; rfl)))
    have hn5 : ¬ D5 (q + 1) := fun hd => (hD5 _ hd).elim hst4.2.2.1 (fun h => by have := hs2.lt; omega)
    have hg5 : ∀ k, D5 k → D k ∨ w.heap.size ≤ k := fun k hk => (hD5 k hk).elim (hst4.2.1 k) (fun h => .inr (by have := hst4.2.2.2.size; omega))
    have hm05 : Mod w w5 D := Mod.trans hst4.2.2.2 hm5 (fun k hk hd => (hst4.2.1 k hd).elim id (fun h => by omega))
    refine in_2 (by rfl) (fun K hK => ?_)
    refine wp_store_row 47 _ _ rfl (q + 1) cs.toArray rfl rfl 47 _ hs25 hinf (by rw [List.size_toArray, List.size_toArray, HCS.out.2.1]; rfl) (by have := Ino_one r A n c; rw [HCS.out.1] at this; simpa using this) ?_
    have hfin := ino_fin cs 0 (q := q + 1) (by have := HQ.out; omega) h5 hg5 hn5 hm05
    have hres := setRow_heap w5 (q + 1) _ cs.toArray 47 (0, 0) hs25
    have hss := hs15.mod (mod_setRow w5 (q + 1) cs.toArray) (by omega)
    refine hK _ _ hss ?_
    clear hK K
    generalize World.setRow w5 (q + 1) cs.toArray = w9 at hfin hres ⊢
    have HFIN := Aside0.mk hfin
    have HRS := Aside0.mk hres
    clear hfin hres hss hs15 hs25 hn5 hg5 hm05 h5 hD5 hm5 hlay hnq hs1 hs2 hst4 hall4 hE4 hc4 hln2 hm34 hq2 hbA ho4 hm4
    try simp only [Act.put, stA, stZ, stS, i64_w, i32_w]
    iterate 1 (first
     | (refine in_off0 (by rfl) ?_; simp only [Act.put, stA, stZ, stS, i64_w, i32_w])
     | (refine in_off1 (by rfl) ?_; simp only [Act.put, stA, stZ, stS, i64_w, i32_w])
     | (refine in_0 (v := ?_) (by rfl) rfl ?_ (a' := ?_) ?_ ?_; rotate_left; (intro w'; go_simp; with_reducible rfl); rotate_left; (simp only [Act.put, stA, stZ, stS, i64_w, i32_w]; rfl))
     | (refine in_1 (v := ?_) (by rfl) rfl ?_ (a' := ?_) ?_ ?_; rotate_left; (rintro w' hs; go_split_ands; go_simp; with_reducible rfl); rotate_left; (simp only [Act.put, stA, stZ, stS, i64_w, i32_w]; rfl)))
    refine in_nil ?_
    go_wp2
    refine bodyPost_ret (results_ino rfl _ _ (q + 1) cs.toArray 0 rfl rfl HRS.out hinf) rfl ?_
    have hr : (rs, rr, re) = (s.write x (xpackI l2 x).1, r, 0) := by
     rw [← HRES.out]
     unfold xremR
     rw [HCS.out.2.2, HK.out.1]
     dsimp only
     rw [HK.out.2, HL2.out]
     rw [if_neg (by simp), if_neg (by simp), if_neg HL1.out, HX.out.1, Int.toNat_natCast]
    cases hr
    have hc := HRC.out
    unfold resC at hc
    rw [if_pos rfl, HCS.out.1] at hc
    rw [← hc]
    exact HFIN.out
 ·have hne0 : ¬ (e0 = 0) := he0
  go_upto_region 4 with fail
  refine wp_region_lit ?_
  refine wpList_buildZ rfl rfl ?_
  refine wpList_plain rfl fun K hK => ?_
  unfold Oper.wp execOp
  go_simp
  refine hK _ _ ?_
  clear hK K
  refine wpList_store_row rfl 47 _ _ rfl (q + 1) inoZ.toArray rfl rfl 47 _ HS2.out infZ rfl inoZ_one ?_
  have hfin := ino_fin inoZ e0 (q := q + 1) (by have := HQ.out; omega) HST.out.1 HST.out.2.1 HST.out.2.2.1 HST.out.2.2.2
  have hres := setRow_heap w3 (q + 1) _ inoZ.toArray 47 (0, 0) HS2.out
  generalize World.setRow w3 (q + 1) inoZ.toArray = w9 at hfin hres ⊢
  have HFIN := Aside0.mk hfin
  have HRS := Aside0.mk hres
  clear hfin hres
  go_wp2
  refine bodyPost_ret (results_ino rfl _ _ (q + 1) inoZ.toArray e0 rfl rfl HRS.out infZ) rfl ?_
  have hr : (rs, rr, re) = (s, r, e0) := by
   rw [← HRES.out]
   unfold xremR
   rw [HCS.out.2.2]
   exact if_pos he0
  cases hr
  have hc := HRC.out
  unfold resC at hc
  rw [if_neg he0] at hc
  rw [← hc]
  exact HFIN.out
def zeroGo : Nat → Nat → List (List Int) → List (List Int)
 | 0, _, L => L
 | g + 1, n, L => zeroGo g (n + 1) (L.set n zeros)
def mkFr (g : Geo) (i : Nat) : Nat := (spanI g i).1.toNat
def mkTo (g : Geo) (i : Nat) : Nat := (spanI g i).2.1.toNat
def mkBm (g : Geo) (i : Nat) : Nat := (placeI g i).1.toNat
def mkDa (g : Geo) (i : Nat) : Nat := (placeI g i).2.2.2.1.toNat
def mkBits (g : Geo) (i : Nat) : List Int × Int := turnI (newB (mkTo g i - mkFr g i) (mkBm g i)) (mkTo g i - mkFr g i) 0 ((mkDa g i : Int) - mkFr g i) true (mkBm g i)
def mkOne (g : Geo) (i : Nat) (L : List (List Int)) : List (List Int) :=
 zeroGo (mkDa g i - (mkBm g i + 2)) (mkBm g i + 2) ((L.set (mkBm g i) (mkBits g i).1).set (mkBm g i + 1) (newB g.inodes.toNat (mkBm g i + 1 : Nat)))
def mkGo (g : Geo) (L : List (List Int)) : Nat → List (List Int)
 | 0 => L
 | k + 1 => mkOne g k (mkGo g L k)
def mkGrps (g : Geo) : Nat → List Grp
 | 0 => []
 | k + 1 => mkGrps g k ++ [⟨(mkTo g k : Int) - mkDa g k, g.inodes, 0⟩]
def mkFb (g : Geo) : Nat → Int
 | 0 => 0
 | k + 1 => mkFb g k + ((mkTo g k : Int) - mkDa g k)
def mkSup (g : Geo) : Sup := ⟨g, mkFb g (groupsI g).toNat, (groupsI g).toNat * g.inodes, 0, 0, false⟩
def mkI (g : Geo) (L : List (List Int)) : List (List Int) := ((mkGo g L (groupsI g).toNat).set 1 (pgroupsI (mkGrps g (groupsI g).toNat)).1).set 0 (psuperI (mkSup g)).1
structure MkOk (g : Geo) : Prop where
 geo : geoI g = 0
 bits : ∀ i : Nat, (i : Int) < groupsI g → (mkBits g i).2 = 0
 grps : (pgroupsI (mkGrps g (groupsI g).toNat)).2 = 0
 sup : (psuperI (mkSup g)).2 = 0
theorem zeroGo_length : ∀ (g n : Nat) (L : List (List Int)), (zeroGo g n L).length = L.length
 | 0, _, _ => rfl
 | g + 1, n, L => by rw [zeroGo, zeroGo_length g (n + 1) _, List.length_set]
theorem mkGo_length (g : Geo) (L : List (List Int)) : ∀ k, (mkGo g L k).length = L.length
 | 0 => rfl
 | k + 1 => by rw [mkGo, mkOne, zeroGo_length, List.length_set, List.length_set, mkGo_length g L k]
theorem mkGrps_length (g : Geo) : ∀ k, (mkGrps g k).length = k
 | 0 => rfl
 | k + 1 => by rw [mkGrps, List.length_append, mkGrps_length g k]; rfl
theorem newB_ok (n : Nat) (s : Int) : (newB n s).length = 256 ∧ allB (newB n s) := by
 refine ⟨?_, allB_seal (allB_or (fun x hx => by rw [List.eq_of_mem_replicate hx]; omega) _ _) s⟩
 unfold newB sealL
 rw [layL_length, orTo_length, List.length_replicate]
theorem geo_grp2 {g : Geo} (h : geoI g = 0) {i : Nat} (hi : (i : Int) < groupsI g) :
  ∃ fr zz bm da : Nat, spanI g (i : Int) = ((fr : Int), (zz : Int), 0) ∧ placeI g (i : Int) = ((bm : Int), (bm : Int) + 1, (bm : Int) + 2, (da : Int), 0) ∧ fr ≤ bm ∧ bm + 2 ≤ da ∧ da < zz ∧ (zz : Int) ≤ g.blocks ∧ zz - fr ≤ 2016 ∧ da ≤ bm + 258 := by
 have hz := geoI_zero h
 have hg := (groupsI_good (g := g) (i := (i : Int)) (by omega) hi).2.2
 have hp : 0 < g.per := by omega
 have hm : 0 ≤ (i : Int) * g.per := Int.mul_nonneg (by omega) (by omega)
 obtain ⟨i', fr, zz, bm, e1, e2, e3, e4, e5, e6, e7, e8, e9, e10, e11⟩ := geo_at h (a := (i : Int) * g.per) hm (by omega)
 rw [Int.mul_ediv_cancel _ (by omega)] at e1
 rw [← e1] at e3 e4
 obtain ⟨da, hda⟩ : ∃ da : Nat, (bm : Int) + 2 + g.inodes / 2 = da := ⟨((bm : Int) + 2 + g.inodes / 2).toNat, by omega⟩
 rw [hda] at e4 e8
 exact ⟨fr, zz, bm, da, e3, e4, e5, by omega, by omega, e9, e10, by omega⟩
theorem mk_is {g : Geo} {i fr zz bm da : Nat} (e3 : spanI g (i : Int) = ((fr : Int), (zz : Int), 0)) (e4 : placeI g (i : Int) = ((bm : Int), (bm : Int) + 1, (bm : Int) + 2, (da : Int), 0)) : mkFr g i = fr ∧ mkTo g i = zz ∧ mkBm g i = bm ∧ mkDa g i = da := by
 unfold mkFr mkTo mkBm mkDa
 rw [e3, e4]
 exact ⟨rfl, rfl, rfl, rfl⟩
theorem DiskIs.more {w : World} {D : Nat → Prop} {p : Nat} {L : List (List Int)} {m m' : Nat} (h : DiskIs w D p L m) (h1 : m ≤ m') (h2 : m' ≤ 1000000) : DiskIs w D p L m' := by
 obtain ⟨bd, bn, pv, ops, fd, fn, pend, h⟩ := h
 exact ⟨bd, bn, pv, ops, fd, fn, pend, ⟨h.st, h.dp, h.dd, h.dn, h.ne, h.md, h.mn, h.row, h.drow, h.lo, h.hi, h.new, h.cont, Nat.le_trans h.short h1, h2, h.pok⟩⟩
theorem mkFb_range {g : Geo} (h : geoI g = 0) : ∀ k : Nat, (k : Int) ≤ groupsI g → 0 ≤ mkFb g k ∧ mkFb g k ≤ 2016 * k
 | 0, _ => ⟨Int.le_refl _, by simp [mkFb]⟩
 | k + 1, hk => by
  have ih := mkFb_range h k (by omega)
  obtain ⟨fr, zz, bm, da, e3, e4, e5, e6, e7, e8, e9, e10⟩ := geo_grp2 h (i := k) (by omega)
  obtain ⟨m1, m2, m3, m4⟩ := mk_is e3 e4
  rw [mkFb, m2, m4]
  omega
set_option maxHeartbeats 4000000 in
set_option maxRecDepth 100000 in
theorem make_calls {D : Nat → Prop} {p m : Nat} {L : List (List Int)} (g : Geo) (w : World) (h : DiskIs w D p L m) (hD : ∀ k, D k → k < w.heap.size) (hL : (L.length : Int) = g.blocks) (hok : MkOk g) (hm : m ≤ 900000) :
  Calls Tryz.prog 46 #[.pointer (some ⟨p, 0, none⟩), g.v] w fun e w' => e = .returned (.int .i64 0) ∧ ∃ D', DiskIs w' D' p (mkI g L) 0 ∧ (∀ k, D' k → (D k ∨ w.heap.size ≤ k) ∧ k < w'.heap.size) ∧ Mod w w' D := by
 obtain ⟨bl, pr, ino, jo⟩ := g
 have hzz0 := geoI_zero hok.geo
 dsimp only at hzz0
 obtain ⟨I, rfl⟩ : ∃ I : Nat, ino = I := ⟨ino.toNat, by omega⟩
 clear hzz0
 have hzz := geoI_zero hok.geo
 have hgr := groupsI_range ⟨bl, pr, (I : Int), jo⟩
 dsimp only at hzz hL
 obtain ⟨n, hn⟩ : ∃ n : Nat, groupsI ⟨bl, pr, (I : Int), jo⟩ = (n : Int) := ⟨(groupsI ⟨bl, pr, (I : Int), jo⟩).toNat, by omega⟩
 have hgrps := hok.grps
 have hsup := hok.sup
 have hr : mkI ⟨bl, pr, (I : Int), jo⟩ L = ((mkGo ⟨bl, pr, (I : Int), jo⟩ L n).set 1 (pgroupsI (mkGrps ⟨bl, pr, (I : Int), jo⟩ n)).1).set 0 (psuperI ⟨⟨bl, pr, (I : Int), jo⟩, mkFb ⟨bl, pr, (I : Int), jo⟩ n, n * (I : Int), 0, 0, false⟩).1 := by
  unfold mkI mkSup
  rw [hn, Int.toNat_natCast]
 unfold mkSup at hsup
 rw [hn, Int.toNat_natCast] at hgrps hsup
 dsimp only at hsup
 rw [hr]
 clear hr
 have hn14 : n ≤ 14 := by omega
 have HOK := Aside0.mk hok
 have HN := Aside0.mk hn
 have HPK := Aside0.mk (And.intro hgrps hsup)
 have HLL := Aside0.mk hL
 obtain ⟨hdc, hdlo, hdhi, hdp, hdl⟩ := h.n
 obtain ⟨q, hq⟩ : ∃ q, w.heap.size = q := ⟨_, rfl⟩
 have HH := Aside0.mk (And.intro h hD)
 have HGE := Aside0.mk (fun W : World => geo_calls ⟨bl, pr, (I : Int), jo⟩ W)
 rw [hok.geo] at HGE
 have HGR := Aside0.mk (fun W : World => groups_calls ⟨bl, pr, (I : Int), jo⟩ W)
 rw [hn] at HGR
 have hI2 : I ≤ 512 := by omega
 have HZ := Aside0.mk hzz
 clear h hD hok hn hgrps hsup hgr hzz hdc
 unfold Geo.v at HGE HGR ⊢
 dsimp only at HGE HGR ⊢
 go_enter Tryz.func46, Tryz.ntmps46
 go_upto_region 1 with fail
 have hs0 : Strc (w.alloc (.cells #[.int .i64 bl, .int .i64 pr, .int .i64 I, .int .i64 jo] 80)) q 80 [.int .i64 bl, .int .i64 pr, .int .i64 I, .int .i64 jo] := by
  rw [← hq]; exact alloc_last w _
 have hb0 := below_alloc (Below.refl w.heap.size w) (.cells #[.int .i64 bl, .int .i64 pr, .int .i64 I, .int .i64 jo] 80)
 have hz0 : (w.alloc (.cells #[.int .i64 bl, .int .i64 pr, .int .i64 I, .int .i64 jo] 80)).heap.size = q + 1 := by simp [hq]
 generalize w.alloc (.cells #[.int .i64 bl, .int .i64 pr, .int .i64 I, .int .i64 jo] 80) = w0 at hs0 hb0 hz0 ⊢
 have HB0 := Aside0.mk hb0.drew
 have HS0 := Aside0.mk (hs0.below (below_drew (Below.refl w0.heap.size w0)))
 have hz0d : w0.drew.heap.size = q + 1 := hz0
 have c0 := HS0.out.cell 0 _ rfl
 have c1 := HS0.out.cell 1 _ rfl
 have c2 := HS0.out.cell 2 _ rfl
 have c3 := HS0.out.cell 3 _ rfl
 clear hs0 hb0
 refine wp_region_ord [0, 1, 2, 3, 4, 6, 7, 5, 8, 9] [1, 2, 0, 0, 0, 0, 1, 2, 0, 0] (fun w' => w'.cell? ⟨q, 0, none⟩ = some (.int .i64 bl) ∧ w'.cell? ⟨q, 1, none⟩ = some (.int .i64 pr) ∧ w'.cell? ⟨q, 2, none⟩ = some (.int .i64 I) ∧ w'.cell? ⟨q, 3, none⟩ = some (.int .i64 jo)) (by kernel_rfl) rfl (by kernel_rfl) (fun _ _ _ _ h => h) ⟨c0, c1, c2, c3⟩ ?_
 iterate 1 (first
  | (refine inQ_off0 (by rfl) (by rfl) ?_; simp only [Act.put, stA, stZ, stS, i64_w, i32_w])
  | (refine inQ_off1 (by rfl) (by rfl) ?_; simp only [Act.put, stA, stZ, stS, i64_w, i32_w])
  | (refine inQ_0 (v := ?_) (by rfl) (by rfl) rfl ?_ (a' := ?_) ?_ ?_; rotate_left; (intro w'; go_simp; with_reducible rfl); rotate_left; (simp only [Act.put, stA, stZ, stS, i64_w, i32_w]; rfl))
  | (refine inQ_1 (v := ?_) (by rfl) (by rfl) rfl ?_ (a' := ?_) ?_ ?_; rotate_left; (rintro w' hs; go_split_ands; go_simp; with_reducible rfl); rotate_left; (simp only [Act.put, stA, stZ, stS, i64_w, i32_w]; rfl)))
 refine inQ_2 (by rfl) (by rfl) (fun K hK => ?_)
 go_simp
 with_reducible refine (HGE.out _).mono ?_
 rintro e w1 ⟨rfl, hb1⟩
 dsimp only
 have HB1 := Aside0.mk (below_then HB0.out HB0.out.size hb1)
 have HS1 := Aside0.mk (HS0.out.below hb1)
 have hz1 := hb1.size
 rw [hz0d] at hz1
 have hd1 := (HH.out.1.below HB1.out).n.1
 rw [hL] at hd1
 clear c0 c1 c2 c3 hb1
 have c0 := HS1.out.cell 0 _ rfl
 have c1 := HS1.out.cell 1 _ rfl
 have c2 := HS1.out.cell 2 _ rfl
 have c3 := HS1.out.cell 3 _ rfl
 refine hK _ _ ⟨c0, c1, c2, c3⟩ ?_
 clear hK K
 try simp only [Act.put, stA, stZ, stS, i64_w, i32_w]
 iterate 5 (first
  | (refine inQ_off0 (by rfl) (by rfl) ?_; simp only [Act.put, stA, stZ, stS, i64_w, i32_w])
  | (refine inQ_off1 (by rfl) (by rfl) ?_; simp only [Act.put, stA, stZ, stS, i64_w, i32_w])
  | (refine inQ_0 (v := ?_) (by rfl) (by rfl) rfl ?_ (a' := ?_) ?_ ?_; rotate_left; (intro w'; go_simp; with_reducible rfl); rotate_left; (simp only [Act.put, stA, stZ, stS, i64_w, i32_w]; rfl))
  | (refine inQ_1 (v := ?_) (by rfl) (by rfl) rfl ?_ (a' := ?_) ?_ ?_; rotate_left; (rintro w' hs; go_split_ands; go_simp; with_reducible rfl); rotate_left; (simp only [Act.put, stA, stZ, stS, i64_w, i32_w]; rfl)))
 refine inQ_2 (by rfl) (by rfl) (fun K hK => ?_)
 go_simp
 with_reducible refine (dblocks_calls hd1).mono ?_
 rintro e _w ⟨rfl, rfl⟩
 dsimp only
 refine hK _ _ ⟨c0, c1, c2, c3⟩ ?_
 clear hK K hd1
 try simp only [Act.put, stA, stZ, stS, i64_w, i32_w]
 iterate 2 (first
  | (refine inQ_off0 (by rfl) (by rfl) ?_; simp only [Act.put, stA, stZ, stS, i64_w, i32_w])
  | (refine inQ_off1 (by rfl) (by rfl) ?_; simp only [Act.put, stA, stZ, stS, i64_w, i32_w])
  | (refine inQ_0 (v := ?_) (by rfl) (by rfl) rfl ?_ (a' := ?_) ?_ ?_; rotate_left; (intro w'; go_simp; with_reducible rfl); rotate_left; (simp only [Act.put, stA, stZ, stS, i64_w, i32_w]; rfl))
  | (refine inQ_1 (v := ?_) (by rfl) (by rfl) rfl ?_ (a' := ?_) ?_ ?_; rotate_left; (rintro w' hs; go_split_ands; go_simp; with_reducible rfl); rotate_left; (simp only [Act.put, stA, stZ, stS, i64_w, i32_w]; rfl)))
 refine inP_nil ?_
 go_upto_region 5 with fail
 obtain ⟨z, hz⟩ : ∃ z, w1.heap.size = z := ⟨_, rfl⟩
 have hs2 : Strc (w1.alloc (.cells #[.int .i64 bl, .int .i64 pr, .int .i64 I, .int .i64 jo, .int .i64 0, .int .i64 0, .int .i64 0, .int .i64 0, .bool false] 121)) z 121 [.int .i64 bl, .int .i64 pr, .int .i64 I, .int .i64 jo, .int .i64 0, .int .i64 0, .int .i64 0, .int .i64 0, .bool false] := by
  rw [← hz]; exact alloc_last w1 _
 have hb2 := below_alloc (Below.refl w1.heap.size w1) (.cells #[.int .i64 bl, .int .i64 pr, .int .i64 I, .int .i64 jo, .int .i64 0, .int .i64 0, .int .i64 0, .int .i64 0, .bool false] 121)
 rw [hz] at hz1 ⊢
 generalize w1.alloc (.cells #[.int .i64 bl, .int .i64 pr, .int .i64 I, .int .i64 jo, .int .i64 0, .int .i64 0, .int .i64 0, .int .i64 0, .bool false] 121) = w2 at hs2 hb2 ⊢
 have HB2 := Aside0.mk (below_then HB1.out HB1.out.size hb2)
 have hsq2 := HS1.out.below hb2
 have HS2 := Aside0.mk (And.intro hsq2 hs2)
 clear c0 c1 c2 c3
 have c0 := hsq2.cell 0 _ rfl
 have c1 := hsq2.cell 1 _ rfl
 have c2 := hsq2.cell 2 _ rfl
 have c3 := hsq2.cell 3 _ rfl
 clear hs2 hb2 hsq2 HS1 HB0 HB1 HS0 hz
 go_wp2_with fail
 refine (HGR.out w2).mono ?_
 rintro e w3 ⟨rfl, hb3⟩
 have HB3 := Aside0.mk (below_then HB2.out HB2.out.size hb3)
 have HS3 := Aside0.mk (And.intro (HS2.out.1.below hb3) (HS2.out.2.below hb3))
 clear c0 c1 c2 c3 hb3 HS2 HB2
 dsimp only
 go_wp2
 go_loopg [5, 39] n (fun gq v5 v39 wr => ∃ (k : Nat) (D' : Nat → Prop) (m' : Nat), k + gq = n ∧ v39 = .int .i64 (k : Nat) ∧ m' ≤ m + k * 600 ∧ Aside0 (DiskIs wr D' p (mkGo ⟨bl, pr, (I : Int), jo⟩ L k) m') ∧ Aside0 (∀ j, D' j → (D j ∨ q ≤ j) ∧ j < wr.heap.size) ∧
  Aside0 (¬ D' q ∧ ¬ D' z ∧ ∀ g', v5.ownBlock = some g' → ¬ D' g' ∧ g' ≠ q ∧ g' ≠ z ∧ q ≤ g') ∧ Aside0 (OwnG wr 0 v5 (mkGrps ⟨bl, pr, (I : Int), jo⟩ k)) ∧ Aside0 (Mod w wr D) ∧
  Aside0 (Strc wr q 80 [.int .i64 bl, .int .i64 pr, .int .i64 I, .int .i64 jo] ∧ Strc wr z 121 [.int .i64 bl, .int .i64 pr, .int .i64 I, .int .i64 jo, .int .i64 (mkFb ⟨bl, pr, (I : Int), jo⟩ k), .int .i64 (k * (I : Int)), .int .i64 0, .int .i64 0, .bool false]))
 case atStart =>
  have hDD := HH.out.2
  refine ⟨0, D, m, by omega, rfl, by omega, ⟨HH.out.1.below HB3.out⟩, ⟨fun j hj => ⟨.inl hj, by have := hDD j hj; have := HB3.out.size; omega⟩⟩, ⟨fun hd => by have := hDD _ hd; omega, fun hd => by have := hDD _ hd; omega, fun g' hg => by simp [Value.ownBlock] at hg⟩, ⟨own_nil _ _ _ _⟩, ⟨Mod.of_below HB3.out D⟩, ⟨HS3.out.1, ?_⟩⟩
  have := HS3.out.2
  simpa [mkFb] using this
 case round =>
  obtain ⟨k, D', m', hkn, rfl, hmk, HDK, HDD, HNN, HOG, HMW, HST⟩ := hrel
  obtain ⟨wo, rfl⟩ : ∃ x, x = wr := ⟨_, rfl⟩
  obtain ⟨A, cg, rfl, hcg, hG⟩ := HOG.out.reads
  have HLN := Aside0.mk (mkGrps_length ⟨bl, pr, (I : Int), jo⟩ k)
  have HGG := Aside0.mk hG
  have c0 := HST.out.1.cell 0 _ rfl
  have c1 := HST.out.1.cell 1 _ rfl
  have c2 := HST.out.1.cell 2 _ rfl
  have c3 := HST.out.1.cell 3 _ rfl
  clear hG
  cases gk with
  | zero =>
   have hk : k = n := by omega
   subst hk
   obtain ⟨fbk, hfbk⟩ : ∃ fbk, mkFb ⟨bl, pr, (I : Int), jo⟩ k = fbk := ⟨_, rfl⟩
   obtain ⟨ki, hki⟩ : ∃ ki : Int, (k : Int) * (I : Int) = ki := ⟨_, rfl⟩
   have hpk := HPK.out
   rw [hfbk, hki] at hpk HST
   have hpg := pgroups_calls A cg (mkGrps ⟨bl, pr, (I : Int), jo⟩ k) wo HGG.out (by rw [HLN.out]; omega)
   have hps := fun W => psuper_calls ⟨⟨bl, pr, (I : Int), jo⟩, fbk, ki, 0, 0, false⟩ W
   have hok1 := pgroupsI_ok hpk.1
   have hok2 := psuperI_ok hpk.2
   obtain ⟨⟨p1, p2⟩, hp⟩ : ∃ p', pgroupsI (mkGrps ⟨bl, pr, (I : Int), jo⟩ k) = p' := ⟨_, rfl⟩
   obtain ⟨⟨s1, s2⟩, hs⟩ : ∃ p', psuperI ⟨⟨bl, pr, (I : Int), jo⟩, fbk, ki, 0, 0, false⟩ = p' := ⟨_, rfl⟩
   have HEP := Aside0.mk (And.intro (And.intro hfbk hki) (And.intro hp hs))
   rw [hp] at hpg hok1 hpk
   rw [hs] at hps hok2 hpk
   dsimp only at hpk hok1 hok2
   obtain ⟨rfl, rfl⟩ := hpk
   dsimp only [Sup.v] at hps
   have HPG := Aside0.mk hpg
   have HPS := Aside0.mk hps
   have HO1 := Aside0.mk hok1
   have HO2 := Aside0.mk hok2
   have HLD := Aside0.mk (mkGo_length ⟨bl, pr, (I : Int), jo⟩ L k)
   obtain ⟨LL, hLL⟩ : ∃ LL, mkGo ⟨bl, pr, (I : Int), jo⟩ L k = LL := ⟨_, rfl⟩
   have HELL := Aside0.mk hLL
   rw [hLL] at HDK HLD
   have hLL2 : LL.length = L.length := HLD.out
   have HSTA := Aside0.mk HST.out
   clear hfbk hki hpg hps hok1 hok2 hp hs hLL
   go_wp2_with fail
   with_reducible refine HPG.out.mono ?_
   rintro e w4 ⟨v4, rfl, hb4, hgood4, _⟩
   obtain ⟨g4, cc4, rfl, hg4, hc4, hr4⟩ := hgood4 rfl
   have HB4 := Aside0.mk hb4
   have hzz4 := HSTA.out.2.below hb4
   clear c0 c1 c2 c3
   have c0 := hzz4.cell 0 _ rfl
   have c1 := hzz4.cell 1 _ rfl
   have c2 := hzz4.cell 2 _ rfl
   have c3 := hzz4.cell 3 _ rfl
   have c4 := hzz4.cell 4 _ rfl
   have c5 := hzz4.cell 5 _ rfl
   have c6 := hzz4.cell 6 _ rfl
   have c7 := hzz4.cell 7 _ rfl
   have c8 := hzz4.cell 8 _ rfl
   dsimp only at hc4 hr4
   rw [HO1.out.1] at hc4
   have HR4 := Aside0.mk hr4
   have HG4 := Aside0.mk hg4
   dsimp only
   rw [HO1.out.1]
   clear hgood4 hb4 hzz4 hr4 hg4
   go_wp2_with fail
   with_reducible refine (HPS.out w4).mono ?_
   rintro e w5 ⟨v5, rfl, hb5, hgood5, _⟩
   obtain ⟨g5, cc5, rfl, hg5, hc5, hr5⟩ := hgood5 rfl
   have HB5 := Aside0.mk (below_then HB4.out HB4.out.size hb5)
   dsimp only at hc5 hr5
   rw [HO2.out.1] at hc5
   have hg5D : ¬ D' g5 := fun hd => by have := (HDD.out _ hd).2; have := HB4.out.size; omega
   have hdw := dwrite_calls 1 ⟨g4, 0, none⟩ cc4 p1 w5 (HDK.out.below HB5.out) (by omega) (by omega) ((HR4.out.below hb5).reads (by rw [HO1.out.1]; omega)) HO1.out.1 HO1.out.2
   rw [show ((1 : Nat) : Int) = 1 from rfl] at hdw
   have HDW := Aside0.mk hdw
   have HR5 := Aside0.mk hr5
   have HG5 := Aside0.mk hg5D
   clear c0 c1 c2 c3 c4 c5 c6 c7 c8 hb5 hgood5 hr5 hg5 hg5D hdw
   dsimp only
   rw [HO2.out.1]
   go_wp2_with fail
   with_reducible refine HDW.out.mono ?_
   rintro e w6 ⟨rfl, hd6, hm6⟩
   have hdw := dwrite_calls 0 ⟨g5, 0, none⟩ cc5 s1 w6 hd6 (by rw [List.length_set]; omega) (by omega) ((HR5.out.mod hm6 HG5.out).reads (by rw [HO2.out.1]; omega)) HO2.out.1 HO2.out.2
   rw [show ((0 : Nat) : Int) = 0 from rfl] at hdw
   have HDW2 := Aside0.mk hdw
   have HM6 := Aside0.mk hm6
   clear hd6 hm6 hdw
   dsimp only
   go_wp2_with fail
   with_reducible refine HDW2.out.mono ?_
   rintro e w7 ⟨rfl, hd7, hm7⟩
   have hD7 : ∀ j, orNew w6 w7 (orNew w5 w6 D') j → (D' j ∨ wo.heap.size ≤ j) ∧ j < w7.heap.size := fun j hj => by
    have s1 := HB5.out.size
    have s2 := HM6.out.size
    have s3 := hm7.size
    rcases hj with (hj | hj) | hj
    ·exact ⟨.inl hj, by have := (HDD.out j hj).2; omega⟩
    ·exact ⟨.inr (by omega), by omega⟩
    ·exact ⟨.inr (by omega), by omega⟩
   have hm57 : Mod wo w7 D' := ((Mod.of_below HB5.out D').trans HM6.out (fun _ _ e => e)).trans hm7 (fun i hi e => e.elim id (fun e => by have := HB5.out.size; exfalso; omega))
   have HFL := Aside0.mk (flush_calls w7 hd7)
   have HX7 := Aside0.mk (And.intro hD7 hm57)
   obtain ⟨D7, hD7e⟩ : ∃ D7, orNew w6 w7 (orNew w5 w6 D') = D7 := ⟨_, rfl⟩
   rw [hD7e] at HX7 HFL
   clear hd7 hm7 hD7 hm57 hD7e
   dsimp only
   go_wp2_with fail
   with_reducible refine HFL.out.mono ?_
   rintro e w8 ⟨rfl, hd8, hm8⟩
   have hm78 : Mod wo w8 (fun j => D' j ∨ wo.heap.size ≤ j) := (HX7.out.2.mono (fun _ _ h => .inl h)).trans hm8 (fun i hi e => (HX7.out.1 i e).1)
   have HX8 := Aside0.mk (And.intro hd8 hm78)
   have HS8 := Aside0.mk hm8.size
   clear hd8 hm8 hm78
   dsimp only
   go_wp2
   go_ret
   rw [HEP.out.1.1, HEP.out.1.2, HEP.out.2.1, HEP.out.2.2, HELL.out]
   refine ⟨rfl, D7, HX8.out.1, fun j hj => ⟨((HX7.out.1 j hj).1).elim (fun h => by rw [hq]; exact (HDD.out j h).1) (fun h => .inr (by have := HMW.out.size; omega)), by have := (HX7.out.1 j hj).2; have := HS8.out; omega⟩, HMW.out.trans HX8.out.2 (fun i hi e => e.elim (fun h => ((HDD.out i h).1).elim id (fun h => by exfalso; omega)) (fun h => by have := HMW.out.size; exfalso; omega))⟩
  | succ go =>
   have i1 : (k : Int) < (n : Int) := by omega
   have hgi : (k : Int) < groupsI ⟨bl, pr, (I : Int), jo⟩ := by rw [HN.out]; exact i1
   obtain ⟨fr, zz, bm, da, e3, e4, e5, e6, e7, e8, e9, e10⟩ := geo_grp2 HOK.out.geo hgi
   dsimp only at e8
   obtain ⟨x1, x2, x3, x4⟩ := mk_is e3 e4
   obtain ⟨b1, hb1e⟩ : ∃ b1, bm + 1 = b1 := ⟨_, rfl⟩
   obtain ⟨b2, hb2e⟩ : ∃ b2, bm + 2 = b2 := ⟨_, rfl⟩
   have hbit := HOK.out.bits k hgi
   have hone : mkGo ⟨bl, pr, (I : Int), jo⟩ L (k + 1) = zeroGo (da - b2) b2 (((mkGo ⟨bl, pr, (I : Int), jo⟩ L k).set bm (mkBits ⟨bl, pr, (I : Int), jo⟩ k).1).set b1 (newB I b1)) := by
    rw [mkGo, mkOne, x3, x4, Int.toNat_natCast, hb1e, hb2e]
   have hbits : mkBits ⟨bl, pr, (I : Int), jo⟩ k = turnI (newB (zz - fr) bm) (zz - fr) 0 ((da : Int) - fr) true bm := by
    unfold mkBits; rw [x1, x2, x3, x4]
   have hgrp : mkGrps ⟨bl, pr, (I : Int), jo⟩ (k + 1) = mkGrps ⟨bl, pr, (I : Int), jo⟩ k ++ [⟨(zz : Int) - da, (I : Int), 0⟩] := by rw [mkGrps, x2, x4]
   have hfb : mkFb ⟨bl, pr, (I : Int), jo⟩ (k + 1) = mkFb ⟨bl, pr, (I : Int), jo⟩ k + ((zz : Int) - da) := by rw [mkFb, x2, x4]
   have hfr := mkFb_range HOK.out.geo k (by omega)
   have HSP := Aside0.mk (span_calls ⟨bl, pr, (I : Int), jo⟩ k wo)
   rw [e3] at HSP
   have HPL := Aside0.mk (fun W => place_calls ⟨bl, pr, (I : Int), jo⟩ k W)
   rw [e4, show (bm : Int) + 1 = (b1 : Int) by omega, show (bm : Int) + 2 = (b2 : Int) by omega] at HPL
   unfold Geo.v at HSP HPL
   dsimp only at HSP HPL
   obtain ⟨M, hM⟩ : ∃ M, zz - fr = M := ⟨_, rfl⟩
   obtain ⟨N, hN⟩ : ∃ N, da - fr = N := ⟨_, rfl⟩
   have hMi : (zz : Int) - (fr : Int) = (M : Int) := by omega
   have hNi : (da : Int) - (fr : Int) = (N : Int) := by omega
   rw [hM, hNi] at hbits
   have hbm4 : bm < 4096 := by omega
   have hM2 : M ≤ 2016 := by omega
   have hN2 : N ≤ 2016 := by omega
   have hNM : zz ≤ 4096 := by omega
   have hb1l : b1 < 4096 := by omega
   obtain ⟨R, hR⟩ : ∃ R, zz - da = R := ⟨_, rfl⟩
   have hRi : (zz : Int) - (da : Int) = (R : Int) := by omega
   obtain ⟨ki, hki⟩ : ∃ ki : Nat, k * I = ki := ⟨_, rfl⟩
   have hki2 : ki ≤ 10000 := by
    have := Nat.mul_le_mul (show k ≤ 14 by omega) hI2
    omega
   have hkii : (k : Int) * (I : Int) = (ki : Int) := by rw [← hki]; simp
   have hkis : ((k + 1 : Nat) : Int) * (I : Int) = (ki : Int) + (I : Int) := by rw [← hkii, Int.natCast_add, Int.add_mul]; simp
   have HKI := Aside0.mk (And.intro hkii hkis)
   obtain ⟨fbk, hfbk⟩ : ∃ fbk, mkFb ⟨bl, pr, (I : Int), jo⟩ k = fbk := ⟨_, rfl⟩
   rw [hfbk] at hfr hfb
   rw [hfbk, hkii] at HST
   have hfr2 : fbk ≤ 30000 := by omega
   rw [hRi] at hgrp hfb
   have HFBK := Aside0.mk hfbk
   have HMK := Aside0.mk (And.intro hone (And.intro hgrp hfb))
   obtain ⟨bb, hbb⟩ : ∃ bb, mkBits ⟨bl, pr, (I : Int), jo⟩ k = bb := ⟨_, rfl⟩
   rw [hbb] at hbits hbit HMK
   have HBIT := Aside0.mk (And.intro hbits hbit)
   have HLD := Aside0.mk (mkGo_length ⟨bl, pr, (I : Int), jo⟩ L k)
   obtain ⟨LL, hLL⟩ : ∃ LL, mkGo ⟨bl, pr, (I : Int), jo⟩ L k = LL := ⟨_, rfl⟩
   rw [hLL] at HDK HMK HLD
   have hLL2 : LL.length = L.length := HLD.out
   clear hgi e3 e4 x1 x2 x3 x4 hbit hone hbits hgrp hfb hbb hLL hM hN hR hki hkii hkis hfbk
   go_wp2_with fail
   with_reducible refine HSP.out.mono ?_
   rintro e w4 ⟨rfl, hb4⟩
   have HB4 := Aside0.mk hb4
   have hs4 := HST.out.1.below hb4
   clear c0 c1 c2 c3
   have c0 := hs4.cell 0 _ rfl
   have c1 := hs4.cell 1 _ rfl
   have c2 := hs4.cell 2 _ rfl
   have c3 := hs4.cell 3 _ rfl
   clear hb4 hs4
   dsimp only
   go_wp2_with fail
   with_reducible refine (HPL.out w4).mono ?_
   rintro e w5 ⟨rfl, hb5⟩
   have HB5 := Aside0.mk (below_then HB4.out HB4.out.size hb5)
   have HNC := Aside0.mk (new_calls M bm w5 hM2 (by omega) (by omega))
   clear c0 c1 c2 c3 hb5
   dsimp only
   go_wp2_with fail
   with_reducible refine HNC.out.mono ?_
   rintro e w6 ⟨g6, rfl, hg6, hr6, hb6⟩
   have HB6 := Aside0.mk (below_then HB5.out HB5.out.size hb6)
   have hnb := newB_ok M bm
   have htc := turn_calls (some ⟨g6, 0, none⟩) 256 (newB M bm) M 0 N true bm w6 (hr6.reads (by rw [hnb.1]; omega)) (by rw [hnb.1]; omega) hnb.2 hM2 (by omega) (by omega) (by omega) (by omega) (by omega) (by omega)
   rw [hnb.1, ← HBIT.out.1] at htc
   have HTC := Aside0.mk htc
   clear hb6 hr6 hnb htc
   dsimp only
   go_wp2_with fail
   with_reducible refine HTC.out.mono ?_
   rintro e w7 ⟨v7, rfl, hb7, hgood, _⟩
   obtain ⟨g7, c7, rfl, hg7, hc7, hr7⟩ := hgood HBIT.out.2
   have hbok := turnI_ok (b := newB M bm) (n := M) (fr := 0) (ct := N) (on := true) (s := bm) (newB_ok M bm).2 (by rw [← HBIT.out.1]; exact HBIT.out.2)
   rw [← HBIT.out.1] at hbok
   rw [hbok.1] at hc7 ⊢
   have HB7 := Aside0.mk (below_then HB6.out HB6.out.size hb7)
   have HR7 := Aside0.mk hr7
   have HBOK := Aside0.mk hbok
   have HG7 := Aside0.mk (And.intro hg7 hc7)
   have hs7 := HST.out.1.below HB7.out
   have c2 := hs7.cell 2 _ rfl
   have HNC2 := Aside0.mk (new_calls I b1 w7 (by omega) (by omega) (by omega))
   clear hb7 hgood hr7 hbok hs7 hg7
   dsimp only
   go_wp2_with fail
   with_reducible refine HNC2.out.mono ?_
   rintro e w8 ⟨g8, rfl, hg8, hr8, hb8⟩
   have HB8 := Aside0.mk (below_then HB7.out HB7.out.size hb8)
   have hnb1 := newB_ok I b1
   obtain ⟨nb, hnbe⟩ : ∃ nb, newB I b1 = nb := ⟨_, rfl⟩
   rw [hnbe] at hr8 hnb1 HMK
   have HNB := Aside0.mk hnb1
   have hDs := HDD.out
   have hg8D : ¬ D' g8 := fun hd => by have := (hDs _ hd).2; have := HB7.out.size; omega
   have hdw := dwrite_calls bm ⟨g7, 0, none⟩ c7 bb.1 w8 (HDK.out.below HB8.out) (by omega) (by omega) ((HR7.out.below hb8).reads (by rw [HBOK.out.1]; omega)) HBOK.out.1 HBOK.out.2
   have HDW := Aside0.mk hdw
   have HR8 := Aside0.mk hr8
   have HG8 := Aside0.mk (And.intro hg8 hg8D)
   clear c2 hg8 hr8 hb8 hnb1 hnbe hDs hg8D hdw
   dsimp only
   go_wp2_with fail
   with_reducible refine HDW.out.mono ?_
   rintro e w9 ⟨rfl, hd9, hm9⟩
   have hdw := dwrite_calls b1 ⟨g8, 0, none⟩ 256 nb w9 hd9 (by rw [List.length_set]; omega) (by omega) ((HR8.out.mod hm9 HG8.out.2).reads (by rw [HNB.out.1]; omega)) HNB.out.1 HNB.out.2
   have HDW2 := Aside0.mk hdw
   have HM9 := Aside0.mk hm9
   clear hd9 hm9 hdw
   dsimp only
   go_wp2_with fail
   with_reducible refine HDW2.out.mono ?_
   rintro e w10 ⟨rfl, hd10, hm10⟩
   have hD10 : ∀ j, orNew w9 w10 (orNew w8 w9 D') j → (D' j ∨ wo.heap.size ≤ j) ∧ j < w10.heap.size := fun j hj => by
    have s1 := HB8.out.size
    have s2 := HM9.out.size
    have s3 := hm10.size
    rcases hj with (hj | hj) | hj
    ·exact ⟨.inl hj, by have := (HDD.out j hj).2; omega⟩
    ·exact ⟨.inr (by omega), by omega⟩
    ·exact ⟨.inr (by omega), by omega⟩
   have hm810 : Mod wo w10 D' := ((Mod.of_below HB8.out D').trans HM9.out (fun _ _ e => e)).trans hm10 (fun i hi e => e.elim id (fun e => by have := HB8.out.size; exfalso; omega))
   obtain ⟨L2, hL2⟩ : ∃ L2, (LL.set bm bb.1).set b1 nb = L2 := ⟨_, rfl⟩
   have hL2l : L2.length = L.length := by rw [← hL2]; simp [hLL2]
   rw [hL2] at hd10 HMK
   have HX10 := Aside0.mk (And.intro hd10 (And.intro hD10 hm810))
   obtain ⟨D10, hD10e⟩ : ∃ D10, orNew w9 w10 (orNew w8 w9 D') = D10 := ⟨_, rfl⟩
   rw [hD10e] at HX10
   clear hd10 hm10 hD10 hm810 hL2 hD10e
   have hmk2 : ∀ w : World, (Instr.makeSlice 23 (.int .i64 256) (.int .i64 256)).run Tryz.prog w = .ok (.slice (some ⟨w.heap.size, 0, none⟩) 256 256) (noughts w) := make256
   dsimp only
   go_wp2
   go_loopg [20] (da - b2) (fun gi v wr2 => ∃ (jn : Nat) (D2 : Nat → Prop) (m2 : Nat) (L3 : List (List Int)), v = .int .i64 (jn : Nat) ∧ jn + gi = da ∧ b2 ≤ jn ∧ m2 + b2 = m' + 2 + jn ∧ L3.length = L.length ∧ Aside0 (zeroGo (da - b2) b2 L2 = zeroGo gi jn L3) ∧ Aside0 (DiskIs wr2 D2 p L3 m2) ∧ Aside0 (∀ j, D2 j → (D' j ∨ wo.heap.size ≤ j) ∧ j < wr2.heap.size) ∧ Aside0 (Mod wo wr2 D'))
   case atStart => exact ⟨b2, D10, m' + 2, L2, rfl, by omega, by omega, by omega, hL2l, ⟨rfl⟩, ⟨HX10.out.1⟩, ⟨HX10.out.2.1⟩, ⟨HX10.out.2.2⟩⟩
   case round =>
    obtain ⟨jn, D2, m2, L3, rfl, hjn, hbj, hm2, hL3, HZG, HD3, HDD3, HM3⟩ := hrel
    obtain ⟨wr2, rfl⟩ : ∃ x, x = wr := ⟨_, rfl⟩
    have hwq : q < wo.heap.size := HST.out.1.lt
    have hwz : z < wo.heap.size := HST.out.2.lt
    have hnq : ¬ D' q := HNN.out.1
    have hnz : ¬ D' z := HNN.out.2.1
    have hsq := HST.out.1.mod HM3.out hnq
    have hsz := HST.out.2.mod HM3.out hnz
    have HSZ := Aside0.mk (And.intro hsq hsz)
    have HWQ := Aside0.mk (And.intro hwq hwz)
    cases gk with
    | zero =>
     have hje : jn = da := by omega
     subst hje
     have hog3 := own_mod HOG.out HM3.out (fun g' hg => (HNN.out.2.2 g' hg).1)
     have c2 := hsq.cell 2 _ rfl
     obtain ⟨q0, hqi, hz0', hz1', hz2'⟩ := info_parts infoGrp
     have hlt := HLN.out
     have HF := Aside0.mk (show ∀ (w' : World) (v' : Value), (wr2.alloc (.cells #[.int .i64 R, .int .i64 I, .int .i64 0] 144)).grownBy w' (Value.slice A (mkGrps ⟨bl, pr, (I : Int), jo⟩ k).length cg).ownBlock → (v'.ownBlock = (Value.slice A (mkGrps ⟨bl, pr, (I : Int), jo⟩ k).length cg).ownBlock ∨ v'.ownBlock = some (wr2.alloc (.cells #[.int .i64 R, .int .i64 I, .int .i64 0] 144)).heap.size) →
       Strc w' q 80 [.int .i64 bl, .int .i64 pr, .int .i64 I, .int .i64 jo] ∧ Strc w' z 121 [.int .i64 bl, .int .i64 pr, .int .i64 I, .int .i64 jo, .int .i64 fbk, .int .i64 ki, .int .i64 0, .int .i64 0, .bool false] ∧ DiskIs w' D2 p L3 m2 ∧ Mod w w' D ∧ wr2.heap.size ≤ w'.heap.size ∧ ∀ g', v'.ownBlock = some g' → ¬ D2 g' ∧ g' ≠ q ∧ g' ≠ z ∧ q ≤ g' from fun w' v' hg hl => by
      have hba := below_alloc (Below.refl wr2.heap.size wr2) (.cells #[.int .i64 R, .int .i64 I, .int .i64 0] 144)
      have hmg := mod_grown hg
      have hsz2 := hmg.size
      have hsza : (wr2.alloc (.cells #[.int .i64 R, .int .i64 I, .int .i64 0] 144)).heap.size = wr2.heap.size + 1 := by simp
      have hnn := HNN.out.2.2
      have hw2 := HM3.out.size
      have hown := fun g' hg => own_lt HOG.out g' hg
      refine ⟨(hsq.below hba).mod hmg (fun e => (hnn q e).2.1 rfl), (hsz.below hba).mod hmg (fun e => (hnn z e).2.2.1 rfl), (HD3.out.below hba).mod hmg (fun j _ hj e => ?_), ?_, by omega, fun g' hg' => ?_⟩
      ·have h1 := hown j e
       exact ((HDD3.out j hj).1).elim ((hnn j e).1) (fun h => by omega)
      ·have h2 : Mod wo wr2 D' := HM3.out
       have h3 : Mod w wr2 D := HMW.out.trans h2 (fun i hi e => ((HDD.out i e).1).elim id (fun h => by exfalso; omega))
       exact (h3.below hba).trans hmg (fun i hi e => by have := (hnn i e).2.2.2; exfalso; omega)
      ·rcases hl with h1 | h1
       ·have h2 := hnn g' (h1.symm.trans hg')
        have h3 := hown g' (h1.symm.trans hg')
        exact ⟨fun hd => ((HDD3.out g' hd).1).elim h2.1 (fun h => by omega), h2.2⟩
       ·have h2 : g' = wr2.heap.size + 1 := by rw [hg', hsza] at h1; exact Option.some.inj h1
        exact ⟨fun hd => by have := (HDD3.out g' hd).2; omega, by omega, by omega, by omega⟩)
     have HPa := Aside0.mk (fun o => own_any (pw_own_below hog3 (below_alloc (Below.refl wr2.heap.size wr2) o)) (base' := 0) (fun _ _ => Nat.zero_le _))
     clear hsq hsz hog3 hnq hnz hwq hwz
     go_wp2_with ((with_reducible refine gate_dst (N := 114) rfl ?_); (refine wpList_append_own_at _ rfl (.tmp 106) (.tmp 113) 122 rfl 0 144 q0 (.agg #[.int .i64 0, .int .i64 0, .int .i64 0]) 3 24 Tryz.underlying122 hqi hz0' hz1' hz2' rfl (by decide) _ _ _ rfl (HPa.out _) ⟨wr2.heap.size, 0, none⟩ 1 1 [.int .i64 R, .int .i64 I, .int .i64 0] rfl ?c6 ?c1 ?c2 ?c3 ?c4 ?c5 ?_; (case c6 => rfl); (case c1 => (intro j u hj; rw [add_plain]; exact cell_alloc wr2 _ _ j u (by simpa using hj))); (case c2 => simp [Value.oneCell']); (case c3 => (rw [hlt]; simp only [maxLen]; omega)); (case c4 => (rw [hlt]; omega)); (case c5 => exact Nat.zero_le _); intro v2 w2' hown2 hgrow2 _ hloc; clear hz0' hz1' hz2' hqi; obtain ⟨hq2, hzz2, hdd2, hmm2, hss2, hbb2⟩ := HF.out w2' v2 hgrow2 hloc; obtain ⟨g2, cap2, rfl⟩ := own_succ hown2; have HFF := Aside0.mk (And.intro hq2 (And.intro hzz2 (And.intro hdd2 (And.intro hmm2 (And.intro hss2 hbb2))))); have HOO := Aside0.mk (ownG_snoc (x := ⟨(R : Int), (I : Int), 0⟩) hown2 rfl); have c2 := hq2.cell 2 _ rfl; have c4 := hzz2.cell 4 _ rfl; have c5 := hzz2.cell 5 _ rfl; have z4 := hzz2.free 4; have z5 := hzz2.free 5; have hzl := hzz2.lt; clear hown2 hgrow2 hloc hq2 hzz2 hdd2 hmm2 hss2 hbb2 HPa HF))
     obtain ⟨hq2, hzz2, hdd2, hmm2, hss2, hbb2⟩ := HFF.out
     have hm4 := (Mod.refl w2' (fun j => j = z)).set_own 4 (.int .i64 (fbk + R))
     have hm5 := (Mod.refl (w2'.setCell ⟨z, 4, none⟩ (.int .i64 (fbk + R))) (fun j => j = z)).set_own 5 (.int .i64 ((ki : Int) + I))
     have hmz := hm4.trans hm5 (fun _ _ e => e)
     have hsz5 := (hzz2.set 4 (.int .i64 (fbk + R))).set 5 (.int .i64 ((ki : Int) + I))
     have hszE := hmz.size
     have hoo := HOO.out
     rw [hlt] at hoo
     generalize ((w2'.setCell ⟨z, 4, none⟩ (.int .i64 (fbk + R))).setCell ⟨z, 5, none⟩ (.int .i64 ((ki : Int) + I))) = WE at hmz hsz5 hszE ⊢
     have hzo := HWQ.out.2
     have hqo := HWQ.out.1
     have hm3s := HM3.out.size
     go_roundg go
     case measure => omega
     case rel =>
      refine ⟨k + 1, D2, m2, by omega, by go_num, by omega, ⟨?_⟩, ⟨fun j hj => ⟨((HDD3.out j hj).1).elim (fun h => (HDD.out j h).1) (fun h => .inr (by omega)), by have := (HDD3.out j hj).2; omega⟩⟩, ⟨fun hd => ((HDD3.out q hd).1).elim HNN.out.1 (fun h => by omega), fun hd => ((HDD3.out z hd).1).elim HNN.out.2.1 (fun h => by omega), hbb2⟩, ⟨?_⟩, ⟨hmm2.trans hmz (fun i hi e => by exfalso; omega)⟩, ⟨hq2.mod hmz (by omega), ?_⟩⟩
      ·rw [HMK.out.1, HZG.out]
       exact hdd2.mod hmz (fun j _ hj e => ((HDD3.out j hj).1).elim (fun h => HNN.out.2.1 (e ▸ h)) (fun h => by omega))
      ·rw [HMK.out.2.1]
       unfold OwnG
       rw [List.length_append, hlt]
       refine own_mod ?_ hmz (fun g' hg e => (hbb2 g' hg).2.2.1 e)
       have := hoo
       unfold OwnG at this
       rw [List.length_append, hlt] at this
       exact this
      ·rw [HMK.out.2.2, HKI.out.2]
       exact hsz5
    | succ gi =>
     have i2 : (jn : Int) < (da : Int) := by omega
     have hdn : DiskIs (noughts wr2) D2 p L3 m2 := HD3.out.below (below_alloc (Below.refl _ _) _)
     have hdw := dwrite_calls jn ⟨wr2.heap.size, 0, none⟩ 256 zeros (noughts wr2) hdn (by omega) (by omega) ((show Row (noughts wr2) .u8 wr2.heap.size 5 zeros from row_last _ _ _ _).reads (by rw [zeros_length]; omega)) zeros_length zeros_allB
     have HDW3 := Aside0.mk hdw
     have hns : (noughts wr2).heap.size = wr2.heap.size + 1 := by unfold noughts; simp
     have HNS := Aside0.mk (And.intro hns (show Below wr2.heap.size wr2 (noughts wr2) from below_alloc (Below.refl _ _) _))
     clear hdn hdw hsq hsz hns hnq hnz hwq hwz
     go_wp2_with fail
     with_reducible refine HDW3.out.mono ?_
     rintro e w11 ⟨rfl, hd11, hm11⟩
     have hD11 : ∀ j, orNew (noughts wr2) w11 D2 j → (D' j ∨ wo.heap.size ≤ j) ∧ j < w11.heap.size := fun j hj => by
      have s1 := HNS.out.1
      have s2 := hm11.size
      have s3 := HM3.out.size
      rcases hj with hj | hj
      ·exact ⟨(HDD3.out j hj).1, by have := (HDD3.out j hj).2; omega⟩
      ·exact ⟨.inr (by omega), by omega⟩
     have hm3 : Mod wo w11 D' := (HM3.out.below HNS.out.2).trans hm11 (fun i hi e => ((HDD3.out i e).1).elim id (fun h => by exfalso; omega))
     have HX11 := Aside0.mk (And.intro hd11 (And.intro hD11 hm3))
     clear hd11 hm11 hD11 hm3
     dsimp only
     go_wp2
     go_roundg gi
     case measure => omega
     case rel => exact ⟨jn + 1, _, m2 + 1, L3.set jn zeros, by go_num, by omega, by omega, by omega, by rw [List.length_set]; exact hL3, ⟨by rw [HZG.out, zeroGo]⟩, ⟨HX11.out.1⟩, ⟨HX11.out.2.1⟩, ⟨HX11.out.2.2⟩⟩
def xsetR (s : St) (r : Ino) (rl : Nat) (nm : ByteArray) (val : List Int) (how goal : Int) : St × Ino × Int :=
 if (xlistI s.now r rl).2 ≠ 0 then (s, r, (xlistI s.now r rl).2) else
 if 64 < val.length then (s, r, 34) else
 if namedB nm = false ∨ how < 0 ∨ 2 < how then (s, r, 22) else
 if how = 1 ∧ (seekI (xlistI s.now r rl).1 nm).2 = true then (s, r, 17) else
 if how = 2 ∧ (seekI (xlistI s.now r rl).1 nm).2 = false then (s, r, 61) else
 if (xpackI (xsetL (xlistI s.now r rl).1 (seekI (xlistI s.now r rl).1 nm) ⟨nm, val⟩) 0).2 ≠ 0 then (s, r, (xpackI (xsetL (xlistI s.now r rl).1 (seekI (xlistI s.now r rl).1 nm) ⟨nm, val⟩) 0).2) else
 if r.xattr ≠ 0 then (s.write r.xattr.toNat (xpackI (xsetL (xlistI s.now r rl).1 (seekI (xlistI s.now r rl).1 nm) ⟨nm, val⟩) r.xattr).1, r, 0) else
 if (blocksI s goal 1).2.2.2 ≠ 0 then ((blocksI s goal 1).1, r, (blocksI s goal 1).2.2.2) else
 ((blocksI s goal 1).1.write (blocksI s goal 1).2.1.toNat (xpackI (xsetL (xlistI s.now r rl).1 (seekI (xlistI s.now r rl).1 nm) ⟨nm, val⟩) (blocksI s goal 1).2.1).1, { r with xattr := (blocksI s goal 1).2.1, blocks := r.blocks + 1 }, 0)
theorem xsetI_eq (s : St) (r : Ino) (rl : Nat) (rv : Value) (nm : ByteArray) (val : List Int) (how goal : Int) : xsetI s r rl rv nm val how goal = ((xsetR s r rl nm val how goal).1, resC (xsetR s r rl nm val how goal).2.1 rv (xsetR s r rl nm val how goal).2.2, (xsetR s r rl nm val how goal).2.2) := by
 unfold xsetI xsetR resC
 by_cases h1 : (xlistI s.now r rl).2 ≠ 0
 ·rw [if_pos h1, if_pos h1, if_neg h1]
 ·rw [if_neg h1, if_neg h1]
  by_cases h2 : 64 < val.length
  ·rw [if_pos h2, if_pos h2]; rfl
  ·rw [if_neg h2, if_neg h2]
   by_cases h3 : namedB nm = false ∨ how < 0 ∨ 2 < how
   ·rw [if_pos h3, if_pos h3]; rfl
   ·rw [if_neg h3, if_neg h3]
    by_cases h4 : how = 1 ∧ (seekI (xlistI s.now r rl).1 nm).2 = true
    ·rw [if_pos h4, if_pos h4]; rfl
    ·rw [if_neg h4, if_neg h4]
     by_cases h5 : how = 2 ∧ (seekI (xlistI s.now r rl).1 nm).2 = false
     ·rw [if_pos h5, if_pos h5]; rfl
     ·rw [if_neg h5, if_neg h5]
      by_cases h6 : (xpackI (xsetL (xlistI s.now r rl).1 (seekI (xlistI s.now r rl).1 nm) ⟨nm, val⟩) 0).2 ≠ 0
      ·rw [if_pos h6, if_pos h6, if_neg h6]
      ·rw [if_neg h6, if_neg h6]
       by_cases h7 : r.xattr ≠ 0
       ·rw [if_pos h7, if_pos h7]; rfl
       ·rw [if_neg h7, if_neg h7]
        by_cases h8 : (blocksI s goal 1).2.2.2 ≠ 0
        ·rw [if_pos h8, if_pos h8, if_neg h8]
        ·rw [if_neg h8, if_neg h8]; rfl
def exG : Geo := ⟨300, 200, 16, 96⟩
def exL : List (List Int) := List.replicate 300 (List.replicate 256 0)
def exS : St := new0 (mkI exG exL)
def exR : Ino := ⟨1, 0, 0, 0, 0, 0, 0, 0, 0, 0, 0, 0, 0, false⟩
def exA : ByteArray := ⟨#[97]⟩
def exB : ByteArray := ⟨#[98]⟩
def exC : ByteArray := ⟨#[99]⟩
end Go.Proofs.YtkmhilhfmfmckaaGreatDoor.Hand
