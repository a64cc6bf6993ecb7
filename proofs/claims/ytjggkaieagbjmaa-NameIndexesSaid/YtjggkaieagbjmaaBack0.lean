/- There and back, plain: what was packed is unpacked as it was, and not by another seed; where entries are parted two hashes differ. -/
import Derived.Test.YtjggkaieagbjmaaCrc
import Derived.Test.YtjggkaieagbjmaaOnly
import Derived.Test.YtjggkaieagbjmaaHalves
namespace Go.Proofs.Ytjggkaieagbjmaa.Hand
set_option linter.unusedVariables false
set_option linter.unusedSimpArgs false
open Go.RowKit Go.Proofs.YtjggkaieagbjmaaW.PrintWords Go.Proofs.YtjggkaieagbjmaaW.PrintLast Go.Proofs.YtjggkaieagbjmaaW.PrintMore

theorem list4 {L : List Int} (h : L.length = 4) : ∃ a b c d, L = [a, b, c, d] := by
  match L, h with
  | [a, b, c, d], _ => exact ⟨a, b, c, d, rfl⟩
theorem sealL_eq {L : List Int} (h : L.length = 256) (s : Int) : sealL L s = L.take 252 ++ [leB (crcI s (L.take 252)) 0, leB (crcI s (L.take 252)) 1, leB (crcI s (L.take 252)) 2, leB (crcI s (L.take 252)) 3] := by
  unfold sealL
  rw [h]
  generalize crcI s (L.take (256 - 4)) = c
  obtain ⟨a, b, d, e, h4⟩ := list4 (L := L.drop 252) (by rw [List.length_drop, h])
  have hL : L = L.take 252 ++ [a, b, d, e] := by rw [← h4, List.take_append_drop]
  have hl : (L.take 252).length = 252 := by rw [List.length_take, h]; rfl
  generalize L.take 252 = M at hL hl
  subst hL
  have e0 : ∀ (N : List Int) (i : Nat) (x : Int), (M ++ N).set (256 - 4 + i) x = M ++ N.set i x := fun N i x => by
    rw [List.set_append_right _ _ (by omega), show 256 - 4 + i - M.length = i by omega]
  show ((((M ++ [a, b, d, e]).set (256 - 4 + 0) (leB c 0)).set (256 - 4 + 1) (leB c 1)).set (256 - 4 + 2) (leB c 2)).set (256 - 4 + 3) (leB c 3) = _
  rw [e0, e0, e0, e0]
  rfl
theorem le4_inj {x y : Int} (hx : 0 ≤ x ∧ x < 4294967296) (hy : 0 ≤ y ∧ y < 4294967296) (h0 : leB x 0 = leB y 0) (h1 : leB x 1 = leB y 1) (h2 : leB x 2 = leB y 2) (h3 : leB x 3 = leB y 3) : x = y := by
  unfold leB at *
  simp only [Nat.mul_zero, Nat.mul_one] at *
  have e1 : (2 : Int) ^ 0 = 1 := rfl
  have e2 : (2 : Int) ^ 8 = 256 := rfl
  have e3 : (2 : Int) ^ (8 * 2) = 65536 := rfl
  have e4 : (2 : Int) ^ (8 * 3) = 16777216 := rfl
  rw [e1] at h0
  rw [e2] at h1
  rw [e3] at h2
  rw [e4] at h3
  omega
theorem seal_other {L M : List Int} {s t : Int} (hL : L.length = 256) (hM : M.length = 256) (hb : allB L) (hs : 0 ≤ s ∧ s < 4294967296) (ht : 0 ≤ t ∧ t < 4294967296) (h : sealL L s = sealL M t) : s = t := by
  rw [sealL_eq hL, sealL_eq hM] at h
  obtain ⟨h1, h2⟩ := List.append_inj h (by rw [List.length_take, List.length_take, hL, hM])
  rw [← h1] at h2
  simp only [List.cons.injEq, and_true] at h2
  obtain ⟨h3, h4, h5, h6⟩ := h2
  exact crcI_inj (allB_take hb 252) hs ht (le4_inj (crcI_range _ _) (crcI_range _ _) h3 h4 h5 h6)
theorem packB_len {l : List Ent} (h : sizeI l ≤ 250) : (packB l).length ≤ 252 := by
  unfold packB
  rw [sizeI_eq] at h
  simp only [List.length_append, List.length_cons, List.length_nil]
  omega
theorem packI_good {l : List Ent} {s : Int} (h : (packI l s).2 = 0) : entsOk l ∧ sizeI l ≤ 250 ∧ (packI l s).1 = sealL (pad (packB l)) s := by
  unfold packI at h ⊢
  by_cases h1 : entsOk l
  · rw [if_pos h1] at h ⊢
    by_cases h2 : 250 < sizeI l
    · rw [if_pos h2] at h; cases h
    · rw [if_neg h2]
      exact ⟨h1, by omega, rfl⟩
  · rw [if_neg h1] at h; cases h
theorem strOf_bytesOf (s : ByteArray) : strOfNums (bytesOf s) = s := by
  have h : (strOfNums (bytesOf s)).data.toList = s.data.toList := by
    rw [strOfNums_data]
    unfold Go.Proofs.YtjggkaieagbjmaaW.PrintWords.bytesOf
    rw [List.map_map]
    conv => rhs; rw [← List.map_id s.data.toList]
    refine List.map_congr_left fun x _ => ?_
    simp
  have h2 : (strOfNums (bytesOf s)).data = s.data := by rw [← Array.toList_inj]; exact h
  cases hs : strOfNums (bytesOf s)
  cases s
  rw [hs] at h2
  simp only at h2
  rw [h2]
theorem read_back (l : List Ent) (hok : ∀ x ∈ l, 1 ≤ x.ino ∧ x.ino ≤ 65535 ∧ 1 ≤ x.kind ∧ x.kind ≤ 3 ∧ x.name.size ≤ 60) (z : List Int) (out : List Ent) : readI l.length (l.flatMap entB ++ z) out = some (out ++ l) := by
  induction l generalizing out with
  | nil => simp [readI]
  | cons x l ih =>
    obtain ⟨h1, h2, h3, h4, h5⟩ := hok x (by simp)
    have hb : entB x = [x.ino % 256, x.ino / 256 % 256, x.kind % 256, (x.name.size : Int) % 256] ++ bytesOf x.name := rfl
    rw [List.flatMap_cons, List.append_assoc, List.length_cons]
    generalize hr : l.flatMap entB ++ z = rest
    have h256 : (x.name.size : Int) % 256 = x.name.size := by omega
    have e3 : (entB x ++ rest).getD 3 0 = x.name.size := by rw [hb, h256]; rfl
    have hlen : (entB x ++ rest).length = 4 + x.name.size + rest.length := by rw [List.length_append, entB_length]
    rw [readI, if_neg (by rw [e3, hlen]; omega), e3, Int.toNat_natCast]
    have hd : (entB x ++ rest).drop (4 + x.name.size) = rest := by
      rw [List.drop_append_of_le_length (by rw [entB_length]; omega), List.drop_of_length_le (by rw [entB_length]; omega), List.nil_append]
    have he : entI (entB x ++ rest) = x := by
      unfold entI
      rw [e3, Int.toNat_natCast]
      have ht : ((entB x ++ rest).drop 4).take x.name.size = bytesOf x.name := by
        rw [hb]
        show (bytesOf x.name ++ rest).take x.name.size = _
        rw [List.take_append_of_le_length (by rw [bytesOf_length]; exact Nat.le_refl _), List.take_of_length_le (by rw [bytesOf_length]; exact Nat.le_refl _)]
      rw [ht, strOf_bytesOf]
      have g0 : (entB x ++ rest).getD 0 0 = x.ino % 256 := rfl
      have g1 : (entB x ++ rest).getD 1 0 = x.ino / 256 % 256 := rfl
      have g2 : (entB x ++ rest).getD 2 0 = x.kind % 256 := rfl
      rw [g0, g1, g2]
      cases x
      simp only at h1 h2 h3 h4 ⊢
      congr 1 <;> omega
    rw [hd, he, ← hr, ih (fun y hy => hok y (by simp [hy])), List.append_assoc]
    rfl
theorem take_seal {L : List Int} (h : L.length = 256) (s : Int) : (sealL L s).take 252 = L.take 252 := by
  rw [sealL_eq h, List.take_append_of_le_length (by rw [List.length_take, h]; exact Nat.le_refl _), List.take_take, Nat.min_self]
theorem getD_take {l : List Int} {k j : Nat} (h : j < k) : (l.take k).getD j 0 = l.getD j 0 := by
  simp [List.getD_eq_getElem?_getD, List.getElem?_take, h]
theorem back_leaf {l : List Ent} {s : Int} (h : (packI l s).2 = 0) : unpackI (packI l s).1 s = (l, 0) := by
  obtain ⟨hok, hsz, hp⟩ := packI_good h
  have h62 := (packI_ok h).1
  have hpl : (pad (packB l)).length = 256 := pad_length _ (by have := packB_len hsz; omega)
  have hpp : packI l s = (sealL (pad (packB l)) s, 0) := Prod.ext hp h
  rw [hp]
  have hlen : (sealL (pad (packB l)) s).length = 256 := by unfold sealL; rw [layL_length]; exact hpl
  have htk := take_seal hpl s
  have hcut : ((sealL (pad (packB l)) s).drop 2).take 250 = l.flatMap entB ++ List.replicate (250 - (l.flatMap entB).length) 0 := by
    have e : ((sealL (pad (packB l)) s).drop 2).take 250 = ((sealL (pad (packB l)) s).take 252).drop 2 := by rw [List.drop_take]
    rw [e, htk]
    have hl := packB_len hsz
    unfold pad
    rw [List.take_append, List.take_of_length_le hl, List.take_replicate]
    have e2 : min (252 - (packB l).length) (256 - (packB l).length) = 252 - (packB l).length := by omega
    rw [e2]
    have e3 : (packB l).length = 2 + (l.flatMap entB).length := by unfold packB; simp only [List.length_append, List.length_cons, List.length_nil]
    rw [e3, show 252 - (2 + (l.flatMap entB).length) = 250 - (l.flatMap entB).length by omega]
    rfl
  have h1 : (sealL (pad (packB l)) s).getD 1 0 = l.length := by
    rw [← getD_take (k := 252) (by omega), htk, getD_take (by omega)]
    show (l.length : Int) % 256 = _
    omega
  have hrd : readI l.length (((sealL (pad (packB l)) s).drop 2).take 250) [] = some l := by
    rw [hcut]
    refine read_back l (fun x hx => ?_) _ []
    obtain ⟨j, hj, e⟩ := List.getElem_of_mem hx
    have := hok j hj
    unfold entOk entAt at this
    rw [List.getD_eq_getElem?_getD, List.getElem?_eq_getElem hj, Option.getD_some, e] at this
    obtain ⟨a, b, c, d, f, _⟩ := this
    exact ⟨by omega, by omega, by omega, by omega, chk_size f⟩
  unfold unpackI
  rw [if_neg (fun h => h hlen), h1, Int.toNat_natCast, hrd]
  show (if _ then _ else _) = _
  rw [if_pos ⟨h, hp⟩]
theorem other_leaf {l : List Ent} {s t : Int} (h : (packI l s).2 = 0) (hs : 0 ≤ s ∧ s < 4294967296) (ht : 0 ≤ t ∧ t < 4294967296) (hne : s ≠ t) : unpackI (packI l s).1 t = ([], 117) := by
  rcases unpackI_cases (packI l s).1 t with ⟨out, _, h2, _⟩ | h1
  · exfalso
    obtain ⟨_, hsz, hp⟩ := packI_good h
    have h3 : (packI out t).2 = 0 := by rw [h2]
    obtain ⟨_, hsz2, hp2⟩ := packI_good h3
    rw [h2] at hp2
    have hp3 : (packI l s).1 = sealL (pad (packB out)) t := hp2
    rw [hp] at hp3
    exact hne (seal_other (pad_length _ (by have := packB_len hsz; omega)) (pad_length _ (by have := packB_len hsz2; omega)) (allB_pad (allB_packB l)) hs ht hp3)
  · exact h1
theorem leaf_no_index {l : List Ent} {s : Int} (h : (packI l s).2 = 0) : unpidxI (packI l s).1 s = ([], 117) := by
  rcases unpidxI_cases (packI l s).1 s with ⟨out, _, h2, _⟩ | h1
  · exact (no_both (x := l) (y := out) (Prod.ext rfl h) h2).elim
  · exact h1
theorem index_no_leaf {k : List Prt} {s : Int} (h : (pidxI k s).2 = 0) : unpackI (pidxI k s).1 s = ([], 117) := by
  rcases unpackI_cases (pidxI k s).1 s with ⟨out, _, h2, _⟩ | h1
  · exact (no_both (x := out) (y := k) h2 (Prod.ext rfl h)).elim
  · exact h1
theorem splitGo_hash (l : List Ent) (g k : Nat) (last : Int) (hl : last = 0 ∨ ∃ i : Nat, last = i ∧ 0 < i ∧ hashI (entAt l i).name ≠ hashI (entAt l (i - 1)).name) (hk : 0 < k) :
    splitGo l g k last = 0 ∨ ∃ i : Nat, splitGo l g k last = i ∧ 0 < i ∧ hashI (entAt l i).name ≠ hashI (entAt l (i - 1)).name := by
  induction g generalizing k last with
  | zero => exact hl
  | succ g ih =>
    unfold splitGo
    by_cases h1 : hashI (entAt l k).name = hashI (entAt l (k - 1)).name
    · rw [if_pos h1]
      exact ih (k + 1) last hl (by omega)
    · rw [if_neg h1]
      split
      · exact .inr ⟨k, rfl, hk, h1⟩
      · exact ih (k + 1) k (.inr ⟨k, rfl, hk, h1⟩) (by omega)
theorem splitI_hash (l : List Ent) : splitI l = 0 ∨ ∃ i : Nat, splitI l = i ∧ 0 < i ∧ i < l.length ∧ hashI (entAt l i).name ≠ hashI (entAt l (i - 1)).name := by
  rcases splitGo_hash l (l.length - 1) 1 0 (.inl rfl) (by omega) with h | ⟨i, h1, h2, h3⟩
  · exact .inl h
  · rcases splitI_range l with h | ⟨j, h4, h5, h6⟩
    · exact .inl h
    · have h1' : splitI l = i := h1
      have : i = j := by omega
      subst this
      exact .inr ⟨i, h1', h2, h6, h3⟩
theorem prts_at (k : List Prt) (i : Nat) (hi : i < k.length) (z : List Int) : (k.flatMap prtB ++ z).drop (6 * i) = prtB (prtAt k i) ++ ((k.drop (i + 1)).flatMap prtB ++ z) := by
  induction k generalizing i with
  | nil => simp at hi
  | cons x k ih =>
    cases i with
    | zero => simp [prtAt]
    | succ i =>
      rw [List.flatMap_cons, List.append_assoc, List.drop_append, prtB_length, List.drop_of_length_le (by rw [prtB_length]; omega), List.nil_append, show 6 * (i + 1) - 6 = 6 * i by omega, ih i (by simpa using hi)]
      rfl
theorem pidxI_good {k : List Prt} {s : Int} (h : (pidxI k s).2 = 0) : prtsOk k ∧ k.length ≤ 40 ∧ (pidxI k s).1 = sealL (pad (pidxB k)) s := by
  unfold pidxI at h ⊢
  by_cases h1 : k.length < 1 ∨ 40 < k.length ∨ (prtAt k 0).hash ≠ 0
  · rw [if_pos h1] at h; cases h
  · rw [if_neg h1] at h ⊢
    by_cases h2 : prtsOk k
    · rw [if_pos h2]
      exact ⟨h2, by omega, rfl⟩
    · rw [if_neg h2] at h; cases h
theorem getI_val {l : List Int} (hb : allB l) (a k : Nat) (h1 : 1 ≤ k) (h8 : k ≤ 8) (h : a + k ≤ l.length) : (getI l a k).1 = val ((l.drop a).take k) := by
  unfold getI
  rw [if_pos (by simp only [fitsB, Bool.and_eq_true, decide_eq_true_eq]; omega), Int.toNat_natCast, Int.toNat_natCast]
  exact numI_val (allB_take (allB_drop hb a) k) (by rw [List.length_take]; omega)
theorem val_bound {l : List Int} (hb : allB l) (a k : Nat) (h : a + k ≤ l.length) : 0 ≤ val ((l.drop a).take k) ∧ val ((l.drop a).take k) < 256 ^ k := by
  have := val_range (allB_take (allB_drop hb a) k)
  rwa [List.length_take, List.length_drop, Nat.min_eq_left (by omega)] at this
theorem prtG_val {l : List Int} (hb : allB l) (i : Nat) (h : 2 + 6 * i + 6 ≤ l.length) : prtG l i = ⟨val ((l.drop (2 + 6 * i)).take 4), val ((l.drop (6 + 6 * i)).take 2)⟩ := by
  have h1 := getI_val hb (2 + 6 * i) 4 (by omega) (by omega) (by omega)
  have h2 := getI_val hb (6 + 6 * i) 2 (by omega) (by omega) (by omega)
  have b1 := val_bound hb (2 + 6 * i) 4 (by omega)
  have b2 := val_bound hb (6 + 6 * i) 2 (by omega)
  unfold prtG
  rw [show (2 : Int) + 6 * (i : Int) + 4 = ((6 + 6 * i : Nat) : Int) by omega, show (2 : Int) + 6 * (i : Int) = ((2 + 6 * i : Nat) : Int) by omega]
  rw [show ((4 : Nat) : Int) = 4 from rfl] at h1
  rw [show ((2 : Nat) : Int) = 2 from rfl] at h2
  rw [h1, h2]
  congr 1
  · omega
  · unfold wrap64; omega
theorem part_at {k : List Prt} {s : Int} (h40 : k.length ≤ 40) (i : Nat) (hi : i < k.length) : ((sealL (pad (pidxB k)) s).drop (2 + 6 * i)).take 6 = prtB (prtAt k i) := by
  have hlen : (pidxB k).length = 2 + 6 * k.length := by unfold pidxB; rw [List.length_append, prtsB_length]; rfl
  have hpl : (pad (pidxB k)).length = 256 := pad_length _ (by omega)
  have e : ((sealL (pad (pidxB k)) s).drop (2 + 6 * i)).take 6 = (((sealL (pad (pidxB k)) s).take 252).drop (2 + 6 * i)).take 6 := by
    rw [List.drop_take, List.take_take, Nat.min_eq_left (by omega)]
  rw [e, take_seal hpl, List.drop_take, List.take_take, Nat.min_eq_left (by omega)]
  have e2 : pad (pidxB k) = [2, (k.length : Int) % 256] ++ (k.flatMap prtB ++ List.replicate (256 - (pidxB k).length) 0) := by
    unfold pad
    conv => lhs; unfold pidxB
    rw [List.append_assoc]
    unfold pidxB
    rfl
  rw [e2, List.drop_append, List.drop_of_length_le (by simp), List.nil_append]
  show List.take 6 (List.drop (2 + 6 * i - 2) _) = _
  rw [show 2 + 6 * i - 2 = 6 * i by omega, prts_at k i hi, List.take_append_of_le_length (by rw [prtB_length]; omega), List.take_of_length_le (by rw [prtB_length]; omega)]
theorem back_index {k : List Prt} {s : Int} (hwf : ∀ j, j < k.length → 0 ≤ (prtAt k j).hash ∧ (prtAt k j).hash < 4294967296) (h : (pidxI k s).2 = 0) : unpidxI (pidxI k s).1 s = (k, 0) := by
  obtain ⟨hok, h40, hp⟩ := pidxI_good h
  have hlen : (pidxB k).length = 2 + 6 * k.length := by unfold pidxB; rw [List.length_append, prtsB_length]; rfl
  have hpl : (pad (pidxB k)).length = 256 := pad_length _ (by omega)
  have hq : (sealL (pad (pidxB k)) s).length = 256 := by unfold sealL; rw [layL_length]; exact hpl
  have hab : allB (sealL (pad (pidxB k)) s) := by rw [← hp]; exact allB_pidx k s
  have h1 : (sealL (pad (pidxB k)) s).getD 1 0 = k.length := by
    rw [← getD_take (k := 252) (by omega), take_seal hpl, getD_take (by omega)]
    show (k.length : Int) % 256 = _
    omega
  have hrd : readP (sealL (pad (pidxB k)) s) k.length = k := by
    apply List.ext_getElem
    · rw [readP_length]
    · intro i h2 h3
      have e : (readP (sealL (pad (pidxB k)) s) k.length)[i] = prtG (sealL (pad (pidxB k)) s) i := by simp only [readP, List.getElem_map, List.getElem_range]
      rw [e, prtG_val hab i (by rw [hq]; omega)]
      have hpa := part_at (s := s) h40 i h3
      have hx : prtAt k i = k[i] := by unfold prtAt; simp [List.getD_eq_getElem?_getD, h3]
      have t4 : ((sealL (pad (pidxB k)) s).drop (2 + 6 * i)).take 4 = (prtB (prtAt k i)).take 4 := by rw [← hpa, List.take_take]; rfl
      have t2 : ((sealL (pad (pidxB k)) s).drop (6 + 6 * i)).take 2 = (prtB (prtAt k i)).drop 4 := by
        rw [← hpa, List.drop_take, List.drop_drop, show 2 + 6 * i + 4 = 6 + 6 * i by omega]
      rw [t4, t2, hx]
      have hw := hwf i h3
      obtain ⟨o1, o2, _, _⟩ := hok i h3
      rw [hx] at hw o1 o2
      generalize k[i] = x at hw o1 o2
      cases x with
      | mk hash block =>
        simp only [prtB, List.take_succ_cons, List.take_zero, List.drop_succ_cons, List.drop_zero, val] at hw o1 o2 ⊢
        congr 1 <;> omega
  rw [hp]
  unfold unpidxI
  rw [if_neg (by rw [h1]; rintro (h | h); exact h hq; omega), h1, Int.toNat_natCast, hrd, if_pos ⟨h, hp⟩]
end Go.Proofs.Ytjggkaieagbjmaa.Hand
