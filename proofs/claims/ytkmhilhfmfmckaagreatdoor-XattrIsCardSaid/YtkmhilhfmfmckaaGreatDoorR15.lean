/- Own texts and printed words of the kit, put together and trimmed by a program of mine (merge.py). -/
import Derived.Test.YtkmhilhfmfmckaaGreatDoorR14
import Derived.Deep.OwnRows
namespace Go.Proofs.YtkmhilhfmfmckaaGreatDoor.Hand
set_option linter.unusedSimpArgs false
set_option linter.unusedVariables false
set_option maxRecDepth 100000
open Go.Shelf Go.RowKit Go.Proofs.YtkmhilhfmfmckaaGreatDoorW.PrintWords Go.Proofs.YtkmhilhfmfmckaaGreatDoorW.PrintLast Go.Proofs.YtkmhilhfmfmckaaGreatDoorW.PrintMore
theorem getD_same {L : List (List Int)} {i : Nat} {b : List Int} (h : i < L.length) : (L.set i b).getD i [] = b := by simp [List.getD_eq_getElem?_getD, h]
theorem getD_other {L : List (List Int)} {i j : Nat} {b : List Int} (h : i ≠ j) : (L.set i b).getD j [] = L.getD j [] := by simp [List.getD_eq_getElem?_getD, List.getElem?_set_ne h]
theorem zeroGo_get : ∀ (g n : Nat) (L : List (List Int)) (j : Nat), j < n → (zeroGo g n L).getD j [] = L.getD j []
 | 0, _, _, _, _ => rfl
 | g + 1, n, L, j, h => by rw [zeroGo, zeroGo_get g (n + 1) _ j (by omega), getD_other (by omega)]
theorem exMk : mkFr exG 0 = 0 ∧ mkTo exG 0 = 200 ∧ mkBm exG 0 = 98 ∧ mkDa exG 0 = 108 ∧ mkFr exG 1 = 200 ∧ mkTo exG 1 = 300 ∧ mkBm exG 1 = 200 ∧ mkDa exG 1 = 210 := by
 unfold mkFr mkTo mkBm mkDa
 simp only [show ((0 : Nat) : Int) = 0 from rfl, show ((1 : Nat) : Int) = 1 from rfl]
 rw [exGeo.2.2.1, exGeo.2.2.2.1, exGeo.2.2.2.2.1, exGeo.2.2.2.2.2]
 decide
theorem exBits0 : mkBits exG 0 = (exM0, 0) := by
 unfold mkBits
 obtain ⟨h1, h2, h3, h4, _⟩ := exMk
 rw [h1, h2, h3, h4]
 show turnI (newB 200 98) 200 0 108 true 98 = _
 rw [new200]
 exact turn0
theorem exBits1 : (mkBits exG 1).2 = 0 := by
 unfold mkBits
 obtain ⟨_, _, _, _, h1, h2, h3, h4⟩ := exMk
 rw [h1, h2, h3, h4]
 show (turnI (newB 100 200) 100 0 10 true 200).2 = _
 rw [new100]
 exact turn0b
theorem exGr : (groupsI exG).toNat = 2 := by rw [exGeo.2.1]; rfl
theorem exMkOk : MkOk exG := by
 refine ⟨exGeo.1, fun i hi => ?_, ?_, ?_⟩
 ·rw [exGeo.2.1] at hi
  have : i = 0 ∨ i = 1 := by omega
  rcases this with rfl | rfl
  ·rw [exBits0]
  ·exact exBits1
 ·rw [exGr, exSup.2]
  exact exPk.2.2.1
 ·rw [exSup.1]
  exact exPk.1
theorem exMkI : mkI exG exL = ((mkGo exG exL 2).set 1 (pgroupsI exG0).1).set 0 (psuperI exX0).1 := by
 unfold mkI
 rw [exGr, exSup.1, exSup.2]
theorem exLen : (mkI exG exL).length = 300 := by
 rw [exMkI, List.length_set, List.length_set, mkGo_length]
 exact List.length_replicate
theorem ex98 : (mkI exG exL).getD 98 [] = exM0 := by
 rw [exMkI, getD_other (by omega), getD_other (by omega)]
 show (mkOne exG 1 (mkOne exG 0 exL)).getD 98 [] = _
 obtain ⟨h1, h2, h3, h4, h5, h6, h7, h8⟩ := exMk
 unfold mkOne
 rw [h3, h4, h7, h8, exBits0, zeroGo_get _ _ _ _ (by omega), getD_other (by omega), getD_other (by omega), zeroGo_get _ _ _ _ (by omega), getD_other (by omega), getD_same (by unfold exL; rw [List.length_replicate]; omega)]
theorem ex0 : (mkI exG exL).getD 0 [] = (psuperI exX0).1 := by
 rw [exMkI, getD_same (by rw [List.length_set, mkGo_length]; unfold exL; rw [List.length_replicate]; omega)]
theorem ex1g : (mkI exG exL).getD 1 [] = (pgroupsI exG0).1 := by
 rw [exMkI, getD_other (by omega), getD_same (by rw [mkGo_length]; unfold exL; rw [List.length_replicate]; omega)]
structure ExSt (s : St) (x : Sup) (l : List Grp) (m : List Int) : Prop where
 len : s.now.length = 300
 b0 : s.now.getD 0 [] = (psuperI x).1
 b1 : s.now.getD 1 [] = (pgroupsI l).1
 bm : s.now.getD 98 [] = m
 held : s.held = List.replicate 300 false
theorem exSt0 : ExSt exS exX0 exG0 exM0 := ⟨exLen, ex0, ex1g, ex98, by show List.replicate (mkI exG exL).length false = _; rw [exLen]⟩
theorem exSit {s : St} {x : Sup} {l : List Grp} {m : List Int} (h : ExSt s x l m) (hx : unsuperI (psuperI x).1 = (x, 0)) (hl : ungroupsI (pgroupsI l).1 2 = (l, 0)) (hg : x.geo = exG) : sitI s.now = some (x, l) := by
 unfold sitI
 rw [h.b0, h.b1, hx]
 dsimp only
 rw [hg, exGeo.2.1, hl, h.len, if_neg (by simp [exG]), if_neg (by simp)]
theorem ExSt.write {s : St} {x : Sup} {l : List Grp} {m b : List Int} (h : ExSt s x l m) (n : Nat) (h0 : n ≠ 0) (h1 : n ≠ 1) (h2 : n ≠ 98) : ExSt (s.write n b) x l m := by
 refine ⟨?_, ?_, ?_, ?_, h.held⟩
 ·show (s.now.set n b).length = 300
  rw [List.length_set]; exact h.len
 ·show (s.now.set n b).getD 0 [] = _
  rw [getD_other h0]; exact h.b0
 ·show (s.now.set n b).getD 1 [] = _
  rw [getD_other h1]; exact h.b1
 ·show (s.now.set n b).getD 98 [] = _
  rw [getD_other h2]; exact h.bm
theorem exTake {s : St} (h : ExSt s exX0 exG0 exM0) : ∃ t, blocksI s 0 1 = (t, 108, 1, 0) ∧ ExSt t exX1 exG1 exM1 ∧ t.hist.length = s.hist.length + 3 := by
 have hs := exSit h exUn.1 exUn.2.2.1 rfl
 have hd : dturnI s 98 200 108 1 true = (s.write 98 exM1, 0) := by
  unfold dturnI
  rw [h.bm, show ((98 : Nat) : Int) = 98 from rfl, turn1, if_pos rfl]
 have hlv : leaveI (s.write 98 exM1) s.hist.length exX1 exG1 0 = (((s.write 98 exM1).write 1 (pgroupsI exG1).1).write 0 (psuperI exX1).1, 0) := by
  unfold leaveI
  rw [if_neg (by simp), if_neg (by rw [exPk.2.2.2, exPk.2.1]; simp)]
 have hta : takeAt s exX0 exG0 0 0 200 98 108 1 = (((s.write 98 exM1).write 1 (pgroupsI exG1).1).write 0 (psuperI exX1).1, 0) := by
  unfold takeAt
  rw [show (200 - 0 : Nat) = 200 from rfl, hd]
  exact hlv
 have hb : blkAt s exX0 exG0 0 0 200 98 0 1 = some (((s.write 98 exM1).write 1 (pgroupsI exG1).1).write 0 (psuperI exX1).1, 108, 1, 0) := by
  unfold blkAt
  rw [h.bm, h.held, show (200 - 0 : Nat) = 200 from rfl, show ((98 : Nat) : Int) = 98 from rfl, chk0, if_neg (by simp), if_neg (by simp), show (0 : Int) - ((0 : Nat) : Int) = 0 from rfl, find0]
  dsimp only
  rw [hta]
  unfold tookAt
  rw [if_neg (by simp)]
  rfl
 refine ⟨((s.write 98 exM1).write 1 (pgroupsI exG1).1).write 0 (psuperI exX1).1, ?_, ?_, rfl⟩
 ·unfold blocksI
  rw [hs]
  dsimp only
  rw [if_neg (by simp), if_pos (by simp [exX0, exG])]
  show blkGo s exX0 exG0 (((0 : Int) / exX0.geo.per).toNat) 0 1 (1 + 1) 0 = _
  rw [blkGo]
  show (match blkAt s exX0 exG0 0 (spanI exG 0).1.toNat (spanI exG 0).2.1.toNat (placeI exG 0).1.toNat 0 1 with | some r => r | none => _) = _
  rw [exGeo.2.2.1, exGeo.2.2.2.2.1]
  show (match blkAt s exX0 exG0 0 0 200 98 0 1 with | some r => r | none => _) = _
  rw [hb]
 ·have hl := h.len
  refine ⟨?_, ?_, ?_, ?_, h.held⟩
  ·show (((s.now.set 98 _).set 1 _).set 0 _).length = 300
   rw [List.length_set, List.length_set, List.length_set]; exact hl
  ·show (((s.now.set 98 _).set 1 _).set 0 _).getD 0 [] = _
   rw [getD_same (by rw [List.length_set, List.length_set]; omega)]
  ·show (((s.now.set 98 _).set 1 _).set 0 _).getD 1 [] = _
   rw [getD_other (by omega), getD_same (by rw [List.length_set]; omega)]
  ·show (((s.now.set 98 _).set 1 _).set 0 _).getD 98 [] = _
   rw [getD_other (by omega), getD_other (by omega), getD_same (by omega)]
theorem exGive {s : St} (h : ExSt s exX1 exG1 exM1) : (freeI s 108 1).2 = 0 := by
 have hs := exSit h exUn.2.1 exUn.2.2.2 rfl
 have hd : dturnI s 98 200 108 1 false = (s.write 98 exM0, 0) := by
  unfold dturnI
  rw [h.bm, show ((98 : Nat) : Int) = 98 from rfl, turn2, if_pos rfl]
 have hlv : leaveI (s.write 98 exM0) s.hist.length exX0 exG0 0 = (((s.write 98 exM0).write 1 (pgroupsI exG0).1).write 0 (psuperI exX0).1, 0) := by
  unfold leaveI
  rw [if_neg (by simp), if_neg (by rw [exPk.2.2.1, exPk.1]; simp)]
 unfold freeI
 rw [hs]
 dsimp only
 rw [if_neg (by simp [exX1, exG])]
 rw [show (108 : Int) / exX1.geo.per = 0 from rfl, show exX1.geo = exG from rfl, exGeo.2.2.1, exGeo.2.2.2.2.1]
 dsimp only
 rw [if_neg (by simp)]
 show (freeAt s exX1 exG1 0 0 200 98 108 1).2 = 0
 unfold freeAt
 rw [show (200 - 0 : Nat) = 200 from rfl, show ((108 : Nat) : Int) - ((0 : Nat) : Int) = 108 from rfl, show ((1 : Nat) : Int) = 1 from rfl, hd]
 dsimp only
 rw [show addFb exX1 1 = exX0 from rfl, show setFb exG1 0 ((grpAt exG1 0).fb + 1) = exG0 from rfl, hlv, if_neg (by simp)]
def exD0 : List Int := digB 256 (2 ^ 2016 - 2 ^ 200 + 2 ^ 108 - 1)
def exD1 : List Int := digB 256 (2 ^ 2016 - 2 ^ 100 + 2 ^ 10 - 1)
def exN0 : List Int := sealL exD1 200
theorem turn0c : turnI (sealL (digB 256 (2 ^ 2016 - 2 ^ 100)) 200) 100 0 10 true 200 = (exN0, 0) := by decide +kernel
theorem chk1 : chkB exN0 100 200 = 0 := by decide +kernel
theorem exDl : exD0.length = 256 ∧ exD1.length = 256 := by decide +kernel
theorem exDb : (∀ i : Fin 108, bitB exD0 i.val = true) ∧ (∀ i : Fin 10, bitB exD1 i.val = true) := by decide +kernel
theorem exDa : (∀ x ∈ exD0, 0 ≤ x ∧ x < 256) ∧ (∀ x ∈ exD1, 0 ≤ x ∧ x < 256) := by decide +kernel
def exG2 : List Grp := [⟨92, 16, 0⟩, ⟨89, 16, 0⟩]
theorem exUn2 : ungroupsI (pgroupsI exG2).1 2 = (exG2, 0) ∧ (pgroupsI exG2).2 = 0 := by decide +kernel
theorem allB_M : allB exM0 ∧ allB exN0 := ⟨allB_seal (fun x hx => exDa.1 x hx) 98, allB_seal (fun x hx => exDa.2 x hx) 200⟩
theorem bit_M (f : Nat) (h : setI exM0 f = false) : 108 ≤ f := by
 by_cases hf : f < 108
 ·rw [show exM0 = sealL exD0 98 from rfl, set_bit (seal_len exDl.1 98), if_neg (by omega), bit_seal exDl.1 98 _ (by omega), exDb.1 ⟨f, hf⟩] at h
  cases h
 ·omega
theorem bit_N (f : Nat) (h : setI exN0 f = false) : 10 ≤ f := by
 by_cases hf : f < 10
 ·rw [show exN0 = sealL exD1 200 from rfl, set_bit (seal_len exDl.2 200), if_neg (by omega), bit_seal exDl.2 200 _ (by omega), exDb.2 ⟨f, hf⟩] at h
  cases h
 ·omega
structure Al0 (s : St) (x : Sup) (l : List Grp) (m0 m1 : List Int) : Prop where
 len : s.now.length = 300
 b0 : s.now.getD 0 [] = (psuperI x).1
 b1 : s.now.getD 1 [] = (pgroupsI l).1
 m0 : s.now.getD 98 [] = m0
 m1 : s.now.getD 200 [] = m1
def AlN (s : St) : Prop := Al0 s exX0 exG0 exM0 exN0
def AlT (s : St) (n : Nat) : Prop :=
 (108 ≤ n ∧ n < 200 ∧ ∃ m, turnI exM0 200 n 1 true 98 = (m, 0) ∧ Al0 s exX1 exG1 m exN0) ∨ (210 ≤ n ∧ n < 300 ∧ ∃ m, turnI exN0 100 (n - 200 : Nat) 1 true 200 = (m, 0) ∧ Al0 s exX1 exG2 exM0 m)
theorem AlT.range {s : St} {n : Nat} (h : AlT s n) : 108 ≤ n ∧ n < 300 ∧ n ≠ 200 := by
 rcases h with ⟨h1, h2, _⟩ | ⟨h1, h2, _⟩ <;> omega
theorem Al0.write {s : St} {x : Sup} {l : List Grp} {m0 m1 b : List Int} (h : Al0 s x l m0 m1) (n : Nat) (hn : 108 ≤ n ∧ n ≠ 200) : Al0 (s.write n b) x l m0 m1 := by
 refine ⟨?_, ?_, ?_, ?_, ?_⟩
 ·show (s.now.set n b).length = 300
  rw [List.length_set]; exact h.len
 ·show (s.now.set n b).getD 0 [] = _
  rw [getD_other (by omega)]; exact h.b0
 ·show (s.now.set n b).getD 1 [] = _
  rw [getD_other (by omega)]; exact h.b1
 ·show (s.now.set n b).getD 98 [] = _
  rw [getD_other (by omega)]; exact h.m0
 ·show (s.now.set n b).getD 200 [] = _
  rw [getD_other (by omega)]; exact h.m1
theorem AlT.write {s : St} {n : Nat} {b : List Int} (h : AlT s n) : AlT (s.write n b) n := by
 have hr := h.range
 rcases h with ⟨h1, h2, m, h3, h4⟩ | ⟨h1, h2, m, h3, h4⟩
 ·exact .inl ⟨h1, h2, m, h3, h4.write n (by omega)⟩
 ·exact .inr ⟨h1, h2, m, h3, h4.write n (by omega)⟩
theorem alN_ex : AlN exS := by
 refine ⟨exLen, ex0, ex1g, ex98, ?_⟩
 show (mkI exG exL).getD 200 [] = _
 rw [exMkI, getD_other (by omega), getD_other (by omega)]
 show (mkOne exG 1 (mkOne exG 0 exL)).getD 200 [] = _
 obtain ⟨h1, h2, h3, h4, h5, h6, h7, h8⟩ := exMk
 have hb : mkBits exG 1 = (exN0, 0) := by
  unfold mkBits
  rw [h5, h6, h7, h8]
  show turnI (newB 100 200) 100 0 10 true 200 = _
  rw [new100]
  exact turn0c
 have hl : ((mkOne exG 0 exL)).length = 300 := by
  have : (mkGo exG exL 1).length = exL.length := mkGo_length ..
  rw [show mkGo exG exL 1 = mkOne exG 0 exL from rfl] at this
  rw [this]; exact List.length_replicate
 unfold mkOne at hl ⊢
 rw [h7, h8, hb, zeroGo_get _ _ _ _ (by omega), getD_other (by omega), getD_same (by rw [hl]; omega)]
theorem al_sit {s : St} {x : Sup} {l : List Grp} {m0 m1 : List Int} (h : Al0 s x l m0 m1) (hx : unsuperI (psuperI x).1 = (x, 0)) (hl : ungroupsI (pgroupsI l).1 2 = (l, 0)) (hg : x.geo = exG) : sitI s.now = some (x, l) := by
 unfold sitI
 rw [h.b0, h.b1, hx]
 dsimp only
 rw [hg, exGeo.2.1, hl, h.len, if_neg (by simp [exG]), if_neg (by simp)]
theorem alN_sit {s : St} (h : AlN s) : sitI s.now = some (exX0, exG0) := al_sit h exUn.1 exUn.2.2.1 rfl
theorem alT_sit {s : St} {n : Nat} (h : AlT s n) : ∃ l, sitI s.now = some (exX1, l) ∧ (n < 200 → l = exG1) ∧ (200 ≤ n → l = exG2) := by
 rcases h with ⟨h1, h2, m, h3, h4⟩ | ⟨h1, h2, m, h3, h4⟩
 ·exact ⟨exG1, al_sit h4 exUn.2.1 exUn.2.2.2 rfl, fun _ => rfl, fun h => by omega⟩
 ·exact ⟨exG2, al_sit h4 exUn.2.1 exUn2.1 rfl, fun h => by omega, fun _ => rfl⟩
theorem alN_left {s : St} (h : AlN s) : leftI s.now = (182, 32, 0) := by unfold leftI; rw [alN_sit h]; rfl
theorem alT_left {s : St} {n : Nat} (h : AlT s n) : leftI s.now = (181, 32, 0) := by
 obtain ⟨l, hl, _⟩ := alT_sit h
 unfold leftI; rw [hl]; rfl
theorem back_self (s : St) : s.back s.hist.length = s := by
 unfold St.back
 rw [Nat.sub_self]
 rfl
def TookOk (s : St) (r : St × Int × Int × Int) : Prop :=
 (r.2.2.2 ≠ 0 ∧ r.1 = s) ∨ ∃ n : Nat, r.2 = ((n : Int), 1, 0) ∧ AlT r.1 n ∧ r.1.hist.length = s.hist.length + 3
theorem take_grp {s : St} (h : AlN s) (i fr zz bm : Nat) (hi : (i = 0 ∧ fr = 0 ∧ zz = 200 ∧ bm = 98) ∨ (i = 1 ∧ fr = 200 ∧ zz = 300 ∧ bm = 200)) (goal : Int) (r : St × Int × Int × Int) (hr : blkAt s exX0 exG0 i fr zz bm goal 1 = some r) : TookOk s r := by
 have hchk : chkB (s.now.getD bm []) (zz - fr) bm = 0 := by
  rcases hi with ⟨rfl, rfl, rfl, rfl⟩ | ⟨rfl, rfl, rfl, rfl⟩
  ·rw [h.m0]; exact chk0
  ·rw [h.m1]; exact chk1
 unfold blkAt at hr
 rw [hchk, if_neg (by simp)] at hr
 obtain ⟨⟨f1, f2, ok⟩, hf⟩ : ∃ f, findI (maskI s.held fr (zz - fr) 0 (s.now.getD bm [])) (if (zz : Int) ≤ goal then -1 else goal - fr) 1 = f := ⟨_, rfl⟩
 rw [hf] at hr
 cases ok with
 | false => cases hr
 | true =>
  obtain ⟨rfl, hf1, hf2⟩ := findI_one hf
  obtain ⟨f, rfl⟩ : ∃ f : Nat, f1 = f := ⟨f1.toNat, by omega⟩
  dsimp only at hr
  have hr := Option.some.inj hr
  subst hr
  obtain ⟨⟨m, c⟩, ht⟩ : ∃ t, turnI (s.now.getD bm []) (zz - fr) f 1 true bm = t := ⟨_, rfl⟩
  by_cases hc : c = 0
  ·subst hc
   have hd : dturnI s bm (zz - fr) f 1 true = (s.write bm m, 0) := by unfold dturnI; rw [ht, if_pos rfl]
   right
   refine ⟨fr + f, ?_⟩
   unfold takeAt tookAt
   rw [hd]
   rcases hi with ⟨rfl, rfl, rfl, rfl⟩ | ⟨rfl, rfl, rfl, rfl⟩
   ·rw [h.m0] at ht
    have htb := turn_back (D := exD0) exDl.1 rfl allB_M.1 chk0 (by omega) ht
    have hfb := bit_M f htb.2.2.1
    have hlv : leaveI (s.write 98 m) s.hist.length (addFb exX0 (-1)) (setFb exG0 0 ((grpAt exG0 0).fb + -1)) 0 = (((s.write 98 m).write 1 (pgroupsI exG1).1).write 0 (psuperI exX1).1, 0) := by
     show leaveI (s.write 98 m) s.hist.length exX1 exG1 0 = _
     unfold leaveI
     rw [if_neg (by simp), if_neg (by rw [exPk.2.2.2, exPk.2.1]; simp)]
    dsimp only
    rw [hlv, if_neg (by simp)]
    refine ⟨by simp, .inl ⟨by omega, by omega, m, by rw [Nat.zero_add]; exact ht, ?_⟩, rfl⟩
    have hl := h.len
    refine ⟨?_, ?_, ?_, ?_, ?_⟩
    ·show (((s.now.set 98 _).set 1 _).set 0 _).length = 300
     rw [List.length_set, List.length_set, List.length_set]; exact hl
    ·show (((s.now.set 98 _).set 1 _).set 0 _).getD 0 [] = _
     rw [getD_same (by rw [List.length_set, List.length_set]; omega)]
    ·show (((s.now.set 98 _).set 1 _).set 0 _).getD 1 [] = _
     rw [getD_other (by omega), getD_same (by rw [List.length_set]; omega)]
    ·show (((s.now.set 98 _).set 1 _).set 0 _).getD 98 [] = _
     rw [getD_other (by omega), getD_other (by omega), getD_same (by omega)]
    ·show (((s.now.set 98 _).set 1 _).set 0 _).getD 200 [] = _
     rw [getD_other (by omega), getD_other (by omega), getD_other (by omega)]; exact h.m1
   ·rw [h.m1] at ht
    have htb := turn_back (D := exD1) exDl.2 rfl allB_M.2 chk1 (by omega) ht
    have hfb := bit_N f htb.2.2.1
    have hlv : leaveI (s.write 200 m) s.hist.length (addFb exX0 (-1)) (setFb exG0 1 ((grpAt exG0 1).fb + -1)) 0 = (((s.write 200 m).write 1 (pgroupsI exG2).1).write 0 (psuperI exX1).1, 0) := by
     show leaveI (s.write 200 m) s.hist.length exX1 exG2 0 = _
     unfold leaveI
     rw [if_neg (by simp), if_neg (by rw [exUn2.2, exPk.2.1]; simp)]
    dsimp only
    rw [hlv, if_neg (by simp)]
    refine ⟨by simp, .inr ⟨by omega, by omega, m, by rw [show 200 + f - 200 = f by omega]; exact ht, ?_⟩, rfl⟩
    have hl := h.len
    refine ⟨?_, ?_, ?_, ?_, ?_⟩
    ·show (((s.now.set 200 _).set 1 _).set 0 _).length = 300
     rw [List.length_set, List.length_set, List.length_set]; exact hl
    ·show (((s.now.set 200 _).set 1 _).set 0 _).getD 0 [] = _
     rw [getD_same (by rw [List.length_set, List.length_set]; omega)]
    ·show (((s.now.set 200 _).set 1 _).set 0 _).getD 1 [] = _
     rw [getD_other (by omega), getD_same (by rw [List.length_set]; omega)]
    ·show (((s.now.set 200 _).set 1 _).set 0 _).getD 98 [] = _
     rw [getD_other (by omega), getD_other (by omega), getD_other (by omega)]; exact h.m0
    ·show (((s.now.set 200 _).set 1 _).set 0 _).getD 200 [] = _
     rw [getD_other (by omega), getD_other (by omega), getD_same (by omega)]
  ·left
   have hd : dturnI s bm (zz - fr) f 1 true = (s, c) := by unfold dturnI; rw [ht, if_neg hc]
   unfold takeAt tookAt leaveI
   rw [hd]
   dsimp only
   rw [if_pos hc, back_self, if_pos hc]
   exact ⟨hc, rfl⟩
theorem blocks_one {s : St} (h : AlN s) (goal : Int) : TookOk s (blocksI s goal 1) := by
 unfold blocksI
 rw [alN_sit h]
 dsimp only
 rw [if_neg (by omega)]
 have hg0 : ∀ k : Nat, (k : Nat) % 2 = 0 ∨ k % 2 = 1 := fun k => by omega
 have step : ∀ (g k own : Nat), TookOk s (blkGo s exX0 exG0 own goal 1 g k) := by
  intro g
  induction g with
  | zero => intro k own; exact .inl ⟨by simp [blkGo], rfl⟩
  | succ g ih =>
   intro k own
   rw [blkGo]
   have hl : exG0.length = 2 := rfl
   rw [hl, show exX0.geo = exG from rfl]
   rcases hg0 (own + k) with e | e
   ·rw [e]
    show TookOk s (match blkAt s exX0 exG0 0 (spanI exG 0).1.toNat (spanI exG 0).2.1.toNat (placeI exG 0).1.toNat goal 1 with | some r => r | none => _)
    rw [exGeo.2.2.1, exGeo.2.2.2.2.1]
    show TookOk s (match blkAt s exX0 exG0 0 0 200 98 goal 1 with | some r => r | none => _)
    cases hb : blkAt s exX0 exG0 0 0 200 98 goal 1 with
    | none => exact ih _ _
    | some r => exact take_grp h 0 0 200 98 (.inl ⟨rfl, rfl, rfl, rfl⟩) goal r hb
   ·rw [e]
    show TookOk s (match blkAt s exX0 exG0 1 (spanI exG 1).1.toNat (spanI exG 1).2.1.toNat (placeI exG 1).1.toNat goal 1 with | some r => r | none => _)
    rw [exGeo.2.2.2.1, exGeo.2.2.2.2.2]
    show TookOk s (match blkAt s exX0 exG0 1 200 300 200 goal 1 with | some r => r | none => _)
    cases hb : blkAt s exX0 exG0 1 200 300 200 goal 1 with
    | none => exact ih _ _
    | some r => exact take_grp h 1 200 300 200 (.inr ⟨rfl, rfl, rfl, rfl⟩) goal r hb
 exact step _ _ _
theorem free_one {s : St} {n : Nat} (h : AlT s n) : (freeI s n 1).2 = 0 ∧ AlN (freeI s n 1).1 ∧ (freeI s n 1).1.hist.length = s.hist.length + 4 := by
 obtain ⟨l, hs, hl1, hl2⟩ := alT_sit h
 have hr := h.range
 unfold freeI
 rw [hs]
 dsimp only
 rw [if_neg (by simp [exX1, exG]; omega)]
 rw [show exX1.geo = exG from rfl]
 rcases h with ⟨h1, h2, m, ht, h4⟩ | ⟨h1, h2, m, ht, h4⟩
 ·obtain rfl := hl1 h2
  have hq : (n : Int) / exG.per = 0 := by show (n : Int) / 200 = 0; omega
  rw [hq, exGeo.2.2.1, exGeo.2.2.2.2.1]
  dsimp only
  rw [if_neg (by omega)]
  show (freeAt s exX1 exG1 0 0 200 98 n 1).2 = 0 ∧ AlN (freeAt s exX1 exG1 0 0 200 98 n 1).1 ∧ (freeAt s exX1 exG1 0 0 200 98 n 1).1.hist.length = s.hist.length + 4
  have htb := (turn_back (D := exD0) exDl.1 rfl allB_M.1 chk0 (by omega) ht).1
  have hd : dturnI s 98 200 n 1 false = (s.write 98 exM0, 0) := by
   unfold dturnI
   rw [h4.m0, show ((98 : Nat) : Int) = 98 from rfl, htb, if_pos rfl]
   rfl
  have hlv : leaveI (s.write 98 exM0) s.hist.length exX0 exG0 0 = (((s.write 98 exM0).write 1 (pgroupsI exG0).1).write 0 (psuperI exX0).1, 0) := by
   unfold leaveI
   rw [if_neg (by simp), if_neg (by rw [exPk.2.2.1, exPk.1]; simp)]
  have he : freeAt s exX1 exG1 0 0 200 98 n 1 = (holds 1 n (((s.write 98 exM0).write 1 (pgroupsI exG0).1).write 0 (psuperI exX0).1), 0) := by
   unfold freeAt
   rw [show (200 - 0 : Nat) = 200 from rfl, show (n : Int) - ((0 : Nat) : Int) = n by omega, show ((1 : Nat) : Int) = 1 from rfl, hd]
   dsimp only
   rw [show addFb exX1 1 = exX0 from rfl, show setFb exG1 0 ((grpAt exG1 0).fb + 1) = exG0 from rfl, hlv, if_neg (by simp)]
  rw [he]
  have hl := h4.len
  refine ⟨rfl, ⟨?_, ?_, ?_, ?_, ?_⟩, rfl⟩
  ·show (((s.now.set 98 _).set 1 _).set 0 _).length = 300
   rw [List.length_set, List.length_set, List.length_set]; exact hl
  ·show (((s.now.set 98 _).set 1 _).set 0 _).getD 0 [] = _
   rw [getD_same (by rw [List.length_set, List.length_set]; omega)]
  ·show (((s.now.set 98 _).set 1 _).set 0 _).getD 1 [] = _
   rw [getD_other (by omega), getD_same (by rw [List.length_set]; omega)]
  ·show (((s.now.set 98 _).set 1 _).set 0 _).getD 98 [] = _
   rw [getD_other (by omega), getD_other (by omega), getD_same (by omega)]
  ·show (((s.now.set 98 _).set 1 _).set 0 _).getD 200 [] = _
   rw [getD_other (by omega), getD_other (by omega), getD_other (by omega)]; exact h4.m1
 ·obtain rfl := hl2 (by omega)
  have hq : (n : Int) / exG.per = 1 := by show (n : Int) / 200 = 1; omega
  rw [hq, exGeo.2.2.2.1, exGeo.2.2.2.2.2]
  dsimp only
  rw [if_neg (by omega)]
  show (freeAt s exX1 exG2 1 200 300 200 n 1).2 = 0 ∧ AlN (freeAt s exX1 exG2 1 200 300 200 n 1).1 ∧ (freeAt s exX1 exG2 1 200 300 200 n 1).1.hist.length = s.hist.length + 4
  have htb := (turn_back (D := exD1) exDl.2 rfl allB_M.2 chk1 (by omega) ht).1
  have hd : dturnI s 200 100 (n - 200 : Nat) 1 false = (s.write 200 exN0, 0) := by
   unfold dturnI
   rw [h4.m1, show ((200 : Nat) : Int) = 200 from rfl, htb, if_pos rfl]
   rfl
  have hlv : leaveI (s.write 200 exN0) s.hist.length exX0 exG0 0 = (((s.write 200 exN0).write 1 (pgroupsI exG0).1).write 0 (psuperI exX0).1, 0) := by
   unfold leaveI
   rw [if_neg (by simp), if_neg (by rw [exPk.2.2.1, exPk.1]; simp)]
  have he : freeAt s exX1 exG2 1 200 300 200 n 1 = (holds 1 n (((s.write 200 exN0).write 1 (pgroupsI exG0).1).write 0 (psuperI exX0).1), 0) := by
   unfold freeAt
   rw [show (300 - 200 : Nat) = 100 from rfl, show (n : Int) - ((200 : Nat) : Int) = ((n - 200 : Nat) : Int) by omega, show ((1 : Nat) : Int) = 1 from rfl, hd]
   dsimp only
   rw [show addFb exX1 1 = exX0 from rfl, show setFb exG2 1 ((grpAt exG2 1).fb + 1) = exG0 from rfl, hlv, if_neg (by simp)]
  rw [he]
  have hl := h4.len
  refine ⟨rfl, ⟨?_, ?_, ?_, ?_, ?_⟩, rfl⟩
  ·show (((s.now.set 200 _).set 1 _).set 0 _).length = 300
   rw [List.length_set, List.length_set, List.length_set]; exact hl
  ·show (((s.now.set 200 _).set 1 _).set 0 _).getD 0 [] = _
   rw [getD_same (by rw [List.length_set, List.length_set]; omega)]
  ·show (((s.now.set 200 _).set 1 _).set 0 _).getD 1 [] = _
   rw [getD_other (by omega), getD_same (by rw [List.length_set]; omega)]
  ·show (((s.now.set 200 _).set 1 _).set 0 _).getD 98 [] = _
   rw [getD_other (by omega), getD_other (by omega), getD_other (by omega)]; exact h4.m0
  ·show (((s.now.set 200 _).set 1 _).set 0 _).getD 200 [] = _
   rw [getD_other (by omega), getD_other (by omega), getD_same (by omega)]
def exRx : Ino := { exR with xattr := 108, blocks := 1 }
def exa : Att := ⟨exA, [2]⟩
def exb : Att := ⟨exB, [1]⟩
theorem exIno : inoI exR 48 = 0 ∧ inoI exRx 48 = 0 := by decide +kernel
theorem exNm : namedB exA = true ∧ namedB exB = true ∧ namedB exC = true := by decide +kernel
theorem exSeek : seekI [] exB = (0, false) ∧ seekI [exb] exA = (0, false) ∧ seekI [exa, exb] exA = (0, true) ∧ seekI [exa, exb] exC = (2, false) ∧ seekI [exb] exB = (0, true) := by decide +kernel
theorem exPack : (xpackI [exb] 0).2 = 0 ∧ (xpackI [exa, exb] 0).2 = 0 := by decide +kernel
theorem exList0 {s : St} : xlistI s.now exR 48 = ([], 0) := by
 unfold xlistI
 rw [exIno.1, if_neg (by simp), if_pos (show exR.xattr = 0 from rfl)]
theorem exList {s : St} {l : List Att} (h : s.now.getD 108 [] = (xpackI l 108).1) (hp : (xpackI l 0).2 = 0) (hl : l ≠ []) : xlistI s.now exRx 48 = (l, 0) := by
 have hb := xback (xpackI_code hp (b := 108))
 unfold xlistI
 rw [exIno.2, show exRx.xattr = 108 from rfl, show (108 : Int).toNat = 108 from rfl, h, hb, if_neg (by simp), if_neg (by simp), if_neg (by simp [hl])]
theorem exSet1 {s : St} (h : ExSt s exX0 exG0 exM0) : ∃ t, xsetR s exR 48 exB [1] 0 0 = (t, exRx, 0) ∧ ExSt t exX1 exG1 exM1 ∧ t.now.getD 108 [] = (xpackI [exb] 108).1 ∧ t.hist.length = s.hist.length + 4 := by
 obtain ⟨t, ht, hx, hl⟩ := exTake h
 refine ⟨t.write 108 (xpackI [exb] 108).1, ?_, hx.write 108 (by omega) (by omega) (by omega), ?_, ?_⟩
 ·unfold xsetR
  rw [exList0]
  dsimp only
  rw [exSeek.1, exNm.2.1, ht]
  rw [if_neg (by simp), if_neg (by simp), if_neg (by simp), if_neg (by simp), if_neg (by simp)]
  show (if (xpackI [exb] 0).2 ≠ 0 then _ else _) = _
  rw [exPack.1, if_neg (by simp), if_neg (by simp [exR]), if_neg (by simp)]
  rfl
 ·exact getD_same (by rw [hx.len]; omega)
 ·show (t.hist.length + 1) = _
  omega
theorem exSet2 {s : St} (h : ExSt s exX1 exG1 exM1) (hb : s.now.getD 108 [] = (xpackI [exb] 108).1) : xsetR s exRx 48 exA [2] 0 0 = (s.write 108 (xpackI [exa, exb] 108).1, exRx, 0) := by
 unfold xsetR
 rw [exList hb exPack.1 (by simp)]
 dsimp only
 rw [exSeek.2.1, exNm.1]
 rw [if_neg (by simp), if_neg (by simp), if_neg (by simp), if_neg (by simp), if_neg (by simp)]
 show (if (xpackI [exa, exb] 0).2 ≠ 0 then _ else _) = _
 rw [exPack.2, if_neg (by simp), if_pos (by simp [exRx])]
 rfl
theorem exSet3 {s : St} (hb : s.now.getD 108 [] = (xpackI [exa, exb] 108).1) : xsetR s exRx 48 exA [] 1 0 = (s, exRx, 17) := by
 unfold xsetR
 rw [exList hb exPack.2 (by simp)]
 dsimp only
 rw [exSeek.2.2.1, exNm.1]
 rw [if_neg (by simp), if_neg (by simp), if_neg (by simp), if_pos (by simp)]
theorem exSet4 {s : St} (hb : s.now.getD 108 [] = (xpackI [exa, exb] 108).1) : xsetR s exRx 48 exC [] 2 0 = (s, exRx, 61) := by
 unfold xsetR
 rw [exList hb exPack.2 (by simp)]
 dsimp only
 rw [exSeek.2.2.2.1, exNm.2.2]
 rw [if_neg (by simp), if_neg (by simp), if_neg (by simp), if_neg (by simp), if_pos (by simp)]
theorem exRem1 {s : St} (hb : s.now.getD 108 [] = (xpackI [exa, exb] 108).1) : xremR s exRx 48 exA = (s.write 108 (xpackI [exb] 108).1, exRx, 0) := by
 unfold xremR
 rw [exList hb exPack.2 (by simp)]
 dsimp only
 rw [exSeek.2.2.1]
 rw [if_neg (by simp), if_neg (by simp), if_neg (by simp)]
 rfl
theorem exRem2 {s : St} (h : ExSt s exX1 exG1 exM1) (hb : s.now.getD 108 [] = (xpackI [exb] 108).1) : ∃ t, xremR s exRx 48 exB = (t, exR, 0) := by
 refine ⟨(freeI s 108 1).1, ?_⟩
 unfold xremR
 rw [exList hb exPack.1 (by simp)]
 dsimp only
 rw [exSeek.2.2.2.2]
 rw [if_neg (by simp), if_neg (by simp), if_pos (by simp)]
 unfold xdropR
 rw [exList hb exPack.1 (by simp)]
 rw [if_neg (by simp), if_neg (by simp [exRx])]
 show (if (freeI s 108 1).2 ≠ 0 then _ else _) = _
 rw [exGive h, if_neg (by simp)]
 rfl
theorem exAll : ∃ s1 s2 s3 s4, xsetR exS exR 48 exB [1] 0 0 = (s1, exRx, 0) ∧ xsetR s1 exRx 48 exA [2] 0 0 = (s2, exRx, 0) ∧ xlistI s2.now exRx 48 = ([exa, exb], 0) ∧ xsetR s2 exRx 48 exA [] 1 0 = (s2, exRx, 17) ∧ xsetR s2 exRx 48 exC [] 2 0 = (s2, exRx, 61) ∧
  xremR s2 exRx 48 exA = (s3, exRx, 0) ∧ xremR s3 exRx 48 exB = (s4, exR, 0) ∧ s1.hist.length ≤ 100 ∧ s2.hist.length ≤ 100 ∧ s3.hist.length ≤ 100 := by
 obtain ⟨s1, h1, h2, h3, h4⟩ := exSet1 exSt0
 have hh : exS.hist.length = 0 := rfl
 have e2 := exSet2 h2 h3
 have b2 : (s1.write 108 (xpackI [exa, exb] 108).1).now.getD 108 [] = (xpackI [exa, exb] 108).1 := getD_same (by rw [h2.len]; omega)
 have x2 := h2.write (b := (xpackI [exa, exb] 108).1) 108 (by omega) (by omega) (by omega)
 have e3 := exRem1 b2
 have b3 : ((s1.write 108 (xpackI [exa, exb] 108).1).write 108 (xpackI [exb] 108).1).now.getD 108 [] = (xpackI [exb] 108).1 := getD_same (by rw [x2.len]; omega)
 obtain ⟨s4, e4⟩ := exRem2 (x2.write (b := (xpackI [exb] 108).1) 108 (by omega) (by omega) (by omega)) b3
 exact ⟨s1, _, _, s4, h1, e2, exList b2 exPack.2 (by simp), exSet3 b2, exSet4 b2, e3, e4, by omega, by show s1.hist.length + 1 ≤ 100; omega, by show s1.hist.length + 1 + 1 ≤ 100; omega⟩
theorem cmpB_lt : ∀ (a b : List UInt8), Lib.compareBytes a b < 0 ↔ a < b
 | [], [] => by simp [Lib.compareBytes]
 | [], _ :: _ => by simp [Lib.compareBytes]
 | _ :: _, [] => by simp [Lib.compareBytes]
 | x :: a, y :: b => by
  rw [Lib.compareBytes, List.cons_lt_cons_iff]
  by_cases h1 : x < y
  ·rw [if_pos h1]; simp [h1]
  ·rw [if_neg h1]
   by_cases h2 : y < x
   ·rw [if_pos h2]
    have hne : x ≠ y := fun e => by subst e; exact h1 h2
    simp [h1, hne]
   ·rw [if_neg h2, cmpB_lt a b]
    have he : x = y := by
     have := UInt8.not_lt.1 h1
     have := UInt8.not_lt.1 h2
     exact UInt8.le_antisymm ‹_› ‹_›
    simp [h1, he]
theorem cmpB_eq : ∀ (a b : List UInt8), Lib.compareBytes a b = 0 ↔ a = b
 | [], [] => by simp [Lib.compareBytes]
 | [], _ :: _ => by simp [Lib.compareBytes]
 | _ :: _, [] => by simp [Lib.compareBytes]
 | x :: a, y :: b => by
  rw [Lib.compareBytes]
  by_cases h1 : x < y
  ·rw [if_pos h1]
   have hne : x ≠ y := fun e => by subst e; exact absurd h1 (UInt8.lt_irrefl x)
   simp [hne]
  ·rw [if_neg h1]
   by_cases h2 : y < x
   ·rw [if_pos h2]
    have hne : x ≠ y := fun e => by subst e; exact absurd h2 (UInt8.lt_irrefl x)
    simp [hne]
   ·rw [if_neg h2, cmpB_eq a b]
    have he : x = y := UInt8.le_antisymm (UInt8.not_lt.1 h2) (UInt8.not_lt.1 h1)
    simp [he]
theorem baData (a : ByteArray) : a.data.toList = a.toList := (Go.Lib.toList_data a).symm ▸ rfl
theorem cmpN_lt (a b : ByteArray) : cmpN a b < 0 ↔ a.toList < b.toList := by
 unfold cmpN
 rw [cmpB_lt, baData, baData]
theorem cmpN_eq (a b : ByteArray) : cmpN a b = 0 ↔ a = b := by
 unfold cmpN
 rw [cmpB_eq]
 constructor
 ·intro h
  cases a; cases b
  congr 1
  exact Array.toList_inj.1 h
 ·rintro rfl; rfl
def exRn (n : Nat) : Ino := { exR with xattr := (n : Int), blocks := 1 }
theorem inoRn : ∀ n : Fin 300, inoI (exRn n.val) 48 = 0 := by decide +kernel
def Kept (s : St) (r : Ino) (L : List Att) : Prop :=
 (r = exR ∧ L = [] ∧ AlN s) ∨ ∃ n : Nat, r = exRn n ∧ L ≠ [] ∧ AlT s n ∧ (xpackI L 0).2 = 0 ∧ s.now.getD n [] = (xpackI L (n : Int)).1
theorem kept_ex : Kept exS exR [] := .inl ⟨rfl, rfl, alN_ex⟩
theorem Kept.list {s : St} {r : Ino} {L : List Att} (h : Kept s r L) : xlistI s.now r 48 = (L, 0) := by
 rcases h with ⟨rfl, rfl, _⟩ | ⟨n, rfl, h1, h2, h3, h4⟩
 ·exact exList0
 ·have hb := xback (xpackI_code h3 (b := (n : Int)))
  have hr := h2.range
  unfold xlistI
  rw [inoRn ⟨n, by omega⟩, if_neg (by simp), if_neg (by show ¬ (n : Int) = 0; omega)]
  rw [show (exRn n).xattr = (n : Int) from rfl, Int.toNat_natCast, h4, hb, if_neg (by simp [h1])]
theorem Kept.left {s : St} {r : Ino} {L : List Att} (h : Kept s r L) : leftI s.now = (182 - r.blocks, 32, 0) := by
 rcases h with ⟨rfl, rfl, h⟩ | ⟨n, rfl, h1, h2, h3, h4⟩
 ·exact alN_left h
 ·exact alT_left h2
theorem Kept.zero {s : St} {r : Ino} {L : List Att} (h : Kept s r L) : (r.xattr ≠ 0) ↔ 0 < L.length := by
 rcases h with ⟨rfl, rfl, h⟩ | ⟨n, rfl, h1, h2, h3, h4⟩
 ·simp [exR]
 ·have := h2.range
  have h5 : 0 < L.length := List.length_pos_iff.2 h1
  show ((n : Int) ≠ 0) ↔ _
  omega
theorem Kept.good {s : St} {r : Ino} {L : List Att} (h : Kept s r L) : (xpackI L 0).2 = 0 := by
 rcases h with ⟨rfl, rfl, h⟩ | ⟨n, rfl, h1, h2, h3, h4⟩
 ·decide +kernel
 ·exact h3
theorem Kept.blk {s : St} {r : Ino} {L : List Att} (h : Kept s r L) : 0 ≤ r.blocks ∧ r.blocks ≤ 1 ∧ 0 ≤ r.xattr ∧ r.xattr < 300 := by
 rcases h with ⟨rfl, rfl, h⟩ | ⟨n, rfl, h1, h2, h3, h4⟩
 ·exact ⟨by decide, by decide, by decide, by decide⟩
 ·have := h2.range
  exact ⟨by show (0 : Int) ≤ 1; omega, by show (1 : Int) ≤ 1; omega, by show (0 : Int) ≤ (n : Int); omega, by show (n : Int) < 300; omega⟩
theorem xsetL_ne (L : List Att) (nm : ByteArray) (x : Att) : xsetL L (seekI L nm) x ≠ [] := by
 unfold xsetL
 intro h
 split at h
 ·rename_i h2
  have hl := congrArg List.length h
  have : 0 < L.length := by
   unfold seekI at h2
   simp only [Bool.and_eq_true, decide_eq_true_eq] at h2
   omega
  rw [List.length_set, List.length_nil] at hl
  omega
 ·have hl := congrArg List.length h
  rw [insL_length, List.length_nil] at hl
  omega
theorem Kept.set {s : St} {r : Ino} {L : List Att} (h : Kept s r L) (nm : ByteArray) (val : List Int) (how goal : Int) :
  ((xsetR s r 48 nm val how goal).2.2 ≠ 0 ∧ (xsetR s r 48 nm val how goal).1 = s) ∨
  ((xsetR s r 48 nm val how goal).2.2 = 0 ∧ Kept (xsetR s r 48 nm val how goal).1 (xsetR s r 48 nm val how goal).2.1 (xsetL L (seekI L nm) ⟨nm, val⟩) ∧ (xsetR s r 48 nm val how goal).1.hist.length ≤ s.hist.length + 4 ∧ (xpackI (xsetL L (seekI L nm) ⟨nm, val⟩) 0).2 = 0) := by
 obtain ⟨R, hR⟩ : ∃ R, xsetR s r 48 nm val how goal = R := ⟨_, rfl⟩
 rw [hR]
 unfold xsetR at hR
 rw [h.list] at hR
 dsimp only at hR
 rw [if_neg (by simp)] at hR
 split at hR
 ·subst hR; exact .inl ⟨by simp, rfl⟩
 ·split at hR
  ·subst hR; exact .inl ⟨by simp, rfl⟩
  ·split at hR
   ·subst hR; exact .inl ⟨by simp, rfl⟩
   ·split at hR
    ·subst hR; exact .inl ⟨by simp, rfl⟩
    ·split at hR
     ·rename_i hp
      subst hR; exact .inl ⟨hp, rfl⟩
     ·rename_i hp
      have hp0 : (xpackI (xsetL L (seekI L nm) ⟨nm, val⟩) 0).2 = 0 := by simpa using hp
      have hne := xsetL_ne L nm ⟨nm, val⟩
      generalize xsetL L (seekI L nm) ⟨nm, val⟩ = L' at hR hp0 hne ⊢
      rcases h with ⟨rfl, rfl, ha⟩ | ⟨n, rfl, h1, h2, h3, h4⟩
      ·rw [if_neg (by simp [exR])] at hR
       rcases blocks_one ha goal with ⟨e1, e2⟩ | ⟨n, e1, e2, e3⟩
       ·rw [if_pos e1] at hR
        subst hR
        exact .inl ⟨e1, e2⟩
       ·rw [if_neg (by rw [e1]; simp), e1] at hR
        subst hR
        have hrg := e2.range
        refine .inr ⟨rfl, .inr ⟨n, rfl, hne, ?_, hp0, ?_⟩, ?_, hp0⟩
        ·show AlT ((blocksI s goal 1).1.write ((n : Int)).toNat _) n
         rw [Int.toNat_natCast]
         exact e2.write
        ·show ((blocksI s goal 1).1.now.set ((n : Int)).toNat _).getD n [] = _
         rw [Int.toNat_natCast]
         refine getD_same ?_
         rcases e2 with ⟨_, _, _, _, q⟩ | ⟨_, _, _, _, q⟩ <;> rw [q.len] <;> omega
        ·show (blocksI s goal 1).1.hist.length + 1 ≤ _
         omega
      ·have hrg := h2.range
       rw [if_pos (by show (n : Int) ≠ 0; omega)] at hR
       subst hR
       refine .inr ⟨rfl, .inr ⟨n, rfl, hne, ?_, hp0, ?_⟩, ?_, hp0⟩
       ·show AlT (s.write ((n : Int)).toNat _) n
        rw [Int.toNat_natCast]
        exact h2.write
       ·show (s.now.set ((n : Int)).toNat _).getD n [] = _
        rw [Int.toNat_natCast]
        refine getD_same ?_
        rcases h2 with ⟨_, _, _, _, q⟩ | ⟨_, _, _, _, q⟩ <;> rw [q.len] <;> omega
       ·show s.hist.length + 1 ≤ _
        omega
theorem Kept.rem {s : St} {r : Ino} {L : List Att} (h : Kept s r L) (nm : ByteArray) :
  ((seekI L nm).2 = false ∧ (xremR s r 48 nm).2.2 ≠ 0 ∧ (xremR s r 48 nm).1 = s) ∨
  ((seekI L nm).2 = true ∧ (xremR s r 48 nm).2.2 = 0 ∧ Kept (xremR s r 48 nm).1 (xremR s r 48 nm).2.1 (delL L (seekI L nm).1) ∧ (xremR s r 48 nm).1.hist.length ≤ s.hist.length + 4) := by
 obtain ⟨R, hR⟩ : ∃ R, xremR s r 48 nm = R := ⟨_, rfl⟩
 rw [hR]
 unfold xremR xdropR at hR
 rw [h.list] at hR
 dsimp only at hR
 rw [if_neg (by simp)] at hR
 split at hR
 ·rename_i hs
  subst hR; exact .inl ⟨hs, by simp, rfl⟩
 ·rename_i hs
  have hs1 : (seekI L nm).2 = true := by cases h1 : (seekI L nm).2 <;> simp_all
  have hi : (seekI L nm).1 < L.length := by
   unfold seekI at hs1 ⊢
   simp only [Bool.and_eq_true, decide_eq_true_eq] at hs1
   exact hs1.1
  right
  rcases h with ⟨rfl, rfl, ha⟩ | ⟨n, rfl, h1, h2, h3, h4⟩
  ·simp at hi
  ·have hrg := h2.range
   split at hR
   ·rename_i h1l
    rw [if_neg (by simp), if_neg (by show ¬ (n : Int) = 0; omega)] at hR
    have hf := free_one h2
    have hx : (exRn n).xattr = (n : Int) := rfl
    rw [hx, if_neg (by rw [hf.1]; simp)] at hR
    subst hR
    refine ⟨hs1, rfl, .inl ⟨rfl, ?_, hf.2.1⟩, ?_⟩
    ·have := delL_length L (seekI L nm).1 hi
     exact List.eq_nil_of_length_eq_zero (by omega)
    ·show (freeI s n 1).1.hist.length ≤ _
     omega
   ·rename_i h1l
    subst hR
    refine ⟨hs1, rfl, .inr ⟨n, rfl, ?_, ?_, ?_, ?_⟩, ?_⟩
    ·intro e
     have := delL_length L (seekI L nm).1 hi
     rw [e, List.length_nil] at this
     omega
    ·show AlT (s.write ((n : Int)).toNat _) n
     rw [Int.toNat_natCast]
     exact h2.write
    ·exact xpack_del h3 hi
    ·show (s.now.set ((n : Int)).toNat _).getD n [] = _
     rw [Int.toNat_natCast]
     refine getD_same ?_
     rcases h2 with ⟨_, _, _, _, q⟩ | ⟨_, _, _, _, q⟩ <;> rw [q.len] <;> omega
    ·show s.hist.length + 1 ≤ _
     omega
theorem attAt_get {l : List Att} {k : Nat} (h : k < l.length) : attAt l k = l[k] := by unfold attAt; simp [List.getD_eq_getElem?_getD, h]
theorem attAt_mem {l : List Att} {k : Nat} (h : k < l.length) : attAt l k ∈ l := by rw [attAt_get h]; exact List.getElem_mem h
theorem bsGo_spec {l : List Att} {nm : ByteArray} (hs : ∀ {i j : Nat}, i < j → j < l.length → (attAt l i).name.toList < (attAt l j).name.toList) : ∀ (g i j : Nat), i ≤ j → j ≤ l.length → j - i ≤ g →
  (∀ k, k < i → cmpN (attAt l k).name nm < 0) → (∀ k, j ≤ k → k < l.length → ¬ cmpN (attAt l k).name nm < 0) →
  (∀ k, k < bsGo l nm g i j → cmpN (attAt l k).name nm < 0) ∧ (∀ k, bsGo l nm g i j ≤ k → k < l.length → ¬ cmpN (attAt l k).name nm < 0)
 | 0, i, j, h1, h2, h3, h4, h5 => by
  obtain rfl : i = j := by omega
  exact ⟨h4, h5⟩
 | g + 1, i, j, h1, h2, h3, h4, h5 => by
  rw [bsGo]
  split
  ·rename_i hij
   split
   ·rename_i hc
    refine bsGo_spec hs g _ j (by omega) h2 (by omega) (fun k hk => ?_) h5
    by_cases e : k = (i + j) / 2
    ·rw [e]; exact hc
    ·exact (cmpN_lt _ _).2 (List.lt_trans (hs (show k < (i + j) / 2 by omega) (by omega)) ((cmpN_lt _ _).1 hc))
   ·rename_i hc
    refine bsGo_spec hs g i _ (by omega) (by omega) (by omega) h4 (fun k hk hkl hlt => ?_)
    by_cases e : k = (i + j) / 2
    ·rw [e] at hlt; exact hc hlt
    ·exact hc ((cmpN_lt _ _).2 (List.lt_trans (hs (show (i + j) / 2 < k by omega) hkl) ((cmpN_lt _ _).1 hlt)))
  ·obtain rfl : i = j := by omega
   exact ⟨h4, h5⟩
theorem seek_true {L : List Att} {nm : ByteArray} (h : (seekI L nm).2 = true) : (seekI L nm).1 < L.length ∧ (attAt L (seekI L nm).1).name = nm := by
 unfold seekI at h ⊢
 simp only [Bool.and_eq_true, decide_eq_true_eq, beq_iff_eq] at h
 exact ⟨h.1, (cmpN_eq _ _).1 h.2⟩
theorem seek_find {L : List Att} {x : Att} (hok : attsOk L) (hx : x ∈ L) : seekI L x.name = ((seekI L x.name).1, true) ∧ attAt L (seekI L x.name).1 = x := by
 obtain ⟨p, hp, e⟩ := List.getElem_of_mem hx
 have ep : attAt L p = x := by rw [attAt_get hp, e]
 have hsp := bsGo_spec (l := L) (nm := x.name) (fun h1 h2 => attsOk_lt hok h1 h2) L.length 0 L.length (by omega) (by omega) (by omega) (fun k hk => by omega) (fun k h1 h2 => by omega)
 have hle := bsGo_le L x.name L.length 0 L.length (by omega)
 have h0 : cmpN x.name x.name = 0 := (cmpN_eq _ _).2 rfl
 have hr : bsGo L x.name L.length 0 L.length = p := by
  obtain ⟨r, hr⟩ : ∃ r, bsGo L x.name L.length 0 L.length = r := ⟨_, rfl⟩
  rw [hr] at hsp ⊢
  have h1 : r ≤ p := by
   by_cases h : r ≤ p
   ·exact h
   ·have := hsp.1 p (by omega)
    rw [ep, h0] at this
    omega
  by_cases h : r = p
  ·exact h
  ·exfalso
   have h2 := attsOk_lt hok (show r < p by omega) hp
   rw [ep] at h2
   exact hsp.2 r (Nat.le_refl _) (by omega) ((cmpN_lt _ _).2 h2)
 unfold seekI
 dsimp only
 rw [hr, ep]
 exact ⟨by rw [h0]; simp [hp], rfl⟩
theorem split_at {l : List Att} {i : Nat} (h : i < l.length) : l.Perm (attAt l i :: delL l i) := by
 have e : l = l.take i ++ attAt l i :: l.drop (i + 1) := by
  rw [attAt_get h, ← List.drop_eq_getElem_cons h, List.take_append_drop]
 unfold delL
 conv => lhs; rw [e]
 exact List.perm_middle
theorem set_at {l : List Att} {i : Nat} (y : Att) (h : i < l.length) : (l.set i y).Perm (y :: delL l i) := by
 have e : l.set i y = l.take i ++ y :: l.drop (i + 1) := by
  apply List.ext_getElem?
  intro j
  rw [List.getElem?_set]
  by_cases hj : i = j
  ·subst hj
   rw [if_pos rfl, if_pos h, List.getElem?_append_right (by rw [List.length_take]; omega), List.length_take, Nat.min_eq_left (by omega), Nat.sub_self]
   rfl
  ·rw [if_neg hj]
   by_cases hlt : j < i
   ·rw [List.getElem?_append_left (by rw [List.length_take]; omega), List.getElem?_take, if_pos hlt]
   ·rw [List.getElem?_append_right (by rw [List.length_take]; omega), List.length_take, Nat.min_eq_left (by omega)]
    obtain ⟨m, hm⟩ : ∃ m, j - i = m + 1 := ⟨j - i - 1, by omega⟩
    rw [hm, List.getElem?_cons_succ, List.getElem?_drop]
    congr 1
    omega
 rw [e]
 unfold delL
 exact List.perm_middle
theorem ins_perm (L : List Att) (i : Nat) (x : Att) : (insL L i x).Perm (x :: L) := by
 unfold insL
 have := List.perm_middle (a := x) (l₁ := L.take i) (l₂ := L.drop i)
 rwa [List.take_append_drop] at this
def atGo (W : List Att) (nm : ByteArray) : Nat → Int
 | 0 => -1
 | k + 1 => if (attAt W k).name = nm then (k : Int) else atGo W nm k
theorem atGo_spec (W : List Att) (nm : ByteArray) : ∀ k, (atGo W nm k = -1 ∧ ∀ j, j < k → (attAt W j).name ≠ nm) ∨ ∃ a : Nat, a < k ∧ atGo W nm k = a ∧ (attAt W a).name = nm
 | 0 => .inl ⟨rfl, fun j h => by omega⟩
 | k + 1 => by
  rw [atGo]
  by_cases h : (attAt W k).name = nm
  ·rw [if_pos h]; exact .inr ⟨k, by omega, rfl, h⟩
  ·rw [if_neg h]
   rcases atGo_spec W nm k with ⟨h1, h2⟩ | ⟨a, h1, h2, h3⟩
   ·exact .inl ⟨h1, fun j hj => by
     by_cases e : j = k
     ·rw [e]; exact h
     ·exact h2 j (by omega)⟩
   ·exact .inr ⟨a, by omega, h2, h3⟩
def wantSet (W : List Att) (nm : ByteArray) (val : List Int) : List Att := if atGo W nm W.length < 0 then W ++ [⟨nm, val⟩] else W.set (atGo W nm W.length).toNat ⟨nm, val⟩
theorem want_at {W L : List Att} (hp : W.Perm L) (hok : attsOk L) (nm : ByteArray) :
  ((seekI L nm).2 = false ∧ atGo W nm W.length = -1) ∨ ((seekI L nm).2 = true ∧ (seekI L nm).1 < L.length ∧ ∃ a : Nat, a < W.length ∧ atGo W nm W.length = a ∧ (attAt W a).name = nm ∧ attAt W a = attAt L (seekI L nm).1 ∧ (delL W a).Perm (delL L (seekI L nm).1)) := by
 rcases atGo_spec W nm W.length with ⟨h1, h2⟩ | ⟨a, h1, h2, h3⟩
 ·left
  refine ⟨?_, h1⟩
  cases hs : (seekI L nm).2 with
  | false => rfl
  | true =>
   exfalso
   obtain ⟨h4, h5⟩ := seek_true hs
   have hm := hp.mem_iff.2 (attAt_mem h4)
   obtain ⟨p, hpl, e⟩ := List.getElem_of_mem hm
   exact h2 p hpl (by rw [attAt_get hpl, e]; exact h5)
 ·right
  have hm := hp.mem_iff.1 (attAt_mem h1)
  have hf := seek_find hok hm
  rw [h3] at hf
  have hs : (seekI L nm).2 = true := by rw [hf.1]
  have ht := seek_true hs
  refine ⟨hs, ht.1, a, h1, h2, h3, hf.2.symm, ?_⟩
  have p1 := (split_at h1).symm.trans (hp.trans (split_at ht.1))
  rw [hf.2] at p1
  exact p1.cons_inv
theorem want_set {W L : List Att} (hp : W.Perm L) (hok : attsOk L) (nm : ByteArray) (val : List Int) : (wantSet W nm val).Perm (xsetL L (seekI L nm) ⟨nm, val⟩) := by
 unfold wantSet xsetL
 rcases want_at hp hok nm with ⟨h1, h2⟩ | ⟨h1, h2, a, h3, h4, h5, h6, h7⟩
 ·rw [h2, h1, if_pos (by omega), if_neg (by simp)]
  refine List.Perm.trans ?_ (ins_perm L _ _).symm
  refine List.Perm.trans (List.perm_append_comm) ?_
  exact hp.cons _
 ·rw [h4, h1, if_neg (by omega), if_pos rfl, Int.toNat_natCast]
  exact (set_at _ h3).trans ((h7.cons _).trans (set_at _ h2).symm)
theorem want_get {W L : List Att} (hp : W.Perm L) (hok : attsOk L) {k : Nat} (hk : k < W.length) : seekI L (attAt W k).name = ((seekI L (attAt W k).name).1, true) ∧ attAt L (seekI L (attAt W k).name).1 = attAt W k := seek_find hok (hp.mem_iff.1 (attAt_mem hk))
end Go.Proofs.YtkmhilhfmfmckaaGreatDoor.Hand
namespace Go.Proofs.YtkmhilhfmfmckaaGreatDoor.Hand
set_option linter.unusedSimpArgs false
set_option linter.unusedVariables false
open Go.Shelf Go.RowKit Go.Proofs.YtkmhilhfmfmckaaGreatDoorW.PrintWords Go.Proofs.YtkmhilhfmfmckaaGreatDoorW.PrintLast Go.Proofs.YtkmhilhfmfmckaaGreatDoorW.PrintMore
def XGetPost (D : Nat → Prop) (s0 : Nat) (s : St) (val : List Int) (w : World) (e : Ending) (w' : World) : Prop :=
 ∃ D' Av cv, e = .returned (.tuple #[.slice Av val.length cv, .int .i64 0]) ∧ Kd.C (Kd.int .u8) w' Av val.length val ∧ StIs w' D' s0 s ∧ (∀ k, D' k → D k ∨ w.heap.size ≤ k) ∧ Mod w w' D
set_option maxHeartbeats 8000000 in
set_option maxRecDepth 100000 in
theorem xget_calls {D : Nat → Prop} {s0 : Nat} {s : St} (r : Ino) (A : Option Addr) (n c : Nat) (nm : ByteArray) (l : List Att) (i : Nat) (w : World) (h : StIs w D s0 s) (hli : xlistI s.now r n = (l, 0)) (hll : l.length ≤ 100000) (hsk : seekI l nm = (i, true)) (hi : i < l.length) :
  Calls Tryz.prog 24 #[.pointer (some ⟨s0, 0, none⟩), .agg (r.cells (.slice A n c)).toArray, .string nm] w (XGetPost D s0 s (attAt l i).val w) := by
 have HLIST := Aside0.mk (fun (W : World) (hW : Below w.heap.size w W) => xlist_calls r A n c W (h.below hW))
 rw [hli] at HLIST
 obtain ⟨cs, hcs⟩ : ∃ cs, r.cells (.slice A n c) = cs := ⟨_, rfl⟩
 have hcl : cs.length = 15 := by rw [← hcs]; rfl
 have hinf := infIno hcl
 rw [hcs] at HLIST ⊢
 have HH := Aside0.mk h
 have HSI := Aside0.mk hsk
 obtain ⟨x, hx⟩ : ∃ x, attAt l i = x := ⟨_, rfl⟩
 rw [hx]
 have HX := Aside0.mk hx
 clear hcs h hli hsk hx
 go_enter Tryz.func24, Tryz.ntmps24
 go_upto_region 1 with fail
 have hb0 := below_alloc (Below.refl w.heap.size w) (.cells cs.toArray 47)
 have hs1 : Strc (w.alloc (.cells cs.toArray 47)) w.heap.size 47 cs := alloc_last w _
 generalize w.alloc (.cells cs.toArray 47) = w1 at hb0 hs1 ⊢
 obtain ⟨q, hq⟩ : ∃ q, w.heap.size = q := ⟨_, rfl⟩
 have HB0 := Aside0.mk hb0
 rw [hq] at hs1 ⊢
 have HQ := Aside0.mk hq
 have HS1 := Aside0.mk hs1
 clear hq hb0 hs1
 refine wp_region_lit ?_
 refine wpList_plain rfl fun K hK => ?_
 unfold Oper.wp execOp
 go_simp
 refine hK _ _ ?_
 clear hK K
 refine wpList_load_row rfl 47 _ rfl q rfl 47 cs.toArray (0, 0) _ HS1.out Tryz.underlying47 rfl hinf ?_
 go_wp2_with fail
 refine (HLIST.out w1 HB0.out).mono ?_
 rintro e w2 ⟨D2, v2, b2, rfl, ho2, hD2, hb2, hst2, hgD2, hm2⟩
 dsimp only
 obtain ⟨A2, c2, rfl, hc2, hE2⟩ := ho2.reads (by dsimp only; omega)
 dsimp only at hE2 hc2
 have HSK := Aside0.mk (seek_calls A2 c2 l nm w2 hE2 hll)
 rw [HSI.out] at HSK
 dsimp only at HSK
 obtain ⟨ln, hln⟩ : ∃ ln, l.length = ln := ⟨_, rfl⟩
 have HE2 := Aside0.mk hE2
 have HIL := Aside0.mk (And.intro hln hi)
 rw [hln] at HSK hc2 hi hll ⊢
 have HM2 := Aside0.mk (And.intro hst2 (And.intro hgD2 (Mod.trans (Mod.of_below HB0.out D) hm2 (fun _ _ h => h))))
 clear hln ho2 hD2 hb2 hst2 hgD2 hE2 hm2
 go_wp2_with fail
 refine HSK.out.mono ?_
 rintro e w3 ⟨rfl, hb3⟩
 dsimp only
 obtain ⟨ad, Av, cv, rfl, k1, k2, k3, k4, k5⟩ := HE2.out.cells i HIL.out.2
 rw [HX.out] at k2 k3 k4
 have h2 := pw_cell_below hb3 k2
 have HC := Aside0.mk (Kd.C_below k4 hb3)
 have HB3 := Aside0.mk hb3
 obtain ⟨m, hm⟩ : ∃ m, x.val.length = m := ⟨_, rfl⟩
 have HMM := Aside0.mk hm
 rw [hm] at h2
 have i1 : (i : Int) < (ln : Int) := by omega
 clear k1 k2 k3 k4 k5 hb3 hm
 go_wp2
 go_ret2
 refine ⟨D2, Av, cv, by rw [HMM.out]; rfl, HC.out, HM2.out.1.below HB3.out, fun k hk => (HM2.out.2.1 k hk).imp id (fun h => Nat.le_trans HB0.out.size h), HM2.out.2.2.below HB3.out⟩
def goodV (w : World) (x : Att) (u : Value) : Prop := ∃ Av cv, u = .slice Av x.val.length cv ∧ x.val.length ≤ cv ∧ Kd.C (Kd.int .u8) w Av x.val.length x.val ∧ (Av = none → cv = 0)
theorem goodV.below {w w1 : World} {x : Att} {u : Value} (h : goodV w x u) (hb : Below w.heap.size w w1) : goodV w1 x u := by
 obtain ⟨Av, cv, h1, h2, h3, h4⟩ := h
 exact ⟨Av, cv, h1, h2, Kd.C_below h3 hb, h4⟩
theorem shared_reads {w w1 : World} {base : Nat} {v : Value} {l : List Att} {vs : List Value} (h1 : vs.length = l.length) (h2 : w1.ownsRow base 72 2 v l.length (acells l vs)) (h3 : ∀ j, j < l.length → goodV w (attAt l j) (vs.getD j undef)) (hb : Below w.heap.size w w1) (hs : l.length ≤ 1125899906842624) : ∃ A c, v = .slice A l.length c ∧ l.length ≤ c ∧ Atts w1 A l := by
 obtain ⟨A, c, rfl, hc, _, hA, hcell⟩ := own_shape h2
 refine ⟨A, c, rfl, hc, hs, fun j hj => ?_⟩
 obtain ⟨ad, rfl⟩ := hA (by omega)
 obtain ⟨q1, q2⟩ := acells_at l vs j hj h1
 obtain ⟨Av, cv, ev, hcv, hC, hno⟩ := (h3 j hj).below hb
 refine ⟨ad, Av, cv, rfl, hcell ad rfl _ _ q1, ?_, hcv, hC, hno⟩
 have := hcell ad rfl _ _ q2
 rw [add_next ad (j * 2) 1 (by omega), ev] at this
 exact this
theorem infoBy : (Tryz.prog.info? 23).map (fun i => (i.zero, i.size, i.bytes)) = some (some (.slice none 0 0), 1, 24) := by kernel_rfl
def RDkB (w : World) (base p N m : Nat) : Prop :=
 ∃ Lv Pv k cs ps, Strc w p 176 [Lv, Pv, .int .i64 k] ∧ base ≤ p ∧ w.ownsRow base 23 1 Lv N cs ∧ (∀ q ∈ cs, q.oneCell' = true) ∧ w.ownsRow base 207 2 Pv m ps ∧ (∀ q ∈ ps, q.oneCell' = true) ∧ ∀ j, j < m → ∃ (b : Nat) (A : Option Addr) (n c : Nat), b < N ∧ ps[j * 2]? = some (.int .i64 b) ∧ ps[j * 2 + 1]? = some (.slice A n c)
theorem not_strc {w : World} {base e size n p : Nat} {v : Value} {cs l : List Value} {t : TypeId} (h : w.ownsRow base e size v n cs) (hs : Strc w p t l) (hne : t ≠ e) : v.ownBlock ≠ some p := fun hg => own_not_strc h hs hne hg
theorem own_apart {w : World} {b1 b2 e1 e2 s1 s2 n1 n2 : Nat} {v1 v2 : Value} {c1 c2 : List Value} (h1 : w.ownsRow b1 e1 s1 v1 n1 c1) (h2 : w.ownsRow b2 e2 s2 v2 n2 c2) (he : e1 ≠ e2) (g : Nat) (h : v1.ownBlock = some g) : v2.ownBlock ≠ some g := by
 intro h'
 rcases h1.2 with ⟨rfl, _⟩ | ⟨g1, _, _, rfl, _, hh1, _⟩
 ·simp [Value.ownBlock] at h
 ·rcases h2.2 with ⟨rfl, _⟩ | ⟨g2, _, _, rfl, _, hh2, _⟩
  ·simp [Value.ownBlock] at h'
  ·simp only [Value.ownBlock, Option.some.injEq] at h h'
   subst h
   subst h'
   rw [hh1] at hh2
   simp at hh2
   exact he hh2.2
def RDk (w : World) (D : Nat → Prop) (p N m : Nat) : Prop :=
 ∃ Lv Pv k cs ps, Strc w p 176 [Lv, Pv, .int .i64 k] ∧ (D p ∧ (∀ k, Lv.ownBlock = some k → D k) ∧ ∀ k, Pv.ownBlock = some k → D k) ∧ w.ownsRow 0 23 1 Lv N cs ∧ (∀ q ∈ cs, q.oneCell' = true) ∧ w.ownsRow 0 207 2 Pv m ps ∧ (∀ q ∈ ps, q.oneCell' = true) ∧ ∀ j, j < m → ∃ (b : Nat) (A : Option Addr) (n c : Nat), b < N ∧ ps[j * 2]? = some (.int .i64 b) ∧ ps[j * 2 + 1]? = some (.slice A n c)
theorem own_zero {w : World} {base e size n : Nat} {v : Value} {cs : List Value} (h : w.ownsRow base e size v n cs) : w.ownsRow 0 e size v n cs := by
 refine ⟨h.1, ?_⟩
 rcases h.2 with h0 | ⟨g, c, cur, e, h1, h2⟩
 ·exact .inl h0
 ·exact .inr ⟨g, c, cur, e, Nat.zero_le _, h2⟩
theorem RDkB.to {w : World} {base p N m : Nat} (h : RDkB w base p N m) : RDk w (fun k => base ≤ k) p N m := by
 obtain ⟨Lv, Pv, k, cs, ps, h1, h2, h3, h4, h5, h6, h7⟩ := h
 exact ⟨Lv, Pv, k, cs, ps, h1, ⟨h2, own_base h3, own_base h5⟩, own_zero h3, h4, own_zero h5, h6, h7⟩
theorem RDk.mod {w w1 : World} {D S : Nat → Prop} {p N m : Nat} (h : RDk w D p N m) (hm : Mod w w1 S) (hn : ∀ k, D k → k < w.heap.size → ¬ S k) : RDk w1 D p N m := by
 obtain ⟨Lv, Pv, k, cs, ps, h1, ⟨h2, h8, h9⟩, h3, h4, h5, h6, h7⟩ := h
 exact ⟨Lv, Pv, k, cs, ps, h1.mod hm (hn p h2 h1.lt), ⟨h2, h8, h9⟩, own_mod h3 hm (fun g hg => hn g (h8 g hg) (own_lt h3 g hg)), h4, own_mod h5 hm (fun g hg => hn g (h9 g hg) (own_lt h5 g hg)), h6, h7⟩
theorem RDkB.below {w w1 : World} {base p N m : Nat} (h : RDkB w base p N m) (hb : Below w.heap.size w w1) : RDkB w1 base p N m := by
 obtain ⟨Lv, Pv, k, cs, ps, h1, h2, h3, h4, h5, h6, h7⟩ := h
 exact ⟨Lv, Pv, k, cs, ps, h1.below hb, h2, pw_own_below h3 hb, h4, pw_own_below h5 hb, h6, h7⟩
theorem RDkB.lt {w : World} {base p N m : Nat} (h : RDkB w base p N m) : p < w.heap.size ∧ base ≤ p := by
 obtain ⟨Lv, Pv, k, cs, ps, h1, h2, h3, h4, h5, h6, h7⟩ := h
 exact ⟨h1.lt, h2⟩
set_option maxHeartbeats 1000000 in
set_option maxRecDepth 100000 in
theorem rcopied_calls (A : Option Addr) (c : Nat) (b : List Int) (w : World) (hb : Kd.C (Kd.int .u8) w A b.length b) (hn : A = none → c = 0) (hm : b.length ≤ 1000000000) :
  Calls Tryz.prog 44 #[.slice A b.length c] w fun e w' => ∃ v, e = .returned v ∧ Own w' w.heap.size 5 .u8 v b ∧ Below w.heap.size w w' := by
 have HB := Aside0.mk hb
 clear hb
 go_enter Tryz.func44, Tryz.ntmps44
 go_wp2_with (at_builtin; go_loud (refine wpList_plain rfl fun K hK => ?_; refine wp_append_read (w0 := w) (.tmp 4) (.tmp 5) 23 5 rfl w.heap.size Tryz.underlying23 infoU8 (.slice none 0 0) [] b rfl (own_of_nil _ _ _ _) (Below.refl _ _) (Nat.le_refl _) A c rfl HB.out hn (by simp; omega) ?_; intro v1 w1 h1 h2 _; refine hK _ _ ?_; have HO := Aside0.mk h1; have HBE := Aside0.mk h2; clear h1 h2 hK K))
 go_ret
 exact ⟨v1, rfl, HO.out, HBE.out⟩
set_option maxHeartbeats 4000000 in
set_option maxRecDepth 100000 in
theorem rnew2_calls (w : World) : Calls Tryz.prog 48 #[.int .i64 300] w fun e w' => ∃ p, e = .returned (.tuple #[.pointer (some ⟨p, 0, none⟩), .int .i64 0]) ∧ RDk w' (fun k => w.heap.size ≤ k) p 300 0 ∧ Below w.heap.size w w' := by
 obtain ⟨N, hN⟩ : ∃ N : Nat, N = 300 := ⟨_, rfl⟩
 rw [show (300 : Int) = (N : Int) by omega, ← hN]
 obtain ⟨i0, hi, hz0, hz1, hz2⟩ := info_parts infoBy
 go_enter Tryz.func48, Tryz.ntmps48
 have i1 : ¬ (N : Int) < 128 := by omega
 have i2 : ¬ (4096 : Int) < (N : Int) := by omega
 go_upto_region 4 with fail
 have hst : Strc (w.alloc (.cells #[.slice none 0 0, .slice none 0 0, .int .i64 0] 176)) w.heap.size 176 [.slice none 0 0, .slice none 0 0, .int .i64 0] := alloc_last w _
 have hr : RDkB (w.alloc (.cells #[.slice none 0 0, .slice none 0 0, .int .i64 0] 176)) w.heap.size w.heap.size 0 0 := ⟨.slice none 0 0, .slice none 0 0, 0, [], [], hst, Nat.le_refl _, own_nil _ _ _ _, by simp, own_nil _ _ _ _, by simp, by simp⟩
 have hb := below_alloc (Below.refl w.heap.size w) (.cells #[.slice none 0 0, .slice none 0 0, .int .i64 0] 176)
 generalize w.alloc (.cells #[.slice none 0 0, .slice none 0 0, .int .i64 0] 176) = w1 at hr hb ⊢
 obtain ⟨p, hp⟩ : ∃ p, w.heap.size = p := ⟨_, rfl⟩
 have HR := Aside0.mk hr
 have HB := Aside0.mk hb
 have HP := Aside0.mk hp
 have hrp : RDkB w1 w.heap.size p 0 0 := by rw [hp] at hr ⊢; exact hr
 have HRP := Aside0.mk hrp
 rw [hp]
 clear hst hr hb hrp hp
 go_wp2
 go_loopg [5] N (fun g i wr => ∃ k : Nat, k + g = N ∧ i = .int .i64 k ∧ Aside0 (RDkB wr w.heap.size p k 0) ∧ Aside0 (Below w.heap.size w wr))
 case atStart => exact ⟨0, by omega, rfl, HRP, HB⟩
 case round =>
  obtain ⟨k, hk, rfl, HR, HB⟩ := hrel
  cases gk with
  | zero =>
   obtain rfl : k = N := by omega
   go_wp2
   go_ret2
   exact ⟨p, rfl, HR.out.to, HB.out⟩
  | succ g =>
   have i3 : (k : Int) < (N : Int) := by omega
   obtain ⟨Lv, Pv, kk, cs, ps, hst, hbp, hL, hcs, hP, hps, hpb⟩ := HR.out
   have hk0 := hst.cell 0 Lv rfl
   have hpl := hst.lt
   have HH := Aside0.mk (And.intro hst (And.intro hbp (And.intro hL (And.intro hcs (And.intro hP (And.intro hps hpb))))))
   clear hst hbp hL hcs hP hps hpb
   go_upto_region 7 with fail
   have hmk : ∀ w : World, (Instr.makeSlice 23 (.int .i64 256) (.int .i64 256)).run Tryz.prog w = .ok (.slice (some ⟨w.heap.size, 0, none⟩) 256 256) (noughts w) := make256
   refine wp_region_in [0, 0, 0, 0, 1, 2, 2, 2, 0, 0, 3] [10] (fun W => W.cell? ⟨p, 0, none⟩ = some Lv) (by kernel_rfl) rfl (by kernel_rfl) (fun _ _ _ _ h => h) hk0 ?_
   iterate 5 (first
    | (refine in_off0 (by rfl) ?_; simp only [Act.put, stA, stZ, stS, i64_w, i32_w])
    | (refine in_off1 (by rfl) ?_; simp only [Act.put, stA, stZ, stS, i64_w, i32_w])
    | (refine in_0 (v := ?_) (by rfl) rfl ?_ (a' := ?_) ?_ ?_; rotate_left; (intro w'; go_simp; with_reducible rfl); rotate_left; (simp only [Act.put, stA, stZ, stS, i64_w, i32_w]; rfl))
    | (refine in_1 (v := ?_) (by rfl) rfl ?_ (a' := ?_) ?_ ?_; rotate_left; (rintro w' hs; go_split_ands; go_simp; with_reducible rfl); rotate_left; (simp only [Act.put, stA, stZ, stS, i64_w, i32_w]; rfl)))
   refine in_2 (by rfl) (fun K hK => ?_)
   unfold Oper.wp execOp
   go_simp
   have b1 : Below wr.heap.size wr (noughts wr.drew) := below_alloc ((Below.refl _ _).drew) _
   refine hK _ _ (pw_cell_below b1 hk0) ?_
   clear hK K
   try simp only [Act.put, stA, stZ, stS, i64_w, i32_w]
   have hz : wr.drew.heap.size = wr.heap.size := rfl
   obtain ⟨wa, hwa⟩ : ∃ wa, noughts wr.drew = wa := ⟨_, rfl⟩
   rw [hwa] at b1 ⊢
   refine in_2 (by rfl) (fun K hK => ?_)
   unfold Oper.wp execOp
   go_simp
   have b2 : Below wr.heap.size wr (wa.alloc (.cells #[.slice (some ⟨wr.heap.size, 0, none⟩) 256 256] 23)) := below_alloc b1 _
   have hx := alloc_last wa (.cells #[.slice (some ⟨wr.heap.size, 0, none⟩) 256 256] 23)
   refine hK _ _ (pw_cell_below b2 hk0) ?_
   clear hK K
   try simp only [Act.put, stA, stZ, stS, i64_w, i32_w]
   obtain ⟨wb, hwb⟩ : ∃ wb, wa.alloc (.cells #[.slice (some ⟨wr.heap.size, 0, none⟩) 256 256] 23) = wb := ⟨_, rfl⟩
   rw [hwb] at b2 hx ⊢
   have hLb := pw_own_below HH.out.2.2.1 b2
   have hstb := HH.out.1.below b2
   have hPb := pw_own_below HH.out.2.2.2.2.1 b2
   have hbw : w.heap.size ≤ wb.heap.size := Nat.le_trans HB.out.size b2.size
   refine in_2 (by rfl) (fun K hK => ?_)
   refine wp_append_own _ (.tmp 23) (.tmp 25) 148 rfl w.heap.size 23 i0 (.slice none 0 0) 1 24 Tryz.underlying148 hi hz0 hz1 hz2 rfl (by decide) Lv k cs rfl hLb ⟨wa.heap.size, 0, none⟩ 1 1 [.slice (some ⟨wr.heap.size, 0, none⟩) 256 256] rfl rfl (fun j u hj => ?_) (fun u hu => ?_) (by simp only [maxLen]; omega) (by omega) hbw ?_
   ·rw [add_plain]
    simpa [World.cell?, hx] using hj
   ·simp only [List.mem_cons, List.not_mem_nil, or_false] at hu
    subst hu
    rfl
   intro v' w4 h4 hg4 _
   obtain ⟨A', c', rfl, _, _⟩ := own_shape h4
   have hm4 := mod_grown hg4
   have hst4 := hstb.mod hm4 (not_strc hLb hstb (by decide))
   have hP4 := own_mod hPb hm4 (fun g hg => own_apart hPb hLb (by decide) g hg)
   have hk4 := hst4.cell 0 Lv rfl
   have hf4 := hst4.free 0
   have hb4 : Below w.heap.size w w4 := pw_below_grown (below_then HB.out HB.out.size b2) _ hbw hg4 (own_base HH.out.2.2.1)
   refine hK _ _ hk4 ?_
   clear hK K
   try simp only [Act.put, stA, stZ, stS, i64_w, i32_w]
   iterate 2 (first
    | (refine in_off0 (by rfl) ?_; simp only [Act.put, stA, stZ, stS, i64_w, i32_w])
    | (refine in_off1 (by rfl) ?_; simp only [Act.put, stA, stZ, stS, i64_w, i32_w])
    | (refine in_0 (v := ?_) (by rfl) rfl ?_ (a' := ?_) ?_ ?_; rotate_left; (intro w'; go_simp; with_reducible rfl); rotate_left; (simp only [Act.put, stA, stZ, stS, i64_w, i32_w]; rfl))
    | (refine in_1 (v := ?_) (by rfl) rfl ?_ (a' := ?_) ?_ ?_; rotate_left; (rintro w' hs; go_split_ands; go_simp; with_reducible rfl); rotate_left; (simp only [Act.put, stA, stZ, stS, i64_w, i32_w]; rfl)))
   refine in_3 (by rfl) (fun K hK => ?_)
   unfold Oper.wp execOp
   go_simp
   have hm5 : Mod w4 (w4.setCell ⟨p, 0, none⟩ (.slice A' (k + 1) c')) (· = p) := (Mod.refl w4 (· = p)).set_own 0 _
   have hst5 := hst4.set 0 (.slice A' (k + 1) c')
   refine hK _ _ ?_
   clear hK K
   try simp only [Act.put, stA, stZ, stS, i64_w, i32_w]
   refine out_nil ?_
   have hcs' : ∀ q ∈ cs ++ [.slice (some ⟨wr.heap.size, 0, none⟩) 256 256], q.oneCell' = true := fun q hq => by
    rcases List.mem_append.1 hq with h | h
    ·exact HH.out.2.2.2.1 q h
    ·simp only [List.mem_cons, List.not_mem_nil, or_false] at h
     subst h
     rfl
   have hb5 : Below w.heap.size w (w4.setCell ⟨p, 0, none⟩ (.slice A' (k + 1) c')) := below_mod hb4 hm5 HH.out.2.1
   have hr5 : RDkB (w4.setCell ⟨p, 0, none⟩ (.slice A' (k + 1) c')) w.heap.size p (k + 1) 0 :=
    ⟨_, Pv, kk, _, ps, hst5, HH.out.2.1, own_mod h4 hm5 (fun g hg e => own_not_strc h4 hst4 (by decide) (by rw [hg, e])), hcs', own_mod hP4 hm5 (fun g hg e => own_not_strc hP4 hst4 (by decide) (by rw [hg, e])), HH.out.2.2.2.2.2.1, fun j hj => by omega⟩
   have HR5 := Aside0.mk hr5
   have HB5 := Aside0.mk hb5
   clear hr5 hb5 hcs' hst5 hm5 hb4 hf4 hk4 hP4 hst4 hm4 hg4 h4 hPb hstb hLb hx b2 b1 hwb hwa
   generalize w4.setCell ⟨p, 0, none⟩ (.slice A' (k + 1) c') = w6 at HR5 HB5 ⊢
   go_wp2
   go_roundg g
   case measure => omega
   case rel => exact ⟨k + 1, by omega, by go_num, HR5, HB5⟩
theorem wp_append_at2 {P : Program} {w : World} {o : Oper} {a : Act} {K : Act → World → Prop} {Q : Exit → Act → World → Prop} (s x : Operand) (t : TypeId)
  (ho : o.op = .call { callee := .builtin .append, args := #[s, x], argTypes := #[t, t] })
  (base : Nat) (e : TypeId) (i : TypeInfo) (z : Value) (size bytes : Nat) (ht : P.underlying t = some (.slice e)) (hi : P.info? e = some i) (hz : i.zero = some z)
  (hsize : i.size = size) (hby : i.bytes = bytes) (hzs : z.cells.size = size) (hsz : 0 < size)
  (v : Value) (n : Nat) (xs : List Value) (hs : a.eval s = v) (hown : w.ownsRow base e size v n xs)
  (ad : Addr) (m c : Nat) (news : List Value) (hx : a.eval x = .slice (some ad) m c) (hl : news.length = m * size) (hnews : ∀ j u, news[j]? = some u → w.cell? (ad.add j) = some u) (h1 : ∀ u ∈ news, u.oneCell' = true)
  (h63 : n + m ≤ maxLen) (hbytes : (n + m) * bytes ≤ 140737488355328) (hbase : base ≤ w.heap.size)
  (h : ∀ v' w', w'.ownsRow base e size v' (n + m) (xs ++ news) → w.grownBy w' v.ownBlock → (v'.ownBlock = v.ownBlock ∨ v'.ownBlock = some w.heap.size) → K (a.put o.dst v') w') : o.wp P a w K Q := by
 obtain ⟨v', w', hr, h2, h3, h4, h5⟩ := run_append_own_at (P := P) w base t o.type e i z size bytes ht hi hz hsize hby hzs hsz v n xs hown ad m c news hl hnews h1 h63 hbytes hbase
 unfold Oper.wp execOp
 simp only [ho, resolve, invoke, builtin, Sem.run_bind, Sem.run_pure, Result.andThen_ok, List.map_toArray, List.map_cons, List.map_nil, hs, hx, hr]
 exact h v' w' h2 h3 h5
def RWPost (D : Nat → Prop) (p N m : Nat) (w : World) (e : Ending) (w' : World) : Prop := ∃ D' x m', e = .returned (.int .i64 x) ∧ m' ≤ m + 1 ∧ RDk w' D' p N m' ∧ (∀ k, D' k → D k ∨ w.heap.size ≤ k) ∧ Mod w w' D
set_option maxHeartbeats 4000000 in
set_option maxRecDepth 100000 in
theorem rwrite2_calls {D : Nat → Prop} {p N m : Nat} (n : Nat) (A : Option Addr) (c : Nat) (b : List Int) (w : World) (h : RDk w D p N m) (hm : m ≤ 100000) (hN : N ≤ 100000) (hn : n < N) (hb : Kd.C (Kd.int .u8) w A b.length b) (hnil : A = none → c = 0) (hl : b.length ≤ 1000) :
  Calls Tryz.prog 113 #[.pointer (some ⟨p, 0, none⟩), .int .i64 n, .slice A b.length c] w (RWPost D p N m w) := by
 obtain ⟨i0, hi, hz0, hz1, hz2⟩ := info_parts infoWr
 obtain ⟨Lv, Pv, kk, cs, ps, hst, hbp, hL, hcs, hP, hps, hpb⟩ := h
 obtain ⟨LA, Lc, rfl, _, _⟩ := own_shape hL
 have hk0 := hst.cell 0 _ rfl
 have hk1 := hst.cell 1 Pv rfl
 have hpl := hst.lt
 have HH := Aside0.mk (And.intro hst (And.intro hbp (And.intro hL (And.intro hcs (And.intro hP (And.intro hps hpb))))))
 have HCP := Aside0.mk (fun (W : World) (hW : Below w.heap.size w W) => rcopied_calls A c b W (Kd.C_below hb hW) hnil (by omega))
 obtain ⟨bl, hbl⟩ : ∃ bl, b.length = bl := ⟨_, rfl⟩
 rw [hbl] at HCP hl ⊢
 have HBL := Aside0.mk hbl
 clear hst hbp hL hcs hP hps hpb hb hnil hbl
 have i1 : ¬ (n : Int) < 0 := by omega
 have i2 : ¬ (N : Int) ≤ (n : Int) := by omega
 go_enter Tryz.func113, Tryz.ntmps113
 by_cases h256 : bl = 256
 ·subst h256
  go_upto_region 5 with fail
  refine wp_region_in [0, 0, 0, 0, 1, 0, 0, 2, 0, 2, 2, 0, 0, 3] [13] (fun W => W.cell? ⟨p, 1, none⟩ = some Pv) (by kernel_rfl) rfl (by kernel_rfl) (fun _ _ _ _ h => h) hk1 ?_
  iterate 7 (first
   | (refine in_off0 (by rfl) ?_; simp only [Act.put, stA, stZ, stS, i64_w, i32_w])
   | (refine in_off1 (by rfl) ?_; simp only [Act.put, stA, stZ, stS, i64_w, i32_w])
   | (refine in_0 (v := ?_) (by rfl) rfl ?_ (a' := ?_) ?_ ?_; rotate_left; (intro w'; go_simp; with_reducible rfl); rotate_left; (simp only [Act.put, stA, stZ, stS, i64_w, i32_w]; rfl))
   | (refine in_1 (v := ?_) (by rfl) rfl ?_ (a' := ?_) ?_ ?_; rotate_left; (rintro w' hs; go_split_ands; go_simp; with_reducible rfl); rotate_left; (simp only [Act.put, stA, stZ, stS, i64_w, i32_w]; rfl)))
  refine in_2 (by rfl) (fun K hK => ?_)
  go_simp
  with_reducible refine (HCP.out _ ((Below.refl _ _).drew)).mono ?_
  rintro e w1 ⟨v1, rfl, ho1, hb1⟩
  obtain ⟨A1, c1, rfl, _, _⟩ := ho1.reads
  rw [HBL.out]
  dsimp only
  have b1 : Below w.heap.size w w1 := below_then ((Below.refl w.heap.size w).drew) (Nat.le_refl _) hb1
  have hst1 := HH.out.1.below b1
  refine hK _ _ (hst1.cell 1 Pv rfl) ?_
  clear hK K
  try simp only [Act.put, stA, stZ, stS, i64_w, i32_w]
  iterate 1 (first
   | (refine in_off0 (by rfl) ?_; simp only [Act.put, stA, stZ, stS, i64_w, i32_w])
   | (refine in_off1 (by rfl) ?_; simp only [Act.put, stA, stZ, stS, i64_w, i32_w])
   | (refine in_0 (v := ?_) (by rfl) rfl ?_ (a' := ?_) ?_ ?_; rotate_left; (intro w'; go_simp; with_reducible rfl); rotate_left; (simp only [Act.put, stA, stZ, stS, i64_w, i32_w]; rfl))
   | (refine in_1 (v := ?_) (by rfl) rfl ?_ (a' := ?_) ?_ ?_; rotate_left; (rintro w' hs; go_split_ands; go_simp; with_reducible rfl); rotate_left; (simp only [Act.put, stA, stZ, stS, i64_w, i32_w]; rfl)))
  refine in_2 (by rfl) (fun K hK => ?_)
  unfold Oper.wp execOp
  go_simp
  have b2 : Below w.heap.size w (w1.alloc (.cells #[.int .i64 n, .slice A1 256 c1] 207)) := below_alloc b1 _
  have hx := alloc_last w1 (.cells #[.int .i64 n, .slice A1 256 c1] 207)
  have hst2 := HH.out.1.below b2
  refine hK _ _ (hst2.cell 1 Pv rfl) ?_
  clear hK K
  try simp only [Act.put, stA, stZ, stS, i64_w, i32_w]
  have hn1 : w1.heap.size < (w1.alloc (.cells #[.int .i64 n, .slice A1 256 c1] 207)).heap.size := lt_of_obj hx
  obtain ⟨wb, hwb⟩ : ∃ wb, w1.alloc (.cells #[.int .i64 n, .slice A1 256 c1] 207) = wb := ⟨_, rfl⟩
  rw [hwb] at b2 hx hst2 hn1 ⊢
  have hLb := pw_own_below HH.out.2.2.1 b2
  have hPb := pw_own_below HH.out.2.2.2.2.1 b2
  have hbw : 0 ≤ wb.heap.size := Nat.zero_le _
  refine in_2 (by rfl) (fun K hK => ?_)
  refine wp_append_at2 (.tmp 25) (.tmp 30) 166 rfl 0 207 i0 (.agg #[.int .i64 0, .slice none 0 0]) 2 32 Tryz.underlying166 hi hz0 hz1 hz2 rfl (by decide) Pv m ps rfl hPb ⟨w1.heap.size, 0, none⟩ 1 1 [.int .i64 n, .slice A1 256 c1] rfl rfl (fun j u hj => ?_) (fun u hu => ?_) (by simp only [maxLen]; omega) (by omega) hbw ?_
  ·rw [add_plain]
   simpa [World.cell?, hx] using hj
  ·simp only [List.mem_cons, List.not_mem_nil, or_false] at hu
   rcases hu with rfl | rfl <;> rfl
  intro v' w4 h4 hg4 hloc
  obtain ⟨A', c', rfl, _, _⟩ := own_shape h4
  have hm4 := mod_grown hg4
  have hst4 := hst2.mod hm4 (not_strc hPb hst2 (by decide))
  have hL4 := own_mod hLb hm4 (fun g hg => own_apart hLb hPb (by decide) g hg)
  have hb4 : Mod w w4 D := Mod.trans (Mod.of_below b2 D) hm4 (fun k _ e => HH.out.2.1.2.2 k e)
  have hD4 : ∀ k, (Value.slice A' (m + 1) c').ownBlock = some k → D k ∨ w.heap.size ≤ k := fun k hk => by
   rcases hloc with e | e
   ·exact .inl (HH.out.2.1.2.2 k (e.symm.trans hk))
   ·rw [hk] at e
    have : k = wb.heap.size := Option.some.inj e
    exact .inr (by have := b2.size; omega)
  have HD4 := Aside0.mk hD4
  refine hK _ _ (hst4.cell 1 Pv rfl) ?_
  clear hK K
  try simp only [Act.put, stA, stZ, stS, i64_w, i32_w]
  iterate 2 (first
   | (refine in_off0 (by rfl) ?_; simp only [Act.put, stA, stZ, stS, i64_w, i32_w])
   | (refine in_off1 (by rfl) ?_; simp only [Act.put, stA, stZ, stS, i64_w, i32_w])
   | (refine in_0 (v := ?_) (by rfl) rfl ?_ (a' := ?_) ?_ ?_; rotate_left; (intro w'; go_simp; with_reducible rfl); rotate_left; (simp only [Act.put, stA, stZ, stS, i64_w, i32_w]; rfl))
   | (refine in_1 (v := ?_) (by rfl) rfl ?_ (a' := ?_) ?_ ?_; rotate_left; (rintro w' hs; go_split_ands; go_simp; with_reducible rfl); rotate_left; (simp only [Act.put, stA, stZ, stS, i64_w, i32_w]; rfl)))
  have hk4 := hst4.cell 1 Pv rfl
  have hf4 := hst4.free 1
  refine in_3 (by rfl) (fun K hK => ?_)
  unfold Oper.wp execOp
  go_simp
  have hm5 : Mod w4 (w4.setCell ⟨p, 1, none⟩ (.slice A' (m + 1) c')) (· = p) := (Mod.refl w4 (· = p)).set_own 1 _
  have hst5 := hst4.set 1 (.slice A' (m + 1) c')
  refine hK _ _ ?_
  clear hK K
  try simp only [Act.put, stA, stZ, stS, i64_w, i32_w]
  refine out_nil ?_
  have hL5 := own_mod hL4 hm5 (fun g hg e => own_not_strc hL4 hst4 (by decide) (by rw [hg, e]))
  have hP5 := own_mod h4 hm5 (fun g hg e => own_not_strc h4 hst4 (by decide) (by rw [hg, e]))
  have hb5 : Mod w (w4.setCell ⟨p, 1, none⟩ (.slice A' (m + 1) c')) D := hb4.setCell (p := ⟨p, 1, none⟩) (fun _ => HH.out.2.1.1) _
  clear hm5 hk4 hf4
  generalize w4.setCell ⟨p, 1, none⟩ (.slice A' (m + 1) c') = w5 at hst5 hL5 hP5 hb5 ⊢
  have hk5 := hst5.cell 2 (.int .i64 kk) rfl
  have hf5 := hst5.free 2
  have H5 := Aside0.mk (And.intro hst5 (And.intro hL5 (And.intro hP5 hb5)))
  clear hst5 hL5 hP5 hb5 hst4 hL4 hb4 hD4 hm4 hg4 h4 hloc hLb hPb hst2 hx b2 hwb hst1 b1 hb1 ho1 hk1 hk0
  go_wp2
  go_ret
  obtain ⟨x, hx⟩ : ∃ x, wrap64 (kk + 1) = x := ⟨_, rfl⟩
  rw [hx]
  have hm6 : Mod w5 (w5.setCell ⟨p, 2, none⟩ (.int .i64 x)) (· = p) := (Mod.refl w5 (· = p)).set_own 2 _
  have hpl0 : ps.length = m * 2 := HH.out.2.2.2.2.1.1
  refine ⟨fun k => D k ∨ w.heap.size ≤ k, 0, m + 1, rfl, Nat.le_refl _, ⟨_, _, x, cs, _, H5.out.1.set 2 (.int .i64 x), ⟨.inl HH.out.2.1.1, fun k hk => .inl (HH.out.2.1.2.1 k hk), HD4.out⟩, own_mod H5.out.2.1 hm6 (fun g hg e => own_not_strc H5.out.2.1 H5.out.1 (by decide) (by rw [hg, e])), HH.out.2.2.2.1, own_mod H5.out.2.2.1 hm6 (fun g hg e => own_not_strc H5.out.2.2.1 H5.out.1 (by decide) (by rw [hg, e])), fun q hq => ?_, fun j hj => ?_⟩, fun k hk => hk, H5.out.2.2.2.setCell (p := ⟨p, 2, none⟩) (fun _ => HH.out.2.1.1) _⟩
  ·rcases List.mem_append.1 hq with h | h
   ·exact HH.out.2.2.2.2.2.1 q h
   ·simp only [List.mem_cons, List.not_mem_nil, or_false] at h
    rcases h with rfl | rfl <;> rfl
  ·by_cases hjm : j < m
   ·obtain ⟨y, yA, yn, yc, hy1, hy2, hy3⟩ := HH.out.2.2.2.2.2.2 j hjm
    exact ⟨y, yA, yn, yc, hy1, by rw [List.getElem?_append_left (by omega)]; exact hy2, by rw [List.getElem?_append_left (by omega)]; exact hy3⟩
   ·obtain rfl : j = m := by omega
    exact ⟨n, A1, 256, c1, hn, by rw [List.getElem?_append_right (by omega), hpl0, Nat.sub_self]; rfl, by rw [List.getElem?_append_right (by omega), hpl0, show j * 2 + 1 - j * 2 = 1 by omega]; rfl⟩
 ·have hne : ((bl : Int) != 256) = true := by rw [bne_iff_ne]; omega
  have hne' : ¬ ((bl : Int) = 256) := by omega
  go_wp2
  go_ret
  exact ⟨D, 22, m, rfl, Nat.le_succ _, ⟨_, Pv, kk, cs, ps, HH.out.1, HH.out.2.1, HH.out.2.2.1, HH.out.2.2.2.1, HH.out.2.2.2.2.1, HH.out.2.2.2.2.2.1, HH.out.2.2.2.2.2.2⟩, fun k hk => .inl hk, Mod.refl _ _⟩
def BRow (w : World) (g : Nat) (bs : List Bool) : Prop := ∃ rest : List Value, w.heap[g]? = some (.cells (bs.map Value.bool ++ rest).toArray 4 (0, 0))
theorem BRow.lt {w : World} {g : Nat} {bs : List Bool} (h : BRow w g bs) : g < w.heap.size := h.elim fun _ h => lt_of_obj h
theorem BRow.below {w w1 : World} {g : Nat} {bs : List Bool} (h : BRow w g bs) (hb : Below w.heap.size w w1) : BRow w1 g bs := h.elim fun r h' => ⟨r, (hb.block g (lt_of_obj h')).trans h'⟩
theorem BRow.cell {w : World} {g : Nat} {bs : List Bool} (h : BRow w g bs) (j : Nat) (hj : j < bs.length) : w.cell? ⟨g, j, none⟩ = some (.bool (bs.getD j false)) := by
 obtain ⟨r, h⟩ := h
 rw [cell_of_obj h, List.getElem?_append_left (by simpa using hj), List.getElem?_map, List.getElem?_eq_getElem hj]
 simp [List.getD_eq_getElem?_getD, hj]
theorem BRow.free {w : World} {g : Nat} {bs : List Bool} (h : BRow w g bs) (j : Nat) : w.frozen? ⟨g, j, none⟩ = false := h.elim fun _ h => free_of_obj h j
theorem BRow.set {w : World} {g : Nat} {bs : List Bool} (h : BRow w g bs) (j : Nat) (x : Bool) (hj : j < bs.length) : BRow (w.setCell ⟨g, j, none⟩ (.bool x)) g (bs.set j x) := by
 obtain ⟨r, h⟩ := h
 refine ⟨r, ?_⟩
 unfold World.setCell
 simp only [Array.getElem?_modify, if_true, h, Option.map_some]
 simp [List.map_set, List.set_append, hj]
def boTo (z : List Int) (bs : List Bool) : Nat → List Int
 | 0 => z
 | k + 1 => if bs.getD k false = true then orBit (boTo z bs k) k else boTo z bs k
theorem boTo_length (z : List Int) (bs : List Bool) (k : Nat) : (boTo z bs k).length = z.length := by
 induction k with
 | zero => rfl
 | succ k ih =>
  rw [boTo]
  split
  ·unfold orBit; rw [List.length_set, ih]
  ·exact ih
theorem boTo_allB {z : List Int} (h : allB z) (bs : List Bool) (k : Nat) : allB (boTo z bs k) := by
 induction k with
 | zero => exact h
 | succ k ih =>
  rw [boTo]
  split
  ·exact allB_set ih _ _ (bits_u8 _ _ _)
  ·exact ih
def boB (bs : List Bool) (s : Int) : List Int := sealL (boTo (List.replicate 256 0) bs bs.length) s
theorem boB_ok (bs : List Bool) (s : Int) : (boB bs s).length = 256 ∧ allB (boB bs s) := by
 unfold boB
 refine ⟨?_, allB_seal (boTo_allB (fun x hx => by rw [List.eq_of_mem_replicate hx]; omega) _ _) s⟩
 unfold sealL
 rw [layL_length, boTo_length, List.length_replicate]
set_option maxHeartbeats 2000000 in
set_option maxRecDepth 100000 in
theorem rbytes_calls (gb c : Nat) (bs : List Bool) (s : Int) (w : World) (hb : BRow w gb bs) (hn : bs.length ≤ 2016) (hs0 : 0 ≤ s) (hs1 : s < 4294967296) :
  Calls Tryz.prog 179 #[.slice (some ⟨gb, 0, none⟩) bs.length c, .int .u32 s] w fun e w' => ∃ g, e = .returned (.slice (some ⟨g, 0, none⟩) 256 256) ∧ w.heap.size ≤ g ∧ Row w' .u8 g 5 (boB bs s) ∧ Below w.heap.size w w' := by
 have hmk : ∀ w : World, (Instr.makeSlice 23 (.int .i64 256) (.int .i64 256)).run Tryz.prog w = .ok (.slice (some ⟨w.heap.size, 0, none⟩) 256 256) (noughts w) := make256
 have HN := Aside0.mk (show Row (noughts w) .u8 w.heap.size 5 (List.replicate 256 0) from row_last _ _ _ _)
 have HB := Aside0.mk (show Below w.heap.size w (noughts w) from below_alloc (Below.refl _ _) _)
 have HBB := Aside0.mk hb
 have hab : allB (List.replicate 256 (0 : Int)) := fun x hx => by rw [List.eq_of_mem_replicate hx]; omega
 have hgb := hb.lt
 obtain ⟨m, hm⟩ : ∃ m, bs.length = m := ⟨_, rfl⟩
 have HM := Aside0.mk hm
 rw [hm] at hn ⊢
 clear hb hm
 go_enter Tryz.func179, Tryz.ntmps179
 go_wp2
 obtain ⟨g0, hg0⟩ : ∃ g, w.heap.size = g := ⟨_, rfl⟩
 have hgs : w.heap.size ≤ g0 := by omega
 rw [show (⟨w.heap.size, 0, none⟩ : Addr) = ⟨g0, 0, none⟩ by rw [hg0]]
 rw [hg0] at HN
 have HG0 := Aside0.mk hg0
 clear hg0
 generalize noughts w = w1 at HN HB ⊢
 obtain ⟨z, hz⟩ : ∃ z, List.replicate 256 (0 : Int) = z := ⟨_, rfl⟩
 have hzl : z.length = 256 := by rw [← hz]; simp
 rw [hz] at HN hab
 have HZ := Aside0.mk hz
 have HZL := Aside0.mk hzl
 have HAB := Aside0.mk hab
 clear hz hzl hab hmk
 go_loopg [6] m (fun g i wr => ∃ k : Nat, k + g = m ∧ i = .int .i64 (k : Nat) ∧ Aside0 (Row wr .u8 g0 5 (boTo z bs k)) ∧ Aside0 (Below w.heap.size w wr))
 case atStart => exact ⟨0, by omega, rfl, HN, HB⟩
 case round =>
  obtain ⟨k, hk, rfl, HR, HBr⟩ := hrel
  have hlen := boTo_length z bs k
  cases gk with
  | zero =>
   have hr := HR.out
   obtain rfl : k = m := by omega
   have hsc := rseal_calls g0 252 256 s wr _ hr (by rw [boTo_length, HZL.out]) (by omega) (by omega) hs0 hs1 (boTo_allB HAB.out _ _)
   have HSC := Aside0.mk hsc
   clear hr hsc hlen
   go_wp2_with fail
   refine HSC.out.mono ?_
   rintro e w2 ⟨rfl, hr2, hm2⟩
   dsimp only
   go_wp2
   go_ret
   refine ⟨g0, rfl, hgs, ?_, below_mod HBr.out hm2 hgs⟩
   unfold boB
   rw [HZ.out, HM.out]
   exact hr2
  | succ g =>
   have hlt : k < m := by omega
   have hki : (k : Int) < (m : Int) := by omega
   have hk2016 : k < 2016 := by omega
   have hcb := (HBB.out.below HBr.out).cell k (by rw [HM.out]; exact hlt)
   have hnext : boTo z bs (k + 1) = if bs.getD k false = true then orBit (boTo z bs k) k else boTo z bs k := rfl
   obtain ⟨bb, hbb⟩ : ∃ bb, bs.getD k false = bb := ⟨_, rfl⟩
   rw [hbb] at hcb hnext
   cases bb with
   | false =>
    rw [if_neg (by simp)] at hnext
    have HNX := Aside0.mk hnext
    clear hnext hbb hlen
    go_wp2
    go_roundg g
    case measure => omega
    case rel => exact ⟨k + 1, by omega, by go_num, ⟨by rw [HNX.out]; exact HR.out⟩, HBr⟩
   | true =>
    rw [if_pos rfl] at hnext
    unfold orBit at hnext
    obtain ⟨q, hq⟩ : ∃ q, k / 8 = q := ⟨_, rfl⟩
    obtain ⟨r, hrr⟩ : ∃ r, k % 8 = r := ⟨_, rfl⟩
    have hr8 : r < 8 := by omega
    have HW := Aside0.mk (And.intro (w64 (x := (k : Int) / 8) (n := q) (by omega) (by omega)) (show (k : Int).tmod 8 = (r : Int) by rw [Int.tmod_eq_emod_of_nonneg (by omega)]; omega))
    have hpw := pow_wrap r hr8
    have i2 : q < 256 := by omega
    have i1 : (q : Int) < 256 := by omega
    rw [hq, hrr] at hnext
    have hc := HR.out.cell q (by rw [hlen, HZL.out]; omega)
    have hz0 := HR.out.free q
    have hset := HR.out.set q (Go.bits .or .u8 ((boTo z bs k).getD q 0) (2 ^ r))
    rw [← hnext] at hset
    have hx1 := allB_get (boTo_allB HAB.out bs k) q
    generalize (boTo z bs k).getD q 0 = x at hc hset hx1
    have HSET := Aside0.mk hset
    have hbs := below_set_new HBr.out hgs q (.int .u8 (Go.bits .or .u8 x (2 ^ r)))
    have HBS := Aside0.mk hbs
    clear hset hnext hlen hbs hq hrr hbb
    go_wp2
    obtain ⟨hw1, hw3⟩ := HW.out
    refine wp_region_in [0, 0, 0, 0, 0, 0, 0, 1, 0, 0, 0, 0, 0, 3] [13] (fun w' => w'.cell? ⟨g0, q, none⟩ = some (.int .u8 x) ∧ w'.frozen? ⟨g0, q, none⟩ = false) (by kernel_rfl) rfl (by kernel_rfl) (fun _ _ _ _ h => h) ⟨hc, hz0⟩ ?_
    iterate 13 (first
     | (refine in_off0 (by rfl) ?_; simp only [Act.put, stA, stZ, stS, i64_w, i32_w])
     | (refine in_off1 (by rfl) ?_; simp only [Act.put, stA, stZ, stS, i64_w, i32_w])
     | (refine in_0 (v := ?_) (by rfl) rfl ?_ (a' := ?_) ?_ ?_; rotate_left; (intro w'; go_simp; with_reducible rfl); rotate_left; (simp only [Act.put, stA, stZ, stS, i64_w, i32_w]; rfl))
     | (refine in_1 (v := ?_) (by rfl) rfl ?_ (a' := ?_) ?_ ?_; rotate_left; (rintro w' hs; go_split_ands; go_simp; with_reducible rfl); rotate_left; (simp only [Act.put, stA, stZ, stS, i64_w, i32_w]; rfl)))
    refine in_3 (by rfl) (fun K hK => ?_)
    go_simp
    refine hK _ _ ?_
    clear hK K
    try simp only [Act.put, stA, stZ, stS, i64_w, i32_w]
    refine out_nil ?_
    clear hw1 hw3 hc hz0 hcb
    go_wp2
    go_roundg g
    case measure => omega
    case rel => exact ⟨k + 1, by omega, by go_num, ⟨HSET.out⟩, ⟨HBS.out.drew⟩⟩
set_option maxHeartbeats 1000000 in
set_option maxRecDepth 100000 in
theorem rset_calls (A : Option Addr) (c : Nat) (b : List Int) (i : Int) (w : World) (hb : Kd.C (Kd.int .u8) w A b.length b) (hab : allB b) (h0 : -9223372036854775808 ≤ i) (h1 : i ≤ 9223372036854775807) :
  Calls Tryz.prog 142 #[.slice A b.length c, .int .i64 i] w fun e w' => e = .returned (.bool (setI b i)) ∧ w = w' := by
 have hm := (C_int_len hb).2
 by_cases c0 : i < 0
 ·have e : setI b i = true := by unfold setI; rw [if_pos (.inl c0)]
  rw [e]
  clear hb hab e
  go_enter Tryz.func142, Tryz.ntmps142
  go_wp2
  go_ret
  exact ⟨rfl, rfl⟩
 ·by_cases c1 : 2016 ≤ i
  ·have e : setI b i = true := by unfold setI; rw [if_pos (.inr (.inl c1))]
   rw [e]
   clear hb hab e
   go_enter Tryz.func142, Tryz.ntmps142
   go_wp2
   go_ret
   exact ⟨rfl, rfl⟩
  ·obtain ⟨n, rfl⟩ : ∃ n : Nat, i = n := ⟨i.toNat, by omega⟩
   by_cases c2 : (b.length : Int) ≤ (n : Int) / (8 : Int)
   ·have e : setI b n = true := by unfold setI; rw [if_pos (.inr (.inr c2))]
    rw [e]
    clear hb hab e
    go_enter Tryz.func142, Tryz.ntmps142
    go_wp2
    go_ret
    exact ⟨rfl, rfl⟩
   ·have e : setI b n = bitB b n := by unfold setI; rw [if_neg (by rintro (h | h | h); exact c0 h; exact c1 h; exact c2 h), Int.toNat_natCast]
    rw [e]
    obtain ⟨ad, rfl, hx⟩ := C_int_at hb (n / 8) (by omega)
    have hx1 := allB_get hab (n / 8)
    have hbb : bitB b n = ((b.getD (n / 8) 0 / 2 ^ (n % 8)) % 2 == 1) := rfl
    rw [hbb]
    generalize b.getD (n / 8) 0 = x at hx hx1
    obtain ⟨r, hr⟩ : ∃ r, n % 8 = r := ⟨_, rfl⟩
    rw [hr]
    have hr8 : r < 8 := by omega
    have hrt : (n : Int).tmod 8 = (r : Int) := by rw [Int.tmod_eq_emod_of_nonneg (by omega)]; omega
    have hre : (n : Int) % 8 = (r : Int) := by omega
    have i1 : (n : Int) / 8 < (b.length : Int) := by omega
    have i2 : n / 8 < b.length := by omega
    have HR := Aside0.mk hr
    obtain ⟨hx0, hx2⟩ := hx1
    clear hb hab e hbb hr
    go_enter Tryz.func142, Tryz.ntmps142
    go_wp2
    go_loopg [5, 6] r (fun g y i wr => ∃ k : Nat, k + g = r ∧ y = .int .i64 (x / 2 ^ k) ∧ i = .int .i64 k ∧ w = wr)
    case atStart => exact ⟨0, by omega, by simp, rfl, rfl⟩
    case round =>
     obtain ⟨k, hk, rfl, rfl, rfl⟩ := hrel
     have hy0 : 0 ≤ x / 2 ^ k := Int.ediv_nonneg hx0 (Int.pow_nonneg (by omega))
     have hy1 : x / 2 ^ k ≤ x := Int.ediv_le_self _ hx0
     have hs : x / 2 ^ (k + 1) = x / 2 ^ k / 2 := by rw [Int.pow_succ, Int.ediv_ediv_of_nonneg (Int.pow_nonneg (by omega))]
     obtain ⟨y, hy⟩ : ∃ y, x / 2 ^ k = y := ⟨_, rfl⟩
     rw [hy] at hs hy0 hy1 ⊢
     have HS := Aside0.mk hs
     have HY := Aside0.mk hy
     clear hs hy
     cases gk with
     | zero =>
      obtain rfl : k = r := by omega
      go_wp2
      go_ret
      exact ⟨by rw [HY.out]; rfl, rfl⟩
     | succ g =>
      have i3 : (k : Int) < (r : Int) := by omega
      have i4 : k < r := by omega
      go_wp2
      go_roundg g
      case measure => omega
      case rel => exact ⟨k + 1, by omega, by rw [HS.out], by go_num, rfl⟩
end Go.Proofs.YtkmhilhfmfmckaaGreatDoor.Hand
